/- codewrightref24: All. A field that comes in. -/
import Derived.Test.YtgininddoalenaaSpanB
import Derived.Test.YtgininddoalenaaOpen
namespace Go.Proofs.Ytgininddoalenaa
open Go.RowKit Go.ChangeShapes Go.WideShapes Go.ChangeAt

section
variable {H : Type} {enc : TypeId × Value → H} {w : World} {base : Nat} {spare : Nat → Bool} {held : Bool} {cs : List Value}
set_option maxRecDepth 100000 in
theorem sees_field (h : Sees enc Try.prog w base spare held 29 cs) :
    ∃ (P M : Int) (A : Option Addr) (k c : Nat) (f : Nat → Int), cs = [.int .i64 P, .int .i64 M, .slice A k c] ∧ k ≤ c ∧ c ≤ maxLen ∧ IntsR w w.heap.size A k f := by
  obtain ⟨hl, _⟩ := sees_struct Try.underlying29 h
  match cs, hl.trans (show Try.prog.cellsOf 29 = 3 by kernel_rfl) with
  | [c0, c1, c2], _ =>
    have hc : Try.prog.cellsOf 3 = 1 := by kernel_rfl
    have hc' : Try.prog.cellsOf 27 = 1 := by kernel_rfl
    have g0 := sees_at Try.underlying29 h 0 3 0 1 ⟨_, rfl, rfl, rfl⟩ hc
    have g1 := sees_at Try.underlying29 h 1 3 1 1 ⟨_, rfl, rfl, rfl⟩ hc
    have g2 := sees_at Try.underlying29 h 2 27 2 1 ⟨_, rfl, rfl, rfl⟩ hc'
    obtain ⟨P, hP, _⟩ := sees_int Try.underlying3 g0
    obtain ⟨M, hM, _⟩ := sees_int Try.underlying3 g1
    obtain ⟨A, k, c, f, hs, k1, k2, hr, _⟩ := sees_ints Try.underlying27 Try.underlying3 hc g2
    simp at hP hM hs
    subst hP hM hs
    exact ⟨P, M, A, k, c, f, rfl, k1, k2, hr⟩
end
theorem SpanR.congr {q n : Nat} {add mul : Nat → Nat → Nat} {R R' : Nat → Nat → Nat} : ∀ i N W, (∀ j, j < i → ∀ k, k < n → R j k = R' j k) → SpanR q add mul n R i N W → SpanR q add mul n R' i N W := by
  intro i
  induction i with
  | zero => exact fun _ _ _ h => h
  | succ i ih =>
    rintro N W he (⟨h1, j, hj, hs⟩ | ⟨N0, W0, h1, hnew, hN, hW⟩)
    · exact .inl ⟨ih N W (fun j hj => he j (by omega)) h1, j, hj, fun k hk => by rw [hs k hk, he i (by omega) k hk]⟩
    · refine .inr ⟨N0, W0, ih N0 W0 (fun j hj => he j (by omega)) h1, fun j hj => ?_, hN, fun v hv k hk => by rw [hW v hv k hk, he i (by omega) k hk]⟩
      obtain ⟨k, hk, hne⟩ := hnew j hj
      exact ⟨k, hk, by rw [← he i (by omega) k hk]; exact hne⟩
theorem IntRows.congr {w : World} {T : Option Addr} {N : Nat} {ln : Nat → Nat} {W W' : Nat → Nat → Int} (h : IntRows w T N ln W) (e : ∀ i, i < N → ∀ j, j < ln i → W i j = W' i j) : IntRows w T N ln W' := fun i hi => by
  obtain ⟨b, off, A, c, e1, h1, h2, h3, h4, h5, h6⟩ := h i hi
  exact ⟨b, off, A, c, e1, h1, h2, h3, h4, h5.congr (e i hi), fun j hj => by rw [← e i hi j hj]; exact h6 j hj⟩
/-- All words, in the order of their numbers, or no list. -/
def AllPost (q n : Nat) (w : World) (e : Ending) (w' : World) : Prop :=
  ∃ O N c, e = .returned (.slice O N c) ∧ Below w.heap.size w w' ∧ (N = 0 ∨ (N ≤ 65536 ∧ N = q ^ n ∧ IntRows w' O N (fun _ => n) (fun v k => (dig q v k : Nat))))

set_option maxRecDepth 100000 in
set_option maxHeartbeats 16000000 in
theorem all24_any (P M : Nat) (A : Option Addr) (k c : Nat) (m : Nat → Nat) (n most : Nat) (w : World) (hF : FieldOk P M m) (hm : ModOk w P M A m) (hkM : M = 1 ∨ k = M) (hn : n ≤ 64) (hmost1 : 1 ≤ most) (hmost2 : most ≤ 65536) :
    Calls Try.prog 29 #[.agg #[.int .i64 (P : Nat), .int .i64 (M : Nat), .slice A k c], .int .i64 (n : Nat), .int .i64 (most : Nat)] w (AllPost (P ^ M) n w) := by
  have hLaw := fieldLaws hF
  have hq2 : 2 ≤ P ^ M := hLaw.two
  have HLAW := hid hLaw
  have HF := hid hF
  clear hLaw hF
  have hB : Below w.heap.size w (w.alloc (.cells #[.int .i64 (P : Nat), .int .i64 (M : Nat), .slice A k c] 29)) := (Below.refl _ _).alloc (Nat.le_refl _) _
  have rf := fldBox_row (w := w) (a := .int .i64 (P : Nat)) (b := .int .i64 (M : Nat)) (c := .slice A k c) (T := 29)
  obtain ⟨w0, hw0⟩ : ∃ W, W = w.alloc (.cells #[.int .i64 (P : Nat), .int .i64 (M : Nat), .slice A k c] 29) := ⟨_, rfl⟩
  rw [← hw0] at hB rf
  go_enter Try.func29, Try.ntmps29
  go_upto_region 1 with fail
  rw [← hw0]
  clear hw0
  have hw0 := rf.lt
  obtain ⟨z0, hz0⟩ : ∃ z, z = w0.heap.size := ⟨_, rfl⟩
  have hmk := fun W => run_makeI (P := Try.prog) 27 3 _ 8 Try.underlying27 Try.infoInt rfl (n : Int) (by omega) (by omega) (by omega) W
  simp only [Int.toNat_natCast] at hmk
  have HMK := hid hmk
  clear hmk
  have hT : TabI w0 w0.heap.size (.slice none 0 0) 0 n unitN := TabI.nil _ _ _ _
  have hk0 : Below w0.heap.size w0 w0 := Below.refl _ _
  go_wp2
  go_loopg [7, 8, 9] n (fun gg mv iv _ wx => ∃ (i : Nat) (v : Value), v = mv ∧ iv = .int .i64 (i : Nat) ∧ i ≤ n ∧ n ≤ i + gg ∧ TabI wx w0.heap.size v i n unitN ∧ Below w0.heap.size w0 wx)
  case atStart => exact ⟨0, _, rfl, rfl, by omega, by omega, hT, hk0⟩
  case round =>
    clear hT hk0
    obtain ⟨i, v, rfl, rfl, hi, hig, hT, hk⟩ := hrel
    have hi0 : (0 : Int) ≤ (i : Int) := by omega
    by_cases hlt : i < n
    · have hlt' : (i : Int) < (n : Int) := by omega
      obtain ⟨wj, hwj⟩ : ∃ W, W = wr := ⟨_, rfl⟩
      rw [← hwj] at hT hk ⊢
      clear hwj
      have hmk := HMK.out
      have row := World.rowIs_made wj (.int .i64 0) n 3
      have hB4 : Below wj.heap.size wj (wj.alloc (.cells (madeCells #[.int .i64 0] n) 3)) := (Below.refl _ _).alloc (Nat.le_refl _) _
      go_upto_region 6 with fail
      obtain ⟨w4, hw4⟩ : ∃ W, W = wj.alloc (.cells (madeCells #[.int .i64 0] n) 3) := ⟨_, rfl⟩
      rw [← hw4] at row hB4 ⊢
      clear hw4 hmk
      obtain ⟨gn, hgn⟩ : ∃ g, g = wj.heap.size := ⟨_, rfl⟩
      rw [← hgn] at row ⊢
      have hgB : wj.heap.size ≤ gn := by omega
      clear hgn
      have hsz := hk.size
      have z0' := row.frozen i
      have c0 := row.cell hlt
      have row2 : (w4.setCell ⟨gn, i, none⟩ (.int .i64 1)).rowIs gn 3 n (fun t => .int .i64 (unitN i t : Nat)) := (row.set i _).congr fun t ht => by
        unfold unitN
        by_cases e : t = i
        · rw [if_pos e, if_pos e]; rfl
        · rw [if_neg e, if_neg e]; rfl
      have hB5 := hB4.setCell (p := ⟨gn, i, none⟩) hgB (.int .i64 1)
      have HR := hid row2
      have HB5 := hid hB5
      clear row hB4 row2 hB5
      go_upto_region 7 with fail
      clear z0' c0
      obtain ⟨w5, hw5⟩ : ∃ W, W = w4.setCell ⟨gn, i, none⟩ (.int .i64 1) := ⟨_, rfl⟩
      have row := HR.out
      have hB5 := HB5.out
      rw [← hw5] at row hB5
      rw [← hw5]
      clear hw5 HR HB5
      have hT4 := hT.on hB5
      have hsz5 := hB5.size
      have HT5 := hid (hT4.on (below_one w5 (.cells #[.slice (some ⟨gn, 0, none⟩) n n] 27)))
      have HR5 := hid (rowIs_on row (below_one w5 (.cells #[.slice (some ⟨gn, 0, none⟩) n n] 27)))
      have hcell : Hid ((w5.alloc (.cells #[.slice (some ⟨gn, 0, none⟩) n n] 27)).cell? ⟨w5.heap.size, 0, none⟩ = some (.slice (some ⟨gn, 0, none⟩) n n)) := World.cell?_alloc_at _ _ _ _ rfl
      have HKK := hid ((hk.trans (hB5.mono hsz)).alloc (by omega) (.cells #[.slice (some ⟨gn, 0, none⟩) n n] 27))
      have hgn9 : w0.heap.size ≤ gn := by omega
      clear hT4 row hT hk hB5
      go_wp2_with (first | (at_builtin; (refine wpList_append_row rfl (.tmp 20) (.tmp 22) rfl HT5.out rfl rfl hcell.out HR5.out (by simp; omega) hgn9 (by omega) ?_); intro v' w6 hT6 hk6))
      have hk7 := HKK.out.trans hk6
      have hT7 : TabI w6 w0.heap.size v' (i + 1) n unitN := hT6.congr fun u hu s hs => by
        show (if u = i then unitN i s else unitN u s) = unitN u s
        split
        · rename_i e
          rw [e]
        · rfl
      clear hT6 hk6 HT5 HR5 HKK hcell
      go_wp2
      go_roundg (gk - 1)
      case measure => omega
      case rel => exact ⟨i + 1, v', rfl, by go_num, by omega, by omega, hT7, hk7⟩
    · obtain rfl : i = n := by omega
      have hlt' : ¬ (i : Int) < (i : Int) := by omega
      obtain ⟨O2, c2, rfl, h21, h22, hO2⟩ := hT.rows (by omega) (fun u _ t _ => by unfold unitN; split <;> omega)
      have rf3 := rowIs_on rf hk
      have hB3 := onS hB hk
      clear hT
      have q0 : wr.cell? ⟨w.heap.size, 0, none⟩ = some (.int .i64 (P : Nat)) := rf3.cell (i := 0) (by omega)
      have q1 : wr.cell? ⟨w.heap.size, 1, none⟩ = some (.int .i64 (M : Nat)) := rf3.cell (i := 1) (by omega)
      have q2 : wr.cell? ⟨w.heap.size, 2, none⟩ = some (.slice A k c) := rf3.cell (i := 2) (by omega)
      go_wp2_with fail
      refine (span24_any P M A k c m i O2 i c2 (fun _ => i) (fun u t => (unitN u t : Nat)) most _ HF.out (hm.on hB3) hkM hn hO2 (by omega) hmost1 hmost2).mono ?_
      rintro e w6 ⟨O, N, co, rfl, kb, hN⟩
      have hB6 := onS hB3 kb
      have hfin : Hid (N = 0 ∨ (N ≤ 65536 ∧ N = (P ^ M) ^ i ∧ IntRows w6 O N (fun _ => i) (fun v t => (dig (P ^ M) v t : Nat)))) := by
        rcases hN with h | ⟨W, h1, h2, h3, h4, h5⟩
        · exact .inl h
        · have h6 := SpanR.congr i N W (fun j hj t ht => by
            show rowN (P ^ M) i (fun t => (unitN j t : Nat)) t = unitN j t
            unfold rowN
            rw [if_pos ht]
            exact inV_nat (by unfold unitN; split <;> omega)) h4
          obtain ⟨h7, h8⟩ := SpanR.units HLAW.out i (Nat.le_refl _) N W h6
          exact .inr ⟨by omega, h7, h5.congr fun v hv t ht => by rw [h8 v hv t ht, if_pos ht]⟩
      clear hN kb q0 q1 q2
      go_wp2
      go_ret
      exact ⟨O, N, co, rfl, hB6, hfin.out⟩
end Go.Proofs.Ytgininddoalenaa
