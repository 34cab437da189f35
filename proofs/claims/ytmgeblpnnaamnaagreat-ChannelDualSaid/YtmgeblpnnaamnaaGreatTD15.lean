/- Merged texts of a claim: SeesCode, DualTop. -/
import Derived.Test.YtmgeblpnnaamnaaGreatTD1
import Derived.Test.YtmgeblpnnaamnaaGreatTD5
import Derived.Test.YtmgeblpnnaamnaaGreatTD14
namespace Go.Proofs.YtmgeblpnnaamnaaGreat
open Go.RowKit
section
variable {H : Type} {enc : TypeId × Value → H} {w : World} {base : Nat} {spare : Nat → Bool} {held : Bool} {cs : List Value}
set_option maxRecDepth 100000 in
theorem sees_code (h : Sees enc Tryz.prog w base spare held 27 cs) :
  ∃ (P M : Int) (A : Option Addr) (k c : Nat) (N : Int) (T : Option Addr) (n d : Nat) (f : Nat → Int) (ln : Nat → Nat) (V : Nat → Nat → Int), cs = [.int .i64 P, .int .i64 M, .slice A k c, .int .i64 N, .slice T n d] ∧
   -9223372036854775808 ≤ N ∧ N ≤ 9223372036854775807 ∧ k ≤ c ∧ c ≤ maxLen ∧ n ≤ d ∧ d ≤ maxLen ∧ IntsR w w.heap.size A k f ∧ IntRows w T n ln V := by
 obtain ⟨hl, _⟩ := sees_struct Tryz.underlying27 h
 match cs, hl.trans (show Tryz.prog.cellsOf 27 = 5 by kernel_rfl) with
 | [c0, c1, c2, c3, c4], _ =>
  have hc : Tryz.prog.cellsOf 3 = 1 := by kernel_rfl
  have hc' : Tryz.prog.cellsOf 22 = 1 := by kernel_rfl
  have hct : Tryz.prog.cellsOf 25 = 1 := by kernel_rfl
  have hcf : Tryz.prog.cellsOf 24 = 3 := by kernel_rfl
  have gf := sees_at Tryz.underlying27 h 0 24 0 3 ⟨_, rfl, rfl, rfl⟩ hcf
  have gN := sees_at Tryz.underlying27 h 1 3 3 1 ⟨_, rfl, rfl, rfl⟩ hc
  have gT := sees_at Tryz.underlying27 h 2 25 4 1 ⟨_, rfl, rfl, rfl⟩ hct
  have g0 := sees_at Tryz.underlying24 gf 0 3 0 1 ⟨_, rfl, rfl, rfl⟩ hc
  have g1 := sees_at Tryz.underlying24 gf 1 3 1 1 ⟨_, rfl, rfl, rfl⟩ hc
  have g2 := sees_at Tryz.underlying24 gf 2 22 2 1 ⟨_, rfl, rfl, rfl⟩ hc'
  obtain ⟨P, hP, _⟩ := sees_int Tryz.underlying3 g0
  obtain ⟨M, hM, _⟩ := sees_int Tryz.underlying3 g1
  obtain ⟨A, k, c, f, hs, k1, k2, hr, _⟩ := sees_ints Tryz.underlying22 Tryz.underlying3 hc g2
  obtain ⟨N, hN, hNw⟩ := sees_int Tryz.underlying3 gN
  obtain ⟨T, n, d, ln, V, hT, k3, k4, hrows⟩ := sees_rows gT
  simp at hP hM hs hN hT
  subst hP hM hs hN hT
  have := wf_i64 hNw
  exact ⟨P, M, A, k, c, N, T, n, d, f, ln, V, rfl, this.1, this.2, k1, k2, k3, k4, hr, hrows⟩
end
theorem channelDual_law {H : Type} {enc : TypeId × Value → H} {w : World} {cs cs' : Array Value}
  (h : Sees enc Tryz.prog w 0 (fun _ => true) true 27 cs.toList) (hx : Sees enc Tryz.prog w 0 (fun _ => true) true 31 cs'.toList) :
  Calls Tryz.prog 3 #[.agg cs, .agg cs'] w fun e w' => e = .returned (.bool true) ∧ Below w.heap.size w w' := by
 obtain ⟨cs⟩ := cs
 obtain ⟨cs'⟩ := cs'
 obtain ⟨P, M, A, k, c, N, T, n, d, f, ln, V, rfl, _, _, _, _, _, _, hr, ht⟩ := sees_code h
 obtain ⟨s, XA, xl, xc, XB, yl, yc, p, rfl, hp⟩ := sees_rat hx
 exact channelDual_any P M A k c N T n d f ln V s XA xl xc XB yl yc p w hr ht hp
end Go.Proofs.YtmgeblpnnaamnaaGreat