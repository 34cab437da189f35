/- TrellisAccepts returns true. -/
import Derived.Test.YtnocbkhnmdmfhaaRefAcc47
namespace Go.Proofs.Ytnocbkhnmdmfhaa
open Go.RowKit

set_option maxRecDepth 100000 in
set_option maxHeartbeats 4000000 in
theorem trellisAccepts_any (T : Trel) (A B V : Option Addr) (c d m vc : Nat) (a : Nat → Int) (w : World) (h : T.Reads w A B) (hv : IntsR w w.heap.size V m a) (hm : m ≤ 140737488355328) :
    Calls Try.prog 6 #[.agg #[.slice A T.nw c, .slice B T.n d], .slice V m vc] w fun e w' => e = .returned (.bool true) ∧ Below w.heap.size w w' := by
  obtain ⟨RB, hRB⟩ : ∃ o, o = (Obj.cells #[.slice A T.nw c, .slice B T.n d] 25) := ⟨_, rfl⟩
  have hB0 : Below (w.heap.size + 1) (w.alloc RB) (w.alloc RB) := Below.refl _ _
  have HS : Hid (∀ w', Below (w.heap.size + 1) (w.alloc RB) w' → (w'.cell? ⟨w.heap.size, 0, none⟩ = some (.slice A T.nw c) ∧ w'.cell? ⟨w.heap.size, 1, none⟩ = some (.slice B T.n d)) ∧ Below w.heap.size w w') := fun w' hB => by
    have hB' := tbox_below hB
    subst hRB
    exact ⟨⟨tbox hB rfl, tbox hB rfl⟩, hB'⟩
  obtain ⟨⟨p0, p1⟩, hW⟩ := HS.out _ hB0
  have hn47 := h.2.2.2.2.1
  go_enter Try.func6, Try.ntmps6
  go_wp2_with fail
  rw [← hRB]
  refine (fewT_any T A B c d 3000 (by omega) _ (h.on hW)).mono ?_
  rintro e w1 ⟨⟨r, rfl⟩, hb⟩
  have hB1 := tbox_on hB0 hb
  clear hW p0 p1 hb hB0 hRB
  obtain ⟨⟨p0, p1⟩, hW⟩ := HS.out _ hB1
  cases r
  · go_wp2_with fail
    refine (alive47_any _).mono ?_
    rintro e w2 ⟨rfl, hb⟩
    have hW2 := onS hW hb
    clear hb
    go_wp2
    go_ret
    exact ⟨rfl, hW2⟩
  · go_wp2_with fail
    refine (accepts47_any T A B V c d m vc a w1 (h.on hW) (hv.on hW) hm).mono ?_
    rintro e w2 ⟨hb, hpost⟩
    have hB2 := tbox_on hB1 hb
    clear hW p0 p1 hb hB1
    obtain ⟨⟨p0, p1⟩, hW⟩ := HS.out _ hB2
    rcases hpost with ⟨hp, rfl⟩ | ⟨hp, hmn, rfl⟩ | ⟨hp, hmn, rfl⟩
    · go_wp2_with fail
      refine (refProper_any T A B c d _ (h.on hW)).mono ?_
      rintro e w3 ⟨rfl, hb⟩
      have hB3 := tbox_on hB2 hb
      clear hW p0 p1 hb hB2
      obtain ⟨⟨p0, p1⟩, hW⟩ := HS.out _ hB3
      obtain ⟨x, hx⟩ : ∃ x, x = T.properE := ⟨_, rfl⟩
      rw [← hx] at hp ⊢
      have b1 : (x == 0) = false := by simpa using hp
      have b2 : (x != x) = false := by simp
      have b3 : (x != 0) = true := by simpa using hp
      clear hx hp
      go_wp2_with fail
      refine (alive47_any _).mono ?_
      rintro e w4 ⟨rfl, hb⟩
      have hW4 := onS hW hb
      clear hb
      go_wp2
      go_ret
      exact ⟨rfl, hW4⟩
    · go_wp2_with fail
      refine (refProper_any T A B c d _ (h.on hW)).mono ?_
      rintro e w3 ⟨rfl, hb⟩
      have hB3 := tbox_on hB2 hb
      clear hW p0 p1 hb hB2
      obtain ⟨⟨p0, p1⟩, hW⟩ := HS.out _ hB3
      have b1 : ((m : Int) != (T.n : Int)) = true := by simp; omega
      rw [hp]
      clear hp hmn
      go_wp2_with fail
      refine (alive47_any _).mono ?_
      rintro e w4 ⟨rfl, hb⟩
      have hW4 := onS hW hb
      clear hb
      go_wp2
      go_ret
      exact ⟨rfl, hW4⟩
    · go_wp2_with fail
      refine (refProper_any T A B c d _ (h.on hW)).mono ?_
      rintro e w3 ⟨rfl, hb⟩
      have hB3 := tbox_on hB2 hb
      clear hW p0 p1 hb hB2
      obtain ⟨⟨p0, p1⟩, hW⟩ := HS.out _ hB3
      have HP := hid (Trel.proper_of hp)
      have hv2 : Hid (IntsR w w.heap.size V T.n a) := by rw [← hmn]; exact hv
      have b1 : ((m : Int) != (T.n : Int)) = false := by simp [hmn]
      rw [hp]
      clear hp hmn
      go_wp2_with fail
      refine (alive47_any _).mono ?_
      rintro e w4 ⟨rfl, hb⟩
      have hB4 := tbox_on hB3 hb
      clear hW p0 p1 hb hB3
      obtain ⟨⟨p0, p1⟩, hW⟩ := HS.out _ hB4
      go_wp2_with fail
      refine (refAccepts47_any T A B V c d vc a w4 (h.on hW) (hv2.out.on hW) HP.out).mono ?_
      rintro e w5 ⟨rfl, hb⟩
      have hW5 := onS hW hb
      obtain ⟨x, hx⟩ : ∃ x, x = T.accB a := ⟨_, rfl⟩
      rw [← hx]
      have b2 : (x == x) = true := by simp
      clear hb hx
      go_wp2
      go_ret
      exact ⟨rfl, hW5⟩
theorem trellisAccepts_law {H : Type} {enc : TypeId × Value → H} {w : World} {cs : Array Value} {V : Option Addr} {m vc : Nat} (h : SeesW enc Try.prog w 0 (fun _ => true) true 25 cs.toList)
    (h2 : SeesW enc Try.prog w 0 (fun _ => true) true 22 [.slice V m vc]) :
    Calls Try.prog 6 #[.agg cs, .slice V m vc] w fun e w' => e = .returned (.bool true) ∧ Below w.heap.size w w' := by
  obtain ⟨cs⟩ := cs
  obtain ⟨T, A, B, c, d, rfl, hT, _⟩ := sees_trel h
  obtain ⟨V', m', vc', a, e0, _, _, hx, _⟩ := sees_ints Try.underlying22 Try.underlying3 (by kernel_rfl) h2.sees
  obtain ⟨_, m2, _, _, e2, _, _, hm8, _⟩ := seesW_slice (B := 8) Try.underlying22 (show Try.prog.cellsOf 3 = 1 by kernel_rfl) (by omega) (by kernel_rfl) h2
  simp only [List.cons.injEq, Value.slice.injEq, and_true] at e0 e2
  obtain ⟨rfl, rfl, rfl⟩ := e0
  obtain ⟨_, rfl, _⟩ := e2
  exact trellisAccepts_any T A B V c d m vc a w hT hx (by omega)
end Go.Proofs.Ytnocbkhnmdmfhaa
