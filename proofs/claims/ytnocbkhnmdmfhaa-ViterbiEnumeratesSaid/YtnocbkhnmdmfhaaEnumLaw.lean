/- ViterbiEnumerates returns true. -/
import Derived.Test.YtnocbkhnmdmfhaaAliveAll
import Derived.Test.YtnocbkhnmdmfhaaRefEnum
import Derived.Test.YtnocbkhnmdmfhaaEnumAll
import Derived.Test.YtnocbkhnmdmfhaaFewT
namespace Go.Proofs.Ytnocbkhnmdmfhaa
open Go.RowKit

set_option maxRecDepth 100000 in
set_option maxHeartbeats 8000000 in
theorem viterbiEnumLaw_any (T : Trel) (A B : Option Addr) (c d : Nat) (w : World) (h : T.Reads w A B) :
    Calls Try.prog 5 #[.agg #[.slice A T.nw c, .slice B T.n d]] w fun e w' => e = .returned (.bool true) ∧ Below w.heap.size w w' := by
  obtain ⟨RB, hRB⟩ : ∃ o, o = (Obj.cells #[.slice A T.nw c, .slice B T.n d] 25) := ⟨_, rfl⟩
  have hB0 : Below (w.heap.size + 1) (w.alloc RB) (w.alloc RB) := Below.refl _ _
  have HS : Hid (∀ w', Below (w.heap.size + 1) (w.alloc RB) w' → (w'.cell? ⟨w.heap.size, 0, none⟩ = some (.slice A T.nw c) ∧ w'.cell? ⟨w.heap.size, 1, none⟩ = some (.slice B T.n d)) ∧ Below w.heap.size w w') := fun w' hB => by
    have hB' := tbox_below hB
    subst hRB
    exact ⟨⟨tbox hB rfl, tbox hB rfl⟩, hB'⟩
  obtain ⟨⟨p0, p1⟩, hW⟩ := HS.out _ hB0
  have HR := hid h
  clear h
  go_enter Try.func5, Try.ntmps5
  go_wp2_with fail
  rw [← hRB]
  refine (fewT_any T A B c d 1000 (by omega) _ (HR.out.on hW)).mono ?_
  rintro e w1 ⟨⟨r, rfl⟩, hb⟩
  have hB1 := tbox_on hB0 hb
  clear hW p0 p1 hb hB0 hRB
  obtain ⟨⟨p0, p1⟩, hW⟩ := HS.out _ hB1
  cases r
  · go_wp2_with fail
    refine (alive49_any _).mono ?_
    rintro e w2 ⟨rfl, hb⟩
    have hW2 := onS hW hb
    clear hb
    go_wp2
    go_ret
    exact ⟨rfl, hW2⟩
  go_wp2_with fail
  refine (enumerate_any T A B c d w1 (HR.out.on hW)).mono ?_
  rintro e w2 ⟨kb, hpost⟩
  have hB2 := tbox_on hB1 kb
  clear hW p0 p1 kb hB1
  obtain ⟨⟨p0, p1⟩, hW⟩ := HS.out _ hB2
  rcases hpost with ⟨hp, rfl⟩ | ⟨hp, EA, ec, rfl, hE⟩
  · have HP := hid hp
    obtain ⟨x, hxe⟩ : ∃ x, x = T.properE := ⟨_, rfl⟩
    have HX := hid hxe
    rw [← hxe] at hp ⊢
    have b2 : (x != x) = false := by simp
    have b3 : (x != 0) = true := by simpa using hp
    have b4 : (x == x) = true := by simp
    clear hp hxe
    go_wp2_with fail
    refine (lightest_any T A B c d w2 (HR.out.on hW)).mono ?_
    rintro e w3 ⟨kb, hpost⟩
    have hB3 := tbox_on hB2 kb
    clear hW p0 p1 kb hB2
    obtain ⟨⟨p0, p1⟩, hW⟩ := HS.out _ hB3
    rcases hpost with ⟨_, rfl⟩ | ⟨h0, _⟩ | ⟨h0, _⟩
    · rw [← HX.out]
      have hl3 := tbox_lt hB3
      go_wp2_with fail
      obtain ⟨OL, hOL⟩ : ∃ o, o = (Obj.cells #[.int .i64 0, .slice none 0 0] 45) := ⟨_, rfl⟩
      have kb4 : Below w3.heap.size w3 (w3.alloc OL) := (Below.refl _ _).alloc (Nat.le_refl _) _
      have l0 : (w3.alloc OL).cell? ⟨w3.heap.size, 0, none⟩ = some (.int .i64 0) := by subst hOL; exact tbox (Below.refl _ _) rfl
      have l1 : (w3.alloc OL).cell? ⟨w3.heap.size, 1, none⟩ = some (.slice none 0 0) := by subst hOL; exact tbox (Below.refl _ _) rfl
      rw [← hOL]
      obtain ⟨w4, hw4⟩ : ∃ W, W = w3.alloc OL := ⟨_, rfl⟩
      rw [← hw4] at kb4 l0 l1 ⊢
      obtain ⟨lb, hlb⟩ : ∃ b, b = w3.heap.size := ⟨_, rfl⟩
      rw [← hlb] at l0 l1 ⊢
      have hB4 := tbox_on hB3 kb4
      clear hW p0 p1 kb4 hB3 hw4 hOL hlb hl3
      obtain ⟨⟨p0, p1⟩, hW⟩ := HS.out _ hB4
      refine (refProper_any T A B c d w4 (HR.out.on hW)).mono ?_
      rintro e w5 ⟨rfl, kb⟩
      have hB5 := tbox_on hB4 kb
      replace l0 := cellS kb l0
      replace l1 := cellS kb l1
      rw [← HX.out]
      clear hW p0 p1 kb hB4
      obtain ⟨⟨p0, p1⟩, hW⟩ := HS.out _ hB5
      go_wp2_with fail
      refine (alive49_any w5).mono ?_
      rintro e w6 ⟨rfl, kb⟩
      have hW6 := onS hW kb
      replace l0 := cellS kb l0
      replace l1 := cellS kb l1
      clear hW p0 p1 kb hB5
      go_wp2
      go_ret
      exact ⟨rfl, hW6⟩
    · exact absurd h0 HP.out
    · exact absurd h0 HP.out
  · have HP0 := hid hp
    have HP := hid (Trel.proper_of hp)
    have hn64 := HP.out.shape.n64
    have HE := hid hE
    have b0 : ((0 : Int) != 0) = false := rfl
    obtain ⟨x, hx⟩ : ∃ x, x = T.pw T.n 0 := ⟨_, rfl⟩
    have HX := hid hx
    obtain ⟨m, hm⟩ : ∃ m, m = T.n + 1 := ⟨_, rfl⟩
    have HM := hid hm
    have hm1 : 1 ≤ m := by omega
    have hm65 : m ≤ 65 := by omega
    have HDL : Hid (∀ k, dl (x k) ≤ 1000000) := fun k => by
      have h1 := Trel.pw_le HP.out.shape T.n (Nat.le_refl _) 0 k
      rw [hx]
      have h2 := dl_path (i := T.n) (by omega) h1
      omega
    rw [← hx, ← hm] at HE
    rw [← hm]
    clear hp hE hx hm
    go_wp2_with fail
    refine (lightest_any T A B c d w2 (HR.out.on hW)).mono ?_
    rintro e w3 ⟨kb, hpost⟩
    have hB3 := tbox_on hB2 kb
    have HE3 := hid (HE.out.on kb)
    clear hW p0 p1 kb hB2 HE
    obtain ⟨⟨p0, p1⟩, hW⟩ := HS.out _ hB3
    have HPOST : Hid ((leastOf x m = m ∧ e = .returned (.tuple #[.agg #[.int .i64 0, .slice none 0 0], .int .i64 11])) ∨
        (leastOf x m < m ∧ ∃ A c, e = .returned (.tuple #[.agg #[.int .i64 (leastOf x m : Nat), .slice A (dl (x (leastOf x m))) c], .int .i64 0]) ∧ NatOk w3 w3.heap.size A (x (leastOf x m)))) := by
      rw [← HX.out, ← HM.out] at hpost
      rcases hpost with ⟨h0, _⟩ | ⟨_, h1, h2⟩ | ⟨_, h1, h2⟩
      · exact absurd HP0.out h0
      · exact .inl ⟨h1, h2⟩
      · exact .inr ⟨h1, h2⟩
    clear hpost
    obtain ⟨kl, hkl⟩ : ∃ k, k = leastOf x m := ⟨_, rfl⟩
    have HKL := hid hkl
    rw [← hkl] at HPOST
    clear hkl
    rcases HPOST.out with ⟨hk, rfl⟩ | ⟨hk, LA, lc, rfl, hL⟩
    · have HK := hid hk
      clear hk HPOST
      have hl3 := tbox_lt hB3
      go_wp2_with fail
      obtain ⟨OL, hOL⟩ : ∃ o, o = (Obj.cells #[.int .i64 0, .slice none 0 0] 45) := ⟨_, rfl⟩
      have kb : Below w3.heap.size w3 (w3.alloc OL) := (Below.refl _ _).alloc (Nat.le_refl _) _
      have l0 : (w3.alloc OL).cell? ⟨w3.heap.size, 0, none⟩ = some (.int .i64 0) := by subst hOL; exact tbox (Below.refl _ _) rfl
      have l1 : (w3.alloc OL).cell? ⟨w3.heap.size, 1, none⟩ = some (.slice none 0 0) := by subst hOL; exact tbox (Below.refl _ _) rfl
      rw [← hOL]
      obtain ⟨w4, hw4⟩ : ∃ W, W = w3.alloc OL := ⟨_, rfl⟩
      rw [← hw4] at kb l0 l1 ⊢
      obtain ⟨lb, hlb⟩ : ∃ b, b = w3.heap.size := ⟨_, rfl⟩
      rw [← hlb] at l0 l1 ⊢
      have hB4 := tbox_on hB3 kb
      have HE4 := hid (HE3.out.on kb)
      clear hW p0 p1 kb hB3 HE3
      obtain ⟨⟨p0, p1⟩, hW⟩ := HS.out _ hB4
      clear hw4 hOL hlb hl3
      refine (refProper_any T A B c d w4 (HR.out.on hW)).mono ?_
      rintro e w5 ⟨rfl, kb⟩
      have hB5 := tbox_on hB4 kb
      have HE5 := hid (HE4.out.on kb)
      replace l0 := cellS kb l0
      replace l1 := cellS kb l1
      clear hW p0 p1 kb hB4 HE4
      obtain ⟨⟨p0, p1⟩, hW⟩ := HS.out _ hB5
      rw [HP0.out]
      go_wp2_with fail
      refine (alive49_any w5).mono ?_
      rintro e w6 ⟨rfl, kb⟩
      have hB6 := tbox_on hB5 kb
      have HE6 := hid (HE5.out.on kb)
      replace l0 := cellS kb l0
      replace l1 := cellS kb l1
      clear hW p0 p1 kb hB5 HE5
      obtain ⟨⟨p0, p1⟩, hW⟩ := HS.out _ hB6
      go_wp2_with fail
      refine (refEnum_any T A B c d w6 (HR.out.on hW) HP.out).mono ?_
      rintro e w7 ⟨kb, FA, fc, rfl, hF⟩
      rw [← HX.out, ← HM.out] at hF
      have HF7 := hid hF
      rw [← HM.out]
      have hB7 := tbox_on hB6 kb
      have HE7 := hid (HE6.out.on kb)
      replace l0 := cellS kb l0
      replace l1 := cellS kb l1
      clear hW p0 p1 kb hB6 HE6
      obtain ⟨⟨p0, p1⟩, hW⟩ := HS.out _ hB7
      clear hF
      obtain ⟨_, _, e1, _, _, hT1⟩ := HE7.out.tab
      injection e1 with e1 _ e2
      subst e1 e2
      obtain ⟨_, _, e1, _, _, hT2⟩ := HF7.out.tab
      injection e1 with e1 _ e2
      subst e1 e2
      have HT1 := hid hT1
      have HT2 := hid hT2
      clear hT1 hT2
      go_wp2_with fail
      refine (samePoly_any EA FA ec fc m x w7 HT1.out HT2.out (by omega) (fun k _ => HDL.out k)).mono ?_
      rintro e w8 ⟨rfl, kb⟩
      have hB8 := tbox_on hB7 kb
      have HE8 := hid (HE7.out.on kb)
      replace l0 := cellS kb l0
      replace l1 := cellS kb l1
      have HF8 := hid (HF7.out.on kb)
      clear hW p0 p1 kb hB7 HE7 HF7
      obtain ⟨⟨p0, p1⟩, hW⟩ := HS.out _ hB8
      clear HT1 HT2
      obtain ⟨_, _, e1, _, _, hT2⟩ := HF8.out.tab
      injection e1 with e1 _ e2
      subst e1 e2
      have HT2 := hid hT2
      clear hT2
      go_wp2_with fail
      refine (refLight_any FA m fc x w8 HT2.out hm1 (by omega) (fun k _ => HDL.out k)).mono ?_
      rintro e w9 ⟨kb, hpost⟩
      have hB9 := tbox_on hB8 kb
      have HE9 := hid (HE8.out.on kb)
      replace l0 := cellS kb l0
      replace l1 := cellS kb l1
      have HF9 := hid (HF8.out.on kb)
      clear hW p0 p1 kb hB8 HE8 HF8
      obtain ⟨⟨p0, p1⟩, hW⟩ := HS.out _ hB9
      clear HT2
      rw [← HKL.out] at hpost
      rcases hpost with ⟨_, rfl⟩ | ⟨h0, _⟩
      · have hl9 := tbox_lt hB9
        have hlb9 : lb < w9.heap.size := World.block_lt_of_cell? _ _ l0
        go_wp2_with fail
        obtain ⟨OM, hOM⟩ : ∃ o, o = (Obj.cells #[.int .i64 0, .slice none 0 0] 45) := ⟨_, rfl⟩
        have kb : Below w9.heap.size w9 (w9.alloc OM) := (Below.refl _ _).alloc (Nat.le_refl _) _
        rw [← hOM]
        have hsl := sameLeast_any none none 0 0 0 0 (w9.alloc OM) (natOk_zero _ _ _) (natOk_zero _ _ _) (by rw [dl_zero]; omega)
        rw [dl_zero] at hsl
        refine hsl.mono ?_
        rintro e w10 ⟨rfl, kb2⟩
        have hWf := onS hW (onS kb kb2)
        clear kb kb2 hOM l0 l1 p0 p1 hW hsl
        go_wp2
        go_ret
        exact ⟨rfl, hWf⟩
      · exact absurd h0 (by have := HK.out; omega)
    · have HL := hid hL
      have HK := hid hk
      clear hk HPOST hL
      have hl3 := tbox_lt hB3
      go_wp2_with fail
      obtain ⟨OL, hOL⟩ : ∃ o, o = (Obj.cells #[.int .i64 (kl : Nat), .slice LA (dl (x kl)) lc] 45) := ⟨_, rfl⟩
      have kb : Below w3.heap.size w3 (w3.alloc OL) := (Below.refl _ _).alloc (Nat.le_refl _) _
      have l0 : (w3.alloc OL).cell? ⟨w3.heap.size, 0, none⟩ = some (.int .i64 (kl : Nat)) := by subst hOL; exact tbox (Below.refl _ _) rfl
      have l1 : (w3.alloc OL).cell? ⟨w3.heap.size, 1, none⟩ = some (.slice LA (dl (x kl)) lc) := by subst hOL; exact tbox (Below.refl _ _) rfl
      rw [← hOL]
      obtain ⟨w4, hw4⟩ : ∃ W, W = w3.alloc OL := ⟨_, rfl⟩
      rw [← hw4] at kb l0 l1 ⊢
      obtain ⟨lb, hlb⟩ : ∃ b, b = w3.heap.size := ⟨_, rfl⟩
      rw [← hlb] at l0 l1 ⊢
      have hB4 := tbox_on hB3 kb
      have HE4 := hid (HE3.out.on kb)
      have HL4 := hid (HL.out.on kb)
      clear hW p0 p1 kb hB3 HE3 HL
      obtain ⟨⟨p0, p1⟩, hW⟩ := HS.out _ hB4
      clear hw4 hOL hlb hl3
      refine (refProper_any T A B c d w4 (HR.out.on hW)).mono ?_
      rintro e w5 ⟨rfl, kb⟩
      have hB5 := tbox_on hB4 kb
      have HE5 := hid (HE4.out.on kb)
      replace l0 := cellS kb l0
      replace l1 := cellS kb l1
      have HL5 := hid (HL4.out.on kb)
      clear hW p0 p1 kb hB4 HE4 HL4
      obtain ⟨⟨p0, p1⟩, hW⟩ := HS.out _ hB5
      rw [HP0.out]
      go_wp2_with fail
      refine (alive49_any w5).mono ?_
      rintro e w6 ⟨rfl, kb⟩
      have hB6 := tbox_on hB5 kb
      have HE6 := hid (HE5.out.on kb)
      replace l0 := cellS kb l0
      replace l1 := cellS kb l1
      have HL6 := hid (HL5.out.on kb)
      clear hW p0 p1 kb hB5 HE5 HL5
      obtain ⟨⟨p0, p1⟩, hW⟩ := HS.out _ hB6
      go_wp2_with fail
      refine (refEnum_any T A B c d w6 (HR.out.on hW) HP.out).mono ?_
      rintro e w7 ⟨kb, FA, fc, rfl, hF⟩
      rw [← HX.out, ← HM.out] at hF
      have HF7 := hid hF
      rw [← HM.out]
      have hB7 := tbox_on hB6 kb
      have HE7 := hid (HE6.out.on kb)
      replace l0 := cellS kb l0
      replace l1 := cellS kb l1
      have HL7 := hid (HL6.out.on kb)
      clear hW p0 p1 kb hB6 HE6 HL6
      obtain ⟨⟨p0, p1⟩, hW⟩ := HS.out _ hB7
      clear hF
      obtain ⟨_, _, e1, _, _, hT1⟩ := HE7.out.tab
      injection e1 with e1 _ e2
      subst e1 e2
      obtain ⟨_, _, e1, _, _, hT2⟩ := HF7.out.tab
      injection e1 with e1 _ e2
      subst e1 e2
      have HT1 := hid hT1
      have HT2 := hid hT2
      clear hT1 hT2
      go_wp2_with fail
      refine (samePoly_any EA FA ec fc m x w7 HT1.out HT2.out (by omega) (fun k _ => HDL.out k)).mono ?_
      rintro e w8 ⟨rfl, kb⟩
      have hB8 := tbox_on hB7 kb
      have HE8 := hid (HE7.out.on kb)
      replace l0 := cellS kb l0
      replace l1 := cellS kb l1
      have HL8 := hid (HL7.out.on kb)
      have HF8 := hid (HF7.out.on kb)
      clear hW p0 p1 kb hB7 HE7 HL7 HF7
      obtain ⟨⟨p0, p1⟩, hW⟩ := HS.out _ hB8
      clear HT1 HT2
      obtain ⟨_, _, e1, _, _, hT2⟩ := HF8.out.tab
      injection e1 with e1 _ e2
      subst e1 e2
      have HT2 := hid hT2
      clear hT2
      go_wp2_with fail
      refine (refLight_any FA m fc x w8 HT2.out hm1 (by omega) (fun k _ => HDL.out k)).mono ?_
      rintro e w9 ⟨kb, hpost⟩
      have hB9 := tbox_on hB8 kb
      have HE9 := hid (HE8.out.on kb)
      replace l0 := cellS kb l0
      replace l1 := cellS kb l1
      have HL9 := hid (HL8.out.on kb)
      have HF9 := hid (HF8.out.on kb)
      clear hW p0 p1 kb hB8 HE8 HL8 HF8
      obtain ⟨⟨p0, p1⟩, hW⟩ := HS.out _ hB9
      clear HT2
      rw [← HKL.out] at hpost
      rcases hpost with ⟨h0, _⟩ | ⟨_, MA, mc, rfl, hM⟩
      · exact absurd h0 (by have := HK.out; omega)
      · have hl9 := tbox_lt hB9
        have hlb9 : lb < w9.heap.size := World.block_lt_of_cell? _ _ l0
        have HMM := hid hM
        clear hM
        go_wp2_with fail
        obtain ⟨OM, hOM⟩ : ∃ o, o = (Obj.cells #[.int .i64 (kl : Nat), .slice MA (dl (x kl)) mc] 45) := ⟨_, rfl⟩
        have kb : Below w9.heap.size w9 (w9.alloc OM) := (Below.refl _ _).alloc (Nat.le_refl _) _
        rw [← hOM]
        refine (sameLeast_any LA MA lc mc (x kl) (kl : Nat) (w9.alloc OM) (HL9.out.on kb) (HMM.out.on kb) (HDL.out kl)).mono ?_
        rintro e w10 ⟨rfl, kb2⟩
        have hWf := onS hW (onS kb kb2)
        clear kb kb2 hOM l0 l1 p0 p1 hW
        go_wp2
        go_ret
        exact ⟨rfl, hWf⟩
theorem viterbiEnum_law {H : Type} {enc : TypeId × Value → H} {w : World} {cs : Array Value} (h : SeesW enc Try.prog w 0 (fun _ => true) true 25 cs.toList) :
    Calls Try.prog 5 #[.agg cs] w fun e w' => e = .returned (.bool true) ∧ Below w.heap.size w w' := by
  obtain ⟨cs⟩ := cs
  obtain ⟨T, A, B, c, d, rfl, hT, _⟩ := sees_trel h
  exact viterbiEnumLaw_any T A B c d w hT
end Go.Proofs.Ytnocbkhnmdmfhaa
