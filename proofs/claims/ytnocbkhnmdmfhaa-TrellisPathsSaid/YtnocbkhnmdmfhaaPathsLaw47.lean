/- TrellisPaths returns true. -/
import Derived.Test.YtnocbkhnmdmfhaaWords
import Derived.Test.YtnocbkhnmdmfhaaRefWords
import Derived.Test.YtnocbkhnmdmfhaaRefPaths
import Derived.Test.YtnocbkhnmdmfhaaSame11
import Derived.Test.YtnocbkhnmdmfhaaFewT
namespace Go.Proofs.Ytnocbkhnmdmfhaa
open Go.RowKit

theorem Trel.dn_len {T : Trel} (h : T.Proper) : ∀ l, l ∈ T.dn T.n 0 → l.length ≤ 1048576 := fun l hl => by
  rw [← Trel.lev_words, List.mem_map] at hl
  obtain ⟨x, hx, rfl⟩ := hl
  have := (Trel.lev_in h T.n (Nat.le_refl _) x hx).1
  have := h.shape.n64
  omega
set_option maxRecDepth 100000 in
set_option maxHeartbeats 8000000 in
theorem trellisPaths_any (T : Trel) (A B : Option Addr) (c d : Nat) (w : World) (h : T.Reads w A B) :
    Calls Try.prog 7 #[.agg #[.slice A T.nw c, .slice B T.n d]] w fun e w' => e = .returned (.bool true) ∧ Below w.heap.size w w' := by
  obtain ⟨RB, hRB⟩ : ∃ o, o = (Obj.cells #[.slice A T.nw c, .slice B T.n d] 25) := ⟨_, rfl⟩
  have hB0 : Below (w.heap.size + 1) (w.alloc RB) (w.alloc RB) := Below.refl _ _
  have HS : Hid (∀ w', Below (w.heap.size + 1) (w.alloc RB) w' → (w'.cell? ⟨w.heap.size, 0, none⟩ = some (.slice A T.nw c) ∧ w'.cell? ⟨w.heap.size, 1, none⟩ = some (.slice B T.n d)) ∧ Below w.heap.size w w') := fun w' hB => by
    have hB' := tbox_below hB
    subst hRB
    exact ⟨⟨tbox hB rfl, tbox hB rfl⟩, hB'⟩
  obtain ⟨⟨p0, p1⟩, hW⟩ := HS.out _ hB0
  go_enter Try.func7, Try.ntmps7
  go_wp2_with fail
  rw [← hRB]
  refine (fewT_any T A B c d 3000 (by omega) _ (h.on hW)).mono ?_
  rintro e w1 ⟨⟨r, rfl⟩, hb⟩
  have hB1 := tbox_on hB0 hb
  clear hW p0 p1 hb hB0 hRB
  obtain ⟨⟨p0, p1⟩, hW⟩ := HS.out _ hB1
  cases r
  · go_wp2_with fail
    refine (alive47_any _).mono ?_
    rintro e w2 ⟨rfl, hb⟩
    have hW2 := onS hW hb
    clear hb
    go_wp2
    go_ret
    exact ⟨rfl, hW2⟩
  have hb3 : ((0 : Int) != 0) = false := rfl
  have HR := hid h
  clear h
  go_wp2_with fail
  refine (paths_any T A B c d w1 (HR.out.on hW)).mono ?_
  rintro e w2 (⟨hp, rfl, kb⟩ | ⟨hp, A1, c1, rfl, g1, g2, g3, kb⟩)
  · have hB2 := tbox_on hB1 kb
    clear hW p0 p1 kb hB1
    obtain ⟨⟨p0, p1⟩, hW⟩ := HS.out _ hB2
    have HP := hid hp
    obtain ⟨x, hx⟩ : ∃ x, x = T.properE := ⟨_, rfl⟩
    have HX := hid hx
    rw [← hx] at hp ⊢
    have b2 : (x != x) = false := by simp
    have b3 : (x != 0) = true := by simpa using hp
    have b4 : (x == x) = true := by simp
    clear hx hp
    go_wp2_with fail
    refine (words_any T A B c d w2 (HR.out.on hW)).mono ?_
    rintro e w3 ⟨kb, hpost⟩
    have hB3 := tbox_on hB2 kb
    clear hW p0 p1 kb hB2
    obtain ⟨⟨p0, p1⟩, hW⟩ := HS.out _ hB3
    rcases hpost with ⟨_, rfl⟩ | ⟨h0, _⟩ | ⟨h0, _⟩
    · rw [← HX.out]
      go_wp2_with fail
      refine (refProper_any T A B c d w3 (HR.out.on hW)).mono ?_
      rintro e w4 ⟨rfl, kb⟩
      have hW4 := onS hW kb
      clear hW p0 p1 kb hB3
      rw [← HX.out]
      go_wp2_with fail
      refine (alive47_any w4).mono ?_
      rintro e w5 ⟨rfl, kb⟩
      have hW5 := onS hW4 kb
      clear hW4 kb
      go_wp2
      go_ret
      exact ⟨rfl, hW5⟩
    · exact absurd h0 HP.out
    · exact absurd h0 HP.out
  have hB2 := tbox_on hB1 kb
  clear hW p0 p1 kb hB1
  obtain ⟨⟨p0, p1⟩, hW⟩ := HS.out _ hB2
  have HP0 := hid hp
  have HP := hid (Trel.proper_of hp)
  have hdl := Trel.fwd_dl HP.out.shape (y := fun _ _ => 1) (fun _ _ _ _ => Nat.le_refl _) (Nat.le_refl T.n) 0
  obtain ⟨x, hx⟩ : ∃ x, x = T.fwd (fun _ _ => 1) T.n 0 := ⟨_, rfl⟩
  rw [← hx] at g1 g3 hdl ⊢
  have HX := hid hx
  have HLEN : Hid ((T.dn T.n 0).length = x) := by rw [hx]; exact hid (Trel.words_len HP.out)
  clear hx hp
  go_wp2_with fail
  refine (words_any T A B c d w2 (HR.out.on hW)).mono ?_
  rintro e w3 ⟨kb, hpost⟩
  have hB3 := tbox_on hB2 kb
  have g4 := g3.on kb
  clear hW p0 p1 kb hB2 g3
  obtain ⟨⟨p0, p1⟩, hW⟩ := HS.out _ hB3
  have HPOST : Hid ((65536 < x ∧ e = .returned (.tuple #[.slice none 0 0, .int .i64 8])) ∨ (x ≤ 65536 ∧ ∃ O oc, e = .returned (.tuple #[.slice O x oc, .int .i64 0]) ∧ TabL w3 w2.heap.size (.slice O x oc) (T.dn T.n 0))) := by
    rcases hpost with ⟨h0, _⟩ | ⟨_, h1, h2⟩ | ⟨_, h1, v, h2, h3⟩
    · exact absurd HP0.out h0
    · exact .inl ⟨by rw [HX.out]; exact h1, h2⟩
    · obtain ⟨O, oc, hv⟩ := h3.shape
      rw [HLEN.out] at hv
      subst hv
      exact .inr ⟨by rw [HX.out]; exact h1, O, oc, h2, h3⟩
  clear hpost
  rcases HPOST.out with ⟨hbig, rfl⟩ | ⟨hsm, O, oc, rfl, hT⟩
  · clear HPOST
    go_wp2_with fail
    refine (refProper_any T A B c d w3 (HR.out.on hW)).mono ?_
    rintro e w4 ⟨rfl, kb⟩
    have hB4 := tbox_on hB3 kb
    replace g4 := g4.on kb
    clear hW p0 p1 kb hB3
    obtain ⟨⟨p0, p1⟩, hW⟩ := HS.out _ hB4
    rw [HP0.out]
    go_wp2_with fail
    refine (alive47_any w4).mono ?_
    rintro e w5 ⟨rfl, kb⟩
    have hB5 := tbox_on hB4 kb
    replace g4 := g4.on kb
    clear hW p0 p1 kb hB4
    obtain ⟨⟨p0, p1⟩, hW⟩ := HS.out _ hB5
    go_wp2_with fail
    refine (refPaths_any T A B c d w5 (HR.out.on hW) HP.out).mono ?_
    rintro e w6 ⟨A6, c6, rfl, q1, q2, q3, kb⟩
    have hB6 := tbox_on hB5 kb
    replace g4 := g4.on kb
    rw [← HX.out] at q1 q3 ⊢
    clear hW p0 p1 kb hB5
    obtain ⟨⟨p0, p1⟩, hW⟩ := HS.out _ hB6
    go_wp2_with fail
    refine (refSame_any A1 A6 c1 c6 x w6 g4 q3 (by omega)).mono ?_
    rintro e w7 ⟨rfl, kb⟩
    have hB7 := tbox_on hB6 kb
    replace q3 := q3.on kb
    clear hW p0 p1 kb hB6 g4
    obtain ⟨⟨p0, p1⟩, hW⟩ := HS.out _ hB7
    go_wp2_with fail
    refine (refInt_any A6 c6 x w7 q3 q1 q2 (by omega)).mono ?_
    rintro e w8 ⟨hint, kb⟩
    have hW8 := onS hW kb
    clear hW p0 p1 kb hB7 q3
    rcases hint with ⟨hx63, rfl⟩ | ⟨hx63, rfl⟩
    · have hbig' : (65536 : Int) < (x : Int) := by omega
      have hd : decide ((65536 : Int) < (x : Int)) = true := by simp; omega
      go_wp2
      go_ret
      exact ⟨rfl, hW8⟩
    · clear hx63 hbig
      go_wp2
      go_ret
      exact ⟨rfl, hW8⟩
  · have HT := hid hT
    clear hT HPOST
    go_wp2_with fail
    refine (refProper_any T A B c d w3 (HR.out.on hW)).mono ?_
    rintro e w4 ⟨rfl, kb⟩
    have hB4 := tbox_on hB3 kb
    replace g4 := g4.on kb
    have HT4 := hid (HT.out.on kb)
    clear hW p0 p1 kb hB3 HT
    obtain ⟨⟨p0, p1⟩, hW⟩ := HS.out _ hB4
    rw [HP0.out]
    go_wp2_with fail
    refine (alive47_any w4).mono ?_
    rintro e w5 ⟨rfl, kb⟩
    have hB5 := tbox_on hB4 kb
    replace g4 := g4.on kb
    have HT5 := hid (HT4.out.on kb)
    clear hW p0 p1 kb hB4 HT4
    obtain ⟨⟨p0, p1⟩, hW⟩ := HS.out _ hB5
    go_wp2_with fail
    refine (refPaths_any T A B c d w5 (HR.out.on hW) HP.out).mono ?_
    rintro e w6 ⟨A6, c6, rfl, q1, q2, q3, kb⟩
    have hB6 := tbox_on hB5 kb
    replace g4 := g4.on kb
    have HT6 := hid (HT5.out.on kb)
    rw [← HX.out] at q1 q3 ⊢
    clear hW p0 p1 kb hB5 HT5
    obtain ⟨⟨p0, p1⟩, hW⟩ := HS.out _ hB6
    go_wp2_with fail
    refine (refSame_any A1 A6 c1 c6 x w6 g4 q3 (by omega)).mono ?_
    rintro e w7 ⟨rfl, kb⟩
    have hB7 := tbox_on hB6 kb
    replace q3 := q3.on kb
    have HT7 := hid (HT6.out.on kb)
    clear hW p0 p1 kb hB6 g4 HT6
    obtain ⟨⟨p0, p1⟩, hW⟩ := HS.out _ hB7
    go_wp2_with fail
    refine (refInt_any A6 c6 x w7 q3 q1 q2 (by omega)).mono ?_
    rintro e w8 ⟨hint, kb⟩
    have hB8 := tbox_on hB7 kb
    have HT8 := hid (HT7.out.on kb)
    clear hW p0 p1 kb hB7 q3 HT7
    obtain ⟨⟨p0, p1⟩, hW⟩ := HS.out _ hB8
    rcases hint with ⟨_, rfl⟩ | ⟨hx63, _⟩
    · have hbig' : ¬ (65536 : Int) < (x : Int) := by omega
      have hd : decide ((65536 : Int) < (x : Int)) = false := by simp; omega
      have hxx : ((x : Int) != (x : Int)) = false := by simp
      by_cases h2 : 2000 < x
      · have hd2 : decide ((2000 : Int) < (x : Int)) = true := by simp; omega
        clear h2
        go_wp2
        go_ret
        exact ⟨rfl, hW⟩
      · have hd2 : decide ((2000 : Int) < (x : Int)) = false := by simp; omega
        clear h2
        go_wp2_with fail
        refine (refWords_any T A B c d w8 (HR.out.on hW) HP.out (by rw [HLEN.out]; exact hsm)).mono ?_
        rintro e w9 ⟨kb, v9, rfl, hT9⟩
        have hW9 := onS hW kb
        have hT8 := HT8.out.on kb
        obtain ⟨O9, c9, hv9⟩ := hT9.shape
        rw [HLEN.out] at hv9
        subst hv9
        clear hW p0 p1 kb hB8 HT8
        go_wp2_with fail
        refine (sameLists_any _ _ _ _ _ w9 hT8 hT9 (Trel.dn_len HP.out)).mono ?_
        rintro e w10 ⟨rfl, kb⟩
        have hW10 := onS hW9 kb
        clear hT8 hT9 hW9 kb
        go_wp2
        go_ret
        exact ⟨rfl, hW10⟩
    · omega
theorem trellisPaths_law {H : Type} {enc : TypeId × Value → H} {w : World} {cs : Array Value} (h : SeesW enc Try.prog w 0 (fun _ => true) true 25 cs.toList) :
    Calls Try.prog 7 #[.agg cs] w fun e w' => e = .returned (.bool true) ∧ Below w.heap.size w w' := by
  obtain ⟨cs⟩ := cs
  obtain ⟨T, A, B, c, d, rfl, hT, _⟩ := sees_trel h
  exact trellisPaths_any T A B c d w hT
end Go.Proofs.Ytnocbkhnmdmfhaa
