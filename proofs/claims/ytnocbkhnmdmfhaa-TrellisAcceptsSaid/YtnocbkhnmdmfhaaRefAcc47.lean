/- codewrightref47.Accepts; TrellisAccepts returns true. -/
import Derived.Test.YtnocbkhnmdmfhaaAccepts47
namespace Go.Proofs.Ytnocbkhnmdmfhaa
open Go.RowKit

set_option maxRecDepth 100000 in
set_option maxHeartbeats 8000000 in
theorem refAccepts47_any (T : Trel) (A B V : Option Addr) (c d vc : Nat) (a : Nat → Int) (w : World) (h : T.Reads w A B) (hv : IntsR w w.heap.size V T.n a) (hp : T.Proper) :
    Calls Try.prog 27 #[.agg #[.slice A T.nw c, .slice B T.n d], .slice V T.n vc] w fun e w' => e = .returned (.bool (T.accB a)) ∧ Below w.heap.size w w' := by
  obtain ⟨RB, hRB⟩ : ∃ o, o = (Obj.cells #[.slice A T.nw c, .slice B T.n d] 25) := ⟨_, rfl⟩
  have hB0 : Below (w.heap.size + 1) (w.alloc RB) (w.alloc RB) := Below.refl _ _
  have HS : Hid (∀ w', Below (w.heap.size + 1) (w.alloc RB) w' → (w'.cell? ⟨w.heap.size, 0, none⟩ = some (.slice A T.nw c) ∧ w'.cell? ⟨w.heap.size, 1, none⟩ = some (.slice B T.n d)) ∧ Below w.heap.size w w') := fun w' hB => by
    have hB' := tbox_below hB
    subst hRB
    exact ⟨⟨tbox hB rfl, tbox hB rfl⟩, hB'⟩
  obtain ⟨⟨p0, p1⟩, hW⟩ := HS.out _ hB0
  have HP := hid hp
  have HR := hid h
  have HV := hid hv
  have hn64 := hp.shape.n64
  clear h hv hp
  go_enter Try.func27, Try.ntmps27
  go_wp2_with fail
  rw [← hRB]
  clear hRB
  go_wp2
  go_loopg [5, 6] T.n (fun g sv iv wx => ∃ k : Nat, iv = .int .i64 (k : Nat) ∧ k ≤ T.n ∧ T.n ≤ k + g ∧ sv = .int .i64 (T.st a k) ∧ Hid (∀ i, i < k → 0 ≤ T.st a (i + 1)) ∧ Below (w.heap.size + 1) (w.alloc RB) wx)
  case atStart => exact ⟨0, rfl, by omega, by omega, rfl, fun i hi => absurd hi (by omega), hB0⟩
  case round =>
    clear p0 p1 hW hB0
    obtain ⟨gK, hgK⟩ : ∃ g, g = gk := ⟨_, rfl⟩
    subst hgK
    obtain ⟨k, rfl, hk, hkg, rfl, HA, hB⟩ := hrel
    obtain ⟨wk, hwk⟩ : ∃ W, W = wr := ⟨_, rfl⟩
    subst hwk
    have hk0 : (0 : Int) ≤ (k : Int) := by omega
    obtain ⟨⟨p0, p1⟩, hW⟩ := HS.out _ hB
    have hwz := tbox_lt hB
    obtain ⟨s, hs⟩ : ∃ s, s = T.st a k := ⟨_, rfl⟩
    rw [← hs]
    have HSK := hid hs
    clear hs
    by_cases hlt : k < T.n
    · have hlt' : (k : Int) < (T.n : Int) := by omega
      obtain ⟨eb, eo, E, ec, rfl, heb, x0, he1, he2, he3, he4⟩ := (HR.out.on hW).sec hlt
      have hel := HP.out.shape.elb hlt
      obtain ⟨ab, ao, rfl, hab, y0⟩ := (HV.out.on hW).at hlt
      obtain ⟨ak, hak⟩ : ∃ x, x = a k := ⟨_, rfl⟩
      rw [← hak] at y0
      have HAK := hid hak
      have HE3 := hid he3
      have HX0 := hid x0
      have HY0 := hid y0
      clear hak he3 he4
      go_wp2
      go_loopg [7, 8] (T.el k) (fun g nv jv wx => ∃ j : Nat, jv = .int .i64 (j : Nat) ∧ j ≤ T.el k ∧ T.el k ≤ j + g ∧ nv = .int .i64 (T.nxt k s ak j) ∧ Below wk.heap.size wk wx)
      case atStart => exact ⟨0, rfl, by omega, by omega, rfl, Below.refl _ _⟩
      case round =>
        clear p0 p1 hW x0 y0
        obtain ⟨j, rfl, hj, hjg, rfl, hBj⟩ := hrel
        have hj0 : (0 : Int) ≤ (j : Int) := by omega
        obtain ⟨⟨p0, p1⟩, hW⟩ := HS.out _ (tbox_on hB hBj)
        have x0 := cellS hBj HX0.out
        have y0 := cellS hBj HY0.out
        obtain ⟨nx, hnx⟩ : ∃ z, z = T.nxt k s ak j := ⟨_, rfl⟩
        have HNX := hid hnx
        by_cases hltj : j < T.el k
        · have hltj' : (j : Int) < (T.el k : Int) := by omega
          obtain ⟨fb, fo, rfl, hfb, e0, e1, e2⟩ := edge_at ((Rd.below HE3.out hBj (Nat.le_refl _)).mono hBj.size) hltj
          have hst : Hid (T.nxt k s ak (j + 1) = if T.fr k j = s ∧ T.lb k j = ak then T.to k j else T.nxt k s ak j) := rfl
          rw [← hnx] at hst ⊢
          clear hnx
          obtain ⟨fv, hfv⟩ : ∃ z, z = T.fr k j := ⟨_, rfl⟩
          obtain ⟨lv, hlv⟩ : ∃ z, z = T.lb k j := ⟨_, rfl⟩
          obtain ⟨tv, htv⟩ : ∃ z, z = T.to k j := ⟨_, rfl⟩
          rw [← hfv] at e0 hst
          rw [← hlv] at e1 hst
          rw [← htv] at e2 hst
          clear hfv hlv htv
          by_cases h1 : fv = s
          · have b1 : (fv == s) = true := by simp [h1]
            by_cases h2 : lv = ak
            · have b2 : (lv == ak) = true := by simp [h2]
              have hn : Hid (T.nxt k s ak (j + 1) = tv) := by rw [hst.out, if_pos ⟨h1, h2⟩]; exact rfl
              clear h1 h2
              go_wp2
              go_quiet (fail)
              go_wp2
              go_roundg (gk - 1)
              case measure => omega
              case rel => exact ⟨j + 1, by go_num, by omega, by omega, by rw [hn.out], below_drewN hBj _⟩
            · have b2 : (lv == ak) = false := by simp [h2]
              have hn : Hid (T.nxt k s ak (j + 1) = nx) := by rw [hst.out, if_neg fun hh => h2 hh.2]; exact rfl
              clear h1 h2
              go_wp2
              go_quiet (fail)
              go_wp2
              go_roundg (gk - 1)
              case measure => omega
              case rel => exact ⟨j + 1, by go_num, by omega, by omega, by rw [hn.out], below_drewN hBj _⟩
          · have b1 : (fv == s) = false := by simp [h1]
            have hn : Hid (T.nxt k s ak (j + 1) = nx) := by rw [hst.out, if_neg fun hh => h1 hh.1]; exact rfl
            clear h1
            go_wp2
            go_quiet (fail)
            go_wp2
            go_roundg (gk - 1)
            case measure => omega
            case rel => exact ⟨j + 1, by go_num, by omega, by omega, by rw [hn.out], below_drewN hBj _⟩
        · have hltj' : ¬ (j : Int) < (T.el k : Int) := by omega
          have hje : j = T.el k := by omega
          have hst : Hid (nx = T.st a (k + 1)) := by
            show nx = T.nxt k (T.st a k) (a k) (T.el k)
            rw [hnx, hje, HSK.out, HAK.out]
          have HBF := hid (tbox_on hB hBj)
          rw [← hnx]
          clear hnx hje
          by_cases hneg : nx < 0
          · have hE : Hid (T.accB a = false) := by
              show _ = _
              unfold Trel.accB
              exact decide_eq_false fun hh => by have h1 := hh k hlt; have h2 := hst.out; omega
            go_wp2
            go_ret
            exact ⟨ret_bool hE.out.symm, hW⟩
          · have HN : Hid (∀ i, i < k + 1 → 0 ≤ T.st a (i + 1)) := fun i hi => by
              by_cases e : i = k
              · subst e; have h2 := hst.out; omega
              · exact HA.out i (by omega)
            go_wp2
            go_roundg (gK - 1)
            case measure => omega
            case rel => exact ⟨k + 1, by go_num, by omega, by omega, by rw [hst.out], HN, HBF.out⟩
    · have hlt' : ¬ (k : Int) < (T.n : Int) := by omega
      have hE : Hid (T.accB a = true) := by
        show _ = _
        unfold Trel.accB
        exact decide_eq_true fun i hi => HA.out i (by omega)
      go_wp2
      go_ret
      exact ⟨ret_bool hE.out.symm, hW⟩
end Go.Proofs.Ytnocbkhnmdmfhaa
