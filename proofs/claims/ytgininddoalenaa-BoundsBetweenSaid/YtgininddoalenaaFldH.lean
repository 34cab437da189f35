/- codewrightref04: Check. -/
import Derived.Test.YtgininddoalenaaFldG
namespace Go.Proofs.Ytgininddoalenaa
open Go.RowKit

/-- A description that Check accepts: its order's parameters, and its modulus' length and entries. -/
def GoodF (P M : Int) (k : Nat) (f : Nat → Int) : Prop :=
  ∃ P' M' : Nat, P = P' ∧ M = M' ∧ FldOk P' M' ∧ PrimeB P' ∧ ((M' = 1 ∧ k = 0) ∨ (2 ≤ M' ∧ k = M' ∧ (∀ i, i < M' → 0 ≤ f i ∧ f i < P') ∧ IrrB P' M' (fun i => (f i).toNat)))
theorem GoodF.field {P M : Nat} {k : Nat} {f : Nat → Int} (h : GoodF (P : Int) (M : Int) k f) : FieldOk P M (fun i => (f i).toNat) ∧ (M = 1 ∨ k = M) := by
  obtain ⟨P', M', h1, h2, h3, h4, h5⟩ := h
  obtain rfl : P = P' := by omega
  obtain rfl : M = M' := by omega
  rcases h5 with ⟨e, _⟩ | ⟨e1, e2, e3, e4⟩
  · exact ⟨⟨h3, h4, .inl e, fun d h1 h2 => by omega⟩, .inl e⟩
  · exact ⟨⟨h3, h4, .inr fun t ht => by have := e3 t ht; show (f t).toNat < P; omega, e4⟩, .inr e2⟩
theorem GoodF.mod {P M : Nat} {k : Nat} {f : Nat → Int} {w : World} {A : Option Addr} (h : GoodF (P : Int) (M : Int) k f) (hr : IntsR w w.heap.size A k f) : ModOk w P M A (fun i => (f i).toNat) := by
  obtain ⟨P', M', h1, h2, h3, h4, h5⟩ := h
  obtain rfl : P = P' := by omega
  obtain rfl : M = M' := by omega
  rcases h5 with ⟨e, _⟩ | ⟨e1, rfl, e3, e4⟩
  · exact .inl e
  · exact .inr ⟨hr.congr fun i hi => by have := e3 i hi; show f i = ((f i).toNat : Int); omega, fun i hi => by have := e3 i hi; show (f i).toNat < P; omega⟩
def CheckPost (p : Prop) (w : World) (e : Ending) (w' : World) : Prop := ∃ v : Int, e = .returned (.int .i64 v) ∧ ((v = 0 ∧ p) ∨ (v = 1 ∧ ¬ p)) ∧ Below w.heap.size w w'
theorem checkPost_t {p : Prop} {w w' : World} (h : p) (hB : Below w.heap.size w w') : CheckPost p w (.returned (.int .i64 0)) w' := ⟨0, rfl, .inl ⟨rfl, h⟩, hB⟩
theorem checkPost_f {p : Prop} {w w' : World} (h : ¬ p) (hB : Below w.heap.size w w') : CheckPost p w (.returned (.int .i64 1)) w' := ⟨1, rfl, .inr ⟨rfl, h⟩, hB⟩

set_option maxRecDepth 100000 in
set_option maxHeartbeats 16000000 in
theorem check04_any (P M : Int) (A : Option Addr) (k c : Nat) (f : Nat → Int) (w : World) (hr : IntsR w w.heap.size A k f) :
    Calls Try.prog 20 #[.agg #[.int .i64 P, .int .i64 M, .slice A k c]] w (CheckPost (GoodF P M k f) w) := by
  have hB : Below w.heap.size w (w.alloc (.cells #[.int .i64 P, .int .i64 M, .slice A k c] 29)) := (Below.refl _ _).alloc (Nat.le_refl _) _
  have rf := fldBox_row (w := w) (a := .int .i64 P) (b := .int .i64 M) (c := .slice A k c) (T := 29)
  obtain ⟨w0, hw0⟩ : ∃ W, W = w.alloc (.cells #[.int .i64 P, .int .i64 M, .slice A k c] 29) := ⟨_, rfl⟩
  rw [← hw0] at hB rf
  go_enter Try.func20, Try.ntmps20
  go_upto_region 1 with fail
  rw [← hw0]
  clear hw0
  have q0 : w0.cell? ⟨w.heap.size, 0, none⟩ = some (.int .i64 P) := rf.cell (i := 0) (by omega)
  have q1 : w0.cell? ⟨w.heap.size, 1, none⟩ = some (.int .i64 M) := rf.cell (i := 1) (by omega)
  have q2 : w0.cell? ⟨w.heap.size, 2, none⟩ = some (.slice A k c) := rf.cell (i := 2) (by omega)
  go_wp2_with fail
  refine (order_any P M A k c _).mono ?_
  rintro e w1 ⟨rfl, kb⟩
  replace rf := rowIs_on rf kb
  replace hB := onS hB kb
  clear kb q0 q1 q2
  by_cases h0 : ordV P M = 0
  · have hno : Hid (¬ GoodF P M k f) := by
      rintro ⟨P', M', rfl, rfl, h3, _⟩
      rw [ordV_ok h3] at h0
      have := Nat.pow_pos (n := M') (show 0 < P' by have := h3.1; omega)
      omega
    rw [h0]
    clear h0 rf
    go_wp2
    go_ret
    exact checkPost_f hno.out hB
  · obtain ⟨P, M, rfl, rfl, hf⟩ := ordV_ne h0
    obtain ⟨v, hv⟩ : ∃ v, v = ordV (P : Int) (M : Int) := ⟨_, rfl⟩
    rw [← hv] at h0
    rw [← hv]
    have hv0 : (v == 0) = false := by simpa using h0
    have hP2 := hf.1
    have hPl := hf.P_le
    have hM1 := hf.2.1
    have hM8 := hf.2.2.1
    have hq := hf.2.2.2
    have HF := hid hf
    clear hv hf
    have q0 : w1.cell? ⟨w.heap.size, 0, none⟩ = some (.int .i64 (P : Nat)) := rf.cell (i := 0) (by omega)
    have q1 : w1.cell? ⟨w.heap.size, 1, none⟩ = some (.int .i64 (M : Nat)) := rf.cell (i := 1) (by omega)
    have q2 : w1.cell? ⟨w.heap.size, 2, none⟩ = some (.slice A k c) := rf.cell (i := 2) (by omega)
    go_wp2_with fail
    refine (prime_any P _ hPl).mono ?_
    rintro e w2 ⟨b, rfl, hb, rfl⟩
    have HBP := hid hb
    clear hb h0 hv0
    cases b
    · have hno : Hid (¬ GoodF (P : Int) (M : Int) k f) := by
        rintro ⟨P', M', e1, e2, h3, h4, _⟩
        obtain rfl : P = P' := by omega
        have := HBP.out.2 h4
        cases this
      go_wp2
      go_ret
      exact checkPost_f hno.out hB
    · have hp : Hid (PrimeB P) := HBP.out.1 rfl
      clear HBP
      by_cases hM : M = 1
      · subst hM
        by_cases hk0 : k = 0
        · subst hk0
          have hyes : Hid (GoodF (P : Int) ((1 : Nat) : Int) 0 f) := ⟨P, 1, rfl, rfl, HF.out, hp.out, .inl ⟨rfl, rfl⟩⟩
          go_wp2
          go_ret
          exact checkPost_t hyes.out hB
        · have hk0' : ((k : Int) != 0) = true := by simp; omega
          have hno : Hid (¬ GoodF (P : Int) ((1 : Nat) : Int) k f) := by
            rintro ⟨P', M', e1, e2, h3, h4, ⟨e3, e4⟩ | ⟨e3, _⟩⟩
            · exact hk0 e4
            · omega
          go_wp2
          go_ret
          exact checkPost_f hno.out hB
      · have hM' : ((M : Int) == 1) = false := by simp; omega
        by_cases hkM : k = M
        · subst hkM
          have hkk : ((k : Int) != (k : Int)) = false := by simp
          have hk2 : 2 ≤ k := by omega
          go_wp2
          clear q0 q1 q2 hM' hkk
          go_loopg [3] k (fun gg iv wx => ∃ i : Nat, iv = .int .i64 (i : Nat) ∧ i ≤ k ∧ k ≤ i + gg ∧ (∀ i', i' < i → 0 ≤ f i' ∧ f i' < P) ∧ wx.rowIs w.heap.size 29 3 (fldCell (.int .i64 (P : Nat)) (.int .i64 (k : Nat)) (.slice A k c)) ∧ Below w.heap.size w wx)
          case atStart => exact ⟨0, rfl, by omega, by omega, fun i' h => by omega, rf, hB⟩
          case round =>
            clear rf hB
            obtain ⟨i, rfl, hi, hig, hg, rf, hB⟩ := hrel
            have HG := hid hg
            clear hg
            have hi0 : (0 : Int) ≤ (i : Int) := by omega
            have q0 : wr.cell? ⟨w.heap.size, 0, none⟩ = some (.int .i64 (P : Nat)) := rf.cell (i := 0) (by omega)
            have q1 : wr.cell? ⟨w.heap.size, 1, none⟩ = some (.int .i64 (k : Nat)) := rf.cell (i := 1) (by omega)
            have q2 : wr.cell? ⟨w.heap.size, 2, none⟩ = some (.slice A k c) := rf.cell (i := 2) (by omega)
            by_cases hlt : i < k
            · have hlt' : (i : Int) < (k : Int) := by omega
              obtain ⟨b, o, rfl, hb, e0⟩ := (hr.on hB).at hlt
              obtain ⟨x, hx⟩ : ∃ x, x = f i := ⟨_, rfl⟩
              rw [← hx] at e0
              have HX := hid hx
              clear hx
              have hno : Hid (x < 0 ∨ (P : Int) ≤ x → ¬ GoodF (P : Int) (k : Int) k f) := by
                rintro hc ⟨P', M', e1, e2, h3, h4, ⟨e3, e4⟩ | ⟨e3, e4, e5, _⟩⟩
                · omega
                · have := e5 i (by omega)
                  rw [← HX.out] at this
                  omega
              by_cases hx0 : x < 0
              · have hd : decide (x < 0) = true := by simpa using hx0
                go_wp2
                go_quiet (fail)
                go_wp2
                go_ret
                exact checkPost_f (hno.out (.inl hx0)) (below_drewN hB _)
              · have hd : decide (x < 0) = false := by simpa using hx0
                by_cases hxP : (P : Int) ≤ x
                · have hd2 : decide ((P : Int) ≤ x) = true := by simpa using hxP
                  go_wp2
                  go_quiet (fail)
                  go_wp2
                  go_ret
                  exact checkPost_f (hno.out (.inr hxP)) (below_drewN hB _)
                · have hd2 : decide ((P : Int) ≤ x) = false := by simpa using hxP
                  have hnx : Hid (∀ i', i' < i + 1 → 0 ≤ f i' ∧ f i' < P) := fun i' h => by
                    by_cases e : i' = i
                    · rw [e, ← HX.out]; omega
                    · exact HG.out i' (by omega)
                  clear hno
                  go_wp2
                  go_quiet (fail)
                  go_wp2
                  go_roundg (gk - 1)
                  case measure => omega
                  case rel => exact ⟨i + 1, by go_num, by omega, by omega, hnx.out, rowIs_drewN rf _, below_drewN hB _⟩
            · obtain rfl : i = k := by omega
              have hlt' : ¬ (i : Int) < (i : Int) := by omega
              have hint : IntsR wr wr.heap.size A i (fun t => ((f t).toNat : Nat)) := (hr.on hB).congr fun t ht => by have := HG.out t ht; omega
              have hml : Hid (∀ t, t < i → (f t).toNat < P) := fun t ht => by have := HG.out t ht; omega
              go_wp2_with fail
              refine (irreducible_any P i A c _ wr hP2 hPl hk2 hM8 hq hint hml).mono ?_
              rintro e w2 ⟨b, rfl, hb, kb⟩
              replace hB := onS hB kb
              have HBI := hid hb
              clear kb q0 q1 q2 hint hml hb rf
              cases b
              · have hno : Hid (¬ GoodF (P : Int) (i : Int) i f) := by
                  rintro ⟨P', M', e1, e2, h3, h4, ⟨e3, e4⟩ | ⟨e3, e4, e5, e6⟩⟩
                  · omega
                  · obtain rfl : P = P' := by omega
                    subst e4
                    have := HBI.out.2 e6
                    cases this
                go_wp2
                go_ret
                exact checkPost_f hno.out hB
              · have hyes : Hid (GoodF (P : Int) (i : Int) i f) := ⟨P, i, rfl, rfl, HF.out, hp.out, .inr ⟨hk2, rfl, HG.out, HBI.out.1 rfl⟩⟩
                go_wp2
                go_ret
                exact checkPost_t hyes.out hB
        · have hkM' : ((k : Int) != (M : Int)) = true := by simp; omega
          have hno : Hid (¬ GoodF (P : Int) (M : Int) k f) := by
            rintro ⟨P', M', e1, e2, h3, h4, ⟨e3, e4⟩ | ⟨e3, e4, _⟩⟩
            · omega
            · omega
          go_wp2
          go_ret
          exact checkPost_f hno.out hB
end Go.Proofs.Ytgininddoalenaa
