/- trellis.Accepts follows the labels of a word. -/
import Derived.Test.YtnocbkhnmdmfhaaFrom
namespace Go.Proofs.Ytnocbkhnmdmfhaa
open Go.RowKit

/-- Where the label a leads from node v, over the first j edges of section i; -1: nowhere. -/
def Trel.nxt (T : Trel) (i : Nat) (v a : Int) : Nat → Int
  | 0 => -1
  | j + 1 => if T.fr i j = v ∧ T.lb i j = a then T.to i j else T.nxt i v a j
/-- The node behind the first i labels. -/
def Trel.st (T : Trel) (a : Nat → Int) : Nat → Int
  | 0 => 0
  | i + 1 => T.nxt i (T.st a i) (a i) (T.el i)
def Trel.accB (T : Trel) (a : Nat → Int) : Bool := decide (∀ i, i < T.n → 0 ≤ T.st a (i + 1))
theorem Trel.nxt_none {T : Trel} {i : Nat} {v a : Int} : ∀ m, (∀ j, j < m → ¬ (T.fr i j = v ∧ T.lb i j = a)) → T.nxt i v a m = -1 := by
  intro m
  induction m with
  | zero => exact fun _ => rfl
  | succ m ih =>
    intro h
    show (if _ then _ else _) = _
    rw [if_neg (h m (by omega))]
    exact ih fun j hj => h j (by omega)
theorem Trel.ord {T : Trel} {i : Nat} (h : T.secOk i) : ∀ q j, j < q → q < T.el i → T.fr i j < T.fr i q ∨ T.fr i j = T.fr i q ∧ T.lb i j < T.lb i q := by
  intro q
  induction q with
  | zero => intro j hj; omega
  | succ q ih =>
    intro j hj hq
    have h1 : T.fr i q < T.fr i (q + 1) ∨ T.fr i q = T.fr i (q + 1) ∧ T.lb i q < T.lb i (q + 1) := (h.1 (q + 1) hq).2.2 (by omega)
    by_cases e : j = q
    · subst e; exact h1
    · have h2 := ih j (by omega) (by omega)
      omega
theorem Trel.sorted {T : Trel} {i : Nat} (h : T.secOk i) : ∀ a b, a ≤ b → b < T.el i → T.fr i a ≤ T.fr i b := fun a b hab hb => by
  by_cases e : a = b
  · subst e; exact Int.le_refl _
  · have := Trel.ord h b a (by omega) hb
    omega
theorem Trel.nxt_some {T : Trel} {i : Nat} (h : T.secOk i) {v a : Int} {j : Nat} (h1 : T.fr i j = v) (h2 : T.lb i j = a) : ∀ m, j < m → m ≤ T.el i → T.nxt i v a m = T.to i j := by
  intro m
  induction m with
  | zero => intro hj; omega
  | succ m ih =>
    intro hj hm
    show (if _ then _ else _) = _
    by_cases e : j = m
    · subst e; rw [if_pos ⟨h1, h2⟩]
    · have := Trel.ord h m j (by omega) (by omega)
      rw [if_neg (fun hh => by omega)]
      exact ih (by omega) (by omega)
theorem Trel.st_neg {T : Trel} {a : Nat → Int} {i : Nat} (hi : i < T.n) (h : T.st a (i + 1) = -1) : T.accB a = false := by
  unfold Trel.accB
  exact decide_eq_false fun hh => by have := hh i hi; omega
/-- What Accepts returns. -/
def AccPost (T : Trel) (m : Nat) (a : Nat → Int) (w : World) (e : Ending) (w' : World) : Prop :=
  Below w.heap.size w w' ∧ ((T.properE ≠ 0 ∧ e = .returned (.tuple #[.bool false, .int .i64 T.properE])) ∨ (T.properE = 0 ∧ m ≠ T.n ∧ e = .returned (.tuple #[.bool false, .int .i64 4])) ∨ (T.properE = 0 ∧ m = T.n ∧ e = .returned (.tuple #[.bool (T.accB a), .int .i64 0])))
set_option maxRecDepth 100000 in
set_option maxHeartbeats 8000000 in
theorem accepts47_any (T : Trel) (A B V : Option Addr) (c d m vc : Nat) (a : Nat → Int) (w : World) (h : T.Reads w A B) (hv : IntsR w w.heap.size V m a) (hm : m ≤ 140737488355328) :
    Calls Try.prog 26 #[.agg #[.slice A T.nw c, .slice B T.n d], .slice V m vc] w (AccPost T m a w) := by
  obtain ⟨RB, hRB⟩ : ∃ o, o = (Obj.cells #[.slice A T.nw c, .slice B T.n d] 25) := ⟨_, rfl⟩
  have hB0 : Below (w.heap.size + 1) (w.alloc RB) (w.alloc RB) := Below.refl _ _
  have HS : Hid (∀ w', Below (w.heap.size + 1) (w.alloc RB) w' → (w'.cell? ⟨w.heap.size, 0, none⟩ = some (.slice A T.nw c) ∧ w'.cell? ⟨w.heap.size, 1, none⟩ = some (.slice B T.n d)) ∧ Below w.heap.size w w') := fun w' hB => by
    have hB' := tbox_below hB
    subst hRB
    exact ⟨⟨tbox hB rfl, tbox hB rfl⟩, hB'⟩
  obtain ⟨⟨p0, p1⟩, hW⟩ := HS.out _ hB0
  go_enter Try.func26, Try.ntmps26
  go_wp2_with fail
  rw [← hRB]
  refine (proper_any T A B c d _ (h.on hW)).mono ?_
  rintro e w1 ⟨rfl, hb⟩
  have hB1 := tbox_on hB0 hb
  clear hW p0 p1 hb hB0 hRB
  obtain ⟨⟨p0, p1⟩, hW⟩ := HS.out _ hB1
  by_cases hp : T.properE = 0
  · have HP := hid (Trel.proper_of hp)
    have HP0 := hid hp
    have HR := hid h
    have HV := hid hv
    rw [hp]
    clear hp h hv
    have hn64 := HP.out.shape.n64
    by_cases hmn : m = T.n
    · have hmn1 : ((m : Int) != (T.n : Int)) = false := by simp [hmn]
      have hmn2 : m ≤ 64 := by omega
      have HMN := hid hmn
      clear hmn
      have HB1 := hid hB1
      clear hB1
      go_wp2
      go_loopg [7, 25] m (fun g sv iv wx => ∃ k : Nat, iv = .int .i64 (k : Nat) ∧ k ≤ m ∧ m ≤ k + g ∧ sv = .int .i64 (T.st a k) ∧ Hid (∀ i, i < k → 0 ≤ T.st a (i + 1)) ∧ Hid (0 ≤ T.st a k ∧ T.st a k < T.W k) ∧ Below (w.heap.size + 1) (w.alloc RB) wx)
      case atStart => exact ⟨0, rfl, by omega, by omega, rfl, fun i hi => absurd hi (by omega), ⟨by show (0 : Int) ≤ 0; omega, by show (0 : Int) < T.W 0; have := HP.out.w0; omega⟩, HB1.out⟩
      case round =>
        clear p0 p1 hW
        obtain ⟨k, rfl, hk, hkg, rfl, HA, HST, hB⟩ := hrel
        have hk0 : (0 : Int) ≤ (k : Int) := by omega
        obtain ⟨⟨p0, p1⟩, hW⟩ := HS.out _ hB
        have hwz := tbox_lt hB
        obtain ⟨s, hs⟩ : ∃ s, s = T.st a k := ⟨_, rfl⟩
        rw [← hs] at HST ⊢
        have HSK := hid hs
        clear hs
        by_cases hlt : k < m
        · have hlt' : (k : Int) < (m : Int) := by omega
          have hltn : k < T.n := by have := HMN.out; omega
          have hltn' : (k : Int) < (T.n : Int) := by omega
          obtain ⟨eb, eo, E, ec, rfl, heb, x0, he1, he2, he3, he4⟩ := (HR.out.on hW).sec hltn
          have hel := HP.out.shape.elb hltn
          obtain ⟨ab, ao, rfl, hab, y0⟩ := (HV.out.on hW).at hlt
          obtain ⟨ak, hak⟩ : ∃ x, x = a k := ⟨_, rfl⟩
          rw [← hak] at y0
          have HAK := hid hak
          have hsec := HP.out.sec k hltn
          have hex : ∃ j, j < T.el k ∧ T.fr k j = s := by
            have h1 := hsec.2.1 s.toNat (by have := HST.out; omega)
            obtain ⟨j, hj, e⟩ := hitB_iff.1 h1
            exact ⟨j, hj, by have := HST.out; omega⟩
          have HEX := hid hex
          have HSEC := hid hsec
          have HE3 := hid he3
          obtain ⟨el, hele⟩ : ∃ n, n = T.el k := ⟨_, rfl⟩
          rw [← hele] at x0 he1 hel
          have HEL := hid hele
          clear hak hex hsec he3 he4 hele
          go_wp2_with fail
          obtain ⟨OB, hOB⟩ : ∃ o, o = (Obj.cells #[Value.int .i64 ak] 3) := ⟨_, rfl⟩
          rw [← hOB]
          have kb : Below wr.heap.size wr (wr.alloc OB) := (Below.refl _ _).alloc (Nat.le_refl _) _
          have hc0 : (wr.alloc OB).cell? ⟨wr.heap.size, 0, none⟩ = some (.int .i64 ak) := by subst hOB; exact tbox (Below.refl _ _) rfl
          obtain ⟨w2, hw2⟩ : ∃ W, W = wr.alloc OB := ⟨_, rfl⟩
          obtain ⟨pb, hpb⟩ : ∃ b, b = wr.heap.size := ⟨_, rfl⟩
          rw [← hw2] at kb hc0 ⊢
          rw [← hpb] at hc0 ⊢
          have hR2 : Rd w2 w2.heap.size E el 3 (T.edge k) := by rw [HEL.out]; exact (Rd.below HE3.out kb (Nat.le_refl _)).mono kb.size
          have hB2 := tbox_on hB kb
          clear hpb hw2 hOB kb p0 p1 hW hB x0 y0 hab heb
          refine (from_any T k E el ec s w2 hR2 (by omega) he1 he2 (by rw [HEL.out]; exact Trel.sorted HSEC.out) (by rw [HEL.out]; exact HEX.out)).mono ?_
          rintro e w3 ⟨b, o, lo, hi, rfl, hlh, hhm, HF, rfl, kb⟩
          have hR3 := (Rd.below hR2 kb (Nat.le_refl _)).mono kb.size
          have hc3 := cellS kb hc0
          have hB3 := tbox_on hB2 kb
          have HFF := hid HF
          have hsub : Rd w3 w3.heap.size (some ⟨b, o + lo * 3, none⟩) (hi - lo) 3 (fun j k' => if k' = 0 then .int .i64 (T.fr k (lo + j)) else if k' = 1 then .int .i64 (T.lb k (lo + j)) else .int .i64 (T.to k (lo + j))) := fun j hj => by
            obtain ⟨b9, o9, e9, hb9, hc9⟩ := hR3 (lo + j) (by omega)
            injection e9 with e9
            injection e9 with e8 e9
            subst e8 e9
            refine ⟨b, o + lo * 3, rfl, hb9, fun q hq => ?_⟩
            have := hc9 q hq
            rw [show o + (lo + j) * 3 + q = o + lo * 3 + j * 3 + q by rw [Nat.add_mul]; omega] at this
            exact this
          clear hR2 hc0 hB2 kb HF hR3
          go_wp2_with fail
          refine (indexEdge_any (some ⟨b, o + lo * 3, none⟩) (hi - lo) (ec - lo) (fun j => T.fr k (lo + j)) (fun j => T.lb k (lo + j)) (fun j => T.to k (lo + j)) ak ⟨pb, 0, none⟩ w3 hsub (by omega) hc3).mono ?_
          rintro e w4 ⟨hidx, kb⟩
          have hB4 := tbox_on hB3 kb
          obtain ⟨_, hW4⟩ := HS.out _ hB4
          rcases hidx with ⟨rfl, hno⟩ | ⟨q, rfl, hq, hqa⟩
          · have hstn : T.st a (k + 1) = -1 := by
              show T.nxt k (T.st a k) (a k) (T.el k) = -1
              rw [← HSK.out, ← HAK.out]
              refine Trel.nxt_none _ fun j hj hh => ?_
              have h1 := (HFF.out j (by rw [HEL.out]; exact hj)).1 hh.1
              have h2 : T.lb k (lo + (j - lo)) ≠ ak := hno (j - lo) (by omega)
              rw [show lo + (j - lo) = j by omega] at h2
              exact h2 hh.2
            have hE := hid (Trel.st_neg hltn hstn)
            clear hstn hsub hc3 hB3 kb hB4 hno
            go_wp2
            go_ret2
            exact ⟨hW4, .inr (.inr ⟨HP0.out, HMN.out, by rw [hE.out]; rfl⟩)⟩
          · obtain ⟨b9, o9, e9, hb9, hc9⟩ := (Rd.below hsub kb (Nat.le_refl _)).mono kb.size q hq
            injection e9 with e9
            injection e9 with e8 e9
            subst e8 e9
            have x2 := hc9 2 (by omega)
            change w4.cell? ⟨b, o + lo * 3 + q * 3 + 2, none⟩ = some (.int .i64 (T.to k (lo + q))) at x2
            have hstq : T.st a (k + 1) = T.to k (lo + q) := by
              show T.nxt k (T.st a k) (a k) (T.el k) = _
              rw [← HSK.out, ← HAK.out]
              exact Trel.nxt_some HSEC.out ((HFF.out (lo + q) (by omega)).2 ⟨by omega, by omega⟩) hqa _ (by have := HEL.out; omega) (Nat.le_refl _)
            obtain ⟨tv, htv⟩ : ∃ z, z = T.to k (lo + q) := ⟨_, rfl⟩
            rw [← htv] at x2
            obtain ⟨i1, i2, i3, i4⟩ := HP.out.shape.ins k hltn (lo + q) (by have := HEL.out; omega)
            have HSTN : Hid (tv = T.st a (k + 1)) := htv.trans hstq.symm
            have HN : Hid (∀ i, i < k + 1 → 0 ≤ T.st a (i + 1)) := fun i hi => by
              by_cases e : i = k
              · subst e; rw [hstq]; exact i3
              · exact HA.out i (by omega)
            have HN2 : Hid (0 ≤ T.st a (k + 1) ∧ T.st a (k + 1) < T.W (k + 1)) := by rw [hstq]; exact ⟨i3, i4⟩
            have hq0 : (0 : Int) ≤ (q : Int) := by omega
            have hq0n : ¬ (q : Int) < 0 := by omega
            have hqh : (q : Int) < ((hi - lo : Nat) : Int) := by omega
            have HB4 := hid hB4
            clear htv hstq i1 i2 i3 i4 hsub hc3 hB3 kb hB4 hc9 hqa hW4
            go_wp2
            go_roundg (gk - 1)
            case measure => omega
            case rel => exact ⟨k + 1, by go_num, by omega, by omega, by rw [HSTN.out], HN, HN2, HB4.out⟩
        · have hlt' : ¬ (k : Int) < (m : Int) := by omega
          have hE : Hid (T.accB a = true) := by
            show _ = _
            unfold Trel.accB
            exact decide_eq_true fun i hi => HA.out i (by have := HMN.out; omega)
          go_wp2
          go_ret2
          exact ⟨hW, .inr (.inr ⟨HP0.out, HMN.out, by rw [hE.out]; rfl⟩)⟩
    · have hmn1 : ((m : Int) != (T.n : Int)) = true := by simp; omega
      have HMN := hid hmn
      clear hmn
      go_wp2
      go_ret2
      exact ⟨hW, .inr (.inl ⟨HP0.out, HMN.out, rfl⟩)⟩
  · have hne : (T.properE != 0) = true := by simpa using hp
    have HP := hid hp
    obtain ⟨x, hx⟩ : ∃ x, x = T.properE := ⟨_, rfl⟩
    have HX := hid hx
    rw [← hx] at hne ⊢
    clear hp hx
    go_wp2
    go_ret2
    exact ⟨hW, .inl ⟨HP.out, by rw [← HX.out]; rfl⟩⟩
end Go.Proofs.Ytnocbkhnmdmfhaa
