/- The weights of the paths: sums and shifts of polynomials. -/
import Derived.Test.YtnocbkhnmdmfhaaPolTab
import Derived.Test.YtnocbkhnmdmfhaaValued
namespace Go.Proofs.Ytnocbkhnmdmfhaa
open Go.RowKit

/-- A polynomial is returned. -/
def PolRet (x : Nat → Nat) (w : World) (e : Ending) (w' : World) : Prop := ∃ A n c, e = .returned (.slice A n c) ∧ PolV w' (.slice A n c) x ∧ Below w.heap.size w w'
theorem plen_bound {x : Nat → Nat} {D : Nat} (h : ∀ t, D ≤ t → x t = 0) (n : Nat) : plen x n ≤ D := by
  induction n with
  | zero => exact Nat.zero_le _
  | succ n ih =>
    show (if x n ≠ 0 then n + 1 else plen x n) ≤ D
    by_cases h0 : x n = 0
    · rw [if_neg (by simpa using h0)]; exact ih
    · rw [if_pos h0]
      by_cases h1 : D ≤ n
      · exact absurd (h n h1) h0
      · omega
theorem polRet_of {x y : Nat → Nat} {n : Nat} {w w' : World} {e : Ending} (h : PolPost (plen x n) x w e w') (h1 : ∀ t, n ≤ t → x t = 0) (h2 : ∀ t, 66 ≤ t → x t = 0) (h3 : ∀ t, x t = y t) : PolRet y w e w' := by
  obtain ⟨v, rfl, hv, hB⟩ := h
  obtain ⟨A, c, rfl⟩ := hv.isSlice
  refine ⟨A, _, c, rfl, PolV.congr ⟨_, hv.monoB (Nat.zero_le _), plen_bound h2 n, fun t ht => ?_, fun D hD => plen_bound hD n⟩ h3, hB⟩
  by_cases h4 : t < n
  · exact plen_out ht h4
  · exact h1 t (by omega)
theorem PolV.tab {w : World} {A : Option Addr} {n c : Nat} {x : Nat → Nat} (h : PolV w (.slice A n c) x) : NatTab w w.heap.size A n x ∧ n ≤ 66 ∧ (∀ t, n ≤ t → x t = 0) ∧ n ≤ c ∧ c ≤ maxLen := by
  obtain ⟨d, h1, h2, h3, _⟩ := h
  obtain ⟨A', c', e, k1, k2, k3⟩ := h1.tab
  injection e with e1 e2 e4
  subst e1 e2 e4
  exact ⟨k3, h2, h3, k1, k2⟩
theorem PolV.short {w : World} {A : Option Addr} {n c : Nat} {x : Nat → Nat} (h : PolV w (.slice A n c) x) {D : Nat} (hD : ∀ t, D ≤ t → x t = 0) : n ≤ D := by
  obtain ⟨d, h1, _, _, h4⟩ := h
  obtain ⟨A', c', e, _⟩ := h1.tab
  injection e with _ e2 _
  subst e2
  exact h4 D hD
theorem mono_short {e D : Nat} (hD : ∀ t, D ≤ t → (if t = e then 1 else 0) = 0) : e + 1 ≤ D := by
  by_cases h : D ≤ e
  · have := hD e h
    rw [if_pos rfl] at this
    omega
  · omega
theorem addP_full {a b : Nat} {p q : Nat → Nat} (hp : ∀ t, a ≤ t → p t = 0) (hq : ∀ t, b ≤ t → q t = 0) (t : Nat) : addP a b p q t = p t + q t := by
  unfold addP
  by_cases h1 : t < a
  · rw [if_pos h1]
    by_cases h2 : t < b
    · rw [if_pos h2]
    · rw [if_neg h2, hq t (by omega)]
  · rw [if_neg h1, hp t (by omega)]
    by_cases h2 : t < b
    · rw [if_pos h2]
    · rw [if_neg h2, hq t (by omega)]
theorem add_pol {P : Program} {F : Nat} {ags : List Value} {A A2 : Option Addr} {a b c c2 : Nat} {p q : Nat → Nat} {w : World} (h : PolV w (.slice A a c) p) (h2 : PolV w (.slice A2 b c2) q)
    (hc : NatTab w w.heap.size A a p → NatTab w w.heap.size A2 b q → a ≤ 2048 → b ≤ 2048 → (∀ t, addP a b p q t = p t + q t) → Calls P F ags.toArray w (PolPost (plen (addP a b p q) (max a b)) (addP a b p q) w)) :
    Calls P F ags.toArray w (PolRet (fun t => p t + q t) w) := by
  obtain ⟨t1, a1, a2, _⟩ := h.tab
  obtain ⟨t2, b1, b2, _⟩ := h2.tab
  have hf := addP_full a2 b2
  refine (hc t1 t2 (by omega) (by omega) hf).mono fun e w' hh => polRet_of hh (fun t ht => ?_) (fun t ht => ?_) hf
  · rw [hf, a2 t (by omega), b2 t (by omega)]
  · rw [hf, a2 t (by omega), b2 t (by omega)]
theorem eAdd_pol (A A2 : Option Addr) (a b c c2 : Nat) (p q : Nat → Nat) (w : World) (h : PolV w (.slice A a c) p) (h2 : PolV w (.slice A2 b c2) q) (hp : Hid (∀ t, dl (p t) ≤ 1000000)) (hq : Hid (∀ t, dl (q t) ≤ 1000000)) (hs : Hid (∀ t, dl (p t + q t) ≤ 1000000)) :
    Calls Try.prog 153 #[.agg #[], .slice A a c, .slice A2 b c2] w (PolRet (fun t => p t + q t) w) :=
  add_pol (ags := [.agg #[], .slice A a c, .slice A2 b c2]) h h2 fun t1 t2 a1 b1 hf => eAdd_any A A2 a b c c2 p q w t1 t2 a1 b1 (fun k _ => hp.out k) (fun k _ => hq.out k) (fun k => by rw [hf]; exact hs.out k)
theorem polyAdd_pol (A A2 : Option Addr) (a b c c2 : Nat) (p q : Nat → Nat) (w : World) (h : PolV w (.slice A a c) p) (h2 : PolV w (.slice A2 b c2) q) (hp : Hid (∀ t, dl (p t) ≤ 1000000)) (hq : Hid (∀ t, dl (q t) ≤ 1000000)) (hs : Hid (∀ t, dl (p t + q t) ≤ 1000000)) :
    Calls Try.prog 55 #[.slice A a c, .slice A2 b c2] w (PolRet (fun t => p t + q t) w) :=
  add_pol (ags := [.slice A a c, .slice A2 b c2]) h h2 fun t1 t2 a1 b1 hf => polyAdd_any A A2 a b c c2 p q w t1 t2 a1 b1 (fun k _ => hp.out k) (fun k _ => hq.out k) (fun k => by rw [hf]; exact hs.out k)
/-- The monomial of degree e; a polynomial times it. -/
def mono (e t : Nat) : Nat := if t = e then 1 else 0
def shiftP (e : Nat) (p : Nat → Nat) (t : Nat) : Nat := if e ≤ t then p (t - e) else 0
theorem plen_mono {e d : Nat} (h : e < d) : plen (mono e) d = e + 1 := by
  rw [plen_more (x := mono e) (n := e + 1) (m := d) (by omega) fun k h1 _ => show mono e k = 0 from if_neg (by omega)]
  show (if mono e e ≠ 0 then e + 1 else plen (mono e) e) = e + 1
  rw [if_pos (by unfold mono; rw [if_pos rfl]; omega)]
theorem mulS_mono_shift {p : Nat → Nat} {e : Nat} (a t : Nat) : mulS p (mono e) (e + 1) a t = if e ≤ t ∧ t - e < a then p (t - e) else 0 := by
  induction a with
  | zero => rw [if_neg (by omega)]; rfl
  | succ a ih =>
    show mulS p (mono e) (e + 1) a t + mulRow p (mono e) (e + 1) a t = _
    rw [ih]
    unfold mulRow
    by_cases h1 : e ≤ t ∧ t - e < a
    · have e1 : (if e ≤ t ∧ t - e < a + 1 then p (t - e) else 0) = p (t - e) := if_pos (by omega)
      rw [if_pos h1, e1]
      by_cases h2 : a ≤ t ∧ t - a < e + 1
      · have e2 : mono e (t - a) = 0 := if_neg (by omega)
        rw [if_pos h2, e2, Nat.mul_zero, Nat.add_zero]
      · rw [if_neg h2, Nat.add_zero]
    · rw [if_neg h1, Nat.zero_add]
      by_cases h3 : e ≤ t ∧ t - e < a + 1
      · have h4 : t - e = a := by omega
        have e2 : mono e (t - a) = 1 := if_pos (by omega)
        rw [if_pos h3, if_pos (show a ≤ t ∧ t - a < e + 1 by omega), e2, Nat.mul_one, h4]
      · rw [if_neg h3]
        by_cases h2 : a ≤ t ∧ t - a < e + 1
        · have e2 : mono e (t - a) = 0 := if_neg (by omega)
          rw [if_pos h2, e2, Nat.mul_zero]
        · rw [if_neg h2]
theorem mulP_shift {p : Nat → Nat} {e n1 n2 : Nat} (hp : ∀ t, n1 ≤ t → p t = 0) (h : e < n2) (t : Nat) : mulP n1 n2 p (mono e) t = shiftP e p t := by
  unfold mulP shiftP
  rw [plen_mono h, mulS_mono_shift]
  by_cases h1 : e ≤ t
  · rw [if_pos h1]
    by_cases h2 : t - e < plen p n1
    · rw [if_pos ⟨h1, h2⟩]
    · rw [if_neg fun hh => h2 hh.2]
      by_cases h3 : t - e < n1
      · exact (plen_out (by omega) h3).symm
      · exact (hp _ (by omega)).symm
  · rw [if_neg h1, if_neg fun hh => h1 hh.1]
theorem shiftP_dl {p : Nat → Nat} {e : Nat} (hp : ∀ t, dl (p t) ≤ 1000000) (t : Nat) : dl (shiftP e p t) ≤ 1000000 := by
  unfold shiftP
  split
  · exact hp _
  · rw [dl_zero]; omega
theorem mono_dl (e t : Nat) : dl (mono e t) ≤ 1000000 := by
  unfold mono
  split
  · rw [dl_small (by omega) (by omega)]; omega
  · rw [dl_zero]; omega
theorem mul_pol {P : Program} {F : Nat} {ags : List Value} {A A2 : Option Addr} {a b c c2 e : Nat} {p : Nat → Nat} {w : World} (h : PolV w (.slice A a c) p) (h2 : PolV w (.slice A2 b c2) (mono e)) (hz : ∀ t, 66 ≤ t → shiftP e p t = 0)
    (hc : NatTab w w.heap.size A a p → NatTab w w.heap.size A2 b (mono e) → a ≤ 1024 → b ≤ 1024 → (∀ t, mulP a b p (mono e) t = shiftP e p t) → Calls P F ags.toArray w (PolPost (plen (mulP a b p (mono e)) (a + b)) (mulP a b p (mono e)) w)) :
    Calls P F ags.toArray w (PolRet (shiftP e p) w) := by
  obtain ⟨t1, a1, a2, _⟩ := h.tab
  obtain ⟨t2, b1, b2, _⟩ := h2.tab
  have he : e < b := by
    by_cases h3 : e < b
    · exact h3
    · have := b2 e (by omega)
      unfold mono at this
      rw [if_pos rfl] at this
      omega
  have hf := mulP_shift a2 he
  refine (hc t1 t2 (by omega) (by omega) hf).mono fun e' w' hh => polRet_of hh (fun t ht => ?_) (fun t ht => by rw [hf]; exact hz t ht) hf
  rw [hf]
  unfold shiftP
  split
  · exact a2 _ (by omega)
  · rfl
theorem eMul_pol (A A2 : Option Addr) (a b c c2 e : Nat) (p : Nat → Nat) (w : World) (h : PolV w (.slice A a c) p) (h2 : PolV w (.slice A2 b c2) (mono e)) (hz : Hid (∀ t, 66 ≤ t → shiftP e p t = 0)) (hp : Hid (∀ t, dl (p t) ≤ 1000000)) :
    Calls Try.prog 154 #[.agg #[], .slice A a c, .slice A2 b c2] w (PolRet (shiftP e p) w) :=
  mul_pol (ags := [.agg #[], .slice A a c, .slice A2 b c2]) h h2 hz.out fun t1 t2 a1 b1 hf => eMul_any A A2 a b c c2 p (mono e) w t1 t2 a1 b1 (fun k _ => hp.out k) (fun k _ => mono_dl e k) (fun k => by rw [hf]; exact shiftP_dl hp.out k)
theorem polyMul_pol (A A2 : Option Addr) (a b c c2 e : Nat) (p : Nat → Nat) (w : World) (h : PolV w (.slice A a c) p) (h2 : PolV w (.slice A2 b c2) (mono e)) (hz : Hid (∀ t, 66 ≤ t → shiftP e p t = 0)) (hp : Hid (∀ t, dl (p t) ≤ 1000000)) :
    Calls Try.prog 56 #[.slice A a c, .slice A2 b c2] w (PolRet (shiftP e p) w) :=
  mul_pol (ags := [.slice A a c, .slice A2 b c2]) h h2 hz.out fun t1 t2 a1 b1 hf => polyMul_any A A2 a b c c2 p (mono e) w t1 t2 a1 b1 (fun k _ => hp.out k) (fun k _ => mono_dl e k) (fun k => by rw [hf]; exact shiftP_dl hp.out k)
/-- The degree of an edge's label. -/
def Trel.dg (T : Trel) (i j : Nat) : Nat := if T.lb i j = 0 then 0 else 1
/-- The weights of the paths over the first edges of section i. -/
def Trel.pwE (T : Trel) (prev : Nat → Nat → Nat) (i : Nat) : Nat → Nat → Nat → Nat
  | 0, _, _ => 0
  | j + 1, u, t => T.pwE prev i j u t + if (T.to i j).toNat = u then shiftP (T.dg i j) (prev (T.fr i j).toNat) t else 0
/-- How many paths to node u at time i have weight t. -/
def Trel.pw (T : Trel) : Nat → Nat → Nat → Nat
  | 0, u, t => if u = 0 then mono 0 t else 0
  | i + 1, u, t => T.pwE (T.pw i) i (T.el i) u t
def Trel.pwX (T : Trel) (i j u v : Nat) : Nat → Nat := if u ≤ i then T.pw u v else if u = i + 1 then T.pwE (T.pw i) i j v else fun _ => 0
section
variable {T : Trel}
theorem Trel.pwE_le {prev : Nat → Nat → Nat} {i M : Nat} (hp : ∀ v t, prev v t ≤ M) : ∀ j u t, T.pwE prev i j u t ≤ j * M := by
  intro j
  induction j with
  | zero => intro u t; simp [Trel.pwE]
  | succ j ih =>
    intro u t
    have h1 := ih u t
    show _ + (if _ then _ else 0) ≤ (j + 1) * M
    rw [Nat.add_mul, Nat.one_mul]
    have h2 : shiftP (T.dg i j) (prev (T.fr i j).toNat) t ≤ M := by
      unfold shiftP
      split
      · exact hp _ _
      · exact Nat.zero_le _
    split <;> omega
theorem Trel.pw_le (hs : T.Shape) : ∀ i, i ≤ T.n → ∀ u t, T.pw i u t ≤ 262144 ^ i := by
  intro i
  induction i with
  | zero =>
    intro _ u t
    show (if u = 0 then mono 0 t else 0) ≤ _
    unfold mono
    split
    · split <;> simp
    · simp
  | succ i ih =>
    intro hi u t
    have h1 := Trel.pwE_le (T := T) (i := i) (ih (by omega)) (T.el i) u t
    have h2 := hs.elb (i := i) (by omega)
    show T.pwE (T.pw i) i (T.el i) u t ≤ _
    have h3 : T.el i * 262144 ^ i ≤ 262144 * 262144 ^ i := Nat.mul_le_mul_right _ (by omega)
    rw [Nat.pow_succ, Nat.mul_comm (262144 ^ i)]
    exact Nat.le_trans h1 h3
theorem Trel.pwE_out {prev : Nat → Nat → Nat} {i : Nat} (hp : ∀ v t, i < t → prev v t = 0) : ∀ j u t, i + 1 < t → T.pwE prev i j u t = 0 := by
  intro j
  induction j with
  | zero => intro u t _; rfl
  | succ j ih =>
    intro u t ht
    show _ + (if _ then _ else 0) = 0
    rw [ih u t ht]
    have h2 : shiftP (T.dg i j) (prev (T.fr i j).toNat) t = 0 := by
      have hd : T.dg i j ≤ 1 := by unfold Trel.dg; split <;> omega
      unfold shiftP
      split
      · exact hp _ _ (by omega)
      · rfl
    rw [h2]
    simp
theorem Trel.pw_out : ∀ i u t, i < t → T.pw i u t = 0 := by
  intro i
  induction i with
  | zero =>
    intro u t ht
    show (if u = 0 then mono 0 t else 0) = 0
    unfold mono
    rw [if_neg (show ¬ t = 0 by omega)]
    split <;> rfl
  | succ i ih => exact fun u t ht => Trel.pwE_out ih _ u t ht
theorem Trel.pwX_next (i u v : Nat) (t : Nat) : T.pwX i (T.el i) u v t = T.pwX (i + 1) 0 u v t := by
  unfold Trel.pwX
  by_cases h : u ≤ i
  · rw [if_pos h, if_pos (by omega)]
  · rw [if_neg h]
    by_cases h2 : u = i + 1
    · subst h2
      rw [if_pos rfl, if_pos (Nat.le_refl _)]
      rfl
    · rw [if_neg h2, if_neg (by omega)]
      split
      · rfl
      · rfl
theorem Trel.pwX_put (i j u v t : Nat) {fn tn : Nat} (hf : (T.fr i j).toNat = fn) (ht : (T.to i j).toNat = tn) :
    updP (T.pwX i j) (i + 1) tn (fun t => T.pwX i j (i + 1) tn t + shiftP (T.dg i j) (T.pwX i j i fn) t) u v t = T.pwX i (j + 1) u v t := by
  have e1 : T.pwX i j i fn = T.pw i fn := by unfold Trel.pwX; rw [if_pos (Nat.le_refl _)]
  have e2 : T.pwX i j (i + 1) tn = T.pwE (T.pw i) i j tn := by unfold Trel.pwX; rw [if_neg (by omega), if_pos rfl]
  rw [e1, e2]
  unfold updP
  by_cases h : u = i + 1
  · subst h
    have e3 : T.pwX i (j + 1) (i + 1) v t = T.pwE (T.pw i) i j v t + if (T.to i j).toNat = v then shiftP (T.dg i j) (T.pw i (T.fr i j).toNat) t else 0 := by
      unfold Trel.pwX
      rw [if_neg (by omega), if_pos rfl]
      rfl
    rw [e3, hf, ht]
    by_cases h2 : v = tn
    · subst h2
      rw [if_pos ⟨rfl, rfl⟩, if_pos rfl]
    · rw [if_neg fun hh => h2 hh.2, if_neg fun hh => h2 hh.symm]
      unfold Trel.pwX
      rw [if_neg (by omega), if_pos rfl, Nat.add_zero]
  · rw [if_neg fun hh => h hh.1]
    unfold Trel.pwX
    by_cases h2 : u ≤ i
    · rw [if_pos h2, if_pos h2]
    · rw [if_neg h2, if_neg h2, if_neg h, if_neg h]
theorem Trel.pwX_dl (hs : T.Shape) {i j : Nat} (hi : i < T.n) (hj : j ≤ T.el i) (u v t : Nat) : dl (T.pwX i j u v t) ≤ 37 := by
  unfold Trel.pwX
  have h2 := hs.elb (i := i) hi
  have h64 := hs.n64
  by_cases h : u ≤ i
  · rw [if_pos h]
    exact dl_path (i := u) (by omega) (Trel.pw_le hs u (by omega) v t)
  · rw [if_neg h]
    by_cases h3 : u = i + 1
    · rw [if_pos h3]
      refine dl_path (i := i + 1) (by omega) ?_
      have h1 := Trel.pwE_le (T := T) (i := i) (Trel.pw_le hs i (by omega)) j v t
      have h3 : j * 262144 ^ i ≤ 262144 * 262144 ^ i := Nat.mul_le_mul_right _ (by omega)
      rw [Nat.pow_succ, Nat.mul_comm (262144 ^ i)]
      exact Nat.le_trans h1 h3
    · rw [if_neg h3]
      rw [dl_zero]
      omega
theorem Trel.pwX_out {i j : Nat} (u v t : Nat) (ht : i + 1 < t) : T.pwX i j u v t = 0 := by
  unfold Trel.pwX
  by_cases h : u ≤ i
  · rw [if_pos h]
    exact Trel.pw_out u v t (by omega)
  · rw [if_neg h]
    split
    · exact Trel.pwE_out (fun v t h => Trel.pw_out i v t h) _ _ _ ht
    · rfl
end
end Go.Proofs.Ytnocbkhnmdmfhaa
