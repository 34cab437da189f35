/- The words that rows generate, in the order of Span; all words of a length; Griesmer's bound for them: plain laws. -/
import Derived.Test.YtgininddoalenaaFldLaw
import Derived.Test.YtgininddoalenaaGrk
import Derived.Test.YtgininddoalenaaWordBounds
namespace Go.Proofs.Ytgininddoalenaa

/-- N words W are what Span returns for the first i rows. -/
def SpanR (q : Nat) (add mul : Nat → Nat → Nat) (n : Nat) (R : Nat → Nat → Nat) : Nat → Nat → (Nat → Nat → Nat) → Prop
  | 0, N, W => N = 1 ∧ ∀ k, k < n → W 0 k = 0
  | i + 1, N, W => (SpanR q add mul n R i N W ∧ ∃ j, j < N ∧ ∀ k, k < n → W j k = R i k) ∨
      ∃ N0 W0, SpanR q add mul n R i N0 W0 ∧ (∀ j, j < N0 → ∃ k, k < n ∧ W0 j k ≠ R i k) ∧ N = q * N0 ∧ ∀ v, v < N → ∀ k, k < n → W v k = add (W0 (v % N0) k) (mul (v / N0) (R i k))
/-- .. in a field. -/
def SpanK {K : Type} [Add K] [Mul K] [Zero K] (q : Nat) (e : Nat → K) (n : Nat) (R : Nat → Nat → K) : Nat → Nat → (Nat → Nat → K) → Prop
  | 0, N, W => N = 1 ∧ ∀ k, k < n → W 0 k = 0
  | i + 1, N, W => (SpanK q e n R i N W ∧ ∃ j, j < N ∧ ∀ k, k < n → W j k = R i k) ∨
      ∃ N0 W0, SpanK q e n R i N0 W0 ∧ (∀ j, j < N0 → ∃ k, k < n ∧ W0 j k ≠ R i k) ∧ N = q * N0 ∧ ∀ v, v < N → ∀ k, k < n → W v k = W0 (v % N0) k + e (v / N0) * R i k
/-- N words that are closed under sums with multiples, and different. -/
structure LinW {K : Type} [Add K] [Mul K] (n N : Nat) (W : Nat → Nat → K) : Prop where
  lin : ∀ u v, u < N → v < N → ∀ a, ∃ l, l < N ∧ ∀ k, k < n → W l k = W u k + a * W v k
  diff : ∀ u v, u < N → v < N → (∀ k, k < n → W u k = W v k) → u = v
theorem LinW.zero {K : Type} [Add K] [Mul K] [Neg K] [Zero K] [One K] (F : Fie K) {n N : Nat} {W : Nat → Nat → K} (h : LinW n N W) (hN : 0 < N) : ∃ l, l < N ∧ ∀ k, k < n → W l k = 0 := by
  obtain ⟨l, hl, he⟩ := h.lin 0 0 hN hN (-1)
  exact ⟨l, hl, fun k hk => by rw [he k hk, F.negOne, F.addN]⟩
section
variable {K : Type} [Add K] [Mul K] [Neg K] [Zero K] [One K] (F : Fie K) {q n : Nat} {e : Nat → K} {R : Nat → Nat → K}
include F
theorem SpanK.facts (hq : 2 ≤ q) (hinj : ∀ a b, a < q → b < q → e a = e b → a = b) (hsur : ∀ x, ∃ a, a < q ∧ e a = x) : ∀ i N W, SpanK q e n R i N W → (∃ s, N = q ^ s) ∧ LinW n N W := by
  intro i
  induction i with
  | zero =>
    rintro N W ⟨rfl, h0⟩
    refine ⟨⟨0, rfl⟩, fun u v hu hv a => ⟨0, by omega, fun k hk => ?_⟩, fun u v hu hv _ => by omega⟩
    obtain rfl : u = 0 := by omega
    obtain rfl : v = 0 := by omega
    rw [h0 k hk, F.mulZ, F.zeroA]
  | succ i ih =>
    rintro N W (⟨h, _⟩ | ⟨N0, W0, h, hnew, rfl, hW⟩)
    · exact ih N W h
    · obtain ⟨⟨s, hs⟩, hlin⟩ := ih N0 W0 h
      have hN0 : 0 < N0 := by rw [hs]; exact Nat.pow_pos (by omega)
      have hdiv : ∀ v, v < q * N0 → v / N0 < q := fun v hv => (Nat.div_lt_iff_lt_mul hN0).2 hv
      have hmod : ∀ v, v % N0 < N0 := fun v => Nat.mod_lt _ hN0
      refine ⟨⟨s + 1, by rw [hs, Nat.pow_succ, Nat.mul_comm]⟩, fun u v hu hv a => ?_, fun u v hu hv hsame => ?_⟩
      · obtain ⟨l, hl, hle⟩ := hlin.lin (u % N0) (v % N0) (hmod u) (hmod v) a
        obtain ⟨c, hc, hce⟩ := hsur (e (u / N0) + a * e (v / N0))
        have hlt : l + N0 * c < q * N0 := by
          have : N0 * (c + 1) ≤ N0 * q := Nat.mul_le_mul_left N0 hc
          rw [Nat.mul_add, Nat.mul_comm N0 q] at this; omega
        refine ⟨l + N0 * c, hlt, fun k hk => ?_⟩
        rw [hW _ hlt k hk, hW u hu k hk, hW v hv k hk, Nat.add_mul_mod_self_left, Nat.add_mul_div_left _ _ hN0, Nat.mod_eq_of_lt hl, Nat.div_eq_of_lt hl, Nat.zero_add, hce, hle k hk]
        rw [F.distR, F.dist, F.addA, F.addA, F.mulA, F.addL (a * W0 (v % N0) k)]
      · by_cases e1 : u / N0 = v / N0
        · have e2 := hlin.diff (u % N0) (v % N0) (hmod u) (hmod v) fun k hk => by
            have := hsame k hk
            rw [hW u hu k hk, hW v hv k hk, e1] at this
            exact F.cancelR this
          rw [← Nat.mod_add_div u N0, ← Nat.mod_add_div v N0, e1, e2]
        · exfalso
          have hc0 : e (u / N0) + -1 * e (v / N0) ≠ 0 := fun h0 => e1 (hinj _ _ (hdiv u hu) (hdiv v hv) (by rw [F.negOne] at h0; exact F.subEq h0))
          obtain ⟨y, hy⟩ := F.inv _ hc0
          -- the row is in the old list
          obtain ⟨z, hz, hz0⟩ := hlin.zero F hN0
          obtain ⟨l1, hl1, h1⟩ := hlin.lin z (v % N0) hz (hmod v) y
          obtain ⟨l2, hl2, h2⟩ := hlin.lin l1 (u % N0) hl1 (hmod u) (y * -1)
          obtain ⟨k, hk, hne⟩ := hnew l2 hl2
          apply hne
          rw [h2 k hk, h1 k hk, hz0 k hk, F.zeroA, F.mulA, F.negOne, ← F.dist]
          have hs := hsame k hk
          rw [hW u hu k hk, hW v hv k hk] at hs
          have h3 : W0 (v % N0) k + -W0 (u % N0) k = (e (u / N0) + -1 * e (v / N0)) * R i k := by
            rw [F.distR, F.negOne, F.negMul]
            refine F.cancelR (x := W0 (u % N0) k + e (v / N0) * R i k) ?_
            have h4 : W0 (v % N0) k + -W0 (u % N0) k + (W0 (u % N0) k + e (v / N0) * R i k) = W0 (v % N0) k + e (v / N0) * R i k := by
              rw [F.addA, ← F.addA (-W0 (u % N0) k), F.negA, F.zeroA]
            have h5 : e (u / N0) * R i k + -(e (v / N0) * R i k) + (W0 (u % N0) k + e (v / N0) * R i k) = W0 (u % N0) k + e (u / N0) * R i k := by
              rw [F.addC (W0 (u % N0) k), F.addA, ← F.addA (-(e (v / N0) * R i k)), F.negA, F.zeroA, F.addC]
            rw [h4, h5, hs]
          rw [h3, ← F.mulA, F.mulC y, hy, F.oneM]
theorem LinW.griesmer [DecidableEq K] {N s : Nat} {W : Nat → Nat → K} {d : Int} (h : LinW n N W) (hq : 2 ≤ q) (hsur : ∀ x, ∃ a, a < q ∧ e a = x) (hN : N = q ^ s) (hd : 1 ≤ d) (hmin : ∀ v, v < N → (∃ t, t < n ∧ W v t ≠ 0) → d ≤ wtS n (fun _ => true) (W v)) : grN q d s ≤ n := by
  have hg := griesmer_k F hq e hsur W (fun x => ∃ i, i < N ∧ ∀ t, t < n → x t = W i t) (fun i hi => ⟨i, hi, fun _ _ => rfl⟩) (n := n) (N := N) (fun x y a => by
    rintro ⟨u, hu, hx⟩ ⟨v, hv, hy⟩
    obtain ⟨l, hl, he⟩ := h.lin u v hu hv a
    exact ⟨l, hl, fun t ht => by show x t + a * y t = _; rw [he t ht, hx t ht, hy t ht]⟩) s (fun _ => true) d hd (fun x => by
    rintro ⟨i, hi, hx⟩ ⟨t, ht, _, hne⟩
    have := hmin i hi ⟨t, ht, by rw [← hx t ht]; exact hne⟩
    have e2 : wtS n (fun _ => true) x = wtS n (fun _ => true) (W i) := sig_congr fun t ht => by rw [hx t ht]
    rw [e2]; exact this) (by
    have h1 : sig N (fun i => ind (repS W n (fun _ => true) i)) = sig N (fun _ => 1) := sig_congr fun i hi => ind_t fun j hj hs => by
      have := h.diff j i (by omega) hi fun k hk => hs k hk rfl
      omega
    rw [h1, sig_const, hN]
    simp)
  rw [sig_congr (g := fun _ => 1) fun t _ => ind_t rfl, sig_const] at hg
  omega
end

/-- The numbers below q. -/
structure El (q : Nat) where
  val : Nat
  lt : val < q
theorem El.ext' {q : Nat} {x y : El q} (h : x.val = y.val) : x = y := by
  cases x; cases y
  simp only at h
  subst h
  rfl
theorem fie_of {q : Nat} {add mul : Nat → Nat → Nat} (h : FieldLaws q add mul) : ∃ (_ : Add (El q)) (_ : Mul (El q)) (_ : Neg (El q)) (_ : Zero (El q)) (_ : One (El q)),
    Fie (El q) ∧ (∀ x y : El q, (x + y).val = add x.val y.val) ∧ (∀ x y : El q, (x * y).val = mul x.val y.val) ∧ (0 : El q).val = 0 ∧ (1 : El q).val = 1 := by
  have hn : ∀ x : El q, ∃ y : El q, add x.val y.val = 0 := fun x => by
    obtain ⟨y, hy, e⟩ := h.neg x.val x.lt
    exact ⟨⟨y, hy⟩, e⟩
  obtain ⟨ng, hng⟩ := Classical.axiomOfChoice hn
  have h2 := h.two
  let iA : Add (El q) := ⟨fun x y => ⟨add x.val y.val, h.addLt _ _⟩⟩
  let iM : Mul (El q) := ⟨fun x y => ⟨mul x.val y.val, h.mulLt _ _⟩⟩
  let iN : Neg (El q) := ⟨ng⟩
  let i0 : Zero (El q) := ⟨⟨0, by omega⟩⟩
  let i1 : One (El q) := ⟨⟨1, by omega⟩⟩
  refine ⟨iA, iM, iN, i0, i1, ?_, fun _ _ => rfl, fun _ _ => rfl, rfl, rfl⟩
  refine ⟨fun x y z => El.ext' ?_, fun x y => El.ext' ?_, fun x => El.ext' ?_, fun x => El.ext' ?_, fun x y z => El.ext' ?_, fun x y => El.ext' ?_, fun x => El.ext' ?_, fun x y z => El.ext' ?_, fun x hx => ?_, fun he => ?_⟩
  · exact h.addAssoc _ _ _ x.lt y.lt z.lt
  · exact h.addComm _ _
  · exact h.zeroAdd _ x.lt
  · show add (ng x).val x.val = 0
    rw [h.addComm]; exact hng x
  · exact h.mulAssoc _ _ _ x.lt y.lt z.lt
  · exact h.mulComm _ _ x.lt y.lt
  · exact h.oneMul _ x.lt
  · exact h.distrib _ _ _ x.lt y.lt z.lt
  · obtain ⟨y, hy, e⟩ := h.inv x.val x.lt (fun e => hx (El.ext' e))
    exact ⟨⟨y, hy⟩, El.ext' e⟩
  · have := congrArg El.val he
    have h1 : (1 : Nat) = 0 := this
    omega
/-- The element with a number. -/
def toEl (q : Nat) (hq : 0 < q) (x : Nat) : El q := ⟨x % q, Nat.mod_lt _ hq⟩
theorem toEl_val {q x : Nat} (hq : 0 < q) (h : x < q) : (toEl q hq x).val = x := Nat.mod_eq_of_lt h
theorem toEl_inj {q x y : Nat} (hq : 0 < q) (hx : x < q) (hy : y < q) (h : toEl q hq x = toEl q hq y) : x = y := by
  rw [← toEl_val hq hx, ← toEl_val hq hy, h]
theorem toEl_sur {q : Nat} (hq : 0 < q) (x : El q) : ∃ a, a < q ∧ toEl q hq a = x := ⟨x.val, x.lt, El.ext' (toEl_val hq x.lt)⟩
section
variable {q : Nat} {add mul : Nat → Nat → Nat} {n : Nat} {R : Nat → Nat → Nat}
theorem SpanR.lt (h : FieldLaws q add mul) : ∀ i N W, SpanR q add mul n R i N W → 0 < N ∧ ∀ v, v < N → ∀ k, k < n → W v k < q := by
  have h2 := h.two
  intro i
  induction i with
  | zero =>
    rintro N W ⟨rfl, h0⟩
    exact ⟨by omega, fun v hv k hk => by obtain rfl : v = 0 := by omega
                                         rw [h0 k hk]; omega⟩
  | succ i ih =>
    rintro N W (⟨h1, _⟩ | ⟨N0, W0, h1, _, rfl, hW⟩)
    · exact ih N W h1
    · exact ⟨Nat.mul_pos (by omega) (ih N0 W0 h1).1, fun v hv k hk => by rw [hW v hv k hk]; exact h.addLt _ _⟩
theorem SpanR.toK [iA : Add (El q)] [iM : Mul (El q)] [i0 : Zero (El q)] (h : FieldLaws q add mul) (hq : 0 < q) (ha : ∀ x y : El q, (x + y).val = add x.val y.val) (hm : ∀ x y : El q, (x * y).val = mul x.val y.val) (h0 : (0 : El q).val = 0)
    (hR : ∀ i k, R i k < q) : ∀ i N W, SpanR q add mul n R i N W → SpanK q (toEl q hq) n (fun i k => toEl q hq (R i k)) i N (fun v k => toEl q hq (W v k)) := by
  intro i
  induction i with
  | zero =>
    rintro N W ⟨rfl, hz⟩
    exact ⟨rfl, fun k hk => El.ext' (by show (toEl q hq (W 0 k)).val = _; rw [hz k hk, toEl_val hq hq, h0])⟩
  | succ i ih =>
    rintro N W (⟨h1, j, hj, hs⟩ | ⟨N0, W0, h1, hnew, rfl, hW⟩)
    · exact .inl ⟨ih N W h1, j, hj, fun k hk => by show toEl q hq (W j k) = _; rw [hs k hk]⟩
    · obtain ⟨hN0, hl⟩ := SpanR.lt h i N0 W0 h1
      refine .inr ⟨N0, fun v k => toEl q hq (W0 v k), ih N0 W0 h1, fun j hj => ?_, rfl, fun v hv k hk => El.ext' ?_⟩
      · obtain ⟨k, hk, hne⟩ := hnew j hj
        exact ⟨k, hk, fun e => hne (toEl_inj hq (hl j hj k hk) (hR i k) e)⟩
      · have hd : v / N0 < q := (Nat.div_lt_iff_lt_mul hN0).2 hv
        rw [ha, hm, toEl_val hq hd, toEl_val hq (hR i k), toEl_val hq (hl _ (Nat.mod_lt _ hN0) k hk)]
        show (toEl q hq (W v k)).val = _
        rw [hW v hv k hk, toEl_val hq (h.addLt _ _)]
/-- The weight of a word. -/
def wtN (n : Nat) (x : Nat → Nat) : Int := sig n fun t => ind (x t ≠ 0)
/-- Griesmer's bound holds for what Span returns. -/
theorem SpanR.griesmer (h : FieldLaws q add mul) (hR : ∀ i k, R i k < q) {i N : Nat} {W : Nat → Nat → Nat} (hs : SpanR q add mul n R i N W) : ∃ s, N = q ^ s ∧ (1 < N → ∃ v, v < N ∧ ∃ t, t < n ∧ W v t ≠ 0) ∧
    ∀ d : Int, 1 ≤ d → (∀ v, v < N → (∃ t, t < n ∧ W v t ≠ 0) → d ≤ wtN n (W v)) → grN q d s ≤ n := by
  have h2 := h.two
  have hq : 0 < q := by omega
  obtain ⟨iA, iM, iN, i0, i1, F, ha, hm, h0, _⟩ := fie_of h
  obtain ⟨hN, hl⟩ := SpanR.lt h i N W hs
  have hk := SpanR.toK h hq ha hm h0 hR i N W hs
  obtain ⟨⟨s, hpow⟩, hlin⟩ := SpanK.facts F h2 (fun a b ha hb => toEl_inj hq ha hb) (toEl_sur hq) i N _ hk
  have hz : ∀ v, v < N → ∀ t, t < n → (toEl q hq (W v t) = 0 ↔ W v t = 0) := fun v hv t ht => by
    constructor
    · intro e
      have := congrArg El.val e
      rwa [toEl_val hq (hl v hv t ht), h0] at this
    · intro e
      exact El.ext' (by rw [toEl_val hq (hl v hv t ht), h0, e])
  refine ⟨s, hpow, fun h1 => ?_, fun d hd hmin => ?_⟩
  · by_cases e : ∃ v, v < N ∧ ∃ t, t < n ∧ W v t ≠ 0
    · exact e
    · exfalso
      have := hlin.diff 0 1 hN h1 fun k hk => by
        have hz0 : ∀ v, v < N → W v k = 0 := fun v hv => by
          by_cases e2 : W v k = 0
          · exact e2
          · exact absurd ⟨v, hv, k, hk, e2⟩ e
        show toEl q hq (W 0 k) = toEl q hq (W 1 k)
        rw [hz0 0 hN, hz0 1 h1]
      omega
  · have hdec : DecidableEq (El q) := fun x y => if h : x.val = y.val then isTrue (El.ext' h) else isFalse fun e => h (congrArg El.val e)
    refine LinW.griesmer F hlin h2 (toEl_sur hq) hpow hd fun v hv hn => ?_
    obtain ⟨t, ht, hne⟩ := hn
    have h3 := hmin v hv ⟨t, ht, fun e => hne ((hz v hv t ht).2 e)⟩
    refine Int.le_trans h3 (sig_le fun t ht => ?_)
    by_cases e : W v t = 0
    · rw [ind_f (fun h => h e)]; exact ind_nonneg _
    · rw [ind_t e, ind_t ⟨rfl, fun h => e ((hz v hv t ht).1 h)⟩]; exact Int.le_refl _
/-- The words of weight 1. -/
def unitN (i k : Nat) : Nat := if k = i then 1 else 0
theorem unitN_one (i : Nat) : unitN i i = 1 := if_pos rfl
theorem unitN_no {i k : Nat} (h : k ≠ i) : unitN i k = 0 := if_neg h
/-- All words, in the order of their numbers. -/
theorem SpanR.units (h : FieldLaws q add mul) : ∀ i, i ≤ n → ∀ N W, SpanR q add mul n unitN i N W → N = q ^ i ∧ ∀ v, v < N → ∀ k, k < n → W v k = if k < i then dig q v k else 0 := by
  have h2 := h.two
  have mz : ∀ x, x < q → mul x 0 = 0 := fun x hx => by
    obtain ⟨iA, iM, iN, i0, i1, F, ha, hm, h0, _⟩ := fie_of h
    have := congrArg El.val (F.mulZ ⟨x, hx⟩)
    rwa [hm, h0] at this
  intro i
  induction i with
  | zero =>
    rintro _ N W ⟨rfl, hz⟩
    exact ⟨rfl, fun v hv k hk => by obtain rfl : v = 0 := by omega
                                    rw [hz k hk, if_neg (by omega)]⟩
  | succ i ih =>
    rintro hi N W (⟨h1, j, hj, hs⟩ | ⟨N0, W0, h1, _, rfl, hW⟩)
    · exfalso
      have := (ih (by omega) N W h1).2 j hj i (by omega)
      rw [hs i (by omega), unitN_one, if_neg (by omega)] at this
      omega
    · obtain ⟨hN0, hW0⟩ := ih (by omega) N0 W0 h1
      have hp : 0 < N0 := by rw [hN0]; exact Nat.pow_pos (by omega)
      refine ⟨by rw [hN0, Nat.pow_succ, Nat.mul_comm], fun v hv k hk => ?_⟩
      have hd : v / N0 < q := (Nat.div_lt_iff_lt_mul hp).2 hv
      rw [hW v hv k hk, hW0 _ (Nat.mod_lt _ hp) k hk]
      by_cases e1 : k = i
      · subst e1
        rw [if_neg (by omega), unitN_one, if_pos (by omega), h.mulComm _ _ hd (by omega), h.oneMul _ hd, h.zeroAdd _ hd]
        unfold dig
        rw [← hN0, Nat.mod_eq_of_lt hd]
      · rw [unitN_no e1, mz _ hd]
        by_cases e2 : k < i
        · rw [if_pos e2, if_pos (by omega), h.addComm, h.zeroAdd _ (dig_lt (by omega) _ _)]
          unfold dig
          obtain ⟨r, hr⟩ : ∃ r, i = k + 1 + r := ⟨i - k - 1, by omega⟩
          have e3 : N0 = q ^ k * (q * q ^ r) := by rw [hN0, hr, Nat.pow_add, Nat.pow_succ, Nat.mul_assoc]
          rw [e3, Nat.mod_mul_right_div_self, Nat.mod_mul_right_mod]
        · rw [if_neg e2, if_neg (by omega), h.zeroAdd _ (by omega)]
end
theorem sig_times (a b : Nat) (f : Nat → Int) : sig (a * b) f = sig a (fun i => sig b (fun j => f (i * b + j))) := by
  induction a with
  | zero => rw [Nat.zero_mul]; rfl
  | succ a ih => rw [Nat.add_mul, Nat.one_mul, sig_split, ih]; rfl
theorem dig_updW {q n a u : Nat} (hq : 0 < q) (ha : a < q) (hu : u < q ^ n) : dig q (a * q ^ n + u) = updW (dig q u) n a := funext fun j => by
  unfold updW dig
  by_cases e : j = n
  · subst e
    rw [if_pos rfl, Nat.add_comm, Nat.add_mul_div_right _ _ (Nat.pow_pos hq), Nat.div_eq_of_lt hu, Nat.zero_add, Nat.mod_eq_of_lt ha]
  · rw [if_neg e]
    by_cases e2 : j < n
    · obtain ⟨r, hr⟩ : ∃ r, n = j + 1 + r := ⟨n - j - 1, by omega⟩
      have e3 : a * q ^ n = q ^ j * (q * (a * q ^ r)) := by
        rw [hr, Nat.pow_add, Nat.pow_succ]
        simp only [Nat.mul_assoc, Nat.mul_left_comm]
      rw [e3, Nat.add_comm, Nat.add_mul_div_left _ _ (Nat.pow_pos hq), Nat.add_mul_mod_self_left]
    · have h1 : q ^ (n + 1) ≤ q ^ j := Nat.pow_le_pow_right hq (by omega)
      have h2 : a * q ^ n + u < q ^ (n + 1) := by
        have : (a + 1) * q ^ n ≤ q * q ^ n := Nat.mul_le_mul_right _ ha
        rw [Nat.add_mul, Nat.one_mul] at this
        rw [Nat.pow_succ, Nat.mul_comm (q ^ n)]; omega
      have h3 : q ^ n ≤ q ^ j := Nat.pow_le_pow_right hq (by omega)
      rw [Nat.div_eq_of_lt (by omega), Nat.div_eq_of_lt (by omega)]
theorem sig_dig {q : Nat} (hq : 0 < q) : ∀ n (G : (Nat → Nat) → Int), sig (q ^ n) (fun v => G (dig q v)) = sumW q n G := by
  intro n
  induction n with
  | zero =>
    intro G
    show (0 : Int) + G (dig q 0) = G (fun _ => 0)
    rw [show dig q 0 = fun _ => 0 from funext fun i => dig_zero q i]; omega
  | succ n ih =>
    intro G
    rw [Nat.pow_succ, Nat.mul_comm, sig_times]
    show _ = sig q (fun a => sumW q n (fun y => G (updW y n a)))
    refine sig_congr fun a ha => ?_
    rw [← ih]
    exact sig_congr fun u hu => by rw [dig_updW hq ha hu]
/-- The number of all words in a ball. -/
theorem ball_count {q n : Nat} {c : Nat → Nat} (hq : 0 < q) (hc : ∀ j, j < n → c j < q) (r : Nat) : sig (q ^ n) (fun v => ind (dis n (dig q v) c ≤ (r : Int))) = ((vol q n (r + 1) : Nat) : Int) := by
  rw [sig_dig hq n (fun y => ind (dis n y c ≤ (r : Int)))]
  exact ballW hc r
end Go.Proofs.Ytgininddoalenaa
