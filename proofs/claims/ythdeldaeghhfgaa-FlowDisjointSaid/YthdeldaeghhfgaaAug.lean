/- Augmenting a flow along a path of steps, and the end of the search for one: plain laws. -/
import Derived.Test.YthdeldaeghhfgaaBfs
namespace Go.Proofs.Ythdeldaeghhfgaa
open Go.RowKit

/-- A flow in progress: within the capacities, conserved but at s and t, of value val. -/
structure Flowing (N : Net) (s t val : Int) (f : Nat → Int) : Prop where
  cap : ∀ i, i < N.n → 0 ≤ f i ∧ f i ≤ N.cp i
  keep : ∀ v : Nat, (v : Int) < N.V → (v : Int) ≠ s → (v : Int) ≠ t → N.netAt f v N.n = 0
  value : N.netAt f s N.n = val

theorem netAt_zero (N : Net) (v : Int) (k : Nat) : N.netAt (fun _ => 0) v k = 0 := by
  induction k with
  | zero => rfl
  | succ k ih => simp only [Net.netAt]; rw [ih]; split <;> split <;> rfl
theorem flowing_zero {N : Net} {s t : Int} (hg : N.Good) : Flowing N s t 0 (fun _ => 0) :=
  ⟨fun i hi => ⟨Int.le_refl _, (hg.arc i hi).2.2.2.2.1⟩, fun v _ _ _ => netAt_zero N v N.n, netAt_zero N s N.n⟩

/-- One arc's flow turned by d. -/
def bump (f : Nat → Int) (a : Nat) (d : Int) : Nat → Int := fun i => if i = a then f i + d else f i
theorem netAt_bump {N : Net} (f : Nat → Int) (a : Nat) (d v : Int) (k : Nat) : N.netAt (bump f a d) v k = N.netAt f v k + (if a < k then (if N.fr a = v then d else 0) - (if N.to a = v then d else 0) else 0) := by
  induction k with
  | zero => simp [Net.netAt]
  | succ k ih =>
    simp only [Net.netAt]
    rw [ih]
    by_cases e : k = a
    · subst e
      simp only [bump, if_true, Nat.lt_irrefl, if_false, Nat.lt_succ_self]
      split <;> split <;> omega
    · have e1 : bump f a d k = f k := by simp [bump, e]
      rw [e1]
      by_cases h : a < k
      · simp only [h, if_true, show a < k + 1 by omega]
        omega
      · simp only [h, if_false, show ¬ a < k + 1 by omega]
        omega

/-- A path of steps, told from its end t backwards: step j leads from src to tgt, and begins where step j + 1 ends. pa: arcs, pb: backwards. -/
structure Path (N : Net) (f : Nat → Int) (rk : Nat → Nat) (t : Nat) (len : Nat) (pa : Nat → Nat) (pb : Nat → Bool) (v : Nat) : Prop where
  arc : ∀ j, j < len → pa j < N.n
  room : ∀ j, j < len → 0 < N.room f (pa j) (pb j)
  rise : ∀ j, j < len → rk (N.src (pa j) (pb j)) < rk (N.tgt (pa j) (pb j))
  first : 0 < len → N.tgt (pa 0) (pb 0) = t
  chain : ∀ j, j + 1 < len → N.tgt (pa (j + 1)) (pb (j + 1)) = N.src (pa j) (pb j)
  last : (len = 0 → v = t) ∧ (0 < len → v = N.src (pa (len - 1)) (pb (len - 1)))
  few : len + rk v ≤ rk t

theorem path_start (N : Net) (f : Nat → Int) (rk : Nat → Nat) (t : Nat) (pa : Nat → Nat) (pb : Nat → Bool) : Path N f rk t 0 pa pb t :=
  ⟨fun j hj => absurd hj (by omega), fun j hj => absurd hj (by omega), fun j hj => absurd hj (by omega), fun h => absurd h (by omega), fun j hj => absurd hj (by omega), ⟨fun _ => rfl, fun h => absurd h (by omega)⟩, by omega⟩

theorem Path.rank {N : Net} {f : Nat → Int} {rk : Nat → Nat} {t len : Nat} {pa : Nat → Nat} {pb : Nat → Bool} {v : Nat} (h : Path N f rk t len pa pb v) : ∀ j, ∀ k, j < k → k < len → rk (N.tgt (pa k) (pb k)) ≤ rk (N.src (pa j) (pb j)) := by
  intro j k hjk
  induction k with
  | zero => omega
  | succ k ih =>
    intro hk
    rw [h.chain k hk]
    by_cases e : j = k
    · subst e; exact Nat.le_refl _
    · have := ih (by omega) (by omega)
      have := h.rise k (by omega)
      omega

theorem Path.distinct {N : Net} {f : Nat → Int} {rk : Nat → Nat} {t len : Nat} {pa : Nat → Nat} {pb : Nat → Bool} {v : Nat} (h : Path N f rk t len pa pb v) {j k : Nat} (hjk : j < k) (hk : k < len) : pa j ≠ pa k := by
  intro e
  have h1 := h.rank j k hjk hk
  have h2 := h.rise k hk
  have h3 := h.rise j (by omega)
  rw [← e] at h1 h2
  by_cases e2 : pb j = pb k
  · rw [← e2] at h1; omega
  · have : N.tgt (pa j) (pb k) = N.src (pa j) (pb j) ∧ N.src (pa j) (pb k) = N.tgt (pa j) (pb j) := by
      cases h4 : pb j <;> cases h5 : pb k <;> simp_all [Net.src, Net.tgt]
    rw [this.1, this.2] at h2
    omega

theorem path_step {N : Net} {f : Nat → Int} {rk : Nat → Nat} {t len : Nat} {pa : Nat → Nat} {pb : Nat → Bool} {v : Nat} (h : Path N f rk t len pa pb v) {i : Nat} {b : Bool} (hi : i < N.n) (hr : 0 < N.room f i b) (ht : N.tgt i b = v) (hk : rk (N.src i b) < rk v) :
    Path N f rk t (len + 1) (fun j => if j = len then i else pa j) (fun j => if j = len then b else pb j) (N.src i b) := by
  have key : ∀ j, j < len → ¬ j = len := fun j hj => by omega
  refine ⟨fun j hj => ?_, fun j hj => ?_, fun j hj => ?_, fun _ => ?_, fun j hj => ?_, ⟨fun h => by omega, fun _ => ?_⟩, ?_⟩
  · by_cases e : j = len
    · simp [e, hi]
    · simp only [if_neg e]; exact h.arc j (by omega)
  · by_cases e : j = len
    · simp [e, hr]
    · simp only [if_neg e]; exact h.room j (by omega)
  · by_cases e : j = len
    · simp only [if_pos e, ht]; exact hk
    · simp only [if_neg e]; exact h.rise j (by omega)
  · by_cases e : 0 = len
    · simp only [if_pos e, ht]; exact h.last.1 e.symm
    · simp only [if_neg e]; exact h.first (by omega)
  · by_cases e : j + 1 = len
    · have e2 : ¬ j = len := by omega
      simp only [if_pos e, if_neg e2, ht]
      have := h.last.2 (by omega)
      rw [this]
      rw [show len - 1 = j by omega]
    · have e2 : ¬ j = len := by omega
      simp only [if_neg e, if_neg e2]
      exact h.chain j (by omega)
  · simp
  · have := h.few
    omega

/-- How far the flow is turned by its first k steps. -/
def pushed (amount : Int) (pa : Nat → Nat) (pb : Nat → Bool) (f : Nat → Int) : Nat → (Nat → Int)
  | 0 => f
  | k + 1 => bump (pushed amount pa pb f k) (pa k) (if pb k then -amount else amount)

theorem pushed_other {amount : Int} {pa : Nat → Nat} {pb : Nat → Bool} {f : Nat → Int} {i : Nat} (k : Nat) (h : ∀ j, j < k → pa j ≠ i) : pushed amount pa pb f k i = f i := by
  induction k with
  | zero => rfl
  | succ k ih =>
    simp only [pushed, bump]
    rw [if_neg (fun e => h k (by omega) e.symm)]
    exact ih fun j hj => h j (by omega)

theorem pushed_at {N : Net} {f0 : Nat → Int} {rk : Nat → Nat} {t len : Nat} {pa : Nat → Nat} {pb : Nat → Bool} {v : Nat} (h : Path N f0 rk t len pa pb v) (amount : Int) (f : Nat → Int) {k : Nat} (hk : k < len) : pushed amount pa pb f k (pa k) = f (pa k) :=
  pushed_other k fun _ hj => h.distinct hj hk

theorem pushed_cap {N : Net} {f : Nat → Int} {rk : Nat → Nat} {t len : Nat} {pa : Nat → Nat} {pb : Nat → Bool} {v : Nat} (h : Path N f rk t len pa pb v) {amount : Int} (ha : 0 ≤ amount) (hr : ∀ j, j < len → amount ≤ N.room f (pa j) (pb j)) (hf : ∀ i, i < N.n → 0 ≤ f i ∧ f i ≤ N.cp i) :
    ∀ k, k ≤ len → ∀ i, i < N.n → 0 ≤ pushed amount pa pb f k i ∧ pushed amount pa pb f k i ≤ N.cp i := by
  intro k
  induction k with
  | zero => intro _ i hi; exact hf i hi
  | succ k ih =>
    intro hk i hi
    simp only [pushed, bump]
    by_cases e : i = pa k
    · subst e
      rw [if_pos rfl, pushed_at h amount f (by omega)]
      have h1 := hr k (by omega)
      have h2 := hf _ hi
      cases hb : pb k <;> simp only [hb, Net.room, if_true, if_false, Bool.false_eq_true] at h1 ⊢ <;> omega
    · rw [if_neg e]
      exact ih (by omega) i hi

theorem pushed_net {N : Net} (hg : N.Good) {f : Nat → Int} {rk : Nat → Nat} {t len : Nat} {pa : Nat → Nat} {pb : Nat → Bool} {v : Nat} (h : Path N f rk t len pa pb v) (amount : Int) (u : Nat) :
    ∀ k, k ≤ len → N.netAt (pushed amount pa pb f k) u N.n = N.netAt f u N.n + (if u = (if k = 0 then t else N.src (pa (k - 1)) (pb (k - 1))) then amount else 0) - (if u = t then amount else 0) := by
  intro k
  induction k with
  | zero => intro _; simp [pushed]
  | succ k ih =>
    intro hk
    have hik := h.arc k (by omega)
    obtain ⟨g0, g1, g2, g3, _⟩ := hg.arc _ hik
    simp only [pushed]
    rw [netAt_bump, ih (by omega), if_pos hik]
    have e1 : (if k = 0 then t else N.src (pa (k - 1)) (pb (k - 1))) = N.tgt (pa k) (pb k) := by
      by_cases e : k = 0
      · subst e; rw [if_pos rfl, h.first (by omega)]
      · rw [if_neg e, show k = (k - 1) + 1 by omega, h.chain (k - 1) (by omega)]; simp
    rw [e1]
    simp only [Nat.add_one_ne_zero, if_false, Nat.add_sub_cancel]
    have a1 : (N.fr (pa k) = (u : Int)) ↔ (u = (N.fr (pa k)).toNat) := by omega
    have a2 : (N.to (pa k) = (u : Int)) ↔ (u = (N.to (pa k)).toNat) := by omega
    cases hb : pb k <;> simp only [Net.src, Net.tgt, if_true, if_false, Bool.false_eq_true, a1, a2] <;> (repeat' split) <;> omega

theorem augment {N : Net} {s t val : Int} (he : N.Ends s t) {f : Nat → Int} (hf : Flowing N s t val f) {rk : Nat → Nat} {len : Nat} {pa : Nat → Nat} {pb : Nat → Bool} (h : Path N f rk t.toNat len pa pb s.toNat) {amount : Int} (ha : 0 ≤ amount) (hr : ∀ j, j < len → amount ≤ N.room f (pa j) (pb j)) :
    Flowing N s t (val + amount) (pushed amount pa pb f len) := by
  have s0 := he.s0
  have s1 := he.s1
  have t0 := he.t0
  have t1 := he.t1
  have ne := he.ne
  have hl : 0 < len := by
    rcases Nat.eq_zero_or_pos len with h0 | h0
    · have := h.last.1 h0; omega
    · exact h0
  have hs := h.last.2 hl
  refine ⟨pushed_cap h ha hr hf.cap len (Nat.le_refl _), fun v hv h1 h2 => ?_, ?_⟩
  · rw [pushed_net he.good h amount v len (Nat.le_refl _), hf.keep v hv h1 h2, if_neg (show ¬ len = 0 by omega), ← hs, if_neg (by omega), if_neg (by omega)]
    rfl
  · have := pushed_net he.good h amount s.toNat len (Nat.le_refl _)
    rw [show ((s.toNat : Nat) : Int) = s by omega] at this
    rw [this, hf.value, if_neg (show ¬ len = 0 by omega), ← hs, if_pos rfl, if_neg (by omega)]
    omega

/-- Where the search does not reach t, the flow is certified by what it reaches. -/
theorem cross_eq {N : Net} (f : Nat → Int) (sd : Nat → Bool) (k : Nat) (h : ∀ i, i < k → (N.leaves sd i = true → f i = N.cp i) ∧ (sd (N.fr i).toNat = false → sd (N.to i).toNat = true → f i = 0)) : N.crossTo f sd k = N.capTo sd k := by
  induction k with
  | zero => rfl
  | succ k ih =>
    have e : N.crossTo f sd (k + 1) = N.crossTo f sd k + ((if sd (N.fr k).toNat then f k else 0) - (if sd (N.to k).toNat then f k else 0)) := rfl
    rw [e, ih fun i hi => h i (by omega)]
    obtain ⟨h1, h2⟩ := h k (by omega)
    simp only [Net.capTo, Net.leaves] at h1 ⊢
    by_cases c1 : sd (N.fr k).toNat = true <;> by_cases c2 : sd (N.to k).toNat = true <;> simp [c1, c2] at h1 h2 ⊢
    · exact h1
    · rw [h2]; simp

theorem certified_of {N : Net} {s t val : Int} (he : N.Ends s t) {f : Nat → Int} (hf : Flowing N s t val f) {seen : Nat → Bool} {arc : Nat → Nat} {back : Nat → Bool} {rk : Nat → Nat} {cnt : Nat} (hR : Reached N f s.toNat seen arc back rk cnt) (ht : seen t.toNat = false) :
    N.Cert s t val N.n f N.V.toNat seen := by
  have v1 := he.good.v1
  have hF : N.FlowP s t N.n f := ⟨rfl, hf.cap, hf.keep⟩
  have hC : N.CutP s t N.V.toNat seen := ⟨by omega, hR.found.start, ht⟩
  refine ⟨hF, hC, hf.value, ?_⟩
  rw [← hf.value, Net.value_cross he hF hC]
  refine (cross_eq f seen N.n fun i hi => ⟨fun hl => ?_, fun h1 h2 => ?_⟩).symm
  · simp only [Net.leaves, Bool.and_eq_true, Bool.not_eq_true'] at hl
    have hc := hR.closed _ hl.1 i false hi rfl
    have := hf.cap i hi
    by_cases e : f i = N.cp i
    · exact e
    · have := hc (by simp only [Net.room, Bool.false_eq_true, if_false]; omega)
      simp only [Net.tgt, Bool.false_eq_true, if_false] at this
      rw [this] at hl; exact absurd hl.2 (by simp)
  · have hc := hR.closed _ h2 i true hi rfl
    have := hf.cap i hi
    by_cases e : f i = 0
    · exact e
    · have := hc (by simp only [Net.room, if_true]; omega)
      simp only [Net.tgt, if_true] at this
      rw [this] at h1; cases h1

/-- Whatever certified flow: what the search from s reaches in it is the same. -/
theorem reached_same {N : Net} {s t val val' : Int} (he : N.Ends s t) {f f' : Nat → Int} (hf : Flowing N s t val f) (hf' : Flowing N s t val' f') {seen seen' : Nat → Bool} {arc arc' : Nat → Nat} {back back' : Nat → Bool} {rk rk' : Nat → Nat} {cnt cnt' : Nat}
    (hR : Reached N f s.toNat seen arc back rk cnt) (hR' : Reached N f' s.toNat seen' arc' back' rk' cnt') (ht : seen t.toNat = false) (ht' : seen' t.toNat = false) : val = val' ∧ ∀ v, seen v = seen' v := by
  have v1 := he.good.v1
  have c1 := certified_of he hf hR ht
  have c2 := certified_of he hf' hR' ht'
  have d1 := Net.duality he c1.1 c2.2.1
  have d2 := Net.duality he c2.1 c1.2.1
  rw [c1.2.2.1, c2.2.2.2] at d1
  rw [c2.2.2.1, c1.2.2.2] at d2
  have hval : val = val' := by omega
  refine ⟨hval, ?_⟩
  -- each arc of f across the other cut is full, or empty
  have sub : ∀ {g g' : Nat → Int} {sd sd' : Nat → Bool} {a a' : Nat → Nat} {b b' : Nat → Bool} {r r' : Nat → Nat} {n n' : Nat}, Flowing N s t val g → Reached N g s.toNat sd a b r n → N.CutP s t N.V.toNat sd' → N.cap sd' = val → ∀ v, sd v = true → sd' v = true := by
    intro g g' sd sd' a a' b b' r r' n n' hg' hr' hc' hcap
    have hF : N.FlowP s t N.n g := ⟨rfl, hg'.cap, hg'.keep⟩
    have hx : N.crossTo g sd' N.n = N.capTo sd' N.n := by
      rw [← Net.value_cross he hF hc', hg'.value]; exact hcap.symm
    -- term by term
    have term : ∀ k, k ≤ N.n → N.crossTo g sd' k = N.capTo sd' k → ∀ i, i < k → (N.leaves sd' i = true → g i = N.cp i) ∧ (sd' (N.fr i).toNat = false → sd' (N.to i).toNat = true → g i = 0) := by
      intro k
      induction k with
      | zero => intro _ _ i hi; omega
      | succ k ih =>
        intro hk hxk i hi
        have hle := Net.cross_le g sd' hg'.cap k (by omega)
        have e : N.crossTo g sd' (k + 1) = N.crossTo g sd' k + ((if sd' (N.fr k).toNat then g k else 0) - (if sd' (N.to k).toNat then g k else 0)) := rfl
        rw [e] at hxk
        simp only [Net.capTo] at hxk
        have hcpk := hg'.cap k (by omega)
        have hboth : N.crossTo g sd' k = N.capTo sd' k ∧ ((N.leaves sd' k = true → g k = N.cp k) ∧ (sd' (N.fr k).toNat = false → sd' (N.to k).toNat = true → g k = 0)) := by
          simp only [Net.leaves] at hxk ⊢
          by_cases c1 : sd' (N.fr k).toNat = true <;> by_cases c2 : sd' (N.to k).toNat = true <;> simp [c1, c2] at hxk ⊢ <;> omega
        by_cases ei : i = k
        · subst ei; exact hboth.2
        · exact ih (by omega) hboth.1 i (by omega)
    refine found_sub hr'.found hc'.2.1 fun i bb hi hroom h1 h2 => ?_
    obtain ⟨t1, t2⟩ := term N.n (Nat.le_refl _) hx i hi
    cases bb
    · simp only [Net.room, Net.src, Net.tgt, Bool.false_eq_true, if_false] at hroom h1 h2
      have := t1 (by simp [Net.leaves, h1, h2])
      omega
    · simp only [Net.room, Net.src, Net.tgt, if_true] at hroom h1 h2
      have := t2 h2 h1
      omega
  intro v
  have k1 := sub (g' := f) (a' := arc) (b' := back) (r' := rk) (n' := cnt) hf hR c2.2.1 (by rw [hval]; exact c2.2.2.2) v
  have k2 := sub (g' := f) (a' := arc) (b' := back) (r' := rk) (n' := cnt) (hval ▸ hf') hR' c1.2.1 c1.2.2.2 v
  cases h1 : seen v <;> cases h2 : seen' v <;> simp_all
end Go.Proofs.Ythdeldaeghhfgaa
