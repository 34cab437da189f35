/- Networks that differ in their capacities: plain laws. -/
import Derived.Test.YthdeldaeghhfgaaAug
namespace Go.Proofs.Ythdeldaeghhfgaa
open Go.RowKit

/-- The capacities in which the first k arcs of a list have capacity x. -/
def capsTo (N : Net) (f : Nat → Int) (x : Int) : Nat → (Nat → Int)
  | 0 => N.cp
  | k + 1 => fun i => if i = (f k).toNat then x else capsTo N f x k i
def Net.given (N : Net) (f : Nat → Int) (x : Int) (m : Nat) : Net := { N with cp := capsTo N f x m }

theorem given_good {N : Net} (hg : N.Good) (f : Nat → Int) {x : Int} (h0 : 0 ≤ x) (h1 : x ≤ 1099511627776) (m : Nat) : (N.given f x m).Good := by
  refine ⟨hg.v1, hg.v2, hg.n2, fun i hi => ?_⟩
  obtain ⟨g0, g1, g2, g3, g4, g5⟩ := hg.arc i hi
  refine ⟨g0, g1, g2, g3, ?_⟩
  show 0 ≤ capsTo N f x m i ∧ capsTo N f x m i ≤ _
  induction m with
  | zero => exact ⟨g4, g5⟩
  | succ m ih =>
    simp only [capsTo]
    split
    · exact ⟨h0, h1⟩
    · exact ih hi
theorem given_ends {N : Net} {s t : Int} (he : N.Ends s t) (f : Nat → Int) {x : Int} (h0 : 0 ≤ x) (h1 : x ≤ 1099511627776) (m : Nat) : (N.given f x m).Ends s t :=
  ⟨given_good he.good f h0 h1 m, he.s0, he.s1, he.t0, he.t1, he.ne⟩
theorem ends_iff {N : Net} {s t : Int} (he : N.Ends s t) : N.endsE s t = 0 := endsE_ok (Net.chk_of_good he.good) (by have := he.s0; have := he.s1; have := he.t0; have := he.t1; omega) he.ne
theorem netAt_given {N M : Net} (h1 : M.fr = N.fr) (h2 : M.to = N.to) (f : Nat → Int) (v : Int) (k : Nat) : M.netAt f v k = N.netAt f v k := by
  induction k with
  | zero => rfl
  | succ k ih => simp only [Net.netAt, ih, h1, h2]

/-- A flow stays one where no capacity falls below it. -/
theorem flowing_given {N M : Net} (h1 : M.fr = N.fr) (h2 : M.to = N.to) (h3 : M.V = N.V) (h4 : M.n = N.n) {s t val : Int} {f : Nat → Int} (hf : Flowing N s t val f) (hc : ∀ i, i < N.n → f i ≤ M.cp i) : Flowing M s t val f :=
  ⟨fun i hi => ⟨(hf.cap i (by omega)).1, hc i (by omega)⟩, fun v hv a b => by rw [netAt_given h1 h2, h4]; exact hf.keep v (by omega) a b, by rw [netAt_given h1 h2, h4]; exact hf.value⟩

theorem flowing_le {N : Net} {s t val val' : Int} (he : N.Ends s t) {f f' : Nat → Int} (hf : Flowing N s t val f) {sd : Nat → Bool} {m ms : Nat} (hc : N.Cert s t val' m f' ms sd) : val ≤ val' := by
  have := Net.duality he ⟨rfl, hf.cap, hf.keep⟩ hc.2.1
  rw [hf.value, hc.2.2.2] at this
  exact this

theorem capTo_rise {N M : Net} (h1 : M.fr = N.fr) (h2 : M.to = N.to) {a : Nat} {x : Int} (hx : 0 ≤ x) (hc : ∀ i, M.cp i = if i = a then N.cp a + x else N.cp i) (sd : Nat → Bool) (k : Nat) : M.capTo sd k ≤ N.capTo sd k + (if a < k then x else 0) := by
  induction k with
  | zero => simp [Net.capTo]
  | succ k ih =>
    have hl : M.leaves sd k = N.leaves sd k := by simp only [Net.leaves, h1, h2]
    simp only [Net.capTo, hl]
    rw [hc k]
    by_cases hb : N.leaves sd k = true
    · rw [if_pos hb, if_pos hb]
      by_cases e : k = a
      · subst e
        simp only [Nat.lt_irrefl, if_false, if_true, Nat.lt_succ_self] at ih ⊢
        omega
      · rw [if_neg e]
        by_cases h : a < k
        · simp only [h, if_true, show a < k + 1 by omega] at ih ⊢
          omega
        · simp only [h, if_false, show ¬ a < k + 1 by omega] at ih ⊢
          omega
    · rw [if_neg hb, if_neg hb]
      by_cases h : a < k
      · simp only [h, if_true, show a < k + 1 by omega] at ih ⊢
        omega
      · simp only [h, if_false] at ih
        split <;> omega

theorem rises {N M : Net} {s t val val' : Int} (hm : M.Ends s t) (h1 : M.fr = N.fr) (h2 : M.to = N.to) (h3 : M.V = N.V) (h4 : M.n = N.n) {a : Nat} {x : Int} (hx : 0 ≤ x) (hc : ∀ i, M.cp i = if i = a then N.cp a + x else N.cp i)
    {f f' : Nat → Int} (hf : Flowing N s t val f) (hf' : Flowing M s t val' f') {m ms m' ms' : Nat} {sd sd' : Nat → Bool} {g g' : Nat → Int} (k : N.Cert s t val m g ms sd) (k' : M.Cert s t val' m' g' ms' sd') : val ≤ val' ∧ val' ≤ val + x := by
  refine ⟨flowing_le hm (flowing_given h1 h2 h3 h4 hf fun i hi => ?_) k', ?_⟩
  · have := hf.cap i hi
    rw [hc i]
    split
    · rename_i e; subst e; omega
    · omega
  · have hcut : M.CutP s t ms sd := ⟨by rw [h3]; exact k.2.1.1, k.2.1.2⟩
    have d := Net.duality hm ⟨rfl, hf'.cap, hf'.keep⟩ hcut
    rw [hf'.value] at d
    have r := capTo_rise (N := N) h1 h2 hx hc sd N.n
    have e : N.capTo sd N.n = val := k.2.2.2
    unfold Net.cap at d
    rw [h4] at d
    split at r <;> omega
end Go.Proofs.Ythdeldaeghhfgaa
