/- A certified flow is a sum of simple paths and circles: plain laws. -/
import Derived.Test.YthdeldaeghhfgaaFlowMath
import Derived.Test.YthdeldaeghhfgaaWordMath
namespace Go.Proofs.Ythdeldaeghhfgaa

/-- What is left of a certified flow. -/
structure Rest (N : Net) (s t : Int) (sd : Nat → Bool) (g : Nat → Int) (v : Int) : Prop where
  nonneg : ∀ i, i < N.n → 0 ≤ g i
  back : ∀ i, i < N.n → sd (N.fr i).toNat = false → sd (N.to i).toNat = true → g i = 0
  net : ∀ x : Int, 0 ≤ x → x < N.V → N.netAt g x N.n = (if x = s then v else 0) - (if x = t then v else 0)
theorem sumV_tight {g h : Nat → Int} {n : Nat} (e : ∀ i, i < n → g i ≤ h i) (hs : sumV h n ≤ sumV g n) : ∀ i, i < n → g i = h i := by
  induction n with
  | zero => exact fun i hi => by omega
  | succ n ih =>
    intro i hi
    have h1 := sumV_le fun i (hi : i < n) => e i (by omega)
    have h2 := e n (by omega)
    have h3 : sumV h n + h n ≤ sumV g n + g n := hs
    by_cases ei : i = n
    · subst ei; omega
    · exact ih (fun i hi => e i (by omega)) (by omega) i (by omega)
theorem capTo_sum (N : Net) (sd : Nat → Bool) (k : Nat) : N.capTo sd k = sumV (fun i => if N.leaves sd i then N.cp i else 0) k := by
  induction k with
  | zero => rfl
  | succ k ih => simp only [Net.capTo, sumV, ih]
theorem Rest.start {N : Net} {s t val : Int} {m ms : Nat} {f : Nat → Int} {sd : Nat → Bool} (he : N.Ends s t) (hc : N.Cert s t val m f ms sd) : Rest N s t sd f val := by
  obtain ⟨hf, hcut, hv, hcap⟩ := hc
  have hb := hf.2.1
  refine ⟨fun i hi => (hb i hi).1, fun i hi h1 h2 => ?_, fun x h0 h1 => ?_⟩
  · have hcross := Net.value_cross he hf hcut
    have hle : ∀ i, i < N.n → (if sd (N.fr i).toNat then f i else 0) - (if sd (N.to i).toNat then f i else 0) ≤ (if N.leaves sd i then N.cp i else 0) := fun i hi => by
      have := hb i hi
      unfold Net.leaves
      by_cases e1 : sd (N.fr i).toNat = true <;> by_cases e2 : sd (N.to i).toNat = true <;> simp [e1, e2] <;> omega
    have := sumV_tight hle (by rw [← capTo_sum]; show N.capTo sd N.n ≤ N.crossTo f sd N.n; have h3 : N.cap sd = N.capTo sd N.n := rfl; omega) i hi
    unfold Net.leaves at this
    simp [h1, h2] at this
    omega
  · by_cases e1 : x = s
    · subst e1
      rw [if_pos rfl, if_neg he.ne, hv]; omega
    · rw [if_neg e1]
      by_cases e2 : x = t
      · subst e2
        rw [if_pos rfl]
        have := Net.balance he hf
        omega
      · rw [if_neg e2]
        have := hf.2.2 x.toNat (by omega) (by omega) (by omega)
        rw [show ((x.toNat : Nat) : Int) = x by omega] at this
        omega
/-- What crosses the cut. -/
theorem Rest.cross {N : Net} {s t v : Int} {sd : Nat → Bool} {g : Nat → Int} (he : N.Ends s t) (hs : sd s.toNat = true) (ht : sd t.toNat = false) (h : Rest N s t sd g v) : v = N.crossTo g sd N.n ∧ 0 ≤ v := by
  have h1 := N.sum_net he.good g sd N.n (Nat.le_refl _)
  have s0 := he.s0
  have s1 := he.s1
  have t0 := he.t0
  have hsum : sumV (fun x => if sd x then N.netAt g x N.n else 0) N.V.toNat = v := by
    rw [sumV_single (a := s.toNat) (by omega) fun i hi hne => ?_]
    · rw [hs, if_pos rfl, h.net _ (by omega) (by omega), if_pos (by omega), if_neg (by
        have := he.ne; omega)]; omega
    · by_cases e : sd i = true
      · rw [if_pos e, h.net _ (by omega) (by omega), if_neg (by omega), if_neg (fun e2 => by
          rw [show i = t.toNat by omega, ht] at e; cases e)]; omega
      · rw [if_neg e]
  refine ⟨by rw [← h1, hsum], ?_⟩
  rw [← hsum, h1]
  have hz : sumV (fun _ => 0) N.n ≤ N.crossTo g sd N.n := sumV_le fun i hi => by
    have h2 := h.nonneg i hi
    have h3 := h.back i hi
    by_cases e1 : sd (N.fr i).toNat = true <;> by_cases e2 : sd (N.to i).toNat = true <;> simp [e1, e2] <;> first | omega | (have := h3 (by simpa using e1) e2; omega)
  rw [sumV_zero fun _ _ => rfl] at hz
  exact hz
/-- An arc that leaves. -/
theorem Rest.out {N : Net} {s t v x : Int} {sd : Nat → Bool} {g : Nat → Int} (hne : s ≠ t) (h : Rest N s t sd g v) (h0 : 0 ≤ x) (h1 : x < N.V)
    (hin : (∃ i, i < N.n ∧ 0 < g i ∧ N.to i = x ∧ (x = t → v = 0) ∧ 0 ≤ v) ∨ (x = s ∧ 0 < v)) : ∃ i, i < N.n ∧ 0 < g i ∧ N.fr i = x := by
  by_cases e : ∃ i, i < N.n ∧ 0 < g i ∧ N.fr i = x
  · exact e
  · exfalso
    have hz : ∀ i, i < N.n → N.fr i = x → g i = 0 := fun i hi hf => by
      have := h.nonneg i hi
      by_cases e2 : 0 < g i
      · exact absurd ⟨i, hi, e2, hf⟩ e
      · omega
    have key : ∀ k, k ≤ N.n → N.netAt g x k ≤ 0 ∧ ((∃ i, i < k ∧ 0 < g i ∧ N.to i = x) → N.netAt g x k < 0) := by
      intro k
      induction k with
      | zero => exact fun _ => ⟨Int.le_refl _, fun ⟨i, hi, _⟩ => by omega⟩
      | succ k ih =>
        intro hk
        obtain ⟨a1, a2⟩ := ih (by omega)
        have hg := h.nonneg k (by omega)
        have hf : (if N.fr k = x then g k else 0) = 0 := by
          split
          · exact hz k (by omega) (by assumption)
          · rfl
        have e1 : N.netAt g x (k + 1) = N.netAt g x k - (if N.to k = x then g k else 0) := by
          show N.netAt g x k + _ - _ = _
          rw [hf]; omega
        rw [e1]
        refine ⟨by split <;> omega, fun ⟨i, hi, hp, ht⟩ => ?_⟩
        by_cases ei : i = k
        · subst ei; rw [if_pos ht]; omega
        · have := a2 ⟨i, by omega, hp, ht⟩
          split <;> omega
    obtain ⟨a1, a2⟩ := key N.n (Nat.le_refl _)
    have hn := h.net x h0 h1
    rcases hin with ⟨i, hi, hp, hto, ht0, hv0⟩ | ⟨hxs, hv⟩
    · have := a2 ⟨i, hi, hp, hto⟩
      rw [hn] at this
      by_cases ex : x = t
      · have := ht0 ex
        subst this
        simp at *
      · rw [if_neg ex] at this
        split at this <;> omega
    · rw [hn, if_pos hxs, if_neg (fun e => hne (by omega))] at a1
      omega
/-- A simple path from s to t, or a circle. -/
def RouteOk (N : Net) (s t : Int) (ra : Nat → Nat) (rl : Nat) (path : Bool) : Prop :=
  1 ≤ rl ∧ (∀ j, j < rl → ra j < N.n) ∧ (∀ j, j + 1 < rl → N.to (ra j) = N.fr (ra (j + 1))) ∧ (∀ j k, j < k → k < rl → N.fr (ra j) ≠ N.fr (ra k)) ∧
    ((path = false ∧ N.to (ra (rl - 1)) = N.fr (ra 0)) ∨ (path = true ∧ N.fr (ra 0) = s ∧ N.to (ra (rl - 1)) = t ∧ ∀ j, j < rl → N.fr (ra j) ≠ t))
theorem RouteOk.apart {N : Net} {s t : Int} {ra : Nat → Nat} {rl : Nat} {path : Bool} (h : RouteOk N s t ra rl path) : ∀ j k, j < rl → k < rl → ra j = ra k → j = k := fun j k hj hk e => by
  rcases Nat.lt_trichotomy j k with h1 | h1 | h1
  · exact absurd (by rw [e]) (h.2.2.2.1 j k h1 hk)
  · exact h1
  · exact absurd (by rw [e]) (h.2.2.2.1 k j h1 hj)
/-- The vertices of a walk. -/
def walkV (N : Net) (v0 : Int) (pa : Nat → Nat) : Nat → Int
  | 0 => v0
  | j + 1 => N.to (pa j)
structure Walk (N : Net) (g : Nat → Int) (v0 : Int) (pa : Nat → Nat) (L : Nat) : Prop where
  arc : ∀ j, j < L → pa j < N.n ∧ 0 < g (pa j) ∧ N.fr (pa j) = walkV N v0 pa j
  apart : ∀ j k, j < k → k ≤ L → walkV N v0 pa j ≠ walkV N v0 pa k
theorem walkV_rg {N : Net} (hg : N.Good) {g : Nat → Int} {v0 : Int} {pa : Nat → Nat} {L : Nat} (h : Walk N g v0 pa L) (h0 : 0 ≤ v0) (h1 : v0 < N.V) : ∀ j, j ≤ L → 0 ≤ walkV N v0 pa j ∧ walkV N v0 pa j < N.V := fun j hj => by
  cases j with
  | zero => exact ⟨h0, h1⟩
  | succ j =>
    have := hg.arc _ (h.arc j (by omega)).1
    exact ⟨this.2.2.1, this.2.2.2.1⟩
theorem Walk.few {N : Net} (hg : N.Good) {g : Nat → Int} {v0 : Int} {pa : Nat → Nat} {L : Nat} (h : Walk N g v0 pa L) (h0 : 0 ≤ v0) (h1 : v0 < N.V) : L + 1 ≤ N.V.toNat :=
  pigeon (f := fun j => (walkV N v0 pa j).toNat) (fun j hj => by have := walkV_rg hg h h0 h1 j (by omega); omega) fun j k hj hk e => by
    have a := walkV_rg hg h h0 h1 j (by omega)
    have b := walkV_rg hg h h0 h1 k (by omega)
    have e' : walkV N v0 pa j = walkV N v0 pa k := by omega
    rcases Nat.lt_trichotomy j k with h2 | h2 | h2
    · exact absurd e' (h.apart j k h2 (by omega))
    · exact h2
    · exact absurd e'.symm (h.apart k j h2 (by omega))
def addA (pa : Nat → Nat) (L i : Nat) (j : Nat) : Nat := if j = L then i else pa j
theorem addA_lt {pa : Nat → Nat} {L i j : Nat} (h : j < L) : addA pa L i j = pa j := if_neg (by omega)
theorem addA_at {pa : Nat → Nat} {L i : Nat} : addA pa L i L = i := if_pos rfl
theorem walkV_add {N : Net} {v0 : Int} {pa : Nat → Nat} {L i : Nat} : ∀ j, j ≤ L → walkV N v0 (addA pa L i) j = walkV N v0 pa j := fun j hj => by
  cases j with
  | zero => rfl
  | succ j => show N.to (addA pa L i j) = N.to (pa j); rw [addA_lt (by omega)]
section
variable {N : Net} {g : Nat → Int} {v0 s t : Int} {pa : Nat → Nat} {L i : Nat}
theorem walk_arc (h : Walk N g v0 pa L) (hi : i < N.n) (hp : 0 < g i) (hf : N.fr i = walkV N v0 pa L) : ∀ j, j < L + 1 → addA pa L i j < N.n ∧ 0 < g (addA pa L i j) ∧ N.fr (addA pa L i j) = walkV N v0 pa j := fun j hj => by
  by_cases e : j = L
  · subst e; rw [addA_at]; exact ⟨hi, hp, hf⟩
  · rw [addA_lt (by omega)]; exact h.arc j (by omega)
theorem Walk.step (h : Walk N g v0 pa L) (hi : i < N.n) (hp : 0 < g i) (hf : N.fr i = walkV N v0 pa L) (hnew : ∀ j, j ≤ L → walkV N v0 pa j ≠ N.to i) : Walk N g v0 (addA pa L i) (L + 1) := by
  refine ⟨fun j hj => ?_, fun j k hjk hk => ?_⟩
  · obtain ⟨a, b, c⟩ := walk_arc h hi hp hf j hj
    exact ⟨a, b, by rw [c, walkV_add j (by omega)]⟩
  · rw [walkV_add j (by omega)]
    by_cases e : k = L + 1
    · subst e
      show _ ≠ N.to (addA pa L i L)
      rw [addA_at]; exact hnew j (by omega)
    · rw [walkV_add k (by omega)]; exact h.apart j k hjk (by omega)
theorem walk_to (h : Walk N g v0 pa L) (hi : i < N.n) (hp : 0 < g i) (hf : N.fr i = walkV N v0 pa L) {j : Nat} (hj : j < L) : N.to (addA pa L i j) = N.fr (addA pa L i (j + 1)) := by
  rw [(walk_arc h hi hp hf (j + 1) (by omega)).2.2, addA_lt hj]; rfl
theorem Walk.circle (h : Walk N g v0 pa L) (hi : i < N.n) (hp : 0 < g i) (hf : N.fr i = walkV N v0 pa L) {a : Nat} (ha : a ≤ L) (hto : N.to i = walkV N v0 pa a) :
    RouteOk N s t (fun j => addA pa L i (a + j)) (L + 1 - a) false := by
  refine ⟨by omega, fun j hj => (walk_arc h hi hp hf (a + j) (by omega)).1, fun j hj => ?_, fun j k hjk hk => ?_, .inl ⟨rfl, ?_⟩⟩
  · exact walk_to h hi hp hf (show a + j < L by omega)
  · show N.fr (addA pa L i (a + j)) ≠ N.fr (addA pa L i (a + k))
    rw [(walk_arc h hi hp hf (a + j) (by omega)).2.2, (walk_arc h hi hp hf (a + k) (by omega)).2.2]
    exact h.apart _ _ (by omega) (by omega)
  · show N.to (addA pa L i (a + (L + 1 - a - 1))) = N.fr (addA pa L i (a + 0))
    rw [show a + (L + 1 - a - 1) = L by omega, addA_at, (walk_arc h hi hp hf (a + 0) (by omega)).2.2]
    exact hto
theorem Walk.path (h : Walk N g v0 pa L) (hi : i < N.n) (hp : 0 < g i) (hf : N.fr i = walkV N v0 pa L) (hs : v0 = s) (hto : N.to i = t) (hnew : ∀ j, j ≤ L → walkV N v0 pa j ≠ t) :
    RouteOk N s t (addA pa L i) (L + 1) true := by
  refine ⟨by omega, fun j hj => (walk_arc h hi hp hf j hj).1, fun j hj => walk_to h hi hp hf (by omega), fun j k hjk hk => ?_, .inr ⟨rfl, ?_, ?_, fun j hj => ?_⟩⟩
  · rw [(walk_arc h hi hp hf j (by omega)).2.2, (walk_arc h hi hp hf k (by omega)).2.2]
    exact h.apart _ _ hjk (by omega)
  · rw [(walk_arc h hi hp hf 0 (by omega)).2.2]; exact hs
  · rw [show L + 1 - 1 = L by omega, addA_at]; exact hto
  · rw [(walk_arc h hi hp hf j hj).2.2]; exact hnew j (by omega)
end
/-- What is left behind k arcs of a route. -/
def subR (g : Nat → Int) (m : Int) (ra : Nat → Nat) : Nat → Nat → Int
  | 0 => g
  | k + 1 => fun i => if i = ra k then subR g m ra k (ra k) - m else subR g m ra k i
theorem subR_off {g : Nat → Int} {m : Int} {ra : Nat → Nat} {i : Nat} : ∀ k, (∀ j, j < k → ra j ≠ i) → subR g m ra k i = g i := by
  intro k
  induction k with
  | zero => exact fun _ => rfl
  | succ k ih =>
    intro h
    show (if i = ra k then _ else _) = _
    rw [if_neg (fun e => h k (by omega) e.symm)]
    exact ih fun j hj => h j (by omega)
theorem subR_on {g : Nat → Int} {m : Int} {ra : Nat → Nat} {rl : Nat} (hap : ∀ j k, j < rl → k < rl → ra j = ra k → j = k) : ∀ k j, k ≤ rl → j < k → subR g m ra k (ra j) = g (ra j) - m := by
  intro k
  induction k with
  | zero => exact fun j _ hj => by omega
  | succ k ih =>
    intro j hk hj
    show (if ra j = ra k then _ else _) = _
    by_cases e : j = k
    · subst e
      rw [if_pos rfl, subR_off j fun a ha he => by have := hap a j (by omega) (by omega) he; omega]
    · rw [if_neg (fun h => e (hap j k (by omega) (by omega) h))]
      exact ih j (by omega) (by omega)
theorem netAt_one {N : Net} {g : Nat → Int} {m x : Int} {i : Nat} : ∀ k, N.netAt (fun j => if j = i then g i - m else g j) x k = N.netAt g x k - (if i < k then (if N.fr i = x then m else 0) - (if N.to i = x then m else 0) else 0) := by
  intro k
  induction k with
  | zero => rw [if_neg (by omega)]; rfl
  | succ k ih =>
    show N.netAt _ x k + (if N.fr k = x then (if k = i then g i - m else g k) else 0) - (if N.to k = x then (if k = i then g i - m else g k) else 0) = N.netAt g x k + (if N.fr k = x then g k else 0) - (if N.to k = x then g k else 0) - _
    rw [ih]
    by_cases e : k = i
    · subst e
      have h1 : ¬ k < k := by omega
      have h2 : k < k + 1 := by omega
      by_cases hf : N.fr k = x <;> by_cases ht : N.to k = x <;> simp only [h1, h2, hf, ht, if_true, if_false] <;> omega
    · by_cases e2 : i < k
      · have h2 : i < k + 1 := by omega
        simp only [e, e2, h2, if_true, if_false]; omega
      · have h2 : ¬ i < k + 1 := by omega
        simp only [e, e2, h2, if_false]; omega
theorem netAt_subR {N : Net} {s t : Int} {ra : Nat → Nat} {rl : Nat} {path : Bool} (h : RouteOk N s t ra rl path) (g : Nat → Int) (m x : Int) : ∀ k, k + 1 ≤ rl → N.netAt (subR g m ra (k + 1)) x N.n = N.netAt g x N.n - (if N.fr (ra 0) = x then m else 0) + (if N.to (ra k) = x then m else 0) := by
  intro k
  induction k with
  | zero =>
    intro hk
    have e : subR g m ra 1 = fun j => if j = ra 0 then g (ra 0) - m else g j := rfl
    rw [e, netAt_one, if_pos (h.2.1 0 (by omega))]; omega
  | succ k ih =>
    intro hk
    have e : subR g m ra (k + 2) = fun j => if j = ra (k + 1) then subR g m ra (k + 1) (ra (k + 1)) - m else subR g m ra (k + 1) j := rfl
    rw [e, netAt_one, if_pos (h.2.1 (k + 1) (by omega)), ih (by omega), h.2.2.1 k (by omega)]
    omega
theorem subR_cases {g : Nat → Int} {m : Int} {ra : Nat → Nat} {rl : Nat} (hap : ∀ j k, j < rl → k < rl → ra j = ra k → j = k) (i : Nat) : (∃ j, j < rl ∧ ra j = i ∧ subR g m ra rl i = g i - m) ∨ ((∀ j, j < rl → ra j ≠ i) ∧ subR g m ra rl i = g i) := by
  by_cases e : ∃ j, j < rl ∧ ra j = i
  · obtain ⟨j, hj, rfl⟩ := e
    exact .inl ⟨j, hj, rfl, subR_on hap rl j (Nat.le_refl _) hj⟩
  · have h : ∀ j, j < rl → ra j ≠ i := fun j hj he => e ⟨j, hj, he⟩
    exact .inr ⟨h, subR_off rl h⟩
theorem Rest.sub {N : Net} {s t v m : Int} {sd : Nat → Bool} {g : Nat → Int} {ra : Nat → Nat} {rl : Nat} {path : Bool} (hne : s ≠ t) (h : Rest N s t sd g v) (hr : RouteOk N s t ra rl path) (hm : 0 ≤ m) (hle : ∀ j, j < rl → m ≤ g (ra j)) :
    Rest N s t sd (subR g m ra rl) (if path then v - m else v) := by
  have hap := hr.apart
  refine ⟨fun i hi => ?_, fun i hi h1 h2 => ?_, fun x h0 h1 => ?_⟩
  · rcases subR_cases (g := g) (m := m) hap i with ⟨j, hj, rfl, e⟩ | ⟨_, e⟩
    · rw [e]; have := hle j hj; omega
    · rw [e]; exact h.nonneg i hi
  · have hz := h.back i hi h1 h2
    rcases subR_cases (g := g) (m := m) hap i with ⟨j, hj, rfl, e⟩ | ⟨_, e⟩
    · rw [e]; have := hle j hj; omega
    · rw [e]; exact hz
  · obtain ⟨k, rfl⟩ : ∃ k, rl = k + 1 := ⟨rl - 1, by have := hr.1; omega⟩
    rw [netAt_subR hr g m x k (Nat.le_refl _), h.net x h0 h1]
    rcases hr.2.2.2.2 with ⟨rfl, e⟩ | ⟨rfl, e1, e2, _⟩
    · rw [show k + 1 - 1 = k by omega] at e
      rw [e]; simp
    · rw [show k + 1 - 1 = k by omega] at e2
      rw [e1, e2]
      simp only [if_true]
      have hne' : ¬ t = s := fun e => hne e.symm
      by_cases es : x = s
      · subst es
        simp only [hne, hne', if_true, if_false]; omega
      · have es' : ¬ s = x := fun e => es e.symm
        by_cases et : x = t
        · subst et
          simp only [es, es', if_true, if_false]; omega
        · have et' : ¬ t = x := fun e => et e.symm
          simp only [es, es', et, et', if_false]; omega
/-- How many arcs still carry something. -/
def posN (g : Nat → Int) : Nat → Nat
  | 0 => 0
  | k + 1 => posN g k + if 0 < g k then 1 else 0
theorem posN_le (g : Nat → Int) (n : Nat) : posN g n ≤ n := by
  induction n with
  | zero => exact Nat.le_refl _
  | succ n ih => unfold posN; split <;> omega
theorem posN_zero {g : Nat → Int} {n : Nat} (h : ∀ i, i < n → 0 ≤ g i) (hz : posN g n = 0) : ∀ i, i < n → g i = 0 := by
  induction n with
  | zero => exact fun i hi => by omega
  | succ n ih =>
    intro i hi
    have e : posN g n + (if 0 < g n then 1 else 0) = 0 := hz
    by_cases ei : i = n
    · subst ei
      have := h i hi
      by_cases hp : 0 < g i
      · rw [if_pos hp] at e; omega
      · omega
    · exact ih (fun i hi => h i (by omega)) (by omega) i (by omega)
theorem posN_mono {g g' : Nat → Int} {n : Nat} (h : ∀ i, i < n → 0 < g' i → 0 < g i) : posN g' n ≤ posN g n := by
  induction n with
  | zero => exact Nat.le_refl _
  | succ n ih =>
    have := ih fun i hi => h i (by omega)
    show posN g' n + _ ≤ posN g n + _
    by_cases e : 0 < g' n
    · rw [if_pos e, if_pos (h n (by omega) e)]; omega
    · rw [if_neg e]; split <;> omega
theorem posN_less {g g' : Nat → Int} {n : Nat} (h : ∀ i, i < n → 0 < g' i → 0 < g i) {i : Nat} (hi : i < n) (h1 : 0 < g i) (h2 : ¬ 0 < g' i) : posN g' n + 1 ≤ posN g n := by
  induction n with
  | zero => omega
  | succ n ih =>
    show posN g' n + _ + 1 ≤ posN g n + _
    by_cases e : i = n
    · subst e
      have := posN_mono (n := i) fun j hj => h j (by omega)
      rw [if_neg h2, if_pos h1]; omega
    · have := ih (fun j hj => h j (by omega)) (by omega)
      by_cases e2 : 0 < g' n
      · rw [if_pos e2, if_pos (h n (by omega) e2)]; omega
      · rw [if_neg e2]; split <;> omega
/-- The least of the first arcs of a route. -/
def minR (g : Nat → Int) (ra : Nat → Nat) : Nat → Int
  | 0 => g (ra 0)
  | k + 1 => min (minR g ra k) (g (ra k))
theorem minR_le {g : Nat → Int} {ra : Nat → Nat} : ∀ k j, j < k → minR g ra k ≤ g (ra j) := by
  intro k
  induction k with
  | zero => exact fun j hj => by omega
  | succ k ih =>
    intro j hj
    show min _ _ ≤ _
    by_cases e : j = k
    · subst e; omega
    · have := ih j (by omega); omega
theorem minR_is {g : Nat → Int} {ra : Nat → Nat} : ∀ k, ∃ j, j < k + 1 ∧ minR g ra (k + 1) = g (ra j) := by
  have h0 : ∀ k, ∃ j, j < k + 1 ∧ minR g ra k = g (ra j) := by
    intro k
    induction k with
    | zero => exact ⟨0, by omega, rfl⟩
    | succ k ih =>
      obtain ⟨j, hj, e⟩ := ih
      show ∃ j, j < k + 2 ∧ min (minR g ra k) (g (ra k)) = g (ra j)
      by_cases h : minR g ra k ≤ g (ra k)
      · exact ⟨j, by omega, by rw [← e]; omega⟩
      · exact ⟨k, by omega, by omega⟩
  intro k
  obtain ⟨j, hj, e⟩ := h0 k
  show ∃ j, j < k + 1 ∧ min (minR g ra k) (g (ra k)) = g (ra j)
  by_cases h : minR g ra k ≤ g (ra k)
  · exact ⟨j, hj, by rw [← e]; omega⟩
  · exact ⟨k, by omega, by omega⟩
/-- What is left, and of the value, behind k routes. -/
def gAt (f : Nat → Int) (RA : Nat → Nat → Nat) (RL : Nat → Nat) (AM : Nat → Int) : Nat → Nat → Int
  | 0 => f
  | k + 1 => subR (gAt f RA RL AM k) (AM k) (RA k) (RL k)
def vAt (val : Int) (AM : Nat → Int) (PT : Nat → Bool) : Nat → Int
  | 0 => val
  | k + 1 => if PT k then vAt val AM PT k - AM k else vAt val AM PT k
/-- The first K routes. -/
def RoutesTo (N : Net) (s t : Int) (f : Nat → Int) (RA : Nat → Nat → Nat) (RL : Nat → Nat) (AM : Nat → Int) (PT : Nat → Bool) (K : Nat) : Prop :=
  ∀ k, k < K → RouteOk N s t (RA k) (RL k) (PT k) ∧ 1 ≤ AM k ∧ ∀ j, j < RL k → AM k ≤ gAt f RA RL AM k (RA k j)
section
variable {f : Nat → Int} {RA RA' : Nat → Nat → Nat} {RL RL' : Nat → Nat} {AM AM' : Nat → Int} {PT PT' : Nat → Bool}
theorem gAt_congr : ∀ K, (∀ k, k < K → RA k = RA' k ∧ RL k = RL' k ∧ AM k = AM' k) → gAt f RA RL AM K = gAt f RA' RL' AM' K := by
  intro K
  induction K with
  | zero => exact fun _ => rfl
  | succ K ih =>
    intro h
    obtain ⟨a, b, c⟩ := h K (by omega)
    show subR (gAt f RA RL AM K) (AM K) (RA K) (RL K) = subR (gAt f RA' RL' AM' K) (AM' K) (RA' K) (RL' K)
    rw [ih fun k hk => h k (by omega), a, b, c]
theorem vAt_congr {val : Int} : ∀ K, (∀ k, k < K → AM k = AM' k ∧ PT k = PT' k) → vAt val AM PT K = vAt val AM' PT' K := by
  intro K
  induction K with
  | zero => exact fun _ => rfl
  | succ K ih =>
    intro h
    obtain ⟨a, b⟩ := h K (by omega)
    show (if PT K then vAt val AM PT K - AM K else vAt val AM PT K) = (if PT' K then vAt val AM' PT' K - AM' K else vAt val AM' PT' K)
    rw [ih fun k hk => h k (by omega), a, b]
end
/-- A list with one entry more. -/
def addE {α : Type} (F : Nat → α) (K : Nat) (x : α) (k : Nat) : α := if k = K then x else F k
theorem addE_at {α : Type} (F : Nat → α) (K : Nat) (x : α) : addE F K x K = x := if_pos rfl
theorem addE_lt {α : Type} (F : Nat → α) {K k : Nat} (x : α) (h : k < K) : addE F K x k = F k := if_neg (by omega)
section
variable {N : Net} {s t val v : Int} {sd : Nat → Bool} {f g : Nat → Int} {RA : Nat → Nat → Nat} {RL : Nat → Nat} {AM : Nat → Int} {PT : Nat → Bool} {K : Nat} {ra : Nat → Nat} {rl : Nat} {path : Bool}
/-- One route more. -/
theorem routes_step (hne : s ≠ t) (hR : RoutesTo N s t f RA RL AM PT K) (hrest : Rest N s t sd (gAt f RA RL AM K) (vAt val AM PT K)) (hcnt : K + posN (gAt f RA RL AM K) N.n ≤ N.n) (hr : RouteOk N s t ra rl path) (hpos : ∀ j, j < rl → 0 < gAt f RA RL AM K (ra j)) :
    let m := minR (gAt f RA RL AM K) ra rl
    RoutesTo N s t f (addE RA K ra) (addE RL K rl) (addE AM K m) (addE PT K path) (K + 1) ∧
    gAt f (addE RA K ra) (addE RL K rl) (addE AM K m) (K + 1) = subR (gAt f RA RL AM K) m ra rl ∧
    vAt val (addE AM K m) (addE PT K path) (K + 1) = (if path then vAt val AM PT K - m else vAt val AM PT K) ∧
    Rest N s t sd (gAt f (addE RA K ra) (addE RL K rl) (addE AM K m) (K + 1)) (vAt val (addE AM K m) (addE PT K path) (K + 1)) ∧
    K + 1 + posN (gAt f (addE RA K ra) (addE RL K rl) (addE AM K m) (K + 1)) N.n ≤ N.n ∧ 1 ≤ m := by
  intro m
  have hg : ∀ k, k ≤ K → gAt f (addE RA K ra) (addE RL K rl) (addE AM K m) k = gAt f RA RL AM k := fun k hk => gAt_congr k fun j hj => ⟨addE_lt _ _ (by omega), addE_lt _ _ (by omega), addE_lt _ _ (by omega)⟩
  have hv : vAt val (addE AM K m) (addE PT K path) K = vAt val AM PT K := vAt_congr K fun j hj => ⟨addE_lt _ _ hj, addE_lt _ _ hj⟩
  obtain ⟨k0, hk0⟩ : ∃ k, rl = k + 1 := ⟨rl - 1, by have := hr.1; omega⟩
  obtain ⟨j0, hj0, hm0⟩ := minR_is (g := gAt f RA RL AM K) (ra := ra) k0
  rw [← hk0] at hj0 hm0
  have hm1 : 1 ≤ m := by have := hpos j0 hj0; show 1 ≤ minR _ _ _; omega
  have hle : ∀ j, j < rl → m ≤ gAt f RA RL AM K (ra j) := fun j hj => minR_le rl j hj
  have e1 : gAt f (addE RA K ra) (addE RL K rl) (addE AM K m) (K + 1) = subR (gAt f RA RL AM K) m ra rl := by
    show subR (gAt f _ _ _ K) (addE AM K m K) (addE RA K ra K) (addE RL K rl K) = _
    rw [hg K (Nat.le_refl _), addE_at, addE_at, addE_at]
  have e2 : vAt val (addE AM K m) (addE PT K path) (K + 1) = (if path then vAt val AM PT K - m else vAt val AM PT K) := by
    show (if addE PT K path K then vAt val _ _ K - addE AM K m K else vAt val _ _ K) = _
    rw [hv, addE_at, addE_at]
  refine ⟨fun k hk => ?_, e1, e2, ?_, ?_, hm1⟩
  · by_cases e : k = K
    · subst e
      rw [addE_at, addE_at, addE_at, addE_at, hg k (Nat.le_refl _)]
      exact ⟨hr, hm1, hle⟩
    · rw [addE_lt _ _ (by omega), addE_lt _ _ (by omega), addE_lt _ _ (by omega), addE_lt _ _ (by omega), hg k (by omega)]
      exact hR k (by omega)
  · rw [e1, e2]
    exact hrest.sub hne hr (by omega) hle
  · rw [e1]
    have hap := hr.apart
    have hl := posN_less (g := gAt f RA RL AM K) (g' := subR (gAt f RA RL AM K) m ra rl) (n := N.n) (fun i hi hp => by
      rcases subR_cases (g := gAt f RA RL AM K) (m := m) hap i with ⟨j, hj, rfl, e⟩ | ⟨_, e⟩
      · exact hpos j hj
      · rw [e] at hp; exact hp) (hr.2.1 j0 hj0) (hpos j0 hj0) (by
      rw [subR_on hap rl j0 (Nat.le_refl _) hj0]
      show ¬ 0 < gAt f RA RL AM K (ra j0) - minR _ _ _
      omega)
    omega
end
end Go.Proofs.Ythdeldaeghhfgaa
