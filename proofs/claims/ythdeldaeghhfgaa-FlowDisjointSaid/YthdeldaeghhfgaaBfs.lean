/- A search in the residual network, as a plain law: what holds of it while it runs, and what its end tells. -/
import Derived.Test.YthdeldaeghhfgaaFlowMath
namespace Go.Proofs.Ythdeldaeghhfgaa
open Go.RowKit

/-- A step along arc i, or (b) backwards along it: where it starts, where it leads, how much room it has. -/
def Net.src (N : Net) (i : Nat) (b : Bool) : Nat := if b then (N.to i).toNat else (N.fr i).toNat
def Net.tgt (N : Net) (i : Nat) (b : Bool) : Nat := if b then (N.fr i).toNat else (N.to i).toNat
def Net.room (N : Net) (f : Nat → Int) (i : Nat) (b : Bool) : Int := if b then f i else N.cp i - f i

theorem Net.src_lt {N : Net} (hg : N.Good) {i : Nat} (hi : i < N.n) (b : Bool) : N.src i b < N.V.toNat := by
  have := hg.arc i hi
  unfold Net.src; split <;> omega
theorem Net.tgt_lt {N : Net} (hg : N.Good) {i : Nat} (hi : i < N.n) (b : Bool) : N.tgt i b < N.V.toNat := by
  have := hg.arc i hi
  unfold Net.tgt; split <;> omega

/-- How many of the first n are false. -/
def cntF (p : Nat → Bool) : Nat → Nat
  | 0 => 0
  | k + 1 => cntF p k + if p k then 0 else 1
theorem cntF_le (p : Nat → Bool) (n : Nat) : cntF p n ≤ n := by
  induction n with
  | zero => simp [cntF]
  | succ n ih => simp only [cntF]; split <;> omega
theorem cntF_congr {p p' : Nat → Bool} {n : Nat} (h : ∀ i, i < n → p i = p' i) : cntF p n = cntF p' n := by
  induction n with
  | zero => rfl
  | succ n ih => simp only [cntF]; rw [ih fun i hi => h i (by omega), h n (by omega)]
theorem cntF_set {p : Nat → Bool} {n a : Nat} (ha : a < n) (hp : p a = false) : cntF (fun i => if i = a then true else p i) n + 1 = cntF p n := by
  induction n with
  | zero => omega
  | succ n ih =>
    simp only [cntF]
    by_cases e : a = n
    · subst e
      rw [cntF_congr (p' := p) fun i hi => by rw [if_neg (by omega)]]
      simp [hp]
    · have := ih (by omega)
      simp only [if_neg (show ¬ n = a by omega)]
      omega

/-- What has been found so far: s, and each other vertex by a step with room from one that was found earlier (rk says when). -/
structure Found (N : Net) (f : Nat → Int) (s : Nat) (seen : Nat → Bool) (arc : Nat → Nat) (back : Nat → Bool) (rk : Nat → Nat) (cnt : Nat) : Prop where
  start : seen s = true
  lt : ∀ v, seen v = true → v < N.V.toNat ∧ rk v < cnt
  by_ : ∀ v, seen v = true → v ≠ s → arc v < N.n ∧ N.tgt (arc v) (back v) = v ∧ 0 < N.room f (arc v) (back v) ∧ seen (N.src (arc v) (back v)) = true ∧ rk (N.src (arc v) (back v)) < rk v

/-- All steps with room from v lead to what has been found. -/
def Closed (N : Net) (f : Nat → Int) (seen : Nat → Bool) (v : Nat) : Prop := ∀ i b, i < N.n → N.src i b = v → 0 < N.room f i b → seen (N.tgt i b) = true

theorem Closed.mono {N : Net} {f : Nat → Int} {seen seen' : Nat → Bool} {v : Nat} (h : Closed N f seen v) (hs : ∀ u, seen u = true → seen' u = true) : Closed N f seen' v :=
  fun i b hi hb hr => hs _ (h i b hi hb hr)

/-- The search between two rounds. -/
structure Bfs (N : Net) (f : Nat → Int) (s : Nat) (seen : Nat → Bool) (arc : Nat → Nat) (back : Nat → Bool) (rk : Nat → Nat) (cnt : Nat) (qn : Nat) (q : Nat → Nat) (v : Nat → Prop) : Prop where
  found : Found N f s seen arc back rk cnt
  todo : ∀ u, seen u = true → Closed N f seen u ∨ (∃ j, j < qn ∧ q j = u) ∨ v u
  queue : ∀ j, j < qn → seen (q j) = true
  room : qn + cntF seen N.V.toNat ≤ N.V.toNat
  count : cnt + cntF seen N.V.toNat ≤ N.V.toNat

theorem bfs_start {N : Net} (f : Nat → Int) {s : Nat} (hs : s < N.V.toNat) (seen : Nat → Bool) (hseen : ∀ i, seen i = decide (i = s)) (arc : Nat → Nat) (back : Nat → Bool) (q : Nat → Nat) (hq : q 0 = s) :
    Bfs N f s seen arc back (fun _ => 0) 1 1 q (fun _ => False) := by
  refine ⟨⟨by simp [hseen], fun v hv => ?_, fun v hv hne => ?_⟩, fun u hu => ?_, fun j hj => ?_, ?_, ?_⟩
  · have : v = s := by simpa [hseen] using hv
    subst this
    exact ⟨hs, by omega⟩
  · have : v = s := by simpa [hseen] using hv
    exact absurd this hne
  · have : u = s := by simpa [hseen] using hu
    exact .inr (.inl ⟨0, by omega, by rw [hq, this]⟩)
  · obtain rfl : j = 0 := by omega
    rw [hq, hseen]; simp
  · have h1 := cntF_set (p := fun _ => false) (n := N.V.toNat) hs rfl
    have h2 : cntF seen N.V.toNat = cntF (fun i => if i = s then true else false) N.V.toNat := cntF_congr fun i _ => by rw [hseen]; by_cases e : i = s <;> simp [e]
    have h3 := cntF_le (fun _ => false) N.V.toNat
    omega
  · have h1 := cntF_set (p := fun _ => false) (n := N.V.toNat) hs rfl
    have h2 : cntF seen N.V.toNat = cntF (fun i => if i = s then true else false) N.V.toNat := cntF_congr fun i _ => by rw [hseen]; by_cases e : i = s <;> simp [e]
    have h3 := cntF_le (fun _ => false) N.V.toNat
    omega

theorem bfs_pop {N : Net} {f : Nat → Int} {s : Nat} {seen : Nat → Bool} {arc : Nat → Nat} {back : Nat → Bool} {rk : Nat → Nat} {cnt qn : Nat} {q : Nat → Nat} (h : Bfs N f s seen arc back rk cnt qn q (fun _ => False)) (hq : 0 < qn) :
    Bfs N f s seen arc back rk cnt (qn - 1) (fun j => q (j + 1)) (fun u => u = q 0) := by
  refine ⟨h.found, fun u hu => ?_, fun j hj => h.queue (j + 1) (by omega), by have := h.room; omega, h.count⟩
  rcases h.todo u hu with h1 | ⟨j, hj, e⟩ | h1
  · exact .inl h1
  · by_cases hj0 : j = 0
    · subst hj0; exact .inr (.inr e.symm)
    · exact .inr (.inl ⟨j - 1, by omega, by rw [show j - 1 + 1 = j by omega]; exact e⟩)
  · exact h1.elim

theorem bfs_push {N : Net} (hg : N.Good) {f : Nat → Int} {s : Nat} {seen : Nat → Bool} {arc : Nat → Nat} {back : Nat → Bool} {rk : Nat → Nat} {cnt qn : Nat} {q : Nat → Nat} {v : Nat → Prop} (h : Bfs N f s seen arc back rk cnt qn q v)
    {i : Nat} {b : Bool} (hi : i < N.n) (hsrc : seen (N.src i b) = true) (hr : 0 < N.room f i b) (hn : seen (N.tgt i b) = false) :
    Bfs N f s (fun u => if u = N.tgt i b then true else seen u) (fun u => if u = N.tgt i b then i else arc u) (fun u => if u = N.tgt i b then b else back u) (fun u => if u = N.tgt i b then cnt else rk u) (cnt + 1) (qn + 1) (fun j => if j = qn then N.tgt i b else q j) v := by
  have hne : ∀ u, seen u = true → u ≠ N.tgt i b := fun u hu e => by rw [e, hn] at hu; cases hu
  refine ⟨⟨?_, fun u hu => ?_, fun u hu hus => ?_⟩, fun u hu => ?_, fun j hj => ?_, ?_, ?_⟩
  · simp [h.found.start]
  · by_cases e : u = N.tgt i b
    · subst e; simpa using Net.tgt_lt hg hi b
    · have hu' : seen u = true := by simpa [e] using hu
      have := h.found.lt u hu'
      simp [e]; omega
  · by_cases e : u = N.tgt i b
    · subst e
      have h1 := hne _ hsrc
      have h2 := (h.found.lt _ hsrc).2
      simp only [if_true, if_neg h1]
      simp only [hi, hr, hsrc, h2, and_self]
    · have hu' : seen u = true := by simpa [e] using hu
      obtain ⟨a1, a2, a3, a4, a5⟩ := h.found.by_ u hu' hus
      have h1 := hne _ a4
      simp only [if_neg e, if_neg h1]
      exact ⟨a1, a2, a3, a4, a5⟩
  · by_cases e : u = N.tgt i b
    · exact .inr (.inl ⟨qn, by omega, by rw [if_pos rfl, e]⟩)
    · have hu' : seen u = true := by simpa [e] using hu
      rcases h.todo u hu' with h1 | ⟨j, hj, e'⟩ | h1
      · exact .inl (h1.mono fun u' hu' => by by_cases e : u' = N.tgt i b <;> simp [e, hu'])
      · exact .inr (.inl ⟨j, by omega, by rw [if_neg (by omega)]; exact e'⟩)
      · exact .inr (.inr h1)
  · by_cases e : j = qn
    · simp [e]
    · have := h.queue j (by omega)
      simp only [if_neg e]
      by_cases e' : q j = N.tgt i b
      · simp [e']
      · simp [e', this]
  · have := cntF_set (n := N.V.toNat) (Net.tgt_lt hg hi b) hn
    have := h.room
    omega
  · have := cntF_set (n := N.V.toNat) (Net.tgt_lt hg hi b) hn
    have := h.count
    omega

/-- A round's end: v is closed. -/
theorem bfs_shut {N : Net} {f : Nat → Int} {s : Nat} {seen : Nat → Bool} {arc : Nat → Nat} {back : Nat → Bool} {rk : Nat → Nat} {cnt qn : Nat} {q : Nat → Nat} {x : Nat} (h : Bfs N f s seen arc back rk cnt qn q (fun u => u = x)) (hx : Closed N f seen x) :
    Bfs N f s seen arc back rk cnt qn q (fun _ => False) :=
  ⟨h.found, fun u hu => by
    rcases h.todo u hu with h1 | h1 | rfl
    · exact .inl h1
    · exact .inr (.inl h1)
    · exact .inl hx, h.queue, h.room, h.count⟩

/-- The end: what has been found is closed. -/
structure Reached (N : Net) (f : Nat → Int) (s : Nat) (seen : Nat → Bool) (arc : Nat → Nat) (back : Nat → Bool) (rk : Nat → Nat) (cnt : Nat) : Prop where
  found : Found N f s seen arc back rk cnt
  closed : ∀ u, seen u = true → Closed N f seen u
  few : cnt ≤ N.V.toNat

theorem bfs_end {N : Net} {f : Nat → Int} {s : Nat} {seen : Nat → Bool} {arc : Nat → Nat} {back : Nat → Bool} {rk : Nat → Nat} {cnt : Nat} {q : Nat → Nat} (h : Bfs N f s seen arc back rk cnt 0 q (fun _ => False)) : Reached N f s seen arc back rk cnt :=
  ⟨h.found, fun u hu => by
    rcases h.todo u hu with h1 | ⟨j, hj, _⟩ | h1
    · exact h1
    · omega
    · exact h1.elim, by have := h.count; omega⟩

/-- Two searches of one network from one vertex find the same. -/
theorem found_sub {N : Net} {f : Nat → Int} {s : Nat} {seen seen' : Nat → Bool} {arc : Nat → Nat} {back : Nat → Bool} {rk : Nat → Nat} {cnt : Nat} (h : Found N f s seen arc back rk cnt) (h0 : seen' s = true) (hr : ∀ i b, i < N.n → 0 < N.room f i b → seen' (N.src i b) = true → seen' (N.tgt i b) = false → False) :
    ∀ v, seen v = true → seen' v = true := by
  have key : ∀ k v, rk v < k → seen v = true → seen' v = true := by
    intro k
    induction k with
    | zero => intro v hv; omega
    | succ k ih =>
      intro v hv hs
      by_cases e : v = s
      · rw [e]; exact h0
      · obtain ⟨a1, a2, a3, a4, a5⟩ := h.by_ v hs e
        have h1 := ih _ (by omega) a4
        cases h2 : seen' v
        · exact (hr (arc v) (back v) a1 a3 h1 (by rw [a2]; exact h2)).elim
        · rfl
  exact fun v hv => key (rk v + 1) v (by omega) hv
end Go.Proofs.Ythdeldaeghhfgaa
