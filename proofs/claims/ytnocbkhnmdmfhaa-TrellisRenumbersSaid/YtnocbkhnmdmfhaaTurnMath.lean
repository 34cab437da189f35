/- The nodes of each time turned: the same trellis but for the numbers of its nodes. -/
import Derived.Test.YtnocbkhnmdmfhaaRenMath
namespace Go.Proofs.Ytnocbkhnmdmfhaa

/-- Node v at time i, turned by s i. -/
def Trel.pi (T : Trel) (s : Nat → Nat) (i v : Nat) : Nat := (v + s i) % (T.W i).toNat
def Trel.tl (T : Trel) (s : Nat → Nat) (i : Nat) : List Nat := grp (fun j => T.pi s i (T.fr i j).toNat) (T.el i) (T.W i).toNat
def Trel.turn (T : Trel) (s : Nat → Nat) : Trel :=
  ⟨T.nw, T.W, T.n, T.el, fun i p => (T.pi s i (T.fr i ((T.tl s i).getD p 0)).toNat : Nat), fun i p => T.lb i ((T.tl s i).getD p 0), fun i p => (T.pi s (i + 1) (T.to i ((T.tl s i).getD p 0)).toNat : Nat)⟩
theorem mod_inj {n a b s : Nat} (ha : a < n) (hb : b < n) (h : (a + s) % n = (b + s) % n) : a = b := by
  rcases Nat.le_total a b with h1 | h1
  · have h2 : (b - a) % n = 0 := by
      have h3 : b + s = (a + s) + (b - a) := by omega
      have h4 := Nat.sub_mod_eq_zero_of_mod_eq h.symm
      rwa [h3, Nat.add_sub_cancel_left] at h4
    rw [Nat.mod_eq_of_lt (by omega)] at h2
    omega
  · have h2 : (a - b) % n = 0 := by
      have h3 : a + s = (b + s) + (a - b) := by omega
      have h4 := Nat.sub_mod_eq_zero_of_mod_eq h
      rwa [h3, Nat.add_sub_cancel_left] at h4
    rw [Nat.mod_eq_of_lt (by omega)] at h2
    omega
section
variable {T : Trel} (h : T.Proper) (s : Nat → Nat)
include h
theorem Trel.Proper.wpos {i : Nat} (hi : i ≤ T.n) : 0 < (T.W i).toNat := by have := h.shape.wid hi; omega
theorem Trel.Proper.pi_lt {i : Nat} (hi : i ≤ T.n) (v : Nat) : T.pi s i v < (T.W i).toNat := Nat.mod_lt _ (h.wpos hi)
theorem Trel.Proper.pi_inj {i : Nat} (_hi : i ≤ T.n) {u v : Nat} (hu : u < (T.W i).toNat) (hv : v < (T.W i).toNat) (e : T.pi s i u = T.pi s i v) : u = v := by
  have _ := h.wpos _hi
  exact mod_inj hu hv e
theorem Trel.Proper.pi_perm {i : Nat} (hi : i ≤ T.n) : ((List.range (T.W i).toNat).map (T.pi s i)).Perm (List.range (T.W i).toNat) := by
  have hnd : ((List.range (T.W i).toNat).map (T.pi s i)).Nodup := pairwise_range_map.2 fun p q hpq hq e => by
    have := h.pi_inj s hi (by omega) hq e
    omega
  have hsub : ∀ x, x ∈ (List.range (T.W i).toNat).map (T.pi s i) → x ∈ List.range (T.W i).toNat := fun x hx => by
    obtain ⟨v, _, rfl⟩ := List.mem_map.1 hx
    exact List.mem_range.2 (h.pi_lt s hi v)
  have hle : (List.range (T.W i).toNat).length ≤ ((List.range (T.W i).toNat).map (T.pi s i)).length := by simp
  exact perm_of_nodup hnd hsub hle
theorem Trel.Proper.pi_onto {i : Nat} (hi : i ≤ T.n) {v : Nat} (hv : v < (T.W i).toNat) : ∃ u, u < (T.W i).toNat ∧ T.pi s i u = v := by
  obtain ⟨u, hu, e⟩ := List.mem_map.1 ((h.pi_perm s hi).mem_iff.2 (List.mem_range.2 hv))
  exact ⟨u, List.mem_range.1 hu, e⟩
theorem Trel.Proper.tl_perm {i : Nat} (hi : i < T.n) : (T.tl s i).Perm (List.range (T.el i)) := grp_perm fun _ _ => h.pi_lt s (by omega) _
theorem Trel.Proper.tl_len {i : Nat} (hi : i < T.n) : (T.tl s i).length = T.el i := by have := (h.tl_perm s hi).length_eq; simpa using this
theorem Trel.Proper.tl_get {i p : Nat} (hi : i < T.n) (hp : p < T.el i) : (T.tl s i).getD p 0 < T.el i := by
  have hl := h.tl_len s hi
  rw [List.getD_eq_getElem?_getD, List.getElem?_eq_getElem (by omega)]
  exact List.mem_range.1 ((h.tl_perm s hi).mem_iff.1 (List.getElem_mem _))
theorem Trel.Proper.tl_onto {i j : Nat} (hi : i < T.n) (hj : j < T.el i) : ∃ p, p < T.el i ∧ (T.tl s i).getD p 0 = j := by
  have hl := h.tl_len s hi
  obtain ⟨p, hp, e⟩ := List.getElem_of_mem ((h.tl_perm s hi).mem_iff.2 (List.mem_range.2 hj))
  refine ⟨p, by omega, ?_⟩
  rw [List.getD_eq_getElem?_getD, List.getElem?_eq_getElem hp, ← e]
  rfl
theorem Trel.Proper.tl_sorted {i : Nat} (hi : i < T.n) : (T.tl s i).Pairwise fun a b => T.pi s i (T.fr i a).toNat < T.pi s i (T.fr i b).toNat ∨ T.pi s i (T.fr i a).toNat = T.pi s i (T.fr i b).toNat ∧ T.lb i a < T.lb i b := by
  refine grp_pairwise (fun a b _ _ e => .inl e) (fun a b hab hb e => .inr ⟨e, ?_⟩)
  have e2 := h.pi_inj s (by omega) (h.frL hi (by omega)).1 (h.frL hi hb).1 e
  have h5 := h.frL (j := a) hi (by omega)
  have h6 := h.frL (j := b) hi hb
  have := Trel.ord (h.sec i hi) b a hab hb
  omega
theorem Trel.Proper.turn : (T.turn s).Proper := by
  refine ⟨⟨h.shape.n64, h.shape.nw, h.shape.w1, ?_, ?_, fun i hi j hj => ?_⟩, h.w0, h.wn, fun i hi => ⟨fun j hj => ?_, fun v hv => ?_, fun v hv => ?_⟩⟩
  · have e : ∀ k, (T.turn s).sumW k = T.sumW k := by
      intro k
      induction k with
      | zero => rfl
      | succ k ih => show (T.turn s).sumW k + T.W k = T.sumW k + T.W k; rw [ih]
    rw [e]
    exact h.shape.sW
  · have e : ∀ k, (T.turn s).sumE k = T.sumE k := by
      intro k
      induction k with
      | zero => rfl
      | succ k ih => show (T.turn s).sumE k + T.el k = T.sumE k + T.el k; rw [ih]
    rw [e]
    exact h.shape.sE
  · have h1 := h.pi_lt s (i := i) (by have : i < T.n := hi; omega) (T.fr i ((T.tl s i).getD j 0)).toNat
    have h2 := h.pi_lt s (i := i + 1) hi (T.to i ((T.tl s i).getD j 0)).toNat
    refine ⟨?_, ?_, ?_, ?_⟩
    · show (0 : Int) ≤ (T.pi s i (T.fr i ((T.tl s i).getD j 0)).toNat : Nat); omega
    · show ((T.pi s i (T.fr i ((T.tl s i).getD j 0)).toNat : Nat) : Int) < T.W i; omega
    · show (0 : Int) ≤ (T.pi s (i + 1) (T.to i ((T.tl s i).getD j 0)).toNat : Nat); omega
    · show ((T.pi s (i + 1) (T.to i ((T.tl s i).getD j 0)).toNat : Nat) : Int) < T.W (i + 1); omega
  · have h1 := (h.sec i hi).1 _ (h.tl_get s hi hj)
    refine ⟨h1.1, h1.2.1, fun hj0 => ?_⟩
    have hl := h.tl_len s hi
    have hj' : j < T.el i := hj
    have h2 := List.pairwise_iff_getElem.1 (h.tl_sorted s hi) (j - 1) j (by omega) (by omega) (by omega)
    have g : ∀ p (hp : p < (T.tl s i).length), (T.tl s i).getD p 0 = (T.tl s i)[p] := fun p hp => by rw [List.getD_eq_getElem?_getD, List.getElem?_eq_getElem hp]; rfl
    rw [← g (j - 1) (by omega), ← g j (by omega)] at h2
    show ((T.pi s i (T.fr i ((T.tl s i).getD (j - 1) 0)).toNat : Nat) : Int) < (T.pi s i (T.fr i ((T.tl s i).getD j 0)).toNat : Nat) ∨ ((T.pi s i (T.fr i ((T.tl s i).getD (j - 1) 0)).toNat : Nat) : Int) = (T.pi s i (T.fr i ((T.tl s i).getD j 0)).toNat : Nat) ∧ T.lb i ((T.tl s i).getD (j - 1) 0) < T.lb i ((T.tl s i).getD j 0)
    omega
  · obtain ⟨u, hu, e⟩ := h.pi_onto s (i := i) (by have : i < T.n := hi; omega) hv
    obtain ⟨j, hj, e1⟩ := hitB_iff.1 ((h.sec i hi).2.1 u hu)
    obtain ⟨p, hp, e2⟩ := h.tl_onto s hi hj
    refine hitB_iff.2 ⟨p, hp, ?_⟩
    show ((T.pi s i (T.fr i ((T.tl s i).getD p 0)).toNat : Nat) : Int) = (v : Nat)
    rw [e2, e1, Int.toNat_natCast, e]
  · obtain ⟨u, hu, e⟩ := h.pi_onto s (i := i + 1) hi hv
    obtain ⟨j, hj, e1⟩ := hitB_iff.1 ((h.sec i hi).2.2 u hu)
    obtain ⟨p, hp, e2⟩ := h.tl_onto s hi hj
    refine hitB_iff.2 ⟨p, hp, ?_⟩
    show ((T.pi s (i + 1) (T.to i ((T.tl s i).getD p 0)).toNat : Nat) : Int) = (v : Nat)
    rw [e2, e1, Int.toNat_natCast, e]
theorem Trel.Proper.turn_code {i : Nat} (hi : i < T.n) (hn : ∀ v, v < (T.W i).toNat → (T.turn s).nm i (T.pi s i v) = T.nm i v) {p : Nat} (hp : p < T.el i) : (T.turn s).code ((T.turn s).nm i) i p = T.code (T.nm i) i ((T.tl s i).getD p 0) := by
  show (T.turn s).nm i ((T.pi s i (T.fr i ((T.tl s i).getD p 0)).toNat : Nat) : Int).toNat * 256 + _ = _
  rw [Int.toNat_natCast, hn _ (h.frL hi (h.tl_get s hi hp)).1]
  rfl
theorem Trel.Proper.turn_nm : ∀ {i : Nat}, i ≤ T.n → ∀ v, v < (T.W i).toNat → (T.turn s).nm i (T.pi s i v) = T.nm i v := by
  intro i
  induction i with
  | zero => intro _ v _; rfl
  | succ i ih =>
    intro hi v hv
    have hi' : i < T.n := hi
    have hk : ∀ u, u < (T.W (i + 1)).toNat → (T.turn s).kt ((T.turn s).nm i) i (T.el i) (T.pi s (i + 1) u) = T.kt (T.nm i) i (T.el i) u := by
      intro u hu
      have hz := h.turn s
      obtain ⟨q, hq, e1, e2⟩ := h.kt_hit hi' hu
      obtain ⟨p, hp, e3⟩ := h.tl_onto s hi' hq
      obtain ⟨r, hr, e4, e5⟩ := hz.kt_hit (i := i) hi' (h.pi_lt s hi u)
      have e4' : ((T.pi s (i + 1) (T.to i ((T.tl s i).getD r 0)).toNat : Nat) : Int).toNat = T.pi s (i + 1) u := e4
      rw [Int.toNat_natCast] at e4'
      have e6 := h.pi_inj s hi (h.toL hi' (h.tl_get s hi' hr)).1 hu e4'
      rw [h.turn_code s hi' (ih (by omega)) hr] at e5
      have h1 := Trel.kt_le (T := T) (f := T.nm i) (i := i) (h.tl_get s hi' hr)
      rw [e6] at h1
      have h2 := Trel.kt_le (T := T.turn s) (f := (T.turn s).nm i) (i := i) hp
      rw [h.turn_code s hi' (ih (by omega)) hp, e3] at h2
      have e7 : ((T.turn s).to i p).toNat = T.pi s (i + 1) u := by
        show ((T.pi s (i + 1) (T.to i ((T.tl s i).getD p 0)).toNat : Nat) : Int).toNat = _
        rw [Int.toNat_natCast, e3, e1]
      rw [e7] at h2
      have e5' : (T.turn s).kt ((T.turn s).nm i) i (T.el i) (T.pi s (i + 1) u) = T.code (T.nm i) i ((T.tl s i).getD r 0) := e5
      omega
    show rankOf ((T.turn s).kt ((T.turn s).nm i) i (T.el i)) (T.W (i + 1)).toNat (T.pi s (i + 1) v) = rankOf (T.kt (T.nm i) i (T.el i)) (T.W (i + 1)).toNat v
    unfold rankOf
    rw [← (h.pi_perm s hi).countP_eq, List.countP_map]
    refine List.countP_congr fun u hu => ?_
    simp only [Function.comp, hk u (List.mem_range.1 hu), hk v hv]
theorem Trel.Proper.turn_tri {i p : Nat} (hi : i < T.n) (hp : p < T.el i) : (T.turn s).tri i p = T.tri i ((T.tl s i).getD p 0) := by
  have hg := h.tl_get s hi hp
  show ((((T.turn s).nm i ((T.pi s i (T.fr i ((T.tl s i).getD p 0)).toNat : Nat) : Int).toNat : Nat) : Int), _, (((T.turn s).nm (i + 1) ((T.pi s (i + 1) (T.to i ((T.tl s i).getD p 0)).toNat : Nat) : Int).toNat : Nat) : Int)) = _
  rw [Int.toNat_natCast, Int.toNat_natCast, h.turn_nm s (by omega) _ (h.frL hi hg).1, h.turn_nm s (by omega) _ (h.toL hi hg).1]
  rfl
/-- A renumbering of the turned trellis is one of the trellis itself. -/
theorem Trel.Proper.turn_ren {y : Nat → Nat → Int × Int × Int} (hr : IsRen (T.turn s) y) : IsRen T y := fun i hi => by
  obtain ⟨h1, h2⟩ := hr i hi
  refine ⟨h1.trans ?_, h2⟩
  have e : (List.range (T.el i)).map ((T.turn s).tri i) = (T.tl s i).map (T.tri i) := by
    have hl := h.tl_len s hi
    apply List.ext_getElem (by simp [hl])
    intro p h1 h2
    simp only [List.getElem_map, List.getElem_range]
    rw [h.turn_tri s hi (by simpa using h1), List.getD_eq_getElem?_getD, List.getElem?_eq_getElem (by simpa using h2)]
    rfl
  show ((List.range (T.el i)).map ((T.turn s).tri i)).Perm _
  rw [e]
  exact (h.tl_perm s hi).map _
end
end Go.Proofs.Ytnocbkhnmdmfhaa
