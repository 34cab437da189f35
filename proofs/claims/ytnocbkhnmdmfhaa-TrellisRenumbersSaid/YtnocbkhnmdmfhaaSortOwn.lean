/- slices.SortFunc at a slice of the call's own: numbers below n by a key, edges by From and Label. -/
import Derived.Test.YtnocbkhnmdmfhaaSortLess
import Derived.Test.YtnocbkhnmdmfhaaOwn
import Derived.Test.YtnocbkhnmdmfhaaEdge
namespace Go.Proofs.Ytnocbkhnmdmfhaa
open Go.RowKit

section
variable {α : Type} [Inhabited α] {w : World} {base : Nat} {e : TypeId} {s n g o cap : Nat} {f f' : Nat → Nat → Value}
theorem heap_sorted (enc : α → Value) (w : World) (m g o : Nat) (d : Array α) (os : Array Obj) {cur : Array Value} {e : TypeId} {fr : Nat × Nat} (hg : w.heap[g]? = some (.cells cur e fr)) :
    (sortWorld enc w g o m d os).heap[g]? = some (.cells (Go.Sort.putCells enc o d cur) e fr) := by
  have hlt := (Array.getElem?_eq_some_iff.1 hg).1
  unfold sortWorld
  rw [Go.Sort.heap_grow_old _ _ (by rw [Go.Sort.size_putRow]; exact hlt)]
  show (w.heap.modify g (Go.Sort.onCells (Go.Sort.putCells enc o d)))[g]? = _
  rw [Array.getElem?_modify, if_pos rfl, hg]
  rfl
theorem grownBy_sorted (enc : α → Value) (w : World) (m g o : Nat) (d : Array α) (os : Array Obj) : w.grownBy (sortWorld enc w g o m d os) (some g) := by
  refine ⟨rfl, rfl, rfl, by unfold sortWorld; rw [Go.Sort.size_grow, Go.Sort.size_putRow, Go.Sort.heap_ahead]; omega, fun k hk hne => ?_⟩
  unfold sortWorld
  rw [Go.Sort.heap_grow_old _ _ (by rw [Go.Sort.size_putRow]; exact hk)]
  show (w.heap.modify g _)[k]? = _
  rw [Array.getElem?_modify, if_neg (fun h => hne (by rw [h]))]
theorem own_sorted (enc : α → Value) (d : Array α) (m : Nat) (os : Array Obj) (h : Own w base e s (.slice (some ⟨g, o, none⟩) n cap) n f) (hd : d.size = n * s) (hf : ∀ i, i < n → ∀ j, j < s → enc d[i * s + j]! = f' i j) :
    Own (sortWorld enc w g o m d os) base e s (.slice (some ⟨g, o, none⟩) n cap) n f' := by
  rcases h with ⟨h, _⟩ | ⟨g', o', cap', cur, h1, hb, hg, hc, hm, h6, h7⟩
  · cases h
  · injection h1 with h1 _ h2
    injection h1 with h1
    injection h1 with h1 h3
    subst h1 h2 h3
    refine .inr ⟨g, o, cap, _, rfl, hb, heap_sorted enc w m g o d os hg, hc, hm, by simpa [Go.Sort.putCells] using h6, fun i hi j hj => ?_⟩
    have hlt : i * s + j < n * s := by
      have h1 : (i + 1) * s ≤ n * s := Nat.mul_le_mul_right _ hi
      rw [Nat.add_mul, Nat.one_mul] at h1
      omega
    have hcur : o + i * s + j < cur.size := by
      have h1 : n * s ≤ cap * s := Nat.mul_le_mul_right _ hc
      omega
    simp only [Go.Sort.putCells, Array.getElem?_mapIdx]
    rw [Array.getElem?_eq_getElem hcur, Option.map_some, if_pos ⟨by omega, by omega⟩, show o + i * s + j - o = i * s + j by omega, hf i hi j hj]
theorem holds_own (enc : α → Value) (d : Array α) (h : Own w base e s (.slice (some ⟨g, o, none⟩) n cap) n f) (hs : 0 < s) (hn : 0 < n) (hd : d.size = n * s) (hf : ∀ i, i < n → ∀ j, j < s → enc d[i * s + j]! = f i j) :
    Go.Sort.Holds enc w g o d := by
  intro t ht
  obtain ⟨g', o', c', h1, _, _, _, _, hc⟩ := h.form hn
  injection h1 with h1 _ h2
  injection h1 with h1
  injection h1 with h1 h3
  subst h1 h2 h3
  have h1 : t / s < n := Nat.div_lt_of_lt_mul (by rw [Nat.mul_comm]; omega)
  have h2 : t % s < s := Nat.mod_lt _ hs
  have h3 := hc _ h1 _ h2
  have h4 : t / s * s + t % s = t := by rw [Nat.mul_comm]; exact Nat.div_add_mod t s
  rw [Nat.add_assoc, h4, ← hf _ h1 _ h2, h4] at h3
  exact ⟨h3, h.frozen _⟩
end

/-- The elements of a sorted row. -/
theorem permIn_whole {α : Type} [Inhabited α] {d d' : Array α} (h : Go.Sort.PermIn 0 d.size d d') : d'.toList.Perm d.toList := by
  obtain ⟨h1, _, h3⟩ := h
  have e1 : d'.extract 0 d.size = d' := by rw [← h1]; simp
  have e2 : d.extract 0 d.size = d := by simp
  rw [e1, e2] at h3
  exact h3

/-! ### Numbers below n, by a key -/
def lessI (x : Nat × Nat) : Nat := x.1
/-- The closure that compares two numbers below n. -/
def CmpN (g : Nat) (cb : Array Value) (n : Nat) (cf : Nat → Nat → Int) (w : World) (row : Option Nat) : Prop :=
  ∀ W, w.grownBy W row → ∀ u v, u < n → v < n → Calls Try.prog g (#[.int .i64 (u : Nat), .int .i64 (v : Nat)] ++ cb) W fun e w' => e = .returned (.int .i64 (cf u v)) ∧ GG W w'
def encN (n : Nat) (x : Fin n) : Value := .int .i64 (x.val : Nat)
theorem sortNums_any (g : Nat) (cb : Array Value) (n : Nat) (cf : Nat → Nat → Int) (key : Nat → Nat) (w : World) (base : Nat) (v : Value)
    (eg : ∀ args w, (callFunc g args).run Try.prog w = .ok (.enter g args) w) (hcmp : CmpN g cb n cf w v.ownBlock) (hlt : ∀ u v, u < n → v < n → (cf u v < 0 ↔ key u < key v))
    (h : Own w base 3 1 v n (fun i _ => .int .i64 (i : Nat))) (hn : 0 < n) (hsz : n ≤ 1048576) :
    Calls Try.prog 99 #[v, .func (.func g) #[] cb] w fun e w' => e = .returned (.tuple #[]) ∧
      ∃ l : List Nat, l.Perm (List.range n) ∧ (∀ p q, p < q → q < n → key (l.getD p 0) ≤ key (l.getD q 0)) ∧ Own w' base 3 1 v n (fun i _ => .int .i64 (l.getD i 0 : Nat)) ∧ w.grownBy w' v.ownBlock := by
  obtain ⟨blk, off, cap, rfl, _, hb, _⟩ := h.form hn
  haveI : Inhabited (Fin n) := ⟨⟨0, hn⟩⟩
  have hda : ∀ i (hi : i < n), ((Array.ofFn fun i : Fin n => i)[i]! : Fin n) = ⟨i, hi⟩ := fun i hi => by
    rw [getElem!_pos _ i (by simpa using hi)]
    simp
  have hds : (Array.ofFn fun i : Fin n => i).size = n := by simp
  have hlist : (Array.ofFn fun i : Fin n => i).toList.map (·.val) = List.range n := by
    apply List.ext_getElem (by simp)
    intro i h1 h2
    simp
  obtain ⟨d, hd⟩ : ∃ d : Array (Fin n), d = Array.ofFn fun i => i := ⟨_, rfl⟩
  rw [← hd] at hda hds hlist
  have hO : Go.Sort.SWO (ltOf fun x y : Fin n => cf x.val y.val) := by
    have hl : ∀ x y : Fin n, ltOf (fun x y : Fin n => cf x.val y.val) x y = decide (key x.val < key y.val) := fun x y => by
      unfold ltOf
      exact decide_eq_decide.2 (hlt x.val y.val x.2 y.2)
    exact ⟨fun x => by rw [hl]; simp, fun x y z h1 h2 => by rw [hl] at *; simp at *; omega, fun x y z h1 h2 => by rw [hl] at *; simp at *; omega⟩
  have hH : Go.Sort.Holds (encN n) w blk off d := holds_own (encN n) d h (by omega) hn (by rw [hds]; omega) fun i hi j hj => by
    obtain rfl : j = 0 := by omega
    rw [show i * 1 + 0 = i by omega, hda i hi]
    rfl
  have hc : CmpLays1 Try.prog g cb (encN n) (fun x y : Fin n => cf x.val y.val) blk off d.size w := fun m os dk _ x y =>
    hcmp _ (grownBy_sorted (encN n) w m blk off dk os) x.val y.val x.2 y.2
  have hcon := Any.slices_SortFunc Try.sortInts (encN n) (fun _ => rfl) (fun x y : Fin n => cf x.val y.val) hO g cb blk off cap d w eg hc hH hb (by rw [hds]; omega)
  rw [hds] at hcon
  refine Calls.mono (show Calls Try.prog 99 _ _ _ from hcon) ?_
  rintro e w' ⟨rfl, d', m, os, hp, hsrt, rfl⟩
  refine ⟨rfl, d'.toList.map (·.val), ?_, ?_, ?_, grownBy_sorted (encN n) w m blk off d' os⟩
  · rw [← hlist]
    exact (permIn_whole (by rw [hds]; exact hp)).map _
  · intro p q hpq hq
    have hs' : d'.size = n := by have := hp.1; omega
    have h1 := hsrt p q (by omega) hpq hq
    have e1 : ∀ i, i < n → (d'.toList.map (·.val)).getD i 0 = (d'[i]! : Fin n).val := fun i hi => by
      rw [List.getD_eq_getElem?_getD, List.getElem?_map, Array.getElem?_toList, getElem!_pos d' i (by omega), Array.getElem?_eq_getElem (by omega)]
      rfl
    rw [e1 p (by omega), e1 q hq]
    have h2 : ¬ cf (d'[q]! : Fin n).val (d'[p]! : Fin n).val < 0 := by simpa [ltOf] using h1
    rw [hlt _ _ (Fin.isLt _) (Fin.isLt _)] at h2
    omega
  · have hs' : d'.size = n := by have := hp.1; omega
    refine own_sorted (encN n) d' m os h (by omega) fun i hi j hj => ?_
    obtain rfl : j = 0 := by omega
    rw [show i * 1 + 0 = i by omega, List.getD_eq_getElem?_getD, List.getElem?_map, Array.getElem?_toList, getElem!_pos d' i (by omega), Array.getElem?_eq_getElem (by omega)]
    rfl

/-! ### Edges -/
def encE (x : Int × Int × Int) : List Value := [.int .i64 x.1, .int .i64 x.2.1, .int .i64 x.2.2]
theorem lessE_neg (x y : Int × Int × Int) : lessV x.1 x.2.1 y.1 y.2.1 < 0 ↔ ltE x y := lessV_neg
theorem sortEdges_any (n : Nat) (x : Nat → Int × Int × Int) (w : World) (base : Nat) (v : Value)
    (h : Own w base 72 3 v n (edgeCell x)) (hn : 0 < n) (hsz : n ≤ 1048576) :
    Calls Try.prog 100 #[v, .func (.func 48) #[] #[]] w fun e w' => e = .returned (.tuple #[]) ∧
      ∃ y : Nat → Int × Int × Int, ((List.range n).map y).Perm ((List.range n).map x) ∧ (∀ p q, p < q → q < n → ¬ ltE (y q) (y p)) ∧ Own w' base 72 3 v n (edgeCell y) ∧ w.grownBy w' v.ownBlock := by
  obtain ⟨blk, off, cap, rfl, _, hb, _⟩ := h.form hn
  have eg : ∀ args w, (callFunc 48 args).run Try.prog w = .ok (.enter 48 args) w := enters_of Try.func48 (by kernel_rfl) rfl
  obtain ⟨d, hd⟩ : ∃ d : Array (Int × Int × Int), d = ((List.range n).map x).toArray := ⟨_, rfl⟩
  have hds : d.size = n := by rw [hd]; simp
  have hda : ∀ i, i < n → d[i]! = x i := fun i hi => by
    rw [getElem!_pos d i (by omega)]
    simp [hd]
  have hO : Go.Sort.SWO (ltOf fun x y : Int × Int × Int => lessV x.1 x.2.1 y.1 y.2.1) := by
    have hl : ∀ x y : Int × Int × Int, ltOf (fun x y : Int × Int × Int => lessV x.1 x.2.1 y.1 y.2.1) x y = decide (x.1 < y.1 ∨ x.1 = y.1 ∧ x.2.1 < y.2.1) := fun x y => by
      unfold ltOf
      exact decide_eq_decide.2 lessV_neg
    exact ⟨fun x => by rw [hl]; simp, fun x y z h1 h2 => by rw [hl] at *; simp at *; omega, fun x y z h1 h2 => by rw [hl] at *; simp at *; omega⟩
  have hfl : ∀ (d : Array (Int × Int × Int)) (y : Nat → Int × Int × Int), d.size = n → (∀ i, i < n → d[i]! = y i) → ∀ i, i < n → ∀ j, j < 3 → (Go.Sort.flatK encE 3 d)[i * 3 + j]! = edgeCell y i j := fun d y hs hy i hi j hj => by
    rw [Go.Sort.get_flatK encE 3 d _ (by omega), show (i * 3 + j) / 3 = i by omega, show (i * 3 + j) % 3 = j by omega, hy i hi]
    match j, hj with
    | 0, _ => rfl
    | 1, _ => rfl
    | 2, _ => rfl
  have hH : Go.Sort.HoldsK encE 3 w blk off d := holds_own id (Go.Sort.flatK encE 3 d) h (by omega) hn (by simp [hds]) (hfl d x hds hda)
  have hc : CmpLays Try.prog 48 #[] encE 3 (fun x y : Int × Int × Int => lessV x.1 x.2.1 y.1 y.2.1) blk off d.size w := fun m os dk _ x y =>
    (less_gg x.1 x.2.1 x.2.2 y.1 y.2.1 y.2.2 _).mono fun _ _ ⟨he, _, hg⟩ => ⟨he, hg⟩
  have hcon := AnyQ.slices_SortFunc Try.sortEdges 3 Try.isAgg72 Try.sizeOf72 encE (fun _ => rfl) (fun x v hv => by simp [encE] at hv; rcases hv with rfl | rfl | rfl <;> rfl) (fun x y : Int × Int × Int => lessV x.1 x.2.1 y.1 y.2.1) hO 48 #[] blk off cap d w eg hc hH hb (by rw [hds]; omega)
  rw [hds] at hcon
  refine Calls.mono (show Calls Try.prog 100 _ _ _ from hcon) ?_
  rintro e w' ⟨rfl, d', m, os, hp, hsrt, rfl⟩
  have hs' : d'.size = n := by have := hp.1; omega
  have hmap : (List.range n).map (fun i => d'[i]!) = d'.toList := by
    apply List.ext_getElem (by simp [hs'])
    intro i h1 h2
    have hi : i < d'.size := by simpa using h2
    simp [getElem!_pos d' i hi]
  refine ⟨rfl, fun i => d'[i]!, ?_, ?_, ?_, grownBy_sorted id w m blk off _ os⟩
  · rw [hmap]
    have := permIn_whole (d := d) (d' := d') (by rw [hds]; exact hp)
    rw [hd] at this
    exact this
  · intro p q hpq hq hlt
    have h1 := hsrt p q (by omega) hpq hq
    have h2 : ¬ ltE (d'[q]!) (d'[p]!) := by
      rw [← lessE_neg]
      simpa [ltOf] using h1
    exact h2 hlt
  · exact own_sorted id (Go.Sort.flatK encE 3 d') m os h (by simp [hs']) (hfl d' _ hs' fun _ _ => rfl)
end Go.Proofs.Ytnocbkhnmdmfhaa
