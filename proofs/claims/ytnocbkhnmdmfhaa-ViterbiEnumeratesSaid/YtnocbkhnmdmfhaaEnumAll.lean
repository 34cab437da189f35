/- copy of a polynomial into a row of zeros. viterbi.Enumerator: the weight distribution of the paths. viterbi.Lightest: the least weight of the nonzero labels of the paths. codewrightref49.Lightest, codewrightref46.SamePoly and SameLeast. -/
import Derived.Test.YtnocbkhnmdmfhaaPForward
import Derived.Laws.CopyOwn
import Derived.Test.YtnocbkhnmdmfhaaTrelProper
import Derived.Laws.EntriesVeiled
import Derived.Laws.ResultCell

namespace Go.Proofs.Ytnocbkhnmdmfhaa
open Go.RowKit

theorem splice_get {α : Type} {L cs : List α} {i : Nat} : (splice L 0 cs)[i]? = if i < cs.length then cs[i]? else L[i]? := by
  unfold splice
  simp only [List.take_zero, List.nil_append, Nat.zero_add]
  by_cases h1 : i < cs.length
  · rw [if_pos h1, List.getElem?_append_left h1]
  · rw [if_neg h1, List.getElem?_append_right (by omega), List.getElem?_drop]
    congr 1
    omega
theorem run_copy_splice {P : Program} (w : World) (dT sT ty elem : TypeId) (hu : P.underlying dT = some (.slice elem)) (hsz : (P.info? elem).map (·.size) = some 1)
    (g off : Nat) (sp : Option Addr) (dLen dCap sLen sCap : Nat) (cur : List Value) (t : TypeId) (hg : w.heap[g]? = some (.cells cur.toArray t (0, 0))) (cs : List Value) (hn : cs.length = Nat.min sLen dLen)
    (hpos : 0 < cs.length → ∃ ad, sp = some ad ∧ ∀ j v, cs[j]? = some v → w.cell? (ad.add j) = some v)
    (hfit : off + cs.length ≤ cur.length) (h1 : ∀ v ∈ cs, v.oneCell' = true) (B : Nat) (w0 : World) (hb : Below B w0 w) (hBg : B ≤ g) :
    ∃ r w', (Builtin.copy_ #[dT, sT] ty #[.slice (some ⟨g, off, none⟩) dLen dCap, .slice sp sLen sCap]).run P w = .ok r w' ∧ w'.heap[g]? = some (.cells (splice cur off cs).toArray t (0, 0)) ∧ Below B w0 w' := by
  by_cases h0 : cs.length = 0
  · obtain rfl : cs = [] := List.eq_nil_of_length_eq_zero h0
    exact ⟨_, w, run_copy_none (P := P) w dT sT ty elem _ _ dLen dCap sLen sCap hu hsz (by simpa using hn.symm), by simpa [splice] using hg, hb⟩
  · obtain ⟨ad, rfl, hsrc⟩ := hpos (by omega)
    exact ⟨_, _, run_copy_row (P := P) w dT sT ty elem g off dLen dCap ad sLen sCap cur.toArray t cs hu hsz hg hn hsrc (by simpa using hfit) h1, by simpa [splice] using setRow_heap w g _ _ t _ hg, below_setRow hb hBg _⟩
set_option maxRecDepth 100000 in
theorem run_copy_pol {wz w : World} (ty : TypeId) {g m d c : Nat} {A : Option Addr} {x : Nat → Nat} (hm : m ≤ 66) (hz : Below wz.heap.size wz w) (hg : wz.heap.size ≤ g)
    (hrow : w.rowIs g 43 m (fun _ => .slice none 0 0)) (hV : PolV wz (.slice A d c) x) :
    ∃ r w', (Builtin.copy_ #[39, 39] ty #[.slice (some ⟨g, 0, none⟩) m m, .slice A d c]).run Try.prog w = .ok r w' ∧ NatOwn w' wz.heap.size (.slice (some ⟨g, 0, none⟩) m m) m x ∧ Below wz.heap.size wz w' := by
  obtain ⟨hT, hd66, hz0, _, _⟩ := hV.tab
  obtain ⟨cur, hgc, hsz, hcells⟩ := hrow
  have hsz1 : (Try.prog.info? 43).map (·.size) = some 1 := by
    obtain ⟨i, hi, hzz⟩ := Option.map_eq_some_iff.1 Try.infoNat
    simp only [Prod.mk.injEq] at hzz
    rw [hi]
    simp [hzz.2.1]
  have hh : ∀ i, ∃ v : Value, i < d → (∃ b off, A = some ⟨b, off, none⟩ ∧ b < wz.heap.size ∧ wz.cell? ⟨b, off + i, none⟩ = some v) ∧ ∃ A' c', v = .slice A' (dl (x i)) c' ∧ NatOk wz wz.heap.size A' (x i) ∧ dl (x i) ≤ c' ∧ c' ≤ maxLen := fun i => by
    by_cases hi : i < d
    · obtain ⟨b, off, A', c', e, h1, h2, h3, h4, h5⟩ := hT i hi
      exact ⟨_, fun _ => ⟨⟨b, off, e, h1, h2⟩, A', c', rfl, h5, h3, h4⟩⟩
    · exact ⟨undef, fun h => absurd h hi⟩
  have hhc : ∃ F : Nat → Value, ∀ i, i < d → (∃ b off, A = some ⟨b, off, none⟩ ∧ b < wz.heap.size ∧ wz.cell? ⟨b, off + i, none⟩ = some (F i)) ∧ ∃ A' c', F i = .slice A' (dl (x i)) c' ∧ NatOk wz wz.heap.size A' (x i) ∧ dl (x i) ≤ c' ∧ c' ≤ maxLen := ⟨fun i => (hh i).choose, fun i => (hh i).choose_spec⟩
  obtain ⟨F, hF⟩ := hhc
  obtain ⟨k, hk⟩ : ∃ k, k = Nat.min d m := ⟨_, rfl⟩
  have hkd : k ≤ d := by rw [hk]; exact Nat.min_le_left _ _
  have hkm : k ≤ m := by rw [hk]; exact Nat.min_le_right _ _
  have hlen : ((List.range k).map F).length = k := by simp
  have hget : ∀ i, i < k → ((List.range k).map F)[i]? = some (F i) := fun i hi => by simp [hi]
  obtain ⟨r, w', hrun, hm', hb'⟩ := run_copy_splice (P := Try.prog) w 39 39 ty 43 Try.underlying39 hsz1 g 0 A m m d c cur.toList 43 (by simpa using hgc) ((List.range k).map F) (by rw [hlen, hk]) (fun h0 => by
    rw [hlen] at h0
    obtain ⟨⟨b, off, e, hb, _⟩, _⟩ := hF 0 (by omega)
    refine ⟨⟨b, off, none⟩, e, fun j v hj => ?_⟩
    have hjk : j < k := by
      have := (List.getElem?_eq_some_iff.1 hj).1
      rwa [hlen] at this
    rw [hget j hjk] at hj
    replace hj := Option.some.inj hj
    obtain ⟨⟨b2, off2, e2, _, hc2⟩, _⟩ := hF j (by omega)
    have e3 : (⟨b, off, none⟩ : Addr) = ⟨b2, off2, none⟩ := Option.some.inj (e.symm.trans e2)
    have e4 : b = b2 := congrArg Addr.block e3
    have e5 : off = off2 := congrArg Addr.off e3
    subst e4 e5
    have hadd : (⟨b, off, none⟩ : Addr).add j = ⟨b, off + j, none⟩ := by unfold Addr.add; split <;> simp_all
    rw [hadd, ← hj, hz.cell (p := ⟨b, off + j, none⟩) hb]
    exact hc2) (by rw [hlen]; simp; omega) (fun v hv => by
    obtain ⟨j, hj, rfl⟩ := List.mem_map.1 hv
    obtain ⟨_, A', c', e, _⟩ := hF j (by have := List.mem_range.1 hj; omega)
    rw [e]
    rfl) wz.heap.size wz hz hg
  have hcl : ∀ i, i < m → (splice cur.toList 0 ((List.range k).map F))[i]? = some (if i < k then F i else .slice none 0 0) := fun i hi => by
    rw [splice_get, hlen]
    by_cases h1 : i < k
    · rw [if_pos h1, if_pos h1, hget i h1]
    · rw [if_neg h1, if_neg h1]
      simpa using hcells i hi
  have hslen : (splice cur.toList 0 ((List.range k).map F)).length = m := by
    rw [length_splice _ _ _ (by rw [hlen]; simp; omega)]
    simpa using hsz
  refine ⟨r, w', hrun, ⟨fun i _ => if i < k then F i else .slice none 0 0, .inr ⟨g, 0, m, _, rfl, hg, hm', Nat.le_refl _, by unfold maxLen; omega, by simp [hslen], fun i hi j hj => ?_⟩, fun q hq => ?_, fun i hi => ?_⟩, hb'⟩
  · obtain rfl : j = 0 := by omega
    rw [Nat.mul_one, Nat.zero_add, Nat.add_zero]
    simpa using hcl i hi
  · obtain rfl : g = q := by simpa [Value.ownBlock] using hq
    refine noInt_of hm' fun u hu z e => ?_
    have hu : u ∈ splice cur.toList 0 ((List.range k).map F) := by simpa using hu
    obtain ⟨j, hj, e2⟩ := List.getElem_of_mem hu
    rw [hslen] at hj
    have h3 := hcl j hj
    rw [List.getElem?_eq_getElem (by omega), e2, e] at h3
    by_cases h1 : j < k
    · rw [if_pos h1] at h3
      obtain ⟨_, A', c', e4, _⟩ := hF j (by omega)
      rw [e4] at h3
      cases h3
    · rw [if_neg h1] at h3
      cases h3
  · by_cases h1 : i < k
    · obtain ⟨_, A', c', e4, n1, n2, n3⟩ := hF i (by omega)
      exact ⟨A', c', by show (if i < k then F i else _) = _; rw [if_pos h1]; exact e4, n1.on hb', n2, n3⟩
    · have hx : x i = 0 := by
        have hk2 : k = min d m := hk
        have h2 : d ≤ i := by omega
        exact hz0 i h2
      exact ⟨none, 0, by show (if i < k then F i else _) = _; rw [if_neg h1, hx, dl_zero], by rw [hx]; exact natOk_zero _ _ _, by rw [hx, dl_zero]; omega, by unfold maxLen; omega⟩
end Go.Proofs.Ytnocbkhnmdmfhaa

namespace Go.Proofs.Ytnocbkhnmdmfhaa
open Go.RowKit

def EnumPost (T : Trel) (w : World) (e : Ending) (w' : World) : Prop :=
  Below w.heap.size w w' ∧
  ((T.properE ≠ 0 ∧ e = .returned (.tuple #[.slice none 0 0, .int .i64 T.properE])) ∨
  (T.properE = 0 ∧ ∃ A c, e = .returned (.tuple #[.slice A (T.n + 1) c, .int .i64 0]) ∧ NatOwn w' w.heap.size (.slice A (T.n + 1) c) (T.n + 1) (T.pw T.n 0)))
theorem Trel.shapeE_zero {T : Trel} (hp : T.properE = 0) : T.shapeE = 0 := by
  cases Decidable.em (T.shapeE = 0) with
  | inl h => exact h
  | inr h => exact absurd (Trel.properE_shape h ▸ hp) h
set_option maxRecDepth 100000 in
set_option maxHeartbeats 8000000 in
theorem enumerate_any (T : Trel) (A B : Option Addr) (c d : Nat) (w : World) (h : T.Reads w A B) :
    Calls Try.prog 20 #[.agg #[.slice A T.nw c, .slice B T.n d]] w (EnumPost T w) := by
  obtain ⟨RB, hRB⟩ : ∃ o, o = (Obj.cells #[.slice A T.nw c, .slice B T.n d] 25) := ⟨_, rfl⟩
  have hB0 : Below (w.heap.size + 1) (w.alloc RB) (w.alloc RB) := Below.refl _ _
  have HS : Hid (∀ w', Below (w.heap.size + 1) (w.alloc RB) w' → (w'.cell? ⟨w.heap.size, 0, none⟩ = some (.slice A T.nw c) ∧ w'.cell? ⟨w.heap.size, 1, none⟩ = some (.slice B T.n d)) ∧ Below w.heap.size w w') := fun w' hB => by
    have hB' := tbox_below hB
    subst hRB
    exact ⟨⟨tbox hB rfl, tbox hB rfl⟩, hB'⟩
  obtain ⟨⟨p0, p1⟩, hW⟩ := HS.out _ hB0
  have HR := hid h
  clear h
  go_enter Try.func20, Try.ntmps20
  go_wp2_with fail
  rw [← hRB]
  refine (proper_any T A B c d _ (HR.out.on hW)).mono ?_
  rintro e w1 ⟨rfl, kb⟩
  have hB1 := tbox_on hB0 kb
  clear hW p0 p1 kb hB0 hRB
  obtain ⟨⟨p0, p1⟩, hW⟩ := HS.out _ hB1
  by_cases hp : T.properE = 0
  · have HP0 := hid hp
    have HP := hid (Trel.proper_of hp)
    have HSE := hid (Trel.shapeE_zero hp)
    have hn64 := HP.out.shape.n64
    rw [hp]
    clear hp
    have hl1 := tbox_lt hB1
    go_wp2_with fail
    obtain ⟨OS, hOS⟩ : ∃ o, o = (Obj.cells #[] 82) := ⟨_, rfl⟩
    rw [← hOS]
    have kb2 : Below w1.heap.size w1 (w1.alloc OS) := (Below.refl _ _).alloc (Nat.le_refl _) _
    obtain ⟨w2, hw2⟩ : ∃ W, W = w1.alloc OS := ⟨_, rfl⟩
    rw [← hw2] at kb2 ⊢
    have hB2 := tbox_on hB1 kb2
    obtain ⟨sb, hsb⟩ : ∃ b, b = w1.heap.size := ⟨_, rfl⟩
    rw [← hsb]
    clear hw2 hsb kb2 hB1 hOS p0 p1 hW hl1
    refine (natOf_any 1 w2 (by omega)).mono ?_
    rintro e w3 ⟨A1, c1, rfl, g1, g2, g3, kb⟩
    have hB3 := tbox_on hB2 kb
    clear kb hB2
    obtain ⟨⟨p0, p1⟩, hW⟩ := HS.out _ hB3
    have hl3 := tbox_lt hB3
    have hO := natOwn_block (w := w3) (n := 2) (x := mono 1) (cs := #[.slice none 0 0, .slice A1 (dl 1) c1]) (by omega) rfl (fun i hi => by
      match i, hi with
      | 0, _ => exact ⟨none, 0, by show some _ = some (Value.slice none (dl 0) 0); rw [dl_zero]; rfl, by show NatOk _ _ _ 0; exact natOk_zero _ _ _, by show dl 0 ≤ 0; rw [dl_zero]; omega, by unfold maxLen; omega⟩
      | 1, _ => exact ⟨A1, c1, rfl, g3, g1, g2⟩)
    have hZ0 : PolV (w3.alloc (Obj.cells #[.slice none 0 0, .slice A1 (dl 1) c1] 43)) (.slice (some ⟨w3.heap.size, 0, none⟩) 2 2) (mono 1) := ⟨2, hO, by omega, fun t ht => if_neg (by omega), fun D hD => mono_short hD⟩
    go_upto_region 6 with fail
    obtain ⟨OA, hOA⟩ : ∃ o, o = (Obj.cells #[.slice none 0 0, .slice A1 (dl 1) c1] 43) := ⟨_, rfl⟩
    rw [← hOA] at hZ0 ⊢
    have k3 : Below w3.heap.size w3 (w3.alloc OA) := (Below.refl _ _).alloc (Nat.le_refl _) _
    have k4 : Below (w3.alloc OA).heap.size (w3.alloc OA) ((w3.alloc OA).alloc (Obj.cells #[.slice (some ⟨w3.heap.size, 0, none⟩) 2 2] 39)) := (Below.refl _ _).alloc (Nat.le_refl _) _
    have hz : ((w3.alloc OA).alloc (Obj.cells #[.slice (some ⟨w3.heap.size, 0, none⟩) 2 2] 39)).cell? ⟨w3.heap.size + 1, 0, none⟩ = some (.slice (some ⟨w3.heap.size, 0, none⟩) 2 2) := World.cell?_alloc_at _ _ _ _ (by simp)
    obtain ⟨w4, hw4⟩ : ∃ W, W = (w3.alloc OA).alloc (Obj.cells #[.slice (some ⟨w3.heap.size, 0, none⟩) 2 2] 39) := ⟨_, rfl⟩
    rw [← hw4] at k4 hz ⊢
    have hzv := hZ0.on k4
    have kb := onS k3 k4
    replace hB3 := tbox_on hB3 kb
    replace p0 := cellS kb p0
    replace p1 := cellS kb p1
    replace hW := onS hW kb
    obtain ⟨ZA, hZA⟩ : ∃ b : Option Addr, b = some ⟨w3.heap.size, 0, none⟩ := ⟨_, rfl⟩
    obtain ⟨zb, hzb⟩ : ∃ b, b = w3.heap.size + 1 := ⟨_, rfl⟩
    rw [← hZA] at hz hzv ⊢
    rw [← hzb] at hz ⊢
    clear hZA hzb hw4 hOA k3 k4 kb hZ0 hO g1 g2 g3 hl3
    refine wp_region_held_drew (S := fun w' => w'.cell? ⟨w.heap.size, 0, none⟩ = some (.slice A T.nw c) ∧ w'.cell? ⟨w.heap.size, 1, none⟩ = some (.slice B T.n d)) (by kernel_rfl) ⟨cellS (Below.refl _ _).drew p0, cellS (Below.refl _ _).drew p1⟩ (fun hHeld => ?_)
    obtain ⟨w5, hw⟩ : ∃ W, W = World.drew w4 := ⟨_, rfl⟩
    have kb : Below w4.heap.size w4 w5 := by rw [hw]; exact (Below.refl _ _).drew
    rw [← hw] at hHeld ⊢
    clear hw
    replace hB3 := tbox_on hB3 kb
    replace hW := onS hW kb
    replace p0 := cellS kb p0
    replace p1 := cellS kb p1
    replace hz := cellS kb hz
    replace hzv := hzv.on kb
    clear kb
    refine wpAnyH_take (i := 0) (v := ?_) (by simp only [List.getElem?_toArray, List.getElem?_cons_zero]; rfl) (by kernel_rfl) (by kernel_rfl) (by kernel_rfl) (by exact fun _ _ _ h => h) (Or.inl ⟨by rfl, ?_⟩) (by assumption) ?_
    rotate_left
    · (intro w hSw; (try dsimp only at hSw); go_simp); first | done | with_reducible rfl
    try simp only [Act.put, List.setIfInBounds_toArray, List.set_cons_zero, List.set_cons_succ]
    refine wpAnyH_take (i := 1) (v := ?_) (by simp only [List.getElem?_toArray, List.getElem?_cons_succ, List.getElem?_cons_zero]; rfl) (by kernel_rfl) (by kernel_rfl) (by kernel_rfl) (by exact fun _ _ _ h => h) (Or.inl ⟨by rfl, ?_⟩) (by assumption) ?_
    rotate_left
    · (intro w hSw; (try dsimp only at hSw); go_simp); first | done | with_reducible rfl
    try simp only [Act.put, List.setIfInBounds_toArray, List.set_cons_zero, List.set_cons_succ]
    refine wpAnyH_take (i := 2) (v := ?_) (by simp only [List.getElem?_toArray, List.getElem?_cons_succ, List.getElem?_cons_zero]; rfl) (by kernel_rfl) (by kernel_rfl) (by kernel_rfl) (by exact fun _ _ _ h => h) (Or.inl ⟨by rfl, ?_⟩) (by assumption) ?_
    rotate_left
    · (intro w hSw; (try dsimp only at hSw); go_simp); first | done | with_reducible rfl
    try simp only [Act.put, List.setIfInBounds_toArray, List.set_cons_zero, List.set_cons_succ]
    refine wpAnyH_ready (rs := [3]) (by kernel_rfl) (by simp) ?_
    refine AllReadyH.cons (by simp only [List.getElem?_toArray, List.getElem?_cons_succ, List.getElem?_cons_zero]; rfl) (fun K hK => ?_) AllReadyH.nil
    go_simp
    refine hK.out _ _ ⟨p0, p1⟩ (fun hHeld => ?_)
    clear hK K
    try simp only [Act.put, List.setIfInBounds_toArray, List.set_cons_zero, List.set_cons_succ]
    refine wpAnyH_ready (rs := [4]) (by kernel_rfl) (by simp) ?_
    refine AllReadyH.cons (by simp only [List.getElem?_toArray, List.getElem?_cons_succ, List.getElem?_cons_zero]; rfl) (fun K hK => ?_) AllReadyH.nil
    go_simp
    go_wp2_with fail
    refine (valsP_any T A B ZA c d 2 2 sb zb w5 (HR.out.on hW) HP.out.shape hz hzv).mono ?_
    rintro e w6 ⟨g1, F1, rfl, _, hT1, kb⟩
    replace hB3 := tbox_on hB3 kb
    replace hW := onS hW kb
    replace p0 := cellS kb p0
    replace p1 := cellS kb p1
    replace hz := cellS kb hz
    replace hzv := hzv.on kb
    clear kb
    have hP := hT1.rows
    clear hT1
    clear hz hzv
    refine hK.out _ _ ⟨p0, p1⟩ (fun hHeld => ?_)
    clear hK K
    try simp only [Act.put, List.setIfInBounds_toArray, List.set_cons_zero, List.set_cons_succ]
    refine wpAnyH_ready (rs := [5]) (by kernel_rfl) (by simp) ?_
    refine AllReadyH.cons (by simp only [List.getElem?_toArray, List.getElem?_cons_succ, List.getElem?_cons_zero]; rfl) (fun K hK => ?_) AllReadyH.nil
    go_simp
    go_wp2_with fail
    refine (forwardP_any T A B (some ⟨g1, 0, none⟩) c d T.n w6 (HR.out.on hW) HSE.out hP).mono ?_
    rintro e w7 ⟨g2, F2, rfl, _, hT2, kb⟩
    replace hB3 := tbox_on hB3 kb
    replace hW := onS hW kb
    replace p0 := cellS kb p0
    replace p1 := cellS kb p1
    replace hP := hP.on kb
    clear kb
    refine hK.out _ _ ⟨p0, p1⟩ (fun hHeld => ?_)
    clear hK K
    try simp only [Act.put, List.setIfInBounds_toArray, List.set_cons_zero, List.set_cons_succ]
    refine wpAnyH_take (i := 6) (v := ?_) (by simp only [List.getElem?_toArray, List.getElem?_cons_succ, List.getElem?_cons_zero]; rfl) (by kernel_rfl) (by kernel_rfl) (by kernel_rfl) (by exact fun _ _ _ h => h) (Or.inl ⟨by rfl, ?_⟩) (by assumption) ?_
    rotate_left
    · (intro w hSw; (try dsimp only at hSw); go_simp); first | done | with_reducible rfl
    try simp only [Act.put, List.setIfInBounds_toArray, List.set_cons_zero, List.set_cons_succ]
    refine wpAnyH_take (i := 7) (v := ?_) (by simp only [List.getElem?_toArray, List.getElem?_cons_succ, List.getElem?_cons_zero]; rfl) (by kernel_rfl) (by kernel_rfl) (by kernel_rfl) (by exact fun _ _ _ h => h) (Or.inl ⟨by rfl, ?_⟩) (by assumption) ?_
    rotate_left
    · (intro w hSw; (try dsimp only at hSw); go_simp); first | done | with_reducible rfl
    try simp only [Act.put, List.setIfInBounds_toArray, List.set_cons_zero, List.set_cons_succ]
    refine wpAnyH_take (i := 8) (v := ?_) (by simp only [List.getElem?_toArray, List.getElem?_cons_succ, List.getElem?_cons_zero]; rfl) (by kernel_rfl) (by kernel_rfl) (by kernel_rfl) (by exact fun _ _ _ h => h) (Or.inl ⟨by rfl, ?_⟩) (by assumption) ?_
    rotate_left
    · (intro w hSw; (try dsimp only at hSw); go_simp); first | done | with_reducible rfl
    try simp only [Act.put, List.setIfInBounds_toArray, List.set_cons_zero, List.set_cons_succ]
    refine wpAnyH_take (i := 9) (v := ?_) (by simp only [List.getElem?_toArray, List.getElem?_cons_succ, List.getElem?_cons_zero]; rfl) (by kernel_rfl) (by kernel_rfl) (by kernel_rfl) (by exact fun _ _ _ h => h) (Or.inl ⟨by rfl, ?_⟩) (by assumption) ?_
    rotate_left
    · (intro w hSw; (try dsimp only at hSw); go_simp); first | done | with_reducible rfl
    try simp only [Act.put, List.setIfInBounds_toArray, List.set_cons_zero, List.set_cons_succ]
    refine wpAnyH_take (i := 10) (v := ?_) (by simp only [List.getElem?_toArray, List.getElem?_cons_succ, List.getElem?_cons_zero]; rfl) (by kernel_rfl) (by kernel_rfl) (by kernel_rfl) (by exact fun _ _ _ h => h) (Or.inl ⟨by rfl, ?_⟩) (by assumption) ?_
    rotate_left
    · (intro w hSw; (try dsimp only at hSw); go_simp); first | done | with_reducible rfl
    try simp only [Act.put, List.setIfInBounds_toArray, List.set_cons_zero, List.set_cons_succ]
    refine wpAnyH_done (by kernel_rfl) ?_ _
    clear hHeld
    clear hP
    obtain ⟨w7, hw7⟩ : ∃ W, W = w7 := ⟨_, rfl⟩
    rw [← hw7] at hT2 hB3 hW p0 p1 ⊢
    have hnw := HP.out.shape.nw
    have hnl : T.n < T.nw := by omega
    have hnl' : (T.n : Int) < (T.nw : Int) := by omega
    have hn0 : (0 : Int) ≤ (T.n : Int) := by omega
    have hwn := HP.out.wn
    obtain ⟨b0, o0, d0, V0, hF0, hb0, hbl0, q0, hV0, _⟩ := hT2.at (v := T.n) hnl (k := 0) (by show 0 < (T.W T.n).toNat; omega)
    obtain ⟨VA, vn, vc, hVs⟩ := hV0.isSlice
    subst hVs
    have r0 := hT2.row.cell hnl
    rw [hF0] at r0
    have h1n : (T.W T.n).toNat = 1 := by omega
    change w7.cell? ⟨g2, T.n, none⟩ = some (.slice (some ⟨b0, o0, none⟩) (T.W T.n).toNat d0) at r0
    rw [h1n] at r0
    rw [Nat.add_zero] at q0
    have hmk := fun W => run_makeI (P := Try.prog) 39 43 _ 24 Try.underlying39 Try.infoNat rfl ((T.n : Int) + 1) (by omega) (by omega) (by omega) W
    have htn : ((T.n : Int) + 1).toNat = T.n + 1 := by omega
    simp only [htn] at hmk
    have hwk1 : IntKind.i64.wrap ((T.n : Int) + 1) = (T.n : Int) + 1 := IntWalk.i64_in _ (by omega)
    clear hw7 hwn h1n hF0 hT2 hnw
    go_upto_region 10 with fail
    have hrow := World.rowIs_made w7 (.slice none 0 0) (T.n + 1) 43
    have kb7 : Below w7.heap.size w7 (w7.alloc (Obj.cells (madeCells #[Value.slice none 0 0] (T.n + 1)) 43)) := (Below.refl _ _).alloc (Nat.le_refl _) _
    obtain ⟨w8, hw8⟩ : ∃ W, W = w7.alloc (Obj.cells (madeCells #[Value.slice none 0 0] (T.n + 1)) 43) := ⟨_, rfl⟩
    rw [← hw8] at hrow kb7 ⊢
    replace q0 := cellS kb7 q0
    replace r0 := cellS kb7 r0
    replace p1 := cellS kb7 p1
    have HROW := hid hrow
    have HK7 := hid kb7
    have HV0 := hid hV0
    have HW := hid hW
    have HZB := hid hB3.size
    obtain ⟨r9, w9, hrun, o1, o2⟩ := run_copy_pol (wz := w7) (g := w7.heap.size) (m := T.n + 1) 3 (by omega) HK7.out (Nat.le_refl _) HROW.out HV0.out
    have HO1 := hid o1
    have HO2 := hid o2
    clear hw8 hrow kb7 hV0 hmk hW hB3 p0 o1 o2
    go_wp2
    go_ret2
    exact ⟨onS HW.out HO2.out, .inr ⟨HP0.out, _, _, rfl, HO1.out.monoB HW.out.size⟩⟩
  · have hne : (T.properE != 0) = true := by simpa using hp
    have HP := hid hp
    obtain ⟨x, hx⟩ : ∃ x, x = T.properE := ⟨_, rfl⟩
    have HX := hid hx
    rw [← hx] at hne ⊢
    clear hp hx
    go_wp2
    go_ret2
    exact ⟨hW, .inl ⟨HP.out, by rw [← HX.out]; rfl⟩⟩
end Go.Proofs.Ytnocbkhnmdmfhaa

namespace Go.Proofs.Ytnocbkhnmdmfhaa
open Go.RowKit

theorem results_cell_tmp_row {P : Program} {fn : Func} {p u : Tmp} {ty : TypeId} (h : fn.results = #[.cell p ty, .tmp u]) (tmps : Array Value) (w : World) (g : Nat) (t : TypeId) (cs : Array Value) (fr : Nat × Nat) (d : TypeDesc)
    (hp : tmps.getD p undef = .pointer (some ⟨g, 0, none⟩)) (hg : w.heap[g]? = some (.cells cs t fr))
    (hu : P.underlying ty = some d) (hd : (match d with | .struct _ | .array _ _ => true | _ => false) = true) (hi : (P.info? ty).map (·.size) = some cs.size) :
    (results fn tmps).run P w = .ok (.tuple #[.agg cs, tmps.getD u undef]) w := by
  rw [results_cell_tmp h, hp]
  simp [asAddr, Result.andThen, run_loadVar_row w g t ty cs fr d hg hu hd hi]
/-- The least index from 1 on that has a nonzero entry, below n; n if there is none. -/
def firstPos (x : Nat → Nat) : Nat → Nat → Nat
  | 0, k => k
  | m + 1, k => if x k ≠ 0 then k else firstPos x m (k + 1)
def leastOf (x : Nat → Nat) (n : Nat) : Nat := firstPos x (n - 1) 1
theorem firstPos_none {x : Nat → Nat} : ∀ m k, (∀ i, k ≤ i → i < k + m → x i = 0) → firstPos x m k = k + m := by
  intro m
  induction m with
  | zero => intro k _; rfl
  | succ m ih =>
    intro k h
    show (if x k ≠ 0 then k else firstPos x m (k + 1)) = _
    rw [if_neg (by simpa using h k (Nat.le_refl _) (by omega)), ih (k + 1) fun i h1 h2 => h i (by omega) (by omega)]
    omega
theorem firstPos_some {x : Nat → Nat} {j : Nat} : ∀ m k, k ≤ j → j < k + m → x j ≠ 0 → (∀ i, k ≤ i → i < j → x i = 0) → firstPos x m k = j := by
  intro m
  induction m with
  | zero => intro k h1 h2; omega
  | succ m ih =>
    intro k h1 h2 h3 h4
    show (if x k ≠ 0 then k else firstPos x m (k + 1)) = _
    by_cases e : k = j
    · subst e; rw [if_pos h3]
    · rw [if_neg (by simpa using h4 k (Nat.le_refl _) (by omega))]
      exact ih (k + 1) (by omega) (by omega) h3 fun i a b => h4 i (by omega) b
/-- The least weight, with its number, or the error; n numbers. -/
def LightPost (T : Trel) (w : World) (e : Ending) (w' : World) : Prop :=
  Below w.heap.size w w' ∧
  ((T.properE ≠ 0 ∧ e = .returned (.tuple #[.agg #[.int .i64 0, .slice none 0 0], .int .i64 T.properE])) ∨
  (T.properE = 0 ∧ leastOf (T.pw T.n 0) (T.n + 1) = T.n + 1 ∧ e = .returned (.tuple #[.agg #[.int .i64 0, .slice none 0 0], .int .i64 11])) ∨
  (T.properE = 0 ∧ leastOf (T.pw T.n 0) (T.n + 1) < T.n + 1 ∧ ∃ A c, e = .returned (.tuple #[.agg #[.int .i64 (leastOf (T.pw T.n 0) (T.n + 1) : Nat), .slice A (dl (T.pw T.n 0 (leastOf (T.pw T.n 0) (T.n + 1)))) c], .int .i64 0]) ∧ NatOk w' w'.heap.size A (T.pw T.n 0 (leastOf (T.pw T.n 0) (T.n + 1)))))
set_option maxRecDepth 100000 in
set_option maxHeartbeats 8000000 in
theorem lightest_any (T : Trel) (A B : Option Addr) (c d : Nat) (w : World) (h : T.Reads w A B) :
    Calls Try.prog 21 #[.agg #[.slice A T.nw c, .slice B T.n d]] w (LightPost T w) := by
  obtain ⟨O1, hO1⟩ : ∃ o, o = (Obj.cells #[.slice A T.nw c, .slice B T.n d] 25) := ⟨_, rfl⟩
  have HR := hid h
  clear h
  go_enter Try.func21, Try.ntmps21
  go_wp2_with fail
  rw [← hO1]
  obtain ⟨O2, hO2⟩ : ∃ o, o = (Obj.cells #[.int .i64 0, .slice none 0 0] 45) := ⟨_, rfl⟩
  have hB0 : Below w.heap.size w ((w.alloc O1).alloc O2) := two_below (Below.refl _ _)
  have hrow : ((w.alloc O1).alloc O2).rowIs (w.heap.size + 1) 45 2 (fun i => if i = 0 then .int .i64 0 else .slice none 0 0) := by
    subst hO2
    exact (box2_two (Below.refl _ _)).congr fun i hi => by
      match i, hi with
      | 0, _ => rfl
      | 1, _ => rfl
  rw [← hO2]
  obtain ⟨W2, hW2⟩ : ∃ W, W = (w.alloc O1).alloc O2 := ⟨_, rfl⟩
  rw [← hW2] at hB0 hrow ⊢
  have hlw : w.heap.size + 1 < W2.heap.size := hrow.lt
  clear hW2 hO1 hO2
  refine (enumerate_any T A B c d W2 (HR.out.on hB0)).mono ?_
  rintro e w1 ⟨kb, hpost⟩
  have hB1 := onS hB0 kb
  replace hrow := rowIs_on hrow kb
  obtain ⟨b, hb⟩ : ∃ b, b = w.heap.size + 1 := ⟨_, rfl⟩
  have hbw : w.heap.size ≤ b := by omega
  rw [← hb] at hrow hlw ⊢
  have hsz := kb.size
  have hinf : (Try.prog.info? 45).map (·.size) = some 2 := by kernel_rfl
  have HINF := hid hinf
  have hfin : ∀ (v0 v1 : Value) (W : World), Hid (W.rowIs b 45 2 (fun i => if i = 0 then v0 else v1) → W.heap[b]? = some (.cells #[v0, v1] 45 (0, 0))) := fun v0 v1 W h => by
    obtain ⟨cs, h1, h2, h3⟩ := h
    rw [h1]
    have e : cs = #[v0, v1] := by
      apply Array.ext
      · simpa using h2
      · intro i hi hi2
        have h4 := h3 i (by omega)
        rw [Array.getElem?_eq_getElem hi] at h4
        replace h4 := Option.some.inj h4
        rw [h4]
        match i, (show i < 2 by omega) with
        | 0, _ => rfl
        | 1, _ => rfl
    rw [e]
  have HFIN := hid hfin
  clear hb hinf hfin kb hB0
  rcases hpost with ⟨hp, rfl⟩ | ⟨hp, VA, vc, rfl, hv⟩
  · have hne : (T.properE != 0) = true := by simpa using hp
    have HP := hid hp
    obtain ⟨x, hx⟩ : ∃ x, x = T.properE := ⟨_, rfl⟩
    have HX := hid hx
    rw [← hx] at hne ⊢
    have q0 := hrow.cell (i := 0) (by omega)
    have q1 := hrow.cell (i := 1) (by omega)
    have z0 := hrow.frozen 0
    have z1 := hrow.frozen 1
    have hrf := (hrow.set 0 (.int .i64 0)).set 1 (.slice none 0 0)
    have HRF := hid (hrf.congr (g := fun i => if i = 0 then .int .i64 0 else .slice none 0 0) fun i hi => by
      match i, hi with
      | 0, _ => rfl
      | 1, _ => rfl)
    have HBF := hid ((hB1.setCell (p := ⟨b, 0, none⟩) hbw (.int .i64 0)).setCell (p := ⟨b, 1, none⟩) hbw (.slice none 0 0))
    change w1.cell? ⟨b, 0, none⟩ = some (.int .i64 0) at q0
    change w1.cell? ⟨b, 1, none⟩ = some (.slice none 0 0) at q1
    clear hp hx hrow hrf hB1
    go_wp2
    try simp only [Exit.inBlock, Exit.then]
    refine bodyPost_ret (results_cell_tmp_row rfl _ _ b 45 _ (0, 0) _ rfl ((HFIN.out _ _ _).out HRF.out) Try.underlying45 rfl HINF.out) rfl ?_
    exact ⟨HBF.out, .inl ⟨HP.out, by rw [← HX.out]; rfl⟩⟩
  · have HP0 := hid hp
    have HP := hid (Trel.proper_of hp)
    have hn64 := HP.out.shape.n64
    obtain ⟨_, _, e9, _, _, hT⟩ := hv.tab
    injection e9 with e9 _ e8
    subst e9 e8
    have HT := hid hT
    obtain ⟨m, hm⟩ : ∃ m, m = T.n + 1 := ⟨_, rfl⟩
    have HM := hid hm
    have hm65 : m ≤ 65 := by omega
    have hm1 : 1 ≤ m := by omega
    obtain ⟨x, hx⟩ : ∃ x, x = T.pw T.n 0 := ⟨_, rfl⟩
    have HX := hid hx
    rw [← hm] at HT ⊢
    rw [← hx] at HT
    have HROW := hid hrow
    clear hp hm hx hv hT hrow
    go_wp2
    go_loopg [19] m (fun gg iv wx => ∃ k : Nat, iv = .int .i64 (k : Nat) ∧ k ≤ m ∧ m ≤ k + gg ∧ Hid (∀ i, 1 ≤ i → i < k → x i = 0) ∧ Below w1.heap.size w1 wx)
    case atStart => exact ⟨0, rfl, by omega, by omega, fun i _ h => absurd h (by omega), Below.refl _ _⟩
    case round =>
      obtain ⟨k, rfl, hk, hkg, HZ, hB⟩ := hrel
      have hk0 : (0 : Int) ≤ (k : Int) := by omega
      by_cases hlt : k < m
      · have hlt' : (k : Int) < (m : Int) := by omega
        obtain ⟨tb, to', A2, c2, rfl, htb, x0, x1, x2, x3⟩ := HT.out.on hB k hlt
        obtain ⟨y, hy⟩ : ∃ y, y = x k := ⟨_, rfl⟩
        rw [← hy] at x0 x1 x3
        have HYX := hid hy
        clear hy
        by_cases hk1 : 0 < k
        · have hk1' : (0 : Int) < (k : Int) := by omega
          by_cases h0 : y = 0
          · have e0 : dl y = 0 := dl_eq_zero.2 h0
            have HZ2 : Hid (∀ i, 1 ≤ i → i < k + 1 → x i = 0) := fun i h1 h2 => by
              by_cases e : i = k
              · subst e; rw [← HYX.out]; exact h0
              · exact HZ.out i h1 (by omega)
            rw [e0] at x0
            clear h0
            go_wp2
            go_roundg (gk - 1)
            case measure => omega
            case rel => exact ⟨k + 1, by go_num, by omega, by omega, HZ2, hB⟩
          · have e0 : 0 < dl y := by
              rcases Nat.eq_zero_or_pos (dl y) with h | h
              · exact absurd (dl_eq_zero.1 h) h0
              · exact h
            have e1 : (0 : Int) < (dl y : Int) := by omega
            have HLEAST : Hid (leastOf (T.pw T.n 0) (T.n + 1) = k) := by
              rw [← HX.out, ← HM.out]
              unfold leastOf
              exact hid (firstPos_some (m - 1) 1 hk1 (by omega) (by rw [← HYX.out]; exact h0) HZ.out)
            have hr := rowIs_on HROW.out hB
            have q0 := hr.cell (i := 0) (by omega)
            have q1 := hr.cell (i := 1) (by omega)
            have z0 := hr.frozen 0
            have z1 := hr.frozen 1
            have hni : NoInt wr b := noInt_row hr fun i _ u e => by revert e; show (if i = 0 then _ else _) = _ → _; split <;> (intro e; cases e)
            have hrf := (hr.set 0 (.int .i64 (k : Nat))).set 1 (.slice A2 (dl y) c2)
            have HRF := hid (hrf.congr (g := fun i => if i = 0 then .int .i64 (k : Nat) else .slice A2 (dl y) c2) fun i hi => by
              match i, hi with
              | 0, _ => rfl
              | 1, _ => rfl)
            have HBF := hid (((onS hB1 hB).setCell (p := ⟨b, 0, none⟩) hbw (.int .i64 (k : Nat))).setCell (p := ⟨b, 1, none⟩) hbw (.slice A2 (dl y) c2))
            have HNF := hid (natOk_setCell (i := 1) (natOk_setCell (i := 0) x3 hni (.int .i64 (k : Nat))) (noInt_setCell (b' := b) (i := 0) (u := .int .i64 (k : Nat)) hni (fun n e => by cases e)) (.slice A2 (dl y) c2))
            change wr.cell? ⟨b, 0, none⟩ = some (.int .i64 0) at q0
            change wr.cell? ⟨b, 1, none⟩ = some (.slice none 0 0) at q1
            have hblt : b < wr.heap.size := hr.lt
            clear h0 hr hrf x3 hni
            go_wp2
            try simp only [Exit.inBlock, Exit.then]
            refine bodyPost_ret (results_cell_tmp_row rfl _ _ b 45 _ (0, 0) _ rfl ((HFIN.out _ _ _).out HRF.out) Try.underlying45 rfl HINF.out) rfl ?_
            refine ⟨HBF.out, .inr (.inr ⟨HP0.out, ?_, A2, c2, ?_, ?_⟩)⟩
            · rw [HLEAST.out, ← HM.out]; exact hlt
            · rw [HLEAST.out, ← HX.out, ← HYX.out]; rfl
            · rw [HLEAST.out, ← HX.out, ← HYX.out]; exact HNF.out
        · obtain rfl : k = 0 := by omega
          have hlt0 : (0 : Int) < (m : Int) := by omega
          rw [Nat.add_zero] at x0
          clear x3
          go_wp2
          go_roundg (gk - 1)
          case measure => omega
          case rel => exact ⟨1, by go_num, by omega, by omega, fun i h1 h2 => absurd h1 (by omega), hB⟩
      · have hlt' : ¬ (k : Int) < (m : Int) := by omega
        obtain rfl : k = m := by omega
        have HLEAST : Hid (leastOf (T.pw T.n 0) (T.n + 1) = T.n + 1) := by
          rw [← HX.out, ← HM.out]
          unfold leastOf
          show _ = _
          rw [firstPos_none (k - 1) 1 fun i h1 h2 => HZ.out i h1 (by omega)]
          omega
        have hr := rowIs_on HROW.out hB
        have q0 := hr.cell (i := 0) (by omega)
        have q1 := hr.cell (i := 1) (by omega)
        have z0 := hr.frozen 0
        have z1 := hr.frozen 1
        have hrf := (hr.set 0 (.int .i64 0)).set 1 (.slice none 0 0)
        have HRF := hid (hrf.congr (g := fun i => if i = 0 then .int .i64 0 else .slice none 0 0) fun i hi => by
          match i, hi with
          | 0, _ => rfl
          | 1, _ => rfl)
        have HBF := hid (((onS hB1 hB).setCell (p := ⟨b, 0, none⟩) hbw (.int .i64 0)).setCell (p := ⟨b, 1, none⟩) hbw (.slice none 0 0))
        change wr.cell? ⟨b, 0, none⟩ = some (.int .i64 0) at q0
        change wr.cell? ⟨b, 1, none⟩ = some (.slice none 0 0) at q1
        have hblt : b < wr.heap.size := hr.lt
        clear hr hrf
        go_wp2
        try simp only [Exit.inBlock, Exit.then]
        refine bodyPost_ret (results_cell_tmp_row rfl _ _ b 45 _ (0, 0) _ rfl ((HFIN.out _ _ _).out HRF.out) Try.underlying45 rfl HINF.out) rfl ?_
        exact ⟨HBF.out, .inr (.inl ⟨HP0.out, HLEAST.out, rfl⟩)⟩
end Go.Proofs.Ytnocbkhnmdmfhaa

namespace Go.Proofs.Ytnocbkhnmdmfhaa
open Go.RowKit

/-- The least weight with its number. -/
def RefLightPost (x : Nat → Nat) (n : Nat) (w : World) (e : Ending) (w' : World) : Prop :=
  Below w.heap.size w w' ∧
  ((leastOf x n = n ∧ e = .returned (.tuple #[.agg #[.int .i64 0, .slice none 0 0], .int .i64 11])) ∨
  (leastOf x n < n ∧ ∃ A c, e = .returned (.tuple #[.agg #[.int .i64 (leastOf x n : Nat), .slice A (dl (x (leastOf x n))) c], .int .i64 0]) ∧ NatOk w' w'.heap.size A (x (leastOf x n))))
theorem least_heap {W : World} {b : Nat} {t : TypeId} {v0 v1 : Value} (h : W.rowIs b t 2 (fun i => if i = 0 then v0 else v1)) : W.heap[b]? = some (.cells #[v0, v1] t (0, 0)) := by
  obtain ⟨cs, h1, h2, h3⟩ := h
  rw [h1]
  have e : cs = #[v0, v1] := by
    apply Array.ext
    · simpa using h2
    · intro i hi hi2
      have h4 := h3 i (by omega)
      rw [Array.getElem?_eq_getElem hi] at h4
      replace h4 := Option.some.inj h4
      rw [h4]
      match i, (show i < 2 by omega) with
      | 0, _ => rfl
      | 1, _ => rfl
  rw [e]
set_option maxRecDepth 100000 in
set_option maxHeartbeats 8000000 in
theorem refLight_any (A : Option Addr) (m c : Nat) (x : Nat → Nat) (w : World) (hT : NatTab w w.heap.size A m x) (hm1 : 1 ≤ m) (hm65 : m ≤ 66) (hx : Hid (∀ k, k < m → dl (x k) ≤ 1000000)) :
    Calls Try.prog 24 #[.slice A m c] w (RefLightPost x m w) := by
  have HT := hid hT
  clear hT
  have HINF : Hid ((Try.prog.info? 45).map (·.size) = some 2) := by show _ = _; kernel_rfl
  go_enter Try.func24, Try.ntmps24
  go_upto_region 1 with fail
  obtain ⟨O2, hO2⟩ : ∃ o, o = (Obj.cells #[.int .i64 0, .slice none 0 0] 45) := ⟨_, rfl⟩
  have hrow : (w.alloc O2).rowIs w.heap.size 45 2 (fun i => if i = 0 then .int .i64 0 else .slice none 0 0) := by
    subst hO2
    exact (World.rowIs_alloc w #[.int .i64 0, .slice none 0 0] 45 (fun i => if i = 0 then .int .i64 0 else .slice none 0 0) fun i hi => by
      match i, (show i < 2 from hi) with
      | 0, _ => rfl
      | 1, _ => rfl)
  have hB0 : Below w.heap.size w (w.alloc O2) := (Below.refl _ _).alloc (Nat.le_refl _) _
  rw [← hO2]
  obtain ⟨w1, hw1⟩ : ∃ W, W = w.alloc O2 := ⟨_, rfl⟩
  rw [← hw1] at hrow hB0 ⊢
  obtain ⟨b, hb⟩ : ∃ b, b = w.heap.size := ⟨_, rfl⟩
  have HBW : Hid (w.heap.size ≤ b) := by show _ ≤ b; omega
  rw [← hb] at hrow ⊢
  have HROW := hid hrow
  have HB0 := hid hB0
  clear hb hw1 hO2 hrow hB0
  go_wp2
  go_loopg [4] m (fun gg iv wx => ∃ k : Nat, iv = .int .i64 (k : Nat) ∧ 1 ≤ k ∧ k ≤ m ∧ m ≤ k + gg ∧ Hid (∀ i, 1 ≤ i → i < k → x i = 0) ∧ Below w1.heap.size w1 wx)
  case atStart => exact ⟨1, rfl, by omega, by omega, by omega, fun i _ h => absurd h (by omega), Below.refl _ _⟩
  case round =>
    obtain ⟨k, rfl, hk1, hk, hkg, HZ, hB⟩ := hrel
    have hk0 : (0 : Int) ≤ (k : Int) := by omega
    have hW := onS HB0.out hB
    by_cases hlt : k < m
    · have hlt' : (k : Int) < (m : Int) := by omega
      obtain ⟨tb, to', A2, c2, rfl, htb, x0, x1, x2, x3⟩ := natTab_at (HT.out.on hW) hlt
      have hdl := hx.out k hlt
      obtain ⟨y, hy⟩ : ∃ y, y = x k := ⟨_, rfl⟩
      rw [← hy] at x0 x1 x3 hdl
      have HYX := hid hy
      clear hy
      go_wp2_with fail
      refine (refZero_nat A2 c2 y wr x3 x1 x2 (by omega)).mono ?_
      rintro e w2 ⟨rfl, kb⟩
      have hB2 := onS hB kb
      have hW2 := onS hW kb
      replace x0 := cellS kb x0
      replace x3 := x3.on kb
      clear kb hB hW
      by_cases h0 : y = 0
      · have HZ2 : Hid (∀ i, 1 ≤ i → i < k + 1 → x i = 0) := fun i h1 h2 => by
          by_cases e : i = k
          · subst e; rw [← HYX.out]; exact h0
          · exact HZ.out i h1 (by omega)
        have hd := decide_eq_true h0
        rw [hd]
        clear h0 hd x3 x0
        go_wp2
        go_roundg (gk - 1)
        case measure => omega
        case rel => exact ⟨k + 1, by go_num, by omega, by omega, by omega, HZ2, hB2⟩
      · have HLEAST : Hid (leastOf x m = k) := by
          unfold leastOf
          exact hid (firstPos_some (m - 1) 1 hk1 (by omega) (by rw [← HYX.out]; exact h0) HZ.out)
        have hd := decide_eq_false h0
        rw [hd]
        clear h0 hd
        go_wp2_with fail
        refine (refTrim_nat A2 c2 y w2 x3 x1 x2 (by omega)).mono ?_
        rintro e w3 ⟨A3, c3, rfl, t1, t2, t3, kb⟩
        have hB3 := onS hB2 kb
        have hW3 := onS hW2 kb
        have hr := rowIs_on HROW.out hB3
        have q0 := hr.cell (i := 0) (by omega)
        have q1 := hr.cell (i := 1) (by omega)
        have z0 := hr.frozen 0
        have z1 := hr.frozen 1
        have hni : NoInt w3 b := noInt_row hr fun i _ u e => by revert e; show (if i = 0 then _ else _) = _ → _; split <;> (intro e; cases e)
        have hrf := (hr.set 0 (.int .i64 (k : Nat))).set 1 (.slice A3 (dl y) c3)
        have HRF := hid (least_heap (hrf.congr (g := fun i => if i = 0 then .int .i64 (k : Nat) else .slice A3 (dl y) c3) fun i hi => by
          match i, hi with
          | 0, _ => rfl
          | 1, _ => rfl))
        have HBF := hid ((hW3.setCell (p := ⟨b, 0, none⟩) HBW.out (.int .i64 (k : Nat))).setCell (p := ⟨b, 1, none⟩) HBW.out (.slice A3 (dl y) c3))
        have HNF := hid (natOk_setCell (i := 1) (natOk_setCell (i := 0) t3 hni (.int .i64 (k : Nat))) (noInt_setCell (b' := b) (i := 0) (u := .int .i64 (k : Nat)) hni (fun n e => by cases e)) (.slice A3 (dl y) c3))
        change w3.cell? ⟨b, 0, none⟩ = some (.int .i64 0) at q0
        change w3.cell? ⟨b, 1, none⟩ = some (.slice none 0 0) at q1
        have hblt : b < w3.heap.size := hr.lt
        clear hr hrf x3 x0 hni kb t3 hB2 hB3 hW2 hW3
        go_wp2
        try simp only [Exit.inBlock, Exit.then]
        refine bodyPost_ret (results_cell_tmp_row rfl _ _ b 45 _ (0, 0) _ rfl HRF.out Try.underlying45 rfl HINF.out) rfl ?_
        refine ⟨HBF.out, .inr ⟨by rw [HLEAST.out]; exact hlt, A3, c3, ?_, ?_⟩⟩
        · rw [HLEAST.out, ← HYX.out]; rfl
        · rw [HLEAST.out, ← HYX.out]; exact HNF.out
    · have hlt' : ¬ (k : Int) < (m : Int) := by omega
      obtain rfl : k = m := by omega
      have HLEAST : Hid (leastOf x k = k) := by
        unfold leastOf
        show _ = _
        rw [firstPos_none (k - 1) 1 fun i h1 h2 => HZ.out i h1 (by omega)]
        omega
      have hr := rowIs_on HROW.out hB
      have q0 := hr.cell (i := 0) (by omega)
      have q1 := hr.cell (i := 1) (by omega)
      have z0 := hr.frozen 0
      have z1 := hr.frozen 1
      have hrf := (hr.set 0 (.int .i64 0)).set 1 (.slice none 0 0)
      have HRF := hid (least_heap (hrf.congr (g := fun i => if i = 0 then .int .i64 0 else .slice none 0 0) fun i hi => by
        match i, hi with
        | 0, _ => rfl
        | 1, _ => rfl))
      have HBF := hid ((hW.setCell (p := ⟨b, 0, none⟩) HBW.out (.int .i64 0)).setCell (p := ⟨b, 1, none⟩) HBW.out (.slice none 0 0))
      change wr.cell? ⟨b, 0, none⟩ = some (.int .i64 0) at q0
      change wr.cell? ⟨b, 1, none⟩ = some (.slice none 0 0) at q1
      have hblt : b < wr.heap.size := hr.lt
      clear hr hrf hB hW
      go_wp2
      try simp only [Exit.inBlock, Exit.then]
      refine bodyPost_ret (results_cell_tmp_row rfl _ _ b 45 _ (0, 0) _ rfl HRF.out Try.underlying45 rfl HINF.out) rfl ?_
      exact ⟨HBF.out, .inl ⟨HLEAST.out, rfl⟩⟩
theorem sameLeast_any (A A2 : Option Addr) (c c2 y : Nat) (k : Int) (w : World) (h : NatOk w w.heap.size A y) (h2 : NatOk w w.heap.size A2 y) (hn : dl y ≤ 1000000) :
    Calls Try.prog 25 #[.agg #[.int .i64 k, .slice A (dl y) c], .agg #[.int .i64 k, .slice A2 (dl y) c2]] w fun e w' => e = .returned (.bool true) ∧ Below w.heap.size w w' := by
  obtain ⟨O1, hO1⟩ : ∃ o, o = (Obj.cells #[.int .i64 k, .slice A (dl y) c] 45) := ⟨_, rfl⟩
  obtain ⟨O2, hO2⟩ : ∃ o, o = (Obj.cells #[.int .i64 k, .slice A2 (dl y) c2] 45) := ⟨_, rfl⟩
  have hB0 : Below w.heap.size w ((w.alloc O1).alloc O2) := two_below (Below.refl _ _)
  have hb1 := box2_one (o1 := O1) (o2 := O2) (Below.refl (w.heap.size + 2) ((w.alloc O1).alloc O2))
  have p0 : ((w.alloc O1).alloc O2).cell? ⟨w.heap.size, 0, none⟩ = some (.int .i64 k) := by subst hO1; exact tbox hb1 rfl
  have p1 : ((w.alloc O1).alloc O2).cell? ⟨w.heap.size, 1, none⟩ = some (.slice A (dl y) c) := by subst hO1; exact tbox hb1 rfl
  have hr2 : ((w.alloc O1).alloc O2).rowIs (w.heap.size + 1) 45 2 (fun i => #[Value.int .i64 k, .slice A2 (dl y) c2].getD i undef) := by subst hO2; exact box2_two (Below.refl _ _)
  have p2 : ((w.alloc O1).alloc O2).cell? ⟨w.heap.size + 1, 0, none⟩ = some (.int .i64 k) := hr2.cell (i := 0) (by omega)
  have p3 : ((w.alloc O1).alloc O2).cell? ⟨w.heap.size + 1, 1, none⟩ = some (.slice A2 (dl y) c2) := hr2.cell (i := 1) (by omega)
  have bk : (k == k) = true := by simp
  go_enter Try.func25, Try.ntmps25
  go_upto_region 1 with fail
  rw [← hO1, ← hO2]
  obtain ⟨w1, hw1⟩ : ∃ W, W = (w.alloc O1).alloc O2 := ⟨_, rfl⟩
  rw [← hw1] at p0 p1 p2 p3 hB0 ⊢
  have n1 := h.on hB0
  have n2 := h2.on hB0
  clear hw1 hO1 hO2 hr2 hb1 h h2
  go_wp2_with fail
  refine (refSame_any A A2 c c2 y w1 n1 n2 (by omega)).mono ?_
  rintro e w2 ⟨rfl, kb⟩
  have hB2 := onS hB0 kb
  clear n1 n2 kb p0 p1 p2 p3 hB0
  go_wp2
  go_ret
  exact ⟨rfl, hB2⟩
set_option maxRecDepth 100000 in
set_option maxHeartbeats 4000000 in
theorem samePoly_any (A1 A2 : Option Addr) (c1 c2 n : Nat) (x : Nat → Nat) (w0 : World) (h1 : NatTab w0 w0.heap.size A1 n x) (h2 : NatTab w0 w0.heap.size A2 n x) (hn : n ≤ 4096) (hx : Hid (∀ k, k < n → dl (x k) ≤ 1000000)) :
    Calls Try.prog 23 #[.slice A1 n c1, .slice A2 n c2] w0 fun e w' => e = .returned (.bool true) ∧ Below w0.heap.size w0 w' := by
  have H1 := hid h1
  have H2 := hid h2
  clear h1 h2
  have hnn : ((n : Int) != (n : Int)) = false := by simp
  go_enter Try.func23, Try.ntmps23
  go_wp2
  go_loopg [5] n (fun g iv wx => ∃ k : Nat, iv = .int .i64 (k : Nat) ∧ k ≤ n ∧ n ≤ k + g ∧ Below w0.heap.size w0 wx)
  case atStart => exact ⟨0, rfl, by omega, by omega, Below.refl _ _⟩
  case round =>
    obtain ⟨k, rfl, hk, hkg, hW⟩ := hrel
    have hk0 : (0 : Int) ≤ (k : Int) := by omega
    by_cases hlt : k < n
    · have hlt' : (k : Int) < (n : Int) := by omega
      obtain ⟨ab, ao, RA, ra, rfl, hab, x0, x1, x2, hxr⟩ := natTab_at (H1.out.on hW) hlt
      obtain ⟨bb, bo, RB, rb, rfl, hbb, y0, y1, y2, hyr⟩ := natTab_at (H2.out.on hW) hlt
      have hdl := hx.out k hlt
      obtain ⟨y, hy⟩ : ∃ y, y = x k := ⟨_, rfl⟩
      rw [← hy] at x0 x1 y0 y1 hxr hyr hdl
      clear hy
      obtain ⟨w1, hw1⟩ : ∃ W, W = wr := ⟨_, rfl⟩
      subst hw1
      go_upto_region 6 with fail
      refine wp_region_held_drew (S := fun w' => w'.cell? ⟨ab, ao + k, none⟩ = some (.slice RA (dl y) ra) ∧ w'.cell? ⟨bb, bo + k, none⟩ = some (.slice RB (dl y) rb)) (by kernel_rfl) ⟨cellS (Below.refl _ _).drew x0, cellS (Below.refl _ _).drew y0⟩ (fun hHeld => ?_)
      obtain ⟨w2, hw⟩ : ∃ W, W = World.drew w1 := ⟨_, rfl⟩
      have kb : Below w1.heap.size w1 w2 := by rw [hw]; exact (Below.refl _ _).drew
      rw [← hw] at hHeld ⊢
      clear hw
      replace hW := onS hW kb
      replace hxr := hxr.on kb
      replace hyr := hyr.on kb
      replace x0 := cellS kb x0
      replace y0 := cellS kb y0
      clear kb
      refine wpAnyH_take (i := 0) (v := ?_) (by simp only [List.getElem?_toArray, List.getElem?_cons_zero]; rfl) (by kernel_rfl) (by kernel_rfl) (by kernel_rfl) (by exact fun _ _ _ h => h) (Or.inl ⟨by rfl, ?_⟩) (by assumption) ?_
      rotate_left
      · (intro w hSw; (try dsimp only at hSw); go_simp); first | done | with_reducible rfl
      try simp only [Act.put, List.setIfInBounds_toArray, List.set_cons_zero, List.set_cons_succ]
      refine wpAnyH_take (i := 1) (v := ?_) (by simp only [List.getElem?_toArray, List.getElem?_cons_succ, List.getElem?_cons_zero]; rfl) (by kernel_rfl) (by kernel_rfl) (by kernel_rfl) (by exact fun _ _ _ h => h) (Or.inl ⟨by rfl, ?_⟩) (by assumption) ?_
      rotate_left
      · (intro w hSw; (try dsimp only at hSw); go_simp); first | done | with_reducible rfl
      try simp only [Act.put, List.setIfInBounds_toArray, List.set_cons_zero, List.set_cons_succ]
      refine wpAnyH_take (i := 2) (v := ?_) (by simp only [List.getElem?_toArray, List.getElem?_cons_succ, List.getElem?_cons_zero]; rfl) (by kernel_rfl) (by kernel_rfl) (by kernel_rfl) (by exact fun _ _ _ h => h) (Or.inl ⟨by rfl, ?_⟩) (by assumption) ?_
      rotate_left
      · (intro w hSw; (try dsimp only at hSw); go_simp); first | done | with_reducible rfl
      try simp only [Act.put, List.setIfInBounds_toArray, List.set_cons_zero, List.set_cons_succ]
      refine wpAnyH_take (i := 3) (v := ?_) (by simp only [List.getElem?_toArray, List.getElem?_cons_succ, List.getElem?_cons_zero]; rfl) (by kernel_rfl) (by kernel_rfl) (by kernel_rfl) (by exact fun _ _ _ h => h) (Or.inl ⟨by rfl, ?_⟩) (by assumption) ?_
      rotate_left
      · (intro w hSw; (try dsimp only at hSw); go_simp); first | done | with_reducible rfl
      try simp only [Act.put, List.setIfInBounds_toArray, List.set_cons_zero, List.set_cons_succ]
      refine wpAnyH_take (i := 4) (v := ?_) (by simp only [List.getElem?_toArray, List.getElem?_cons_succ, List.getElem?_cons_zero]; rfl) (by kernel_rfl) (by kernel_rfl) (by kernel_rfl) (by exact fun _ _ _ h => h) (Or.inl ⟨by rfl, ?_⟩) (by assumption) ?_
      rotate_left
      · (intro w hSw; (try dsimp only at hSw); go_simp); first | done | with_reducible rfl
      try simp only [Act.put, List.setIfInBounds_toArray, List.set_cons_zero, List.set_cons_succ]
      refine wpAnyH_take (i := 5) (v := ?_) (by simp only [List.getElem?_toArray, List.getElem?_cons_succ, List.getElem?_cons_zero]; rfl) (by kernel_rfl) (by kernel_rfl) (by kernel_rfl) (by exact fun _ _ _ h => h) (Or.inl ⟨by rfl, ?_⟩) (by assumption) ?_
      rotate_left
      · (intro w hSw; (try dsimp only at hSw); go_simp); first | done | with_reducible rfl
      try simp only [Act.put, List.setIfInBounds_toArray, List.set_cons_zero, List.set_cons_succ]
      refine wpAnyH_take (i := 6) (v := ?_) (by simp only [List.getElem?_toArray, List.getElem?_cons_succ, List.getElem?_cons_zero]; rfl) (by kernel_rfl) (by kernel_rfl) (by kernel_rfl) (by exact fun _ _ _ h => h) (Or.inl ⟨by rfl, ?_⟩) (by assumption) ?_
      rotate_left
      · (intro w hSw; (try dsimp only at hSw); go_simp); first | done | with_reducible rfl
      try simp only [Act.put, List.setIfInBounds_toArray, List.set_cons_zero, List.set_cons_succ]
      refine wpAnyH_take (i := 7) (v := ?_) (by simp only [List.getElem?_toArray, List.getElem?_cons_succ, List.getElem?_cons_zero]; rfl) (by kernel_rfl) (by kernel_rfl) (by kernel_rfl) (by exact fun _ _ _ h => h) (Or.inl ⟨by rfl, ?_⟩) (by assumption) ?_
      rotate_left
      · (intro w hSw; (try dsimp only at hSw); go_simp); first | done | with_reducible rfl
      try simp only [Act.put, List.setIfInBounds_toArray, List.set_cons_zero, List.set_cons_succ]
      refine wpAnyH_ready (rs := [8]) (by kernel_rfl) (by simp) ?_
      refine AllReadyH.cons (by simp only [List.getElem?_toArray, List.getElem?_cons_succ, List.getElem?_cons_zero]; rfl) (fun K hK => ?_) AllReadyH.nil
      go_simp
      go_wp2_with fail
      refine (refSame_any RA RB ra rb y w2 hxr hyr (by omega)).mono ?_
      rintro e w3 ⟨rfl, kb⟩
      replace hW := onS hW kb
      replace hxr := hxr.on kb
      replace hyr := hyr.on kb
      replace x0 := cellS kb x0
      replace y0 := cellS kb y0
      clear kb
      refine hK.out _ _ ⟨x0, y0⟩ (fun hHeld => ?_)
      clear hK K
      try simp only [Act.put, List.setIfInBounds_toArray, List.set_cons_zero, List.set_cons_succ]
      refine wpAnyH_take (i := 9) (v := ?_) (by simp only [List.getElem?_toArray, List.getElem?_cons_succ, List.getElem?_cons_zero]; rfl) (by kernel_rfl) (by kernel_rfl) (by kernel_rfl) (by exact fun _ _ _ h => h) (Or.inl ⟨by rfl, ?_⟩) (by assumption) ?_
      rotate_left
      · (intro w hSw; (try dsimp only at hSw); go_simp); first | done | with_reducible rfl
      try simp only [Act.put, List.setIfInBounds_toArray, List.set_cons_zero, List.set_cons_succ]
      refine wpAnyH_done (by kernel_rfl) ?_ _
      clear hHeld
      clear x0 y0 hxr hyr
      go_wp2
      go_roundg (gk - 1)
      case measure => omega
      case rel => exact ⟨k + 1, by go_num, by omega, by omega, hW⟩
    · have hlt' : ¬ (k : Int) < (n : Int) := by omega
      obtain rfl : k = n := by omega
      go_wp2
      go_ret
      exact ⟨rfl, hW⟩
end Go.Proofs.Ytnocbkhnmdmfhaa
