/- flow.search: a breadth-first search in the residual network. -/
import Derived.Test.YthdeldaeghhfgaaBfs
import Derived.Test.YthdeldaeghhfgaaOwn
import Derived.Deep.LoopGhost
import Derived.Deep.QuietTactic
import Derived.BigQuiet
namespace Go.Proofs.Ythdeldaeghhfgaa
open Go.RowKit

/-- For each vertex, the steps that begin there. -/
structure StepsOk (N : Net) (deg : Nat → Nat) (ai : Nat → Nat → Nat) (bk : Nat → Nat → Bool) : Prop where
  le : ∀ v, v < N.V.toNat → deg v ≤ 4096
  right : ∀ v, v < N.V.toNat → ∀ j, j < deg v → ai v j < N.n ∧ N.src (ai v j) (bk v j) = v
  all : ∀ i b, i < N.n → ∃ j, j < deg (N.src i b) ∧ ai (N.src i b) j = i ∧ bk (N.src i b) j = b

def stepCell (ai : Nat → Nat) (bk : Nat → Bool) (j k : Nat) : Value := match k with
  | 0 => .int .i64 (ai j)
  | _ => .bool (bk j)

/-- A slice of slices of steps. -/
def StepTab (w : World) (B : Nat) (T : Option Addr) (m : Nat) (deg : Nat → Nat) (ai : Nat → Nat → Nat) (bk : Nat → Nat → Bool) : Prop :=
  ∀ v, v < m → ∃ b off A c, T = some ⟨b, off, none⟩ ∧ b < B ∧ w.cell? ⟨b, off + v, none⟩ = some (.slice A (deg v) c) ∧ Rd w B A (deg v) 2 (stepCell (ai v) (bk v))
theorem StepTab.below {w w' : World} {B B' : Nat} {T : Option Addr} {m : Nat} {deg : Nat → Nat} {ai : Nat → Nat → Nat} {bk : Nat → Nat → Bool} (h : StepTab w B T m deg ai bk) (hb : Below B' w w') (hB : B ≤ B') : StepTab w' B T m deg ai bk := fun v hv => by
  obtain ⟨b, off, A, c, e, hlt, hc, hr⟩ := h v hv
  exact ⟨b, off, A, c, e, hlt, by rw [hb.cell (by simp; omega)]; exact hc, hr.below hb hB⟩
theorem StepTab.mono {w : World} {B B' : Nat} {T : Option Addr} {m : Nat} {deg : Nat → Nat} {ai : Nat → Nat → Nat} {bk : Nat → Nat → Bool} (h : StepTab w B T m deg ai bk) (hB : B ≤ B') : StepTab w B' T m deg ai bk := fun v hv => by
  obtain ⟨b, off, A, c, e, hlt, hc, hr⟩ := h v hv
  exact ⟨b, off, A, c, e, by omega, hc, hr.mono hB⟩
theorem StepTab.on {w w' : World} {T : Option Addr} {m : Nat} {deg : Nat → Nat} {ai : Nat → Nat → Nat} {bk : Nat → Nat → Bool} (h : StepTab w w.heap.size T m deg ai bk) (hb : Below w.heap.size w w') : StepTab w' w'.heap.size T m deg ai bk := (h.below hb (Nat.le_refl _)).mono hb.size

/-- A row of steps, cell by cell. -/
def byCell (arc : Nat → Nat) (back : Nat → Bool) (k : Nat) : Value := if k % 2 = 0 then .int .i64 (arc (k / 2)) else .bool (back (k / 2))

/-- What search leaves. -/
def Searched (N : Net) (f : Nat → Int) (s : Nat) (w : World) (e : Ending) (w' : World) : Prop :=
  ∃ seen arc back rk cnt, Reached N f s seen arc back rk cnt ∧
    e = .returned (.tuple #[.slice (some ⟨w.heap.size + 1, 0, none⟩) N.V.toNat N.V.toNat, .slice (some ⟨w.heap.size + 2, 0, none⟩) N.V.toNat N.V.toNat]) ∧
    Below w.heap.size w w' ∧ w'.rowIs (w.heap.size + 1) 4 N.V.toNat (fun v => .bool (seen v)) ∧ w'.rowIs (w.heap.size + 2) 86 (N.V.toNat * 2) (byCell arc back)

theorem Try.infoStep : (Try.prog.info? 86).map (fun i => (i.zero, i.size, i.bytes)) = some (some (.agg #[.int .i64 0, .bool false]), 2, 16) := by kernel_rfl

/-- make([]T, x) for an int x that is not negative, elements of s cells. -/
theorem run_makeS {P : Program} (t e : TypeId) (z : Value) (s bytes : Nat) (ht : P.underlying t = some (.slice e)) (hinfo : (P.info? e).map (fun i => (i.zero, i.size, i.bytes)) = some (some z, s, bytes))
    (x : Int) (h0 : 0 ≤ x) (hbytes : bytes * x.toNat ≤ 281474976710656) (h63 : x.toNat ≤ 9223372036854775807) (w : World) :
    (Instr.makeSlice t (.int .i64 x) (.int .i64 x)).run P w = .ok (.slice (some ⟨w.heap.size, 0, none⟩) x.toNat x.toNat) (w.alloc (.cells (madeCells z.cells (x.toNat * s)) e)) := by
  obtain ⟨i, hi, hz0, hz1, hz2⟩ := info_parts hinfo
  have hb' : (i.bytes : Int) * x ≤ 281474976710656 := by
    rw [hz2]
    obtain ⟨n, rfl⟩ := Int.eq_ofNat_of_zero_le h0
    simp only [Int.toNat_natCast] at hbytes
    have h : ((bytes * n : Nat) : Int) ≤ 281474976710656 := by omega
    rwa [Int.natCast_mul] at h
  have hr := run_make (P := P) w t e i z ht hi hz0 .i64 .i64 x x h0 (Int.le_refl _) hb' (by omega)
  rw [hz1] at hr
  exact hr

theorem heap_new_at {w : World} {o : Obj} {k : Nat} (h : k = w.heap.size) : (w.alloc o).heap[k]? = some o := by subst h; exact heap_alloc_new w o

theorem made_steps (w : World) (n : Nat) (t : TypeId) : (w.alloc (.cells (madeCells #[.int .i64 0, .bool false] (n * 2)) t)).rowIs w.heap.size t (n * 2) (byCell (fun _ => 0) (fun _ => false)) := by
  have h := World.rowIs_alloc w (madeCells #[.int .i64 0, .bool false] (n * 2)) t (byCell (fun _ => 0) (fun _ => false)) fun i hi => by
    rw [size_madeCells] at hi
    simp only [madeCells]
    rw [Array.getElem?_map, Array.getElem?_range, if_pos hi]
    simp only [Option.map_some, byCell]
    by_cases e : i % 2 = 0
    · simp [e]
    · have : i % 2 = 1 := by omega
      simp [this]
  rwa [size_madeCells] at h

/-- The memory of a search. -/
structure SMem (w : World) (N : Net) (A : Option Addr) (c : Nat) (wr : World) (seen : Nat → Bool) (arc : Nat → Nat) (back : Nat → Bool) : Prop where
  box : Below (w.heap.size + 1) (w.alloc (Obj.cells #[Value.int IntKind.i64 N.V, Value.slice A N.n c] 24)) wr
  seen_ : wr.rowIs (w.heap.size + 1) 4 N.V.toNat (fun v => .bool (seen v))
  by_ : wr.rowIs (w.heap.size + 2) 86 (N.V.toNat * 2) (byCell arc back)

section
variable {w wr w' : World} {N : Net} {A : Option Addr} {c : Nat} {seen seen' : Nat → Bool} {arc arc' : Nat → Nat} {back back' : Nat → Bool}
theorem SMem.lt (h : SMem w N A c wr seen arc back) : w.heap.size + 2 < wr.heap.size := h.by_.lt
theorem SMem.below (h : SMem w N A c wr seen arc back) : Below w.heap.size w wr := box_below h.box
theorem SMem.alloc (h : SMem w N A c wr seen arc back) (o : Obj) : SMem w N A c (wr.alloc o) seen arc back := ⟨h.box.alloc (by have := h.lt; omega) o, h.seen_.alloc o, h.by_.alloc o⟩
theorem SMem.drewN (h : SMem w N A c wr seen arc back) (k : Nat) : SMem w N A c (wr.drewN k) seen arc back := ⟨below_drewN h.box k, h.seen_, h.by_⟩
theorem SMem.grown {row : Option Nat} (h : SMem w N A c wr seen arc back) (hg : wr.grownBy w' row) (hr : ∀ k, row = some k → w.heap.size + 3 ≤ k) : SMem w N A c w' seen arc back := by
  have hlt := h.lt
  have hne : ∀ k, k ≤ w.heap.size + 2 → some k ≠ row := fun k hk e => by have := hr k e.symm; omega
  exact ⟨h.box.grown hg (by omega) (fun k e => by have := hr k e; omega), h.seen_.of_block (hg.block _ (by omega) (hne _ (by omega))), h.by_.of_block (hg.block _ (by omega) (hne _ (by omega)))⟩
end

theorem SMem.push {w wr : World} {N : Net} {A : Option Addr} {c : Nat} {seen : Nat → Bool} {arc : Nat → Nat} {back : Nat → Bool} (h : SMem w N A c wr seen arc back) (t i : Nat) (b : Bool) :
    SMem w N A c (((wr.setCell ⟨w.heap.size + 1, t, none⟩ (.bool true)).setCell ⟨w.heap.size + 1 + 1, t * 2, none⟩ (.int .i64 (i : Nat))).setCell ⟨w.heap.size + 1 + 1, t * 2 + 1, none⟩ (.bool b))
      (fun u => if u = t then true else seen u) (fun u => if u = t then i else arc u) (fun u => if u = t then b else back u) := by
  refine ⟨((h.box.setCell (by simp) _).setCell (by simp) _).setCell (by simp) _, ?_, ?_⟩
  · refine (((h.seen_.set t (.bool true)).setOther (by simp) _).setOther (by simp) _).congr fun v _ => ?_
    by_cases e : v = t <;> simp [e]
  · refine (((h.by_.setOther (by simp) _).set (t * 2) _).set (t * 2 + 1) _).congr fun k _ => ?_
    by_cases e1 : k = t * 2 + 1
    · subst e1
      rw [if_pos rfl]
      have e2 : (t * 2 + 1) % 2 = 1 := by omega
      have e3 : (t * 2 + 1) / 2 = t := by omega
      simp [byCell, e2, e3]
    · rw [if_neg e1]
      by_cases e2 : k = t * 2
      · subst e2
        have e3 : t * 2 / 2 = t := by omega
        simp [byCell, e3]
      · rw [if_neg e2]
        have e3 : k / 2 ≠ t := by omega
        simp [byCell, e3]

set_option maxRecDepth 100000 in
set_option maxHeartbeats 16000000 in
theorem search_any (N : Net) (A F T : Option Addr) (c d m ct : Nat) (s : Int) (f : Nat → Int) (deg : Nat → Nat) (ai : Nat → Nat → Nat) (bk : Nat → Nat → Bool) (w : World) (h : N.Reads w w.heap.size A) (hf : Ints w w.heap.size F N.n f) (ht : StepTab w w.heap.size T N.V.toNat deg ai bk)
    (hg : N.Good) (hok : StepsOk N deg ai bk) (hbd : Hid (∀ i, i < N.n → 0 ≤ f i ∧ f i ≤ N.cp i)) (s0 : 0 ≤ s) (s1 : s < N.V) (hm : Hid (m = N.V.toNat)) :
    Calls Try.prog 50 #[.agg #[.int .i64 N.V, .slice A N.n c], .slice F N.n d, .slice T m ct, .int .i64 s] w (Searched N f s.toNat w) := by
  have hn := hg.n2
  have v1 := hg.v1
  have v2 := hg.v2
  have hmk := fun W => run_makeI (P := Try.prog) 28 4 _ 1 Try.underlying28 Try.infoBool rfl N.V (by omega) (by omega) (by omega) W
  have hmk2 := fun W => run_makeS (P := Try.prog) 84 86 _ 2 16 Try.underlying84 Try.infoStep N.V (by omega) (by omega) (by omega) W
  have s3 : s < (N.V.toNat : Int) := by omega
  obtain ⟨i0, qi0, qz0, qz1, qz2⟩ := info_parts Try.infoInt
  have hcs : (madeCells #[Value.bool false] N.V.toNat)[s.toNat]? = some (.bool false) := by
    have := (World.rowIs_made w (.bool false) N.V.toNat 4).cell (i := s.toNat) (by omega)
    rwa [World.cell?_alloc_at _ _ _ _ rfl] at this
  go_enter Try.func50, Try.ntmps50
  go_wp2
  clear hcs hmk hmk2
  go_loopg [12] (2 * N.V.toNat) (fun k qv wr => ∃ seen arc back rk cnt qn q, Bfs N f s.toNat seen arc back rk cnt qn q (fun _ => False) ∧ 2 * cntF seen N.V.toNat + qn ≤ k ∧ SMem w N A c wr seen arc back ∧ Own wr (w.heap.size + 3) 3 1 qv qn (fun i _ => .int .i64 (q i : Nat)))
  case atStart =>
    refine ⟨fun v => decide (v = s.toNat), fun _ => 0, fun _ => false, fun _ => 0, 1, 1, fun _ => s.toNat, bfs_start f (by omega) _ (fun _ => rfl) _ _ _ rfl, ?_, ⟨?_, ?_, ?_⟩, ?_⟩
    · have h1 := cntF_set (p := fun _ => false) (n := N.V.toNat) (a := s.toNat) (by omega) rfl
      have h2 : cntF (fun v => decide (v = s.toNat)) N.V.toNat = cntF (fun i => if i = s.toNat then true else false) N.V.toNat := cntF_congr fun i _ => by by_cases e : i = s.toNat <;> simp [e]
      have h3 := cntF_le (fun _ => false) N.V.toNat
      omega
    · exact (((Below.refl _ _).alloc (by simp) _).alloc (by simp) _).alloc (by simp) _
    · have h1 := ((World.rowIs_made (w.alloc (Obj.cells #[Value.int IntKind.i64 N.V, Value.slice A N.n c] 24)) (.bool false) N.V.toNat 4).set s.toNat (.bool true))
      rw [show (w.alloc (Obj.cells #[Value.int IntKind.i64 N.V, Value.slice A N.n c] 24)).heap.size = w.heap.size + 1 by simp] at h1
      rw [World.setCell_alloc_at _ _ _ _ _ (by simp)] at h1
      refine ((h1.alloc _).alloc _).congr fun v _ => ?_
      by_cases e : v = s.toNat <;> simp [e]
    · have h1 := made_steps ((w.alloc (Obj.cells #[Value.int IntKind.i64 N.V, Value.slice A N.n c] 24)).alloc (Obj.cells ((madeCells #[Value.bool false] N.V.toNat).setIfInBounds s.toNat (Value.bool true)) 4)) N.V.toNat 86
      simp only [World.size_alloc] at h1
      exact h1.alloc _
    · refine .inr ⟨_, 0, 1, #[Value.int IntKind.i64 s], rfl, by simp, heap_new_at (by simp), Nat.le_refl _, by unfold maxLen; omega, by simp, fun i hi j hj => ?_⟩
      obtain rfl : i = 0 := by omega
      obtain rfl : j = 0 := by omega
      simp
      omega
  case round =>
    obtain ⟨seen, arc, back, rk, cnt, qn, q, hI, hk, hM, hQ⟩ := hrel
    have hlt := hM.lt
    by_cases hq : 0 < qn
    · obtain ⟨g, o, cap, rfl, hg1, hg2, hcap, hcm, hqc⟩ := hQ.form hq
      have q0 : wr.cell? ⟨g, o, none⟩ = some (.int .i64 (q 0 : Nat)) := by simpa using hqc 0 hq 0 (by omega)
      have hv := (hI.found.lt _ (hI.queue 0 hq)).1
      have hHd := hid hqc
      obtain ⟨bT, oT, Av, cv, rfl, hbT, t0w, tR⟩ := ht (q 0) hv
      have hbT' : bT < wr.heap.size := by omega
      have t0 : wr.cell? ⟨bT, oT + q 0, none⟩ = some (.slice Av (deg (q 0)) cv) := by rw [hM.below.cell hbT]; exact t0w
      have hm' : (q 0 : Int) < (m : Int) := by rw [hm.out]; omega
      have hqi : (0 : Int) < (qn : Int) := by omega
      have hqb : qn ≤ 256 := by have := hI.room; omega
      clear hqc
      have hpop := hid (bfs_pop hI hq)
      have hdeg := hok.le (q 0) hv
      have HK := hid hk
      have hQt : Hid (Own wr (w.heap.size + 3) 3 1 (.slice (some ⟨g, (if cap = 1 then o else o + 1), none⟩) (qn - 1) (cap - 1)) (qn - 1) (fun i _ => .int .i64 (q (i + 1) : Nat))) := by
        show Own _ _ _ _ _ _ _
        split
        · exact hQ.tail_last ‹_›
        · exact hQ.tail hq
      obtain ⟨wo, rfl⟩ : ∃ wo : World, wo = wr := ⟨_, rfl⟩
      obtain ⟨K, rfl⟩ : ∃ K : Nat, K = gk := ⟨_, rfl⟩
      obtain ⟨x, hx⟩ : ∃ x : Nat, x = q 0 := ⟨_, rfl⟩
      have HX := hid hx
      have hxv : x < N.V.toNat := by rw [hx]; exact hv
      clear hk
      rw [← hx] at q0 t0 t0w tR hdeg hm'
      clear hx
      have hgoal : True := trivial
      by_cases hc1 : cap = 1
      all_goals
        first
          | (have hQ1 : Hid (Own wo (w.heap.size + 3) 3 1 (.slice (some ⟨g, o, none⟩) (qn - 1) (cap - 1)) (qn - 1) (fun i _ => .int .i64 (q (i + 1) : Nat))) := by have := hQt.out; rwa [if_pos hc1] at this
             have hqn1 : qn = 1 := by omega
             subst hc1 hqn1)
          | (have hQ1 : Hid (Own wo (w.heap.size + 3) 3 1 (.slice (some ⟨g, o + 1, none⟩) (qn - 1) (cap - 1)) (qn - 1) (fun i _ => .int .i64 (q (i + 1) : Nat))) := by have := hQt.out; rwa [if_neg hc1] at this)
        clear hQt hQ
        go_wp2
        go_loopg [12, 43] (deg x) (fun k2 qv jv wi => ∃ seen' arc' back' rk' cnt' qn' q' j, jv = .int .i64 (j : Nat) ∧ j ≤ deg x ∧ deg x ≤ j + k2 ∧ Bfs N f s.toNat seen' arc' back' rk' cnt' qn' q' (fun u => u = x) ∧ seen' x = true ∧
            Hid (∀ i, i < j → 0 < N.room f (ai x i) (bk x i) → seen' (N.tgt (ai x i) (bk x i)) = true) ∧ 2 * cntF seen' N.V.toNat + qn' + 1 ≤ K ∧ SMem w N A c wi seen' arc' back' ∧ Own wi (w.heap.size + 3) 3 1 qv qn' (fun i _ => .int .i64 (q' i : Nat)))
        case atStart =>
          refine ⟨seen, arc, back, rk, cnt, _, _, 0, rfl, by omega, by omega, HX.out ▸ hpop.out, ?_, hid fun i hi => absurd hi (by omega), ?_, hM, hQ1.out⟩
          · rw [HX.out]; exact hI.queue 0 hq
          · have := HK.out; omega
        case round =>
          obtain ⟨seen', arc', back', rk', cnt', qn', q', j, rfl, hj, hk2, hI', hsx, hdn, hKb, hM', hQ'⟩ := hrel
          have hlt' := hM'.lt
          have hz0 : w.heap.size < wr.heap.size := by omega
          have hz1 : w.heap.size + 1 < wr.heap.size := by omega
          by_cases hjd : j < deg x
          · obtain ⟨bx, ox, rfl, hbx, x0, x1⟩ := ((tR.below hM'.below (Nat.le_refl _)).mono (B' := wr.heap.size) (by omega)).at2 hjd
            obtain ⟨hia, hsrc⟩ := hok.right x hxv j hjd
            replace x0 : wr.cell? ⟨bx, ox + j * 2, none⟩ = some (.int .i64 (ai x j : Nat)) := x0
            replace x1 : wr.cell? ⟨bx, ox + j * 2 + 1, none⟩ = some (.bool (bk x j)) := x1
            obtain ⟨ba, oa, rfl, hba, a0, a1, a2⟩ := (h.on hM'.below).at hia
            obtain ⟨bf, of, rfl, hbf, f0⟩ := (hf.on hM'.below).at hia
            have hb0 := box_cell hM'.box 1 rfl
            obtain ⟨g0, g1, g2, g3, g4, g5⟩ := hg.arc _ hia
            obtain ⟨h0, h1⟩ := hbd.out _ hia
            have hia' : (ai x j : Int) < (N.n : Int) := by omega
            have hjd' : (j : Int) < (deg x : Int) := by omega
            have hfr : (N.fr (ai x j)) < (N.V.toNat : Int) := by omega
            have hto : (N.to (ai x j)) < (N.V.toNat : Int) := by omega
            have s4 := hM'.seen_.cell (i := (N.fr (ai x j)).toNat) (by omega)
            have s5 := hM'.seen_.cell (i := (N.to (ai x j)).toNat) (by omega)
            have skip : (0 < N.room f (ai x j) (bk x j) → seen' (N.tgt (ai x j) (bk x j)) = true) → Hid (∀ i, i < j + 1 → 0 < N.room f (ai x i) (bk x i) → seen' (N.tgt (ai x i) (bk x i)) = true) := fun hh i hi hr => by
              by_cases e : i = j
              · subst e; exact hh hr
              · exact hdn.out i (by omega) hr
            cases hib : bk x j
            · rw [hib] at x1
              by_cases hr : f (ai x j) < N.cp (ai x j)
              · cases hsn : seen' (N.to (ai x j)).toNat
                · rw [hsn] at s5
                  have hr' : 0 < N.cp (ai x j) - f (ai x j) := by omega
                  have hrm : 0 < N.room f (ai x j) false := hr'
                  have z5 := hM'.seen_.frozen (N.to (ai x j)).toNat
                  have y0 : wr.cell? ⟨w.heap.size + 1 + 1, (N.to (ai x j)).toNat * 2, none⟩ = some _ := hM'.by_.cell (by omega)
                  have y1 : wr.cell? ⟨w.heap.size + 1 + 1, (N.to (ai x j)).toNat * 2 + 1, none⟩ = some _ := hM'.by_.cell (by omega)
                  have y2 : ∀ k, wr.frozen? ⟨w.heap.size + 1 + 1, k, none⟩ = false := hM'.by_.frozen
                  have y3 := y2 ((N.to (ai x j)).toNat * 2)
                  have y4 := y2 ((N.to (ai x j)).toNat * 2 + 1)
                  clear y2
                  go_wp2
                  go_quiet (fail)
                  go_wp2
                  go_region
                  generalize hw2 : World.setCell _ _ _ = w2
                  have hM2 : SMem w N (some ⟨ba, oa, none⟩) c w2 (fun u => if u = (N.to (ai x j)).toNat then true else seen' u) (fun u => if u = (N.to (ai x j)).toNat then ai x j else arc' u) (fun u => if u = (N.to (ai x j)).toNat then false else back' u) := by
                    rw [← hw2]
                    exact (((hM'.alloc _).alloc _).drewN _).push _ _ _
                  have hQ2 : Own w2 (w.heap.size + 3) 3 1 u12 qn' (fun i _ => .int .i64 (q' i : Nat)) := by
                    rw [← hw2]
                    have hl := hQ'.lt
                    refine (((((hQ'.alloc _).alloc _).drewN _).setCell ?_ _).setCell ?_ _).setCell ?_ _
                    all_goals (intro e; have := (hl _ e).1; simp at this; try omega)
                  have hP : Hid (Bfs N f s.toNat (fun u => if u = (N.to (ai x j)).toNat then true else seen' u) (fun u => if u = (N.to (ai x j)).toNat then ai x j else arc' u) (fun u => if u = (N.to (ai x j)).toNat then false else back' u) (fun u => if u = (N.to (ai x j)).toNat then cnt' else rk' u) (cnt' + 1) (qn' + 1) (fun i => if i = qn' then (N.to (ai x j)).toNat else q' i) (fun u => u = x)) :=
                    bfs_push hg hI' hia (b := false) (by have hs' := hsrc; rw [hib] at hs'; rw [hs']; exact hsx) hrm hsn
                  have hP2 := cntF_set (p := seen') (n := N.V.toNat) (a := (N.to (ai x j)).toNat) (by omega) hsn
                  have hrb := hI'.room
                  have hQ3 := hQ2.congr (f' := fun i _ => .int .i64 ((if i = qn' then (N.to (ai x j)).toNat else q' i : Nat) : Int)) fun i hi _ _ => by simp only [if_neg (show ¬ i = qn' by omega)]
                  have SK : Hid (∀ i, i < j + 1 → 0 < N.room f (ai x i) (bk x i) → (if N.tgt (ai x i) (bk x i) = (N.to (ai x j)).toNat then true else seen' (N.tgt (ai x i) (bk x i))) = true) := fun i hi hr => by
                    by_cases e : i = j
                    · subst e; rw [hib]; exact if_pos rfl
                    · have := hdn.out i (by omega) hr; simp [this]
                  have hsx2 : Hid ((if x = (N.to (ai x j)).toNat then true else seen' x) = true) := by show _ = _; simp [hsx]
                  have HW := hid hw2
                  have HIB := hid hib
                  have hlt2 := hM2.lt
                  have hT2 : Hid ((((N.to (ai x j)).toNat : Nat) : Int) = N.to (ai x j)) := by show _ = _; omega
                  clear hw2 s4 s5 x0 x1 a0 a1 a2 f0 z5 y0 y1 y3 y4 hM' hQ' hQ2 hsn hib skip hb0
                  have n1 : Hid (∀ k, k < 1 → (w2.alloc (Obj.cells #[Value.int IntKind.i64 (N.to (ai x j))] 3)).cell? ((⟨w2.heap.size, 0, none⟩ : Addr).add k) = some (.int .i64 ((if qn' = qn' then (N.to (ai x j)).toNat else q' qn' : Nat) : Int))) := fun k hk => by
                    obtain rfl : k = 0 := by omega
                    rw [if_pos rfl, hT2.out]
                    exact World.cell?_alloc_at _ _ _ _ rfl
                  have n2 : ∀ k, k < 1 → (Value.int .i64 ((if qn' = qn' then (N.to (ai x j)).toNat else q' qn' : Nat) : Int)).oneCell' = true := fun _ _ => rfl
                  have n3 : Hid (qn' + 1 ≤ maxLen) := by show _ ≤ _; unfold maxLen; omega
                  have n4 : Hid ((qn' + 1) * 8 ≤ 140737488355328) := by show _ ≤ _; omega
                  have n5 : Hid (w.heap.size + 3 ≤ (w2.alloc (Obj.cells #[Value.int IntKind.i64 (N.to (ai x j))] 3)).heap.size) := by show _ ≤ _; simp; omega
                  have N2 := hid n2
                  clear n2
                  go_wp2_with (first | (at_builtin; (refine wpList_append_one _ rfl (.tmp 88) (.tmp 90) _ rfl (w.heap.size + 3) 3 i0 _ 1 8 Try.underlying33 qi0 qz0 qz1 qz2 rfl (by omega) u12 qn' _ rfl (hQ3.alloc _) ⟨w2.heap.size, 0, none⟩ 1 rfl n1.out N2.out n3.out n4.out n5.out ?_); intro v' w3 hown3 hg3 hat3))
                  have hM3 := (hM2.alloc (Obj.cells #[Value.int IntKind.i64 (N.to (ai x j))] 3)).grown hg3 (fun k e => (hQ3.lt k e).1)
                  go_roundg (gk - 1)
                  case measure => omega
                  case rel => exact ⟨_, _, _, _, _, _, _, j + 1, by go_num, by omega, by omega, hP.out, hsx2.out, SK, by omega, hM3, hown3⟩
                · rw [hsn] at s5
                  have hr' : 0 < N.cp (ai x j) - f (ai x j) := by omega
                  have SK := skip fun _ => by rw [hib]; exact hsn
                  clear skip
                  go_wp2
                  go_quiet (fail)
                  go_wp2
                  go_roundg (gk - 1)
                  case measure => omega
                  case rel => exact ⟨seen', arc', back', rk', cnt', qn', q', j + 1, by go_num, by omega, by omega, hI', hsx, SK.out, hKb, ((hM'.alloc _).alloc _).drewN _, (((hQ'.alloc _).alloc _).drewN _)⟩
              · have hr' : ¬ 0 < N.cp (ai x j) - f (ai x j) := by omega
                have SK := skip fun hh => by rw [hib] at hh; exact absurd hh (by simp only [Net.room]; simpa using hr')
                clear skip
                go_wp2
                go_quiet (fail)
                go_wp2
                go_roundg (gk - 1)
                case measure => omega
                case rel => exact ⟨seen', arc', back', rk', cnt', qn', q', j + 1, by go_num, by omega, by omega, hI', hsx, SK.out, hKb, ((hM'.alloc _).alloc _).drewN _, (((hQ'.alloc _).alloc _).drewN _)⟩
            · rw [hib] at x1
              by_cases hr : 0 < f (ai x j)
              · cases hsn : seen' (N.fr (ai x j)).toNat
                · rw [hsn] at s4
                  have hr' : 0 < f (ai x j) := hr
                  have hrm : 0 < N.room f (ai x j) true := hr'
                  have z5 := hM'.seen_.frozen (N.fr (ai x j)).toNat
                  have y0 : wr.cell? ⟨w.heap.size + 1 + 1, (N.fr (ai x j)).toNat * 2, none⟩ = some _ := hM'.by_.cell (by omega)
                  have y1 : wr.cell? ⟨w.heap.size + 1 + 1, (N.fr (ai x j)).toNat * 2 + 1, none⟩ = some _ := hM'.by_.cell (by omega)
                  have y2 : ∀ k, wr.frozen? ⟨w.heap.size + 1 + 1, k, none⟩ = false := hM'.by_.frozen
                  have y3 := y2 ((N.fr (ai x j)).toNat * 2)
                  have y4 := y2 ((N.fr (ai x j)).toNat * 2 + 1)
                  clear y2
                  go_wp2
                  go_quiet (fail)
                  go_wp2
                  go_quiet (fail)
                  go_wp2
                  go_region
                  generalize hw2 : World.setCell _ _ _ = w2
                  have hM2 : SMem w N (some ⟨ba, oa, none⟩) c w2 (fun u => if u = (N.fr (ai x j)).toNat then true else seen' u) (fun u => if u = (N.fr (ai x j)).toNat then ai x j else arc' u) (fun u => if u = (N.fr (ai x j)).toNat then true else back' u) := by
                    rw [← hw2]
                    exact (((hM'.alloc _).alloc _).drewN _).push _ _ _
                  have hQ2 : Own w2 (w.heap.size + 3) 3 1 u12 qn' (fun i _ => .int .i64 (q' i : Nat)) := by
                    rw [← hw2]
                    have hl := hQ'.lt
                    refine (((((hQ'.alloc _).alloc _).drewN _).setCell ?_ _).setCell ?_ _).setCell ?_ _
                    all_goals (intro e; have := (hl _ e).1; simp at this; try omega)
                  have hP : Hid (Bfs N f s.toNat (fun u => if u = (N.fr (ai x j)).toNat then true else seen' u) (fun u => if u = (N.fr (ai x j)).toNat then ai x j else arc' u) (fun u => if u = (N.fr (ai x j)).toNat then true else back' u) (fun u => if u = (N.fr (ai x j)).toNat then cnt' else rk' u) (cnt' + 1) (qn' + 1) (fun i => if i = qn' then (N.fr (ai x j)).toNat else q' i) (fun u => u = x)) :=
                    bfs_push hg hI' hia (b := true) (by have hs' := hsrc; rw [hib] at hs'; rw [hs']; exact hsx) hrm hsn
                  have hP2 := cntF_set (p := seen') (n := N.V.toNat) (a := (N.fr (ai x j)).toNat) (by omega) hsn
                  have hrb := hI'.room
                  have hQ3 := hQ2.congr (f' := fun i _ => .int .i64 ((if i = qn' then (N.fr (ai x j)).toNat else q' i : Nat) : Int)) fun i hi _ _ => by simp only [if_neg (show ¬ i = qn' by omega)]
                  have SK : Hid (∀ i, i < j + 1 → 0 < N.room f (ai x i) (bk x i) → (if N.tgt (ai x i) (bk x i) = (N.fr (ai x j)).toNat then true else seen' (N.tgt (ai x i) (bk x i))) = true) := fun i hi hr => by
                    by_cases e : i = j
                    · subst e; rw [hib]; exact if_pos rfl
                    · have := hdn.out i (by omega) hr; simp [this]
                  have hsx2 : Hid ((if x = (N.fr (ai x j)).toNat then true else seen' x) = true) := by show _ = _; simp [hsx]
                  have HW := hid hw2
                  have HIB := hid hib
                  have hlt2 := hM2.lt
                  have hT2 : Hid ((((N.fr (ai x j)).toNat : Nat) : Int) = N.fr (ai x j)) := by show _ = _; omega
                  clear hw2 s4 s5 x0 x1 a0 a1 a2 f0 z5 y0 y1 y3 y4 hM' hQ' hQ2 hsn hib skip hb0
                  have n1 : Hid (∀ k, k < 1 → (w2.alloc (Obj.cells #[Value.int IntKind.i64 (N.fr (ai x j))] 3)).cell? ((⟨w2.heap.size, 0, none⟩ : Addr).add k) = some (.int .i64 ((if qn' = qn' then (N.fr (ai x j)).toNat else q' qn' : Nat) : Int))) := fun k hk => by
                    obtain rfl : k = 0 := by omega
                    rw [if_pos rfl, hT2.out]
                    exact World.cell?_alloc_at _ _ _ _ rfl
                  have n2 : ∀ k, k < 1 → (Value.int .i64 ((if qn' = qn' then (N.fr (ai x j)).toNat else q' qn' : Nat) : Int)).oneCell' = true := fun _ _ => rfl
                  have n3 : Hid (qn' + 1 ≤ maxLen) := by show _ ≤ _; unfold maxLen; omega
                  have n4 : Hid ((qn' + 1) * 8 ≤ 140737488355328) := by show _ ≤ _; omega
                  have n5 : Hid (w.heap.size + 3 ≤ (w2.alloc (Obj.cells #[Value.int IntKind.i64 (N.fr (ai x j))] 3)).heap.size) := by show _ ≤ _; simp; omega
                  have N2 := hid n2
                  clear n2
                  go_wp2_with (first | (at_builtin; (refine wpList_append_one _ rfl (.tmp 88) (.tmp 90) _ rfl (w.heap.size + 3) 3 i0 _ 1 8 Try.underlying33 qi0 qz0 qz1 qz2 rfl (by omega) u12 qn' _ rfl (hQ3.alloc _) ⟨w2.heap.size, 0, none⟩ 1 rfl n1.out N2.out n3.out n4.out n5.out ?_); intro v' w3 hown3 hg3 hat3))
                  have hM3 := (hM2.alloc (Obj.cells #[Value.int IntKind.i64 (N.fr (ai x j))] 3)).grown hg3 (fun k e => (hQ3.lt k e).1)
                  go_roundg (gk - 1)
                  case measure => omega
                  case rel => exact ⟨_, _, _, _, _, _, _, j + 1, by go_num, by omega, by omega, hP.out, hsx2.out, SK, by omega, hM3, hown3⟩
                · rw [hsn] at s4
                  have hr' : 0 < f (ai x j) := hr
                  have SK := skip fun _ => by rw [hib]; exact hsn
                  clear skip
                  go_wp2
                  go_quiet (fail)
                  go_wp2
                  go_quiet (fail)
                  go_wp2
                  go_roundg (gk - 1)
                  case measure => omega
                  case rel => exact ⟨seen', arc', back', rk', cnt', qn', q', j + 1, by go_num, by omega, by omega, hI', hsx, SK.out, hKb, ((hM'.alloc _).alloc _).drewN _, (((hQ'.alloc _).alloc _).drewN _)⟩
              · have hr' : ¬ 0 < f (ai x j) := by omega
                have SK := skip fun hh => by rw [hib] at hh; exact absurd hh (by simp only [Net.room]; simpa using hr')
                clear skip
                go_wp2
                go_quiet (fail)
                go_wp2
                go_quiet (fail)
                go_wp2
                go_roundg (gk - 1)
                case measure => omega
                case rel => exact ⟨seen', arc', back', rk', cnt', qn', q', j + 1, by go_num, by omega, by omega, hI', hsx, SK.out, hKb, ((hM'.alloc _).alloc _).drewN _, (((hQ'.alloc _).alloc _).drewN _)⟩
          · obtain rfl : j = deg x := by omega
            have hcl : Closed N f seen' x := fun i b hi hb hr => by
              obtain ⟨j', h1, h2, h3⟩ := hok.all i b hi
              rw [hb] at h1 h2 h3
              have := hdn.out j' h1
              rw [h2, h3] at this
              exact this hr
            have hsh := hid (bfs_shut hI' hcl)
            clear hcl
            go_wp2
            go_roundg (2 * cntF seen' N.V.toNat + qn')
            case measure => omega
            case rel => exact ⟨seen', arc', back', rk', cnt', qn', q', hsh.out, by omega, hM', hQ'⟩
    · obtain rfl : qn = 0 := by omega
      obtain ⟨qa, qc, rfl⟩ := hQ.shape
      go_wp2
      go_ret2
      exact ⟨seen, arc, back, rk, cnt, bfs_end hI, rfl, hM.below, hM.seen_, hM.by_⟩
end Go.Proofs.Ythdeldaeghhfgaa
