/- codewrightref49.Enumerator: the weight distribution of the paths. -/
import Derived.Test.YtnocbkhnmdmfhaaPRows
import Derived.Test.YtnocbkhnmdmfhaaTrelProper
namespace Go.Proofs.Ytnocbkhnmdmfhaa
open Go.RowKit

theorem natOk_unit (w : World) : NatOk (w.alloc (Obj.cells #[.int .u32 1] 77)) (w.alloc (Obj.cells #[.int .u32 1] 77)).heap.size (some ⟨w.heap.size, 0, none⟩) 1 ∧ dl 1 = 1 := by
  have hd : dl 1 = 1 := dl_small (by omega) (by omega)
  refine ⟨?_, hd⟩
  have := natOk_one (w := w) 77 (x := 1) (by omega) (by omega)
  exact this
/-- The polynomial 1 or the indeterminate, just built. -/
theorem polV_one {w : World} {A : Option Addr} {c : Nat} (h : NatOk w w.heap.size A 1) (h1 : dl 1 ≤ c) (h2 : c ≤ maxLen) : PolV (w.alloc (Obj.cells #[.slice A (dl 1) c] 43)) (.slice (some ⟨w.heap.size, 0, none⟩) 1 1) (mono 0) := by
  have hO := natOwn_block (w := w) (n := 1) (x := mono 0) (cs := #[.slice A (dl 1) c]) (by omega) rfl (fun i hi => by
    obtain rfl : i = 0 := by omega
    exact ⟨A, c, rfl, h, h1, h2⟩)
  exact ⟨1, hO, by omega, fun t ht => if_neg (by omega), fun D hD => mono_short hD⟩
theorem polV_x {w : World} {A : Option Addr} {c : Nat} (h : NatOk w w.heap.size A 1) (h1 : dl 1 ≤ c) (h2 : c ≤ maxLen) : PolV (w.alloc (Obj.cells #[.slice none 0 0, .slice A (dl 1) c] 43)) (.slice (some ⟨w.heap.size, 0, none⟩) 2 2) (mono 1) := by
  have hO := natOwn_block (w := w) (n := 2) (x := mono 1) (cs := #[.slice none 0 0, .slice A (dl 1) c]) (by omega) rfl (fun i hi => by
    match i, hi with
    | 0, _ => exact ⟨none, 0, by show some _ = some (Value.slice none (dl 0) 0); rw [dl_zero]; rfl, by show NatOk _ _ _ 0; exact natOk_zero _ _ _, by show dl 0 ≤ 0; rw [dl_zero]; omega, by unfold maxLen; omega⟩
    | 1, _ => exact ⟨A, c, rfl, h, h1, h2⟩)
  exact ⟨2, hO, by omega, fun t ht => if_neg (by omega), fun D hD => mono_short hD⟩
/-- A row of polynomials, just made, and one of a single polynomial, just built. -/
theorem polOwn_made {w : World} {n : Nat} (hn : n ≤ maxLen) (x : Nat → Nat → Nat) (hx : ∀ i t, x i t = 0) : PolOwn (w.alloc (Obj.cells (madeCells #[Value.slice none 0 0] n) 39)) w.heap.size (.slice (some ⟨w.heap.size, 0, none⟩) n n) n x := by
  have hr := World.rowIs_made w (.slice none 0 0) n 39
  refine ⟨fun _ => .slice none 0 0, Own.new (Nat.le_refl _) (Nat.le_refl _) hn (by simp [size_madeCells]) (fun k hk j hj => ?_), fun q hq => ?_, fun i hi => ⟨0, (NatOwn.nil _ _ _), by omega, fun t _ => hx i t, fun _ _ => Nat.zero_le _⟩⟩
  · obtain rfl : j = 0 := by omega
    have hc := hr.cell hk
    rw [World.cell?_alloc_at _ _ _ _ rfl] at hc
    rw [Nat.mul_one, Nat.add_zero]
    exact hc
  · obtain rfl : w.heap.size = q := by simpa [Value.ownBlock] using hq
    exact noInt_row hr fun i _ u e => by cases e
theorem polOwn_single {w : World} {A : Option Addr} {n c : Nat} {p : Nat → Nat} (h : PolV w (.slice A n c) p) (x : Nat → Nat → Nat) (hx : ∀ t, p t = x 0 t) : PolOwn (w.alloc (Obj.cells #[.slice A n c] 39)) w.heap.size (.slice (some ⟨w.heap.size, 0, none⟩) 1 1) 1 x := by
  have kb : Below w.heap.size w (w.alloc (Obj.cells #[.slice A n c] 39)) := (Below.refl _ _).alloc (Nat.le_refl _) _
  refine ⟨fun _ => .slice A n c, Own.new (Nat.le_refl _) (Nat.le_refl _) (by unfold maxLen; omega) (by simp) (fun k hk j hj => ?_), fun q hq => ?_, fun i hi => ?_⟩
  · obtain rfl : j = 0 := by omega
    obtain rfl : k = 0 := by omega
    rfl
  · obtain rfl : w.heap.size = q := by simpa [Value.ownBlock] using hq
    exact noInt_of (c := #[.slice A n c]) (heap_new_at rfl) fun u hu z e => by
      simp at hu
      rw [hu] at e
      cases e
  · obtain rfl : i = 0 := by omega
    exact (h.on kb).congr hx
theorem PolOwn.rd {x : Nat → Nat → Nat} {w : World} {base k i g d : Nat} (h : PolOwn w base (.slice (some ⟨g, 0, none⟩) k d) k x) (hi : i < k) :
    ∃ A n c, w.cell? ⟨g, i, none⟩ = some (.slice A n c) ∧ PolV w (.slice A n c) (x i) ∧ w.frozen? ⟨g, i, none⟩ = false ∧ g < w.heap.size := by
  obtain ⟨b9, o9, d9, V9, e9, _, hl, bq, bqn, hz⟩ := h.at hi
  injection e9 with e9
  injection e9 with e9
  injection e9 with e9 e8
  subst e9 e8
  obtain ⟨A, n, c, e⟩ := bqn.isSlice
  subst e
  rw [Nat.zero_add] at bq hz
  exact ⟨A, n, c, bq, bqn, hz, hl⟩
def RefEnumPost (T : Trel) (w : World) (e : Ending) (w' : World) : Prop :=
  Below w.heap.size w w' ∧ ∃ A c, e = .returned (.slice A (T.n + 1) c) ∧ NatOwn w' w.heap.size (.slice A (T.n + 1) c) (T.n + 1) (T.pw T.n 0)
/-- The row of time i + 1 while j edges of section i are done. -/
theorem pwE_put {T : Trel} {prev : Nat → Nat → Nat} {i j u t fn tn : Nat} (hf : (T.fr i j).toNat = fn) (ht : (T.to i j).toNat = tn) :
    (if u = tn then (fun t => T.pwE prev i j tn t + shiftP (T.dg i j) (prev fn) t) else T.pwE prev i j u) t = T.pwE prev i (j + 1) u t := by
  have e : T.pwE prev i (j + 1) u t = T.pwE prev i j u t + if (T.to i j).toNat = u then shiftP (T.dg i j) (prev (T.fr i j).toNat) t else 0 := rfl
  rw [e, hf, ht]
  by_cases h : u = tn
  · subst h
    rw [if_pos rfl, if_pos rfl]
  · rw [if_neg h, if_neg fun hh => h hh.symm, Nat.add_zero]
set_option maxRecDepth 100000 in
set_option maxHeartbeats 16000000 in
theorem refEnum_any (T : Trel) (A B : Option Addr) (c d : Nat) (w : World) (h : T.Reads w A B) (hP : T.Proper) :
    Calls Try.prog 22 #[.agg #[.slice A T.nw c, .slice B T.n d]] w (RefEnumPost T w) := by
  obtain ⟨RB, hRB⟩ : ∃ o, o = (Obj.cells #[.slice A T.nw c, .slice B T.n d] 25) := ⟨_, rfl⟩
  have hB0 : Below (w.heap.size + 1) (w.alloc RB) (w.alloc RB) := Below.refl _ _
  have HS : Hid (∀ w', Below (w.heap.size + 1) (w.alloc RB) w' → (w'.cell? ⟨w.heap.size, 0, none⟩ = some (.slice A T.nw c) ∧ w'.cell? ⟨w.heap.size, 1, none⟩ = some (.slice B T.n d)) ∧ Below w.heap.size w w') := fun w' hB => by
    have hB' := tbox_below hB
    subst hRB
    exact ⟨⟨tbox hB rfl, tbox hB rfl⟩, hB'⟩
  have HR := hid h
  have HP := hid hP
  have HSH := hid hP.shape
  have hn64 := hP.shape.n64
  have HNW := hid hP.shape.nw
  clear h hP
  have hd1 : dl 1 = 1 := dl_small (by omega) (by omega)
  go_enter Try.func22, Try.ntmps22
  go_wp2_with fail
  rw [← hRB]
  go_upto_region 2 with fail
  obtain ⟨W2, hW2⟩ : ∃ W, W = w.alloc RB := ⟨_, rfl⟩
  have hsz2 : W2.heap.size = w.heap.size + 1 := by rw [hW2]; simp
  have HS2 : Hid (∀ w', Below (w.heap.size + 1) W2 w' → (w'.cell? ⟨w.heap.size, 0, none⟩ = some (.slice A T.nw c) ∧ w'.cell? ⟨w.heap.size, 1, none⟩ = some (.slice B T.n d)) ∧ Below w.heap.size w w') := by rw [hW2]; exact HS
  rw [← hW2] at hB0 ⊢
  rw [← hsz2]
  clear hW2 HS hRB
  have k1 : Below W2.heap.size W2 (W2.alloc (Obj.cells #[.int .u32 1] 77)) := (Below.refl _ _).alloc (Nat.le_refl _) _
  obtain ⟨n1, _⟩ := natOk_unit W2
  obtain ⟨w3, hw3⟩ : ∃ W, W = W2.alloc (Obj.cells #[.int .u32 1] 77) := ⟨_, rfl⟩
  have hs3 : w3.heap.size = W2.heap.size + 1 := by rw [hw3]; simp
  rw [← hw3] at k1 n1 ⊢
  rw [← hs3]
  have hV := polV_one n1 (c := 1) (by rw [hd1]; exact Nat.le_refl _) (by unfold maxLen; omega)
  rw [hd1] at hV
  have k2 : Below w3.heap.size w3 (w3.alloc (Obj.cells #[.slice (some ⟨W2.heap.size, 0, none⟩) 1 1] 43)) := (Below.refl _ _).alloc (Nat.le_refl _) _
  obtain ⟨w4, hw4⟩ : ∃ W, W = w3.alloc (Obj.cells #[.slice (some ⟨W2.heap.size, 0, none⟩) 1 1] 43) := ⟨_, rfl⟩
  have hs4 : w4.heap.size = w3.heap.size + 1 := by rw [hw4]; simp
  rw [← hw4] at k2 hV ⊢
  rw [← hs4]
  have hO := polOwn_single hV (T.pw 0) (fun t => by show mono 0 t = if 0 = 0 then mono 0 t else 0; rw [if_pos rfl])
  have k3 : Below w4.heap.size w4 (w4.alloc (Obj.cells #[.slice (some ⟨w3.heap.size, 0, none⟩) 1 1] 39)) := (Below.refl _ _).alloc (Nat.le_refl _) _
  have hO0 := hO.monoB (Nat.zero_le _)
  have kb := onS (onS k1 k2) k3
  obtain ⟨w5, hw5⟩ : ∃ W, W = w4.alloc (Obj.cells #[.slice (some ⟨w3.heap.size, 0, none⟩) 1 1] 39) := ⟨_, rfl⟩
  rw [← hw5] at hO0 kb ⊢
  have hB5 := two_on_ hB0 (Nat.le_of_eq hsz2.symm) kb
  have hl5 : w.heap.size + 1 < w5.heap.size := by rw [hw5]; simp; omega
  obtain ⟨v0, hv0⟩ : ∃ v : Value, v = .slice (some ⟨w4.heap.size, 0, none⟩) 1 1 := ⟨_, rfl⟩
  rw [← hv0] at hO0 ⊢
  have hw0 := HP.out.w0
  have hO1 : PolOwn w5 0 v0 (T.W 0).toNat (T.pw 0) := by rw [hw0]; exact hO0
  clear hv0 hw5 hw4 hw3 hO hO0 hV n1 k1 k2 k3 kb hs3 hs4 hB0 hw0 hsz2
  obtain ⟨⟨p0, p1⟩, hW⟩ := HS2.out _ hB5
  go_wp2
  go_loopg [3, 4] T.n (fun gg nv iv wx => ∃ i : Nat, iv = .int .i64 (i : Nat) ∧ i ≤ T.n ∧ T.n ≤ i + gg ∧ Hid (PolOwn wx 0 nv (T.W i).toNat (T.pw i)) ∧ Below (w.heap.size + 1) W2 wx ∧ w.heap.size + 1 < wx.heap.size)
  case atStart => exact ⟨0, rfl, by omega, by omega, hO1, hB5, hl5⟩
  case round =>
    clear p0 p1 hW hO1 hB5 hl5
    obtain ⟨gI, hgI⟩ : ∃ g, g = gk := ⟨_, rfl⟩
    subst hgI
    obtain ⟨i, rfl, hi, hig, HN, hB, hl⟩ := hrel
    have hi0 : (0 : Int) ≤ (i : Int) := by omega
    obtain ⟨⟨p0, p1⟩, hW⟩ := HS2.out _ hB
    obtain ⟨wa, hwa⟩ : ∃ W, W = wr := ⟨_, rfl⟩
    subst hwa
    obtain ⟨NA, nc, rfl⟩ := HN.out.isSlice
    by_cases hlt : i < T.n
    · have hlt' : (i : Int) < (T.n : Int) := by omega
      obtain ⟨n0, hn0⟩ : ∃ n, n = (T.W i).toNat := ⟨_, rfl⟩
      have HN0 := hid hn0
      rw [← hn0] at HN ⊢
      clear hn0
      have hi1w : i + 1 < T.nw := by have := HNW.out; omega
      have hi1w' : (i : Int) + 1 < (T.nw : Int) := by omega
      have hi01 : (0 : Int) ≤ (i : Int) + 1 := by omega
      have hwi1 : IntKind.i64.wrap ((i : Int) + 1) = (i : Int) + 1 := IntWalk.i64_in _ (by omega)
      obtain ⟨wb, wo, rfl, hwb, y0w, hy1, hy2⟩ := HR.out.width hi1w
      have y0 := cellS hW y0w
      have hwid := HSH.out.wid (i := i + 1) (by omega)
      obtain ⟨n1, hn1⟩ : ∃ n : Nat, (n : Int) = T.W (i + 1) := ⟨(T.W (i + 1)).toNat, by omega⟩
      rw [← hn1] at y0 hwid
      have HN1 := hid hn1
      obtain ⟨eb, eo, E, ec, rfl, heb, x0w, he1, he2, he3, he4⟩ := HR.out.sec hlt
      have hel := HSH.out.elb hlt
      have HX0 := hid x0w
      have HE3 := hid he3
      have hmk := fun W => run_makeI (P := Try.prog) 91 39 _ 24 Try.underlying91 Try.infoPol rfl (n1 : Int) (by omega) (by omega) (by omega) W
      simp only [Int.toNat_natCast] at hmk
      have hNX := polOwn_made (w := wa) (n := n1) (by unfold maxLen; omega) (T.pwE (T.pw i) i 0) (fun _ _ => rfl)
      have kb : Below wa.heap.size wa (wa.alloc (Obj.cells (madeCells #[Value.slice none 0 0] n1) 39)) := (Below.refl _ _).alloc (Nat.le_refl _) _
      clear hn1 hy1 hy2 y0w x0w he1 he2 he3 he4
      go_upto_region 6 with fail
      obtain ⟨w6, hw6⟩ : ∃ W, W = wa.alloc (Obj.cells (madeCells #[Value.slice none 0 0] n1) 39) := ⟨_, rfl⟩
      obtain ⟨g, hg⟩ : ∃ b, b = wa.heap.size := ⟨_, rfl⟩
      have HG := hid hg
      rw [← hw6] at hNX kb ⊢
      rw [← hg]
      have hNX0 : PolOwn w6 wa.heap.size (.slice (some ⟨g, 0, none⟩) n1 n1) n1 (T.pwE (T.pw i) i 0) := by rw [hg]; exact hNX
      have HBA := hid hB
      have hlA := hl
      have HLA := hid hl
      clear hw6 hNX hg hmk y0 p0 p1 hW hB hl hlA
      have hB6 := two_on_ HBA.out (Nat.le_of_lt HLA.out) kb
      obtain ⟨⟨p0, p1⟩, hW⟩ := HS2.out _ hB6
      have x0 := cellS hW HX0.out
      clear hB6
      go_wp2
      go_loopg [6] (T.el i) (fun gg jv wx => ∃ j : Nat, jv = .int .i64 (j : Nat) ∧ j ≤ T.el i ∧ T.el i ≤ j + gg ∧ PolOwn wx wa.heap.size (.slice (some ⟨g, 0, none⟩) n1 n1) n1 (T.pwE (T.pw i) i j) ∧ Below wa.heap.size wa wx)
      case atStart => exact ⟨0, rfl, by omega, by omega, hNX0, kb⟩
      case round =>
        clear hNX0 kb p0 p1 hW x0
        obtain ⟨j, rfl, hj, hjg, hNX, hA⟩ := hrel
        have hj0 : (0 : Int) ≤ (j : Int) := by omega
        have hB := two_on_ HBA.out (Nat.le_of_lt HLA.out) hA
        obtain ⟨⟨p0, p1⟩, hW⟩ := HS2.out _ hB
        have x0 := cellS hW HX0.out
        by_cases hltj : j < T.el i
        · have hltj' : (j : Int) < (T.el i : Int) := by omega
          obtain ⟨fb, fo, rfl, hfb, e0, e1, e2⟩ := edge_at ((Rd.below HE3.out hW (Nat.le_refl _)).mono hW.size) hltj
          obtain ⟨i1, i2, i3, i4⟩ := HSH.out.ins i hlt j hltj
          obtain ⟨fn, hfn⟩ : ∃ n : Nat, (n : Int) = T.fr i j := ⟨(T.fr i j).toNat, by omega⟩
          obtain ⟨tn, htn⟩ : ∃ n : Nat, (n : Int) = T.to i j := ⟨(T.to i j).toNat, by omega⟩
          have hfw : fn < n0 := by have := HN0.out; omega
          obtain ⟨ab, ao, ad, Va, hFa, _, habl, aq0, hav, _⟩ := HN.out.at hfw
          injection hFa with hFa _ hFc
          subst hFa hFc
          have htw : tn < n1 := by have := HN1.out; omega
          obtain ⟨Aa, na, ca, hVa⟩ := hav.isSlice
          subst hVa
          have aq := cellS hA aq0
          have apn := hav.on hA
          have d1 : Hid (∀ t, dl (T.pw i fn t) ≤ 1000000) := fun t => by
            have h1 := Trel.pwX_dl HSH.out hlt hj i fn t
            have e : T.pwX i j i fn = T.pw i fn := by unfold Trel.pwX; rw [if_pos (Nat.le_refl _)]
            rw [e] at h1
            omega
          have hpe : ∀ j', j' ≤ T.el i → ∀ t, dl (T.pwE (T.pw i) i j' tn t) ≤ 1000000 := fun j' hj' t => by
            have h1 := Trel.pwX_dl HSH.out hlt hj' (i + 1) tn t
            have e : T.pwX i j' (i + 1) tn = T.pwE (T.pw i) i j' tn := by unfold Trel.pwX; rw [if_neg (by omega), if_pos rfl]
            rw [e] at h1
            omega
          have d2 : Hid (∀ t, dl (T.pwE (T.pw i) i j tn t) ≤ 1000000) := hpe j hj
          have hz : Hid (∀ t, 66 ≤ t → shiftP (T.dg i j) (T.pw i fn) t = 0) := fun t ht => by
            have hd : T.dg i j ≤ 1 := by unfold Trel.dg; split <;> omega
            unfold shiftP
            split
            · exact Trel.pw_out i fn _ (by omega)
            · rfl
          have HPUT : Hid (∀ u t, (if u = tn then (fun t => T.pwE (T.pw i) i j tn t + shiftP (T.dg i j) (T.pw i fn) t) else T.pwE (T.pw i) i j u) t = T.pwE (T.pw i) i (j + 1) u t) := fun u t => pwE_put (by omega) (by omega)
          have d4 : Hid (∀ t, dl (T.pwE (T.pw i) i j tn t + shiftP (T.dg i j) (T.pw i fn) t) ≤ 1000000) := fun t => by
            have h1 := HPUT.out tn t
            rw [if_pos rfl] at h1
            rw [h1]
            exact hpe (j + 1) hltj t
          obtain ⟨pv, hpv⟩ : ∃ z, z = T.pw i fn := ⟨_, rfl⟩
          obtain ⟨qv, hqv⟩ : ∃ z, z = T.pwE (T.pw i) i j tn := ⟨_, rfl⟩
          have HQV := hid hqv
          obtain ⟨ed, hed⟩ : ∃ z, z = T.dg i j := ⟨_, rfl⟩
          obtain ⟨lb, hlb⟩ : ∃ z, z = T.lb i j := ⟨_, rfl⟩
          have HED : Hid (ed = if lb = 0 then 0 else 1) := by rw [hed, hlb]; exact hid rfl
          rw [← hpv] at apn d1 hz HPUT d4
          rw [← hqv] at d2 HPUT d4
          rw [← hed] at hz HPUT d4
          rw [← hfn] at e0
          rw [← hlb] at e1
          rw [← htn] at e2
          have hfl' : (fn : Int) < (n0 : Int) := by omega
          have htl' : (tn : Int) < (n1 : Int) := by omega
          have hf0 : (0 : Int) ≤ (fn : Int) := by omega
          have ht0 : (0 : Int) ≤ (tn : Int) := by omega
          have HABG : Hid (ab ≠ g) := by show ab ≠ g; rw [HG.out]; omega
          clear hpv hqv hed hlb hfn htn i1 i2 i3 i4 hav aq0 hpe p0
          go_upto_region 10 with fail
          obtain ⟨OB, hOB⟩ : ∃ o, o = (Obj.cells #[.int .i64 (fn : Int), .int .i64 lb, .int .i64 (tn : Int)] 72) := ⟨_, rfl⟩
          have hq : ∀ i v, (#[Value.int .i64 (fn : Int), .int .i64 lb, .int .i64 (tn : Int)] : Array Value)[i]? = some v → (wr.alloc OB).cell? ⟨wr.heap.size, i, none⟩ = some v := fun i v hv => by subst hOB; exact tbox (Below.refl _ _) hv
          have s0 := hq 0 _ rfl
          have s1 := hq 1 _ rfl
          have s2 := hq 2 _ rfl
          have kb : Below wr.heap.size wr (wr.alloc OB) := (Below.refl _ _).alloc (Nat.le_refl _) _
          rw [← hOB]
          obtain ⟨w50, hw50⟩ : ∃ W, W = wr.alloc OB := ⟨_, rfl⟩
          rw [← hw50] at s0 s1 s2 kb ⊢
          have HBG : Hid (wr.heap.size ≠ g) := by
            show _ ≠ g
            obtain ⟨_, _, _, _, _, _, h9⟩ := hNX.rd htw
            omega
          replace hNX := hNX.on kb
          replace hA := onS hA kb
          replace aq := cellS kb aq
          replace apn := apn.on kb
          obtain ⟨bx, hbx⟩ : ∃ b, b = wr.heap.size := ⟨_, rfl⟩
          rw [← hbx] at s0 s1 s2 HBG ⊢
          clear hbx hw50 hOB kb hq e0 e1 e2 hfb x0 p1 hW hB
          go_upto_region 11 with fail
          have k1 : Below w50.heap.size w50 (w50.alloc (Obj.cells #[.int .u32 1] 77)) := (Below.refl _ _).alloc (Nat.le_refl _) _
          obtain ⟨n9, _⟩ := natOk_unit w50
          obtain ⟨w51, hw51⟩ : ∃ W, W = w50.alloc (Obj.cells #[.int .u32 1] 77) := ⟨_, rfl⟩
          have hs51 : w51.heap.size = w50.heap.size + 1 := by rw [hw51]; simp
          rw [← hw51] at k1 n9 ⊢
          rw [← hs51]
          have hV := polV_one n9 (c := 1) (by rw [hd1]; exact Nat.le_refl _) (by unfold maxLen; omega)
          rw [hd1] at hV
          have k2 : Below w51.heap.size w51 (w51.alloc (Obj.cells #[.slice (some ⟨w50.heap.size, 0, none⟩) 1 1] 43)) := (Below.refl _ _).alloc (Nat.le_refl _) _
          obtain ⟨w52, hw52⟩ : ∃ W, W = w51.alloc (Obj.cells #[.slice (some ⟨w50.heap.size, 0, none⟩) 1 1] 43) := ⟨_, rfl⟩
          rw [← hw52] at k2 hV ⊢
          have kb := onS k1 k2
          replace hNX := hNX.on kb
          replace hA := onS hA kb
          replace aq := cellS kb aq
          replace apn := apn.on kb
          replace s0 := cellS kb s0
          replace s1 := cellS kb s1
          replace s2 := cellS kb s2
          obtain ⟨zA, hzA⟩ : ∃ z : Option Addr, z = some ⟨w51.heap.size, 0, none⟩ := ⟨_, rfl⟩
          rw [← hzA] at hV ⊢
          clear hw52 hw51 k1 k2 kb n9 hs51 hzA
          by_cases hl0 : lb = 0
          · have b1 : (lb != 0) = false := by simp [hl0]
            have hE : ed = 0 := by rw [HED.out, if_pos hl0]
            rw [← hE] at hV
            clear hl0 hE
            go_upto_region 13 with fail
            clear s1 b1
            refine wp_region_held_drew (S := fun w' => w'.cell? ⟨bx, 0, none⟩ = some (.int .i64 (fn : Int)) ∧ w'.cell? ⟨bx, 2, none⟩ = some (.int .i64 (tn : Int)) ∧ w'.cell? ⟨ab, ao + fn, none⟩ = some (.slice Aa na ca)) (by kernel_rfl) ⟨cellS (Below.refl _ _).drew s0, cellS (Below.refl _ _).drew s2, cellS (Below.refl _ _).drew aq⟩ (fun hHeld => ?_)
            obtain ⟨w53, hw⟩ : ∃ W, W = World.drew w52 := ⟨_, rfl⟩
            have kb : Below w52.heap.size w52 w53 := by rw [hw]; exact (Below.refl _ _).drew
            rw [← hw] at hHeld ⊢
            clear hw
            replace hNX := hNX.on kb
            replace hA := onS hA kb
            replace aq := cellS kb aq
            replace apn := apn.on kb
            replace s0 := cellS kb s0
            replace s2 := cellS kb s2
            replace hV := hV.on kb
            clear kb
            refine wpAnyH_take (i := 0) (v := ?_) (by simp only [List.getElem?_toArray, List.getElem?_cons_zero]; rfl) (by kernel_rfl) (by kernel_rfl) (by kernel_rfl) (by exact fun _ _ _ h => h) (Or.inl ⟨by rfl, ?_⟩) (by assumption) ?_
            rotate_left
            · (intro w hSw; (try dsimp only at hSw); go_simp); first | done | with_reducible rfl
            try simp only [Act.put, List.setIfInBounds_toArray, List.set_cons_zero, List.set_cons_succ]
            refine wpAnyH_take (i := 1) (v := ?_) (by simp only [List.getElem?_toArray, List.getElem?_cons_succ, List.getElem?_cons_zero]; rfl) (by kernel_rfl) (by kernel_rfl) (by kernel_rfl) (by exact fun _ _ _ h => h) (Or.inl ⟨by rfl, ?_⟩) (by assumption) ?_
            rotate_left
            · (intro w hSw; (try dsimp only at hSw); go_simp); first | done | with_reducible rfl
            try simp only [Act.put, List.setIfInBounds_toArray, List.set_cons_zero, List.set_cons_succ]
            refine wpAnyH_take (i := 2) (v := ?_) (by simp only [List.getElem?_toArray, List.getElem?_cons_succ, List.getElem?_cons_zero]; rfl) (by kernel_rfl) (by kernel_rfl) (by kernel_rfl) (by exact fun _ _ _ h => h) (Or.inl ⟨by rfl, ?_⟩) (by assumption) ?_
            rotate_left
            · (intro w hSw; (try dsimp only at hSw); go_simp); first | done | with_reducible rfl
            try simp only [Act.put, List.setIfInBounds_toArray, List.set_cons_zero, List.set_cons_succ]
            refine wpAnyH_take (i := 3) (v := ?_) (by simp only [List.getElem?_toArray, List.getElem?_cons_succ, List.getElem?_cons_zero]; rfl) (by kernel_rfl) (by kernel_rfl) (by kernel_rfl) (by exact fun _ _ _ h => h) (Or.inl ⟨by rfl, ?_⟩) (by assumption) ?_
            rotate_left
            · (intro w hSw; (try dsimp only at hSw); go_simp); first | done | with_reducible rfl
            try simp only [Act.put, List.setIfInBounds_toArray, List.set_cons_zero, List.set_cons_succ]
            refine wpAnyH_take (i := 4) (v := ?_) (by simp only [List.getElem?_toArray, List.getElem?_cons_succ, List.getElem?_cons_zero]; rfl) (by kernel_rfl) (by kernel_rfl) (by kernel_rfl) (by exact fun _ _ _ h => h) (Or.inl ⟨by rfl, ?_⟩) (by assumption) ?_
            rotate_left
            · (intro w hSw; (try dsimp only at hSw); go_simp); first | done | with_reducible rfl
            try simp only [Act.put, List.setIfInBounds_toArray, List.set_cons_zero, List.set_cons_succ]
            refine wpAnyH_take (i := 5) (v := ?_) (by simp only [List.getElem?_toArray, List.getElem?_cons_succ, List.getElem?_cons_zero]; rfl) (by kernel_rfl) (by kernel_rfl) (by kernel_rfl) (by exact fun _ _ _ h => h) (Or.inl ⟨by rfl, ?_⟩) (by assumption) ?_
            rotate_left
            · (intro w hSw; (try dsimp only at hSw); go_simp); first | done | with_reducible rfl
            try simp only [Act.put, List.setIfInBounds_toArray, List.set_cons_zero, List.set_cons_succ]
            refine wpAnyH_take (i := 6) (v := ?_) (by simp only [List.getElem?_toArray, List.getElem?_cons_succ, List.getElem?_cons_zero]; rfl) (by kernel_rfl) (by kernel_rfl) (by kernel_rfl) (by exact fun _ _ _ h => h) (Or.inl ⟨by rfl, ?_⟩) (by assumption) ?_
            rotate_left
            · (intro w hSw; (try dsimp only at hSw); go_simp); first | done | with_reducible rfl
            try simp only [Act.put, List.setIfInBounds_toArray, List.set_cons_zero, List.set_cons_succ]
            refine wpAnyH_take (i := 8) (v := ?_) (by simp only [List.getElem?_toArray, List.getElem?_cons_succ, List.getElem?_cons_zero]; rfl) (by kernel_rfl) (by kernel_rfl) (by kernel_rfl) (by exact fun _ _ _ h => h) (Or.inl ⟨by rfl, ?_⟩) (by assumption) ?_
            rotate_left
            · (intro w hSw; (try dsimp only at hSw); go_simp); first | done | with_reducible rfl
            try simp only [Act.put, List.setIfInBounds_toArray, List.set_cons_zero, List.set_cons_succ]
            refine wpAnyH_take (i := 9) (v := ?_) (by simp only [List.getElem?_toArray, List.getElem?_cons_succ, List.getElem?_cons_zero]; rfl) (by kernel_rfl) (by kernel_rfl) (by kernel_rfl) (by exact fun _ _ _ h => h) (Or.inl ⟨by rfl, ?_⟩) (by assumption) ?_
            rotate_left
            · (intro w hSw; (try dsimp only at hSw); go_simp); first | done | with_reducible rfl
            try simp only [Act.put, List.setIfInBounds_toArray, List.set_cons_zero, List.set_cons_succ]
            refine wpAnyH_take (i := 10) (v := ?_) (by simp only [List.getElem?_toArray, List.getElem?_cons_succ, List.getElem?_cons_zero]; rfl) (by kernel_rfl) (by kernel_rfl) (by kernel_rfl) (by exact fun _ _ _ h => h) (Or.inl ⟨by rfl, ?_⟩) (by assumption) ?_
            rotate_left
            · (intro w hSw; (try dsimp only at hSw); go_simp); first | done | with_reducible rfl
            try simp only [Act.put, List.setIfInBounds_toArray, List.set_cons_zero, List.set_cons_succ]
            refine wpAnyH_take (i := 11) (v := ?_) (by simp only [List.getElem?_toArray, List.getElem?_cons_succ, List.getElem?_cons_zero]; rfl) (by kernel_rfl) (by kernel_rfl) (by kernel_rfl) (by exact fun _ _ _ h => h) (Or.inl ⟨by rfl, ?_⟩) (by assumption) ?_
            rotate_left
            · (intro w hSw; (try dsimp only at hSw); go_simp); first | done | with_reducible rfl
            try simp only [Act.put, List.setIfInBounds_toArray, List.set_cons_zero, List.set_cons_succ]
            refine wpAnyH_take (i := 12) (v := ?_) (by simp only [List.getElem?_toArray, List.getElem?_cons_succ, List.getElem?_cons_zero]; rfl) (by kernel_rfl) (by kernel_rfl) (by kernel_rfl) (by exact fun _ _ _ h => h) (Or.inl ⟨by rfl, ?_⟩) (by assumption) ?_
            rotate_left
            · (intro w hSw; (try dsimp only at hSw); go_simp); first | done | with_reducible rfl
            try simp only [Act.put, List.setIfInBounds_toArray, List.set_cons_zero, List.set_cons_succ]
            refine wpAnyH_take (i := 13) (v := ?_) (by simp only [List.getElem?_toArray, List.getElem?_cons_succ, List.getElem?_cons_zero]; rfl) (by kernel_rfl) (by kernel_rfl) (by kernel_rfl) (by exact fun _ _ _ h => h) (Or.inl ⟨by rfl, ?_⟩) (by assumption) ?_
            rotate_left
            · (intro w hSw; (try dsimp only at hSw); go_simp); first | done | with_reducible rfl
            try simp only [Act.put, List.setIfInBounds_toArray, List.set_cons_zero, List.set_cons_succ]
            refine wpAnyH_ready (rs := [7, 14]) (by kernel_rfl) (by simp) ?_
            refine AllReadyH.cons (by simp only [List.getElem?_toArray, List.getElem?_cons_succ, List.getElem?_cons_zero]; rfl) (fun K hK => ?_) (AllReadyH.cons (by simp only [List.getElem?_toArray, List.getElem?_cons_succ, List.getElem?_cons_zero]; rfl) (fun K hK => ?_) AllReadyH.nil)
            · obtain ⟨Ab, nb, cb, bq, bqn, _, _⟩ := hNX.rd htw
              rw [← HQV.out] at bqn
              go_simp
              clear bq
              refine hK.out _ _ ⟨s0, s2, aq⟩ (fun hHeld => ?_)
              clear hK K
              try simp only [Act.put, List.setIfInBounds_toArray, List.set_cons_zero, List.set_cons_succ]
              refine wpAnyH_ready (rs := [14]) (by kernel_rfl) (by simp) ?_
              refine AllReadyH.cons (by simp only [List.getElem?_toArray, List.getElem?_cons_succ, List.getElem?_cons_zero]; rfl) (fun K hK => ?_) AllReadyH.nil
              go_simp
              go_wp2_with fail
              refine (polyMul_pol Aa zA na 1 ca 1 ed pv w53 apn hV hz d1).mono ?_
              rintro e w54 ⟨Am, nm, cm, rfl, mv, kb⟩
              replace hNX := hNX.on kb
              replace hA := onS hA kb
              replace aq := cellS kb aq
              replace apn := apn.on kb
              replace s0 := cellS kb s0
              replace s2 := cellS kb s2
              replace hV := hV.on kb
              replace bqn := bqn.on kb
              clear kb
              refine hK.out _ _ ⟨s0, s2, aq⟩ (fun hHeld => ?_)
              clear hK K
              try simp only [Act.put, List.setIfInBounds_toArray, List.set_cons_zero, List.set_cons_succ]
              refine wpAnyH_ready (rs := [15]) (by kernel_rfl) (by simp) ?_
              refine AllReadyH.cons (by simp only [List.getElem?_toArray, List.getElem?_cons_succ, List.getElem?_cons_zero]; rfl) (fun K hK => ?_) AllReadyH.nil
              go_simp
              go_wp2_with fail
              refine (polyAdd_pol Ab Am nb nm cb cm qv (shiftP ed pv) w54 bqn mv d2 (fun t => shiftP_dl d1.out t) d4).mono ?_
              rintro e w55 ⟨As, ns, cs, rfl, tv, kb⟩
              replace hNX := hNX.on kb
              replace hA := onS hA kb
              replace aq := cellS kb aq
              replace apn := apn.on kb
              replace s0 := cellS kb s0
              replace s2 := cellS kb s2
              replace hV := hV.on kb
              replace bqn := bqn.on kb
              replace mv := mv.on kb
              clear kb
              refine hK.out _ _ ⟨s0, s2, aq⟩ (fun hHeld => ?_)
              clear hK K
              try simp only [Act.put, List.setIfInBounds_toArray, List.set_cons_zero, List.set_cons_succ]
              refine wpAnyH_take (i := 16) (v := ?_) (by simp only [List.getElem?_toArray, List.getElem?_cons_succ, List.getElem?_cons_zero]; rfl) (by kernel_rfl) (by kernel_rfl) (by kernel_rfl) (by exact fun _ _ _ h => h) (Or.inl ⟨by rfl, ?_⟩) (by assumption) ?_
              rotate_left
              · (intro w hSw; (try dsimp only at hSw); go_simp); first | done | with_reducible rfl
              try simp only [Act.put, List.setIfInBounds_toArray, List.set_cons_zero, List.set_cons_succ]
              refine wpAnyH_ready (rs := [17]) (by kernel_rfl) (by simp) ?_
              refine AllReadyH.cons (by simp only [List.getElem?_toArray, List.getElem?_cons_succ, List.getElem?_cons_zero]; rfl) (fun K hK => ?_) AllReadyH.nil
              obtain ⟨_, _, _, q0, _, z0, _⟩ := hNX.rd htw
              go_simp
              replace s0 := cell_setCell_far (p := ⟨g, tn, none⟩) (u := .slice As ns cs) s0 (by simpa using HBG.out)
              replace s2 := cell_setCell_far (p := ⟨g, tn, none⟩) (u := .slice As ns cs) s2 (by simpa using HBG.out)
              replace aq := cell_setCell_far (p := ⟨g, tn, none⟩) (u := .slice As ns cs) aq (by simpa using HABG.out)
              have hN2 := hNX.set htw tv
              have hA2 := hA.setCell (p := ⟨g, 0 + tn, none⟩) (by show wa.heap.size ≤ g; rw [HG.out]; exact Nat.le_refl _) (.slice As ns cs)
              rw [Nat.zero_add] at hN2 hA2
              clear q0 z0
              refine hK.out _ _ ⟨s0, s2, aq⟩ (fun hHeld => ?_)
              clear hK K
              try simp only [Act.put, List.setIfInBounds_toArray, List.set_cons_zero, List.set_cons_succ]
              refine wpAnyH_done (by kernel_rfl) ?_ _
              clear hHeld
              have HN3 := hid (hN2.congr (y' := T.pwE (T.pw i) i (j + 1)) fun u _ t => HPUT.out u t)
              have HA3 := hid hA2
              clear hN2 hNX hA2 hA
              go_wp2
              go_roundg (gk - 1)
              case measure => omega
              case rel => exact ⟨j + 1, by go_num, by omega, by omega, HN3.out, HA3.out⟩
            · go_simp
              go_wp2_with fail
              refine (polyMul_pol Aa zA na 1 ca 1 ed pv w53 apn hV hz d1).mono ?_
              rintro e w54 ⟨Am, nm, cm, rfl, mv, kb⟩
              replace hNX := hNX.on kb
              replace hA := onS hA kb
              replace aq := cellS kb aq
              replace apn := apn.on kb
              replace s0 := cellS kb s0
              replace s2 := cellS kb s2
              replace hV := hV.on kb
              clear kb
              refine hK.out _ _ ⟨s0, s2, aq⟩ (fun hHeld => ?_)
              clear hK K
              try simp only [Act.put, List.setIfInBounds_toArray, List.set_cons_zero, List.set_cons_succ]
              refine wpAnyH_ready (rs := [7]) (by kernel_rfl) (by simp) ?_
              refine AllReadyH.cons (by simp only [List.getElem?_toArray, List.getElem?_cons_succ, List.getElem?_cons_zero]; rfl) (fun K hK => ?_) AllReadyH.nil
              obtain ⟨Ab, nb, cb, bq, bqn, _, _⟩ := hNX.rd htw
              rw [← HQV.out] at bqn
              go_simp
              clear bq
              refine hK.out _ _ ⟨s0, s2, aq⟩ (fun hHeld => ?_)
              clear hK K
              try simp only [Act.put, List.setIfInBounds_toArray, List.set_cons_zero, List.set_cons_succ]
              refine wpAnyH_ready (rs := [15]) (by kernel_rfl) (by simp) ?_
              refine AllReadyH.cons (by simp only [List.getElem?_toArray, List.getElem?_cons_succ, List.getElem?_cons_zero]; rfl) (fun K hK => ?_) AllReadyH.nil
              go_simp
              go_wp2_with fail
              refine (polyAdd_pol Ab Am nb nm cb cm qv (shiftP ed pv) w54 bqn mv d2 (fun t => shiftP_dl d1.out t) d4).mono ?_
              rintro e w55 ⟨As, ns, cs, rfl, tv, kb⟩
              replace hNX := hNX.on kb
              replace hA := onS hA kb
              replace aq := cellS kb aq
              replace apn := apn.on kb
              replace s0 := cellS kb s0
              replace s2 := cellS kb s2
              replace hV := hV.on kb
              replace mv := mv.on kb
              replace bqn := bqn.on kb
              clear kb
              refine hK.out _ _ ⟨s0, s2, aq⟩ (fun hHeld => ?_)
              clear hK K
              try simp only [Act.put, List.setIfInBounds_toArray, List.set_cons_zero, List.set_cons_succ]
              refine wpAnyH_take (i := 16) (v := ?_) (by simp only [List.getElem?_toArray, List.getElem?_cons_succ, List.getElem?_cons_zero]; rfl) (by kernel_rfl) (by kernel_rfl) (by kernel_rfl) (by exact fun _ _ _ h => h) (Or.inl ⟨by rfl, ?_⟩) (by assumption) ?_
              rotate_left
              · (intro w hSw; (try dsimp only at hSw); go_simp); first | done | with_reducible rfl
              try simp only [Act.put, List.setIfInBounds_toArray, List.set_cons_zero, List.set_cons_succ]
              refine wpAnyH_ready (rs := [17]) (by kernel_rfl) (by simp) ?_
              refine AllReadyH.cons (by simp only [List.getElem?_toArray, List.getElem?_cons_succ, List.getElem?_cons_zero]; rfl) (fun K hK => ?_) AllReadyH.nil
              obtain ⟨_, _, _, q0, _, z0, _⟩ := hNX.rd htw
              go_simp
              replace s0 := cell_setCell_far (p := ⟨g, tn, none⟩) (u := .slice As ns cs) s0 (by simpa using HBG.out)
              replace s2 := cell_setCell_far (p := ⟨g, tn, none⟩) (u := .slice As ns cs) s2 (by simpa using HBG.out)
              replace aq := cell_setCell_far (p := ⟨g, tn, none⟩) (u := .slice As ns cs) aq (by simpa using HABG.out)
              have hN2 := hNX.set htw tv
              have hA2 := hA.setCell (p := ⟨g, 0 + tn, none⟩) (by show wa.heap.size ≤ g; rw [HG.out]; exact Nat.le_refl _) (.slice As ns cs)
              rw [Nat.zero_add] at hN2 hA2
              clear q0 z0
              refine hK.out _ _ ⟨s0, s2, aq⟩ (fun hHeld => ?_)
              clear hK K
              try simp only [Act.put, List.setIfInBounds_toArray, List.set_cons_zero, List.set_cons_succ]
              refine wpAnyH_done (by kernel_rfl) ?_ _
              clear hHeld
              have HN3 := hid (hN2.congr (y' := T.pwE (T.pw i) i (j + 1)) fun u _ t => HPUT.out u t)
              have HA3 := hid hA2
              clear hN2 hNX hA2 hA
              go_wp2
              go_roundg (gk - 1)
              case measure => omega
              case rel => exact ⟨j + 1, by go_num, by omega, by omega, HN3.out, HA3.out⟩
          · have b1 : (lb != 0) = true := by simpa using hl0
            have hE : ed = 1 := by rw [HED.out, if_neg hl0]
            clear hl0
            go_upto_region 13 with fail
            have k1 : Below w52.heap.size w52 (w52.alloc (Obj.cells #[.int .u32 1] 77)) := (Below.refl _ _).alloc (Nat.le_refl _) _
            obtain ⟨n9, _⟩ := natOk_unit w52
            obtain ⟨w54, hw54⟩ : ∃ W, W = w52.alloc (Obj.cells #[.int .u32 1] 77) := ⟨_, rfl⟩
            have hs54 : w54.heap.size = w52.heap.size + 1 := by rw [hw54]; simp
            rw [← hw54] at k1 n9 ⊢
            rw [← hs54]
            have hV2 := polV_x n9 (c := 1) (by rw [hd1]; exact Nat.le_refl _) (by unfold maxLen; omega)
            rw [hd1] at hV2
            have k2 : Below w54.heap.size w54 (w54.alloc (Obj.cells #[.slice none 0 0, .slice (some ⟨w52.heap.size, 0, none⟩) 1 1] 43)) := (Below.refl _ _).alloc (Nat.le_refl _) _
            obtain ⟨w53, hw53⟩ : ∃ W, W = w54.alloc (Obj.cells #[.slice none 0 0, .slice (some ⟨w52.heap.size, 0, none⟩) 1 1] 43) := ⟨_, rfl⟩
            rw [← hw53] at k2 hV2 ⊢
            have kb := onS k1 k2
            replace hNX := hNX.on kb
            replace hA := onS hA kb
            replace aq := cellS kb aq
            replace apn := apn.on kb
            replace s0 := cellS kb s0
            replace s2 := cellS kb s2
            rw [← hE] at hV2
            obtain ⟨zA2, hzA⟩ : ∃ z : Option Addr, z = some ⟨w54.heap.size, 0, none⟩ := ⟨_, rfl⟩
            rw [← hzA] at hV2 ⊢
            clear hV
            have hV := hV2
            clear hw53 hw54 k1 k2 kb n9 hs54 hzA hV2 s1 b1 hE
            refine wp_region_held_drew (S := fun w' => w'.cell? ⟨bx, 0, none⟩ = some (.int .i64 (fn : Int)) ∧ w'.cell? ⟨bx, 2, none⟩ = some (.int .i64 (tn : Int)) ∧ w'.cell? ⟨ab, ao + fn, none⟩ = some (.slice Aa na ca)) (by kernel_rfl) ⟨cellS (Below.refl _ _).drew s0, cellS (Below.refl _ _).drew s2, cellS (Below.refl _ _).drew aq⟩ (fun hHeld => ?_)
            obtain ⟨w54, hw⟩ : ∃ W, W = World.drew w53 := ⟨_, rfl⟩
            have kb : Below w53.heap.size w53 w54 := by rw [hw]; exact (Below.refl _ _).drew
            rw [← hw] at hHeld ⊢
            clear hw
            replace hNX := hNX.on kb
            replace hA := onS hA kb
            replace aq := cellS kb aq
            replace apn := apn.on kb
            replace s0 := cellS kb s0
            replace s2 := cellS kb s2
            replace hV := hV.on kb
            clear kb
            refine wpAnyH_take (i := 0) (v := ?_) (by simp only [List.getElem?_toArray, List.getElem?_cons_zero]; rfl) (by kernel_rfl) (by kernel_rfl) (by kernel_rfl) (by exact fun _ _ _ h => h) (Or.inl ⟨by rfl, ?_⟩) (by assumption) ?_
            rotate_left
            · (intro w hSw; (try dsimp only at hSw); go_simp); first | done | with_reducible rfl
            try simp only [Act.put, List.setIfInBounds_toArray, List.set_cons_zero, List.set_cons_succ]
            refine wpAnyH_take (i := 1) (v := ?_) (by simp only [List.getElem?_toArray, List.getElem?_cons_succ, List.getElem?_cons_zero]; rfl) (by kernel_rfl) (by kernel_rfl) (by kernel_rfl) (by exact fun _ _ _ h => h) (Or.inl ⟨by rfl, ?_⟩) (by assumption) ?_
            rotate_left
            · (intro w hSw; (try dsimp only at hSw); go_simp); first | done | with_reducible rfl
            try simp only [Act.put, List.setIfInBounds_toArray, List.set_cons_zero, List.set_cons_succ]
            refine wpAnyH_take (i := 2) (v := ?_) (by simp only [List.getElem?_toArray, List.getElem?_cons_succ, List.getElem?_cons_zero]; rfl) (by kernel_rfl) (by kernel_rfl) (by kernel_rfl) (by exact fun _ _ _ h => h) (Or.inl ⟨by rfl, ?_⟩) (by assumption) ?_
            rotate_left
            · (intro w hSw; (try dsimp only at hSw); go_simp); first | done | with_reducible rfl
            try simp only [Act.put, List.setIfInBounds_toArray, List.set_cons_zero, List.set_cons_succ]
            refine wpAnyH_take (i := 3) (v := ?_) (by simp only [List.getElem?_toArray, List.getElem?_cons_succ, List.getElem?_cons_zero]; rfl) (by kernel_rfl) (by kernel_rfl) (by kernel_rfl) (by exact fun _ _ _ h => h) (Or.inl ⟨by rfl, ?_⟩) (by assumption) ?_
            rotate_left
            · (intro w hSw; (try dsimp only at hSw); go_simp); first | done | with_reducible rfl
            try simp only [Act.put, List.setIfInBounds_toArray, List.set_cons_zero, List.set_cons_succ]
            refine wpAnyH_take (i := 4) (v := ?_) (by simp only [List.getElem?_toArray, List.getElem?_cons_succ, List.getElem?_cons_zero]; rfl) (by kernel_rfl) (by kernel_rfl) (by kernel_rfl) (by exact fun _ _ _ h => h) (Or.inl ⟨by rfl, ?_⟩) (by assumption) ?_
            rotate_left
            · (intro w hSw; (try dsimp only at hSw); go_simp); first | done | with_reducible rfl
            try simp only [Act.put, List.setIfInBounds_toArray, List.set_cons_zero, List.set_cons_succ]
            refine wpAnyH_take (i := 5) (v := ?_) (by simp only [List.getElem?_toArray, List.getElem?_cons_succ, List.getElem?_cons_zero]; rfl) (by kernel_rfl) (by kernel_rfl) (by kernel_rfl) (by exact fun _ _ _ h => h) (Or.inl ⟨by rfl, ?_⟩) (by assumption) ?_
            rotate_left
            · (intro w hSw; (try dsimp only at hSw); go_simp); first | done | with_reducible rfl
            try simp only [Act.put, List.setIfInBounds_toArray, List.set_cons_zero, List.set_cons_succ]
            refine wpAnyH_take (i := 6) (v := ?_) (by simp only [List.getElem?_toArray, List.getElem?_cons_succ, List.getElem?_cons_zero]; rfl) (by kernel_rfl) (by kernel_rfl) (by kernel_rfl) (by exact fun _ _ _ h => h) (Or.inl ⟨by rfl, ?_⟩) (by assumption) ?_
            rotate_left
            · (intro w hSw; (try dsimp only at hSw); go_simp); first | done | with_reducible rfl
            try simp only [Act.put, List.setIfInBounds_toArray, List.set_cons_zero, List.set_cons_succ]
            refine wpAnyH_take (i := 8) (v := ?_) (by simp only [List.getElem?_toArray, List.getElem?_cons_succ, List.getElem?_cons_zero]; rfl) (by kernel_rfl) (by kernel_rfl) (by kernel_rfl) (by exact fun _ _ _ h => h) (Or.inl ⟨by rfl, ?_⟩) (by assumption) ?_
            rotate_left
            · (intro w hSw; (try dsimp only at hSw); go_simp); first | done | with_reducible rfl
            try simp only [Act.put, List.setIfInBounds_toArray, List.set_cons_zero, List.set_cons_succ]
            refine wpAnyH_take (i := 9) (v := ?_) (by simp only [List.getElem?_toArray, List.getElem?_cons_succ, List.getElem?_cons_zero]; rfl) (by kernel_rfl) (by kernel_rfl) (by kernel_rfl) (by exact fun _ _ _ h => h) (Or.inl ⟨by rfl, ?_⟩) (by assumption) ?_
            rotate_left
            · (intro w hSw; (try dsimp only at hSw); go_simp); first | done | with_reducible rfl
            try simp only [Act.put, List.setIfInBounds_toArray, List.set_cons_zero, List.set_cons_succ]
            refine wpAnyH_take (i := 10) (v := ?_) (by simp only [List.getElem?_toArray, List.getElem?_cons_succ, List.getElem?_cons_zero]; rfl) (by kernel_rfl) (by kernel_rfl) (by kernel_rfl) (by exact fun _ _ _ h => h) (Or.inl ⟨by rfl, ?_⟩) (by assumption) ?_
            rotate_left
            · (intro w hSw; (try dsimp only at hSw); go_simp); first | done | with_reducible rfl
            try simp only [Act.put, List.setIfInBounds_toArray, List.set_cons_zero, List.set_cons_succ]
            refine wpAnyH_take (i := 11) (v := ?_) (by simp only [List.getElem?_toArray, List.getElem?_cons_succ, List.getElem?_cons_zero]; rfl) (by kernel_rfl) (by kernel_rfl) (by kernel_rfl) (by exact fun _ _ _ h => h) (Or.inl ⟨by rfl, ?_⟩) (by assumption) ?_
            rotate_left
            · (intro w hSw; (try dsimp only at hSw); go_simp); first | done | with_reducible rfl
            try simp only [Act.put, List.setIfInBounds_toArray, List.set_cons_zero, List.set_cons_succ]
            refine wpAnyH_take (i := 12) (v := ?_) (by simp only [List.getElem?_toArray, List.getElem?_cons_succ, List.getElem?_cons_zero]; rfl) (by kernel_rfl) (by kernel_rfl) (by kernel_rfl) (by exact fun _ _ _ h => h) (Or.inl ⟨by rfl, ?_⟩) (by assumption) ?_
            rotate_left
            · (intro w hSw; (try dsimp only at hSw); go_simp); first | done | with_reducible rfl
            try simp only [Act.put, List.setIfInBounds_toArray, List.set_cons_zero, List.set_cons_succ]
            refine wpAnyH_take (i := 13) (v := ?_) (by simp only [List.getElem?_toArray, List.getElem?_cons_succ, List.getElem?_cons_zero]; rfl) (by kernel_rfl) (by kernel_rfl) (by kernel_rfl) (by exact fun _ _ _ h => h) (Or.inl ⟨by rfl, ?_⟩) (by assumption) ?_
            rotate_left
            · (intro w hSw; (try dsimp only at hSw); go_simp); first | done | with_reducible rfl
            try simp only [Act.put, List.setIfInBounds_toArray, List.set_cons_zero, List.set_cons_succ]
            refine wpAnyH_ready (rs := [7, 14]) (by kernel_rfl) (by simp) ?_
            refine AllReadyH.cons (by simp only [List.getElem?_toArray, List.getElem?_cons_succ, List.getElem?_cons_zero]; rfl) (fun K hK => ?_) (AllReadyH.cons (by simp only [List.getElem?_toArray, List.getElem?_cons_succ, List.getElem?_cons_zero]; rfl) (fun K hK => ?_) AllReadyH.nil)
            · obtain ⟨Ab, nb, cb, bq, bqn, _, _⟩ := hNX.rd htw
              rw [← HQV.out] at bqn
              go_simp
              clear bq
              refine hK.out _ _ ⟨s0, s2, aq⟩ (fun hHeld => ?_)
              clear hK K
              try simp only [Act.put, List.setIfInBounds_toArray, List.set_cons_zero, List.set_cons_succ]
              refine wpAnyH_ready (rs := [14]) (by kernel_rfl) (by simp) ?_
              refine AllReadyH.cons (by simp only [List.getElem?_toArray, List.getElem?_cons_succ, List.getElem?_cons_zero]; rfl) (fun K hK => ?_) AllReadyH.nil
              go_simp
              go_wp2_with fail
              refine (polyMul_pol Aa zA2 na 2 ca 2 ed pv w54 apn hV hz d1).mono ?_
              rintro e w55 ⟨Am, nm, cm, rfl, mv, kb⟩
              replace hNX := hNX.on kb
              replace hA := onS hA kb
              replace aq := cellS kb aq
              replace apn := apn.on kb
              replace s0 := cellS kb s0
              replace s2 := cellS kb s2
              replace hV := hV.on kb
              replace bqn := bqn.on kb
              clear kb
              refine hK.out _ _ ⟨s0, s2, aq⟩ (fun hHeld => ?_)
              clear hK K
              try simp only [Act.put, List.setIfInBounds_toArray, List.set_cons_zero, List.set_cons_succ]
              refine wpAnyH_ready (rs := [15]) (by kernel_rfl) (by simp) ?_
              refine AllReadyH.cons (by simp only [List.getElem?_toArray, List.getElem?_cons_succ, List.getElem?_cons_zero]; rfl) (fun K hK => ?_) AllReadyH.nil
              go_simp
              go_wp2_with fail
              refine (polyAdd_pol Ab Am nb nm cb cm qv (shiftP ed pv) w55 bqn mv d2 (fun t => shiftP_dl d1.out t) d4).mono ?_
              rintro e w56 ⟨As, ns, cs, rfl, tv, kb⟩
              replace hNX := hNX.on kb
              replace hA := onS hA kb
              replace aq := cellS kb aq
              replace apn := apn.on kb
              replace s0 := cellS kb s0
              replace s2 := cellS kb s2
              replace hV := hV.on kb
              replace bqn := bqn.on kb
              replace mv := mv.on kb
              clear kb
              refine hK.out _ _ ⟨s0, s2, aq⟩ (fun hHeld => ?_)
              clear hK K
              try simp only [Act.put, List.setIfInBounds_toArray, List.set_cons_zero, List.set_cons_succ]
              refine wpAnyH_take (i := 16) (v := ?_) (by simp only [List.getElem?_toArray, List.getElem?_cons_succ, List.getElem?_cons_zero]; rfl) (by kernel_rfl) (by kernel_rfl) (by kernel_rfl) (by exact fun _ _ _ h => h) (Or.inl ⟨by rfl, ?_⟩) (by assumption) ?_
              rotate_left
              · (intro w hSw; (try dsimp only at hSw); go_simp); first | done | with_reducible rfl
              try simp only [Act.put, List.setIfInBounds_toArray, List.set_cons_zero, List.set_cons_succ]
              refine wpAnyH_ready (rs := [17]) (by kernel_rfl) (by simp) ?_
              refine AllReadyH.cons (by simp only [List.getElem?_toArray, List.getElem?_cons_succ, List.getElem?_cons_zero]; rfl) (fun K hK => ?_) AllReadyH.nil
              obtain ⟨_, _, _, q0, _, z0, _⟩ := hNX.rd htw
              go_simp
              replace s0 := cell_setCell_far (p := ⟨g, tn, none⟩) (u := .slice As ns cs) s0 (by simpa using HBG.out)
              replace s2 := cell_setCell_far (p := ⟨g, tn, none⟩) (u := .slice As ns cs) s2 (by simpa using HBG.out)
              replace aq := cell_setCell_far (p := ⟨g, tn, none⟩) (u := .slice As ns cs) aq (by simpa using HABG.out)
              have hN2 := hNX.set htw tv
              have hA2 := hA.setCell (p := ⟨g, 0 + tn, none⟩) (by show wa.heap.size ≤ g; rw [HG.out]; exact Nat.le_refl _) (.slice As ns cs)
              rw [Nat.zero_add] at hN2 hA2
              clear q0 z0
              refine hK.out _ _ ⟨s0, s2, aq⟩ (fun hHeld => ?_)
              clear hK K
              try simp only [Act.put, List.setIfInBounds_toArray, List.set_cons_zero, List.set_cons_succ]
              refine wpAnyH_done (by kernel_rfl) ?_ _
              clear hHeld
              have HN3 := hid (hN2.congr (y' := T.pwE (T.pw i) i (j + 1)) fun u _ t => HPUT.out u t)
              have HA3 := hid hA2
              clear hN2 hNX hA2 hA
              go_wp2
              go_roundg (gk - 1)
              case measure => omega
              case rel => exact ⟨j + 1, by go_num, by omega, by omega, HN3.out, HA3.out⟩
            · go_simp
              go_wp2_with fail
              refine (polyMul_pol Aa zA2 na 2 ca 2 ed pv w54 apn hV hz d1).mono ?_
              rintro e w55 ⟨Am, nm, cm, rfl, mv, kb⟩
              replace hNX := hNX.on kb
              replace hA := onS hA kb
              replace aq := cellS kb aq
              replace apn := apn.on kb
              replace s0 := cellS kb s0
              replace s2 := cellS kb s2
              replace hV := hV.on kb
              clear kb
              refine hK.out _ _ ⟨s0, s2, aq⟩ (fun hHeld => ?_)
              clear hK K
              try simp only [Act.put, List.setIfInBounds_toArray, List.set_cons_zero, List.set_cons_succ]
              refine wpAnyH_ready (rs := [7]) (by kernel_rfl) (by simp) ?_
              refine AllReadyH.cons (by simp only [List.getElem?_toArray, List.getElem?_cons_succ, List.getElem?_cons_zero]; rfl) (fun K hK => ?_) AllReadyH.nil
              obtain ⟨Ab, nb, cb, bq, bqn, _, _⟩ := hNX.rd htw
              rw [← HQV.out] at bqn
              go_simp
              clear bq
              refine hK.out _ _ ⟨s0, s2, aq⟩ (fun hHeld => ?_)
              clear hK K
              try simp only [Act.put, List.setIfInBounds_toArray, List.set_cons_zero, List.set_cons_succ]
              refine wpAnyH_ready (rs := [15]) (by kernel_rfl) (by simp) ?_
              refine AllReadyH.cons (by simp only [List.getElem?_toArray, List.getElem?_cons_succ, List.getElem?_cons_zero]; rfl) (fun K hK => ?_) AllReadyH.nil
              go_simp
              go_wp2_with fail
              refine (polyAdd_pol Ab Am nb nm cb cm qv (shiftP ed pv) w55 bqn mv d2 (fun t => shiftP_dl d1.out t) d4).mono ?_
              rintro e w56 ⟨As, ns, cs, rfl, tv, kb⟩
              replace hNX := hNX.on kb
              replace hA := onS hA kb
              replace aq := cellS kb aq
              replace apn := apn.on kb
              replace s0 := cellS kb s0
              replace s2 := cellS kb s2
              replace hV := hV.on kb
              replace mv := mv.on kb
              replace bqn := bqn.on kb
              clear kb
              refine hK.out _ _ ⟨s0, s2, aq⟩ (fun hHeld => ?_)
              clear hK K
              try simp only [Act.put, List.setIfInBounds_toArray, List.set_cons_zero, List.set_cons_succ]
              refine wpAnyH_take (i := 16) (v := ?_) (by simp only [List.getElem?_toArray, List.getElem?_cons_succ, List.getElem?_cons_zero]; rfl) (by kernel_rfl) (by kernel_rfl) (by kernel_rfl) (by exact fun _ _ _ h => h) (Or.inl ⟨by rfl, ?_⟩) (by assumption) ?_
              rotate_left
              · (intro w hSw; (try dsimp only at hSw); go_simp); first | done | with_reducible rfl
              try simp only [Act.put, List.setIfInBounds_toArray, List.set_cons_zero, List.set_cons_succ]
              refine wpAnyH_ready (rs := [17]) (by kernel_rfl) (by simp) ?_
              refine AllReadyH.cons (by simp only [List.getElem?_toArray, List.getElem?_cons_succ, List.getElem?_cons_zero]; rfl) (fun K hK => ?_) AllReadyH.nil
              obtain ⟨_, _, _, q0, _, z0, _⟩ := hNX.rd htw
              go_simp
              replace s0 := cell_setCell_far (p := ⟨g, tn, none⟩) (u := .slice As ns cs) s0 (by simpa using HBG.out)
              replace s2 := cell_setCell_far (p := ⟨g, tn, none⟩) (u := .slice As ns cs) s2 (by simpa using HBG.out)
              replace aq := cell_setCell_far (p := ⟨g, tn, none⟩) (u := .slice As ns cs) aq (by simpa using HABG.out)
              have hN2 := hNX.set htw tv
              have hA2 := hA.setCell (p := ⟨g, 0 + tn, none⟩) (by show wa.heap.size ≤ g; rw [HG.out]; exact Nat.le_refl _) (.slice As ns cs)
              rw [Nat.zero_add] at hN2 hA2
              clear q0 z0
              refine hK.out _ _ ⟨s0, s2, aq⟩ (fun hHeld => ?_)
              clear hK K
              try simp only [Act.put, List.setIfInBounds_toArray, List.set_cons_zero, List.set_cons_succ]
              refine wpAnyH_done (by kernel_rfl) ?_ _
              clear hHeld
              have HN3 := hid (hN2.congr (y' := T.pwE (T.pw i) i (j + 1)) fun u _ t => HPUT.out u t)
              have HA3 := hid hA2
              clear hN2 hNX hA2 hA
              go_wp2
              go_roundg (gk - 1)
              case measure => omega
              case rel => exact ⟨j + 1, by go_num, by omega, by omega, HN3.out, HA3.out⟩
        · have hltj' : ¬ (j : Int) < (T.el i : Int) := by omega
          have hje : j = T.el i := by omega
          have hNE := hNX.monoB (Nat.zero_le _)
          rw [hje] at hNE
          have HNE : Hid (PolOwn wr 0 (.slice (some ⟨g, 0, none⟩) n1 n1) (T.W (i + 1)).toNat (T.pw (i + 1))) := by
            show PolOwn _ _ _ _ _
            rw [show (T.W (i + 1)).toNat = n1 by have := HN1.out; omega]
            exact hNE
          have hlN : w.heap.size + 1 < wr.heap.size := Nat.lt_of_lt_of_le HLA.out hA.size
          have HB := hid hB
          clear hNX hNE hje hB
          go_wp2
          go_roundg (gI - 1)
          case measure => omega
          case rel => exact ⟨i + 1, by go_num, by omega, by omega, HNE, HB.out, hlN⟩
    · have hlt' : ¬ (i : Int) < (T.n : Int) := by omega
      obtain rfl : i = T.n := by omega
      have hwn := HP.out.wn
      have h1n : (T.W T.n).toNat = 1 := by omega
      rw [h1n] at HN ⊢
      obtain ⟨nb, no, nd, V0, hF0, _, hbl0, r0, hV0, _⟩ := HN.out.at (i := 0) (by omega)
      injection hF0 with hF0 _ hF1
      subst hF0 hF1
      obtain ⟨VA, vn, vc, hVs⟩ := hV0.isSlice
      subst hVs
      rw [Nat.add_zero] at r0
      have hvn : vn ≤ T.n + 1 := hV0.short fun t ht => Trel.pw_out T.n 0 t (by omega)
      obtain ⟨hVT, _, hVZ, _, _⟩ := hV0.tab
      have HVT := hid hVT
      have HVZ := hid hVZ
      obtain ⟨m, hm⟩ : ∃ m, m = T.n + 1 := ⟨_, rfl⟩
      have HM := hid hm
      have hm65 : m ≤ 65 := by omega
      have hmi : (T.n : Int) + 1 = (m : Int) := by omega
      rw [← hm] at hvn
      have hmk := fun W => run_makeI (P := Try.prog) 39 43 _ 24 Try.underlying39 Try.infoNat rfl (m : Int) (by omega) (by omega) (by omega) W
      simp only [Int.toNat_natCast] at hmk
      have hO := natOwn_made (w := wa) (base := wa.heap.size) (n := m) (Nat.le_refl _) (by unfold maxLen; omega)
      have kb : Below wa.heap.size wa (wa.alloc (Obj.cells (madeCells #[Value.slice none 0 0] m) 43)) := (Below.refl _ _).alloc (Nat.le_refl _) _
      have HR0 := hid r0
      have HW := hid hW
      obtain ⟨x, hx⟩ : ∃ x, x = T.pw T.n 0 := ⟨_, rfl⟩
      have HX := hid hx
      rw [← hx] at HVT HVZ
      clear hm hwn hV0 hVT hVZ hx
      go_upto_region 16 with fail
      obtain ⟨w6, hw6⟩ : ∃ W, W = wa.alloc (Obj.cells (madeCells #[Value.slice none 0 0] m) 43) := ⟨_, rfl⟩
      obtain ⟨g, hg⟩ : ∃ b, b = wa.heap.size := ⟨_, rfl⟩
      have HG := hid hg
      rw [← hw6] at hO kb ⊢
      rw [← hg]
      have hO0 : NatOwn w6 wa.heap.size (.slice (some ⟨g, 0, none⟩) m m) m (fun q => if q < 0 then x q else 0) := by
        rw [hg]
        exact hO.congr fun i _ => (if_neg (by omega)).symm
      replace r0 := cellS kb r0
      clear hw6 hO hmk hg p0 p1 hW hB
      go_wp2
      go_loopg [10] vn (fun gg kv wx => ∃ k : Nat, kv = .int .i64 (k : Nat) ∧ k ≤ vn ∧ vn ≤ k + gg ∧ NatOwn wx wa.heap.size (.slice (some ⟨g, 0, none⟩) m m) m (fun q => if q < k then x q else 0) ∧ Below wa.heap.size wa wx)
      case atStart => exact ⟨0, rfl, by omega, by omega, hO0, kb⟩
      case round =>
        clear r0 hO0 kb
        obtain ⟨k, rfl, hk, hkg, hO, hB⟩ := hrel
        have hk0 : (0 : Int) ≤ (k : Int) := by omega
        have r0 := cellS hB HR0.out
        by_cases hltk : k < vn
        · have hltk' : (k : Int) < (vn : Int) := by omega
          have hkm : k < m := by omega
          have hkm' : (k : Int) < (m : Int) := by omega
          obtain ⟨tb, to', A2, c2, rfl, htb, x0, x1, x2, x3⟩ := natTab_at (HVT.out.on hB) hltk
          obtain ⟨y, hy⟩ : ∃ y, y = x k := ⟨_, rfl⟩
          rw [← hy] at x0 x1 x3
          have HY := hid hy
          obtain ⟨A9, d9, q0, _, _, _, z0⟩ := hO.rd hkm
          have hO2 := hO.set hkm x3 x1 x2
          have hB2 := hB.setCell (p := ⟨g, 0 + k, none⟩) (by show wa.heap.size ≤ g; rw [HG.out]; exact Nat.le_refl _) (.slice A2 (dl y) c2)
          rw [Nat.zero_add] at hO2 hB2 q0 z0
          have hO3 := hid (hO2.congr (y' := fun q => if q < k + 1 then x q else 0) fun q _ => by
            show updN (fun q => if q < k then x q else 0) k y q = if q < k + 1 then x q else 0
            unfold updN
            by_cases e : q = k
            · subst e; rw [if_pos rfl, if_pos (Nat.lt_succ_self _), HY.out]
            · rw [if_neg e]
              show (if q < k then x q else 0) = _
              by_cases e2 : q < k
              · rw [if_pos e2, if_pos (by omega)]
              · rw [if_neg e2, if_neg (by omega)])
          have HB2 := hid hB2
          clear hO hB hO2 hB2 x3 hy
          go_wp2
          go_roundg (gk - 1)
          case measure => omega
          case rel => exact ⟨k + 1, by go_num, by omega, by omega, hO3.out, HB2.out⟩
        · have hltk' : ¬ (k : Int) < (vn : Int) := by omega
          obtain rfl : k = vn := by omega
          have HOF := hid (hO.congr (y' := x) fun q _ => by
            show (if q < k then x q else 0) = x q
            by_cases e : q < k
            · rw [if_pos e]
            · rw [if_neg e]; exact (HVZ.out q (by omega)).symm)
          have HWF := hid (onS HW.out hB)
          clear hO hB
          go_wp2
          go_ret
          exact ⟨HWF.out, _, _, by rw [← HM.out]; rfl, by rw [← HM.out, ← HX.out]; exact HOF.out.monoB HW.out.size⟩
end Go.Proofs.Ytnocbkhnmdmfhaa
