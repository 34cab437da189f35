/- FlowRoutes returns true. -/
import Derived.Test.YthdeldaeghhfgaaRoutes
import Derived.Test.YthdeldaeghhfgaaIsRoute
import Derived.Test.YthdeldaeghhfgaaFew
import Derived.Test.YthdeldaeghhfgaaRawOpen
import Derived.StillTailTactics
namespace Go.Proofs.Ythdeldaeghhfgaa
open Go.RowKit

theorem raw_cap {H : Type} {enc : TypeId × Value → H} {w : World} {base : Nat} {spare : Nat → Bool} {held : Bool} {V s t val : Int} {A F S : Option Addr} {n c m d ms ds : Nat} {y z : Value}
    (h : Sees enc Try.prog w base spare held 41 [.int .i64 V, .slice A n c, .int .i64 s, .int .i64 t, .int .i64 val, .slice F m d, .slice S ms ds, y, z]) : m ≤ d := by
  have g3 := sees_at Try.underlying41 h 3 39 4 3 ⟨_, rfl, rfl, rfl⟩ cells_flow
  obtain ⟨val', F', m', d', f, S', ms', ds', sd, e3, ⟨_, ⟨w4, _⟩, _⟩, _⟩ := sees_flow g3
  simp at e3
  obtain ⟨_, ⟨_, e4, e5⟩, _⟩ := e3
  omega
theorem RTab.rcells {w : World} {base K : Nat} {T : Option Addr} {cc : Nat} {RA : Nat → Nat → Nat} {RL : Nat → Nat} {AM : Nat → Int} (h : RTab w base (.slice T K cc) K RA RL AM) {k : Nat} (hk : k < K) :
    ∃ tb to_ A C, T = some ⟨tb, to_, none⟩ ∧ w.cell? ⟨tb, to_ + k * 2, none⟩ = some (.slice A (RL k) C) ∧ w.cell? ⟨tb, to_ + k * 2 + 1, none⟩ = some (.int .i64 (AM k)) ∧ Ints w w.heap.size A (RL k) (fun j => (RA k j : Nat)) := by
  obtain ⟨A, C, h1, h2⟩ := h
  obtain ⟨g, o, cap, e, hb, hg, _, _, hc⟩ := h1.form (by omega)
  injection e with e1 _ e2
  exact ⟨g, o, A k, C k, e1, hc k hk 0 (by omega), hc k hk 1 (by omega), (h2 k hk).rd rfl⟩

theorem vAt_le {val : Int} {AM : Nat → Int} {PT : Nat → Bool} {k : Nat} : ∀ K, k ≤ K → (∀ i, i < K → 0 ≤ AM i) → vAt val AM PT K ≤ vAt val AM PT k := by
  intro K
  induction K with
  | zero =>
    intro h _
    obtain rfl : k = 0 := by omega
    exact Int.le_refl _
  | succ K ih =>
    intro h h2
    by_cases e : k = K + 1
    · subst e; exact Int.le_refl _
    · have h3 := ih (by omega) fun i hi => h2 i (by omega)
      have h4 := h2 K (by omega)
      show (if PT K then vAt val AM PT K - AM K else vAt val AM PT K) ≤ _
      split <;> omega
set_option maxRecDepth 100000 in
set_option maxHeartbeats 16000000 in
theorem flowRoutes_any (N : Net) (A F S : Option Addr) (c m d ms ds : Nat) (s t val : Int) (f : Nat → Int) (sd : Nat → Bool) (y z : Value) (w : World) (h : N.Reads w w.heap.size A) (hf : Ints w w.heap.size F m f) (hs : Bools w w.heap.size S ms sd) (hmd : m ≤ d) :
    Calls Try.prog 11 #[.agg #[.int .i64 N.V, .slice A N.n c, .int .i64 s, .int .i64 t, .int .i64 val, .slice F m d, .slice S ms ds, y, z]] w fun e w' => e = .returned (.bool true) ∧ Below w.heap.size w w' := by
  obtain ⟨i0, qi0, qz0, qz1, qz2⟩ := info_parts Try.infoInt
  obtain ⟨RB, hRB⟩ : ∃ o, o = (Obj.cells #[.int .i64 N.V, .slice A N.n c, .int .i64 s, .int .i64 t, .int .i64 val, .slice F m d, .slice S ms ds, y, z] 41) := ⟨_, rfl⟩
  have hB0 : Below (w.heap.size + 1) (w.alloc RB) (w.alloc RB) := Below.refl _ _
  have HS : Hid (∀ w', Below (w.heap.size + 1) (w.alloc RB) w' → (w'.cell? ⟨w.heap.size, 0, none⟩ = some (.int .i64 N.V) ∧ w'.cell? ⟨w.heap.size, 1, none⟩ = some (.slice A N.n c) ∧ w'.cell? ⟨w.heap.size, 2, none⟩ = some (.int .i64 s) ∧ w'.cell? ⟨w.heap.size, 3, none⟩ = some (.int .i64 t) ∧ w'.cell? ⟨w.heap.size, 4, none⟩ = some (.int .i64 val) ∧ w'.cell? ⟨w.heap.size, 5, none⟩ = some (.slice F m d) ∧ w'.cell? ⟨w.heap.size, 6, none⟩ = some (.slice S ms ds)) ∧ Below w.heap.size w w') := fun w' hB => by
    have hB' := box_below hB
    subst hRB
    exact ⟨⟨box_cell hB 0 rfl, box_cell hB 1 rfl, box_cell hB 2 rfl, box_cell hB 3 rfl, box_cell hB 4 rfl, box_cell hB 5 rfl, box_cell hB 6 rfl⟩, hB'⟩
  go_enter Try.func11, Try.ntmps11
  go_wp2_with fail
  rw [← hRB]
  refine (few_any N A c _ (h.on (box_below hB0))).mono ?_
  rintro e w1 ⟨⟨b, hbb, rfl⟩, hb⟩
  have hB1 := box_on hB0 hb
  clear hb hB0 hbb hRB
  obtain ⟨⟨p0, p1, p2, p3, p4, p5, p6⟩, hW1⟩ := HS.out _ hB1
  cases b
  · go_wp2_with fail
    refine (alive_any _).mono ?_
    rintro e w2 ⟨rfl, hb⟩
    have hB2 := box_below (box_on hB1 hb)
    go_wp2
    go_ret
    exact ⟨rfl, hB2⟩
  · go_wp2_with fail
    refine (routes_any N A F S c m d ms ds s t val f sd w1 (h.on hW1) (hf.on hW1) (hs.on hW1) hmd).mono ?_
    rintro e w2 ⟨hb, x, hx, hpost⟩
    have hB2 := box_on hB1 hb
    clear hb p0 p1 p2 p3 p4 p5 p6 hB1 hW1
    obtain ⟨⟨p0, p1, p2, p3, p4, p5, p6⟩, hW2⟩ := HS.out _ hB2
    rcases hpost with ⟨hx0, rfl⟩ | ⟨rfl, T, K, cc, base, RA, RL, AM, PT, rfl, hKc, hcm, hRT, hR, hg0, hv0, hKn⟩
    · go_wp2_with fail
      refine (accept_any N A F S c m d ms ds s t val f sd w2 (h.on hW2) (hf.on hW2) (hs.on hW2)).mono ?_
      rintro e w3 ⟨⟨x', hx', rfl⟩, hb⟩
      obtain rfl : x = x' := hx.same hx'
      have hB3 := box_on hB2 hb
      have hxx : (x != x) = false := by simp
      have hx1 : (x != 0) = true := by simpa using hx0
      clear hx hx' hb hx0
      go_wp2_with fail
      refine (alive_any _).mono ?_
      rintro e w4 ⟨rfl, hb⟩
      have hB4 := box_below (box_on hB3 hb)
      go_wp2
      go_ret
      exact ⟨rfl, hB4⟩
    · go_wp2_with fail
      refine (accept_any N A F S c m d ms ds s t val f sd w2 (h.on hW2) (hf.on hW2) (hs.on hW2)).mono ?_
      rintro e w3 ⟨⟨x', hx', rfl⟩, hb⟩
      obtain rfl : 0 = x' := hx.same hx'
      obtain ⟨hE, hC⟩ := hx.zero.1 rfl
      have HEN := hid (ends_of hE)
      have HC := hid hC
      obtain rfl : N.n = m := hC.1.1.symm
      have hB3 := box_on hB2 hb
      have RT3 := hRT.on hb
      clear hx hx' hb hE hC hRT p0 p1 p2 p3 p4 p5 p6 hB2 hW2
      go_wp2_with fail
      refine (alive_any _).mono ?_
      rintro e w4 ⟨rfl, hb⟩
      have hB4 := box_on hB3 hb
      have RT4 := RT3.on hb
      clear hb hB3 RT3
      obtain ⟨⟨p0, p1, p2, p3, p4, p5, p6⟩, hW4⟩ := HS.out _ hB4
      have hz4 : w.heap.size < w4.heap.size := box_lt hB4
      have hn := HEN.out.good.n2
      have hv2 := HEN.out.good.v2
      have hKn' : ¬ (K : Int) > (N.n : Int) := by omega
      have HR := hid hR
      have HG0 := hid hg0
      have HV0 := hid hv0
      have HRT := hid RT4
      have HB4 := hid hB4
      have hf4 := hf.on hW4
      clear hR hg0 hv0
      go_upto_region 11 with fail
      go_cut [6] (fun v6 wx => ∃ A6 c6, v6 = .slice A6 N.n c6 ∧ Own wx w4.heap.size 3 1 (.slice A6 N.n c6) N.n (fun i _ => .int .i64 (f i)) ∧ Below w4.heap.size w4 wx)
      case first =>
        rcases Nat.eq_zero_or_pos N.n with h0 | h0
        · have H0 := hid h0
          have hF0 : (Value.slice F N.n d) = .slice F 0 d := by rw [h0]
          rw [hF0] at p5
          clear h0 hF0
          go_wp2_with (first | (at_builtin; (refine wpList_append_copy_none rfl (.tmp 59) (.tmp 62) _ rfl 3 i0 Try.underlying33 qi0 w4.heap.size 0 rfl F d rfl ?_)))
          go_meet
          exact ⟨_, 0, by rw [H0.out], by rw [H0.out]; exact .inr ⟨w4.heap.size, 0, 0, #[], rfl, Nat.le_refl _, heap_new_at rfl, Nat.le_refl _, by unfold maxLen; omega, by simp, fun i hi => absurd hi (by omega)⟩, (Below.refl _ _).alloc (Nat.le_refl _) _⟩
        · have n3 : Hid (N.n ≤ maxLen) := by show _ ≤ _; unfold maxLen; omega
          have n4 : Hid (N.n * 8 ≤ 140737488355328) := by show _ ≤ _; omega
          have NR : Hid (∀ o1, Rd (w4.alloc o1) (w4.alloc o1).heap.size F N.n 1 (fun i _ => .int .i64 (f i))) := fun o1 => (Rd.alloc hf4 (Nat.le_refl _) o1).mono (by simp)
          go_wp2_with (first | (at_builtin; (refine wpList_append_copy_some rfl (.tmp 59) (.tmp 62) _ rfl 3 i0 _ 1 8 Try.underlying33 qi0 qz0 qz1 qz2 rfl (by omega) _ rfl F N.n d (fun i _ => .int .i64 (f i)) rfl (NR.out _) h0 (fun _ _ _ _ => rfl) n3.out n4.out ?_); intro cap cur k1 k2 k3 k4))
          have hO := Own.new (w := w4.alloc (Obj.cells #[] 3)) (base := w4.heap.size) (e := 3) (by simp) k1 k2 k3 k4
          simp only [World.size_alloc] at hO
          go_meet
          exact ⟨_, _, rfl, hO.drew, (((Below.refl _ _).alloc (Nat.le_refl _) _).alloc (by simp) _).drew⟩
      case rest =>
        obtain ⟨A6, c6, rfl, hL0, hb0⟩ := hcut
        rename World => w5
        have hval : 0 ≤ val ∧ val ≤ 1125899906842624 := by
          have h1 := (Rest.start HEN.out HC.out).cross HEN.out HC.out.2.1.2.1 HC.out.2.1.2.2
          have h2 := crossTo_bd (N := N) (g := f) (sd := sd) (B := 1099511627776) (by omega) N.n fun i hi => by
            have h3 := HC.out.1.2.1 i hi
            have h4 := HEN.out.good.arc i hi
            exact ⟨h3.1, by omega⟩
          omega
        have HVB : Hid (∀ k, k ≤ K → 0 ≤ vAt val AM PT k ∧ vAt val AM PT k ≤ val) := fun k hk => by
          have h1 := vAt_le (val := val) (AM := AM) (PT := PT) K hk fun i hi => by have := (HR.out i hi).2.1; omega
          have h2 := vAt_le (val := val) (AM := AM) (PT := PT) (k := 0) k (by omega) fun i hi => by have := (HR.out i (by omega)).2.1; omega
          rw [HV0.out] at h1
          exact ⟨h1, h2⟩
        have HVAL := hid hval
        clear RT4 p0 p1 p2 p3 p4 p5 p6 hB4 hf4 hf hs hval
        go_wp2
        go_loopg [7, 8] K (fun gg vv iv wx => ∃ k : Nat, iv = .int .i64 (k : Nat) ∧ k ≤ K ∧ K ≤ k + gg ∧ vv = .int .i64 (val - vAt val AM PT k) ∧ Own wx w4.heap.size 3 1 (.slice A6 N.n c6) N.n (fun i _ => .int .i64 (gAt f RA RL AM k i)) ∧ Below w4.heap.size w4 wx)
        case atStart => exact ⟨0, rfl, by omega, by omega, by show _ = Value.int IntKind.i64 (val - val); rw [Int.sub_self], hL0, hb0⟩
        case round =>
          obtain ⟨gK, hgK⟩ : ∃ g, g = gk := ⟨_, rfl⟩
          subst hgK
          obtain ⟨k, rfl, hk, hkg, rfl, hL, hb⟩ := hrel
          clear hL0 hb0
          have hk0 : (0 : Int) ≤ (k : Int) := by omega
          have hBx := HB4.out.trans (hb.mono (by omega))
          obtain ⟨⟨p0, p1, p2, p3, p4, p5, p6⟩, hW⟩ := HS.out _ hBx
          obtain ⟨vk, hvk⟩ : ∃ v, v = val - vAt val AM PT k := ⟨_, rfl⟩
          rw [← hvk]
          have HVK := hid hvk
          obtain ⟨gf, hgf⟩ : ∃ g, g = gAt f RA RL AM k := ⟨_, rfl⟩
          rw [← hgf] at hL
          have HGF := hid hgf
          clear hvk hgf
          by_cases hlt : k < K
          · have hlt' : (k : Int) < (K : Int) := by omega
            obtain ⟨hok, ham, hle⟩ := HR.out k hlt
            rw [← HGF.out] at hle
            have HOK := hid hok
            have HLE := hid hle
            have hrlV := hok.few HEN.out.good
            have hvb1 := HVB.out k hk
            have hvb2 := HVB.out (k + 1) (by omega)
            have hvs : vAt val AM PT (k + 1) = if PT k then vAt val AM PT k - AM k else vAt val AM PT k := rfl
            have HVS := hid hvs
            have hrg : ∀ j, j < RL k → RA k j < N.n ∧ AM k ≤ 1099511627776 := fun j hj => by
              have h0 := hok.2.1 j hj
              have h1 := hle j hj
              refine ⟨h0, ?_⟩
              have h2 : gAt f RA RL AM k (RA k j) ≤ f (RA k j) := by
                have : ∀ q, q ≤ K → ∀ i, gAt f RA RL AM q i ≤ f i := by
                  intro q
                  induction q with
                  | zero => exact fun _ i => Int.le_refl _
                  | succ q ih =>
                    intro hq i
                    obtain ⟨o1, o2, _⟩ := HR.out q (by omega)
                    exact Int.le_trans (subR_le o1.apart (by omega) i) (ih (by omega) i)
                exact this k hk _
              rw [← HGF.out] at h2
              have h3 := (HC.out.1.2.1 _ h0).2
              have h4 := (HEN.out.good.arc _ h0).2.2.2.2.2
              omega
            have HRG := hid hrg
            have HGU : Hid (∀ i, i < N.n → gf i ≤ 1099511627776) := fun i hi => by
              have : ∀ q, q ≤ K → ∀ i, gAt f RA RL AM q i ≤ f i := by
                intro q
                induction q with
                | zero => exact fun _ i => Int.le_refl _
                | succ q ih =>
                  intro hq i
                  obtain ⟨o1, o2, _⟩ := HR.out q (by omega)
                  exact Int.le_trans (subR_le o1.apart (by omega) i) (ih (by omega) i)
              have h2 := this k hk i
              rw [← HGF.out] at h2
              have h3 := (HC.out.1.2.1 i hi).2
              have h4 := (HEN.out.good.arc i hi).2.2.2.2.2
              omega
            obtain ⟨tb, to_, Ak, Ck, rfl, x0, x1, hi⟩ := (HRT.out.on hb).rcells hlt
            obtain ⟨am, hame⟩ : ∃ v, v = AM k := ⟨_, rfl⟩
            obtain ⟨rl, hrle⟩ : ∃ v, v = RL k := ⟨_, rfl⟩
            obtain ⟨ra, hrae⟩ : ∃ v, v = RA k := ⟨_, rfl⟩
            obtain ⟨pt, hpte⟩ : ∃ v, v = PT k := ⟨_, rfl⟩
            rw [← hame] at x1 ham
            rw [← hrle] at x0 hrlV
            have HAM := hid hame
            have HRL := hid hrle
            have HRA := hid hrae
            have HPT := hid hpte
            have hok2 : RouteOk N s t ra rl pt := by rw [hrle, hrae, hpte]; exact hok
            have hi2 : Ints wr wr.heap.size Ak rl (fun j => (ra j : Nat)) := by rw [hrle, hrae]; exact hi
            have HOK2 := hid hok2
            clear hok hle hrg hvs hame hrle hrae hpte hi p4 p5 p6
            go_upto_region 16 with fail
            rename World => w39
            refine wp_region_held_drew (S := fun w' => w'.cell? ⟨w.heap.size, 0, none⟩ = some (.int .i64 N.V) ∧ w'.cell? ⟨w.heap.size, 1, none⟩ = some (.slice A N.n c) ∧ w'.cell? ⟨w.heap.size, 2, none⟩ = some (.int .i64 s) ∧ w'.cell? ⟨w.heap.size, 3, none⟩ = some (.int .i64 t) ∧ w'.cell? ⟨tb, to_ + k * 2, none⟩ = some (.slice Ak rl Ck) ∧ w'.cell? ⟨tb, to_ + k * 2 + 1, none⟩ = some (.int .i64 am)) (by kernel_rfl) ⟨cellS (Below.refl _ _).drew p0, cellS (Below.refl _ _).drew p1, cellS (Below.refl _ _).drew p2, cellS (Below.refl _ _).drew p3, cellS (Below.refl _ _).drew x0, cellS (Below.refl _ _).drew x1⟩ (fun hHeld => ?_)
            obtain ⟨w40, hw⟩ : ∃ W, W = World.drew w39 := ⟨_, rfl⟩
            have kb : Below w39.heap.size w39 w40 := by rw [hw]; exact (Below.refl _ _).drew
            rw [← hw] at hHeld ⊢
            clear hw
            replace hL := hL.on kb
            replace hb := onS hb kb
            replace hW := onS hW kb
            replace hi2 := hi2.on kb
            replace p0 := cellS kb p0
            replace p1 := cellS kb p1
            replace p2 := cellS kb p2
            replace p3 := cellS kb p3
            replace x0 := cellS kb x0
            replace x1 := cellS kb x1
            clear kb
            refine wpAnyH_take (i := 0) (v := ?_) (by simp only [List.getElem?_toArray, List.getElem?_cons_zero]; rfl) (by kernel_rfl) (by kernel_rfl) (by kernel_rfl) (by exact fun _ _ _ h => h) (Or.inl ⟨by rfl, ?_⟩) (by assumption) ?_
            rotate_left
            · (intro w hSw; (try dsimp only at hSw); go_simp); first | done | with_reducible rfl
            try simp only [Act.put, List.setIfInBounds_toArray, List.set_cons_zero, List.set_cons_succ]
            refine wpAnyH_take (i := 1) (v := ?_) (by simp only [List.getElem?_toArray, List.getElem?_cons_succ, List.getElem?_cons_zero]; rfl) (by kernel_rfl) (by kernel_rfl) (by kernel_rfl) (by exact fun _ _ _ h => h) (Or.inl ⟨by rfl, ?_⟩) (by assumption) ?_
            rotate_left
            · (intro w hSw; (try dsimp only at hSw); go_simp); first | done | with_reducible rfl
            try simp only [Act.put, List.setIfInBounds_toArray, List.set_cons_zero, List.set_cons_succ]
            refine wpAnyH_take (i := 2) (v := ?_) (by simp only [List.getElem?_toArray, List.getElem?_cons_succ, List.getElem?_cons_zero]; rfl) (by kernel_rfl) (by kernel_rfl) (by kernel_rfl) (by exact fun _ _ _ h => h) (Or.inl ⟨by rfl, ?_⟩) (by assumption) ?_
            rotate_left
            · (intro w hSw; (try dsimp only at hSw); go_simp); first | done | with_reducible rfl
            try simp only [Act.put, List.setIfInBounds_toArray, List.set_cons_zero, List.set_cons_succ]
            refine wpAnyH_take (i := 3) (v := ?_) (by simp only [List.getElem?_toArray, List.getElem?_cons_succ, List.getElem?_cons_zero]; rfl) (by kernel_rfl) (by kernel_rfl) (by kernel_rfl) (by exact fun _ _ _ h => h) (Or.inl ⟨by rfl, ?_⟩) (by assumption) ?_
            rotate_left
            · (intro w hSw; (try dsimp only at hSw); go_simp); first | done | with_reducible rfl
            try simp only [Act.put, List.setIfInBounds_toArray, List.set_cons_zero, List.set_cons_succ]
            refine wpAnyH_take (i := 4) (v := ?_) (by simp only [List.getElem?_toArray, List.getElem?_cons_succ, List.getElem?_cons_zero]; rfl) (by kernel_rfl) (by kernel_rfl) (by kernel_rfl) (by exact fun _ _ _ h => h) (Or.inl ⟨by rfl, ?_⟩) (by assumption) ?_
            rotate_left
            · (intro w hSw; (try dsimp only at hSw); go_simp); first | done | with_reducible rfl
            try simp only [Act.put, List.setIfInBounds_toArray, List.set_cons_zero, List.set_cons_succ]
            refine wpAnyH_take (i := 5) (v := ?_) (by simp only [List.getElem?_toArray, List.getElem?_cons_succ, List.getElem?_cons_zero]; rfl) (by kernel_rfl) (by kernel_rfl) (by kernel_rfl) (by exact fun _ _ _ h => h) (Or.inl ⟨by rfl, ?_⟩) (by assumption) ?_
            rotate_left
            · (intro w hSw; (try dsimp only at hSw); go_simp); first | done | with_reducible rfl
            try simp only [Act.put, List.setIfInBounds_toArray, List.set_cons_zero, List.set_cons_succ]
            refine wpAnyH_take (i := 6) (v := ?_) (by simp only [List.getElem?_toArray, List.getElem?_cons_succ, List.getElem?_cons_zero]; rfl) (by kernel_rfl) (by kernel_rfl) (by kernel_rfl) (by exact fun _ _ _ h => h) (Or.inl ⟨by rfl, ?_⟩) (by assumption) ?_
            rotate_left
            · (intro w hSw; (try dsimp only at hSw); go_simp); first | done | with_reducible rfl
            try simp only [Act.put, List.setIfInBounds_toArray, List.set_cons_zero, List.set_cons_succ]
            refine wpAnyH_take (i := 7) (v := ?_) (by simp only [List.getElem?_toArray, List.getElem?_cons_succ, List.getElem?_cons_zero]; rfl) (by kernel_rfl) (by kernel_rfl) (by kernel_rfl) (by exact fun _ _ _ h => h) (Or.inl ⟨by rfl, ?_⟩) (by assumption) ?_
            rotate_left
            · (intro w hSw; (try dsimp only at hSw); go_simp); first | done | with_reducible rfl
            try simp only [Act.put, List.setIfInBounds_toArray, List.set_cons_zero, List.set_cons_succ]
            refine wpAnyH_take (i := 8) (v := ?_) (by simp only [List.getElem?_toArray, List.getElem?_cons_succ, List.getElem?_cons_zero]; rfl) (by kernel_rfl) (by kernel_rfl) (by kernel_rfl) (by exact fun _ _ _ h => h) (Or.inl ⟨by rfl, ?_⟩) (by assumption) ?_
            rotate_left
            · (intro w hSw; (try dsimp only at hSw); go_simp); first | done | with_reducible rfl
            try simp only [Act.put, List.setIfInBounds_toArray, List.set_cons_zero, List.set_cons_succ]
            refine wpAnyH_take (i := 9) (v := ?_) (by simp only [List.getElem?_toArray, List.getElem?_cons_succ, List.getElem?_cons_zero]; rfl) (by kernel_rfl) (by kernel_rfl) (by kernel_rfl) (by exact fun _ _ _ h => h) (Or.inl ⟨by rfl, ?_⟩) (by assumption) ?_
            rotate_left
            · (intro w hSw; (try dsimp only at hSw); go_simp); first | done | with_reducible rfl
            try simp only [Act.put, List.setIfInBounds_toArray, List.set_cons_zero, List.set_cons_succ]
            refine wpAnyH_ready (rs := [10]) (by kernel_rfl) (by simp) ?_
            refine AllReadyH.cons (by simp only [List.getElem?_toArray, List.getElem?_cons_succ, List.getElem?_cons_zero]; rfl) (fun K hK => ?_) AllReadyH.nil
            go_simp
            go_wp2_with fail
            refine (isRoute_any N A Ak c rl Ck s t am ra pt w40 (h.on hW) hi2 HEN.out HOK2.out ham).mono ?_
            rintro e w41 ⟨rfl, kb⟩
            replace hL := hL.on kb
            replace hb := onS hb kb
            replace hW := onS hW kb
            replace hi2 := hi2.on kb
            replace p0 := cellS kb p0
            replace p1 := cellS kb p1
            replace p2 := cellS kb p2
            replace p3 := cellS kb p3
            replace x0 := cellS kb x0
            replace x1 := cellS kb x1
            clear kb
            refine hK.out _ _ ⟨p0, p1, p2, p3, x0, x1⟩ (fun hHeld => ?_)
            clear hK K
            try simp only [Act.put, List.setIfInBounds_toArray, List.set_cons_zero, List.set_cons_succ]
            refine wpAnyH_take (i := 11) (v := ?_) (by simp only [List.getElem?_toArray, List.getElem?_cons_succ, List.getElem?_cons_zero]; rfl) (by kernel_rfl) (by kernel_rfl) (by kernel_rfl) (by exact fun _ _ _ h => h) (Or.inl ⟨by rfl, ?_⟩) (by assumption) ?_
            rotate_left
            · (intro w hSw; (try dsimp only at hSw); go_simp); first | done | with_reducible rfl
            try simp only [Act.put, List.setIfInBounds_toArray, List.set_cons_zero, List.set_cons_succ]
            refine wpAnyH_take (i := 12) (v := ?_) (by simp only [List.getElem?_toArray, List.getElem?_cons_succ, List.getElem?_cons_zero]; rfl) (by kernel_rfl) (by kernel_rfl) (by kernel_rfl) (by exact fun _ _ _ h => h) (Or.inl ⟨by rfl, ?_⟩) (by assumption) ?_
            rotate_left
            · (intro w hSw; (try dsimp only at hSw); go_simp); first | done | with_reducible rfl
            try simp only [Act.put, List.setIfInBounds_toArray, List.set_cons_zero, List.set_cons_succ]
            refine wpAnyH_take (i := 13) (v := ?_) (by simp only [List.getElem?_toArray, List.getElem?_cons_succ, List.getElem?_cons_zero]; rfl) (by kernel_rfl) (by kernel_rfl) (by kernel_rfl) (by exact fun _ _ _ h => h) (Or.inl ⟨by rfl, ?_⟩) (by assumption) ?_
            rotate_left
            · (intro w hSw; (try dsimp only at hSw); go_simp); first | done | with_reducible rfl
            try simp only [Act.put, List.setIfInBounds_toArray, List.set_cons_zero, List.set_cons_succ]
            refine wpAnyH_take (i := 14) (v := ?_) (by simp only [List.getElem?_toArray, List.getElem?_cons_succ, List.getElem?_cons_zero]; rfl) (by kernel_rfl) (by kernel_rfl) (by kernel_rfl) (by exact fun _ _ _ h => h) (Or.inl ⟨by rfl, ?_⟩) (by assumption) ?_
            rotate_left
            · (intro w hSw; (try dsimp only at hSw); go_simp); first | done | with_reducible rfl
            try simp only [Act.put, List.setIfInBounds_toArray, List.set_cons_zero, List.set_cons_succ]
            refine wpAnyH_take (i := 15) (v := ?_) (by simp only [List.getElem?_toArray, List.getElem?_cons_succ, List.getElem?_cons_zero]; rfl) (by kernel_rfl) (by kernel_rfl) (by kernel_rfl) (by exact fun _ _ _ h => h) (Or.inl ⟨by rfl, ?_⟩) (by assumption) ?_
            rotate_left
            · (intro w hSw; (try dsimp only at hSw); go_simp); first | done | with_reducible rfl
            try simp only [Act.put, List.setIfInBounds_toArray, List.set_cons_zero, List.set_cons_succ]
            refine wpAnyH_done (by kernel_rfl) ?_ _
            clear hHeld
            clear hi2 x0 x1 p0 p1 p2 p3 hW
            go_wp2
            have hrl1 := HOK2.out.1
            have hr0 := HOK2.out.2.1 0 (by omega)
            obtain ⟨lg, lo, lcap, hle, hlg, _, _, _, _⟩ := hL.form (by omega)
            injection hle with e1 _ e2
            subst e1 e2
            go_loopg [11] rl (fun gg iv wx => ∃ j : Nat, iv = .int .i64 (j : Nat) ∧ j ≤ rl ∧ rl ≤ j + gg ∧ Own wx w4.heap.size 3 1 (.slice (some ⟨lg, lo, none⟩) N.n c6) N.n (fun i _ => .int .i64 (subR gf am ra j i)) ∧ Below w4.heap.size w4 wx)
            case atStart => exact ⟨0, rfl, by omega, by omega, hL, hb⟩
            case round =>
              obtain ⟨j, rfl, hj, hjg, hL2, hb2⟩ := hrel
              clear hL hb
              have hj0 : (0 : Int) ≤ (j : Int) := by omega
              obtain ⟨tb2, to2, A2, C2, hT2, x0, x1, hi⟩ := (HRT.out.on hb2).rcells hlt
              injection hT2 with e1
              injection e1 with e1 e2
              subst e1 e2
              rw [← HRL.out] at x0 hi
              rw [← HAM.out] at x1
              rw [← HRA.out] at hi
              by_cases hltj : j < rl
              · have hltj' : (j : Int) < (rl : Int) := by omega
                obtain ⟨rb, ro, rfl, hrb, y0⟩ := hi.at hltj
                have hrj := HOK2.out.2.1 j hltj
                have hle1 := HLE.out j (by rw [← HRL.out]; exact hltj)
                have hamb := (HRG.out j (by rw [← HRL.out]; exact hltj)).2
                rw [← HRA.out, ← HAM.out] at hle1
                rw [← HAM.out] at hamb
                obtain ⟨rj, hrj1⟩ : ∃ r, r = ra j := ⟨_, rfl⟩
                rw [← hrj1] at y0 hrj hle1
                have hgub : gf rj ≤ 1099511627776 := HGU.out rj hrj
                obtain ⟨_, _, _, hge, _, _, _, _, hlcells⟩ := hL2.form (by omega)
                injection hge with e1 _ e2
                injection e1 with e1
                injection e1 with e1 e3
                subst e1 e2 e3
                have x3 := hlcells rj hrj 0 (by omega)
                rw [Nat.mul_one, Nat.add_zero] at x3
                have x4 := hL2.frozen (lo + rj)
                have hso : subR gf am ra j rj = gf rj := subR_off j fun i hi e => by
                  have := HOK2.out.apart i j (by omega) hltj (e.trans hrj1)
                  omega
                rw [hso] at x3
                have hrj0 : (0 : Int) ≤ (rj : Int) := by omega
                have hrj2 : (rj : Int) < (N.n : Int) := by omega
                have HSET : Hid (∀ n, Own ((World.drew (World.drewN wr n)).setCell ⟨lg, lo + rj, none⟩ (.int .i64 (gf rj - am))) w4.heap.size 3 1 (.slice (some ⟨lg, lo, none⟩) N.n c6) N.n (fun i _ => .int .i64 (subR gf am ra (j + 1) i))) := fun n => by
                  have hset := ((hL2.drewN n).drew).set (a := rj) (b := 0) hrj (by omega) (.int .i64 (gf rj - am))
                  rw [Nat.mul_one, Nat.add_zero] at hset
                  exact hset.congr fun i hi b hb => by
                    show (if i = rj ∧ b = 0 then _ else _) = Value.int IntKind.i64 (if i = ra j then subR gf am ra j (ra j) - am else subR gf am ra j i)
                    obtain rfl : b = 0 := by omega
                    rw [← hrj1]
                    by_cases e : i = rj
                    · rw [if_pos ⟨e, rfl⟩, if_pos e, hso]
                    · rw [if_neg (fun h => e h.1), if_neg e]
                obtain ⟨gx, hgx⟩ : ∃ x, x = gf rj := ⟨_, rfl⟩
                rw [← hgx] at x3 hle1 hgub HSET
                have HB2 := hid hb2
                clear hrj1 hgx hso hlcells hi hL2 hb2
                go_wp2
                go_quiet (fail)
                go_upto_region 25 with fail
                have hbq := below_drewN (Below.refl wr.heap.size wr) nq
                have z3 := cellS hbq x3
                have z1 := cellS hbq x1
                have z0 := cellS hbq x0
                have z4 : (wr.drewN nq).frozen? ⟨lg, lo + rj, none⟩ = false := x4
                obtain ⟨wn, hwn⟩ : ∃ W, W = wr.drewN nq := ⟨_, rfl⟩
                have HSN : Hid (Own (wn.drew.setCell ⟨lg, lo + rj, none⟩ (.int .i64 (gx - am))) w4.heap.size 3 1 (.slice (some ⟨lg, lo, none⟩) N.n c6) N.n (fun i _ => .int .i64 (subR gf am ra (j + 1) i))) := by rw [hwn]; exact HSET.out nq
                have HBN : Hid (Below w4.heap.size w4 wn) := by rw [hwn]; exact below_drewN HB2.out nq
                rw [← hwn] at z3 z1 z0 z4 ⊢
                clear x3 x1 x0 x4 hwn hbq y0 HSET HB2
                go_wp2
                go_still_tail 11, (by kernel_rfl)
                change wpList _ _ _ _ _ wn.drew
                go_wp2
                go_roundg (gk - 1)
                case measure => omega
                case rel => exact ⟨j + 1, by go_num, by omega, by omega, HSN.out, (show Below w4.heap.size w4 wn.drew from HBN.out.drew).setCell (by show w4.heap.size ≤ lg; omega) _⟩
              · obtain rfl : j = rl := by omega
                have hLn : Own wr w4.heap.size 3 1 (.slice (some ⟨lg, lo, none⟩) N.n c6) N.n (fun i _ => .int .i64 (gAt f RA RL AM (k + 1) i)) := by
                  show Own wr w4.heap.size 3 1 (.slice (some ⟨lg, lo, none⟩) N.n c6) N.n (fun i _ => .int .i64 (subR (gAt f RA RL AM k) (AM k) (RA k) (RL k) i))
                  rw [← HGF.out, ← HAM.out, ← HRA.out, ← HRL.out]
                  exact hL2
                have HLN := hid hLn
                have HB2 := hid hb2
                have hvs1 := HVS.out
                rw [← HPT.out, ← HAM.out] at hvs1
                clear hLn hL2 hb2 hi
                cases pt
                · have hv2 : Hid (vk = val - vAt val AM PT (k + 1)) := by
                    show _ = _
                    rw [hvs1, HVK.out]; rfl
                  clear hvs1 hvb1 hvb2
                  go_wp2
                  go_roundg (gK - 1)
                  case measure => omega
                  case rel => exact ⟨k + 1, by go_num, by omega, by omega, by rw [← hv2.out], HLN.out, HB2.out⟩
                · have hv1 : vAt val AM PT (k + 1) = vAt val AM PT k - am := by rw [hvs1]; rfl
                  have hv2 : Hid (vk + am = val - vAt val AM PT (k + 1)) := by
                    show _ = _
                    rw [hv1, HVK.out]; omega
                  have hv3 : 0 ≤ vk := by rw [HVK.out]; omega
                  have hv4 : vk + am ≤ 1125899906842624 := by
                    have := HVAL.out
                    rw [hv2.out]; omega
                  clear hvs1 hvb1 hvb2 hv1
                  go_wp2
                  go_roundg (gK - 1)
                  case measure => omega
                  case rel => exact ⟨k + 1, by go_num, by omega, by omega, by rw [← hv2.out], HLN.out, HB2.out⟩
          · obtain rfl : k = K := by omega
            have hv5 : vk = val := by rw [HVK.out, HV0.out, Int.sub_zero]
            subst hv5
            have hLz := hL.congr (f' := fun _ _ => .int .i64 0) fun i hi b hb => by
              show Value.int IntKind.i64 (gf i) = _
              rw [HGF.out, HG0.out i hi]
            clear hL p0 p1 p2 p3 p5 p6
            go_wp2
            go_loopg [13] N.n (fun gg iv wx => ∃ j : Nat, iv = .int .i64 (j : Nat) ∧ j ≤ N.n ∧ N.n ≤ j + gg ∧ Below wr.heap.size wr wx)
            case atStart => exact ⟨0, rfl, by omega, by omega, Below.refl _ _⟩
            case round =>
              obtain ⟨j, rfl, hj, hjg, hb2⟩ := hrel
              have hj0 : (0 : Int) ≤ (j : Int) := by omega
              have p4' := cellS hb2 p4
              by_cases hltj : j < N.n
              · have hltj' : (j : Int) < (N.n : Int) := by omega
                have hL3 := hLz.on hb2
                obtain ⟨lg, lo, lcap, hle, hlg, _, _, _, hlcells⟩ := hL3.form (by omega)
                injection hle with e1 _ e2
                subst e1 e2
                have x3 := hlcells j hltj 0 (by omega)
                rw [Nat.mul_one, Nat.add_zero] at x3
                clear hlcells hL3
                go_wp2
                go_roundg (gk - 1)
                case measure => omega
                case rel => exact ⟨j + 1, by go_num, by omega, by omega, hb2⟩
              · obtain rfl : j = N.n := by omega
                have hWx := onS hW hb2
                go_wp2
                go_ret
                exact ⟨ret_bool (by simp), hWx⟩
theorem flowRoutes_law {H : Type} {enc : TypeId × Value → H} {w : World} {cs : Array Value} (h : Sees enc Try.prog w 0 (fun _ => true) true 41 cs.toList) :
    Calls Try.prog 11 #[.agg cs] w fun e w' => e = .returned (.bool true) ∧ Below w.heap.size w w' := by
  obtain ⟨cs⟩ := cs
  obtain ⟨N, A, c, s, t, val, F, m, d, f, S, ms, ds, sd, F', m', d', f', S', ms', ds', sd', rfl, hN, hf, hs, _⟩ := sees_raw h
  exact flowRoutes_any N A F S c m d ms ds s t val f sd _ _ w hN hf hs (raw_cap h)
end Go.Proofs.Ythdeldaeghhfgaa
