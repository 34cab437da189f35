/- Products of polynomials: semiring.Enumerators.Mul and codewrightref46.PolyMul. -/
import Derived.Test.YtnocbkhnmdmfhaaEAdd
import Derived.Test.YtnocbkhnmdmfhaaMulMath
namespace Go.Proofs.Ytnocbkhnmdmfhaa
open Go.RowKit

/-- The product of two polynomials of n1 and n2 coefficients. -/
def mulP (n1 n2 : Nat) (p q : Nat → Nat) (k : Nat) : Nat := mulS p q (plen q n2) (plen p n1) k
set_option maxRecDepth 100000 in
set_option maxHeartbeats 8000000 in
theorem eMul_any (A A2 : Option Addr) (n1 n2 c c2 : Nat) (p q : Nat → Nat) (w : World) (h : NatTab w w.heap.size A n1 p) (h2 : NatTab w w.heap.size A2 n2 q) (hn1 : n1 ≤ 1024) (hn2 : n2 ≤ 1024)
    (hp : Hid (∀ k, k < n1 → dl (p k) ≤ 1000000)) (hq : Hid (∀ k, k < n2 → dl (q k) ≤ 1000000)) (hs : Hid (∀ k, dl (mulP n1 n2 p q k) ≤ 1000000)) :
    Calls Try.prog 154 #[.agg #[], .slice A n1 c, .slice A2 n2 c2] w (PolPost (plen (mulP n1 n2 p q) (n1 + n2)) (mulP n1 n2 p q) w) := by
  have HM : Hid (∀ k, mulP n1 n2 p q k = mulS p q (plen q n2) (plen p n1) k) := fun _ => rfl
  obtain ⟨M, hM⟩ : ∃ M, M = mulP n1 n2 p q := ⟨_, rfl⟩
  rw [← hM] at HM hs ⊢
  clear hM
  obtain ⟨RB, hRB⟩ : ∃ o, o = (Obj.cells #[] 82) := ⟨_, rfl⟩
  have hB0 : Below w.heap.size w (w.alloc RB) := (Below.refl _ _).alloc (Nat.le_refl _) _
  go_enter Try.func154, Try.ntmps154
  go_wp2_with fail
  rw [← hRB]
  refine (enumerator_any A n1 c p _ (h.on hB0) (by omega) (fun k hk => by have := hp.out k hk; omega)).mono ?_
  rintro e w1 ⟨v1, rfl, hv1, kb⟩
  have hB1 := onS hB0 kb
  have HZ1 := hid (show w.heap.size ≤ (w.alloc RB).heap.size from hB0.size)
  clear hB0 kb hRB
  obtain ⟨A1, d1, e1, f1, f2, hT1⟩ := hv1.tab
  subst e1
  have HQ := hid h2
  clear hv1 h h2
  go_wp2_with fail
  refine (enumerator_any A2 n2 c2 q w1 (HQ.out.on hB1) (by omega) (fun k hk => by have := hq.out k hk; omega)).mono ?_
  rintro e w2 ⟨v2, rfl, hv2, kb⟩
  have hB2 := onS hB1 kb
  replace hT1 := hT1.on kb
  obtain ⟨A3, d3, e3, f3, f4, hT2⟩ := hv2.tab
  subst e3
  have hp1 := plen_le p n1
  have hq1 := plen_le q n2
  have HP : Hid (∀ k, k < plen p n1 → dl (p k) ≤ 1000000) := fun k hk => hp.out k (by omega)
  have HQ2 : Hid (∀ k, k < plen q n2 → dl (q k) ≤ 1000000) := fun k hk => hq.out k (by omega)
  obtain ⟨a, ha⟩ : ∃ a, a = plen p n1 := ⟨_, rfl⟩
  obtain ⟨b, hb⟩ : ∃ b, b = plen q n2 := ⟨_, rfl⟩
  rw [← ha] at hp1 f1 hT1 HP HM ⊢
  rw [← hb] at hq1 f3 hT2 HQ2 HM ⊢
  have HT1 := hid hT1
  have HT2 := hid hT2
  have HFN : Hid (∀ (W : World) (r : Value) (d : Nat), NatOwn W w.heap.size r (plen M d) M → (∀ k, d ≤ k → M k = 0) → d ≤ n1 + n2 → Below w.heap.size w W → ∀ e, e = .returned r → PolPost (plen M (n1 + n2)) M w e W) := fun W r d h1 h2 h3 h4 e he => by
    rw [plen_more h3 fun k a1 _ => h2 k a1]
    exact ⟨r, he, h1, h4⟩
  clear hv2 kb hB1 ha hb hT1 hT2 hp hq
  by_cases h0 : a = 0 ∨ b = 0
  · have hz : Hid (∀ k, M k = 0) := fun k => by rw [HM.out k]; exact mulS_none h0 k
    have hfin : Hid (∀ (W : World) (x : Nat), w.heap.size ≤ x → W.heap[x]? = some (.cells #[] 43 (0, 0)) → Below w.heap.size w W → ∀ e, e = .returned (.slice (some ⟨x, 0, none⟩) 0 0) → PolPost (plen M (n1 + n2)) M w e W) := fun W x hx hc hB e he => by
      refine HFN.out W _ 0 ?_ (fun k _ => hz.out k) (Nat.zero_le _) hB e he
      refine ⟨fun _ _ => undef, .inr ⟨x, 0, 0, #[], rfl, hx, hc, Nat.le_refl _, by unfold maxLen; omega, by simp, fun i hi => absurd hi (Nat.not_lt_zero i)⟩, fun g hg => ?_, fun i hi => absurd hi (Nat.not_lt_zero i)⟩
      obtain rfl : x = g := by simpa [Value.ownBlock] using hg
      exact noInt_of hc fun u hu => by simp at hu
    have hB3 := hid (hB2.alloc hB2.size (Obj.cells #[] 43))
    have hsz := hid hB2.size
    by_cases ha0 : a = 0
    · have ea : ((a : Int) == 0) = true := by simp [ha0]
      have ea2 : (a == 0) = true := by simp [ha0]
      clear h0 ha0 hB2 HFN
      go_wp2
      go_ret
      exact hfin.out _ _ hsz.out (heap_new_at rfl) hB3.out _ rfl
    · have hb0 : b = 0 := by omega
      have ea : ((a : Int) == 0) = false := by rw [beq_eq_false_iff_ne]; omega
      have ea2 : (a == 0) = false := by rw [beq_eq_false_iff_ne]; omega
      have eb : ((b : Int) == 0) = true := by simp [hb0]
      have eb2 : (b == 0) = true := by simp [hb0]
      clear h0 ha0 hb0 hB2 HFN
      go_wp2
      go_ret
      exact hfin.out _ _ hsz.out (heap_new_at rfl) hB3.out _ rfl
  · have ha1 : 1 ≤ a := by omega
    have hb1 : 1 ≤ b := by omega
    have ea : ((a : Int) == 0) = false := by rw [beq_eq_false_iff_ne]; omega
    have ea2 : (a == 0) = false := by rw [beq_eq_false_iff_ne]; omega
    have eb : ((b : Int) == 0) = false := by rw [beq_eq_false_iff_ne]; omega
    have eb2 : (b == 0) = false := by rw [beq_eq_false_iff_ne]; omega
    obtain ⟨m, hm⟩ : ∃ m, m = a + b - 1 := ⟨_, rfl⟩
    have hmi : (a : Int) + (b : Int) - 1 = (m : Int) := by omega
    have hmab : a + b = m + 1 := by omega
    have hmk := fun W => run_makeI (P := Try.prog) 39 43 _ 24 Try.underlying39 Try.infoNat rfl (m : Int) (by omega) (by omega) (by omega) W
    simp only [Int.toNat_natCast] at hmk
    have hO := natOwn_made (w := w2) (base := w2.heap.size) (n := m) (Nat.le_refl _) (by unfold maxLen; omega)
    have kb3 : Below w2.heap.size w2 (w2.alloc (Obj.cells (madeCells #[Value.slice none 0 0] m) 43)) := (Below.refl _ _).alloc (Nat.le_refl _) _
    clear h0 hm
    go_upto_region 5 with fail
    obtain ⟨w3, hw3⟩ : ∃ W, W = w2.alloc (Obj.cells (madeCells #[Value.slice none 0 0] m) 43) := ⟨_, rfl⟩
    obtain ⟨g, hg⟩ : ∃ b, b = w2.heap.size := ⟨_, rfl⟩
    have HG := hid hg
    have HW2 := hid hB2
    rw [← hw3] at hO kb3 ⊢
    rw [← hg]
    have hO0 : NatOwn w3 w2.heap.size (.slice (some ⟨g, 0, none⟩) m m) m (mulS p q b 0) := by
      rw [hg]
      exact hO
    clear hw3 hO hmk hg hB2
    go_wp2
    go_loopg [36] a (fun gg iv wx => ∃ i : Nat, iv = .int .i64 (i : Nat) ∧ i ≤ a ∧ a ≤ i + gg ∧ NatOwn wx w2.heap.size (.slice (some ⟨g, 0, none⟩) m m) m (mulS p q b i) ∧ Below w2.heap.size w2 wx)
    case atStart => exact ⟨0, rfl, by omega, by omega, hO0, kb3⟩
    case round =>
      clear hO0 kb3
      obtain ⟨gK, hgK⟩ : ∃ g, g = gk := ⟨_, rfl⟩
      subst hgK
      obtain ⟨i, rfl, hi, hig, hO, hB⟩ := hrel
      have hi0 : (0 : Int) ≤ (i : Int) := by omega
      by_cases hlt : i < a
      · have hlt' : (i : Int) < (a : Int) := by omega
        obtain ⟨pb, po, Ap, cp, rfl, hpb, x0, x1, x2, x3⟩ := natTab_at HT1.out hlt
        have y0 := cellS hB x0
        have hdp := HP.out i hlt
        obtain ⟨pv, hpv⟩ : ∃ v, v = p i := ⟨_, rfl⟩
        have HPV := hid hpv
        rw [← hpv] at y0 x1 x3 hdp
        have HX3 := hid x3
        clear hpv x0 x3
        by_cases hp0 : pv = 0
        · have e0 : dl pv = 0 := dl_eq_zero.2 hp0
          have hO2 := hid (hO.congr (y' := mulS p q b (i + 1)) fun k _ => (mulS_skip (by rw [← HPV.out]; exact hp0) k).symm)
          rw [e0] at y0
          clear hO hp0 hdp
          go_wp2
          go_roundg (gK - 1)
          case measure => omega
          case rel => exact ⟨i + 1, by go_num, by omega, by omega, hO2.out, hB⟩
        · have e0 : dl pv ≠ 0 := fun h => hp0 (dl_eq_zero.1 h)
          have e1 : ((dl pv : Int) == 0) = false := by rw [beq_eq_false_iff_ne]; omega
          have e2 : (dl pv == 0) = false := by rw [beq_eq_false_iff_ne]; omega
          have hOT := hO.congr (y' := mulT p q b i 0) fun k _ => (mulT_zero i k).symm
          clear hO hp0 e0
          go_wp2
          go_loopg [46] b (fun gg jv wx => ∃ j : Nat, jv = .int .i64 (j : Nat) ∧ j ≤ b ∧ b ≤ j + gg ∧ NatOwn wx w2.heap.size (.slice (some ⟨g, 0, none⟩) m m) m (mulT p q b i j) ∧ Below w2.heap.size w2 wx)
          case atStart => exact ⟨0, rfl, by omega, by omega, hOT, hB⟩
          case round =>
            clear hOT hB y0
            obtain ⟨j, rfl, hj, hjg, hO, hB⟩ := hrel
            have hj0 : (0 : Int) ≤ (j : Int) := by omega
            obtain ⟨w40, hw40⟩ : ∃ W, W = wr := ⟨_, rfl⟩
            subst hw40
            by_cases hltj : j < b
            · have hltj' : (j : Int) < (b : Int) := by omega
              obtain ⟨qb, qo, Aq, cq, rfl, hqb, z0, z1, z2, z3⟩ := natTab_at (HT2.out.on hB) hltj
              have hdq := HQ2.out j hltj
              have hpr : dl (p i * q j) ≤ 1000000 := Nat.le_trans (dl_mono (by rw [HM.out]; exact mul_term_le hlt hltj)) (hs.out (i + j))
              have hcu : dl (mulT p q b i j (i + j)) ≤ 1000000 := Nat.le_trans (dl_mono (by rw [HM.out]; exact mulT_le hlt hj (i + j))) (hs.out (i + j))
              have hsu : dl (mulT p q b i j (i + j) + p i * q j) ≤ 1000000 := by
                have h1 := mulT_put (p := p) (q := q) (b := b) i j (i + j)
                unfold updN at h1
                rw [if_pos rfl] at h1
                rw [h1]
                exact Nat.le_trans (dl_mono (by rw [HM.out]; exact mulT_le hlt hltj (i + j))) (hs.out (i + j))
              obtain ⟨qv, hqv⟩ : ∃ v, v = q j := ⟨_, rfl⟩
              obtain ⟨u, hu⟩ : ∃ u, u = mulT p q b i j (i + j) := ⟨_, rfl⟩
              have HU := hid hu
              have HPUT : Hid (∀ k, updN (mulT p q b i j) (i + j) (u + pv * qv) k = mulT p q b i (j + 1) k) := fun k => by
                rw [hu, HPV.out, hqv]
                exact mulT_put i j k
              rw [← hqv] at z0 z1 z3 hdq hpr hsu
              rw [← HPV.out] at hpr hsu
              rw [← hu] at hcu hsu
              have hij : i + j < m := by omega
              have hij' : (i : Int) + (j : Int) < (m : Int) := by omega
              have hij0 : (0 : Int) ≤ (i : Int) + (j : Int) := by omega
              have hijw : IntKind.i64.wrap ((i : Int) + (j : Int)) = (i : Int) + (j : Int) := IntWalk.i64_in _ (by omega)
              have hijt : ((i : Int) + (j : Int)).toNat = i + j := by omega
              have x3 := HX3.out.on hB
              clear hu hqv
              go_upto_region 12 with fail
              refine wp_region_held_drew (S := fun _ => True) (by kernel_rfl) trivial (fun hHeld => ?_)
              obtain ⟨w41, hw⟩ : ∃ W, W = World.drew w40 := ⟨_, rfl⟩
              have kb : Below w40.heap.size w40 w41 := by rw [hw]; exact (Below.refl _ _).drew
              rw [← hw]
              clear hw
              replace hO := hO.on kb
              replace hB := onS hB kb
              replace x3 := x3.on kb
              replace z3 := z3.on kb
              clear kb
              refine wpAnyH_take (i := 0) (v := ?_) (by simp only [List.getElem?_toArray, List.getElem?_cons_zero]; rfl) (by kernel_rfl) (by kernel_rfl) (by kernel_rfl) (by exact fun _ _ _ h => h) (Or.inl ⟨by rfl, ?_⟩) (by assumption) ?_
              rotate_left
              · (intro w hSw; (try dsimp only at hSw); go_simp); first | done | with_reducible rfl
              try simp only [Act.put, List.setIfInBounds_toArray, List.set_cons_zero, List.set_cons_succ]
              refine wpAnyH_take (i := 1) (v := ?_) (by simp only [List.getElem?_toArray, List.getElem?_cons_succ, List.getElem?_cons_zero]; rfl) (by kernel_rfl) (by kernel_rfl) (by kernel_rfl) (by exact fun _ _ _ h => h) (Or.inl ⟨by rfl, ?_⟩) (by assumption) ?_
              rotate_left
              · (intro w hSw; (try dsimp only at hSw); go_simp); first | done | with_reducible rfl
              try simp only [Act.put, List.setIfInBounds_toArray, List.set_cons_zero, List.set_cons_succ]
              refine wpAnyH_take (i := 2) (v := ?_) (by simp only [List.getElem?_toArray, List.getElem?_cons_succ, List.getElem?_cons_zero]; rfl) (by kernel_rfl) (by kernel_rfl) (by kernel_rfl) (by exact fun _ _ _ h => h) (Or.inl ⟨by rfl, ?_⟩) (by assumption) ?_
              rotate_left
              · (intro w hSw; (try dsimp only at hSw); go_simp); first | done | with_reducible rfl
              try simp only [Act.put, List.setIfInBounds_toArray, List.set_cons_zero, List.set_cons_succ]
              refine wpAnyH_take (i := 3) (v := ?_) (by simp only [List.getElem?_toArray, List.getElem?_cons_succ, List.getElem?_cons_zero]; rfl) (by kernel_rfl) (by kernel_rfl) (by kernel_rfl) (by exact fun _ _ _ h => h) (Or.inl ⟨by rfl, ?_⟩) (by assumption) ?_
              rotate_left
              · (intro w hSw; (try dsimp only at hSw); go_simp); first | done | with_reducible rfl
              try simp only [Act.put, List.setIfInBounds_toArray, List.set_cons_zero, List.set_cons_succ]
              refine wpAnyH_take (i := 4) (v := ?_) (by simp only [List.getElem?_toArray, List.getElem?_cons_succ, List.getElem?_cons_zero]; rfl) (by kernel_rfl) (by kernel_rfl) (by kernel_rfl) (by exact fun _ _ _ h => h) (Or.inl ⟨by rfl, ?_⟩) (by assumption) ?_
              rotate_left
              · (intro w hSw; (try dsimp only at hSw); go_simp); first | done | with_reducible rfl
              try simp only [Act.put, List.setIfInBounds_toArray, List.set_cons_zero, List.set_cons_succ]
              refine wpAnyH_take (i := 5) (v := ?_) (by simp only [List.getElem?_toArray, List.getElem?_cons_succ, List.getElem?_cons_zero]; rfl) (by kernel_rfl) (by kernel_rfl) (by kernel_rfl) (by exact fun _ _ _ h => h) (Or.inl ⟨by rfl, ?_⟩) (by assumption) ?_
              rotate_left
              · (intro w hSw; (try dsimp only at hSw); go_simp); first | done | with_reducible rfl
              try simp only [Act.put, List.setIfInBounds_toArray, List.set_cons_zero, List.set_cons_succ]
              refine wpAnyH_take (i := 6) (v := ?_) (by simp only [List.getElem?_toArray, List.getElem?_cons_succ, List.getElem?_cons_zero]; rfl) (by kernel_rfl) (by kernel_rfl) (by kernel_rfl) (by exact fun _ _ _ h => h) (Or.inl ⟨by rfl, ?_⟩) (by assumption) ?_
              rotate_left
              · (intro w hSw; (try dsimp only at hSw); go_simp); first | done | with_reducible rfl
              try simp only [Act.put, List.setIfInBounds_toArray, List.set_cons_zero, List.set_cons_succ]
              refine wpAnyH_take (i := 7) (v := ?_) (by simp only [List.getElem?_toArray, List.getElem?_cons_succ, List.getElem?_cons_zero]; rfl) (by kernel_rfl) (by kernel_rfl) (by kernel_rfl) (by exact fun _ _ _ h => h) (Or.inl ⟨by rfl, ?_⟩) (by assumption) ?_
              rotate_left
              · (intro w hSw; (try dsimp only at hSw); go_simp); first | done | with_reducible rfl
              try simp only [Act.put, List.setIfInBounds_toArray, List.set_cons_zero, List.set_cons_succ]
              refine wpAnyH_take (i := 8) (v := ?_) (by simp only [List.getElem?_toArray, List.getElem?_cons_succ, List.getElem?_cons_zero]; rfl) (by kernel_rfl) (by kernel_rfl) (by kernel_rfl) (by exact fun _ _ _ h => h) (Or.inl ⟨by rfl, ?_⟩) (by assumption) ?_
              rotate_left
              · (intro w hSw; (try dsimp only at hSw); go_simp); first | done | with_reducible rfl
              try simp only [Act.put, List.setIfInBounds_toArray, List.set_cons_zero, List.set_cons_succ]
              refine wpAnyH_take (i := 10) (v := ?_) (by simp only [List.getElem?_toArray, List.getElem?_cons_succ, List.getElem?_cons_zero]; rfl) (by kernel_rfl) (by kernel_rfl) (by kernel_rfl) (by exact fun _ _ _ h => h) (Or.inl ⟨by rfl, ?_⟩) (by assumption) ?_
              rotate_left
              · (intro w hSw; (try dsimp only at hSw); go_simp); first | done | with_reducible rfl
              try simp only [Act.put, List.setIfInBounds_toArray, List.set_cons_zero, List.set_cons_succ]
              refine wpAnyH_take (i := 11) (v := ?_) (by simp only [List.getElem?_toArray, List.getElem?_cons_succ, List.getElem?_cons_zero]; rfl) (by kernel_rfl) (by kernel_rfl) (by kernel_rfl) (by exact fun _ _ _ h => h) (Or.inl ⟨by rfl, ?_⟩) (by assumption) ?_
              rotate_left
              · (intro w hSw; (try dsimp only at hSw); go_simp); first | done | with_reducible rfl
              try simp only [Act.put, List.setIfInBounds_toArray, List.set_cons_zero, List.set_cons_succ]
              refine wpAnyH_ready (rs := [9, 12]) (by kernel_rfl) (by simp) ?_
              refine AllReadyH.cons (by simp only [List.getElem?_toArray, List.getElem?_cons_succ, List.getElem?_cons_zero]; rfl) (fun K hK => ?_) (AllReadyH.cons (by simp only [List.getElem?_toArray, List.getElem?_cons_succ, List.getElem?_cons_zero]; rfl) (fun K hK => ?_) AllReadyH.nil)
              · obtain ⟨Au, du, q0, u1, u2, u3, _⟩ := hO.rd hij
                rw [Nat.zero_add, ← HU.out] at q0
                rw [← HU.out] at u1 u3
                go_simp
                clear q0
                refine hK.out _ _ trivial (fun hHeld => ?_)
                clear hK K
                try simp only [Act.put, List.setIfInBounds_toArray, List.set_cons_zero, List.set_cons_succ]
                refine wpAnyH_ready (rs := [12]) (by kernel_rfl) (by simp) ?_
                refine AllReadyH.cons (by simp only [List.getElem?_toArray, List.getElem?_cons_succ, List.getElem?_cons_zero]; rfl) (fun K hK => ?_) AllReadyH.nil
                go_simp
                obtain ⟨w42, hw⟩ : ∃ W, W = World.alloc w41 (Obj.cells #[Value.slice Ap (dl pv) cp, Value.slice Aq (dl (qv)) cq] 43) := ⟨_, rfl⟩
                have kb : Below w41.heap.size w41 w42 := by rw [hw]; exact (Below.refl _ _).alloc (Nat.le_refl _) _
                have t0 : w42.cell? ⟨w41.heap.size, 0, none⟩ = some (Value.slice Ap (dl pv) cp) := by rw [hw]; simp
                have t1 : w42.cell? ⟨w41.heap.size, 1, none⟩ = some (Value.slice Aq (dl (qv)) cq) := by rw [hw]; simp
                rw [← hw]
                clear hw
                obtain ⟨tb, htb⟩ : ∃ b, b = w41.heap.size := ⟨_, rfl⟩
                rw [← htb] at t0 t1 ⊢
                clear htb
                replace hO := hO.on kb
                replace hB := onS hB kb
                replace x3 := x3.on kb
                replace z3 := z3.on kb
                replace u3 := u3.on kb
                clear kb
                refine hK.out _ _ trivial (fun hHeld => ?_)
                clear hK K
                try simp only [Act.put, List.setIfInBounds_toArray, List.set_cons_zero, List.set_cons_succ]
                refine wpAnyH_ready (rs := [13]) (by kernel_rfl) (by simp) ?_
                refine AllReadyH.cons (by simp only [List.getElem?_toArray, List.getElem?_cons_succ, List.getElem?_cons_zero]; rfl) (fun K hK => ?_) AllReadyH.nil
                go_simp
                go_wp2_with fail
                refine (natMul_two tb pv qv Ap Aq cp cq w42 t0 t1 x3 z3 x1 x2 z1 z2 (by omega) (by omega) (by omega)).mono ?_
                rintro e w43 ⟨Ar, dr, rfl, r1, r2, r3, kb⟩
                replace hO := hO.on kb
                replace hB := onS hB kb
                replace x3 := x3.on kb
                replace z3 := z3.on kb
                replace u3 := u3.on kb
                replace t0 := cellS kb t0
                replace t1 := cellS kb t1
                clear kb
                refine hK.out _ _ trivial (fun hHeld => ?_)
                clear hK K
                try simp only [Act.put, List.setIfInBounds_toArray, List.set_cons_zero, List.set_cons_succ]
                refine wpAnyH_ready (rs := [14]) (by kernel_rfl) (by simp) ?_
                refine AllReadyH.cons (by simp only [List.getElem?_toArray, List.getElem?_cons_succ, List.getElem?_cons_zero]; rfl) (fun K hK => ?_) AllReadyH.nil
                go_simp
                obtain ⟨w44, hw⟩ : ∃ W, W = World.alloc w43 (Obj.cells #[Value.slice Au (dl u) du, Value.slice Ar (dl (pv * qv)) dr] 43) := ⟨_, rfl⟩
                have kb : Below w43.heap.size w43 w44 := by rw [hw]; exact (Below.refl _ _).alloc (Nat.le_refl _) _
                have t2 : w44.cell? ⟨w43.heap.size, 0, none⟩ = some (Value.slice Au (dl u) du) := by rw [hw]; simp
                have t3 : w44.cell? ⟨w43.heap.size, 1, none⟩ = some (Value.slice Ar (dl (pv * qv)) dr) := by rw [hw]; simp
                rw [← hw]
                clear hw
                obtain ⟨tc, htb⟩ : ∃ b, b = w43.heap.size := ⟨_, rfl⟩
                rw [← htb] at t2 t3 ⊢
                clear htb
                replace hO := hO.on kb
                replace hB := onS hB kb
                replace x3 := x3.on kb
                replace z3 := z3.on kb
                replace u3 := u3.on kb
                replace t0 := cellS kb t0
                replace t1 := cellS kb t1
                replace r3 := r3.on kb
                clear kb
                refine hK.out _ _ trivial (fun hHeld => ?_)
                clear hK K
                try simp only [Act.put, List.setIfInBounds_toArray, List.set_cons_zero, List.set_cons_succ]
                refine wpAnyH_ready (rs := [15]) (by kernel_rfl) (by simp) ?_
                refine AllReadyH.cons (by simp only [List.getElem?_toArray, List.getElem?_cons_succ, List.getElem?_cons_zero]; rfl) (fun K hK => ?_) AllReadyH.nil
                go_simp
                go_wp2_with fail
                refine (natAdd_two tc u (pv * qv) Au Ar du dr w44 t2 t3 u3 r3 u1 u2 r1 r2 (by omega) (by omega) (by omega)).mono ?_
                rintro e w45 ⟨As, ds, rfl, s1, s2, s3, kb⟩
                replace hO := hO.on kb
                replace hB := onS hB kb
                replace x3 := x3.on kb
                replace z3 := z3.on kb
                replace u3 := u3.on kb
                replace t0 := cellS kb t0
                replace t1 := cellS kb t1
                replace r3 := r3.on kb
                replace t2 := cellS kb t2
                replace t3 := cellS kb t3
                clear kb
                refine hK.out _ _ trivial (fun hHeld => ?_)
                clear hK K
                try simp only [Act.put, List.setIfInBounds_toArray, List.set_cons_zero, List.set_cons_succ]
                refine wpAnyH_take (i := 16) (v := ?_) (by simp only [List.getElem?_toArray, List.getElem?_cons_succ, List.getElem?_cons_zero]; rfl) (by kernel_rfl) (by kernel_rfl) (by kernel_rfl) (by exact fun _ _ _ h => h) (Or.inl ⟨by rfl, ?_⟩) (by assumption) ?_
                rotate_left
                · (intro w hSw; (try dsimp only at hSw); go_simp); first | done | with_reducible rfl
                try simp only [Act.put, List.setIfInBounds_toArray, List.set_cons_zero, List.set_cons_succ]
                refine wpAnyH_ready (rs := [17]) (by kernel_rfl) (by simp) ?_
                refine AllReadyH.cons (by simp only [List.getElem?_toArray, List.getElem?_cons_succ, List.getElem?_cons_zero]; rfl) (fun K hK => ?_) AllReadyH.nil
                obtain ⟨A7, d7, q0, _, _, _, y9⟩ := hO.rd hij
                have hO2 := hO.set hij s3 s1 s2
                have hB2 := hB.setCell (p := ⟨g, 0 + (i + j), none⟩) (by show w2.heap.size ≤ g; rw [HG.out]; exact Nat.le_refl _) (.slice As (dl (u + pv * qv)) ds)
                rw [Nat.zero_add] at hO2 hB2 q0 y9
                go_simp
                have HO2 := hid (hO2.congr fun k _ => HPUT.out k)
                have HB2 := hid hB2
                clear hO hB hO2 hB2 q0 y9
                refine hK.out _ _ trivial (fun hHeld => ?_)
                clear hK K
                try simp only [Act.put, List.setIfInBounds_toArray, List.set_cons_zero, List.set_cons_succ]
                refine wpAnyH_done (by kernel_rfl) ?_ _
                clear hHeld
                go_wp2
                go_roundg (gk - 1)
                case measure => omega
                case rel => exact ⟨j + 1, by go_num, by omega, by omega, HO2.out, HB2.out⟩
              · go_simp
                obtain ⟨w42, hw⟩ : ∃ W, W = World.alloc w41 (Obj.cells #[Value.slice Ap (dl pv) cp, Value.slice Aq (dl (qv)) cq] 43) := ⟨_, rfl⟩
                have kb : Below w41.heap.size w41 w42 := by rw [hw]; exact (Below.refl _ _).alloc (Nat.le_refl _) _
                have t0 : w42.cell? ⟨w41.heap.size, 0, none⟩ = some (Value.slice Ap (dl pv) cp) := by rw [hw]; simp
                have t1 : w42.cell? ⟨w41.heap.size, 1, none⟩ = some (Value.slice Aq (dl (qv)) cq) := by rw [hw]; simp
                rw [← hw]
                clear hw
                obtain ⟨tb, htb⟩ : ∃ b, b = w41.heap.size := ⟨_, rfl⟩
                rw [← htb] at t0 t1 ⊢
                clear htb
                replace hO := hO.on kb
                replace hB := onS hB kb
                replace x3 := x3.on kb
                replace z3 := z3.on kb
                clear kb
                refine hK.out _ _ trivial (fun hHeld => ?_)
                clear hK K
                try simp only [Act.put, List.setIfInBounds_toArray, List.set_cons_zero, List.set_cons_succ]
                refine wpAnyH_ready (rs := [9, 13]) (by kernel_rfl) (by simp) ?_
                refine AllReadyH.cons (by simp only [List.getElem?_toArray, List.getElem?_cons_succ, List.getElem?_cons_zero]; rfl) (fun K hK => ?_) (AllReadyH.cons (by simp only [List.getElem?_toArray, List.getElem?_cons_succ, List.getElem?_cons_zero]; rfl) (fun K hK => ?_) AllReadyH.nil)
                · obtain ⟨Au, du, q0, u1, u2, u3, _⟩ := hO.rd hij
                  rw [Nat.zero_add, ← HU.out] at q0
                  rw [← HU.out] at u1 u3
                  go_simp
                  clear q0
                  refine hK.out _ _ trivial (fun hHeld => ?_)
                  clear hK K
                  try simp only [Act.put, List.setIfInBounds_toArray, List.set_cons_zero, List.set_cons_succ]
                  refine wpAnyH_ready (rs := [13]) (by kernel_rfl) (by simp) ?_
                  refine AllReadyH.cons (by simp only [List.getElem?_toArray, List.getElem?_cons_succ, List.getElem?_cons_zero]; rfl) (fun K hK => ?_) AllReadyH.nil
                  go_simp
                  go_wp2_with fail
                  refine (natMul_two tb pv qv Ap Aq cp cq w42 t0 t1 x3 z3 x1 x2 z1 z2 (by omega) (by omega) (by omega)).mono ?_
                  rintro e w43 ⟨Ar, dr, rfl, r1, r2, r3, kb⟩
                  replace hO := hO.on kb
                  replace hB := onS hB kb
                  replace x3 := x3.on kb
                  replace z3 := z3.on kb
                  replace t0 := cellS kb t0
                  replace t1 := cellS kb t1
                  replace u3 := u3.on kb
                  clear kb
                  refine hK.out _ _ trivial (fun hHeld => ?_)
                  clear hK K
                  try simp only [Act.put, List.setIfInBounds_toArray, List.set_cons_zero, List.set_cons_succ]
                  refine wpAnyH_ready (rs := [14]) (by kernel_rfl) (by simp) ?_
                  refine AllReadyH.cons (by simp only [List.getElem?_toArray, List.getElem?_cons_succ, List.getElem?_cons_zero]; rfl) (fun K hK => ?_) AllReadyH.nil
                  go_simp
                  obtain ⟨w44, hw⟩ : ∃ W, W = World.alloc w43 (Obj.cells #[Value.slice Au (dl u) du, Value.slice Ar (dl (pv * qv)) dr] 43) := ⟨_, rfl⟩
                  have kb : Below w43.heap.size w43 w44 := by rw [hw]; exact (Below.refl _ _).alloc (Nat.le_refl _) _
                  have t2 : w44.cell? ⟨w43.heap.size, 0, none⟩ = some (Value.slice Au (dl u) du) := by rw [hw]; simp
                  have t3 : w44.cell? ⟨w43.heap.size, 1, none⟩ = some (Value.slice Ar (dl (pv * qv)) dr) := by rw [hw]; simp
                  rw [← hw]
                  clear hw
                  obtain ⟨tc, htb⟩ : ∃ b, b = w43.heap.size := ⟨_, rfl⟩
                  rw [← htb] at t2 t3 ⊢
                  clear htb
                  replace hO := hO.on kb
                  replace hB := onS hB kb
                  replace x3 := x3.on kb
                  replace z3 := z3.on kb
                  replace t0 := cellS kb t0
                  replace t1 := cellS kb t1
                  replace u3 := u3.on kb
                  replace r3 := r3.on kb
                  clear kb
                  refine hK.out _ _ trivial (fun hHeld => ?_)
                  clear hK K
                  try simp only [Act.put, List.setIfInBounds_toArray, List.set_cons_zero, List.set_cons_succ]
                  refine wpAnyH_ready (rs := [15]) (by kernel_rfl) (by simp) ?_
                  refine AllReadyH.cons (by simp only [List.getElem?_toArray, List.getElem?_cons_succ, List.getElem?_cons_zero]; rfl) (fun K hK => ?_) AllReadyH.nil
                  go_simp
                  go_wp2_with fail
                  refine (natAdd_two tc u (pv * qv) Au Ar du dr w44 t2 t3 u3 r3 u1 u2 r1 r2 (by omega) (by omega) (by omega)).mono ?_
                  rintro e w45 ⟨As, ds, rfl, s1, s2, s3, kb⟩
                  replace hO := hO.on kb
                  replace hB := onS hB kb
                  replace x3 := x3.on kb
                  replace z3 := z3.on kb
                  replace t0 := cellS kb t0
                  replace t1 := cellS kb t1
                  replace u3 := u3.on kb
                  replace r3 := r3.on kb
                  replace t2 := cellS kb t2
                  replace t3 := cellS kb t3
                  clear kb
                  refine hK.out _ _ trivial (fun hHeld => ?_)
                  clear hK K
                  try simp only [Act.put, List.setIfInBounds_toArray, List.set_cons_zero, List.set_cons_succ]
                  refine wpAnyH_take (i := 16) (v := ?_) (by simp only [List.getElem?_toArray, List.getElem?_cons_succ, List.getElem?_cons_zero]; rfl) (by kernel_rfl) (by kernel_rfl) (by kernel_rfl) (by exact fun _ _ _ h => h) (Or.inl ⟨by rfl, ?_⟩) (by assumption) ?_
                  rotate_left
                  · (intro w hSw; (try dsimp only at hSw); go_simp); first | done | with_reducible rfl
                  try simp only [Act.put, List.setIfInBounds_toArray, List.set_cons_zero, List.set_cons_succ]
                  refine wpAnyH_ready (rs := [17]) (by kernel_rfl) (by simp) ?_
                  refine AllReadyH.cons (by simp only [List.getElem?_toArray, List.getElem?_cons_succ, List.getElem?_cons_zero]; rfl) (fun K hK => ?_) AllReadyH.nil
                  obtain ⟨A7, d7, q0, _, _, _, y9⟩ := hO.rd hij
                  have hO2 := hO.set hij s3 s1 s2
                  have hB2 := hB.setCell (p := ⟨g, 0 + (i + j), none⟩) (by show w2.heap.size ≤ g; rw [HG.out]; exact Nat.le_refl _) (.slice As (dl (u + pv * qv)) ds)
                  rw [Nat.zero_add] at hO2 hB2 q0 y9
                  go_simp
                  have HO2 := hid (hO2.congr fun k _ => HPUT.out k)
                  have HB2 := hid hB2
                  clear hO hB hO2 hB2 q0 y9
                  refine hK.out _ _ trivial (fun hHeld => ?_)
                  clear hK K
                  try simp only [Act.put, List.setIfInBounds_toArray, List.set_cons_zero, List.set_cons_succ]
                  refine wpAnyH_done (by kernel_rfl) ?_ _
                  clear hHeld
                  go_wp2
                  go_roundg (gk - 1)
                  case measure => omega
                  case rel => exact ⟨j + 1, by go_num, by omega, by omega, HO2.out, HB2.out⟩
                · go_simp
                  go_wp2_with fail
                  refine (natMul_two tb pv qv Ap Aq cp cq w42 t0 t1 x3 z3 x1 x2 z1 z2 (by omega) (by omega) (by omega)).mono ?_
                  rintro e w43 ⟨Ar, dr, rfl, r1, r2, r3, kb⟩
                  replace hO := hO.on kb
                  replace hB := onS hB kb
                  replace x3 := x3.on kb
                  replace z3 := z3.on kb
                  replace t0 := cellS kb t0
                  replace t1 := cellS kb t1
                  clear kb
                  refine hK.out _ _ trivial (fun hHeld => ?_)
                  clear hK K
                  try simp only [Act.put, List.setIfInBounds_toArray, List.set_cons_zero, List.set_cons_succ]
                  refine wpAnyH_ready (rs := [9]) (by kernel_rfl) (by simp) ?_
                  refine AllReadyH.cons (by simp only [List.getElem?_toArray, List.getElem?_cons_succ, List.getElem?_cons_zero]; rfl) (fun K hK => ?_) AllReadyH.nil
                  obtain ⟨Au, du, q0, u1, u2, u3, _⟩ := hO.rd hij
                  rw [Nat.zero_add, ← HU.out] at q0
                  rw [← HU.out] at u1 u3
                  go_simp
                  clear q0
                  refine hK.out _ _ trivial (fun hHeld => ?_)
                  clear hK K
                  try simp only [Act.put, List.setIfInBounds_toArray, List.set_cons_zero, List.set_cons_succ]
                  refine wpAnyH_ready (rs := [14]) (by kernel_rfl) (by simp) ?_
                  refine AllReadyH.cons (by simp only [List.getElem?_toArray, List.getElem?_cons_succ, List.getElem?_cons_zero]; rfl) (fun K hK => ?_) AllReadyH.nil
                  go_simp
                  obtain ⟨w44, hw⟩ : ∃ W, W = World.alloc w43 (Obj.cells #[Value.slice Au (dl u) du, Value.slice Ar (dl (pv * qv)) dr] 43) := ⟨_, rfl⟩
                  have kb : Below w43.heap.size w43 w44 := by rw [hw]; exact (Below.refl _ _).alloc (Nat.le_refl _) _
                  have t2 : w44.cell? ⟨w43.heap.size, 0, none⟩ = some (Value.slice Au (dl u) du) := by rw [hw]; simp
                  have t3 : w44.cell? ⟨w43.heap.size, 1, none⟩ = some (Value.slice Ar (dl (pv * qv)) dr) := by rw [hw]; simp
                  rw [← hw]
                  clear hw
                  obtain ⟨tc, htb⟩ : ∃ b, b = w43.heap.size := ⟨_, rfl⟩
                  rw [← htb] at t2 t3 ⊢
                  clear htb
                  replace hO := hO.on kb
                  replace hB := onS hB kb
                  replace x3 := x3.on kb
                  replace z3 := z3.on kb
                  replace t0 := cellS kb t0
                  replace t1 := cellS kb t1
                  replace r3 := r3.on kb
                  replace u3 := u3.on kb
                  clear kb
                  refine hK.out _ _ trivial (fun hHeld => ?_)
                  clear hK K
                  try simp only [Act.put, List.setIfInBounds_toArray, List.set_cons_zero, List.set_cons_succ]
                  refine wpAnyH_ready (rs := [15]) (by kernel_rfl) (by simp) ?_
                  refine AllReadyH.cons (by simp only [List.getElem?_toArray, List.getElem?_cons_succ, List.getElem?_cons_zero]; rfl) (fun K hK => ?_) AllReadyH.nil
                  go_simp
                  go_wp2_with fail
                  refine (natAdd_two tc u (pv * qv) Au Ar du dr w44 t2 t3 u3 r3 u1 u2 r1 r2 (by omega) (by omega) (by omega)).mono ?_
                  rintro e w45 ⟨As, ds, rfl, s1, s2, s3, kb⟩
                  replace hO := hO.on kb
                  replace hB := onS hB kb
                  replace x3 := x3.on kb
                  replace z3 := z3.on kb
                  replace t0 := cellS kb t0
                  replace t1 := cellS kb t1
                  replace r3 := r3.on kb
                  replace u3 := u3.on kb
                  replace t2 := cellS kb t2
                  replace t3 := cellS kb t3
                  clear kb
                  refine hK.out _ _ trivial (fun hHeld => ?_)
                  clear hK K
                  try simp only [Act.put, List.setIfInBounds_toArray, List.set_cons_zero, List.set_cons_succ]
                  refine wpAnyH_take (i := 16) (v := ?_) (by simp only [List.getElem?_toArray, List.getElem?_cons_succ, List.getElem?_cons_zero]; rfl) (by kernel_rfl) (by kernel_rfl) (by kernel_rfl) (by exact fun _ _ _ h => h) (Or.inl ⟨by rfl, ?_⟩) (by assumption) ?_
                  rotate_left
                  · (intro w hSw; (try dsimp only at hSw); go_simp); first | done | with_reducible rfl
                  try simp only [Act.put, List.setIfInBounds_toArray, List.set_cons_zero, List.set_cons_succ]
                  refine wpAnyH_ready (rs := [17]) (by kernel_rfl) (by simp) ?_
                  refine AllReadyH.cons (by simp only [List.getElem?_toArray, List.getElem?_cons_succ, List.getElem?_cons_zero]; rfl) (fun K hK => ?_) AllReadyH.nil
                  obtain ⟨A7, d7, q0, _, _, _, y9⟩ := hO.rd hij
                  have hO2 := hO.set hij s3 s1 s2
                  have hB2 := hB.setCell (p := ⟨g, 0 + (i + j), none⟩) (by show w2.heap.size ≤ g; rw [HG.out]; exact Nat.le_refl _) (.slice As (dl (u + pv * qv)) ds)
                  rw [Nat.zero_add] at hO2 hB2 q0 y9
                  go_simp
                  have HO2 := hid (hO2.congr fun k _ => HPUT.out k)
                  have HB2 := hid hB2
                  clear hO hB hO2 hB2 q0 y9
                  refine hK.out _ _ trivial (fun hHeld => ?_)
                  clear hK K
                  try simp only [Act.put, List.setIfInBounds_toArray, List.set_cons_zero, List.set_cons_succ]
                  refine wpAnyH_done (by kernel_rfl) ?_ _
                  clear hHeld
                  go_wp2
                  go_roundg (gk - 1)
                  case measure => omega
                  case rel => exact ⟨j + 1, by go_num, by omega, by omega, HO2.out, HB2.out⟩
            · have hltj' : ¬ (j : Int) < (b : Int) := by omega
              obtain rfl : j = b := by omega
              have hO2 := hid (hO.congr (y' := mulS p q j (i + 1)) fun k _ => mulT_all i k)
              clear hO
              go_wp2
              go_roundg (gK - 1)
              case measure => omega
              case rel => exact ⟨i + 1, by go_num, by omega, by omega, hO2.out, hB⟩
      · have hlt' : ¬ (i : Int) < (a : Int) := by omega
        obtain rfl : i = a := by omega
        have hO1 := hid (hO.congr (y' := M) fun k _ => (HM.out k).symm)
        clear hO
        obtain ⟨A9, c9, hv9, hc1, hc2, hT9⟩ := hO1.out.tab
        injection hv9 with hv9 _ hv8
        subst hv9 hv8
        go_wp2_with fail
        refine (enumerator_any (some ⟨g, 0, none⟩) m m M wr hT9 (by omega) fun k hk => by have := hs.out k; omega).mono ?_
        rintro e w5 ⟨v, rfl, hv, kb⟩
        have hB3 := hid (onS HW2.out (onS hB kb))
        have hv3 := hv.monoB (show w.heap.size ≤ wr.heap.size from Nat.le_trans HW2.out.size hB.size)
        have hsl := hid hv3
        obtain ⟨A8, c8, hv8⟩ := hv3.isSlice
        obtain ⟨d, hd⟩ : ∃ d, d = plen M m := ⟨_, rfl⟩
        have HD := hid hd
        rw [← hd] at hv8 hsl
        subst hv8
        have HOUT : Hid (∀ k, m ≤ k → M k = 0) := fun k hk => by rw [HM.out k]; exact mulS_out (by omega)
        clear hv hv3 hT9 kb hB hd hc1 hc2
        go_wp2
        go_ret
        exact HFN.out _ _ m (by rw [← HD.out]; exact hsl.out) HOUT.out (by omega) hB3.out _ rfl
set_option maxRecDepth 100000 in
set_option maxHeartbeats 8000000 in
theorem polyMul_any (A A2 : Option Addr) (n1 n2 c c2 : Nat) (p q : Nat → Nat) (w : World) (h : NatTab w w.heap.size A n1 p) (h2 : NatTab w w.heap.size A2 n2 q) (hn1 : n1 ≤ 1024) (hn2 : n2 ≤ 1024)
    (hp : Hid (∀ k, k < n1 → dl (p k) ≤ 1000000)) (hq : Hid (∀ k, k < n2 → dl (q k) ≤ 1000000)) (hs : Hid (∀ k, dl (mulP n1 n2 p q k) ≤ 1000000)) :
    Calls Try.prog 56 #[.slice A n1 c, .slice A2 n2 c2] w (PolPost (plen (mulP n1 n2 p q) (n1 + n2)) (mulP n1 n2 p q) w) := by
  have HM : Hid (∀ k, mulP n1 n2 p q k = mulS p q (plen q n2) (plen p n1) k) := fun _ => rfl
  obtain ⟨M, hM⟩ : ∃ M, M = mulP n1 n2 p q := ⟨_, rfl⟩
  rw [← hM] at HM hs ⊢
  clear hM
  go_enter Try.func56, Try.ntmps56
  go_wp2_with fail
  refine (poly_any A n1 c p w h (by omega) (fun k hk => by have := hp.out k hk; omega)).mono ?_
  rintro e w1 ⟨v1, rfl, hv1, kb⟩
  have hB1 := kb
  clear kb
  obtain ⟨A1, d1, e1, f1, f2, hT1⟩ := hv1.tab
  subst e1
  have HQ := hid h2
  clear hv1 h h2
  go_wp2_with fail
  refine (poly_any A2 n2 c2 q w1 (HQ.out.on hB1) (by omega) (fun k hk => by have := hq.out k hk; omega)).mono ?_
  rintro e w2 ⟨v2, rfl, hv2, kb⟩
  have hB2 := onS hB1 kb
  replace hT1 := hT1.on kb
  obtain ⟨A3, d3, e3, f3, f4, hT2⟩ := hv2.tab
  subst e3
  have hp1 := plen_le p n1
  have hq1 := plen_le q n2
  have HP : Hid (∀ k, k < plen p n1 → dl (p k) ≤ 1000000) := fun k hk => hp.out k (by omega)
  have HQ2 : Hid (∀ k, k < plen q n2 → dl (q k) ≤ 1000000) := fun k hk => hq.out k (by omega)
  obtain ⟨a, ha⟩ : ∃ a, a = plen p n1 := ⟨_, rfl⟩
  obtain ⟨b, hb⟩ : ∃ b, b = plen q n2 := ⟨_, rfl⟩
  rw [← ha] at hp1 f1 hT1 HP HM ⊢
  rw [← hb] at hq1 f3 hT2 HQ2 HM ⊢
  have HT1 := hid hT1
  have HT2 := hid hT2
  have HFN : Hid (∀ (W : World) (r : Value) (d : Nat), NatOwn W w.heap.size r (plen M d) M → (∀ k, d ≤ k → M k = 0) → d ≤ n1 + n2 → Below w.heap.size w W → ∀ e, e = .returned r → PolPost (plen M (n1 + n2)) M w e W) := fun W r d h1 h2 h3 h4 e he => by
    rw [plen_more h3 fun k a1 _ => h2 k a1]
    exact ⟨r, he, h1, h4⟩
  clear hv2 kb hB1 ha hb hT1 hT2 hp hq
  obtain ⟨m, hm⟩ : ∃ m, m = a + b := ⟨_, rfl⟩
  have hmi : (a : Int) + (b : Int) = (m : Int) := by omega
  have hmab : a + b = m := by omega
  have hmk := fun W => run_makeI (P := Try.prog) 39 43 _ 24 Try.underlying39 Try.infoNat rfl (m : Int) (by omega) (by omega) (by omega) W
  simp only [Int.toNat_natCast] at hmk
  have hO := natOwn_made (w := w2) (base := w2.heap.size) (n := m) (Nat.le_refl _) (by unfold maxLen; omega)
  have kb3 : Below w2.heap.size w2 (w2.alloc (Obj.cells (madeCells #[Value.slice none 0 0] m) 43)) := (Below.refl _ _).alloc (Nat.le_refl _) _
  clear hm
  go_upto_region 4 with fail
  obtain ⟨w3, hw3⟩ : ∃ W, W = w2.alloc (Obj.cells (madeCells #[Value.slice none 0 0] m) 43) := ⟨_, rfl⟩
  obtain ⟨g, hg⟩ : ∃ b, b = w2.heap.size := ⟨_, rfl⟩
  have HG := hid hg
  have HW2 := hid hB2
  rw [← hw3] at hO kb3 ⊢
  rw [← hg]
  have hO0 : NatOwn w3 w2.heap.size (.slice (some ⟨g, 0, none⟩) m m) m (mulS p q b 0) := by
    rw [hg]
    exact hO
  clear hw3 hO hmk hg hB2
  go_wp2
  go_loopg [6] a (fun gg iv wx => ∃ i : Nat, iv = .int .i64 (i : Nat) ∧ i ≤ a ∧ a ≤ i + gg ∧ NatOwn wx w2.heap.size (.slice (some ⟨g, 0, none⟩) m m) m (mulS p q b i) ∧ Below w2.heap.size w2 wx)
  case atStart => exact ⟨0, rfl, by omega, by omega, hO0, kb3⟩
  case round =>
    clear hO0 kb3
    obtain ⟨gK, hgK⟩ : ∃ g, g = gk := ⟨_, rfl⟩
    subst hgK
    obtain ⟨i, rfl, hi, hig, hO, hB⟩ := hrel
    have hi0 : (0 : Int) ≤ (i : Int) := by omega
    by_cases hlt : i < a
    · have hlt' : (i : Int) < (a : Int) := by omega
      obtain ⟨pb, po, Ap, cp, rfl, hpb, x0, x1, x2, x3⟩ := natTab_at HT1.out hlt
      have hdp := HP.out i hlt
      obtain ⟨pv, hpv⟩ : ∃ v, v = p i := ⟨_, rfl⟩
      have HPV := hid hpv
      rw [← hpv] at x0 x1 x3 hdp
      have HX3 := hid x3
      have HX0 := hid x0
      clear hpv x0 x3
      have hOT := hO.congr (y' := mulT p q b i 0) fun k _ => (mulT_zero i k).symm
      clear hO
      go_wp2
      go_loopg [7] b (fun gg jv wx => ∃ j : Nat, jv = .int .i64 (j : Nat) ∧ j ≤ b ∧ b ≤ j + gg ∧ NatOwn wx w2.heap.size (.slice (some ⟨g, 0, none⟩) m m) m (mulT p q b i j) ∧ Below w2.heap.size w2 wx)
      case atStart => exact ⟨0, rfl, by omega, by omega, hOT, hB⟩
      case round =>
        clear hOT hB
        obtain ⟨j, rfl, hj, hjg, hO, hB⟩ := hrel
        have hj0 : (0 : Int) ≤ (j : Int) := by omega
        obtain ⟨w40, hw40⟩ : ∃ W, W = wr := ⟨_, rfl⟩
        subst hw40
        by_cases hltj : j < b
        · have hltj' : (j : Int) < (b : Int) := by omega
          obtain ⟨qb, qo, Aq, cq, rfl, hqb, z0, z1, z2, z3⟩ := natTab_at (HT2.out.on hB) hltj
          have hdq := HQ2.out j hltj
          have hpr : dl (p i * q j) ≤ 1000000 := Nat.le_trans (dl_mono (by rw [HM.out]; exact mul_term_le hlt hltj)) (hs.out (i + j))
          have hcu : dl (mulT p q b i j (i + j)) ≤ 1000000 := Nat.le_trans (dl_mono (by rw [HM.out]; exact mulT_le hlt hj (i + j))) (hs.out (i + j))
          have hsu : dl (mulT p q b i j (i + j) + p i * q j) ≤ 1000000 := by
            have h1 := mulT_put (p := p) (q := q) (b := b) i j (i + j)
            unfold updN at h1
            rw [if_pos rfl] at h1
            rw [h1]
            exact Nat.le_trans (dl_mono (by rw [HM.out]; exact mulT_le hlt hltj (i + j))) (hs.out (i + j))
          obtain ⟨qv, hqv⟩ : ∃ v, v = q j := ⟨_, rfl⟩
          obtain ⟨u, hu⟩ : ∃ u, u = mulT p q b i j (i + j) := ⟨_, rfl⟩
          have HU := hid hu
          have HPUT : Hid (∀ k, updN (mulT p q b i j) (i + j) (u + pv * qv) k = mulT p q b i (j + 1) k) := fun k => by
            rw [hu, HPV.out, hqv]
            exact mulT_put i j k
          rw [← hqv] at z0 z1 z3 hdq hpr hsu
          rw [← HPV.out] at hpr hsu
          rw [← hu] at hcu hsu
          have hij : i + j < m := by omega
          have hij' : (i : Int) + (j : Int) < (m : Int) := by omega
          have hij0 : (0 : Int) ≤ (i : Int) + (j : Int) := by omega
          have hijw : IntKind.i64.wrap ((i : Int) + (j : Int)) = (i : Int) + (j : Int) := IntWalk.i64_in _ (by omega)
          have hijt : ((i : Int) + (j : Int)).toNat = i + j := by omega
          have x3 := HX3.out.on hB
          clear hu hqv
          have x0 := cellS hB HX0.out
          go_upto_region 10 with fail
          have hpg : pb ≠ g := by have := HG.out; omega
          have hqg : qb ≠ g := by
            obtain ⟨b9, o9, A9, c9, e9, h9, _⟩ := HT2.out j hltj
            injection e9 with e9
            injection e9 with e9
            have := HG.out
            omega
          refine wp_region_held_drew (S := fun w' => w'.cell? ⟨pb, po + i, none⟩ = some (.slice Ap (dl pv) cp) ∧ w'.cell? ⟨qb, qo + j, none⟩ = some (.slice Aq (dl qv) cq)) (by kernel_rfl) ⟨cellS (Below.refl _ _).drew x0, cellS (Below.refl _ _).drew z0⟩ (fun hHeld => ?_)
          obtain ⟨w41, hw⟩ : ∃ W, W = World.drew w40 := ⟨_, rfl⟩
          have kb : Below w40.heap.size w40 w41 := by rw [hw]; exact (Below.refl _ _).drew
          rw [← hw] at hHeld ⊢
          clear hw
          replace hO := hO.on kb
          replace hB := onS hB kb
          replace x3 := x3.on kb
          replace z3 := z3.on kb
          replace x0 := cellS kb x0
          replace z0 := cellS kb z0
          clear kb
          refine wpAnyH_take (i := 0) (v := ?_) (by simp only [List.getElem?_toArray, List.getElem?_cons_zero]; rfl) (by kernel_rfl) (by kernel_rfl) (by kernel_rfl) (by exact fun _ _ _ h => h) (Or.inl ⟨by rfl, ?_⟩) (by assumption) ?_
          rotate_left
          · (intro w hSw; (try dsimp only at hSw); go_simp); first | done | with_reducible rfl
          try simp only [Act.put, List.setIfInBounds_toArray, List.set_cons_zero, List.set_cons_succ]
          refine wpAnyH_take (i := 1) (v := ?_) (by simp only [List.getElem?_toArray, List.getElem?_cons_succ, List.getElem?_cons_zero]; rfl) (by kernel_rfl) (by kernel_rfl) (by kernel_rfl) (by exact fun _ _ _ h => h) (Or.inl ⟨by rfl, ?_⟩) (by assumption) ?_
          rotate_left
          · (intro w hSw; (try dsimp only at hSw); go_simp); first | done | with_reducible rfl
          try simp only [Act.put, List.setIfInBounds_toArray, List.set_cons_zero, List.set_cons_succ]
          refine wpAnyH_take (i := 2) (v := ?_) (by simp only [List.getElem?_toArray, List.getElem?_cons_succ, List.getElem?_cons_zero]; rfl) (by kernel_rfl) (by kernel_rfl) (by kernel_rfl) (by exact fun _ _ _ h => h) (Or.inl ⟨by rfl, ?_⟩) (by assumption) ?_
          rotate_left
          · (intro w hSw; (try dsimp only at hSw); go_simp); first | done | with_reducible rfl
          try simp only [Act.put, List.setIfInBounds_toArray, List.set_cons_zero, List.set_cons_succ]
          refine wpAnyH_take (i := 3) (v := ?_) (by simp only [List.getElem?_toArray, List.getElem?_cons_succ, List.getElem?_cons_zero]; rfl) (by kernel_rfl) (by kernel_rfl) (by kernel_rfl) (by exact fun _ _ _ h => h) (Or.inl ⟨by rfl, ?_⟩) (by assumption) ?_
          rotate_left
          · (intro w hSw; (try dsimp only at hSw); go_simp); first | done | with_reducible rfl
          try simp only [Act.put, List.setIfInBounds_toArray, List.set_cons_zero, List.set_cons_succ]
          refine wpAnyH_take (i := 4) (v := ?_) (by simp only [List.getElem?_toArray, List.getElem?_cons_succ, List.getElem?_cons_zero]; rfl) (by kernel_rfl) (by kernel_rfl) (by kernel_rfl) (by exact fun _ _ _ h => h) (Or.inl ⟨by rfl, ?_⟩) (by assumption) ?_
          rotate_left
          · (intro w hSw; (try dsimp only at hSw); go_simp); first | done | with_reducible rfl
          try simp only [Act.put, List.setIfInBounds_toArray, List.set_cons_zero, List.set_cons_succ]
          refine wpAnyH_take (i := 5) (v := ?_) (by simp only [List.getElem?_toArray, List.getElem?_cons_succ, List.getElem?_cons_zero]; rfl) (by kernel_rfl) (by kernel_rfl) (by kernel_rfl) (by exact fun _ _ _ h => h) (Or.inl ⟨by rfl, ?_⟩) (by assumption) ?_
          rotate_left
          · (intro w hSw; (try dsimp only at hSw); go_simp); first | done | with_reducible rfl
          try simp only [Act.put, List.setIfInBounds_toArray, List.set_cons_zero, List.set_cons_succ]
          refine wpAnyH_take (i := 6) (v := ?_) (by simp only [List.getElem?_toArray, List.getElem?_cons_succ, List.getElem?_cons_zero]; rfl) (by kernel_rfl) (by kernel_rfl) (by kernel_rfl) (by exact fun _ _ _ h => h) (Or.inl ⟨by rfl, ?_⟩) (by assumption) ?_
          rotate_left
          · (intro w hSw; (try dsimp only at hSw); go_simp); first | done | with_reducible rfl
          try simp only [Act.put, List.setIfInBounds_toArray, List.set_cons_zero, List.set_cons_succ]
          refine wpAnyH_take (i := 7) (v := ?_) (by simp only [List.getElem?_toArray, List.getElem?_cons_succ, List.getElem?_cons_zero]; rfl) (by kernel_rfl) (by kernel_rfl) (by kernel_rfl) (by exact fun _ _ _ h => h) (Or.inl ⟨by rfl, ?_⟩) (by assumption) ?_
          rotate_left
          · (intro w hSw; (try dsimp only at hSw); go_simp); first | done | with_reducible rfl
          try simp only [Act.put, List.setIfInBounds_toArray, List.set_cons_zero, List.set_cons_succ]
          refine wpAnyH_take (i := 8) (v := ?_) (by simp only [List.getElem?_toArray, List.getElem?_cons_succ, List.getElem?_cons_zero]; rfl) (by kernel_rfl) (by kernel_rfl) (by kernel_rfl) (by exact fun _ _ _ h => h) (Or.inl ⟨by rfl, ?_⟩) (by assumption) ?_
          rotate_left
          · (intro w hSw; (try dsimp only at hSw); go_simp); first | done | with_reducible rfl
          try simp only [Act.put, List.setIfInBounds_toArray, List.set_cons_zero, List.set_cons_succ]
          refine wpAnyH_take (i := 10) (v := ?_) (by simp only [List.getElem?_toArray, List.getElem?_cons_succ, List.getElem?_cons_zero]; rfl) (by kernel_rfl) (by kernel_rfl) (by kernel_rfl) (by exact fun _ _ _ h => h) (Or.inl ⟨by rfl, ?_⟩) (by assumption) ?_
          rotate_left
          · (intro w hSw; (try dsimp only at hSw); go_simp); first | done | with_reducible rfl
          try simp only [Act.put, List.setIfInBounds_toArray, List.set_cons_zero, List.set_cons_succ]
          refine wpAnyH_take (i := 11) (v := ?_) (by simp only [List.getElem?_toArray, List.getElem?_cons_succ, List.getElem?_cons_zero]; rfl) (by kernel_rfl) (by kernel_rfl) (by kernel_rfl) (by exact fun _ _ _ h => h) (Or.inl ⟨by rfl, ?_⟩) (by assumption) ?_
          rotate_left
          · (intro w hSw; (try dsimp only at hSw); go_simp); first | done | with_reducible rfl
          try simp only [Act.put, List.setIfInBounds_toArray, List.set_cons_zero, List.set_cons_succ]
          refine wpAnyH_take (i := 12) (v := ?_) (by simp only [List.getElem?_toArray, List.getElem?_cons_succ, List.getElem?_cons_zero]; rfl) (by kernel_rfl) (by kernel_rfl) (by kernel_rfl) (by exact fun _ _ _ h => h) (Or.inl ⟨by rfl, ?_⟩) (by assumption) ?_
          rotate_left
          · (intro w hSw; (try dsimp only at hSw); go_simp); first | done | with_reducible rfl
          try simp only [Act.put, List.setIfInBounds_toArray, List.set_cons_zero, List.set_cons_succ]
          refine wpAnyH_take (i := 13) (v := ?_) (by simp only [List.getElem?_toArray, List.getElem?_cons_succ, List.getElem?_cons_zero]; rfl) (by kernel_rfl) (by kernel_rfl) (by kernel_rfl) (by exact fun _ _ _ h => h) (Or.inl ⟨by rfl, ?_⟩) (by assumption) ?_
          rotate_left
          · (intro w hSw; (try dsimp only at hSw); go_simp); first | done | with_reducible rfl
          try simp only [Act.put, List.setIfInBounds_toArray, List.set_cons_zero, List.set_cons_succ]
          refine wpAnyH_take (i := 14) (v := ?_) (by simp only [List.getElem?_toArray, List.getElem?_cons_succ, List.getElem?_cons_zero]; rfl) (by kernel_rfl) (by kernel_rfl) (by kernel_rfl) (by exact fun _ _ _ h => h) (Or.inl ⟨by rfl, ?_⟩) (by assumption) ?_
          rotate_left
          · (intro w hSw; (try dsimp only at hSw); go_simp); first | done | with_reducible rfl
          try simp only [Act.put, List.setIfInBounds_toArray, List.set_cons_zero, List.set_cons_succ]
          refine wpAnyH_take (i := 15) (v := ?_) (by simp only [List.getElem?_toArray, List.getElem?_cons_succ, List.getElem?_cons_zero]; rfl) (by kernel_rfl) (by kernel_rfl) (by kernel_rfl) (by exact fun _ _ _ h => h) (Or.inl ⟨by rfl, ?_⟩) (by assumption) ?_
          rotate_left
          · (intro w hSw; (try dsimp only at hSw); go_simp); first | done | with_reducible rfl
          try simp only [Act.put, List.setIfInBounds_toArray, List.set_cons_zero, List.set_cons_succ]
          refine wpAnyH_take (i := 16) (v := ?_) (by simp only [List.getElem?_toArray, List.getElem?_cons_succ, List.getElem?_cons_zero]; rfl) (by kernel_rfl) (by kernel_rfl) (by kernel_rfl) (by exact fun _ _ _ h => h) (Or.inl ⟨by rfl, ?_⟩) (by assumption) ?_
          rotate_left
          · (intro w hSw; (try dsimp only at hSw); go_simp); first | done | with_reducible rfl
          try simp only [Act.put, List.setIfInBounds_toArray, List.set_cons_zero, List.set_cons_succ]
          refine wpAnyH_take (i := 17) (v := ?_) (by simp only [List.getElem?_toArray, List.getElem?_cons_succ, List.getElem?_cons_zero]; rfl) (by kernel_rfl) (by kernel_rfl) (by kernel_rfl) (by exact fun _ _ _ h => h) (Or.inl ⟨by rfl, ?_⟩) (by assumption) ?_
          rotate_left
          · (intro w hSw; (try dsimp only at hSw); go_simp); first | done | with_reducible rfl
          try simp only [Act.put, List.setIfInBounds_toArray, List.set_cons_zero, List.set_cons_succ]
          refine wpAnyH_ready (rs := [9, 18]) (by kernel_rfl) (by simp) ?_
          refine AllReadyH.cons (by simp only [List.getElem?_toArray, List.getElem?_cons_succ, List.getElem?_cons_zero]; rfl) (fun K hK => ?_) (AllReadyH.cons (by simp only [List.getElem?_toArray, List.getElem?_cons_succ, List.getElem?_cons_zero]; rfl) (fun K hK => ?_) AllReadyH.nil)
          · obtain ⟨Au, du, q0, u1, u2, u3, _⟩ := hO.rd hij
            rw [Nat.zero_add, ← HU.out] at q0
            rw [← HU.out] at u1 u3
            go_simp
            clear q0
            refine hK.out _ _ ⟨x0, z0⟩ (fun hHeld => ?_)
            clear hK K
            try simp only [Act.put, List.setIfInBounds_toArray, List.set_cons_zero, List.set_cons_succ]
            refine wpAnyH_ready (rs := [18]) (by kernel_rfl) (by simp) ?_
            refine AllReadyH.cons (by simp only [List.getElem?_toArray, List.getElem?_cons_succ, List.getElem?_cons_zero]; rfl) (fun K hK => ?_) AllReadyH.nil
            go_simp
            go_wp2_with fail
            refine (refMul_nat Ap Aq cp cq pv qv w41 x3 z3 (by omega) (by omega)).mono ?_
            rintro e w42 ⟨Ar, dr, rfl, r1, r2, r3, kb⟩
            replace hO := hO.on kb
            replace hB := onS hB kb
            replace x3 := x3.on kb
            replace z3 := z3.on kb
            replace x0 := cellS kb x0
            replace z0 := cellS kb z0
            replace u3 := u3.on kb
            clear kb
            refine hK.out _ _ ⟨x0, z0⟩ (fun hHeld => ?_)
            clear hK K
            try simp only [Act.put, List.setIfInBounds_toArray, List.set_cons_zero, List.set_cons_succ]
            refine wpAnyH_ready (rs := [19]) (by kernel_rfl) (by simp) ?_
            refine AllReadyH.cons (by simp only [List.getElem?_toArray, List.getElem?_cons_succ, List.getElem?_cons_zero]; rfl) (fun K hK => ?_) AllReadyH.nil
            go_simp
            go_wp2_with fail
            refine (refAdd_nat Au Ar du dr u (pv * qv) w42 u3 r3 (by omega) (by omega)).mono ?_
            rintro e w43 ⟨As, ds, rfl, s1, s2, s3, kb⟩
            replace hO := hO.on kb
            replace hB := onS hB kb
            replace x3 := x3.on kb
            replace z3 := z3.on kb
            replace x0 := cellS kb x0
            replace z0 := cellS kb z0
            replace u3 := u3.on kb
            replace r3 := r3.on kb
            clear kb
            refine hK.out _ _ ⟨x0, z0⟩ (fun hHeld => ?_)
            clear hK K
            try simp only [Act.put, List.setIfInBounds_toArray, List.set_cons_zero, List.set_cons_succ]
            refine wpAnyH_take (i := 20) (v := ?_) (by simp only [List.getElem?_toArray, List.getElem?_cons_succ, List.getElem?_cons_zero]; rfl) (by kernel_rfl) (by kernel_rfl) (by kernel_rfl) (by exact fun _ _ _ h => h) (Or.inl ⟨by rfl, ?_⟩) (by assumption) ?_
            rotate_left
            · (intro w hSw; (try dsimp only at hSw); go_simp); first | done | with_reducible rfl
            try simp only [Act.put, List.setIfInBounds_toArray, List.set_cons_zero, List.set_cons_succ]
            refine wpAnyH_ready (rs := [21]) (by kernel_rfl) (by simp) ?_
            refine AllReadyH.cons (by simp only [List.getElem?_toArray, List.getElem?_cons_succ, List.getElem?_cons_zero]; rfl) (fun K hK => ?_) AllReadyH.nil
            obtain ⟨A7, d7, q0, _, _, _, y9⟩ := hO.rd hij
            have hO2 := hO.set hij s3 s1 s2
            have hB2 := hB.setCell (p := ⟨g, 0 + (i + j), none⟩) (by show w2.heap.size ≤ g; rw [HG.out]; exact Nat.le_refl _) (.slice As (dl (u + pv * qv)) ds)
            rw [Nat.zero_add] at hO2 hB2 q0 y9
            go_simp
            replace x0 := cell_setCell_far (p := ⟨g, i + j, none⟩) (u := .slice As (dl (u + pv * qv)) ds) x0 hpg
            replace z0 := cell_setCell_far (p := ⟨g, i + j, none⟩) (u := .slice As (dl (u + pv * qv)) ds) z0 hqg
            have HO2 := hid (hO2.congr fun k _ => HPUT.out k)
            have HB2 := hid hB2
            clear hO hB hO2 hB2 q0 y9
            refine hK.out _ _ ⟨x0, z0⟩ (fun hHeld => ?_)
            clear hK K
            try simp only [Act.put, List.setIfInBounds_toArray, List.set_cons_zero, List.set_cons_succ]
            refine wpAnyH_done (by kernel_rfl) ?_ _
            clear hHeld
            clear x0 z0
            go_wp2
            go_roundg (gk - 1)
            case measure => omega
            case rel => exact ⟨j + 1, by go_num, by omega, by omega, HO2.out, HB2.out⟩
          · go_simp
            go_wp2_with fail
            refine (refMul_nat Ap Aq cp cq pv qv w41 x3 z3 (by omega) (by omega)).mono ?_
            rintro e w42 ⟨Ar, dr, rfl, r1, r2, r3, kb⟩
            replace hO := hO.on kb
            replace hB := onS hB kb
            replace x3 := x3.on kb
            replace z3 := z3.on kb
            replace x0 := cellS kb x0
            replace z0 := cellS kb z0
            clear kb
            refine hK.out _ _ ⟨x0, z0⟩ (fun hHeld => ?_)
            clear hK K
            try simp only [Act.put, List.setIfInBounds_toArray, List.set_cons_zero, List.set_cons_succ]
            refine wpAnyH_ready (rs := [9]) (by kernel_rfl) (by simp) ?_
            refine AllReadyH.cons (by simp only [List.getElem?_toArray, List.getElem?_cons_succ, List.getElem?_cons_zero]; rfl) (fun K hK => ?_) AllReadyH.nil
            obtain ⟨Au, du, q0, u1, u2, u3, _⟩ := hO.rd hij
            rw [Nat.zero_add, ← HU.out] at q0
            rw [← HU.out] at u1 u3
            go_simp
            clear q0
            refine hK.out _ _ ⟨x0, z0⟩ (fun hHeld => ?_)
            clear hK K
            try simp only [Act.put, List.setIfInBounds_toArray, List.set_cons_zero, List.set_cons_succ]
            refine wpAnyH_ready (rs := [19]) (by kernel_rfl) (by simp) ?_
            refine AllReadyH.cons (by simp only [List.getElem?_toArray, List.getElem?_cons_succ, List.getElem?_cons_zero]; rfl) (fun K hK => ?_) AllReadyH.nil
            go_simp
            go_wp2_with fail
            refine (refAdd_nat Au Ar du dr u (pv * qv) w42 u3 r3 (by omega) (by omega)).mono ?_
            rintro e w43 ⟨As, ds, rfl, s1, s2, s3, kb⟩
            replace hO := hO.on kb
            replace hB := onS hB kb
            replace x3 := x3.on kb
            replace z3 := z3.on kb
            replace x0 := cellS kb x0
            replace z0 := cellS kb z0
            replace r3 := r3.on kb
            replace u3 := u3.on kb
            clear kb
            refine hK.out _ _ ⟨x0, z0⟩ (fun hHeld => ?_)
            clear hK K
            try simp only [Act.put, List.setIfInBounds_toArray, List.set_cons_zero, List.set_cons_succ]
            refine wpAnyH_take (i := 20) (v := ?_) (by simp only [List.getElem?_toArray, List.getElem?_cons_succ, List.getElem?_cons_zero]; rfl) (by kernel_rfl) (by kernel_rfl) (by kernel_rfl) (by exact fun _ _ _ h => h) (Or.inl ⟨by rfl, ?_⟩) (by assumption) ?_
            rotate_left
            · (intro w hSw; (try dsimp only at hSw); go_simp); first | done | with_reducible rfl
            try simp only [Act.put, List.setIfInBounds_toArray, List.set_cons_zero, List.set_cons_succ]
            refine wpAnyH_ready (rs := [21]) (by kernel_rfl) (by simp) ?_
            refine AllReadyH.cons (by simp only [List.getElem?_toArray, List.getElem?_cons_succ, List.getElem?_cons_zero]; rfl) (fun K hK => ?_) AllReadyH.nil
            obtain ⟨A7, d7, q0, _, _, _, y9⟩ := hO.rd hij
            have hO2 := hO.set hij s3 s1 s2
            have hB2 := hB.setCell (p := ⟨g, 0 + (i + j), none⟩) (by show w2.heap.size ≤ g; rw [HG.out]; exact Nat.le_refl _) (.slice As (dl (u + pv * qv)) ds)
            rw [Nat.zero_add] at hO2 hB2 q0 y9
            go_simp
            replace x0 := cell_setCell_far (p := ⟨g, i + j, none⟩) (u := .slice As (dl (u + pv * qv)) ds) x0 hpg
            replace z0 := cell_setCell_far (p := ⟨g, i + j, none⟩) (u := .slice As (dl (u + pv * qv)) ds) z0 hqg
            have HO2 := hid (hO2.congr fun k _ => HPUT.out k)
            have HB2 := hid hB2
            clear hO hB hO2 hB2 q0 y9
            refine hK.out _ _ ⟨x0, z0⟩ (fun hHeld => ?_)
            clear hK K
            try simp only [Act.put, List.setIfInBounds_toArray, List.set_cons_zero, List.set_cons_succ]
            refine wpAnyH_done (by kernel_rfl) ?_ _
            clear hHeld
            clear x0 z0
            go_wp2
            go_roundg (gk - 1)
            case measure => omega
            case rel => exact ⟨j + 1, by go_num, by omega, by omega, HO2.out, HB2.out⟩
        · have hltj' : ¬ (j : Int) < (b : Int) := by omega
          obtain rfl : j = b := by omega
          have hO2 := hid (hO.congr (y' := mulS p q j (i + 1)) fun k _ => mulT_all i k)
          clear hO
          go_wp2
          go_roundg (gK - 1)
          case measure => omega
          case rel => exact ⟨i + 1, by go_num, by omega, by omega, hO2.out, hB⟩
    · have hlt' : ¬ (i : Int) < (a : Int) := by omega
      obtain rfl : i = a := by omega
      have hO1 := hid (hO.congr (y' := M) fun k _ => (HM.out k).symm)
      clear hO
      obtain ⟨A9, c9, hv9, hc1, hc2, hT9⟩ := hO1.out.tab
      injection hv9 with hv9 _ hv8
      subst hv9 hv8
      go_wp2_with fail
      refine (poly_any (some ⟨g, 0, none⟩) m m M wr hT9 (by omega) fun k hk => by have := hs.out k; omega).mono ?_
      rintro e w5 ⟨v, rfl, hv, kb⟩
      have hB3 := hid (onS HW2.out (onS hB kb))
      have hv3 := hv.monoB (show w.heap.size ≤ wr.heap.size from Nat.le_trans HW2.out.size hB.size)
      have hsl := hid hv3
      obtain ⟨A8, c8, hv8⟩ := hv3.isSlice
      obtain ⟨d, hd⟩ : ∃ d, d = plen M m := ⟨_, rfl⟩
      have HD := hid hd
      rw [← hd] at hv8 hsl
      subst hv8
      have HOUT : Hid (∀ k, m ≤ k → M k = 0) := fun k hk => by rw [HM.out k]; exact mulS_out (by omega)
      clear hv hv3 hT9 kb hB hd hc1 hc2
      go_wp2
      go_ret
      exact HFN.out _ _ m (by rw [← HD.out]; exact hsl.out) HOUT.out (by omega) hB3.out _ rfl
end Go.Proofs.Ytnocbkhnmdmfhaa
