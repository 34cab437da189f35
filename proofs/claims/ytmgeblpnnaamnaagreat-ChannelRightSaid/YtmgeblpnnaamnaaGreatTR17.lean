/- Merged texts of a claim: Right, RightLaw. -/
import Derived.Test.YtmgeblpnnaamnaaGreatTR12
import Derived.Test.YtmgeblpnnaamnaaGreatTR14
import Derived.Test.YtmgeblpnnaamnaaGreatTR16
namespace Go.Proofs.YtmgeblpnnaamnaaGreat
set_option maxRecDepth 100000
set_option maxHeartbeats 32000000
open Go.RowKit Go.ChangeShapes Go.WideShapes Go.ChangeAt
def hornN (q:Nat) (s:Nat->Nat):Nat->Nat
 | 0=>0
 | i+1=>hornN q s i*q+s i
theorem hornN_lt {q:Nat} {s:Nat->Nat}:∀ {a:Nat},(∀ i,i<a->s i<q)->hornN q s a<q ^ a
 | 0,_=>by show 0<1; omega
 | a+1,h=>by
  have h1:=hornN_lt (a:=a) fun i hi=>h i (by omega)
  have h2:=h a (by omega)
  show hornN q s a*q+s a<q ^ (a+1)
  have h3:(hornN q s a+1)*q<=q ^ a*q:=Nat.mul_le_mul_right q h1
  rw [Nat.add_mul,Nat.one_mul] at h3
  rw [Nat.pow_succ]
  omega
theorem hornN_inj {q:Nat} {s t:Nat->Nat}:∀ {a:Nat},(∀ i,i<a->s i<q)->(∀ i,i<a->t i<q)->(hornN q s a=hornN q t a↔∀ i,i<a->s i=t i)
 | 0,_,_=>⟨fun _ i hi=>absurd hi (by omega),fun _=>rfl⟩
 | a + 1, h, h' => by
  have ih:=hornN_inj (a:=a) (fun i hi=>h i (by omega)) (fun i hi=>h' i (by omega))
  have h1:=h a (by omega)
  have h2:=h' a (by omega)
  have hq:0<q:=by omega
  show hornN q s a*q+s a=hornN q t a*q+t a↔_
  constructor
  ·intro e
   have e1:(hornN q s a*q+s a) % q=(hornN q t a*q+t a) % q:=by rw [e]
   rw [Nat.add_comm,Nat.add_mul_mod_self_right,Nat.mod_eq_of_lt h1,Nat.add_comm,Nat.add_mul_mod_self_right,Nat.mod_eq_of_lt h2] at e1
   rw [e1] at e
   have e2:hornN q s a=hornN q t a:=Nat.eq_of_mul_eq_mul_right hq (by omega)
   intro i hi
   by_cases e3:i=a
   ·rw [e3]; exact e1
   ·exact ih.1 e2 i (by omega)
  ·intro e
   rw [ih.2 fun i hi=>e i (by omega),e a (by omega)]
theorem dotN_comm {q:Nat} {add mul:Nat->Nat->Nat} (hL:FieldLaws q add mul) {a b:Nat->Nat}:∀ n,(∀ i,i<n->a i<q/\b i<q)->dotN add mul a b n=dotN add mul b a n
 | 0,_=>rfl
 | n+1,h=>by
  show add (dotN add mul a b n) (mul (a n) (b n))=add (dotN add mul b a n) (mul (b n) (a n))
  rw [dotN_comm hL n fun i hi=>h i (by omega),hL.mulComm _ _ (h n (by omega)).1 (h n (by omega)).2]
theorem TabE.rows {row:Nat->List (Prop × Int)}:∀ {t:Nat},TabE row t 0->∀ u,u<t->FirstErr (row u) 0
 | 0,_,u,hu=>absurd hu (by omega)
 | t + 1, h, u, hu => by
  rcases h with ⟨h1,_⟩ | ⟨h1,h2⟩
  ·exact absurd rfl h1
  ·by_cases e:u=t
   ·rw [e]; exact h2
   ·exact TabE.rows h1 u (by omega)
theorem dis_ix {q a N:Nat} {add mul:Nat->Nat->Nat} {W:Nat->Nat->Nat} {U:Nat->Nat->Int} (hL:FieldLaws q add mul) (hW:∀ i,i<a->∀ j,j<N->W i j<q) {u t:Nat} (hu:AllIn q N (U u)) (ht:AllIn q N (U t)) :
  disT a (synT add mul W N U) u t↔hornN q (fun i=>dotN add mul (W i) (fun j=>(U u j).toNat) N) a≠hornN q (fun i=>dotN add mul (W i) (fun j=>(U t j).toNat) N) a:=by
 have key:∀ v,AllIn q N (U v)->∀ i,i<a->synT add mul W N U v i=dotN add mul (W i) (fun j=>(U v j).toNat) N:=fun v hv i hi=>dotN_comm hL N fun j hj=>⟨by have:=hv j hj; show (U v j).toNat<q; omega,hW i hi j hj⟩
 rw [ne_eq,hornN_inj (fun i _=>dotN_lt hL _ _ _) (fun i _=>dotN_lt hL _ _ _)]
 constructor
 ·rintro ⟨i,hi,hne⟩ h
  exact hne (by rw [key u hu i hi,key t ht i hi]; exact h i hi)
 ·intro h
  by_cases hx:disT a (synT add mul W N U) u t
  ·exact hx
  ·refine absurd (fun i hi=>?_) h
   by_cases e:synT add mul W N U u i=synT add mul W N U t i
   ·rw [<-key u hu i hi,<-key t ht i hi]; exact e
   ·exact absurd ⟨i,hi,e⟩ hx
def RightPost (P M:Int) (k:Nat) (f:Nat->Int) (N:Int) (n:Nat) (ln:Nat->Nat) (V:Nat->Nat->Int) (m:Nat) (tl:Nat->Nat) (U:Nat->Nat->Int) (w:World) (e:Ending) (w':World):Prop :=
 Below w.heap.size w w'/\∃ v:Int,((v≠0/\FirstErr (CodeErrs P M k f N n ln V) v) ∨
  (FirstErr (CodeErrs P M k f N n ln V) 0/\∃ (P' M' N' a:Nat) (W:Nat->Nat->Nat),P=P'/\M=M'/\N=N'/\NullRel (P' ^ M') (addF P' M') (mulF P' M' fun i=>(f i).toNat) (negF P' M') n N' (natT V) a W /\
   TabV (P' ^ M') N' n m tl U (disT a (synT (addF P' M') (mulF P' M' fun i=>(f i).toNat) W N' U)) v)) /\
  ((v≠0/\e=.returned (.tuple #[.slice none 0 0,.int .i64 v])) ∨
   (v=0/\∀ P' M' N':Nat,P=P'->M=M'->N=N'->∃ A c,e=.returned (.tuple #[.slice A (wtP (P' ^ M') N' (wcnt N' U m) (N'+1)).1 c,.int .i64 0])/\RatList w' w'.heap.size A (wtP (P' ^ M') N' (wcnt N' U m) (N'+1)).1 (wtP (P' ^ M') N' (wcnt N' U m) (N'+1)).2))
theorem right_any (P M:Int) (A:Option Addr) (k c:Nat) (f:Nat->Int) (N:Int) (T:Option Addr) (n d:Nat) (ln:Nat->Nat) (V:Nat->Nat->Int) (T2:Option Addr) (m d2:Nat) (tl:Nat->Nat) (U:Nat->Nat->Int) (w:World) (hr:IntsR w w.heap.size A k f) (h:IntRows w T n ln V) (h2:IntRows w T2 m tl U) (hkc:k<=c) (hm:m<=1048576) :
  Calls Tryz.prog 38 #[.agg #[.int .i64 P,.int .i64 M,.slice A k c,.int .i64 N,.slice T n d],.slice T2 m d2] w (RightPost P M k f N n ln V m tl U w):=by
 have HT:=hid h
 have HR:=hid hr
 have H2:=hid h2
 clear h hr h2
 have rf:=codBox_row (w:=w) (a:=.int .i64 P) (b:=.int .i64 M) (c:=.slice A k c) (d:=.int .i64 N) (e:=.slice T n d) (T := 27)
 have hB:Below w.heap.size w (w.alloc (.cells #[.int .i64 P,.int .i64 M,.slice A k c,.int .i64 N,.slice T n d] 27)):=(Below.refl _ _).alloc (Nat.le_refl _) _
 obtain ⟨w1,hw1⟩:∃ W,W=w.alloc (.cells #[.int .i64 P,.int .i64 M,.slice A k c,.int .i64 N,.slice T n d] 27):=⟨_,rfl⟩
 rw [<-hw1] at hB rf
 go_enter Tryz.func38, Tryz.ntmps38
 go_upto_region 1 with fail
 rw [<-hw1]
 clear hw1
 have q0:w1.cell? ⟨w.heap.size,0,none⟩=some (.int .i64 P):=rf.cell (i:=0) (by omega)
 have q1:w1.cell? ⟨w.heap.size,1,none⟩=some (.int .i64 M):=rf.cell (i:=1) (by omega)
 have q2:w1.cell? ⟨w.heap.size,2,none⟩=some (.slice A k c):=rf.cell (i:=2) (by omega)
 have q3:w1.cell? ⟨w.heap.size,3,none⟩=some (.int .i64 N):=rf.cell (i:=3) (by omega)
 have q4:w1.cell? ⟨w.heap.size,4,none⟩=some (.slice T n d):=rf.cell (i:=4) (by omega)
 go_wp2_with fail
 refine (cdual_any P M A k c f N T n d ln V w1 (HR.out.on hB) (HT.out.on hB) hkc).mono ?_
 rintro e w2 ⟨kb,v,hv,hcase⟩
 have HV:=hid hv
 have hBs1:=hB.size
 replace rf:=rowIs_on rf kb
 replace hB:=onS hB kb
 clear kb hv q0 q1 q2 q3 q4
 rcases hcase with ⟨hv0,rfl⟩ | ⟨rfl,P',M',N',rfl,rfl,rfl,hD⟩
 ·have hvn:(v != 0)=true:=by simpa using hv0
  have HV0:=hid hv0
  clear hv0
  have hB2:=hB.alloc hB.size (.cells #[.int .i64 0,.int .i64 0,.slice none 0 0,.int .i64 0,.slice none 0 0] 27)
  have HB2:=hid hB2
  clear hB2 hB rf
  go_wp2
  go_ret2
  exact ⟨HB2.out,v,.inl ⟨HV0.out,HV.out⟩,.inl ⟨HV0.out,rfl⟩⟩
 ·obtain ⟨dv,lv,a,W,rfl,hdO,hM,_,hrel⟩:=hD
  obtain ⟨P2,M2,N2,hP2,hM2,hN2,hC⟩:=codeR_of HR.out HT.out HV.out
  obtain rfl:P'=P2:=by omega
  obtain rfl:M'=M2:=by omega
  obtain rfl:N'=N2:=by omega
  clear hP2 hM2 hN2
  have HC:=hid hC
  have hN:=hC.ln2
  have hN1:=hC.ln1
  have hL:=fieldLaws hC.fld
  have hP0:0<P':=by have:=hC.fld.1.1; omega
  have hfo:=hC.fld.1
  have hq256:=hfo.2.2.2
  have hq2:=hL.two
  have hcnt:=hrel.count hL (fun x _=>⟨negF_lt hP0,addF_negF hP0⟩) hC.rref
  have HREL:=hid hrel
  have HWL:=hid hrel.rref.choose_spec.lt
  have HL:=hid hL
  obtain ⟨DA,dc,hdv⟩:=hdO.shape
  subst hdv
  obtain ⟨LA,lc,hlv⟩:=hM.shape
  subst hlv
  clear hC hrel hL hdO
  obtain ⟨m',hm'⟩:∃ x,x=fun i=>(f i).toNat:=⟨_,rfl⟩
  rw [<-hm'] at HC HREL HL
  have HMM:=hid hm'
  clear hm'
  obtain ⟨q,hqd⟩:∃ q,q=P' ^ M':=⟨_,rfl⟩
  rw [<-hqd] at hq256 hq2 HWL
  have HQ:=hid hqd
  clear hqd
  obtain ⟨b6,hb6⟩:∃ b,b=w2.heap.size:=⟨_,rfl⟩
  have rd:=codBox_row (w:=w2) (a:=.int .i64 (P':Nat)) (b:=.int .i64 (M':Nat)) (c:=.slice DA k dc) (d:=.int .i64 (N':Nat)) (e:=.slice LA a lc) (T := 27)
  have kb:Below w2.heap.size w2 (w2.alloc (.cells #[.int .i64 (P':Nat),.int .i64 (M':Nat),.slice DA k dc,.int .i64 (N':Nat),.slice LA a lc] 27)):=(Below.refl _ _).alloc (Nat.le_refl _) _
  obtain ⟨w3,hw3⟩:∃ W,W=w2.alloc (.cells #[.int .i64 (P':Nat),.int .i64 (M':Nat),.slice DA k dc,.int .i64 (N':Nat),.slice LA a lc] 27):=⟨_,rfl⟩
  rw [<-hw3] at rd kb
  go_upto_region 4 with fail
  rw [<-hw3,<-hb6]
  rw [<-hb6] at rd
  clear hw3 hb6
  have HM:=hid (hM.on kb)
  replace rf:=rowIs_on rf kb
  replace hB:=onS hB kb
  clear kb hM
  have q0:w3.cell? ⟨w.heap.size,0,none⟩=some (.int .i64 (P':Nat)):=rf.cell (i:=0) (by omega)
  have q1:w3.cell? ⟨w.heap.size,1,none⟩=some (.int .i64 (M':Nat)):=rf.cell (i:=1) (by omega)
  have q2:w3.cell? ⟨w.heap.size,2,none⟩=some (.slice A k c):=rf.cell (i:=2) (by omega)
  go_wp2_with fail
  refine (gfNew_any (P':Int) (M':Int) A k c f w3 (HR.out.on hB)).mono ?_
  rintro e w4 ⟨kb,hcase⟩
  rcases hcase with ⟨hbad,_⟩ | ⟨_,g,P2,M2,hP2,hM2,rfl,_,hG⟩
  ·refine absurd ?_ hbad
   rcases HV.out with ⟨_,h9⟩ | ⟨h1,_⟩
   ·cases h9
   ·exact h1
  obtain rfl:P'=P2:=by omega
  obtain rfl:M'=M2:=by omega
  have HG:=hid hG.gf
  rw [<-HMM.out] at HG
  replace HM:=hid (HM.out.on kb)
  replace rf:=rowIs_on rf kb
  replace rd:=rowIs_on rd kb
  replace hB:=onS hB kb
  clear kb q0 q1 q2 hP2 hM2 hG
  obtain ⟨C,hC⟩:∃ C,C=q ^ a:=⟨_,rfl⟩
  have HCC:=hid hC
  clear hC
  obtain ⟨w9,hw9⟩:∃ W,W=w4:=⟨_,rfl⟩
  go_wp2
  clear hw9 w9
  go_cut [7,10] (fun v7 v10 wx=>((v7=.int .i64 0/\v10=.int .i64 (C:Nat)/\C<=65536)∨(v7=.int .i64 8/\65536<C))/\Below w4.heap.size w4 wx)
  case first =>
   refine wp_region_held_drew (S:=fun w'=>w'.cell? ⟨b6,4,none⟩=some (.slice LA a lc)) (by kernel_rfl) (cellS (Below.refl _ _).drew (rd.cell (i:=4) (by omega))) (fun hHeld=>?_)
   obtain ⟨w5,hw⟩:∃ W,W=World.drew w4:=⟨_,rfl⟩
   have kb:Below w4.heap.size w4 w5:=by rw [hw]; exact (Below.refl _ _).drew
   rw [<-hw] at hHeld ⊢
   clear hw
   refine tkq 0 (h:=tkq 2 (h:=tkq 3 (h:=tkq 4 (h:=?_))))
   refine rdq 1 (h:=fun K hK=>?_)
   go_simp
   go_wp2_with fail
   refine (gfOrd_any (HG.out.on kb)).mono ?_
   rintro e w6 ⟨rfl,kb2⟩
   rw [<-HQ.out]
   replace kb:=onS kb kb2
   clear kb2
   refine bkq hK (cellS kb (rd.cell (i:=4) (by omega))) (h:=fun hHeld=>?_)
   clear hK K
   refine rdq 5 (h:=fun K hK=>?_)
   go_simp
   go_wp2_with fail
   refine (exp_any q a 65536 w6 hq2 (by omega) (by omega) (by omega) (by omega)).mono ?_
   rintro e w7 ⟨hE,kb2⟩
   replace kb:=onS kb kb2
   clear kb2
   rcases hE with ⟨hE,rfl⟩ | ⟨hE,rfl⟩
   ·rw [<-HCC.out] at hE ⊢
    refine bkq hK (cellS kb (rd.cell (i:=4) (by omega))) (h:=fun hHeld=>?_)
    clear hK K
    refine tkq 6 (h:=tkq 7 (h:=tkq 8 (h:=tkq 9 (h:=tkq 10 (h:=?_)))))
    refine wpAnyH_done (by kernel_rfl) ?_ _
    clear hHeld
    go_wp2
    go_meet
    exact ⟨.inl ⟨rfl,rfl,hE⟩,kb⟩
   ·rw [<-HCC.out] at hE
    refine bkq hK (cellS kb (rd.cell (i:=4) (by omega))) (h:=fun hHeld=>?_)
    clear hK K
    refine tkq 6 (h:=tkq 7 (h:=tkq 8 (h:=tkq 9 (h:=tkq 10 (h:=?_)))))
    refine wpAnyH_done (by kernel_rfl) ?_ _
    clear hHeld
    go_wp2
    go_meet
    exact ⟨.inr ⟨rfl,hE⟩,kb⟩
  case rest =>
   obtain ⟨hcase,kb⟩:=hcut
   have HPV:Hid (∀ v:Int,TabV q N' n m tl U (disT a (synT (addF P' M') (mulF P' M' m') W N' U)) v->FirstErr (CodeErrs (P':Int) (M':Int) k f (N':Int) n ln V) 0/\∃ (P2 M2 N2 a:Nat) (W:Nat->Nat->Nat),(P':Int)=P2/\(M':Int)=M2/\(N':Int)=N2/\NullRel (P2 ^ M2) (addF P2 M2) (mulF P2 M2 fun i=>(f i).toNat) (negF P2 M2) n N2 (natT V) a W /\
     TabV (P2 ^ M2) N2 n m tl U (disT a (synT (addF P2 M2) (mulF P2 M2 fun i=>(f i).toNat) W N2 U)) v):=fun v hv=>⟨HV.out,P',M',N',a,W,rfl,rfl,rfl,by rw [<-HMM.out]; exact HREL.out,by rw [<-HMM.out,<-HQ.out]; exact hv⟩
   have HCOS:Hid (C<=65536->cosN q (N' - n)=C):=fun h=>by
    show cosN q (N' - n)=C
    rw [show N' - n=a by omega]
    unfold cosN
    rw [<-HCC.out,if_pos h]
   replace HG:=hid (HG.out.on kb)
   replace HM:=hid (HM.out.on kb)
   replace rf:=rowIs_on rf kb
   replace rd:=rowIs_on rd kb
   replace hB:=onS hB kb
   clear kb
   rcases hcase with ⟨rfl,rfl,hC⟩ | ⟨rfl,hC⟩
   ·have hC0:0<C:=by rw [HCC.out]; exact Nat.pow_pos (by omega)
    by_cases hmC:m=C
    ·have hmC':((m:Int) != (C:Int))=false:=by simp [hmC]
     have HMC:=hid hmC
     clear hmC
     have HB5:=hid hB
     have HRF:=hid rf
     have HRD:=hid rd
     obtain ⟨w5,hw5⟩:∃ X,X=wc:=⟨_,rfl⟩
     subst hw5
     obtain ⟨w9,hw9⟩:∃ W,W=w5:=⟨_,rfl⟩
     go_wp2
     clear hw9 w9
     go_cut [11,12] (fun v11 v12 wx=>∃ sb cb:Nat,v11=.slice (some ⟨sb,0,none⟩) C C/\v12=.slice (some ⟨cb,0,none⟩) (N'+1) (N'+1)/\w5.heap.size<=sb/\w5.heap.size<=cb/\sb≠cb/\Hid (wx.rowIs sb 4 C (fun _=>.bool false))/\Hid (wx.rowIs cb 3 (N'+1) (fun _=>.int .i64 0))/\Below w5.heap.size w5 wx)
     case first =>
      have hmk1:=fun X=>run_makeI (P:=Tryz.prog) 123 4 _ 1 Tryz.underlying123 Tryz.infoBool rfl (C:Int) (by omega) (by omega) (by omega) X
      have hmk2:=fun X=>run_makeI (P:=Tryz.prog) 22 3 _ 8 Tryz.underlying22 Tryz.infoInt rfl ((N':Int)+1) (by omega) (by omega) (by omega) X
      simp only [show ((N':Int)+1).toNat=N'+1 by omega,Int.toNat_natCast] at hmk1 hmk2
      have hwN:IntKind.i64.wrap ((N':Int)+1)=(N':Int)+1:=IntWalk.i64_in _ (by omega)
      refine wp_region_held_drew (S:=fun w'=>w'.cell? ⟨w.heap.size,3,none⟩=some (.int .i64 (N':Nat))) (by kernel_rfl) (cellS (Below.refl _ _).drew (rf.cell (i:=3) (by omega))) (fun hHeld=>?_)
      obtain ⟨w6,hw⟩:∃ W,W=World.drew w5:=⟨_,rfl⟩
      have kb:Below w5.heap.size w5 w6:=by rw [hw]; exact (Below.refl _ _).drew
      rw [<-hw] at hHeld ⊢
      clear hw
      refine tkq 0 (h:=tkq 2 (h:=tkq 3 (h:=tkq 4 (h:=?_))))
      refine rdq2 1 5 (h:=fun K hK=>?_) (h2:=fun K hK=>?_)
      ·go_simp
       have r1:=World.rowIs_made w6 (.bool false) C 4
       have kb2:Below w6.heap.size w6 (w6.alloc (.cells (madeCells #[.bool false] C) 4)):=(Below.refl _ _).alloc (Nat.le_refl _) _
       obtain ⟨w7,hw⟩:∃ W,W=w6.alloc (.cells (madeCells #[.bool false] C) 4):=⟨_,rfl⟩
       rw [<-hw] at r1 kb2 ⊢
       clear hw
       have hs1:=kb.size
       have hl1:=r1.lt
       obtain ⟨sb,hsb⟩:∃ b,b=w6.heap.size:=⟨_,rfl⟩
       rw [<-hsb] at r1 hl1 ⊢
       replace kb:=onS kb kb2
       clear kb2
       refine bkq hK (cellS kb (rf.cell (i:=3) (by omega))) (h:=fun hHeld=>?_)
       clear hK K
       refine tkq 6 (h:=?_)
       refine rdq 5 (h:=fun K hK=>?_)
       go_simp
       have r2:=World.rowIs_made w7 (.int .i64 0) (N'+1) 3
       have kb2:Below w7.heap.size w7 (w7.alloc (.cells (madeCells #[.int .i64 0] (N'+1)) 3)):=(Below.refl _ _).alloc (Nat.le_refl _) _
       obtain ⟨w8,hw⟩:∃ W,W=w7.alloc (.cells (madeCells #[.int .i64 0] (N'+1)) 3):=⟨_,rfl⟩
       rw [<-hw] at r2 kb2 ⊢
       clear hw
       have hs2:=kb.size
       have r1b:=rowIs_on r1 kb2
       replace kb:=onS kb kb2
       clear kb2
       refine bkq hK (cellS kb (rf.cell (i:=3) (by omega))) (h:=fun hHeld=>?_)
       clear hK K
       refine tkq 7 (h:=?_)
       refine wpAnyH_done (by kernel_rfl) ?_ _
       clear hHeld
       go_wp2
       go_meet
       exact ⟨sb,_,by rw [hsb],rfl,by omega,hs2,by omega,r1b,r2,kb⟩
      ·go_simp
       have r1:=World.rowIs_made w6 (.int .i64 0) (N'+1) 3
       have kb2:Below w6.heap.size w6 (w6.alloc (.cells (madeCells #[.int .i64 0] (N'+1)) 3)):=(Below.refl _ _).alloc (Nat.le_refl _) _
       obtain ⟨w7,hw⟩:∃ W,W=w6.alloc (.cells (madeCells #[.int .i64 0] (N'+1)) 3):=⟨_,rfl⟩
       rw [<-hw] at r1 kb2 ⊢
       clear hw
       have hs1:=kb.size
       have hl1:=r1.lt
       obtain ⟨cb,hcb⟩:∃ b,b=w6.heap.size:=⟨_,rfl⟩
       rw [<-hcb] at r1 hl1 ⊢
       replace kb:=onS kb kb2
       clear kb2
       refine bkq hK (cellS kb (rf.cell (i:=3) (by omega))) (h:=fun hHeld=>?_)
       clear hK K
       refine rdq 1 (h:=fun K hK=>?_)
       go_simp
       have r2:=World.rowIs_made w7 (.bool false) C 4
       have kb2:Below w7.heap.size w7 (w7.alloc (.cells (madeCells #[.bool false] C) 4)):=(Below.refl _ _).alloc (Nat.le_refl _) _
       obtain ⟨w8,hw⟩:∃ W,W=w7.alloc (.cells (madeCells #[.bool false] C) 4):=⟨_,rfl⟩
       rw [<-hw] at r2 kb2 ⊢
       clear hw
       have hs2:=kb.size
       have r1b:=rowIs_on r1 kb2
       replace kb:=onS kb kb2
       clear kb2
       refine bkq hK (cellS kb (rf.cell (i:=3) (by omega))) (h:=fun hHeld=>?_)
       clear hK K
       refine tkq 6 (h:=tkq 7 (h:=?_))
       refine wpAnyH_done (by kernel_rfl) ?_ _
       clear hHeld
       go_wp2
       go_meet
       exact ⟨_,cb,rfl,by rw [hcb],hs2,by omega,by omega,r2,r1b,kb⟩
     case rest =>
      clear hB rf rd
      obtain ⟨sb,cb,rfl,rfl,hsb,hcb,hne,HSB,HCB,kb⟩:=hcut
      have hCm:C=m:=HMC.out.symm
      subst hCm
      -- the number of row t
      obtain ⟨ix,hix⟩:∃ ix:Nat->Nat,ix=fun t=>hornN q (fun i=>dotN (addF P' M') (mulF P' M' m') (W i) (fun j=>(U t j).toNat) N') a:=⟨_,rfl⟩
      have HIX:Hid (∀ t,ix t<C):=fun t=>by
       rw [hix,HCC.out]
       exact hornN_lt fun i hi=>by rw [HQ.out]; exact dotN_lt HL.out _ _ _
      have HIX2:=hid hix
      clear hix
      obtain ⟨w9,hw9⟩:∃ X,X=wc:=⟨_,rfl⟩
      subst hw9
      go_wp2
      go_loopg [58] C (fun gg iv wx=>∃ (t:Nat) (sn:Nat->Bool),iv=.int .i64 (t:Nat)/\t<=C/\C<=t+gg/\Hid (∀ i,sn i=true↔∃ u,u<t/\ix u=i)/\Hid (TabE (RowErrs q N' tl U (disT a (synT (addF P' M') (mulF P' M' m') W N' U))) t 0)/\Hid (wx.rowIs sb 4 C (fun i=>.bool (sn i)))/\Hid (wx.rowIs cb 3 (N'+1) (fun i=>.int .i64 (wcnt N' U t i:Nat)))/\Below w5.heap.size w5 wx)
      case atStart=>exact ⟨0,fun _=>false,rfl,by omega,by omega,fun i=>⟨fun h=>(by cases h),fun h=>(by obtain ⟨u,hu,_⟩:=h; exact absurd hu (by omega))⟩,rfl,HSB,HCB.out.congr fun t _=>rfl,kb⟩
      case round =>
       obtain ⟨t,sn,rfl,ht,htg,HSN,HTE,HSB,HCB,hB⟩:=hrel
       have ht0:(0:Int)<=(t:Int):=by omega
       by_cases hlt:t<C
       ·have hlt' : (t : Int) < (C : Int) := by omega
        obtain ⟨tb,to0,RA,rc,hTe,htb,t0,htl,hrcm,hrow,_⟩:=H2.out t hlt
        subst hTe
        have hB0:=onS HB5.out hB
        replace t0:=(hB0.cell (p:=⟨tb,to0+t,none⟩) htb).trans t0
        have HROW:=hid hrow
        clear hrow
        obtain ⟨l,hl⟩:∃ x,x=tl t:=⟨_,rfl⟩
        rw [<-hl] at htl t0 HROW
        have HLT:=hid hl
        clear hl
        unfold maxLen at hrcm
        have q3:wr.cell? ⟨w.heap.size,3,none⟩=some (.int .i64 (N':Nat)):=(rowIs_on HRF.out hB).cell (i:=3) (by omega)
        obtain ⟨gO,hgO⟩:∃ x,x=gk:=⟨_,rfl⟩
        subst hgO
        obtain ⟨w6,hw6⟩:∃ X,X=wr:=⟨_,rfl⟩
        subst hw6
        have HTV:Hid (∀ v:Int,v≠0->TabE (RowErrs q N' tl U (disT a (synT (addF P' M') (mulF P' M' m') W N' U))) (t+1) v->TabV q N' n C tl U (disT a (synT (addF P' M') (mulF P' M' m') W N' U)) v):=fun v hv hE=>.inr ⟨by rw [HCOS.out hC]; omega,.inr ⟨by rw [HCOS.out hC],hE.later hv (by omega)⟩⟩
        by_cases hlN:l=N'
        ·subst hlN
         have hlN':((l:Int) != (l:Int))=false:=by simp
         have HB6:=hid hB
         obtain ⟨w9,hw9⟩:∃ W,W=w6:=⟨_,rfl⟩
         go_wp2
         clear hw9 w9 hB hB0
         go_loopg [15,69] l (fun gg nv iv wx=>∃ j u:Nat,nv=.int .i64 (u:Nat)/\iv=.int .i64 (j:Nat)/\j<=l/\l<=j+gg/\u<=j/\Hid (u=disN (U t) (fun _=>0) j)/\Hid (∀ i,i<j->0<=U t i/\U t i<q)/\Below w6.heap.size w6 wx)
         case atStart=>exact ⟨0,0,rfl,rfl,by omega,by omega,by omega,rfl,fun i hi=>absurd hi (by omega),Below.refl _ _⟩
         case round =>
          obtain ⟨j,u,rfl,rfl,hj,hjg,huj,HU,HAI,hB⟩:=hrel
          have hj0:(0:Int)<=(j:Int):=by omega
          by_cases hjl:j<l
          ·have hjl':(j:Int)<(l:Int):=by omega
           have hB0:=onS HB5.out (onS HB6.out hB)
           obtain ⟨xb,xo,rfl,hxb,x0⟩:=HROW.out.at hjl
           replace x0:=(hB0.cell (p:=⟨xb,xo+j,none⟩) hxb).trans x0
           obtain ⟨x,hx⟩:∃ x,x=U t j:=⟨_,rfl⟩
           rw [<-hx] at x0
           have HX:=hid hx
           clear hx
           obtain ⟨w7,hw7⟩:∃ X,X=wr:=⟨_,rfl⟩
           subst hw7
           go_wp2_with fail
           refine (gfIs_any x (HG.out.on (onS HB6.out hB))).mono ?_
           rintro e w8 ⟨rfl,kb⟩
           rw [<-HQ.out]
           replace hB:=onS hB kb
           clear kb hB0 x0
           by_cases hin:0<=x/\x<q
           ·have hd:isB q x=true:=by unfold isB; simpa using hin
            have HAI2:Hid (∀ i,i<j+1->0<=U t i/\U t i<q):=fun i hi=>by
             by_cases e:i=j
             ·rw [e,<-HX.out]; exact hin
             ·exact HAI.out i (by omega)
            by_cases hx0:x=0
            ·have hx0':(x != 0)=false:=by simp [hx0]
             have HU2:Hid (u=disN (U t) (fun _=>0) (j+1)):=by
              show u=disN (U t) (fun _=>0) j+(if U t j=0 then 0 else 1)
              rw [if_pos (by rw [<-HX.out]; exact hx0),HU.out,Nat.add_zero]
             clear hx0 hin
             go_wp2
             go_roundg (gk - 1)
             case measure=>omega
             case rel=>exact ⟨j+1,u,rfl,by go_num,by omega,by omega,by omega,HU2,HAI2,hB⟩
            ·have hx0':(x != 0)=true:=by simpa using hx0
             have HU2:Hid (u+1=disN (U t) (fun _=>0) (j+1)):=by
              show u+1=disN (U t) (fun _=>0) j+(if U t j=0 then 0 else 1)
              rw [if_neg (by rw [<-HX.out]; exact hx0),HU.out]
             clear hx0 hin
             go_wp2
             go_roundg (gk - 1)
             case measure=>omega
             case rel=>exact ⟨j+1,u+1,by go_num,by go_num,by omega,by omega,by omega,HU2,HAI2,hB⟩
           ·have hd:isB q x=false:=by unfold isB; simpa using hin
            have HT2:=hid (HTV.out 2 (by omega) (.inr ⟨HTE.out,.inr ⟨HLT.out.symm,.inl ⟨fun h=>hin (by rw [HX.out]; exact h j (by rw [<-HLT.out]; exact hjl)),rfl⟩⟩⟩))
            have HB0:=hid (onS HB5.out (onS HB6.out hB))
            clear hin hB
            go_wp2
            go_ret2
            exact ⟨HB0.out,2,.inr (HPV.out 2 HT2.out),.inl ⟨by omega,rfl⟩⟩
          ·have hjl':¬ (j:Int)<(l:Int):=by omega
           obtain rfl:l=j:=by omega
           obtain ⟨ug,hug⟩:∃ x:Nat,x=u:=⟨_,rfl⟩
           have HUG:=hid hug
           clear hug
           have HB7:=hid (onS HB6.out hB)
           have hd4:wr.cell? ⟨b6,4,none⟩=some (.slice LA a lc):=(rowIs_on HRD.out HB7.out).cell (i:=4) (by omega)
           obtain ⟨w7,hw7⟩:∃ X,X=wr:=⟨_,rfl⟩
           subst hw7
           obtain ⟨w9,hw9⟩:∃ W,W=w7:=⟨_,rfl⟩
           go_wp2
           have HB67:=hid hB
           clear hw9 w9 hB hd4
           go_loopg [18,85] a (fun gg nv iv wx=>∃ i x:Nat,nv=.int .i64 (x:Nat)/\iv=.int .i64 (i:Nat)/\i<=a/\a<=i+gg/\x<C/\Hid (x=hornN q (fun i=>dotN (addF P' M') (mulF P' M' m') (W i) (fun j=>(U t j).toNat) l) i)/\Below w7.heap.size w7 wx)
           case atStart=>exact ⟨0,0,rfl,rfl,by omega,by omega,by omega,rfl,Below.refl _ _⟩
           case round =>
            obtain ⟨i,x,rfl,rfl,hi,hig,hxC,HX,hB⟩:=hrel
            have hi0:(0:Int)<=(i:Int):=by omega
            by_cases hia:i<a
            ·have hia':(i:Int)<(a:Int):=by omega
             obtain ⟨rb,ro,RB,rbc,hQe,_,_,r0,_,hri⟩:=HM.out.row hia
             subst hQe
             have hBx:=onS HB7.out hB
             have hB0:=onS HB5.out hBx
             replace r0:=cellS hBx r0
             have hra:=(hri.on hBx).rd rfl
             have hrb:IntsR wr wr.heap.size RA l (fun j=>(((U t j).toNat:Nat):Int)):=(HROW.out.on hB0).congr fun j hj=>by have:=(HAI.out j hj).1; show U t j=(((U t j).toNat:Nat):Int); omega
             have hbq:∀ j,j<l->(U t j).toNat<P' ^ M':=fun j hj=>by have:=HAI.out j hj; have h9:=HQ.out; omega
             have haq:∀ j,j<l->W i j<P' ^ M':=fun j hj=>by rw [<-HQ.out]; exact HWL.out i hia j hj
             have hG:=HG.out.on hBx
             have HRA:=hid hra
             have HRB:=hid hrb
             have HBQ:=hid hbq
             have HAQ:=hid haq
             have HGG:=hid hG
             clear hra hrb hbq haq hG hri hB0 hBx
             obtain ⟨w8,hw8⟩:∃ X,X=wr:=⟨_,rfl⟩
             subst hw8
             go_wp2_with fail
             refine (gfOrd_any HGG.out).mono ?_
             rintro e w9 ⟨rfl,kb⟩
             rw [<-HQ.out]
             have HK:=hid kb
             replace hB:=onS hB kb
             clear kb
             have hxq0:0<=(x:Int)*(q:Int):=Int.mul_nonneg (by omega) (by omega)
             have hxq1:(x:Int)*(q:Int)<=16777216:=by
              have h9:x*q<=16777216:=Nat.mul_le_mul (show x<=65536 by omega) hq256
              rw [<-Int.natCast_mul]
              omega
             go_wp2_with fail
             refine (gfDot_any l RB RA rbc rc (W i) (fun j=>(U t j).toNat) (HGG.out.on HK.out) (IntsR.on HRA.out HK.out) (HRB.out.on HK.out) HAQ.out HBQ.out (by omega)).mono ?_
             rintro e w10 ⟨rfl,kb⟩
             replace hB:=onS hB kb
             clear kb
             obtain ⟨y,hy⟩:∃ y,y=dotN (addF P' M') (mulF P' M' m') (W i) (fun j=>(U t j).toNat) l:=⟨_,rfl⟩
             rw [<-hy]
             have hyq:y<q:=by rw [hy,HQ.out]; exact dotN_lt HL.out _ _ _
             have HXN:Hid (x*q+y=hornN q (fun i=>dotN (addF P' M') (mulF P' M' m') (W i) (fun j=>(U t j).toNat) l) (i+1)):=by
              show x*q+y=hornN q _ i*q+_
              rw [HX.out,hy]
             have hxN:x*q+y<C:=by
              rw [HXN.out,HCC.out]
              refine Nat.lt_of_lt_of_le (hornN_lt fun i hi=>by rw [HQ.out]; exact dotN_lt HL.out _ _ _) (Nat.pow_le_pow_right (by omega) (by omega))
             clear hy
             go_wp2
             go_roundg (gk - 1)
             case measure=>omega
             case rel=>exact ⟨i+1,x*q+y,by push_cast; go_num,by go_num,by omega,by omega,hxN,HXN,hB⟩
            ·have hia':¬ (i:Int)<(a:Int):=by omega
             obtain rfl:a=i:=by omega
             have hxi:x=ix t:=by rw [HIX2.out]; exact HX.out
             have HXI:=hid hxi
             have HAT:Hid (AllIn q l (U t)):=HAI.out
             have HDU:Hid (∀ u,u<t->(disT a (synT (addF P' M') (mulF P' M' m') W l U) u t↔ix u≠x)):=fun u hu=>by
              have hr:=HTE.out.rows u hu
              rcases hr with ⟨_,h9⟩ | ⟨h1,⟨_,h9⟩ | ⟨h2,_⟩⟩
              ·cases h9
              ·cases h9
              ·rw [hxi,HIX2.out]
               refine dis_ix (q:=q) (by rw [HQ.out]; exact HL.out) HWL.out ?_ HAT.out
               rw [<-h1]; exact h2
             have hkb:=onS HB67.out hB
             have HSB1:=hid (rowIs_on HSB.out hkb)
             have HCB1:=hid (rowIs_on HCB.out hkb)
             have HBB:=hid (onS HB6.out hkb)
             have c0:=HSB1.out.cell (i:=x) hxC
             have z0:=HSB1.out.frozen x
             obtain ⟨sx,hsx⟩:∃ b,b=sn x:=⟨_,rfl⟩
             rw [<-hsx] at c0
             have HSX:=hid hsx
             clear hsx hxi hkb hB
             obtain ⟨w8,hw8⟩:∃ X,X=wr:=⟨_,rfl⟩
             subst hw8
             cases sx with
             | true =>
              have HT18:=hid (HTV.out 18 (by omega) (.inr ⟨HTE.out,.inr ⟨HLT.out.symm,.inr ⟨by rw [<-HLT.out]; exact HAT.out,.inl ⟨fun h=>by
               obtain ⟨u,hu,e⟩:=(HSN.out x).1 HSX.out.symm
               exact (HDU.out u hu).1 (h u hu) e,rfl⟩⟩⟩⟩))
              have HB0:=hid (onS HB5.out HBB.out)
              clear z0
              go_wp2
              go_ret2
              exact ⟨HB0.out,18,.inr (HPV.out 18 HT18.out),.inl ⟨by omega,rfl⟩⟩
             | false =>
              have hnd:∀ u,u<t->ix u≠x:=fun u hu e=>by
               have:=(HSN.out x).2 ⟨u,hu,e⟩
               rw [<-HSX.out] at this
               cases this
              have HTN:Hid (TabE (RowErrs q l tl U (disT a (synT (addF P' M') (mulF P' M' m') W l U))) (t+1) 0):=.inr ⟨HTE.out,.inr ⟨HLT.out.symm,.inr ⟨by rw [<-HLT.out]; exact HAT.out,.inr ⟨fun u hu=>(HDU.out u hu).2 (hnd u hu),rfl⟩⟩⟩⟩
              clear hnd
              have HSN2:Hid (∀ i,(if i=x then true else sn i)=true↔∃ u,u<t+1/\ix u=i):=fun i=>by
               by_cases e:i=x
               ·rw [if_pos e]
                exact ⟨fun _=>⟨t,by omega,by rw [e,HXI.out]⟩,fun _=>rfl⟩
               ·rw [if_neg e,HSN.out i]
                constructor
                ·rintro ⟨u,hu,h⟩
                 exact ⟨u,by omega,h⟩
                ·rintro ⟨u,hu,h⟩
                 refine ⟨u,?_,h⟩
                 by_cases e2:u=t
                 ·rw [e2,<-HXI.out] at h; exact absurd h.symm e
                 ·omega
              -- seen
              have hset:=HSB1.out.set x (.bool true)
              have HSB2:=hid (hset.congr (g:=fun i=>.bool (if i=x then true else sn i)) fun i hi=>by
               by_cases e:i=x
               ·rw [if_pos e,if_pos e]
               ·rw [if_neg e,if_neg e])
              have HCB2:=hid (HCB1.out.setOther (a:=⟨sb,x,none⟩) (by simpa using hne.symm) (.bool true))
              have HBB2:=hid (HBB.out.setCell (p:=⟨sb,x,none⟩) hsb (.bool true))
              clear hset
              -- count
              have hugl:ug<l+1:=by have:=HUG.out; omega
              have hnx:∀ i,wcnt l U (t+1) i=wcnt l U t i+if disN (U t) (fun _=>0) l=i then 1 else 0:=fun _=>rfl
              have hD:ug=disN (U t) (fun _=>0) l:=by rw [HUG.out]; exact HU.out
              rw [<-hD] at hnx
              have c1:=HCB2.out.cell hugl
              have z1:=HCB2.out.frozen ug
              have hcl:=wcnt_le l U t ug
              have hset:=HCB2.out.set ug (.int .i64 ((wcnt l U t ug+1:Nat):Int))
              obtain ⟨cn,hcn⟩:∃ C,C=wcnt l U t ug:=⟨_,rfl⟩
              have HCB3:Hid (((w8.setCell ⟨sb,x,none⟩ (.bool true)).setCell ⟨cb,ug,none⟩ (.int .i64 ((cn:Int)+1))).rowIs cb 3 (l+1) (fun i=>.int .i64 (wcnt l U (t+1) i:Nat))):=by
               show World.rowIs _ _ _ _ _
               rw [hcn,show ((wcnt l U t ug:Nat):Int)+1=((wcnt l U t ug+1:Nat):Int) by omega]
               refine hset.congr fun i hi=>?_
               rw [hnx]
               by_cases e:i=ug
               ·rw [if_pos e,if_pos e.symm,e]
               ·rw [if_neg e,if_neg (fun h=>e h.symm),Nat.add_zero]
              rw [<-hcn] at c1 hcl
              have HSB3:=hid (HSB2.out.setOther (a:=⟨cb,ug,none⟩) (by simpa using hne) (.int .i64 ((cn:Int)+1)))
              have HBB3:=hid (HBB2.out.setCell (p:=⟨cb,ug,none⟩) hcb (.int .i64 ((cn:Int)+1)))
              have hu0:(0:Int)<=(ug:Int):=by omega
              have hu1:(ug:Int)<(l:Int)+1:=by omega
              have hwC:IntKind.i64.wrap ((cn:Int)+1)=(cn:Int)+1:=IntWalk.i64_in _ (by omega)
              have hug:u=ug:=HUG.out.symm
              subst hug
              clear hset hnx hcn hD
              go_wp2
              clear hwC
              go_roundg (gO - 1)
              case measure=>omega
              case rel=>exact ⟨t+1,_,by go_num,by omega,by omega,HSN2,HTN,HSB3,HCB3,HBB3.out⟩
        ·have hlN':((l:Int) != (N':Int))=true:=by simp; omega
         have HT4:=hid (HTV.out 4 (by omega) (.inr ⟨HTE.out,.inl ⟨by rw [<-HLT.out]; exact hlN,rfl⟩⟩))
         have HB0:=hid hB0
         clear hlN hB hB0
         go_wp2
         go_ret2
         exact ⟨HB0.out,4,.inr (HPV.out 4 HT4.out),.inl ⟨by omega,rfl⟩⟩
       ·have hlt':¬ (t:Int)<(C:Int):=by omega
        obtain rfl:C=t:=by omega
        have HT0:=hid (show TabV q N' n C tl U (disT a (synT (addF P' M') (mulF P' M' m') W N' U)) 0 from .inr ⟨by rw [HCOS.out hC]; omega,.inr ⟨by rw [HCOS.out hC],HTE.out⟩⟩)
        obtain ⟨xs,hxs⟩:∃ xs,xs=wcnt N' U C:=⟨_,rfl⟩
        have hxl:∀ i,i<N'+1->xs i<4294967296:=fun i _=>by
         have:=wcnt_le N' U C i
         rw [hxs]; omega
        have HXL:=hid hxl
        have HCX:Hid (wr.rowIs cb 3 (N'+1) (fun i=>.int .i64 (xs i:Nat))):=by rw [hxs]; exact HCB
        have HXS:=hid hxs
        obtain ⟨J,hJ⟩:∃ J,J=N'+1:=⟨_,rfl⟩
        rw [<-hJ] at HXL HCX ⊢
        have HJ:=hid hJ
        have hJ65:J<=65:=by omega
        have hpo:Hid (∀ (W2:World) (e:Ending) (W':World),PolyPost (wtP q N' xs (N'+1)).1 (wtP q N' xs (N'+1)).2 W2 e W'->PolyPost (wtP q N' xs J).1 (wtP q N' xs J).2 W2 e W'):=fun _ _ _ h=>by rw [hJ]; exact h
        obtain ⟨PL,hPL⟩:∃ L,L=(wtP q N' xs J).1:=⟨_,rfl⟩
        obtain ⟨PS,hPS⟩:∃ S,S=(wtP q N' xs J).2:=⟨_,rfl⟩
        rw [<-hPL,<-hPS] at hpo
        have HPL:=hid hPL
        have HPS:=hid hPS
        clear hxl hxs hJ hPL hPS
        obtain ⟨w6,hw6⟩:∃ X,X=wr:=⟨_,rfl⟩
        subst hw6
        go_wp2_with fail
        refine (gfOrd_any (HG.out.on hB)).mono ?_
        rintro e w7 ⟨rfl,kb⟩
        rw [<-HQ.out]
        replace hB:=onS hB kb
        have HCX7:=hid (rowIs_on HCX.out kb)
        clear kb
        go_wp2_with fail
        refine (nats_any (some ⟨cb,0,none⟩) J J xs w7 (rowInts HCX7.out) HXL.out (by omega)).mono ?_
        rintro e w8 ⟨NT,nc,rfl,_,_,hnt,kb⟩
        have HNT:=hid hnt
        replace hB:=onS hB kb
        clear kb hnt
        go_wp2_with fail
        refine ((weighted_any q N' NT J nc xs w8 HNT.out hq2 hq256 hN HJ.out).mono (fun e W'=>hpo.out _ e W')).mono ?_
        rintro e w9 ⟨Ta,ca,rfl,_,_,l3,kb⟩
        have L3:=hid l3
        have HB0:=hid (onS HB5.out (onS hB kb))
        clear l3 kb hB
        go_wp2
        go_ret2
        refine ⟨HB0.out,0,.inr (HPV.out 0 HT0.out),.inr ⟨rfl,fun P2 M2 N2 e1 e2 e3=>?_⟩⟩
        obtain rfl:P'=P2:=by omega
        obtain rfl:M'=M2:=by omega
        obtain rfl:N'=N2:=by omega
        rw [<-HQ.out,<-HXS.out,<-HJ.out,<-HPL.out,<-HPS.out]
        exact ⟨Ta,ca,rfl,L3.out⟩
    ·have hmC':((m:Int) != (C:Int))=true:=by simp; omega
     have hT:Hid (TabV q N' n m tl U (disT a (synT (addF P' M') (mulF P' M' m') W N' U)) 3):=.inr ⟨by rw [HCOS.out hC]; omega,.inl ⟨by rw [HCOS.out hC]; exact hmC,rfl⟩⟩
     clear hmC rf rd
     go_wp2
     go_ret2
     exact ⟨hB,3,.inr (HPV.out 3 hT.out),.inl ⟨by omega,rfl⟩⟩
   ·have hT:Hid (TabV q N' n m tl U (disT a (synT (addF P' M') (mulF P' M' m') W N' U)) 8):=.inl ⟨by
     rw [show N' - n=a by omega]
     unfold cosN
     rw [<-HCC.out,if_neg (by omega)],rfl⟩
    clear rf rd
    go_wp2
    go_ret2
    exact ⟨hB,8,.inr (HPV.out 8 hT.out),.inl ⟨by omega,rfl⟩⟩
def RightV (P M:Int) (k:Nat) (f:Nat->Int) (N:Int) (n:Nat) (ln:Nat->Nat) (V:Nat->Nat->Int) (m:Nat) (tl:Nat->Nat) (U:Nat->Nat->Int) (v:Int):Prop :=
 (v≠0/\FirstErr (CodeErrs P M k f N n ln V) v) ∨
  (FirstErr (CodeErrs P M k f N n ln V) 0/\∃ (P' M' N' a:Nat) (W:Nat->Nat->Nat),P=P'/\M=M'/\N=N'/\NullRel (P' ^ M') (addF P' M') (mulF P' M' fun i=>(f i).toNat) (negF P' M') n N' (natT V) a W /\
   TabV (P' ^ M') N' n m tl U (disT a (synT (addF P' M') (mulF P' M' fun i=>(f i).toNat) W N' U)) v)
def TableV (P M:Int) (k:Nat) (f:Nat->Int) (N:Int) (n:Nat) (ln:Nat->Nat) (V:Nat->Nat->Int) (m:Nat) (tl:Nat->Nat) (U:Nat->Nat->Int) (v:Int):Prop :=
 (v≠0/\FirstErr (CodeErrs P M k f N n ln V) v) ∨
  (FirstErr (CodeErrs P M k f N n ln V) 0/\∀ (P' M' N' a:Nat) (W:Nat->Nat->Nat),P=P'->M=M'->N=N'->NullRel (P' ^ M') (addF P' M') (mulF P' M' fun i=>(f i).toNat) (negF P' M') n N' (natT V) a W ->
   TabV (P' ^ M') N' n m tl U (disT a (synT (addF P' M') (mulF P' M' fun i=>(f i).toNat) W N' U)) v)
theorem rightV_table {P M:Int} {k:Nat} {f:Nat->Int} {N:Int} {n:Nat} {ln:Nat->Nat} {V:Nat->Nat->Int} {m:Nat} {tl:Nat->Nat} {U:Nat->Nat->Int} {v u:Int} (h:RightV P M k f N n ln V m tl U v) (h':TableV P M k f N n ln V m tl U u):u=v:=by
 rcases h with ⟨h1,h2⟩ | ⟨h1,P',M',N',a,W,e1,e2,e3,hr,hv⟩
 ·rcases h' with ⟨_,h4⟩ | ⟨h3,_⟩
  ·exact FirstErr.unique h4 h2
  ·exact absurd (FirstErr.unique h2 h3) h1
 ·rcases h' with ⟨h3,h4⟩ | ⟨_,h4⟩
  ·exact absurd (FirstErr.unique h4 h1) h3
  ·exact (h4 P' M' N' a W e1 e2 e3 hr).unique hv
theorem RightV.rows {P M:Int} {k:Nat} {f:Nat->Int} {N:Int} {n:Nat} {ln:Nat->Nat} {V:Nat->Nat->Int} {m:Nat} {tl:Nat->Nat} {U:Nat->Nat->Int} (h:RightV P M k f N n ln V m tl U 0) :
  FirstErr (CodeErrs P M k f N n ln V) 0/\∀ N':Nat,N=N'->∀ t,t<m->tl t=N':=by
 rcases h with ⟨h1,_⟩ | ⟨h1,P',M',N',a,W,e1,e2,e3,hr,hv⟩
 ·exact absurd rfl h1
 ·refine ⟨h1,fun N2 e t ht=>?_⟩
  obtain rfl:N'=N2:=by omega
  rcases hv with ⟨_,h9⟩ | ⟨_,⟨_,h9⟩ | ⟨_,hE⟩⟩
  ·cases h9
  ·cases h9
  ·rcases hE.rows t ht with ⟨_,h9⟩ | ⟨h2,_⟩
   ·cases h9
   ·exact h2
theorem channelRight_any (P M:Int) (A:Option Addr) (k c:Nat) (f:Nat->Int) (N:Int) (T:Option Addr) (n d:Nat) (ln:Nat->Nat) (V:Nat->Nat->Int) (T2:Option Addr) (m d2:Nat) (tl:Nat->Nat) (U:Nat->Nat->Int) (w:World) (hr:IntsR w w.heap.size A k f) (h:IntRows w T n ln V) (h2:IntRows w T2 m tl U) (hkc:k<=c) :
  Calls Tryz.prog 7 #[.agg #[.int .i64 P,.int .i64 M,.slice A k c,.int .i64 N,.slice T n d],.slice T2 m d2] w fun e w'=>e=.returned (.bool true)/\Below w.heap.size w w':=by
 have HT:=hid h
 have HR:=hid hr
 have H2:=hid h2
 clear h hr h2
 have rf:=codBox_row (w:=w) (a:=.int .i64 P) (b:=.int .i64 M) (c:=.slice A k c) (d:=.int .i64 N) (e:=.slice T n d) (T := 27)
 have hB:Below w.heap.size w (w.alloc (.cells #[.int .i64 P,.int .i64 M,.slice A k c,.int .i64 N,.slice T n d] 27)):=(Below.refl _ _).alloc (Nat.le_refl _) _
 obtain ⟨w1,hw1⟩:∃ W,W=w.alloc (.cells #[.int .i64 P,.int .i64 M,.slice A k c,.int .i64 N,.slice T n d] 27):=⟨_,rfl⟩
 rw [<-hw1] at hB rf
 have q0:w1.cell? ⟨w.heap.size,0,none⟩=some (.int .i64 P):=rf.cell (i:=0) (by omega)
 have q1:w1.cell? ⟨w.heap.size,1,none⟩=some (.int .i64 M):=rf.cell (i:=1) (by omega)
 have q2:w1.cell? ⟨w.heap.size,2,none⟩=some (.slice A k c):=rf.cell (i:=2) (by omega)
 have q3:w1.cell? ⟨w.heap.size,3,none⟩=some (.int .i64 N):=rf.cell (i:=3) (by omega)
 have q4:w1.cell? ⟨w.heap.size,4,none⟩=some (.slice T n d):=rf.cell (i:=4) (by omega)
 by_cases hm:m<=300
 ·have hm':(m:Int)<=300:=by omega
  have hm2:¬ (m:Int) > 300:=by omega
  by_cases hn:n<=64
  ·have hn':(n:Int)<=64:=by omega
   have hn2:¬ (n:Int) > 64:=by omega
   by_cases hN:N > 16
   ·have hN':decide (N > 16)=true:=by simpa using hN
    go_enter Tryz.func7, Tryz.ntmps7
    go_upto_region 1 with fail
    rw [<-hw1]
    clear hw1
    go_wp2_with fail
    refine (table55_any P M A k c f N T n d ln V T2 m d2 tl U w1 (HR.out.on hB) (HT.out.on hB) (H2.out.on hB) (by omega)).mono ?_
    rintro e w2 ⟨kb,v1,rfl,hv1⟩
    have HV1:=hid (show TableV P M k f N n ln V m tl U v1 from hv1)
    replace rf:=rowIs_on rf kb
    replace hB:=onS hB kb
    clear kb hv1 q0 q1 q2 q3 q4
    by_cases hv0:v1=0
    ·subst hv0
     clear rf
     go_wp2
     go_ret
     exact ⟨rfl,hB⟩
    ·have hv0':(v1 == 0)=false:=by simpa using hv0
     have HV0:=hid hv0
     clear hv0
     have q0:w2.cell? ⟨w.heap.size,0,none⟩=some (.int .i64 P):=rf.cell (i:=0) (by omega)
     have q1:w2.cell? ⟨w.heap.size,1,none⟩=some (.int .i64 M):=rf.cell (i:=1) (by omega)
     have q2:w2.cell? ⟨w.heap.size,2,none⟩=some (.slice A k c):=rf.cell (i:=2) (by omega)
     have q3:w2.cell? ⟨w.heap.size,3,none⟩=some (.int .i64 N):=rf.cell (i:=3) (by omega)
     have q4:w2.cell? ⟨w.heap.size,4,none⟩=some (.slice T n d):=rf.cell (i:=4) (by omega)
     go_wp2_with fail
     refine (right_any P M A k c f N T n d ln V T2 m d2 tl U w2 (HR.out.on hB) (HT.out.on hB) (H2.out.on hB) hkc (by omega)).mono ?_
     rintro e w3 ⟨kb,v,hv,hres⟩
     have HV:=hid (show RightV P M k f N n ln V m tl U v from hv)
     obtain rfl:v1=v:=rightV_table HV.out HV1.out
     rcases hres with ⟨_,rfl⟩ | ⟨h9,_⟩
     ·replace rf:=rowIs_on rf kb
      replace hB:=onS hB kb
      clear kb hv q0 q1 q2 q3 q4
      have q0:w3.cell? ⟨w.heap.size,0,none⟩=some (.int .i64 P):=rf.cell (i:=0) (by omega)
      have q1:w3.cell? ⟨w.heap.size,1,none⟩=some (.int .i64 M):=rf.cell (i:=1) (by omega)
      have q2:w3.cell? ⟨w.heap.size,2,none⟩=some (.slice A k c):=rf.cell (i:=2) (by omega)
      have q3:w3.cell? ⟨w.heap.size,3,none⟩=some (.int .i64 N):=rf.cell (i:=3) (by omega)
      have q4:w3.cell? ⟨w.heap.size,4,none⟩=some (.slice T n d):=rf.cell (i:=4) (by omega)
      go_wp2_with fail
      refine (table55_any P M A k c f N T n d ln V T2 m d2 tl U w3 (HR.out.on hB) (HT.out.on hB) (H2.out.on hB) (by omega)).mono ?_
      rintro e w4 ⟨kb,v2,rfl,hv2⟩
      obtain rfl:v2=v1:=rightV_table HV.out (show TableV P M k f N n ln V m tl U v2 from hv2)
      replace hB:=onS hB kb
      have hne:(v2 != 0)=true:=by simpa using HV0.out
      have heq:(v2 == v2)=true:=by simp
      clear kb hv2 q0 q1 q2 q3 q4 rf
      go_wp2
      go_ret
      exact ⟨rfl,hB⟩
     ·exact absurd h9 HV0.out
   ·have hN':decide (N > 16)=false:=by simpa using hN
    go_enter Tryz.func7, Tryz.ntmps7
    go_upto_region 1 with fail
    rw [<-hw1]
    clear hw1
    go_wp2_with fail
    refine (right_any P M A k c f N T n d ln V T2 m d2 tl U w1 (HR.out.on hB) (HT.out.on hB) (H2.out.on hB) hkc (by omega)).mono ?_
    rintro e w3 ⟨kb,v,hv,hres⟩
    have HV:=hid (show RightV P M k f N n ln V m tl U v from hv)
    replace rf:=rowIs_on rf kb
    replace hB:=onS hB kb
    clear hv q0 q1 q2 q3 q4
    have q0:w3.cell? ⟨w.heap.size,0,none⟩=some (.int .i64 P):=rf.cell (i:=0) (by omega)
    have q1:w3.cell? ⟨w.heap.size,1,none⟩=some (.int .i64 M):=rf.cell (i:=1) (by omega)
    have q2:w3.cell? ⟨w.heap.size,2,none⟩=some (.slice A k c):=rf.cell (i:=2) (by omega)
    have q3:w3.cell? ⟨w.heap.size,3,none⟩=some (.int .i64 N):=rf.cell (i:=3) (by omega)
    have q4:w3.cell? ⟨w.heap.size,4,none⟩=some (.slice T n d):=rf.cell (i:=4) (by omega)
    clear kb
    rcases hres with ⟨hv0,rfl⟩ | ⟨rfl,hres⟩
    ·have HV0:=hid hv0
     clear hv0
     go_wp2_with fail
     refine (table55_any P M A k c f N T n d ln V T2 m d2 tl U w3 (HR.out.on hB) (HT.out.on hB) (H2.out.on hB) (by omega)).mono ?_
     rintro e w4 ⟨kb,v2,rfl,hv2⟩
     obtain rfl:v2=v:=rightV_table HV.out (show TableV P M k f N n ln V m tl U v2 from hv2)
     replace hB:=onS hB kb
     have hne:(v2 != 0)=true:=by simpa using HV0.out
     have heq:(v2 == v2)=true:=by simp
     clear kb hv2 q0 q1 q2 q3 q4 rf
     go_wp2
     go_ret
     exact ⟨rfl,hB⟩
    ·obtain ⟨hCE,hrows⟩:=HV.out.rows
     obtain ⟨P,M,N,rfl,rfl,rfl,hC⟩:=codeR_of HR.out HT.out hCE
     have htl:=hrows N rfl
     have hI2:IntRows w T2 m (fun _=>N) U:=fun i hi=>by
      have:=H2.out i hi
      rw [htl i hi] at this
      exact this
     have HI2:=hid hI2
     have HC:=hid hC
     have hN64:=hC.ln2
     have hL:=fieldLaws hC.fld
     have hq2:=hL.two
     have hq256:=hC.fld.1.2.2.2
     obtain ⟨RA,rc,rfl,hl⟩:=hres P M N rfl rfl rfl
     obtain ⟨s1,s2,_⟩:=wt_rr (P ^ M) N (wcnt N U m) (N+1)
     have hdx:∀ k,k<=N->dl (wcnt N U m k)<=8:=fun k _=>by
      have h1:=wcnt_le N U m k
      have:=dl_le1 (x:=wcnt N U m k) (by omega)
      omega
     have hrs:=rsz_cl2 (rsz_rr hq2 hq256 hN64 hdx (N+1) (Nat.le_refl _))
     have hrl:=rrP_len (P ^ M) N (wcnt N U m) (N+1)
     have hl2:RatList w3 w3.heap.size RA (rrP (P ^ M) N (wcnt N U m) (N+1)).1 (rrP (P ^ M) N (wcnt N U m) (N+1)).2:=by
      rw [s1] at hl
      refine hl.congr fun i hi=>?_
      have:=s2 i
      unfold cl2 cutR at this
      rwa [if_pos (by omega),if_pos hi] at this
     rw [s1]
     have hpo:Hid (∀ (W2:World) (e:Ending) (W':World),PolyPost (rrP (P ^ M) N (wcnt N U m) (N+1)).1 (rrP (P ^ M) N (wcnt N U m) (N+1)).2 W2 e W'->PolyPost (rrP (P ^ M) N (wcnt N U m) (N+1)).1 (rrP (P ^ M) N (wcnt N U m) (N+1)).2 W2 e W'):=fun _ _ _ h=>h
     obtain ⟨L,hLd⟩:∃ L,L=(rrP (P ^ M) N (wcnt N U m) (N+1)).1:=⟨_,rfl⟩
     obtain ⟨S,hSd⟩:∃ S,S=(rrP (P ^ M) N (wcnt N U m) (N+1)).2:=⟨_,rfl⟩
     have hpo:Hid (∀ (W2:World) (e:Ending) (W':World),PolyPost (rrP (P ^ M) N (wcnt N U m) (N+1)).1 (rrP (P ^ M) N (wcnt N U m) (N+1)).2 W2 e W'->PolyPost L S W2 e W'):=fun _ _ _ h=>by rw [hLd,hSd]; exact h
     rw [<-hLd,<-hSd] at hrs hl2
     rw [<-hLd] at hrl ⊢
     have HRS:=hid hrs
     have HL2:=hid hl2
     clear hl hl2 hrs s1 s2 hLd hSd hdx hres hI2 hC hCE hrows htl hL
     go_wp2_with fail
     refine (table55_any (P:Int) (M:Int) A k c f (N:Int) T n d ln V T2 m d2 tl U w3 (HR.out.on hB) (HT.out.on hB) (H2.out.on hB) (by omega)).mono ?_
     rintro e w4 ⟨kb,v2,rfl,hv2⟩
     obtain rfl:v2=0:=rightV_table HV.out (show TableV P M k f N n ln V m tl U v2 from hv2)
     replace rf:=rowIs_on rf kb
     replace hB:=onS hB kb
     replace HL2:=hid (HL2.out.on kb)
     clear kb hv2 q0 q1 q2 q3 q4
     have q0:w4.cell? ⟨w.heap.size,0,none⟩=some (.int .i64 (P:Nat)):=rf.cell (i:=0) (by omega)
     have q1:w4.cell? ⟨w.heap.size,1,none⟩=some (.int .i64 (M:Nat)):=rf.cell (i:=1) (by omega)
     have q2:w4.cell? ⟨w.heap.size,2,none⟩=some (.slice A k c):=rf.cell (i:=2) (by omega)
     have q3:w4.cell? ⟨w.heap.size,3,none⟩=some (.int .i64 (N:Nat)):=rf.cell (i:=3) (by omega)
     have q4:w4.cell? ⟨w.heap.size,4,none⟩=some (.slice T n d):=rf.cell (i:=4) (by omega)
     obtain ⟨m',hm'd⟩:∃ x,x=fun i=>(f i).toNat:=⟨_,rfl⟩
     rw [<-hm'd] at HC
     clear hm'd
     go_wp2_with fail
     refine ((refRight_any P M m' A k c N T n d (natT V) T2 m d2 U w4 (HC.out.on hB) (HI2.out.on hB) (by omega)).mono (fun e W'=>hpo.out _ e W')).mono ?_
     rintro e w5 ⟨A5,c5,rfl,_,_,k3,kb⟩
     have K3:=hid k3
     replace HL2:=hid (HL2.out.on kb)
     replace hB:=onS hB kb
     clear kb k3 q0 q1 q2 q3 q4 rf
     go_wp2_with fail
     refine (lawSame_any RA A5 L rc c5 (1+(N+1)*501) S w5 HL2.out K3.out (by omega) (by omega) HRS).mono ?_
     rintro e w6 ⟨rfl,kb⟩
     replace hB:=onS hB kb
     clear kb
     go_wp2
     go_ret
     exact ⟨rfl,hB⟩
  ·have hn':¬ (n:Int)<=64:=by omega
   have hn2:(n:Int) > 64:=by omega
   go_enter Tryz.func7, Tryz.ntmps7
   go_upto_region 1 with fail
   rw [<-hw1]
   clear hw1
   go_wp2
   go_ret
   exact ⟨rfl,hB⟩
 ·have hm':¬ (m:Int)<=300:=by omega
  have hm2:(m:Int) > 300:=by omega
  go_enter Tryz.func7, Tryz.ntmps7
  go_upto_region 1 with fail
  rw [<-hw1]
  clear hw1
  go_wp2
  go_ret
  exact ⟨rfl,hB⟩
theorem channelRight_law {H:Type} {enc:TypeId × Value->H} {w:World} {cs:Array Value} {T:Option Addr} {m c:Nat}
  (h:Sees enc Tryz.prog w 0 (fun _=>true) true 27 cs.toList) (hx:Sees enc Tryz.prog w 0 (fun _=>true) true 25 [.slice T m c]) :
  Calls Tryz.prog 7 #[.agg cs,.slice T m c] w fun e w'=>e=.returned (.bool true)/\Below w.heap.size w w':=by
 obtain ⟨cs⟩:=cs
 obtain ⟨P,M,A,k,c1,N,T1,n,d,f,ln,V,rfl,_,_,hkc,_,_,_,hr,ht⟩:=sees_code h
 obtain ⟨S,m2,d2,tl,U,e,_,_,h4⟩:=sees_rows hx
 simp only [List.cons.injEq,Value.slice.injEq,and_true] at e
 obtain ⟨rfl,rfl,rfl⟩:=e
 exact channelRight_any P M A k c1 f N T1 n d ln V T m c tl U w hr ht h4 hkc
end Go.Proofs.YtmgeblpnnaamnaaGreat