/- Merged texts of a claim: LeadersLaw. -/
import Derived.Test.YtioagplajkoohaaGreatTL17
namespace Go.Proofs.YtioagplajkoohaaGreat
set_option maxRecDepth 100000
set_option maxHeartbeats 32000000
open KA KB KC KD KE KF
open Go.RowKit Go.ChangeShapes Go.WideShapes Go.ChangeAt
theorem zdP {r:Rat}:0<=rsign r↔0<=r:=by
 rw [<-Rat.num_nonneg]
 unfold rsign rneg
 by_cases h0:r.num=0
 ·rw [if_pos h0]; omega
 ·rw [if_neg h0]
  by_cases h1:r.num<0
  ·rw [if_pos (by simpa using h1)]; omega
  ·rw [if_neg (by simpa using h1)]; omega
theorem zf5 {r:Rat}:rsign r<=0↔r<=0:=by
 have e:r<=0↔0 <= -r:=by constructor <;> intro h <;> grind
 rw [e,<-Rat.num_nonneg,Rat.neg_num]
 unfold rsign rneg
 by_cases h0:r.num=0
 ·rw [if_pos h0]; omega
 ·rw [if_neg h0]
  by_cases h1:r.num<0
  ·rw [if_pos (by simpa using h1)]; omega
  ·rw [if_neg (by simpa using h1)]; omega
theorem zeL {a b:Rat}:rsign (a - b)<=0↔a<=b:=by
 rw [zf5]
 constructor <;> intro h <;> grind
theorem zir {P M n N m l:Nat} {m':Nat->Nat} {V Wd:Nat->Nat->Nat} {U R:Nat->Nat->Int} (hW:∀ t,Wd t=spE (addF P M) (mulF P M m') V (msgD (P ^ M) n t) n) (h:∀ i,i<m->LeadRow P M N l Wd (U i) (R i)):InCos (P ^ M) n N m (addF P M) (mulF P M m') V U R:=fun i hi=>by
 rcases (h i hi).1 with e | ⟨t,_,e⟩
 ·exact .inl e
 ·exact .inr ⟨t,fun j hj=>by rw [e j hj,hW t]⟩
theorem zc6 (P M:Int) (A:Option Addr) (k c:Nat) (f:Nat->Int) (N:Int) (T:Option Addr) (n d:Nat) (ln:Nat->Nat) (V:Nat->Nat->Int) (T2:Option Addr) (m d2:Nat) (tl:Nat->Nat) (U:Nat->Nat->Int) (s:Bool) (XA:Option Addr) (xl xc:Nat) (XB:Option Addr) (yl yc:Nat) (p:Rat) (w:World)
  (hr:IntsR w w.heap.size A k f) (h:IntRows w T n ln V) (h2:IntRows w T2 m tl U) (hp:∀ L,xl<=L->yl<=L->RatRaw w w.heap.size (.agg #[.bool s,.slice XA xl xc,.slice XB yl yc]) p L) (hkc:k<=c) :
  Calls Tryz.prog 6 #[.agg #[.int .i64 P,.int .i64 M,.slice A k c,.int .i64 N,.slice T n d],.slice T2 m d2,.agg #[.bool s,.slice XA xl xc,.slice XB yl yc]] w fun e w'=>e=.returned (.bool true)/\Below w.heap.size w w':=by
 have HT:=hid h
 have HR:=hid hr
 have HP:=hid hp
 have H2:=hid h2
 clear h hr hp h2
 have rf:=zao (w:=w) (a:=.int .i64 P) (b:=.int .i64 M) (c:=.slice A k c) (d:=.int .i64 N) (e:=.slice T n d) (T := 27)
 have hB:Below w.heap.size w (w.alloc (.cells #[.int .i64 P,.int .i64 M,.slice A k c,.int .i64 N,.slice T n d] 27)):=(Below.refl _ _).alloc (Nat.le_refl _) _
 have hsz:(w.alloc (.cells #[.int .i64 P,.int .i64 M,.slice A k c,.int .i64 N,.slice T n d] 27)).heap.size=w.heap.size+1:=by simp
 obtain ⟨w0,hw0⟩:∃ W,W=w.alloc (.cells #[.int .i64 P,.int .i64 M,.slice A k c,.int .i64 N,.slice T n d] 27):=⟨_,rfl⟩
 have rp:=zah (w:=w0) (a:=.bool s) (b:=.slice XA xl xc) (c:=.slice XB yl yc) (T := 49)
 have kb:=zab w0 (.cells #[.bool s,.slice XA xl xc,.slice XB yl yc] 49)
 obtain ⟨w1,hw1⟩:∃ W,W=w0.alloc (.cells #[.bool s,.slice XA xl xc,.slice XB yl yc] 49):=⟨_,rfl⟩
 rw [<-hw0] at hB rf hsz;rw [<-hw1] at rp kb;rw [hsz] at rp;replace rf:=zaa rf kb;replace hB:=onS hB kb
 go_enter Tryz.func6, Tryz.ntmps6
 go_upto_region 1 with fail
 rw [<-hw0,<-hw1];clear hw0 hw1 kb hsz
 have q0:=qc0 rf
 have q1:=qc1 rf
 have q2:=qc2 rf
 have q3:=qc3 rf
 have q4:=qc4 rf
 have p0:=qc0 rp
 have p1:=qc1 rp
 have p2:=qc2 rp
 by_cases hm:¬ m<=256
 ·have hm':decide ((m:Int) > 256)=true:=by simp; omega
  go_wp2
  go_ret
  exact ⟨rfl,hB⟩
 have hm':decide ((m:Int) > 256)=false:=by simp; omega
 by_cases hN12:N > 12
 ·have hN':decide (N > 12)=true:=by simpa using hN12
  go_wp2
  go_ret
  exact ⟨rfl,hB⟩
 have hN':decide (N > 12)=false:=by simpa using hN12
 obtain ⟨sv,hsv⟩:∃ sv,(decide (xl<=4) && decide (yl<=4))=sv:=⟨_,rfl⟩
 have HSV:=hid hsv
 clear hsv
 go_wp2_with fail
 refine (zgV sv s XA XB xl xc yl yc w1 HSV).mono ?_
 rintro e w2 ⟨rfl,kb⟩
 replace rf:=zaa rf kb;replace rp:=zaa rp kb;replace hB:=onS hB kb;clear kb q0 q1 q2 q3 q4 p0 p1 p2
 cases sv
 ·go_wp2
  go_ret
  exact ⟨rfl,hB⟩
 have hsh:xl<=4/\yl<=4:=by have:=HSV.out; simpa using this
 have HPR:=hid (HP.out 4 hsh.1 hsh.2)
 clear hsh HSV HP
 have q0:=qc0 rf
 have q1:=qc1 rf
 have q2:=qc2 rf
 have q3:=qc3 rf
 have q4:=qc4 rf
 go_wp2_with fail
 refine (zgO 1024 P M A k c f N T n d ln V w2 (HR.out.on hB) (HT.out.on hB) (by omega)).mono ?_
 rintro e w3 ⟨v,rfl,hv,kb⟩
 replace rf:=zaa rf kb;replace rp:=zaa rp kb;replace hB:=onS hB kb;clear kb q0 q1 q2 q3 q4
 rcases hv with ⟨rfl,_⟩ | ⟨hcok,hcnt,hv⟩
 ·go_wp2
  go_ret
  exact ⟨rfl,hB⟩
 have HCOK:=hid hcok
 obtain ⟨P,M,N,rfl,rfl,rfl,hC⟩:=zdw HR.out HT.out hcok
 rw [Int.toNat_natCast,Int.toNat_natCast] at hcnt hv
 have HC:=hid hC
 have hLL:=fieldLaws hC.fld
 have hq2:=hLL.two
 have hq256:=hC.fld.1.2.2.2
 have hP0:0<P:=by have:=hC.fld.1.1; omega
 have HFO:=hid hC.fld.1
 have HORD:=hid (zcf hC.fld.1)
 have hN1:=hC.ln1
 have hn64:=hC.n_le
 clear hC hcok
 have hvp:v≠0:=by
  rw [hv]
  have:=Nat.pow_pos (n:=n) (show 0<P ^ M by omega)
  omega
 have hvz:(v == 0)=false:=by simpa using hvp
 clear hv hvp
 have q0:=qc0 rf
 have q1:=qc1 rf
 have q2:=qc2 rf
 have q3:=qc3 rf
 have q4:=qc4 rf
 go_wp2_with fail
 refine (zg4 (P:Int) (M:Int) A k c f (N:Int) T n d ln V T2 m d2 tl U w3 (HR.out.on hB) (HT.out.on hB) (H2.out.on hB) (by omega)).mono ?_
 rintro e w4 ⟨kb,v1,rfl,hv1⟩
 have HV1:=hid (show TableV P M k f N n ln V m tl U v1 from hv1)
 replace rf:=zaa rf kb;replace rp:=zaa rp kb;replace hB:=onS hB kb;clear kb hv1 q0 q1 q2 q3 q4
 by_cases hv0:¬ v1=0
 ·have hv0':(v1 != 0)=true:=by simpa using hv0
  go_wp2
  go_ret
  exact ⟨rfl,hB⟩
 obtain rfl:v1=0:=by omega
 have hTab:∀ (a:Nat) (W:Nat->Nat->Nat),NullRel (P ^ M) (addF P M) (mulF P M fun i=>(f i).toNat) (negF P M) n N (natT V) a W->TabV (P ^ M) N n m tl U (disT a (synT (addF P M) (mulF P M fun i=>(f i).toNat) W N U)) 0:=by
  rcases HV1.out with ⟨h1,_⟩ | ⟨_,h2⟩
  ·exact absurd rfl h1
  ·exact fun a W hW=>h2 P M N a W rfl rfl rfl hW
 have HTAB:=hid hTab
 clear hTab
 have hneg:Hid (∀ x,x<P ^ M->negF P M x<P ^ M/\addF P M x (negF P M x)=0):=fun x _=>⟨zbS hP0,zbK hP0⟩
 obtain ⟨m',hm'd⟩:∃ x,x=fun i=>(f i).toNat:=⟨_,rfl⟩
 have HM':=hid hm'd
 rw [<-hm'd] at HC HTAB hLL;clear hm'd
 have HLL:=hid hLL
 obtain ⟨Q,hQ⟩:∃ Q,Q=P ^ M:=⟨_,rfl⟩
 have HQ:=hid hQ
 rw [<-hQ] at hq2 hq256 HORD hcnt;clear hQ hLL
 have q0:=qc0 rf
 have q1:=qc1 rf
 have q2:=qc2 rf
 go_wp2_with fail
 refine (zbI (P:Int) (M:Int) A k c w4).mono ?_
 rintro e w5 ⟨rfl,kb⟩
 rw [HORD.out];replace rf:=zaa rf kb;replace rp:=zaa rp kb;replace hB:=onS hB kb;clear kb q0 q1 q2
 have hwr:IntKind.i64.wrap ((Q:Int) - 1)=(Q:Int) - 1:=IntWalk.i64_in _ (by omega)
 have p0:=qc0 rp
 have p1:=qc1 rp
 have p2:=qc2 rp
 have hsp:rsz p 4:=RatRaw.rsz HPR.out (by omega)
 obtain ⟨bnd,hbn⟩:∃ z,z=mkRat ((Q - 1:Nat):Int) Q:=⟨_,rfl⟩
 have hof:rv (decide ((Q:Int) - 1<0) != decide ((Q:Int)<0)) ((Q:Int) - 1).natAbs (Q:Int).natAbs=bnd:=by
  have e1:decide ((Q:Int)<0)=false:=by simp
  have e2:decide ((Q:Int) - 1<0)=false:=by simp; omega
  have e3:((Q:Int) - 1).natAbs=Q - 1:=by omega
  rw [e1,e2,e3,hbn]
  rfl
 have hsb:rsz bnd 2:=by
  rw [hbn]
  exact zfK (s:=false) (x:=Q - 1) (y:=Q) (N:=2) (zdS (by omega)) (zdS (by omega)) (by omega)
 have HOF:=hid hof
 have HBN:=hid hbn
 obtain ⟨bv,hbv⟩:∃ b,(decide (0<=rsign p) && decide (rsign (p - bnd)<=0))=b:=⟨_,rfl⟩
 have HBV:=hid hbv
 clear hof hbn hbv
 go_wp2
 refine wp_region_held_drew (S:=fun w'=>w'.cell? ⟨w.heap.size+1,0,none⟩=some (.bool s)/\w'.cell? ⟨w.heap.size+1,1,none⟩=some (.slice XA xl xc)/\w'.cell? ⟨w.heap.size+1,2,none⟩=some (.slice XB yl yc)) (by kernel_rfl) ⟨cellS (Below.refl _ _).drew p0,cellS (Below.refl _ _).drew p1,cellS (Below.refl _ _).drew p2⟩ (fun hHeld=>?_)
 obtain ⟨w6,hw⟩:∃ W,W=World.drew w5:=⟨_,rfl⟩
 have kb:Below w5.heap.size w5 w6:=by rw [hw]; exact (Below.refl _ _).drew
 rw [<-hw] at hHeld ⊢;clear hw p0 p1 p2;replace rf:=zaa rf kb;replace rp:=zaa rp kb;replace hB:=onS hB kb;clear kb
 refine tkq 0 (h:=tkq 1 (h:=tkq 2 (h:=tkq 3 (h:=?_))))
 refine rdq 4 (h:=fun K hK=>?_)
 go_simp
 go_wp2_with fail
 refine (zd5 ((Q:Int) - 1) (Q:Int) w6 (by omega) (by omega) (by omega) (by omega)).mono ?_
 rintro e w7 ⟨Af,cf,Bf,df,rfl,mf1,mf2,mf3,mf4,mf5,mf6,kb⟩
 rw [HOF.out] at mf1 mf2 mf3 mf5 ⊢
 have HF:=hid (zau mf1 mf2 mf3 mf4 mf5 mf6 (hsb.mono (show 2<=10 by omega)))
 replace rf:=zaa rf kb;replace rp:=zaa rp kb;replace hB:=onS hB kb;clear kb mf1 mf2 mf3 mf4 mf5 mf6
 refine bkq hK ⟨qc0 rp,qc1 rp,qc2 rp⟩ (h:=fun hHeld=>?_)
 clear hK K
 refine rdq 5 (h:=fun K hK=>?_)
 go_simp
 go_wp2_with fail
 refine (zdO bv _ _ p bnd 10 w7 ((HPR.out.mono (show 4<=10 by omega)).on hB) HF.out (by omega) (hsp.mono (by omega)) (hsb.mono (by omega)) HBV).mono ?_
 rintro e w8 ⟨rfl,kb⟩
 replace rf:=zaa rf kb;replace rp:=zaa rp kb;replace hB:=onS hB kb;clear kb HF
 refine bkq hK ⟨qc0 rp,qc1 rp,qc2 rp⟩ (h:=fun hHeld=>?_)
 clear hK K
 refine tkq 6 (h:=?_)
 refine wpAnyH_done (by kernel_rfl) ?_ _
 clear hHeld
 cases bv
 ·go_wp2
  go_ret
  exact ⟨rfl,hB⟩
 have hpb:0<=p/\p<=mkRat ((Q - 1:Nat):Int) Q:=by
  have:=HBV.out
  rw [HBN.out] at this
  simp only [Bool.and_eq_true,decide_eq_true_eq] at this
  exact ⟨zdP.1 this.1,zeL.1 this.2⟩
 have HPB:=hid hpb
 clear hpb HBV HBN HOF
 have q0:=qc0 rf
 have q1:=qc1 rf
 have q2:=qc2 rf
 have q3:=qc3 rf
 have q4:=qc4 rf
 go_wp2_with fail
 refine (zgQ P M m' A k c N T n d (natT V) w8 (HC.out.on hB) (by rw [<-HQ.out]; omega)).mono ?_
 rintro e w9 ⟨lv,rfl,hmt,kb⟩
 obtain ⟨ln2,hln2⟩:∃ l,l=(P ^ M) ^ n:=⟨_,rfl⟩
 rw [<-hln2] at hmt
 have hlnb:ln2<=1024:=by rw [hln2,<-HQ.out]; exact hcnt
 have HLN:=hid hln2
 clear hln2
 obtain ⟨WA,wc,rfl⟩:=hmt.shape
 have HMT:=hid hmt
 replace rf:=zaa rf kb;replace rp:=zaa rp kb;replace hB:=onS hB kb;clear kb hmt q0 q1 q2 q3 q4
 have q0:=qc0 rf
 have q1:=qc1 rf
 have q2:=qc2 rf
 have q3:=qc3 rf
 have q4:=qc4 rf
 go_wp2_with fail
 refine (zgz (P:Int) (M:Int) A k c f (N:Int) T n d ln V T2 m d2 tl U w9 (HR.out.on hB) (HT.out.on hB) (H2.out.on hB) hkc (by omega)).mono ?_
 rintro e w10 ⟨kb,v,hv,hres⟩
 have HV:=hid (show RightV P M k f N n ln V m tl U v from hv)
 obtain rfl:0=v:=zdN HV.out HV1.out
 replace rf:=zaa rf kb;replace rp:=zaa rp kb;replace hB:=onS hB kb;replace HMT:=hid (HMT.out.on kb);clear kb hv q0 q1 q2 q3 q4
 have hrel:∃ (a:Nat) (W:Nat->Nat->Nat),NullRel (P ^ M) (addF P M) (mulF P M m') (negF P M) n N (natT V) a W:=by
  rcases HV.out with ⟨h9,_⟩ | ⟨_,P',M',N',a,W,e1,e2,e3,hrel,_⟩
  ·exact absurd rfl h9
  ·obtain rfl:P=P':=by omega
   obtain rfl:M=M':=by omega
   obtain rfl:N=N':=by omega
   rw [<-HM'.out] at hrel
   exact ⟨a,W,hrel⟩
 obtain ⟨a,W,hrel⟩:=hrel
 have HREL:=hid hrel
 obtain ⟨hUA,hm0,_⟩:=zf3 (R:=U) HLL.out hneg.out HC.out.lt hrel (fun i _=>.inl fun _ _=>rfl) (HTAB.out a W hrel)
 have HUA:=hid hUA
 have htl:=HV.out.rows.2 N rfl
 have hI2:IntRows w T2 m (fun _=>N) U:=fun i hi=>by
  have:=H2.out i hi
  rw [htl i hi] at this
  exact this
 have HI2:=hid hI2
 rcases hres with ⟨h9,_⟩ | ⟨_,hres⟩
 ·exact absurd rfl h9
 obtain ⟨RA,rc,rfl,hl⟩:=hres P M N rfl rfl rfl
 clear hres hUA hI2 hrel htl
 have hN64:N<=64:=by omega
 have hdx:∀ (X:Nat->Nat->Int) k,k<=N->dl (wcnt N X m k)<=8:=fun X k _=>by
  have h1:=zhS N X m k
  have:=zlH (x:=wcnt N X m k) (by omega)
  omega
 have hws:∀ (X:Nat->Nat->Int) i,i<(wtP Q N (wcnt N X m) (N+1)).1->rsz ((wtP Q N (wcnt N X m) (N+1)).2 i) 7000:=fun X=>zhU fun i=>(zlt hq2 hq256 hN64 (hdx X) (N+1) (Nat.le_refl _) i).mono (by omega)
 have HWS:=hid hws
 have hwl:∀ (X:Nat->Nat->Int),(wtP Q N (wcnt N X m) (N+1)).1<=N+2:=fun X=>zjw Q N (wcnt N X m) (N+1)
 have HWL:=hid hwl
 clear hdx hws hwl;rw [<-HQ.out] at hl ⊢
 obtain ⟨L1,hL1⟩:∃ l,l=(wtP Q N (wcnt N U m) (N+1)).1:=⟨_,rfl⟩
 obtain ⟨S1,hS1⟩:∃ l,l=(wtP Q N (wcnt N U m) (N+1)).2:=⟨_,rfl⟩
 rw [<-hL1,<-hS1] at hl;rw [<-hL1]
 have HL1:=hid hL1
 have HS1:=hid hS1
 have HPA:=hid hl
 clear hL1 hS1 hl
 go_wp2
 have q0:=qc0 rf
 have q1:=qc1 rf
 have q2:=qc2 rf
 have q3:=qc3 rf
 have q4:=qc4 rf
 refine wp_region_held_drew (S:=fun w'=>w'.cell? ⟨w.heap.size,0,none⟩=some (.int .i64 (P:Nat))/\w'.cell? ⟨w.heap.size,1,none⟩=some (.int .i64 (M:Nat))/\w'.cell? ⟨w.heap.size,2,none⟩=some (.slice A k c)/\w'.cell? ⟨w.heap.size,3,none⟩=some (.int .i64 (N:Nat))/\w'.cell? ⟨w.heap.size,4,none⟩=some (.slice T n d)) (by kernel_rfl) ⟨cellS (Below.refl _ _).drew q0,cellS (Below.refl _ _).drew q1,cellS (Below.refl _ _).drew q2,cellS (Below.refl _ _).drew q3,cellS (Below.refl _ _).drew q4⟩ (fun hHeld=>?_)
 obtain ⟨w11,hw⟩:∃ W,W=World.drew w10:=⟨_,rfl⟩
 have kb:Below w10.heap.size w10 w11:=by rw [hw]; exact (Below.refl _ _).drew
 rw [<-hw] at hHeld ⊢;clear hw q0 q1 q2 q3 q4;replace rf:=zaa rf kb;replace rp:=zaa rp kb;replace hB:=onS hB kb;replace HMT:=hid (HMT.out.on kb);replace HPA:=hid (HPA.out.on kb);clear kb
 refine tkq 0 (h:=tkq 1 (h:=tkq 2 (h:=tkq 3 (h:=?_))))
 refine rdq 4 (h:=fun K hK=>?_)
 go_simp
 go_wp2_with fail
 have hwlt:∀ t,t<ln2->∀ j,j<N->spE (addF P M) (mulF P M m') (natT V) (msgD (P ^ M) n t) n j<P ^ M:=fun t _ j _=>zcR HLL.out _ _ _
 refine (zg5 P M m' A k c N T n d (natT V) WA ln2 wc (fun t=>spE (addF P M) (mulF P M m') (natT V) (msgD (P ^ M) n t) n) T2 m d2 U w11 (HC.out.on hB) (HMT.out.rd (by rw [<-HQ.out]; exact hq256) hwlt) hwlt (HI2.out.on hB) HUA.out (by omega) (by omega)).mono ?_
 rintro e w12 ⟨LA,lc,R,rfl,hRr,hRl,kb⟩
 have HRL:=hid hRl
 have HRR:=hid hRr
 replace rf:=zaa rf kb;replace rp:=zaa rp kb;replace hB:=onS hB kb;replace HPA:=hid (HPA.out.on kb);clear kb hwlt hRr hRl HMT
 refine bkq hK ⟨qc0 rf,qc1 rf,qc2 rf,qc3 rf,qc4 rf⟩ (h:=fun hHeld=>?_)
 clear hK K
 refine rdq 5 (h:=fun K hK=>?_)
 go_simp
 go_wp2_with fail
 refine (zgz (P:Int) (M:Int) A k c f (N:Int) T n d ln V LA m lc (fun _=>N) R w12 (HR.out.on hB) (HT.out.on hB) HRR.out hkc (by omega)).mono ?_
 rintro e w13 ⟨kb,v2,hv2,hres⟩
 have hic:=zir (m':=m') (fun t=>rfl) HRL.out
 have hTR:=(zf3 HLL.out hneg.out HC.out.lt HREL.out hic (HTAB.out a W HREL.out)).2.2
 have HTR:=hid hTR
 have hTV:TableV P M k f N n ln V m (fun _=>N) R 0:=.inr ⟨HCOK.out,fun P' M' N' a W e1 e2 e3 hrel=>by
  obtain rfl:P=P':=by omega
  obtain rfl:M=M':=by omega
  obtain rfl:N=N':=by omega
  rw [<-HM'.out] at hrel ⊢
  exact (zf3 HLL.out hneg.out HC.out.lt hrel hic (HTAB.out a W hrel)).2.2⟩
 obtain rfl:0=v2:=zdN (show RightV P M k f N n ln V m (fun _=>N) R v2 from hv2) hTV
 rcases hres with ⟨h9,_⟩ | ⟨_,hres⟩
 ·exact absurd rfl h9
 obtain ⟨RB,rd,rfl,hl⟩:=hres P M N rfl rfl rfl
 have hle:∀ i,i<m->disN (R i) (fun _=>0) N<=disN (U i) (fun _=>0) N:=fun i hi=>(HRL.out i hi).2
 have hvals:=zje HLL.out hTR hle HPB.out.1 (by rw [<-HQ.out]; exact HPB.out.2)
 have hne:=zlL (N:=N) (m:=m) R hq2 hm0
 have hs1:=HWS.out U
 have hs2:=HWS.out R
 have hl1:=HWL.out U
 have hl2:=HWL.out R
 rw [<-HQ.out] at hl hvals ⊢
 obtain ⟨L2,hL2⟩:∃ l,l=(wtP Q N (wcnt N R m) (N+1)).1:=⟨_,rfl⟩
 obtain ⟨S2,hS2⟩:∃ l,l=(wtP Q N (wcnt N R m) (N+1)).2:=⟨_,rfl⟩
 rw [<-hL2,<-hS2] at hl hs2 hvals;rw [<-hL2] at hne hl2 ⊢;rw [<-HL1.out,<-HS1.out] at hs1 hvals;rw [<-HL1.out] at hl1;replace rf:=zaa rf kb;replace rp:=zaa rp kb;replace hB:=onS hB kb;replace HPA:=hid (HPA.out.on kb)
 have fit:∀ (L:Nat) (S:Nat->Rat),L<=N+2->(∀ i,i<L->rsz (S i) 7000)->EvalFits S L p 100000:=fun L S hL hS=>evalFits (E:=7000) (N:=4) hS hsp (by have h1:L*4<=14*4:=Nat.mul_le_mul_right 4 (by omega); have:L*(L*4+7000+4+3)<=14*(14*4+7000+4+3):=Nat.mul_le_mul (by omega) (by omega); omega) (by omega)
 have HF1:=hid (fit L1 S1 hl1 hs1)
 have HF2:=hid (fit L2 S2 hl2 hs2)
 have HTA:=hid (HPA.out.tab fun i hi=>(hs1 i hi).mono (show 7000<=100000 by omega))
 have HTB:=hid (hl.tab fun i hi=>(hs2 i hi).mono (show 7000<=100000 by omega))
 have HVAL:=hid hvals
 have hlz:((L2:Int) == 0)=false:=by simpa using hne
 have hL1':L1<=14:=by omega
 have hL2':L2<=14:=by omega
 clear kb hv2 hTR hTV hic hle hvals hne hs1 hs2 hl1 hl2 hL2 hS2 hl fit HRR HRL HPA hres
 refine bkq hK ⟨qc0 rf,qc1 rf,qc2 rf,qc3 rf,qc4 rf⟩ (h:=fun hHeld=>?_)
 clear hK K
 refine tkq 6 (h:=tkq 7 (h:=tkq 8 (h:=tkq 9 (h:=tkq 10 (h:=?_)))))
 refine wpAnyH_done (by kernel_rfl) ?_ _
 clear hHeld rf
 go_wp2
 have p0:=qc0 rp
 have p1:=qc1 rp
 have p2:=qc2 rp
 refine wp_region_held_drew (S:=fun w'=>w'.cell? ⟨w.heap.size+1,0,none⟩=some (.bool s)/\w'.cell? ⟨w.heap.size+1,1,none⟩=some (.slice XA xl xc)/\w'.cell? ⟨w.heap.size+1,2,none⟩=some (.slice XB yl yc)) (by kernel_rfl) ⟨cellS (Below.refl _ _).drew p0,cellS (Below.refl _ _).drew p1,cellS (Below.refl _ _).drew p2⟩ (fun hHeld=>?_)
 obtain ⟨w14,hw⟩:∃ W,W=World.drew w13:=⟨_,rfl⟩
 have kb:Below w13.heap.size w13 w14:=by rw [hw]; exact (Below.refl _ _).drew
 rw [<-hw] at hHeld ⊢;clear hw p0 p1 p2
 have HPK:=hid (HPR.out.mono (show 4<=100000 by omega))
 replace rp:=zaa rp kb;replace hB:=onS hB kb;replace HTA:=hid (HTA.out.on kb);replace HTB:=hid (HTB.out.on kb);clear kb
 obtain ⟨x1,hx1⟩:∃ x,x=evR S1 p L1:=⟨_,rfl⟩
 obtain ⟨x2,hx2⟩:∃ x,x=evR S2 p L2:=⟨_,rfl⟩
 rw [<-hx1,<-hx2] at HVAL
 have hX1:rsz x1 100000:=by rw [hx1]; exact (HF1.out.low L1 (Nat.le_refl _)).1
 have hX2:rsz x2 100000:=by rw [hx2]; exact (HF2.out.low L2 (Nat.le_refl _)).1
 have HX1:=hid hx1
 have HX2:=hid hx2
 clear hx1 hx2
 obtain ⟨z1,hz1⟩:∃ z,z=rsign (x1 - x2):=⟨_,rfl⟩
 have hz1':decide (z1<=0)=true:=by simpa [hz1] using zeL.2 HVAL.out.1
 have HZ1:=hid hz1
 clear hz1
 have hbw:Hid ((decide (0<=rsign x2) && decide (rsign (x2 - ((1:Int):Rat))<=0))=true):=by
  show _=_
  simp only [Bool.and_eq_true,decide_eq_true_eq]
  exact ⟨zdP.2 HVAL.out.2.1,zeL.2 HVAL.out.2.2⟩
 refine tkq 0 (h:=tkq 1 (h:=tkq 2 (h:=?_)))
 refine rdq 3 (h:=fun K hK=>?_)
 go_simp
 go_wp2_with fail
 refine (zfe HTA.out HTB.out (HPK.out.on hB) (by omega) (by omega) (by omega) HF1.out HF2.out).mono ?_
 rintro e w15 ⟨rfl,kb⟩
 rw [<-HX1.out,<-HX2.out,<-HZ1.out];replace rp:=zaa rp kb;replace hB:=onS hB kb;replace HTA:=hid (HTA.out.on kb);replace HTB:=hid (HTB.out.on kb);clear kb
 refine bkq hK ⟨qc0 rp,qc1 rp,qc2 rp⟩ (h:=fun hHeld=>?_)
 clear hK K
 refine tkq 4 (h:=tkq 5 (h:=tkq 6 (h:=tkq 7 (h:=tkq 9 (h:=tkq 10 (h:=?_))))))
 refine rdq 8 (h:=fun K hK=>?_)
 go_simp
 go_wp2_with fail
 refine (zcY HTA.out (HPK.out.on hB) (by omega) (by omega) HF1.out).mono ?_
 rintro e w16 ⟨Ag,cg,Bg,dg,rfl,mg1,mg2,mg3,mg4,mg5,mg6,kb⟩
 rw [<-HX1.out] at mg1 mg2 mg3 mg5 ⊢
 have HG:=hid (zau mg1 mg2 mg3 mg4 mg5 mg6 hX1)
 replace rp:=zaa rp kb;replace hB:=onS hB kb;replace HTB:=hid (HTB.out.on kb);clear kb HTA mg1 mg2 mg3 mg4 mg5 mg6
 refine bkq hK ⟨qc0 rp,qc1 rp,qc2 rp⟩ (h:=fun hHeld=>?_)
 clear hK K
 refine rdq 11 (h:=fun K hK=>?_)
 go_simp
 go_wp2_with fail
 refine (zcY HTB.out (HPK.out.on hB) (by omega) (by omega) HF2.out).mono ?_
 rintro e w17 ⟨Ah,ch,Bh,dh,rfl,mh1,mh2,mh3,mh4,mh5,mh6,kb⟩
 rw [<-HX2.out] at mh1 mh2 mh3 mh5 ⊢
 have HH:=hid (zau mh1 mh2 mh3 mh4 mh5 mh6 hX2)
 replace rp:=zaa rp kb;replace hB:=onS hB kb;replace HTB:=hid (HTB.out.on kb);replace HG:=hid (HG.out.on kb);clear kb mh1 mh2 mh3 mh4 mh5 mh6
 refine bkq hK ⟨qc0 rp,qc1 rp,qc2 rp⟩ (h:=fun hHeld=>?_)
 clear hK K
 refine rdq 12 (h:=fun K hK=>?_)
 go_simp
 go_wp2_with fail
 refine (zdB _ _ x1 x2 100000 w17 HG.out HH.out (by omega) hX1 hX2).mono ?_
 rintro e w18 ⟨rfl,kb⟩
 rw [<-HZ1.out];replace rp:=zaa rp kb;replace hB:=onS hB kb;replace HTB:=hid (HTB.out.on kb);clear kb HG HH
 refine bkq hK ⟨qc0 rp,qc1 rp,qc2 rp⟩ (h:=fun hHeld=>?_)
 clear hK K
 refine tkq 13 (h:=tkq 14 (h:=tkq 15 (h:=tkq 16 (h:=tkq 17 (h:=?_)))))
 refine rdq 18 (h:=fun K hK=>?_)
 go_simp
 go_wp2_with fail
 refine (zcY HTB.out (HPK.out.on hB) (by omega) (by omega) HF2.out).mono ?_
 rintro e w19 ⟨Ai,ci,Bi,di,rfl,mi1,mi2,mi3,mi4,mi5,mi6,kb⟩
 rw [<-HX2.out] at mi1 mi2 mi3 mi5 ⊢
 have HI:=hid (zau mi1 mi2 mi3 mi4 mi5 mi6 hX2)
 replace rp:=zaa rp kb;replace hB:=onS hB kb;clear kb HTB mi1 mi2 mi3 mi4 mi5 mi6
 refine bkq hK ⟨qc0 rp,qc1 rp,qc2 rp⟩ (h:=fun hHeld=>?_)
 clear hK K
 refine rdq 19 (h:=fun K hK=>?_)
 go_simp
 go_wp2_with fail
 refine (zdC 1 w19 (by omega) (by omega)).mono ?_
 rintro e w20 ⟨Aj,cj,Bj,dj,rfl,mj1,mj2,mj3,mj4,mj5,mj6,kb⟩
 have hs1:rsz ((1:Int):Rat) 100000:=(show rsz (1:Rat) 1 from zjs).mono (by omega)
 obtain ⟨y1,hy1⟩:∃ y:Rat,y=((1:Int):Rat):=⟨_,rfl⟩
 rw [<-hy1] at mj1 mj2 mj3 mj5 hs1 hbw ⊢;clear hy1
 have HJ:=hid (zau mj1 mj2 mj3 mj4 mj5 mj6 hs1)
 replace rp:=zaa rp kb;replace hB:=onS hB kb;replace HI:=hid (HI.out.on kb);clear kb mj1 mj2 mj3 mj4 mj5 mj6
 refine bkq hK ⟨qc0 rp,qc1 rp,qc2 rp⟩ (h:=fun hHeld=>?_)
 clear hK K
 refine rdq 20 (h:=fun K hK=>?_)
 go_simp
 go_wp2_with fail
 refine (zdO true _ _ x2 y1 100000 w20 HI.out HJ.out (by omega) hX2 hs1 hbw).mono ?_
 rintro e w21 ⟨rfl,kb⟩
 replace rp:=zaa rp kb;replace hB:=onS hB kb;clear kb HI HJ
 refine bkq hK ⟨qc0 rp,qc1 rp,qc2 rp⟩ (h:=fun hHeld=>?_)
 clear hK K
 refine tkq 21 (h:=tkq 22 (h:=?_))
 refine wpAnyH_done (by kernel_rfl) ?_ _
 clear hHeld rp
 go_wp2
 go_ret
 exact ⟨rfl,hB⟩
theorem channelLeaders_law {H:Type} {enc:TypeId × Value->H} {w:World} {cs cs':Array Value} {T:Option Addr} {m c:Nat}
  (h:Sees enc Tryz.prog w 0 (fun _=>true) true 27 cs.toList) (hx:Sees enc Tryz.prog w 0 (fun _=>true) true 25 [.slice T m c]) (hp:Sees enc Tryz.prog w 0 (fun _=>true) true 49 cs'.toList) :
  Calls Tryz.prog 6 #[.agg cs,.slice T m c,.agg cs'] w fun e w'=>e=.returned (.bool true)/\Below w.heap.size w w':=by
 obtain ⟨cs⟩:=cs
 obtain ⟨cs'⟩:=cs'
 obtain ⟨P,M,A,k,c1,N,T1,n,d,f,ln,V,rfl,_,_,hkc,_,_,_,hr,ht⟩:=zi0 h
 obtain ⟨S,m2,d2,tl,U,e,_,_,h4⟩:=zf6 hx
 simp only [List.cons.injEq,Value.slice.injEq,and_true] at e
 obtain ⟨rfl,rfl,rfl⟩:=e
 obtain ⟨s,XA,xl,xc,XB,yl,yc,p,rfl,hpr⟩:=zkB hp
 exact zc6 P M A k c1 f N T1 n d ln V T m c tl U s XA xl xc XB yl yc p w hr ht h4 hpr hkc
end Go.Proofs.YtioagplajkoohaaGreat