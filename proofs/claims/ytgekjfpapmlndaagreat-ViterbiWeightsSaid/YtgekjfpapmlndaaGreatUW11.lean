/- Merged texts of a claim: Section, Rename. -/
import Derived.Test.YtgekjfpapmlndaaGreatUW10
namespace Go.Proofs.YtgekjfpapmlndaaGreat
set_option maxRecDepth 100000
set_option maxHeartbeats 32000000
open KA KB KC KD KE KF
open Go.RowKit Go.ChangeShapes Go.WideShapes Go.ChangeAt
theorem zhY {w:World} {base:Nat} (hb:base<=w.heap.size) (x:Int × Int × Int):Own (w.alloc (.cells #[.int .i64 x.1,.int .i64 x.2.1,.int .i64 x.2.2] 90)) base 90 3 (.slice (some ⟨w.heap.size,0,none⟩) 1 1) 1 (edgeCell fun _=>x) :=
 Own.new (cur:=#[.int .i64 x.1,.int .i64 x.2.1,.int .i64 x.2.2]) hb (Nat.le_refl _) (by unfold maxLen; omega) (by simp) (fun k hk j hj=>by
  obtain rfl:k=0:=by omega
  match j,hj with
  | 0,_=>rfl
  | 1,_=>rfl
  | 2,_=>rfl)
theorem zbN (D:Nat->Bool) (n:Nat):cntB D (n+1)=cntB D n+if D n then 1 else 0:=rfl
def SectPost (q:Nat) (add mul:Nat->Nat->Nat) (n N:Nat) (pv:Nat->Nat) (R:Nat->Nat->Nat) (i:Nat) (w:World) (e:Ending) (w':World):Prop :=
 ∃ A m c y,e=.returned (.tuple #[.int .i64 (q ^ cntB (actA pv R N (i+1)) n:Nat),.slice A m c])/\SecM q add mul n N pv R i m y/\Own w' w.heap.size 90 3 (.slice A m c) m (edgeCell y)/\Below w.heap.size w w'
theorem zfM (P M:Nat) (m:Nat->Nat) (g n N i:Nat) (pv:Nat->Nat) (R:Nat->Nat->Nat) (T:Option Addr) (d:Nat) (w:World) (hG:GF w w.heap.size g P M m) (h:IntRows w T n (fun _=>N) (fun s j=>((R s j:Nat):Int))) (hS:SpanF (P ^ M) n N pv R) (hn:n<=64) (hN:N<=64) (hi:i<N)
  (hE:(P ^ M) ^ cntB (actE pv R N i) n<=262144) :
  Calls Tryz.prog 77 #[.pointer (some ⟨g,0,none⟩),.slice T n d,.int .i64 (i:Nat)] w (SectPost (P ^ M) (addF P M) (mulF P M m) n N pv R i w):=by
 have HG:=hid hG
 have HR:=hid h
 have HS:=hid hS
 have HL:=hid (fieldLaws hG.ok)
 have HE:=hid hE
 have ai:=hid hi
 obtain ⟨q,hq⟩:=exx (P ^ M)
 have d6:2<=q:=by rw [hq]; exact HL.out.two
 have bi:q<=256:=by rw [hq]; exact hG.ok.1.2.2.2
 clear hG h hS hE
 have HQ:=hid hq
 obtain ⟨mt,a3⟩:∃ mt:Nat->Nat,mt=fun t=>q ^ cntB (actE pv R N i) t:=⟨_,rfl⟩
 obtain ⟨wt,a8⟩:∃ wt:Nat->Nat,wt=fun t=>q ^ cntB (actA pv R N (i+1)) t:=⟨_,rfl⟩
 have cs:Hid (mt 0=1):=hid (by rw [a3]; rfl)
 have cn:Hid (wt 0=1):=hid (by rw [a8]; rfl)
 have a2:=hid a3
 have ac:=hid a8
 have af:Hid (∀ t,t<=n->mt t<=262144):=hid fun t ht=>by
  rw [a3]
  refine Nat.le_trans (Nat.pow_le_pow_right (by omega) ?_) (by rw [hq]; exact HE.out)
  have:=zgM (actE pv R N i) t (n - t)
  rwa [show t+(n - t)=n by omega] at this
 have bo:Hid (∀ t,t<=n->wt t<=262144):=hid fun t ht=>by
  refine Nat.le_trans ?_ (af.out t ht)
  rw [a8,a3]
  refine Nat.pow_le_pow_right (by omega) (zgL (fun s hs=>?_) t)
  obtain ⟨h1,h2⟩:=(zaM _ _).1 hs
  exact (zbu _ _).2 ⟨by omega,by omega⟩
 clear a3 a8
 have d9:(0:Int)<=(i:Int):=by omega
 clear hq
 go_enter Tryz.func77, Tryz.ntmps77
 go_wp2_with fail
 refine (zco HG.out).mono ?_
 rintro e w1 ⟨he,kb⟩
 rw [<-HQ.out] at he
 subst he
 have be:=hid kb
 clear kb
 go_upto_region 3 with fail
 have a9:=zhY (w:=w1) (base:=w.heap.size) be.out.size (0,0,0)
 have kb:=aly w1 (Obj.cells #[Value.int .i64 0,Value.int .i64 0,Value.int .i64 0] 90)
 obtain ⟨w2,aj⟩:=exx (World.alloc w1 (Obj.cells #[Value.int .i64 0,Value.int .i64 0,Value.int .i64 0] 90))
 rw [<-aj] at kb ⊢
 have a9:Own w2 w.heap.size 90 3 (.slice (some ⟨w1.heap.size,0,none⟩) 1 1) 1 (edgeCell fun _=>(0,0,0)):=by rw [aj]; exact a9
 have a0:=hid a9
 have bv:=hid (onS be.out kb)
 clear kb aj a9
 go_upto_region 5 with fail
 go_loopg [9,10,26] n (fun gg v9 v10 iv wx=>∃ (t:Nat) (x:Nat->Int × Int × Int),iv=.int .i64 (t:Nat)/\v10=.int .i64 (wt t:Nat)/\t<=n/\n<=t+gg/\Hid (Own wx w.heap.size 90 3 v9 (mt t) (edgeCell x))/\Hid (SecX q (addF P M) (mulF P M m) pv R N i t x)/\Below w.heap.size w wx)
 case atStart=>exact ⟨0,fun _=>(0,0,0),rfl,by rw [cn.out]; rfl,by omega,by omega,hid (by rw [cs.out]; exact a0.out),zhT,bv.out⟩
 clear a0 bv be
 obtain ⟨t,x,rfl,rfl,ht,d3,HO,HX,U⟩:=hrel
 have d4:(0:Int)<=(t:Int):=by omega
 have HB:=hid U
 obtain ⟨w3,c8⟩:=exx wr
 subst c8
 clear U
 obtain ⟨mm,aa⟩:=exx (mt t)
 have ca:mm<=262144:=by rw [aa]; exact af.out t ht
 obtain ⟨ww,a7⟩:=exx (wt t)
 have bw:ww<=262144:=by rw [a7]; exact bo.out t ht
 rw [<-a7];rw [<-aa] at HO
 have a6:=hid aa
 have b2:=hid a7
 clear aa a7
 obtain ⟨EA,ec,hv⟩:=HO.out.shape
 subst hv
 by_cases htn:t<n
 rotate_left
 ·have am:¬ (t:Int)<(n:Int):=by omega
  obtain rfl:n=t:=by omega
  have cb:0<mm:=by rw [a6.out,a2.out]; exact Nat.pow_pos (by omega)
  go_wp2_with fail
  refine (zcb mm x w3 w.heap.size (.slice EA mm ec) HO.out cb (by omega)).mono ?_
  rintro e w4 ⟨rfl,y,hp,hs,ho,bj⟩
  have co:Hid (SecM (P ^ M) (addF P M) (mulF P M m) n N pv R i mm y):=hid (by
   have e1:mm=(P ^ M) ^ cntB (actE pv R N i) n:=by rw [a6.out,a2.out,HQ.out]
   have hx:=HX.out
   rw [HQ.out] at hx;rw [e1] at hp hs ⊢
   exact zjP HL.out HS.out ai.out hx hp hs)
  have cp:=hid ho
  have cw:=hid (HB.out.grown bj HB.out.size fun q e=>(HO.out.lt _ e).1)
  have cm:Hid (ww=(P ^ M) ^ cntB (actA pv R N (i+1)) n):=hid (by rw [b2.out,ac.out,HQ.out])
  clear hp hs ho bj
  go_wp2
  go_ret2
  exact ⟨EA,mm,ec,y,by rw [<-cm.out]; rfl,co.out,cp.out,cw.out⟩
 have am:(t:Int)<(n:Int):=by omega
 obtain ⟨b1,o1,RA,rc,ch,cg,x0,h1,h2,h3,h4⟩:=HR.out t htn
 subst ch
 replace x0:=cellS HB.out x0
 have a5:=hid h3
 clear h3 h4 h1 h2 cg
 go_wp2_with fail
 clear x0
 refine (zdF RA N rc (R t) w3 (a5.out.on HB.out) (by omega)).mono ?_
 rintro e w4 ⟨rfl,kb⟩
 replace HB:=hid (onS HB.out kb);replace HO:=hid (HO.out.on kb);clear kb;rw [HS.out.first htn]
 have a4:actE pv R N i t=true↔(pv t<=i/\(i:Int)<=lE (R t) N):=zbu i t
 obtain ⟨p,hp⟩:=exx (pv t)
 obtain ⟨l,hl⟩:=exx (lE (R t) N)
 have HP:=hid hp
 have b9:=hid hl
 rw [<-hp,<-hl] at a4 ⊢;clear hp hl
 by_cases g0:p<=i/\(i:Int)<=l
 rotate_left
 ·have D:actE pv R N i t=false:=by
   cases hb:actE pv R N i t with
   | false=>rfl
   | true=>exact absurd (a4.1 hb) g0
  have bn:actA pv R N (i+1) t=false:=by
   cases hb:actA pv R N (i+1) t with
   | false=>rfl
   | true =>
    obtain ⟨k1,k2⟩:=(zaM _ _).1 hb
    rw [<-HP.out] at k1;rw [<-b9.out] at k2
    exact absurd ⟨by omega,by omega⟩ g0
  have b0:Hid (SecX q (addF P M) (mulF P M m) pv R N i (t+1) x):=hid (by
   have:=HX.out
   rw [HQ.out] at this ⊢
   exact zhU HL.out HS.out ai.out htn D this)
  have ag:Hid (mt (t+1)=mm):=hid (by rw [a6.out,a2.out]; show q ^ cntB _ (t+1)=q ^ cntB _ t; rw [zbN,D]; rfl)
  have ae:Hid (ww=wt (t+1)):=hid (by rw [b2.out,ac.out]; show q ^ cntB _ t=q ^ cntB _ (t+1); rw [zbN,bn]; rfl)
  clear D bn a4
  by_cases g1:p<=i
  focus
   have g1':¬ (p:Int) > (i:Int):=by omega
   have g1d:decide ((p:Int) > (i:Int))=false:=by simp; omega
   have g2:l<(i:Int):=by omega
   have g2d:decide (l<(i:Int))=true:=by simp; omega
  rotate_left
  focus
   have g1':(p:Int) > (i:Int):=by omega
   have g1d:decide ((p:Int) > (i:Int))=true:=by simp; omega
  rotate_left
  all_goals
   clear g0
   go_wp2
   go_roundg (gk - 1)
   case measure=>omega
   case rel=>exact ⟨t+1,x,by go_num,by rw [<-ae.out],by omega,by omega,hid (by rw [ag.out]; exact HO.out),b0,HB.out⟩
 obtain ⟨g1,g2⟩:=g0
 have g1':¬ (p:Int) > (i:Int):=by omega
 have g1d:decide ((p:Int) > (i:Int))=false:=by simp; omega
 have g1n:¬ i<p:=by omega
 have g1m:decide (i<p)=false:=by simp; omega
 have g2d:decide (l<(i:Int))=false:=by simp; omega
 have g2':¬ l<(i:Int):=by omega
 have D:actE pv R N i t=true:=a4.2 ⟨g1,g2⟩
 obtain ⟨z,hz⟩:∃ z:Nat->Int × Int × Int,z=fun y=>stepE q (addF P M) (mulF P M m) pv R N i t (x (y / q)) (y % q):=⟨_,rfl⟩
 have b0:Hid (SecX q (addF P M) (mulF P M m) pv R N i (t+1) z):=hid (by rw [hz]; exact zhV D HX.out)
 have ag:Hid (mt (t+1)=mm*q):=hid (by rw [a6.out,a2.out]; show q ^ cntB _ (t+1)=q ^ cntB _ t*q; rw [zbN,D,if_pos rfl,Nat.pow_succ])
 have ae:Hid (wt (t+1)=if (i:Int)<l then ww*q else ww):=hid (by
  have bm:actA pv R N (i+1) t=true↔(i:Int)<l:=by
   rw [zaM,<-HP.out,<-b9.out]
   omega
  rw [b2.out,ac.out]
  show q ^ cntB _ (t+1)=if (i:Int)<l then q ^ cntB _ t*q else q ^ cntB _ t
  rw [zbN]
  by_cases g:(i:Int)<l
  ·rw [bm.2 g,if_pos g,if_pos rfl,Nat.pow_succ]
  have:actA pv R N (i+1) t=false:=by
   cases hb:actA pv R N (i+1) t with
   | false=>rfl
   | true=>exact absurd (bm.1 hb) g
  rw [this,if_neg g]; rfl)
 have d7:mm*q<=262144:=by rw [<-ag.out]; exact af.out (t+1) htn
 have HZ:Hid (∀ u a,a<q->z (u*q+a)=stepE q (addF P M) (mulF P M m) pv R N i t (x u) a):=hid fun u a ha=>by
  rw [hz]
  show stepE q (addF P M) (mulF P M m) pv R N i t (x ((u*q+a) / q)) ((u*q+a) % q)=_
  rw [Nat.mul_add_mod_self_right,Nat.mod_eq_of_lt ha,Nat.mul_comm u q,Nat.mul_add_div (by omega),Nat.div_eq_of_lt ha,Nat.add_zero]
 have cl:Hid (∀ u,u<mm->0<=(x u).1/\(x u).1<=262144/\0<=(x u).2.1/\(x u).2.1<(q:Int)/\0<=(x u).2.2/\(x u).2.2<=262144):=hid fun u hu=>by
  have hx:=HX.out
  rw [HQ.out] at hx
  have c9:u<(P ^ M) ^ cntB (actE pv R N i) t:=by rw [<-HQ.out]; rw [a6.out,a2.out] at hu; exact hu
  have k:=zjO HL.out hx c9
  have c1:(P ^ M) ^ cntB (actA pv R N i) t<=262144:=by
   have:=af.out t ht
   rw [a2.out] at this;rw [<-HQ.out]
   refine Nat.le_trans (Nat.pow_le_pow_right (by omega) (zgL (fun s hs=>?_) t)) this
   obtain ⟨h1,h2⟩:=(zaM _ _).1 hs
   exact (zbu _ _).2 ⟨by omega,by omega⟩
  have c2:(P ^ M) ^ cntB (actA pv R N (i+1)) t<=262144:=by
   have:=bo.out t ht
   rw [ac.out] at this;rw [<-HQ.out]
   exact this
  rw [HQ.out]
  omega
 have al:t<n:=htn
 clear hz D a4
 obtain ⟨gO,ce⟩:=exx gk
 subst ce
 go_upto_region 11 with fail
 go_loopg [15,45] mm (fun gg v15 uv wx=>∃ u:Nat,uv=.int .i64 (u:Nat)/\u<=mm/\mm<=u+gg/\Hid (Own wx w.heap.size 90 3 (.slice EA mm ec) mm (edgeCell x))/\Hid (Own wx w.heap.size 90 3 v15 (u*q) (edgeCell z))/\Hid ((Value.slice EA mm ec).ownBlock=none∨(Value.slice EA mm ec).ownBlock≠v15.ownBlock)/\Below w.heap.size w wx)
 case atStart=>exact ⟨0,rfl,by omega,by omega,HO,hid (by rw [Nat.zero_mul]; exact Own.nil _ _ _ _ _),hid (by
  cases hc:(Value.slice EA mm ec).ownBlock with
  | none=>exact .inl rfl
  | some b=>exact .inr (by simp [Value.ownBlock])),HB.out⟩
 clear HO HB
 obtain ⟨u,rfl,hu,cy,HO,C,Z,U⟩:=hrel
 have cz:(0:Int)<=(u:Int):=by omega
 have HB:=hid U
 obtain ⟨w5,c7⟩:=exx wr
 subst c7
 clear U
 by_cases hum:u<mm
 rotate_left
 ·have ak:¬ (u:Int)<(mm:Int):=by omega
  obtain rfl:mm=u:=by omega
  obtain ⟨ZA,zc,V⟩:=C.out.shape
  subst V
  have b4:Hid (Own w5 w.heap.size 90 3 (.slice ZA (mm*q) zc) (mt (t+1)) (edgeCell z)):=hid (by rw [ag.out]; exact C.out)
  by_cases g5:(i:Int)<l
  focus
   have g5':l > (i:Int):=by omega
   have bz:0<=(ww:Int)*(q:Int):=Int.mul_nonneg (by omega) (by omega)
   have bx:(ww:Int)*(q:Int)<=262144*256:=Int.mul_le_mul (by omega) (by omega) (by omega) (by omega)
   have bp:Hid ((ww:Int)*(q:Int)=(wt (t+1):Nat)):=hid (by rw [ae.out,if_pos g5]; push_cast; rfl)
  rotate_left
  focus
   have g5':¬ l > (i:Int):=by omega
   have bp:Hid (ww=wt (t+1)):=hid (by rw [ae.out,if_neg g5])
  rotate_left
  all_goals
   go_wp2
   go_roundg (gO - 1)
   case measure=>omega
   case rel=>exact ⟨t+1,z,by go_num,by rw [<-bp.out],by omega,by omega,b4,b0,HB.out⟩
 have ak:(u:Int)<(mm:Int):=by omega
 obtain ⟨eb,eo,ed,cj,_,da,_,_,B⟩:=HO.out.form (by omega)
 injection cj with hEA _ hec
 subst hEA
 have y0:w5.cell? ⟨eb,eo+u*3,none⟩=some (.int .i64 (x u).1):=B u hum 0 (by omega)
 have y1:w5.cell? ⟨eb,eo+u*3+1,none⟩=some (.int .i64 (x u).2.1):=B u hum 1 (by omega)
 have y2:w5.cell? ⟨eb,eo+u*3+2,none⟩=some (.int .i64 (x u).2.2):=B u hum 2 (by omega)
 clear B hec
 obtain ⟨k0,k1,k2,k3,k4,k5⟩:=cl.out u hum
 obtain ⟨E0,D⟩:=exx (x u)
 rw [<-D] at y0 y1 y2 k0 k1 k2 k3 k4 k5
 obtain ⟨F,L,O⟩:=E0
 have cu:=hid D
 clear D;replace y0:w5.cell? ⟨eb,eo+u*3,none⟩=some (.int .i64 F):=y0;replace y1:w5.cell? ⟨eb,eo+u*3+1,none⟩=some (.int .i64 L):=y1;replace y2:w5.cell? ⟨eb,eo+u*3+2,none⟩=some (.int .i64 O):=y2;replace k0:0<=F:=k0;replace k1:F<=262144:=k1;replace k2:0<=L:=k2;replace k3:L<(q:Int):=k3;replace k4:0<=O:=k4;replace k5:O<=262144:=k5
 obtain ⟨gP,cd⟩:=exx gk
 subst cd
 go_upto_region 13 with fail
 clear y0 y1 y2
 have rx:(w5.alloc (Obj.cells #[.int .i64 F,.int .i64 L,.int .i64 O] 90)).rowIs w5.heap.size 90 3 (fun j=>edgeCell (fun _=>(F,L,O)) 0 j):=World.rowIs_alloc w5 _ _ _ (fun j hj=>by
  match j,hj with
  | 0,_=>rfl
  | 1,_=>rfl
  | 2,_=>rfl)
 have kb:=aly w5 (Obj.cells #[.int .i64 F,.int .i64 L,.int .i64 O] 90)
 obtain ⟨w6,bh⟩:=exx (w5.alloc (Obj.cells #[.int .i64 F,.int .i64 L,.int .i64 O] 90))
 rw [<-bh] at rx kb ⊢
 obtain ⟨xb,bg⟩:=exx w5.heap.size
 have bq:Hid (∀ v:Value,(∀ k,v.ownBlock=some k->w.heap.size<=k/\k<w5.heap.size)->v.ownBlock≠some xb):=hid fun v hv e=>by
  have:=(hv xb e).2
  omega
 rw [<-bg] at rx ⊢
 have G:=hid rx
 have br:Hid (∀ v15,Own w5 w.heap.size 90 3 v15 (u*q) (edgeCell z)->v15.ownBlock≠some xb):=hid fun v15 ho=>bq.out v15 ho.lt
 have a1:=hid (br.out _ C.out)
 replace HO:=hid (HO.out.on kb);replace C:=hid (C.out.on kb);replace HB:=hid (onS HB.out kb);clear kb bh bg bq br rx
 go_upto_region 14 with fail
 go_loopg [15,50] q (fun gg v15 av wx=>∃ a:Nat,av=.int .i64 (a:Nat)/\a<=q/\q<=a+gg/\Hid (Own wx w.heap.size 90 3 (.slice (some ⟨eb,eo,none⟩) mm ec) mm (edgeCell x))/\Hid (Own wx w.heap.size 90 3 v15 (u*q+a) (edgeCell z))/\Hid ((Value.slice (some ⟨eb,eo,none⟩) mm ec).ownBlock=none∨(Value.slice (some ⟨eb,eo,none⟩) mm ec).ownBlock≠v15.ownBlock)/\Hid (wx.rowIs xb 90 3 (fun j=>edgeCell (fun _=>(F,L,O)) 0 j))/\Hid (v15.ownBlock≠some xb)/\Below w.heap.size w wx)
 case atStart=>exact ⟨0,rfl,by omega,by omega,HO,C,Z,G,a1,HB.out⟩
 clear HO C Z G a1 HB
 obtain ⟨a,rfl,ha,db,HO,C,Z,G,a1,U⟩:=hrel
 have dc:(0:Int)<=(a:Int):=by omega
 have HB:=hid U
 obtain ⟨w7,c6⟩:=exx wr
 subst c6
 clear U
 obtain ⟨ZA,zc,V⟩:=C.out.shape
 subst V
 by_cases haq:a<q
 rotate_left
 ·have aq:¬ (a:Int)<(q:Int):=by omega
  obtain rfl:q=a:=by omega
  have b6:Hid (Own w7 w.heap.size 90 3 (.slice ZA (u*q+q) zc) ((u+1)*q) (edgeCell z)):=hid (by rw [Nat.add_mul,Nat.one_mul]; exact C.out)
  go_wp2
  go_roundg (gP - 1)
  case measure=>omega
  case rel=>exact ⟨u+1,by go_num,by omega,by omega,HO,b6,Z,HB.out⟩
 have aq:(a:Int)<(q:Int):=by omega
 obtain ⟨cr,ab⟩:=exx (R t i)
 obtain ⟨mv,an⟩:=exx (mulF P M m a cr)
 obtain ⟨lv,ap⟩:=exx (addF P M L.toNat mv)
 have cf:cr<q:=by rw [ab,HQ.out]; exact HS.out.lt t al i ai.out
 have ao:mv<q:=by rw [an,HQ.out]; exact HL.out.mulLt _ _
 have d8:lv<q:=by rw [ap,HQ.out]; exact HL.out.addLt _ _
 obtain ⟨rb,ro,ci,d5,r0⟩:=(a5.out.on HB.out).at ai.out
 subst ci
 have cc:(i:Int)<(N:Int):=by omega
 rw [<-ab] at r0
 have bt:Hid (inV (P ^ M) (a:Int)=a):=hid (by rw [<-HQ.out]; exact zaj haq)
 have bs:Hid (inV (P ^ M) (cr:Int)=cr):=hid (by rw [<-HQ.out]; exact zaj cf)
 have ba:Hid (inV (P ^ M) (mv:Int)=mv):=hid (by rw [<-HQ.out]; exact zaj ao)
 have bb:Hid (inV (P ^ M) L=L.toNat):=hid (by rw [<-HQ.out]; have:=zaj (q:=q) (x:=L.toNat) (by omega); rwa [show ((L.toNat:Nat):Int)=L by omega] at this)
 have b8:=hid an
 have ah:=hid ap
 have cv:=hid ab
 clear ab an ap
 have x0:=G.out.cell (i:=0) (by omega)
 have x1:=G.out.cell (i:=1) (by omega)
 have x2:=G.out.cell (i:=2) (by omega)
 replace x0:w7.cell? ⟨xb,0,none⟩=some (.int .i64 F):=x0;replace x1:w7.cell? ⟨xb,1,none⟩=some (.int .i64 L):=x1;replace x2:w7.cell? ⟨xb,2,none⟩=some (.int .i64 O):=x2
 go_upto_region 16 with fail
 go_cut [19] (fun v19 wx=>∃ yb,v19=.pointer (some ⟨yb,0,none⟩)/\w7.heap.size<=yb/\Hid (wx.rowIs yb 90 3 (fun j=>edgeCell (fun _=>(F,((lv:Nat):Int),O)) 0 j))/\Below w7.heap.size w7 wx)
 case rest =>
  obtain ⟨yb,rfl,r,o,E⟩:=hcut
  obtain ⟨w8,c5⟩:=exx wc
  subst c5
  have I:Hid (w7.heap.size<=yb):=hid r
  have K8:=hid E
  clear x0 x1 x2 r0
  have x0:w8.cell? ⟨xb,0,none⟩=some (.int .i64 F):=(zab G.out E).cell (i:=0) (by omega)
  clear E r
  obtain ⟨F1,bl⟩:∃ F1:Int,F1=if p<i then F*(q:Nat)+(a:Nat) else F:=⟨_,rfl⟩
  obtain ⟨O1,bk⟩:∃ O1:Int,O1=if (i:Int)<l then O*(q:Nat)+(a:Nat) else O:=⟨_,rfl⟩
  have ax:0<=F*(q:Int):=Int.mul_nonneg k0 (by omega)
  have aw:F*(q:Int)<=262144*256:=Int.mul_le_mul k1 (by omega) (by omega) (by omega)
  have au:0<=O*(q:Int):=Int.mul_nonneg k4 (by omega)
  have ar:O*(q:Int)<=262144*256:=Int.mul_le_mul k5 (by omega) (by omega) (by omega)
  have bc:=hid bl
  have a0:=hid bk
  clear bl bk
  go_upto_if 71 with fail
  go_cut [] (fun wx=>Hid (wx.rowIs yb 90 3 (fun j=>edgeCell (fun _=>(F1,((lv:Nat):Int),O)) 0 j))/\Below w7.heap.size w7 wx)
  case first =>
   by_cases g3:p<i
   rotate_left
   ·have g3':¬ (p:Int)<(i:Int):=by omega
    have Y:Hid (w8.rowIs yb 90 3 (fun j=>edgeCell (fun _=>(F1,((lv:Nat):Int),O)) 0 j)):=hid (by rw [bc.out,if_neg g3]; exact o.out)
    go_wp2
    go_meet
    exact ⟨Y,K8.out⟩
   have g3':(p:Int)<(i:Int):=by omega
   have c0:=qc0 o.out
   have z0:=o.out.frozen 0
   have o1:=(o.out.set 0 (.int .i64 (F*(q:Nat)+(a:Nat)))).congr (g:=fun j=>edgeCell (fun _=>(F1,((lv:Nat):Int),O)) 0 j) fun j hj=>by
    match j,hj with
    | 0,_=>rw [if_pos rfl]; show _=Value.int .i64 F1; rw [bc.out,if_pos g3]
    | 1,_=>rfl
    | 2,_=>rfl
   have kb:=K8.out.setCell (p:=⟨yb,0,none⟩) I.out (.int .i64 (F*(q:Nat)+(a:Nat)))
   have Y:=hid o1
   have K9:=hid kb
   clear o1 kb
   go_wp2
   go_meet
   exact ⟨Y,K9.out⟩
  clear o K8
  obtain ⟨o,E⟩:=hcut
  obtain ⟨w9,c4⟩:=exx wc
  subst c4
  have K8:=hid E
  clear x0
  have x2:w9.cell? ⟨xb,2,none⟩=some (.int .i64 O):=(zab G.out E).cell (i:=2) (by omega)
  clear E
  go_upto_if 81 with fail
  go_cut [] (fun wx=>Hid (wx.rowIs yb 90 3 (fun j=>edgeCell (fun _=>(F1,((lv:Nat):Int),O1)) 0 j))/\Below w7.heap.size w7 wx)
  case first =>
   by_cases g4:(i:Int)<l
   rotate_left
   ·have g4':¬ l > (i:Int):=by omega
    have Y:Hid (w9.rowIs yb 90 3 (fun j=>edgeCell (fun _=>(F1,((lv:Nat):Int),O1)) 0 j)):=hid (by rw [a0.out,if_neg g4]; exact o.out)
    go_wp2
    go_meet
    exact ⟨Y,K8.out⟩
   have g4':l > (i:Int):=by omega
   have c2:=qc2 o.out
   have z2:=o.out.frozen 2
   have o1:=(o.out.set 2 (.int .i64 (O*(q:Nat)+(a:Nat)))).congr (g:=fun j=>edgeCell (fun _=>(F1,((lv:Nat):Int),O1)) 0 j) fun j hj=>by
    match j,hj with
    | 0,_=>rfl
    | 1,_=>rfl
    | 2,_=>rw [if_pos rfl]; show _=Value.int .i64 O1; rw [a0.out,if_pos g4]
   have kb:=K8.out.setCell (p:=⟨yb,2,none⟩) I.out (.int .i64 (O*(q:Nat)+(a:Nat)))
   have Y:=hid o1
   have K9:=hid kb
   clear o1 kb
   go_wp2
   go_meet
   exact ⟨Y,K9.out⟩
  clear o K8
  obtain ⟨o,E⟩:=hcut
  obtain ⟨wd,c3⟩:=exx wc
  subst c3
  clear x2
  have d0:=qc0 o.out
  have d1:=qc1 o.out
  have d2:=qc2 o.out
  have ck:Hid (z (u*q+a)=(F1,((lv:Nat):Int),O1)):=hid (by
   rw [HZ.out u a haq,<-cu.out]
   unfold stepE
   rw [bc.out,a0.out,ah.out,b8.out,cv.out,HP.out,b9.out])
  have kb:=aly wd (Obj.cells #[Value.int .i64 F1,Value.int .i64 (lv:Nat),Value.int .i64 O1] 90)
  have ky:=onS E kb
  have ra:=World.rowIs_alloc wd #[Value.int .i64 F1,Value.int .i64 (lv:Nat),Value.int .i64 O1] 90 (fun j=>edgeCell z (u*q+a) j) (fun j hj=>by
   unfold edgeCell
   rw [ck.out]
   match j,hj with
   | 0,_=>rfl
   | 1,_=>rfl
   | 2,_=>rfl)
  have b5:=hid (C.out.on ky)
  have W:=hid (HO.out.on ky)
  have J:=hid (zab G.out ky)
  have bd:=hid (onS HB.out ky)
  have bu:Hid (∀ j,j<3->(wd.alloc (Obj.cells #[Value.int .i64 F1,Value.int .i64 (lv:Nat),Value.int .i64 O1] 90)).cell? ((⟨wd.heap.size,0,none⟩:Addr).add j)=some (edgeCell z (u*q+a) j)):=hid fun j hj=>by
   match j,hj with
   | 0,_=>exact ra.cell (i:=0) (by simp)
   | 1,_=>exact ra.cell (i:=1) (by simp)
   | 2,_=>exact ra.cell (i:=2) (by simp)
  have ay:Hid (w.heap.size<=(wd.alloc (Obj.cells #[Value.int .i64 F1,Value.int .i64 (lv:Nat),Value.int .i64 O1] 90)).heap.size):=hid bd.out.size
  have ct:Hid (u*q+a<=1048576):=hid (by
   have h1:(u+1)*q<=mm*q:=Nat.mul_le_mul_right q hum
   rw [Nat.add_mul,Nat.one_mul] at h1
   omega)
  clear kb ky ra E
  go_wp2_with (first | (at_builtin; (refine zb4 rfl (.tmp 89) (.tmp 91) rfl b5.out rfl (ad:=⟨wd.heap.size,0,none⟩) (c:=1) rfl bu.out ay.out ct.out ?_); intro v9 we o1 o2 o3))
  have b4:=hid o1
  have b3:=hid (W.out.kept o2 Z.out)
  have az:=hid (J.out.of_block (o2.block xb J.out.lt fun e=>a1.out e.symm))
  have cx:=hid (bd.out.grown o2 ay.out fun q e=>(b5.out.lt _ e).1)
  have bf:Hid ((Value.slice (some ⟨eb,eo,none⟩) mm ec).ownBlock=none∨(Value.slice (some ⟨eb,eo,none⟩) mm ec).ownBlock≠v9.ownBlock):=hid (by
   rcases Z.out with h | h
   ·exact .inl h
   refine .inr fun e=>?_
   rcases o3 with h3 | h3
   ·exact h (e.trans h3)
   ·have:=(W.out.lt _ (e.trans h3)).2
    omega)
  have b7:Hid (v9.ownBlock≠some xb):=hid fun e=>by
   rcases o3 with h3 | h3
   ·exact a1.out (h3.symm.trans e)
   have h5:=J.out.lt
   rw [h3] at e
   injection e with e
   omega
  clear o1 o2 o3 b5 W J bd bu ay d0 d1 d2 HO C Z G a1 HB ax aw au ar
  go_wp2
  go_roundg (gk - 1)
  case measure=>omega
  case rel=>exact ⟨a+1,by go_num,by omega,by omega,b3,b4,bf,az,b7,cx.out⟩
 have H:Hid (∀ X,Below w7.heap.size w7 X->X.cell? ⟨xb,0,none⟩=some (.int .i64 F)/\X.cell? ⟨xb,1,none⟩=some (.int .i64 L)/\X.cell? ⟨xb,2,none⟩=some (.int .i64 O)/\X.cell? ⟨rb,ro+i,none⟩=some (.int .i64 (cr:Nat))):=hid fun X hx=>⟨cellS hx x0,cellS hx x1,cellS hx x2,cellS hx r0⟩
 refine wp_region_held_drew (S:=fun X=>X.cell? ⟨xb,0,none⟩=some (.int .i64 F)/\X.cell? ⟨xb,1,none⟩=some (.int .i64 L)/\X.cell? ⟨xb,2,none⟩=some (.int .i64 O)/\X.cell? ⟨rb,ro+i,none⟩=some (.int .i64 (cr:Nat))) (by kernel_rfl) (H.out _ (Below.refl _ _).drew) (fun hHeld=>?_)
 obtain ⟨w8,hw,kb⟩:=dwx w7
 rw [<-hw] at hHeld ⊢;clear hw x0 x1 x2 r0
 have K8:=hid kb
 clear kb
 refine tkq 0 (h:=tkq 1 (h:=tkq 2 (h:=tkq 3 (h:=tkq 4 (h:=tkq 5 (h:=tkq 6 (h:=tkq 7 (h:=tkq 8 (h:=tkq 9 (h:=tkq 10 (h:=tkq 13 (h:=tkq 14 (h:=?_)))))))))))))
 clear hHeld
 refine rdq2 11 16 (h:=fun K hK=>?_) (h2:=fun K hK=>?_)
 focus
  go_simp
  go_wp2_with fail
  refine (zaL (a:Int) (cr:Int) (HG.out.at (onS HB.out K8.out) (onS HB.out K8.out).size)).mono ?_
  rintro e x9 ⟨rfl,kb⟩
  rw [bt.out,bs.out,<-b8.out];replace K8:=hid (onS K8.out kb);clear kb
  refine bkq hK (H.out _ K8.out) (h:=fun hHeld=>?_)
  clear hK K;clear hHeld
  refine rdq2 12 16 (h:=fun K hK=>?_) (h2:=fun K hK=>?_)
  focus
   go_simp
   go_wp2_with fail
   refine (zbf L (mv:Int) (HG.out.at (onS HB.out K8.out) (onS HB.out K8.out).size)).mono ?_
   rintro e x10 ⟨rfl,kb⟩
   rw [bb.out,ba.out,<-ah.out];replace K8:=hid (onS K8.out kb);clear kb
   refine bkq hK (H.out _ K8.out) (h:=fun hHeld=>?_)
   clear hK K
   refine tkq 15 (h:=?_)
   clear hHeld
   refine rdq 16 (h:=fun K hK=>?_)
   go_simp
   have ra:(x10.alloc (Obj.cells #[Value.int .i64 0,Value.int .i64 0,Value.int .i64 0] 90)).rowIs x10.heap.size 90 3 (fun _=>.int .i64 0):=World.rowIs_alloc _ _ _ _ (fun j hj=>by
    match j,hj with
    | 0,_=>rfl
    | 1,_=>rfl
    | 2,_=>rfl)
   have kb:=aly x10 (Obj.cells #[Value.int .i64 0,Value.int .i64 0,Value.int .i64 0] 90)
   obtain ⟨x11,Q⟩:=exx (x10.alloc (Obj.cells #[Value.int .i64 0,Value.int .i64 0,Value.int .i64 0] 90))
   rw [<-Q] at ra kb ⊢
   obtain ⟨yb,r⟩:=exx x10.heap.size
   rw [<-r] at ra ⊢
   have I:Hid (w7.heap.size<=yb):=hid (by rw [r]; exact K8.out.size)
   have o:=hid ra
   replace K8:=hid (onS K8.out kb);clear kb Q r ra
   refine bkq hK (H.out _ K8.out) (h:=fun hHeld=>?_)
   clear hK K
  rotate_left
  focus
   go_simp
   have ra:(x9.alloc (Obj.cells #[Value.int .i64 0,Value.int .i64 0,Value.int .i64 0] 90)).rowIs x9.heap.size 90 3 (fun _=>.int .i64 0):=World.rowIs_alloc _ _ _ _ (fun j hj=>by
    match j,hj with
    | 0,_=>rfl
    | 1,_=>rfl
    | 2,_=>rfl)
   have kb:=aly x9 (Obj.cells #[Value.int .i64 0,Value.int .i64 0,Value.int .i64 0] 90)
   obtain ⟨x12,Q⟩:=exx (x9.alloc (Obj.cells #[Value.int .i64 0,Value.int .i64 0,Value.int .i64 0] 90))
   rw [<-Q] at ra kb ⊢
   obtain ⟨yb,r⟩:=exx x9.heap.size
   rw [<-r] at ra ⊢
   have I:Hid (w7.heap.size<=yb):=hid (by rw [r]; exact K8.out.size)
   have o:=hid ra
   replace K8:=hid (onS K8.out kb);clear kb Q r ra
   refine bkq hK (H.out _ K8.out) (h:=fun hHeld=>?_)
   clear hK K;clear hHeld
   refine rdq 12 (h:=fun K hK=>?_)
   go_simp
   go_wp2_with fail
   refine (zbf L (mv:Int) (HG.out.at (onS HB.out K8.out) (onS HB.out K8.out).size)).mono ?_
   rintro e x13 ⟨rfl,kb⟩
   rw [bb.out,ba.out,<-ah.out];replace o:=hid (zab o.out kb);replace K8:=hid (onS K8.out kb);clear kb
   refine bkq hK (H.out _ K8.out) (h:=fun hHeld=>?_)
   clear hK K
   refine tkq 15 (h:=?_)
  rotate_left
 rotate_left 2
 focus
  go_simp
  have ra:(w8.alloc (Obj.cells #[Value.int .i64 0,Value.int .i64 0,Value.int .i64 0] 90)).rowIs w8.heap.size 90 3 (fun _=>.int .i64 0):=World.rowIs_alloc _ _ _ _ (fun j hj=>by
   match j,hj with
   | 0,_=>rfl
   | 1,_=>rfl
   | 2,_=>rfl)
  have kb:=aly w8 (Obj.cells #[Value.int .i64 0,Value.int .i64 0,Value.int .i64 0] 90)
  obtain ⟨x14,Q⟩:=exx (w8.alloc (Obj.cells #[Value.int .i64 0,Value.int .i64 0,Value.int .i64 0] 90))
  rw [<-Q] at ra kb ⊢
  obtain ⟨yb,r⟩:=exx w8.heap.size
  rw [<-r] at ra ⊢
  have I:Hid (w7.heap.size<=yb):=hid (by rw [r]; exact K8.out.size)
  have o:=hid ra
  replace K8:=hid (onS K8.out kb);clear kb Q r ra
  refine bkq hK (H.out _ K8.out) (h:=fun hHeld=>?_)
  clear hK K;clear hHeld
  refine rdq 11 (h:=fun K hK=>?_)
  go_simp
  go_wp2_with fail
  refine (zaL (a:Int) (cr:Int) (HG.out.at (onS HB.out K8.out) (onS HB.out K8.out).size)).mono ?_
  rintro e x15 ⟨rfl,kb⟩
  rw [bt.out,bs.out,<-b8.out];replace o:=hid (zab o.out kb);replace K8:=hid (onS K8.out kb);clear kb
  refine bkq hK (H.out _ K8.out) (h:=fun hHeld=>?_)
  clear hK K;clear hHeld
  refine rdq 12 (h:=fun K hK=>?_)
  go_simp
  go_wp2_with fail
  refine (zbf L (mv:Int) (HG.out.at (onS HB.out K8.out) (onS HB.out K8.out).size)).mono ?_
  rintro e x16 ⟨rfl,kb⟩
  rw [bb.out,ba.out,<-ah.out];replace o:=hid (zab o.out kb);replace K8:=hid (onS K8.out kb);clear kb
  refine bkq hK (H.out _ K8.out) (h:=fun hHeld=>?_)
  clear hK K
  refine tkq 15 (h:=?_)
 rotate_left
 all_goals
  clear hHeld
  refine rdq 17 (h:=fun K hK=>?_)
  have c0:=o.out.cell (i:=0) (by omega)
  have z0:=o.out.frozen 0
  have o1:=o.out.set 0 (.int .i64 F)
  have c1:=o1.cell (i:=1) (by omega)
  rw [if_neg (by omega)] at c1
  have z1:=o1.frozen 1
  have o2:=o1.set 1 (.int .i64 (lv:Nat))
  have c2:=o2.cell (i:=2) (by omega)
  rw [if_neg (by omega),if_neg (by omega)] at c2
  have z2:=o2.frozen 2
  have o3:=o2.set 2 (.int .i64 O)
  have kb:=((K8.out.setCell (p:=⟨yb,0,none⟩) I.out (.int .i64 F)).setCell (p:=⟨yb,1,none⟩) I.out (.int .i64 (lv:Nat))).setCell (p:=⟨yb,2,none⟩) I.out (.int .i64 O)
  have cq:=hid (o3.congr (g:=fun j=>edgeCell (fun _=>(F,((lv:Nat):Int),O)) 0 j) fun j hj=>by
   match j,hj with
   | 0,_=>rfl
   | 1,_=>rfl
   | 2,_=>rfl)
  have K9:=hid kb
  clear o1 o2 o3 kb
  go_simp
  clear c0 c1 c2 z0 z1 z2
  refine bkq hK (H.out _ K9.out) (h:=fun hHeld=>?_)
  clear hK K
  refine wpAnyH_done (by kernel_rfl) ?_ _
  clear hHeld
  go_wp2_with fail
  go_meet
  exact ⟨yb,rfl,I.out,cq,K9.out⟩
def RenPostN (T:Trel) (nf:Nat->Nat->Nat) (w:World) (e:Ending) (w':World):Prop :=
 Below w.heap.size w w'/\∃ y A' B' c' d',e=.returned (.agg #[.slice A' T.nw c',.slice B' T.n d'])/\IsF T nf y/\RenOut T y w' A' B' c' d'
def Sorted (T:Trel) (nf:Nat->Nat->Nat) (i:Nat) (y:Nat->Nat->Int × Int × Int):Prop:=∀ v,v<i->SecF T nf v (y v)
theorem zfN (T:Trel) (nf:Nat->Nat->Nat) (hf:∀ i,i<=T.n->∀ u v,u<(T.W i).toNat->v<(T.W i).toNat->nf i u=nf i v->u=v) (A B O:Option Addr) (c d nc:Nat) (w:World) (h:T.Reads w A B) (hP:T.Proper) (hc:T.nw<=c) (hN:IntRows w O (T.n+1) (fun i=>(T.W i).toNat) (fun i k=>(nf i k:Nat))) :
  Calls Tryz.prog 84 #[.agg #[.slice A T.nw c,.slice B T.n d],.slice O (T.n+1) nc] w (RenPostN T nf w):=by
 obtain ⟨RB,bc⟩:=exx ((Obj.cells #[.slice A T.nw c,.slice B T.n d] 53))
 have c8:Below (w.heap.size+1) (w.alloc RB) (w.alloc RB):=Below.refl _ _
 have HS:Hid (∀ w',Below (w.heap.size+1) (w.alloc RB) w'->(w'.cell? ⟨w.heap.size,0,none⟩=some (.slice A T.nw c)/\w'.cell? ⟨w.heap.size,1,none⟩=some (.slice B T.n d))/\Below w.heap.size w w'):=fun w' hB=>by
  have d2:=zax hB
  subst bc
  exact ⟨⟨tbox hB rfl,tbox hB rfl⟩,d2⟩
 have HP:=hid hP
 have HF:=hid hf
 have HR:=hid h
 have HN:=hid hN
 have cs:=hP.shape.n64
 have db:=hid hP.shape.nw
 have cr:T.nw<=65:=by have:=db.out; omega
 have bq:=fun W=>zaf (P:=Tryz.prog) 51 86 _ 24 Tryz.underlying51 Tryz.infoEdges rfl (T.n:Int) (by omega) (by omega) (by omega) W
 simp only [Int.toNat_natCast] at bq
 clear h hP hN hf
 go_enter Tryz.func84, Tryz.ntmps84
 go_upto_region 1 with fail
 rw [<-bc];clear bc
 have a4:((w.alloc RB).alloc (Obj.cells #[.slice none 0 0,.slice none 0 0] 53)).rowIs (w.alloc RB).heap.size 53 2 (fun _=>.slice none 0 0):=World.rowIs_alloc (w.alloc RB) _ _ _ (fun i hi=>by
  match i,hi with
  | 0,_=>rfl
  | 1,_=>rfl)
 have bp:(w.alloc RB).heap.size=w.heap.size+1:=by simp
 rw [bp] at a4
 have bj:Below (w.alloc RB).heap.size (w.alloc RB) ((w.alloc RB).alloc (Obj.cells #[.slice none 0 0,.slice none 0 0] 53)):=(Below.refl _ _).alloc (Nat.le_refl _) _
 have bd:=zap c8 bj
 obtain ⟨w4,bm⟩:=exx ((w.alloc RB).alloc (Obj.cells #[.slice none 0 0,.slice none 0 0] 53))
 rw [<-bm] at a4 bd ⊢
 obtain ⟨rb,av⟩:=exx (w.heap.size+1)
 rw [<-av] at a4 ⊢
 have cb:=hid av
 have cc:=hid a4
 have V:=hid bd
 clear bm bj bp c8 av a4 bd
 go_cut [5] (fun v5 wx=>∃ ob g WA wl,v5=.pointer (some ⟨ob,0,none⟩)/\Hid (RnSt T nf g wx.heap.size ob rb 0 0 (.slice WA T.nw wl) (fun _ _=>(0,0,0)) (fun _=>.slice none 0 0) wx)/\Below w4.heap.size w4 wx/\w4.heap.size<=g)
 case first =>
  obtain ⟨⟨p0,p1⟩,_⟩:=HS.out _ V.out
  have hb:Below w4.heap.size w4 w4:=Below.refl _ _
  have NR:Hid (∀ w',Below w4.heap.size w4 w'->IntsR w' w'.heap.size A T.nw T.W):=fun w' hb=>(HR.out.on (HS.out _ (zap V.out hb)).2).1
  have dp:w.heap.size<w4.heap.size:=zaV V.out
  refine wp_region_held_drew (S:=fun w'=>w'.cell? ⟨w.heap.size,0,none⟩=some (.slice A T.nw c)/\w'.cell? ⟨w.heap.size,1,none⟩=some (.slice B T.n d)) (by kernel_rfl) ⟨cellS (Below.refl _ _).drew p0,cellS (Below.refl _ _).drew p1⟩ (fun hHeld=>?_)
  obtain ⟨w5,hw,kb⟩:=dwx w4
  rw [<-hw] at hHeld ⊢;clear hw;replace hb:=onS hb kb;replace p0:=cellS kb p0;replace p1:=cellS kb p1;clear kb
  refine tkq 0 (h:=tkq 1 (h:=tkq 3 (h:=tkq 4 (h:=tkq 5 (h:=?_)))))
  refine wpAnyH_ready (rs:=[2,6,8]) (by kernel_rfl) (by simp) ?_
  refine AllReadyH.cons (by simp only [List.getElem?_toArray,List.getElem?_cons_succ,List.getElem?_cons_zero]; rfl) (fun K hK=>?_) (AllReadyH.cons (by simp only [List.getElem?_toArray,List.getElem?_cons_succ,List.getElem?_cons_zero]; rfl) (fun K hK=>?_) (AllReadyH.cons (by simp only [List.getElem?_toArray,List.getElem?_cons_succ,List.getElem?_cons_zero]; rfl) (fun K hK=>?_) AllReadyH.nil))
  focus
   go_simp
   go_wp2_with fail
   refine (zaq A T.nw c T.W w5 (NR.out _ hb) hc (by omega)).mono ?_
   rintro e w6 ⟨WA,wc,rfl,o2,kb⟩
   replace hb:=onS hb kb;replace p0:=cellS kb p0;replace p1:=cellS kb p1;clear kb;replace o2:=o2.mono (base':=0) (Nat.zero_le _)
   refine bkq hK ⟨p0,p1⟩ (h:=fun hHeld=>?_)
   clear hK K
   refine rdq2 6 8 (h:=fun K hK=>?_) (h2:=fun K hK=>?_)
   focus
    go_simp
    obtain ⟨w7,hw⟩:=exx (World.alloc w6 (Obj.cells (madeCells #[Value.slice none 0 0] T.n) 86))
    have kb:=alx hw
    have hg:w7.rowIs w6.heap.size 86 T.n (fun _=>.slice none 0 0):=by rw [hw]; exact World.rowIs_made w6 (.slice none 0 0) T.n 86
    rw [<-hw];clear hw
    obtain ⟨g,r⟩:=exx w6.heap.size
    rw [<-r] at hg ⊢
    have hq:=hb.size
    have a6:w4.heap.size<=g:=by omega
    clear r hq;replace hb:=onS hb kb;replace p0:=cellS kb p0;replace p1:=cellS kb p1;replace o2:=o2.on kb;clear kb
    refine bkq hK ⟨p0,p1⟩ (h:=fun hHeld=>?_)
    clear hK K
    refine tkq 7 (h:=?_)
    refine rdq 8 (h:=fun K hK=>?_)
    go_simp
    obtain ⟨w8,hw⟩:=exx (World.alloc w7 (Obj.cells #[.slice none 0 0,.slice none 0 0] 53))
    have kb:=alx hw
    have hx:w8.rowIs w7.heap.size 53 2 (fun _=>.slice none 0 0):=by rw [hw]; exact World.rowIs_alloc w7 _ _ _ (fun i hi=>by
     match i,hi with
     | 0,_=>rfl
     | 1,_=>rfl)
    have hq:=hb.size
    rw [<-hw];clear hw
    obtain ⟨ob,s⟩:=exx w7.heap.size
    rw [<-s] at hx ⊢
    have Q:w4.heap.size<=ob:=by omega
    clear s hq;replace hg:=zab hg kb;replace hb:=onS hb kb;replace p0:=cellS kb p0;replace p1:=cellS kb p1;replace o2:=o2.on kb;clear kb
    refine bkq hK ⟨p0,p1⟩ (h:=fun hHeld=>?_)
    clear hK K
   rotate_left
   focus
    go_simp
    obtain ⟨w7,hw⟩:=exx (World.alloc w6 (Obj.cells #[.slice none 0 0,.slice none 0 0] 53))
    have kb:=alx hw
    have hx:w7.rowIs w6.heap.size 53 2 (fun _=>.slice none 0 0):=by rw [hw]; exact World.rowIs_alloc w6 _ _ _ (fun i hi=>by
     match i,hi with
     | 0,_=>rfl
     | 1,_=>rfl)
    have hq:=hb.size
    rw [<-hw];clear hw
    obtain ⟨ob,s⟩:=exx w6.heap.size
    rw [<-s] at hx ⊢
    have Q:w4.heap.size<=ob:=by omega
    clear s hq;replace hb:=onS hb kb;replace p0:=cellS kb p0;replace p1:=cellS kb p1;replace o2:=o2.on kb;clear kb
    refine bkq hK ⟨p0,p1⟩ (h:=fun hHeld=>?_)
    clear hK K
    refine rdq 6 (h:=fun K hK=>?_)
    go_simp
    obtain ⟨w8,hw⟩:=exx (World.alloc w7 (Obj.cells (madeCells #[Value.slice none 0 0] T.n) 86))
    have kb:=alx hw
    have hg:w8.rowIs w7.heap.size 86 T.n (fun _=>.slice none 0 0):=by rw [hw]; exact World.rowIs_made w7 (.slice none 0 0) T.n 86
    rw [<-hw];clear hw
    obtain ⟨g,r⟩:=exx w7.heap.size
    rw [<-r] at hg ⊢
    have hq:=hb.size
    have a6:w4.heap.size<=g:=by omega
    clear r hq;replace hx:=zab hx kb;replace hb:=onS hb kb;replace p0:=cellS kb p0;replace p1:=cellS kb p1;replace o2:=o2.on kb;clear kb
    refine bkq hK ⟨p0,p1⟩ (h:=fun hHeld=>?_)
    clear hK K
    refine tkq 7 (h:=?_)
   rotate_left
  rotate_left 2
  focus
   go_simp
   obtain ⟨w6,hw⟩:=exx (World.alloc w5 (Obj.cells (madeCells #[Value.slice none 0 0] T.n) 86))
   have kb:=alx hw
   have hg:w6.rowIs w5.heap.size 86 T.n (fun _=>.slice none 0 0):=by rw [hw]; exact World.rowIs_made w5 (.slice none 0 0) T.n 86
   rw [<-hw];clear hw
   obtain ⟨g,r⟩:=exx w5.heap.size
   rw [<-r] at hg ⊢
   have hq:=hb.size
   have a6:w4.heap.size<=g:=by omega
   clear r hq;replace hb:=onS hb kb;replace p0:=cellS kb p0;replace p1:=cellS kb p1;clear kb
   refine bkq hK ⟨p0,p1⟩ (h:=fun hHeld=>?_)
   clear hK K
   refine rdq2 2 8 (h:=fun K hK=>?_) (h2:=fun K hK=>?_)
   focus
    go_simp
    go_wp2_with fail
    refine (zaq A T.nw c T.W w6 (NR.out _ hb) hc (by omega)).mono ?_
    rintro e w7 ⟨WA,wc,rfl,o2,kb⟩
    replace hg:=zab hg kb;replace hb:=onS hb kb;replace p0:=cellS kb p0;replace p1:=cellS kb p1;clear kb;replace o2:=o2.mono (base':=0) (Nat.zero_le _)
    refine bkq hK ⟨p0,p1⟩ (h:=fun hHeld=>?_)
    clear hK K
    refine tkq 7 (h:=?_)
    refine rdq 8 (h:=fun K hK=>?_)
    go_simp
    obtain ⟨w8,hw⟩:=exx (World.alloc w7 (Obj.cells #[.slice none 0 0,.slice none 0 0] 53))
    have kb:=alx hw
    have hx:w8.rowIs w7.heap.size 53 2 (fun _=>.slice none 0 0):=by rw [hw]; exact World.rowIs_alloc w7 _ _ _ (fun i hi=>by
     match i,hi with
     | 0,_=>rfl
     | 1,_=>rfl)
    have hq:=hb.size
    rw [<-hw];clear hw
    obtain ⟨ob,s⟩:=exx w7.heap.size
    rw [<-s] at hx ⊢
    have Q:w4.heap.size<=ob:=by omega
    clear s hq;replace hg:=zab hg kb;replace hb:=onS hb kb;replace p0:=cellS kb p0;replace p1:=cellS kb p1;replace o2:=o2.on kb;clear kb
    refine bkq hK ⟨p0,p1⟩ (h:=fun hHeld=>?_)
    clear hK K
   rotate_left
   focus
    go_simp
    obtain ⟨w7,hw⟩:=exx (World.alloc w6 (Obj.cells #[.slice none 0 0,.slice none 0 0] 53))
    have kb:=alx hw
    have hx:w7.rowIs w6.heap.size 53 2 (fun _=>.slice none 0 0):=by rw [hw]; exact World.rowIs_alloc w6 _ _ _ (fun i hi=>by
     match i,hi with
     | 0,_=>rfl
     | 1,_=>rfl)
    have hq:=hb.size
    rw [<-hw];clear hw
    obtain ⟨ob,s⟩:=exx w6.heap.size
    rw [<-s] at hx ⊢
    have Q:w4.heap.size<=ob:=by omega
    clear s hq;replace hg:=zab hg kb;replace hb:=onS hb kb;replace p0:=cellS kb p0;replace p1:=cellS kb p1;clear kb
    refine bkq hK ⟨p0,p1⟩ (h:=fun hHeld=>?_)
    clear hK K
    refine rdq 2 (h:=fun K hK=>?_)
    go_simp
    go_wp2_with fail
    refine (zaq A T.nw c T.W w7 (NR.out _ hb) hc (by omega)).mono ?_
    rintro e w8 ⟨WA,wc,rfl,o2,kb⟩
    replace hg:=zab hg kb;replace hx:=zab hx kb;replace hb:=onS hb kb;replace p0:=cellS kb p0;replace p1:=cellS kb p1;clear kb;replace o2:=o2.mono (base':=0) (Nat.zero_le _)
    refine bkq hK ⟨p0,p1⟩ (h:=fun hHeld=>?_)
    clear hK K
    refine tkq 7 (h:=?_)
   rotate_left
  rotate_left 2
  focus
   go_simp
   obtain ⟨w6,hw⟩:=exx (World.alloc w5 (Obj.cells #[.slice none 0 0,.slice none 0 0] 53))
   have kb:=alx hw
   have hx:w6.rowIs w5.heap.size 53 2 (fun _=>.slice none 0 0):=by rw [hw]; exact World.rowIs_alloc w5 _ _ _ (fun i hi=>by
    match i,hi with
    | 0,_=>rfl
    | 1,_=>rfl)
   have hq:=hb.size
   rw [<-hw];clear hw
   obtain ⟨ob,s⟩:=exx w5.heap.size
   rw [<-s] at hx ⊢
   have Q:w4.heap.size<=ob:=by omega
   clear s hq;replace hb:=onS hb kb;replace p0:=cellS kb p0;replace p1:=cellS kb p1;clear kb
   refine bkq hK ⟨p0,p1⟩ (h:=fun hHeld=>?_)
   clear hK K
   refine rdq2 2 6 (h:=fun K hK=>?_) (h2:=fun K hK=>?_)
   focus
    go_simp
    go_wp2_with fail
    refine (zaq A T.nw c T.W w6 (NR.out _ hb) hc (by omega)).mono ?_
    rintro e w7 ⟨WA,wc,rfl,o2,kb⟩
    replace hx:=zab hx kb;replace hb:=onS hb kb;replace p0:=cellS kb p0;replace p1:=cellS kb p1;clear kb;replace o2:=o2.mono (base':=0) (Nat.zero_le _)
    refine bkq hK ⟨p0,p1⟩ (h:=fun hHeld=>?_)
    clear hK K
    refine rdq 6 (h:=fun K hK=>?_)
    go_simp
    obtain ⟨w8,hw⟩:=exx (World.alloc w7 (Obj.cells (madeCells #[Value.slice none 0 0] T.n) 86))
    have kb:=alx hw
    have hg:w8.rowIs w7.heap.size 86 T.n (fun _=>.slice none 0 0):=by rw [hw]; exact World.rowIs_made w7 (.slice none 0 0) T.n 86
    rw [<-hw];clear hw
    obtain ⟨g,r⟩:=exx w7.heap.size
    rw [<-r] at hg ⊢
    have hq:=hb.size
    have a6:w4.heap.size<=g:=by omega
    clear r hq;replace hx:=zab hx kb;replace hb:=onS hb kb;replace p0:=cellS kb p0;replace p1:=cellS kb p1;replace o2:=o2.on kb;clear kb
   rotate_left
   focus
    go_simp
    obtain ⟨w7,hw⟩:=exx (World.alloc w6 (Obj.cells (madeCells #[Value.slice none 0 0] T.n) 86))
    have kb:=alx hw
    have hg:w7.rowIs w6.heap.size 86 T.n (fun _=>.slice none 0 0):=by rw [hw]; exact World.rowIs_made w6 (.slice none 0 0) T.n 86
    rw [<-hw];clear hw
    obtain ⟨g,r⟩:=exx w6.heap.size
    rw [<-r] at hg ⊢
    have hq:=hb.size
    have a6:w4.heap.size<=g:=by omega
    clear r hq;replace hx:=zab hx kb;replace hb:=onS hb kb;replace p0:=cellS kb p0;replace p1:=cellS kb p1;clear kb
    refine bkq hK ⟨p0,p1⟩ (h:=fun hHeld=>?_)
    clear hK K
    refine rdq 2 (h:=fun K hK=>?_)
    go_simp
    go_wp2_with fail
    refine (zaq A T.nw c T.W w7 (NR.out _ hb) hc (by omega)).mono ?_
    rintro e w8 ⟨WA,wc,rfl,o2,kb⟩
    replace hx:=zab hx kb;replace hg:=zab hg kb;replace hb:=onS hb kb;replace p0:=cellS kb p0;replace p1:=cellS kb p1;clear kb;replace o2:=o2.mono (base':=0) (Nat.zero_le _)
   rotate_left
   all_goals
    refine bkq hK ⟨p0,p1⟩ (h:=fun hHeld=>?_)
    clear hK K
    refine tkq 7 (h:=?_)
  rotate_left 2
  all_goals
   refine rdq 9 (h:=fun K hK=>?_)
   have Y:=hx.set 0 (Value.slice WA T.nw wc)
   have bk:=Y.set 1 (Value.slice (some ⟨g,0,none⟩) T.n T.n)
   have c0:=hx.cell (i:=0) (by omega)
   have c1:=hx.cell (i:=1) (by omega)
   have z0:=hx.frozen 0
   have z1:=hx.frozen 1
   have d1:=Y.cell (i:=1) (by omega)
   rw [if_neg (by omega)] at d1
   have f1:=Y.frozen 1
   have d3:=hid bk
   have o8:=o2.setCell (a:=⟨ob,0,none⟩) (zar hx o2 (by decide)) (Value.slice WA T.nw wc)
   have o9:=o8.setCell (a:=⟨ob,1,none⟩) (zar Y o8 (by decide)) (Value.slice (some ⟨g,0,none⟩) T.n T.n)
   have bv:=zaH hg hx (by decide)
   have g9:=(hg.setOther (a:=⟨ob,0,none⟩) (by simpa using bv) (Value.slice WA T.nw wc)).setOther (a:=⟨ob,1,none⟩) (by simpa using bv) (Value.slice (some ⟨g,0,none⟩) T.n T.n)
   have b9:=(hb.setCell (p:=⟨ob,0,none⟩) Q (Value.slice WA T.nw wc)).setCell (p:=⟨ob,1,none⟩) Q (Value.slice (some ⟨g,0,none⟩) T.n T.n)
   replace p0:=zaa (p:=⟨ob,1,none⟩) (u:=(Value.slice (some ⟨g,0,none⟩) T.n T.n)) (zaa (p:=⟨ob,0,none⟩) (u:=(Value.slice WA T.nw wc)) p0 (by show w.heap.size≠ob; omega)) (by show w.heap.size≠ob; omega)
   replace p1:=zaa (p:=⟨ob,1,none⟩) (u:=(Value.slice (some ⟨g,0,none⟩) T.n T.n)) (zaa (p:=⟨ob,0,none⟩) (u:=(Value.slice WA T.nw wc)) p1 (by show w.heap.size≠ob; omega)) (by show w.heap.size≠ob; omega)
   have d9:=hid o9
   have dh:=hid g9
   have ag:=hid b9
   clear Y bk o2 o8 o9 hg g9 hb b9 hx
   go_simp
   clear c0 c1 z0 z1 d1 f1
   refine bkq hK ⟨p0,p1⟩ (h:=fun hHeld=>?_)
   clear hK K
   refine wpAnyH_done (by kernel_rfl) ?_ _
   clear hHeld
   go_wp2_with fail
   go_meet
   exact ⟨ob,g,WA,wc,rfl,RnSt.start (cc.out.of_block (ag.out.block rb cc.out.lt)) (d3.out.congr fun k hk=>by
    match k,hk with
    | 0,_=>rfl
    | 1,_=>rfl) d9.out dh.out,ag.out,a6⟩
 obtain ⟨ob,g,WA,wl,rfl,R,c4,du⟩:=hcut
 have d6:Hid (¬ g<w.heap.size):=by show ¬ _; have:=zaV V.out; omega
 have be:Hid (w.heap.size+1<=g):=by show _<=_; have:=zaV V.out; omega
 have hB:=zap V.out c4
 obtain ⟨bs,bz⟩:=exx wc.heap.size
 have H:bs<=wc.heap.size:=by omega
 have dn:w.heap.size<bs:=by have:=zaV hB; omega
 rw [<-bz] at R
 have ca:Hid (∃ y F,Sorted T nf 0 y/\RnSt T nf g bs ob rb 0 0 (.slice WA T.nw wl) y F wc):=⟨_,_,fun v hv=>absurd hv (by omega),R.out⟩
 obtain ⟨⟨p0,p1⟩,hW⟩:=HS.out _ hB
 clear bq bz R c4
 go_wp2
 go_loopg [21] T.n (fun gg iv wx=>∃ i:Nat,iv=.int .i64 (i:Nat)/\i<=T.n/\T.n<=i+gg/\Hid (∃ y F,Sorted T nf i y/\RnSt T nf g bs ob rb i 0 (.slice WA T.nw wl) y F wx)/\Below (w.heap.size+1) (w.alloc RB) wx/\bs<=wx.heap.size)
 case atStart=>exact ⟨0,rfl,by omega,by omega,ca,hB,H⟩
 clear ca hB H p0 p1 hW
 obtain ⟨gI,cw⟩:=exx gk
 subst cw
 obtain ⟨i,rfl,hi,ds,R,hB,H⟩:=hrel
 have dt:(0:Int)<=(i:Int):=by omega
 obtain ⟨⟨p0,p1⟩,hW⟩:=HS.out _ hB
 by_cases hlt:i<T.n
 rotate_left
 ·have b1:¬ (i:Int)<(T.n:Int):=by omega
  obtain rfl:i=T.n:=by omega
  obtain ⟨y,F,a0,l⟩:=R.out
  have y0:=l.box.cell (i:=0) (by omega)
  have y1:=l.box.cell (i:=1) (by omega)
  rw [if_pos rfl] at y0
  rw [if_neg (by omega)] at y1
  have r0:=l.res.cell (i:=0) (by omega)
  have r1:=l.res.cell (i:=1) (by omega)
  have z0:=l.res.frozen 0
  have z1:=l.res.frozen 1
  have q0:=l.res.set 0 (.slice WA T.nw wl)
  have q1:=q0.cell (i:=1) (by omega)
  rw [if_neg (by omega)] at q1
  have q2:=q0.frozen 1
  have q3:=q0.set 1 (.slice (some ⟨g,0,none⟩) T.n T.n)
  have q4:=q3.cell (i:=0) (by omega)
  have q5:=q3.cell (i:=1) (by omega)
  rw [if_neg (by omega),if_pos rfl] at q4
  rw [if_pos rfl] at q5
  have D:=hid l
  have bf:Hid (IsF T nf y):=a0
  have dk:=hid hB
  clear l a0 hB hlt q0 q3 hW
  go_wp2
  refine bodyPost_ret (v:=.agg #[.slice WA T.nw wl,.slice (some ⟨g,0,none⟩) T.n T.n]) (by simp [results,Tryz.results84, go_sem,q4,q5]) rfl ?_
  have hE:=D.out.etab (by unfold maxLen; omega)
  have hr:=D.out.res
  have bl:=D.out.wid
  have k1:=bl.setCell (zar hr bl (by decide)) (.slice WA T.nw wl) (a:=⟨rb,0,none⟩)
  have r1':=hr.set 0 (.slice WA T.nw wl)
  have k2:=k1.setCell (zar r1' k1 (by decide)) (.slice (some ⟨g,0,none⟩) T.n T.n) (a:=⟨rb,1,none⟩)
  have k3:=(hE.setCell (b:=rb) (i:=0) hr (by decide) (by decide) (.slice WA T.nw wl)).setCell (b:=rb) (i:=1) r1' (by decide) (by decide) (.slice (some ⟨g,0,none⟩) T.n T.n)
  refine ⟨?_,_,_,_,_,_,rfl,bf.out,k3,k2⟩
  exact (HS.out _ ((dk.out.setCell (p:=⟨rb,0,none⟩) (by rw [cb.out]; exact Nat.le_refl _) _).setCell (p:=⟨rb,1,none⟩) (by rw [cb.out]; exact Nat.le_refl _) _)).2
 have b1:(i:Int)<(T.n:Int):=by omega
 obtain ⟨y,F,a0,l⟩:=R.out
 have d7:=hid a0
 obtain ⟨eb,eo,E,ec,cy,bx,x0,cz,dv,b5,_⟩:=HR.out.sec hlt
 obtain ⟨nb,no,Ai,ci,hO,az,n0,_,_,aj,_⟩:=HN.out i (by omega)
 obtain ⟨nb2,no2,Aj,cj,ac,_,n1,_,_,G,_⟩:=HN.out (i+1) (by omega)
 subst cy hO
 injection ac with ac
 injection ac with ac hO3
 subst ac hO3
 have cx:=HP.out.shape.elb hlt
 have di:=hid (HP.out.el_pos hlt)
 have x0r:=(hW.cell (p:=⟨eb,eo+i,none⟩) bx).trans x0
 obtain ⟨el,L⟩:=exx (T.el i)
 have bi:=hid L
 obtain ⟨Wi,bb⟩:=exx ((T.W i).toNat)
 obtain ⟨Wj,ba⟩:=exx ((T.W (i+1)).toNat)
 have d5:=hid bb
 have d4:=hid ba
 have ch:=hW.size
 change w.cell? _=some (Value.slice Ai (T.W i).toNat ci) at n0
 change IntsR w w.heap.size Ai (T.W i).toNat (fun k=>(nf i k:Nat)) at aj
 change w.cell? _=some (Value.slice Aj (T.W (i+1)).toNat cj) at n1
 change IntsR w w.heap.size Aj (T.W (i+1)).toNat (fun k=>(nf (i+1) k:Nat)) at G
 rw [<-L] at x0 x0r cz b5 cx;rw [<-bb] at n0 aj;rw [<-ba] at n1 G
 have dc:=hid aj
 have bh:=hid G
 have dj:=hid b5
 have dw:=hid x0
 have de:=hid n0
 have dd:=hid n1
 have ce:Hid (∃ F,RnSt T nf g bs ob rb i 0 (.slice WA T.nw wl) y F wr):=⟨F,l⟩
 have cl:(i:Int)+1<(T.n:Int)+1:=by omega
 have ct:(0:Int)<=(i:Int)+1:=by omega
 have ck:IntKind.i64.wrap ((i:Int)+1)=(i:Int)+1:=IntWalk.i64_in _ (by omega)
 have co:((i:Int)+1).toNat=i+1:=by omega
 have cv:(i:Int)<(T.n:Int)+1:=by omega
 clear L bb ba aj G b5 x0 n0 n1 l a0 p0 p1
 go_wp2
 go_loopg [28] el (fun gg jv wx=>∃ j:Nat,jv=.int .i64 (j:Nat)/\j<=el/\el<=j+gg/\Hid (∃ F,RnSt T nf g bs ob rb i j (.slice WA T.nw wl) y F wx)/\Below (w.heap.size+1) (w.alloc RB) wx/\bs<=wx.heap.size)
 case atStart=>exact ⟨0,rfl,by omega,by omega,ce,hB,H⟩
 clear ce hB H hW x0r ch
 obtain ⟨j,rfl,hj,dq,dg,hB,H⟩:=hrel
 have dr:(0:Int)<=(j:Int):=by omega
 obtain ⟨_,hW⟩:=HS.out _ hB
 obtain ⟨F,l⟩:=dg.out
 by_cases hltj:j<el
 rotate_left
 ·have a5:¬ (j:Int)<(el:Int):=by omega
  obtain rfl:j=el:=by omega
  have m:=l.row hlt
  obtain ⟨FA,fc,J⟩:=m.shape
  have s1:=l.tab.row.cell hlt
  rw [J] at s1
  have s0:=l.box.cell (i:=1) (by omega)
  rw [if_neg (by omega)] at s0
  have M:=hid J
  have d8:=hid m
  have D:=hid l
  have cf:=hid hB
  have cu:0<j:=by have:=di.out; rw [bi.out]; exact this
  clear m l J hB
  go_wp2_with fail
  rw [<-M.out]
  refine (zcb j (T.triF nf i) wr bs (F i) d8.out cu (by omega)).mono ?_
  rintro e w7 ⟨rfl,z,ap,an,am,ah⟩
  have l:=D.out
  rw [bi.out] at l ap an am
  have h7:=l.sort hlt am ah
  have a3:=SecF.of_sort HP.out hlt (HF.out i (by omega)) ap an
  have c6:=cf.out.grown ah (by have:=cf.out.size; simpa using this) fun q e=>by have:=(l.tab.own i hlt).lt q e; omega
  have b6:bs<=w7.heap.size:=Nat.le_trans H ah.size
  have da:Hid (∃ y F,Sorted T nf (i+1) y/\RnSt T nf g bs ob rb (i+1) 0 (.slice WA T.nw wl) y F w7):=⟨_,_,fun v hv=>by
   show SecF T nf v (if v=i then z else y v)
   by_cases e:v=i
   ·subst e; rw [if_pos rfl]; exact a3
   ·rw [if_neg e]; exact d7.out v (by omega),h7⟩
  have dl:=hid c6
  clear ap an am ah h7 a3 l c6 s0 s1
  go_wp2
  go_roundg (gI - 1)
  case measure=>omega
  case rel=>exact ⟨i+1,by go_num,by omega,by omega,da,dl.out,b6⟩
 have a5:(j:Int)<(el:Int):=by omega
 obtain ⟨b9,o9,rfl,d0,y0,y1,y2⟩:=zbt ((Rd.below dj.out hW (Nat.le_refl _)).mono hW.size) hltj
 have C:j<T.el i:=by rw [<-bi.out]; exact hltj
 have ai:=HP.out.toL hlt C
 have ak:=HP.out.frL hlt C
 obtain ⟨tn,ar⟩:=exx ((T.to i j).toNat)
 obtain ⟨fn,b3⟩:=exx ((T.fr i j).toNat)
 obtain ⟨lv,b0⟩:=exx (T.lb i j)
 rw [<-ar,<-d4.out] at ai;rw [<-b3,<-d5.out] at ak;rw [<-ai.2] at y2;rw [<-ak.2] at y0;rw [<-b0] at y1
 have au:=ai.1
 have bn:(tn:Int)<(Wj:Int):=by omega
 have b4:=ak.1
 have bw:(fn:Int)<(Wi:Int):=by omega
 obtain ⟨ab,ao,rfl,c3,s3⟩:=dc.out.at b4
 obtain ⟨tb,tO,rfl,bo,s5⟩:=bh.out.at au
 replace s3:=(hW.cell (p:=⟨ab,ao+fn,none⟩) c3).trans s3;replace s5:=(hW.cell (p:=⟨tb,tO+tn,none⟩) bo).trans s5
 have s2:=(hW.cell (p:=⟨nb,no+i,none⟩) az).trans de.out
 have s4:=(hW.cell (p:=⟨nb,no+(i+1),none⟩) az).trans dd.out
 obtain ⟨a1,b8⟩:=exx (nf i fn)
 obtain ⟨a2,b7⟩:=exx (nf (i+1) tn)
 rw [<-b8] at s3;rw [<-b7] at s5
 have Z:T.triF nf i j=(((a1:Nat):Int),lv,((a2:Nat):Int)):=by
  show (((nf i (T.fr i j).toNat:Nat):Int),T.lb i j,((nf (i+1) (T.to i j).toNat:Nat):Int))=_
  rw [<-b3,<-ar,<-b0,<-b8,<-b7]
 have ae:=hid Z
 have m:=l.row hlt
 obtain ⟨FA,fc,J⟩:=m.shape
 rw [J] at m
 have s1:=l.tab.row.cell hlt
 rw [J] at s1
 have s0:=l.box.cell (i:=1) (by omega)
 rw [if_neg (by omega)] at s0
 have M:=hid J
 have cq:=l.hob
 have r:=l.hg
 clear ai ak Z ar b3 b0 b8 b7 C J
 go_upto_region 8 with fail
 obtain ⟨OB,aa⟩:=exx ((Obj.cells #[Value.int .i64 (fn:Nat),Value.int .i64 lv,Value.int .i64 (tn:Nat)] 90))
 rw [<-aa]
 have kb:=aly wr OB
 have c0:(wr.alloc OB).cell? ⟨wr.heap.size,0,none⟩=some (.int .i64 (fn:Nat)):=by subst aa; exact tbox (Below.refl _ _) rfl
 have c1:(wr.alloc OB).cell? ⟨wr.heap.size,1,none⟩=some (.int .i64 lv):=by subst aa; exact tbox (Below.refl _ _) rfl
 have c2:(wr.alloc OB).cell? ⟨wr.heap.size,2,none⟩=some (.int .i64 (tn:Nat)):=by subst aa; exact tbox (Below.refl _ _) rfl
 obtain ⟨w6,aq⟩:=exx (wr.alloc OB)
 have ax:(Value.slice FA j fc).ownBlock≠some wr.heap.size:=fun e=>by have:=(m.lt _ e).2; omega
 have br:∀ b,b<bs->(Value.slice FA j fc).ownBlock≠some b:=fun b hb e=>by have:=(m.lt _ e).1; omega
 have bu:=l.tab.row.lt
 have bt:wr.heap.size<w6.heap.size:=by rw [aq]; simp
 obtain ⟨pb,ay⟩:=exx wr.heap.size
 have N:=H
 rw [<-ay] at c0 c1 c2 ax bu bt N;rw [<-aq] at kb c0 c1 c2 ⊢;rw [<-ay]
 have aw:pb≠g:=by omega
 have a8:bs<=w6.heap.size:=by omega
 have c7:=zap hB kb
 replace l:=l.on kb;replace m:=m.on kb;replace s0:=cellS kb s0;replace s1:=cellS kb s1;replace s2:=cellS kb s2;replace s3:=cellS kb s3;replace s4:=cellS kb s4;replace s5:=cellS kb s5
 have hk:Below w6.heap.size w6 w6:=Below.refl _ _
 have bg:=hid ax
 have U:=hid br
 have cg:=hid c7
 have cp:ob≠g:=zaH l.box l.tab.row (by decide)
 have cm:=hW.size
 have dm:w.heap.size<=g:=by
  have:=l.hg
  rcases Nat.lt_or_ge g w.heap.size with h1 | h1
  ·exact absurd h1 d6.out
  ·exact h1
 have al:Hid (nb≠g/\ab≠g/\tb≠g):=by show _/\_/\_; omega
 have I:Hid (nb<bs/\ab<bs/\tb<bs):=by show _/\_/\_; omega
 have df:Hid (j<=1048576):=by show _<=_; omega
 clear ay aq aa kb y0 y1 y2 hW d0 hB ax br c7 H bu bt N az c3 bo bx cm
 refine wp_region_held_drew (S:=fun w'=>w'.cell? ⟨ob,1,none⟩=some (.slice (some ⟨g,0,none⟩) T.n T.n)/\w'.cell? ⟨nb,no+i,none⟩=some (.slice (some ⟨ab,ao,none⟩) Wi ci)/\w'.cell? ⟨ab,ao+fn,none⟩=some (.int .i64 (a1:Nat))/\w'.cell? ⟨nb,no+(i+1),none⟩=some (.slice (some ⟨tb,tO,none⟩) Wj cj)/\w'.cell? ⟨tb,tO+tn,none⟩=some (.int .i64 (a2:Nat))/\w'.cell? ⟨pb,0,none⟩=some (.int .i64 (fn:Nat))/\w'.cell? ⟨pb,1,none⟩=some (.int .i64 lv)/\w'.cell? ⟨pb,2,none⟩=some (.int .i64 (tn:Nat))) (by kernel_rfl) ⟨cellS (Below.refl _ _).drew s0,cellS (Below.refl _ _).drew s2,cellS (Below.refl _ _).drew s3,cellS (Below.refl _ _).drew s4,cellS (Below.refl _ _).drew s5,cellS (Below.refl _ _).drew c0,cellS (Below.refl _ _).drew c1,cellS (Below.refl _ _).drew c2⟩ (fun hHeld=>?_)
 obtain ⟨w7,hw,kb⟩:=dwx w6
 rw [<-hw] at hHeld ⊢;clear hw;replace hk:=onS hk kb;replace s0:=cellS kb s0;replace s2:=cellS kb s2;replace s3:=cellS kb s3;replace s4:=cellS kb s4;replace s5:=cellS kb s5;replace c0:=cellS kb c0;replace c1:=cellS kb c1;replace c2:=cellS kb c2;replace s1:=cellS kb s1;replace l:=l.on kb;replace m:=m.on kb;clear kb
 refine tkq 0 (h:=tkq 1 (h:=tkq 2 (h:=tkq 3 (h:=tkq 4 (h:=tkq 5 (h:=tkq 6 (h:=tkq 8 (h:=tkq 9 (h:=tkq 10 (h:=tkq 11 (h:=tkq 12 (h:=tkq 13 (h:=tkq 14 (h:=tkq 15 (h:=tkq 16 (h:=tkq 17 (h:=tkq 18 (h:=tkq 19 (h:=tkq 20 (h:=tkq 21 (h:=tkq 22 (h:=tkq 23 (h:=tkq 24 (h:=tkq 25 (h:=tkq 26 (h:=tkq 27 (h:=?_)))))))))))))))))))))))))))
 refine rdq2 7 28 (h:=fun K hK=>?_) (h2:=fun K hK=>?_)
 focus
  go_simp
  refine bkq hK ⟨s0,s2,s3,s4,s5,c0,c1,c2⟩ (h:=fun hHeld=>?_)
  clear hK K
  refine rdq 28 (h:=fun K hK=>?_)
  go_simp
  obtain ⟨w8,hw⟩:=exx (World.alloc w7 (Obj.cells #[Value.int .i64 (a1:Nat),Value.int .i64 lv,Value.int .i64 (a2:Nat)] 90))
  have kb:=alx hw
  have HC:Hid (∀ W,Below w8.heap.size w8 W->∀ j',j'<3->W.cell? ((⟨w7.heap.size,0,none⟩:Addr).add j')=some (edgeCell (T.triF nf i) j j')):=fun W hb j' hj'=>by
   unfold edgeCell
   rw [ae.out]
   have hx:∀ q v,(#[Value.int .i64 (a1:Nat),Value.int .i64 lv,Value.int .i64 (a2:Nat)]:Array Value)[q]?=some v->W.cell? ⟨w7.heap.size,q,none⟩=some v:=fun q v hq=>cellS hb (by rw [hw]; exact tbox (Below.refl _ _) hq)
   match j',hj' with
   | 0,_=>exact hx 0 _ rfl
   | 1,_=>exact hx 1 _ rfl
   | 2,_=>exact hx 2 _ rfl
  rw [<-hw];clear hw
  obtain ⟨xb,X⟩:=exx w7.heap.size
  rw [<-X] at HC ⊢;clear X
  have b2:Below w8.heap.size w8 w8:=Below.refl _ _
  replace hk:=onS hk kb;replace s0:=cellS kb s0;replace s2:=cellS kb s2;replace s3:=cellS kb s3;replace s4:=cellS kb s4;replace s5:=cellS kb s5;replace c0:=cellS kb c0;replace c1:=cellS kb c1;replace c2:=cellS kb c2;replace s1:=cellS kb s1;replace l:=l.on kb;replace m:=m.on kb;clear kb
 rotate_left
 focus
  go_simp
  obtain ⟨w8,hw⟩:=exx (World.alloc w7 (Obj.cells #[Value.int .i64 (a1:Nat),Value.int .i64 lv,Value.int .i64 (a2:Nat)] 90))
  have kb:=alx hw
  have HC:Hid (∀ W,Below w8.heap.size w8 W->∀ j',j'<3->W.cell? ((⟨w7.heap.size,0,none⟩:Addr).add j')=some (edgeCell (T.triF nf i) j j')):=fun W hb j' hj'=>by
   unfold edgeCell
   rw [ae.out]
   have hx:∀ q v,(#[Value.int .i64 (a1:Nat),Value.int .i64 lv,Value.int .i64 (a2:Nat)]:Array Value)[q]?=some v->W.cell? ⟨w7.heap.size,q,none⟩=some v:=fun q v hq=>cellS hb (by rw [hw]; exact tbox (Below.refl _ _) hq)
   match j',hj' with
   | 0,_=>exact hx 0 _ rfl
   | 1,_=>exact hx 1 _ rfl
   | 2,_=>exact hx 2 _ rfl
  rw [<-hw];clear hw
  obtain ⟨xb,X⟩:=exx w7.heap.size
  rw [<-X] at HC ⊢;clear X
  have b2:Below w8.heap.size w8 w8:=Below.refl _ _
  replace hk:=onS hk kb;replace s0:=cellS kb s0;replace s2:=cellS kb s2;replace s3:=cellS kb s3;replace s4:=cellS kb s4;replace s5:=cellS kb s5;replace c0:=cellS kb c0;replace c1:=cellS kb c1;replace c2:=cellS kb c2;replace s1:=cellS kb s1;replace l:=l.on kb;replace m:=m.on kb;clear kb
  refine bkq hK ⟨s0,s2,s3,s4,s5,c0,c1,c2⟩ (h:=fun hHeld=>?_)
  clear hK K
  refine rdq 7 (h:=fun K hK=>?_)
  go_simp
 rotate_left
 all_goals
  refine bkq hK ⟨s0,s2,s3,s4,s5,c0,c1,c2⟩ (h:=fun hHeld=>?_)
  clear hK K
  refine rdq 29 (h:=fun K hK=>?_)
  have cd:=hid (HC.out _ b2)
  have N:=hk.size
  refine zcL (by rfl) (.tmp 39) (.tmp 60) (by rfl) m (by rfl) (ad:=⟨xb,0,none⟩) (c:=1) (by rfl) cd.out (Nat.le_trans a8 N) df.out ?_
  intro v9 w9 o1 o2 o3
  obtain ⟨A9,c9,cn⟩:=o1.shape
  subst cn
  rw [<-M.out] at o2 o3
  have h9:=l.put hlt o1 o2 o3
  have af:=hid h9
  have x:=l.tab.row.of_block (o2.block g l.tab.row.lt fun e=>by rw [M.out] at e; exact U.out g r e.symm)
  have s1:=x.cell hlt
  rw [M.out] at s1
  have z1:=x.frozen i
  have c5:=(zap cg.out hk).grown o2 (by have:=(zap cg.out hk).size; simpa using this) fun q e=>by rw [M.out] at e; have:=(m.lt q e).1; omega
  have ag:=hid (c5.setCell (p:=⟨g,i,none⟩) (by show w.heap.size+1<=g; have:=be.out; omega) (.slice A9 (j+1) c9))
  have a7:=Nat.le_trans (Nat.le_trans a8 N) o2.size
  rw [M.out] at o2;replace s0:=zae s0 o2 (U.out ob cq);replace s2:=zae s2 o2 (U.out nb I.out.1);replace s3:=zae s3 o2 (U.out ab I.out.2.1);replace s4:=zae s4 o2 (U.out nb I.out.1);replace s5:=zae s5 o2 (U.out tb I.out.2.2);replace c0:=zae c0 o2 bg.out;replace c1:=zae c1 o2 bg.out;replace c2:=zae c2 o2 bg.out;clear hk b2 l m o1 o2 o3 N c5 h9 x HC cd
  refine bkq hK ⟨s0,s2,s3,s4,s5,c0,c1,c2⟩ (h:=fun hHeld=>?_)
  clear hK K
  refine tkq 30 (h:=?_)
  refine rdq 31 (h:=fun K hK=>?_)
  go_simp
  obtain ⟨w10,o⟩:=exx (w9.setCell ⟨g,i,none⟩ (.slice A9 (j+1) c9))
  rw [<-o] at af ag ⊢
  have a9:bs<=w10.heap.size:=by rw [o]; simpa using a7
  replace s0:w10.cell? ⟨ob,1,none⟩=some (.slice (some ⟨g,0,none⟩) T.n T.n):=by rw [o]; exact zaa s0 cp
  replace s2:w10.cell? ⟨nb,no+i,none⟩=some (.slice (some ⟨ab,ao,none⟩) Wi ci):=by rw [o]; exact zaa s2 al.out.1
  replace s3:w10.cell? ⟨ab,ao+fn,none⟩=some (.int .i64 (a1:Nat)):=by rw [o]; exact zaa s3 al.out.2.1
  replace s4:w10.cell? ⟨nb,no+(i+1),none⟩=some (.slice (some ⟨tb,tO,none⟩) Wj cj):=by rw [o]; exact zaa s4 al.out.1
  replace s5:w10.cell? ⟨tb,tO+tn,none⟩=some (.int .i64 (a2:Nat)):=by rw [o]; exact zaa s5 al.out.2.2
  replace c0:w10.cell? ⟨pb,0,none⟩=some (.int .i64 (fn:Nat)):=by rw [o]; exact zaa c0 aw
  replace c1:w10.cell? ⟨pb,1,none⟩=some (.int .i64 lv):=by rw [o]; exact zaa c1 aw
  replace c2:w10.cell? ⟨pb,2,none⟩=some (.int .i64 (tn:Nat)):=by rw [o]; exact zaa c2 aw
  clear s1 z1 a7 o
  refine bkq hK ⟨s0,s2,s3,s4,s5,c0,c1,c2⟩ (h:=fun hHeld=>?_)
  clear hK K
  refine wpAnyH_done (by kernel_rfl) ?_ _
  clear hHeld;clear s0 s2 s3 s4 s5 c0 c1 c2
  go_wp2
  go_roundg (gk - 1)
  case measure=>omega
  case rel=>exact ⟨j+1,by go_num,by omega,by omega,⟨_,af.out⟩,ag.out,a9⟩
def RenPost (T:Trel) (w:World) (e:Ending) (w':World):Prop :=
 Below w.heap.size w w'/\∃ y A' B' c' d',e=.returned (.agg #[.slice A' T.nw c',.slice B' T.n d'])/\IsRen T y/\RenOut T y w' A' B' c' d'
theorem zgR (T:Trel) (A B O:Option Addr) (c d nc:Nat) (w:World) (h:T.Reads w A B) (hP:T.Proper) (hc:T.nw<=c) (hN:IntRows w O (T.n+1) (fun i=>(T.W i).toNat) (fun i k=>(T.nm i k:Nat))) :
  Calls Tryz.prog 84 #[.agg #[.slice A T.nw c,.slice B T.n d],.slice O (T.n+1) nc] w (RenPost T w) :=
 zfN T T.nm (fun _ hi=>hP.nm_inj hi) A B O c d nc w h hP hc hN
end Go.Proofs.YtgekjfpapmlndaaGreat