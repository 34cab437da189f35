/- Merged texts of a claim: Forward, Repeat, Proper, TrelProper, Paths, WordsMath. -/
import Derived.Test.YtgekjfpapmlndaaGreatTX11
import Derived.Laws.CopyOwn
namespace Go.Proofs.YtgekjfpapmlndaaGreat
set_option maxRecDepth 100000
set_option maxHeartbeats 32000000
open KA KB KC KE
open Go.RowKit
def Trel.fwdX (T:Trel) (y:Nat->Nat->Nat) (i j:Nat):Nat->Nat->Nat:=fun u v=>if u<=i then T.fwd y u v else if u=i+1 then T.fwdE y (T.fwd y i) i j v else 0
theorem Trel.fwdX_next (T:Trel) (y:Nat->Nat->Nat) (i u v:Nat):T.fwdX y i (T.el i) u v=T.fwdX y (i+1) 0 u v:=by
 simp only [Trel.fwdX]
 by_cases h:u<=i
 ·rw [if_pos h,if_pos (by omega)]
 rw [if_neg h]
 by_cases h2:u=i+1
 ·subst h2
  rw [if_pos rfl,if_pos (Nat.le_refl _)]
  rfl
 rw [if_neg h2,if_neg (by omega)]
 split
 ·rfl
 ·rfl
theorem Trel.fwdX_put (T:Trel) (y:Nat->Nat->Nat) (i j u v:Nat):upd2 (T.fwdX y i j) (i+1) (T.to i j).toNat (T.fwdE y (T.fwd y i) i j (T.to i j).toNat+T.fwd y i (T.fr i j).toNat*y i j) u v=T.fwdX y i (j+1) u v:=by
 simp only [Trel.fwdX,upd2]
 by_cases h:u<=i
 ·rw [if_pos h,if_pos h,if_neg (by omega)]
 rw [if_neg h,if_neg h]
 by_cases h2:u=i+1
 ·rw [if_pos h2,if_pos h2]
  show _=T.fwdE y (T.fwd y i) i j v+if (T.to i j).toNat=v then _ else 0
  by_cases h3:v=(T.to i j).toNat
  ·rw [if_pos ⟨h2,h3⟩,if_pos h3.symm,h3]
  ·rw [if_neg (fun hh=>h3 hh.2),if_neg (fun e=>h3 e.symm)]
   rfl
 ·rw [if_neg h2,if_neg h2,if_neg (by omega)]
def FwdPost (T:Trel) (x:Nat->Nat->Nat) (w:World) (e:Ending) (w':World):Prop :=
 ∃ g F,e=.returned (.tuple #[.slice (some ⟨g,0,none⟩) T.nw T.nw,.int .i64 0])/\w.heap.size<=g/\NumTab w' g (g+1) T.nw F (fun v=>(T.W v).toNat) x/\Below w.heap.size w w'
theorem zft (T:Trel) (A B V:Option Addr) (c d vc:Nat) (y:Nat->Nat->Nat) (w:World) (h:T.Reads w A B) (hs:T.shapeE=0) (hv:VTab w V T.n T.el y) (hy:∀ i,i<T.n->∀ j,j<T.el i->y i j<=1) :
  Calls Tryz.prog 139 #[.agg #[],.agg #[.slice A T.nw c,.slice B T.n d],.slice V T.n vc] w (FwdPost T (T.fwd y) w):=by
 obtain ⟨O1,az⟩:=exx ((Obj.cells #[] 175))
 obtain ⟨O2,ac⟩:=exx ((Obj.cells #[.slice A T.nw c,.slice B T.n d] 53))
 have ag:Below (w.heap.size+2) ((w.alloc O1).alloc O2) ((w.alloc O1).alloc O2):=Below.refl _ _
 have HS:Hid (∀ w',Below (w.heap.size+2) ((w.alloc O1).alloc O2) w'->(w'.cell? ⟨w.heap.size+1,0,none⟩=some (.slice A T.nw c)/\w'.cell? ⟨w.heap.size+1,1,none⟩=some (.slice B T.n d))/\Below w.heap.size w w'):=fun w' hB=>by
  have bs:=zfZ hB
  subst ac
  have hr:=ze7 hB
  exact ⟨⟨hr.cell (i:=0) (by simp),hr.cell (i:=1) (by simp)⟩,bs⟩
 obtain ⟨⟨p0,p1⟩,hW⟩:=HS.out _ ag
 have q:=hid (Trel.shape_of hs)
 have bv:=hid hs
 have HR:=hid h
 have HV:=hid hv
 have HY:=hid hy
 clear h hs hv hy
 go_enter Tryz.func139, Tryz.ntmps139
 go_wp2_with fail
 rw [<-az,<-ac]
 refine (zgx T A B V c d vc y _ (HR.out.on hW) bv.out (HV.out.on hW)).mono ?_
 rintro e w1 ⟨rfl,kb⟩
 have U:=zk3 ag kb
 clear p0 p1 hW kb ag az ac
 obtain ⟨⟨p0,p1⟩,hW⟩:=HS.out _ U
 go_wp2_with fail
 refine (ziP T A B c d _ (HR.out.on hW) q.out).mono ?_
 rintro e w2 ⟨g,F,rfl,hg,hT,kb⟩
 have z:=zk3 U kb
 have be:=zk2 U
 have ca:w.heap.size+2<=g:=by omega
 have bc:w.heap.size+2<w2.heap.size:=by have:=hT.row.lt; omega
 obtain ⟨W2,a9⟩:∃ W,W=(w.alloc O1).alloc O2:=⟨_,rfl⟩
 have ah:Hid (∀ w',Below (w.heap.size+2) W2 w'->(w'.cell? ⟨w.heap.size+1,0,none⟩=some (.slice A T.nw c)/\w'.cell? ⟨w.heap.size+1,1,none⟩=some (.slice B T.n d))/\Below w.heap.size w w'):=by rw [a9]; exact HS
 rw [<-a9] at z;clear p0 p1 hW kb U be hg a9 HS
 have ba:=q.out.n64
 have aj:=hid q.out.nw
 have o:0<T.nw:=by have:=aj.out; omega
 have ap:(0:Int)<(T.nw:Int):=by omega
 have b5:=q.out.wid (i:=0) (by omega)
 have m:0<(T.W 0).toNat:=by omega
 obtain ⟨b0,o0,d0,A0,c0,af,ci,a8,q0,_,_,_,z0,a1⟩:=hT.at (v:=0) o (k:=0) m
 obtain ⟨n0,a3⟩:=exx ((T.W 0).toNat)
 have ak:=hid a3
 have r0:=hT.row.cell o
 rw [af] at r0
 change w2.cell? ⟨g,0,none⟩=some (.slice (some ⟨b0,o0,none⟩) (T.W 0).toNat d0) at r0
 rw [<-a3] at m r0
 have D:(0:Int)<(n0:Int):=by omega
 clear a3
 go_upto_region 5 with fail
 have hl:=bc
 refine wp_region_held_drew (S:=fun w'=>w'.cell? ⟨g,0,none⟩=some (.slice (some ⟨b0,o0,none⟩) n0 d0)) (by kernel_rfl) (cellS (Below.refl _ _).drew r0) (fun hHeld=>?_)
 obtain ⟨w3,hw,kb⟩:=dwx w2
 rw [<-hw] at hHeld ⊢;clear hw;replace z:=zbt z (Nat.le_of_lt hl) kb;replace hl:=Nat.lt_of_lt_of_le hl kb.size;replace hT:=hT.on kb;replace r0:=cellS kb r0;replace q0:=cellS kb q0;clear kb
 refine tkq 0 (h:=tkq 1 (h:=tkq 2 (h:=tkq 3 (h:=tkq 4 (h:=?_)))))
 refine rdq 5 (h:=fun K hK=>?_)
 go_simp
 go_wp2_with fail
 refine (zkd w3).mono ?_
 rintro e w4 ⟨A1,c1,rfl,z1,z2,z3,kb⟩
 replace z:=zbt z (Nat.le_of_lt hl) kb;replace hl:=Nat.lt_of_lt_of_le hl kb.size;replace hT:=hT.on kb;replace r0:=cellS kb r0;replace q0:=cellS kb q0;clear kb
 refine bkq hK r0 (h:=fun hHeld=>?_)
 clear hK K
 refine tkq 6 (h:=?_)
 refine rdq 7 (h:=fun K hK=>?_)
 have zf:w4.frozen? ⟨b0,o0,none⟩=false:=by
  obtain ⟨b9,o9,d9,A9,c9,N,_,_,_,_,_,_,z9,_⟩:=hT.at (v:=0) o (k:=0) (by rw [<-ak.out]; exact m)
  rw [af] at N
  injection N with e1 _ _
  injection e1 with e1
  injection e1 with e1 e2
  subst e1 e2
  exact z9
 rw [Nat.add_zero] at q0
 go_simp
 replace r0:=zaa (p:=⟨b0,o0,none⟩) (u:=.slice A1 (dl 1) c1) r0 (by show g≠b0; omega)
 have s:=hT.set (by omega) o (k:=0) (by rw [<-ak.out]; exact m) af z3 z1 z2
 rw [Nat.add_zero] at s
 have x:=z.setCell (p:=⟨b0,o0,none⟩) (by show w.heap.size+2<=b0; omega) (.slice A1 (dl 1) c1)
 have I:w.heap.size+2<(World.setCell w4 ⟨b0,o0,none⟩ (.slice A1 (dl 1) c1)).heap.size:=by simp; exact hl
 refine bkq hK r0 (h:=fun hHeld=>?_)
 clear hK K
 refine wpAnyH_done (by kernel_rfl) ?_ _
 clear hHeld
 obtain ⟨w9,al⟩:=exx (World.setCell w4 ⟨b0,o0,none⟩ (.slice A1 (dl 1) c1))
 rw [<-al] at s x I ⊢;clear al hT z hl r0 q0 z3
 have ay:NumTab w9 g (g+1) T.nw F (fun v=>(T.W v).toNat) (T.fwdX y 0 0):=s.congr (fun v _=>rfl) (fun u _ v hv=>by
  simp only [Trel.fwdX,upd2]
  by_cases e:u=0
  ·subst e
   rw [if_pos (Nat.le_refl _)]
   show _=if v=0 then 1 else 0
   by_cases e2:v=0
   ·rw [if_pos ⟨rfl,e2⟩,if_pos e2]
   ·rw [if_neg (fun h=>e2 h.2),if_neg e2]
  ·rw [if_neg (fun h=>e h.1),if_neg (by omega)]
   split <;> rfl)
 clear s m D z0 a1 a8 z1 z2 ak b5
 obtain ⟨⟨p0,p1⟩,hW⟩:=ah.out _ x
 go_wp2
 go_loopg [33] T.n (fun gg iv wx=>∃ k:Nat,iv=.int .i64 (k:Nat)/\k<=T.n/\T.n<=k+gg/\NumTab wx g (g+1) T.nw F (fun v=>(T.W v).toNat) (T.fwdX y k 0)/\Below (w.heap.size+2) W2 wx/\w.heap.size+2<wx.heap.size)
 case atStart=>exact ⟨0,rfl,by omega,by omega,ay,x,I⟩
 clear hW p0 p1 ay x I
 obtain ⟨gK,bi⟩:=exx gk
 subst bi
 obtain ⟨k,rfl,hk,c5,hT,hB,hl⟩:=hrel
 obtain ⟨wk,b4⟩:=exx wr
 subst b4
 have c6:(0:Int)<=(k:Int):=by omega
 obtain ⟨⟨p0,p1⟩,hW⟩:=ah.out _ hB
 by_cases hlt:k<T.n
 rotate_left
 ·have a4:¬ (k:Int)<(T.n:Int):=by omega
  have a6:k=T.n:=by omega
  have bp:=hid (hT.congr (x':=T.fwd y) (fun v _=>rfl) (fun u hu v _=>if_pos (by have:=aj.out; omega)))
  clear hT a6
  go_wp2
  go_ret2
  exact ⟨g,F,rfl,by omega,bp.out,hW⟩
 have a4:(k:Int)<(T.n:Int):=by omega
 have J:k+1<T.nw:=by have:=aj.out; omega
 have a5:k<T.nw:=by omega
 have bg:(k:Int)+1<(T.nw:Int):=by omega
 have bf:(k:Int)<(T.nw:Int):=by omega
 have bh:(0:Int)<=(k:Int)+1:=by omega
 have b3:IntKind.i64.wrap ((k:Int)+1)=(k:Int)+1:=IntWalk.i64_in _ (by omega)
 obtain ⟨eb,eo,E,ec,rfl,cf,x0w,cg,bl,ax,bk⟩:=HR.out.sec hlt
 obtain ⟨vb,vo,R,rc,rfl,c2,y0w,am⟩:=HV.out k hlt
 have ce:=q.out.elb hlt
 have bw:=hid ax
 have b1:=hid am
 have bu:=hid x0w
 have bt:=hid y0w
 have x0:=cellS hW x0w
 clear ax bk bl am x0w y0w
 go_wp2
 go_loopg [40] (T.el k) (fun gg jv wx=>∃ j:Nat,jv=.int .i64 (j:Nat)/\j<=T.el k/\T.el k<=j+gg/\NumTab wx g (g+1) T.nw F (fun v=>(T.W v).toNat) (T.fwdX y k j)/\Below (w.heap.size+2) W2 wx/\w.heap.size+2<wx.heap.size)
 case atStart=>exact ⟨0,rfl,by omega,by omega,hT,hB,hl⟩
 clear p0 p1 hT hB hl x0 hW
 obtain ⟨j,rfl,hj,c7,hT,hB,hl⟩:=hrel
 have c8:(0:Int)<=(j:Int):=by omega
 by_cases hltj:j<T.el k
 rotate_left
 ·have H:¬ (j:Int)<(T.el k:Int):=by omega
  have av:j=T.el k:=by omega
  rw [av] at hT
  have br:=hid (hT.congr (x':=T.fwdX y (k+1) 0) (fun v _=>rfl) (fun u _ v _=>T.fwdX_next y k u v))
  have HB:=hid hB
  clear hT hB av
  go_wp2
  go_roundg (gK - 1)
  case measure=>omega
  case rel=>exact ⟨k+1,by go_num,by omega,by omega,br.out,HB.out,hl⟩
 have H:(j:Int)<(T.el k:Int):=by omega
 have hW:=(ah.out _ hB).2
 obtain ⟨fb,fo,rfl,cc,e0,e1,e2⟩:=zcO ((Rd.below bw.out hW (Nat.le_refl _)).mono hW.size) hltj
 obtain ⟨i1,i2,i3,i4⟩:=q.out.ins k hlt j hltj
 obtain ⟨fn,aw⟩:∃ n:Nat,(n:Int)=T.fr k j:=⟨(T.fr k j).toNat,by omega⟩
 obtain ⟨tn,an⟩:∃ n:Nat,(n:Int)=T.to k j:=⟨(T.to k j).toNat,by omega⟩
 obtain ⟨lb,au⟩:=exx (T.lb k j)
 obtain ⟨n1,ar⟩:=exx ((T.W k).toNat)
 obtain ⟨n2,a2⟩:=exx ((T.W (k+1)).toNat)
 have cb:fn<n1:=by omega
 have b7:tn<n2:=by omega
 have bj:(fn:Int)<(n1:Int):=by omega
 have b6:(tn:Int)<(n2:Int):=by omega
 have cd:(0:Int)<=(fn:Int):=by omega
 have c3:(0:Int)<=(tn:Int):=by omega
 obtain ⟨ab,ao,ad,Ap,cp,ae,cj,bn,aq,ap1,ap2,apn,_,_⟩:=hT.at (v:=k) a5 (k:=fn) (by omega)
 obtain ⟨bb,bo,bd,Aq,cq,Q,ch,bm,bq,bq1,bq2,bqn,zq,_⟩:=hT.at (v:=k+1) J (k:=tn) (by omega)
 obtain ⟨rb,ro,Av,cv,rfl,c4,vq,vq1,vq2,vn⟩:=(b1.out.on hW) j hltj
 have b:=hT.row.cell a5
 have a:=hT.row.cell J
 have y0:=cellS hW bt.out
 have l:=hT.apart k (k+1) a5 J (by omega)
 rw [ae] at b;rw [Q] at a
 have b8:ab≠bb:=fun e=>by
  rw [ae,Q,e] at l
  simp [Value.ownBlock] at l
 have epv:T.fwdX y k j k fn=T.fwd y k fn:=if_pos (Nat.le_refl _)
 have eqv:T.fwdX y k j (k+1) tn=T.fwdE y (T.fwd y k) k j tn:=by
  show (if k+1<=k then _ else if k+1=k+1 then _ else 0)=_
  rw [if_neg (by omega),if_pos rfl]
 have d1:=Trel.fwd_dl q.out HY.out (i:=k) (by omega) fn
 have d2:=Trel.fwdE_dl q.out HY.out (i:=k) (j:=j) hlt hj tn
 have d3:=Trel.fwdE_dl q.out HY.out (i:=k) (j:=j+1) hlt hltj tn
 have P:=HY.out k hlt j hltj
 have G:T.fwdE y (T.fwd y k) k (j+1) tn=T.fwdE y (T.fwd y k) k j tn+T.fwd y k fn*y k j:=by
  show _+(if (T.to k j).toNat=tn then T.fwd y k (T.fr k j).toNat*y k j else 0)=_
  have e1:(T.fr k j).toNat=fn:=by omega
  have e2:(T.to k j).toNat=tn:=by omega
  rw [e1,e2,if_pos rfl]
 rw [epv] at aq ap1 apn;rw [eqv] at bq bq1 bqn;rw [G] at d3
 obtain ⟨pv,a0⟩:=exx (T.fwd y k fn)
 obtain ⟨qv,Z⟩:=exx (T.fwdE y (T.fwd y k) k j tn)
 obtain ⟨yv,r⟩:=exx (y k j)
 rw [<-a0] at aq ap1 apn d1 d3;rw [<-Z] at bq bq1 bqn d2 d3;rw [<-r] at vq vq1 vn P d3
 have d4:dl yv<=37:=zhI (i:=0) (by omega) (by simpa using P)
 have d5:dl (pv*yv)<=37:=by
  refine Nat.le_trans (zfC (y:=pv) ?_) d1
  exact Nat.le_trans (Nat.mul_le_mul_left pv P) (by omega)
 have ai:Hid (∀ u v,upd2 (T.fwdX y k j) (k+1) tn (qv+pv*yv) u v=T.fwdX y k (j+1) u v):=fun u v=>by
  have:=Trel.fwdX_put T y k j u v
  have e1:(T.fr k j).toNat=fn:=by omega
  have e2:(T.to k j).toNat=tn:=by omega
  rw [e1,e2,<-a0,<-Z,<-r] at this
  exact this
 change wr.cell? ⟨g,k,none⟩=some (.slice (some ⟨ab,ao,none⟩) (T.W k).toNat ad) at b
 change wr.cell? ⟨g,k+1,none⟩=some (.slice (some ⟨bb,bo,none⟩) (T.W (k+1)).toNat bd) at a
 have x0:=cellS hW bu.out
 rw [<-ar] at b;rw [<-a2] at a;rw [<-aw] at e0;rw [<-au] at e1;rw [<-an] at e2
 have L:g≠bb:=by omega
 have a7:wr.heap.size≠bb:=by omega
 have X:vb≠bb:=by omega
 have ck:=hW.size
 have O:Hid (F (k+1)=.slice (some ⟨bb,bo,none⟩) (T.W (k+1)).toNat bd):=Q
 have b2:Hid (tn<(T.W (k+1)).toNat):=by rw [<-a2]; exact b7
 have Y:rb≠bb:=by
  obtain ⟨_,_,_,_,e8,h8,_⟩:=b1.out j hltj
  injection e8 with e8
  injection e8 with e8
  omega
 clear l ae Q epv eqv G a0 Z r P aw an au i1 i2 i3 i4 ar a2 hW
 go_upto_region 12 with fail
 obtain ⟨OB,aa⟩:=exx ((Obj.cells #[.int .i64 (fn:Int),.int .i64 lb,.int .i64 (tn:Int)] 90))
 have hq:∀ i v,(#[Value.int .i64 (fn:Int),.int .i64 lb,.int .i64 (tn:Int)]:Array Value)[i]?=some v->(wr.alloc OB).cell? ⟨wr.heap.size,i,none⟩=some v:=fun i v hv=>by subst aa; exact tbox (Below.refl _ _) hv
 have s0:=hq 0 _ rfl
 have s2:=hq 2 _ rfl
 have kb:=aly wr OB
 rw [<-aa]
 obtain ⟨w50,C⟩:=exx (wr.alloc OB)
 rw [<-C] at s0 s2 kb ⊢;replace hT:=hT.on kb;replace hB:=zbt hB (Nat.le_of_lt hl) kb;replace hl:=Nat.lt_of_lt_of_le hl kb.size;replace aq:=cellS kb aq;replace bq:=cellS kb bq;replace vq:=cellS kb vq;replace y0:=cellS kb y0;replace b:=cellS kb b;replace a:=cellS kb a;replace apn:=apn.on kb;replace bqn:=bqn.on kb;replace vn:=vn.on kb
 obtain ⟨bx,M⟩:=exx wr.heap.size
 rw [<-M] at s0 s2 a7 ⊢;clear hq C aa kb x0 e0 e1 e2 M
 refine wp_region_held_drew (S:=fun w'=>w'.cell? ⟨g,k,none⟩=some (.slice (some ⟨ab,ao,none⟩) n1 ad)/\w'.cell? ⟨g,k+1,none⟩=some (.slice (some ⟨bb,bo,none⟩) n2 bd)/\w'.cell? ⟨bx,0,none⟩=some (.int .i64 (fn:Int))/\w'.cell? ⟨bx,2,none⟩=some (.int .i64 (tn:Int))/\w'.cell? ⟨vb,vo+k,none⟩=some (.slice (some ⟨rb,ro,none⟩) (T.el k) rc)/\w'.cell? ⟨rb,ro+j,none⟩=some (.slice Av (dl yv) cv)/\w'.cell? ⟨ab,ao+fn,none⟩=some (.slice Ap (dl pv) cp)) (by kernel_rfl) ⟨cellS (Below.refl _ _).drew b,cellS (Below.refl _ _).drew a,cellS (Below.refl _ _).drew s0,cellS (Below.refl _ _).drew s2,cellS (Below.refl _ _).drew y0,cellS (Below.refl _ _).drew vq,cellS (Below.refl _ _).drew aq⟩ (fun hHeld=>?_)
 obtain ⟨w51,hw,kb⟩:=dwx w50
 rw [<-hw] at hHeld ⊢;clear hw;replace hB:=zbt hB (Nat.le_of_lt hl) kb;replace hl:=Nat.lt_of_lt_of_le hl kb.size;replace hT:=hT.on kb;replace aq:=cellS kb aq;replace bq:=cellS kb bq;replace vq:=cellS kb vq;replace y0:=cellS kb y0;replace b:=cellS kb b;replace a:=cellS kb a;replace s0:=cellS kb s0;replace s2:=cellS kb s2;replace apn:=apn.on kb;replace bqn:=bqn.on kb;replace vn:=vn.on kb
 clear kb
 refine tkq 0 (h:=tkq 1 (h:=tkq 2 (h:=tkq 3 (h:=tkq 4 (h:=tkq 5 (h:=tkq 6 (h:=tkq 7 (h:=tkq 8 (h:=tkq 9 (h:=tkq 10 (h:=tkq 11 (h:=tkq 12 (h:=tkq 13 (h:=tkq 14 (h:=tkq 15 (h:=tkq 16 (h:=tkq 18 (h:=tkq 19 (h:=tkq 20 (h:=tkq 21 (h:=tkq 22 (h:=tkq 23 (h:=tkq 24 (h:=tkq 25 (h:=tkq 26 (h:=tkq 27 (h:=tkq 28 (h:=tkq 29 (h:=tkq 30 (h:=tkq 31 (h:=tkq 32 (h:=tkq 33 (h:=tkq 34 (h:=?_))))))))))))))))))))))))))))))))))
 refine rdq2 17 35 (h:=fun K hK=>?_) (h2:=fun K hK=>?_)
 focus
  go_simp
  refine bkq hK ⟨b,a,s0,s2,y0,vq,aq⟩ (h:=fun hHeld=>?_)
  clear hK K
  refine rdq 35 (h:=fun K hK=>?_)
  go_simp
  go_wp2_with fail
  refine (zhG Ap Av cp cv pv yv w51 apn vn ap1 ap2 vq1 vq2 (by omega) (by omega) (by omega)).mono ?_
  rintro e w52 ⟨Am,cm,rfl,m1,m2,m3,kb⟩
  replace hB:=zbt hB (Nat.le_of_lt hl) kb;replace hl:=Nat.lt_of_lt_of_le hl kb.size;replace hT:=hT.on kb;replace aq:=cellS kb aq;replace bq:=cellS kb bq;replace vq:=cellS kb vq;replace y0:=cellS kb y0;replace b:=cellS kb b;replace a:=cellS kb a;replace s0:=cellS kb s0;replace s2:=cellS kb s2;replace apn:=apn.on kb;replace bqn:=bqn.on kb;replace vn:=vn.on kb;clear kb
 rotate_left
 focus
  go_simp
  go_wp2_with fail
  refine (zhG Ap Av cp cv pv yv w51 apn vn ap1 ap2 vq1 vq2 (by omega) (by omega) (by omega)).mono ?_
  rintro e w52 ⟨Am,cm,rfl,m1,m2,m3,kb⟩
  replace hB:=zbt hB (Nat.le_of_lt hl) kb;replace hl:=Nat.lt_of_lt_of_le hl kb.size;replace hT:=hT.on kb;replace aq:=cellS kb aq;replace bq:=cellS kb bq;replace vq:=cellS kb vq;replace y0:=cellS kb y0;replace b:=cellS kb b;replace a:=cellS kb a;replace s0:=cellS kb s0;replace s2:=cellS kb s2;replace apn:=apn.on kb;replace bqn:=bqn.on kb;replace vn:=vn.on kb;clear kb
  refine bkq hK ⟨b,a,s0,s2,y0,vq,aq⟩ (h:=fun hHeld=>?_)
  clear hK K
  refine rdq 17 (h:=fun K hK=>?_)
  go_simp
 rotate_left
 all_goals
  refine bkq hK ⟨b,a,s0,s2,y0,vq,aq⟩ (h:=fun hHeld=>?_)
  clear hK K
  refine rdq 36 (h:=fun K hK=>?_)
  go_simp
  go_wp2_with fail
  refine (zke Aq Am cq cm qv (pv*yv) w52 bqn m3 bq1 bq2 m1 m2 (by omega) (by omega) (by omega)).mono ?_
  rintro e w53 ⟨As,cs,rfl,t1,t2,t3,kb⟩
  replace hB:=zbt hB (Nat.le_of_lt hl) kb;replace hl:=Nat.lt_of_lt_of_le hl kb.size;replace hT:=hT.on kb;replace aq:=cellS kb aq;replace bq:=cellS kb bq;replace vq:=cellS kb vq;replace y0:=cellS kb y0;replace b:=cellS kb b;replace a:=cellS kb a;replace s0:=cellS kb s0;replace s2:=cellS kb s2;replace apn:=apn.on kb;replace bqn:=bqn.on kb;replace vn:=vn.on kb;replace m3:=m3.on kb;clear kb
  refine bkq hK ⟨b,a,s0,s2,y0,vq,aq⟩ (h:=fun hHeld=>?_)
  clear hK K
  refine tkq 37 (h:=?_)
  refine rdq 38 (h:=fun K hK=>?_)
  have zf:w53.frozen? ⟨bb,bo+tn,none⟩=false:=by
   obtain ⟨b9,o9,d9,A9,c9,N,_,_,_,_,_,_,z9,_⟩:=hT.at (v:=k+1) J (k:=tn) b2.out
   rw [O.out] at N
   injection N with e1 _ _
   injection e1 with e1
   injection e1 with e1 e2
   subst e1 e2
   exact z9
  go_simp
  replace b:=zaa (p:=⟨bb,bo+tn,none⟩) (u:=(.slice As (dl (qv+pv*yv)) cs)) b (by simpa using L)
  replace a:=zaa (p:=⟨bb,bo+tn,none⟩) (u:=(.slice As (dl (qv+pv*yv)) cs)) a (by simpa using L)
  replace s0:=zaa (p:=⟨bb,bo+tn,none⟩) (u:=(.slice As (dl (qv+pv*yv)) cs)) s0 (by simpa using a7)
  replace s2:=zaa (p:=⟨bb,bo+tn,none⟩) (u:=(.slice As (dl (qv+pv*yv)) cs)) s2 (by simpa using a7)
  replace y0:=zaa (p:=⟨bb,bo+tn,none⟩) (u:=(.slice As (dl (qv+pv*yv)) cs)) y0 (by simpa using X)
  replace vq:=zaa (p:=⟨bb,bo+tn,none⟩) (u:=(.slice As (dl (qv+pv*yv)) cs)) vq (by simpa using Y)
  replace aq:=zaa (p:=⟨bb,bo+tn,none⟩) (u:=(.slice As (dl (qv+pv*yv)) cs)) aq (by simpa using b8)
  have s:=hT.set (by omega) J (k:=tn) b2.out O.out t3 t1 t2
  have x:=hB.setCell (p:=⟨bb,bo+tn,none⟩) (by show w.heap.size+2<=bb; omega) (.slice As (dl (qv+pv*yv)) cs)
  have I:w.heap.size+2<(World.setCell w53 ⟨bb,bo+tn,none⟩ (.slice As (dl (qv+pv*yv)) cs)).heap.size:=by simp; exact hl
  refine bkq hK ⟨b,a,s0,s2,y0,vq,aq⟩ (h:=fun hHeld=>?_)
  clear hK K
  refine wpAnyH_done (by kernel_rfl) ?_ _
  clear hHeld
  have hN:=hid (s.congr (x':=T.fwdX y k (j+1)) (fun v _=>rfl) (fun u _ v _=>ai.out u v))
  have bz:=hid x
  clear s hT x hB bq
  go_wp2
  go_roundg (gk - 1)
  case measure=>omega
  case rel=>exact ⟨j+1,by go_num,by omega,by omega,hN.out,bz.out,I⟩
theorem zhJ (n:Nat) (h:n<4294967296):bits .and .u64 (n:Int) 4294967295=(n:Int):=by
 have h1:(BitVec.ofInt 64 4294967295).toNat=2 ^ 32 - 1:=by decide
 have a:(BitVec.ofInt 64 (n:Int) &&& BitVec.ofInt 64 4294967295).toNat=((n:Int) % ((2 ^ 64:Nat):Int)).toNat % 2 ^ 32:=by
  rw [BitVec.toNat_and,BitVec.toNat_ofInt,h1,Nat.and_two_pow_sub_one_eq_mod]
 show IntKind.u64.wrap ((BitVec.ofInt 64 (n:Int) &&& BitVec.ofInt 64 4294967295).toNat:Nat)=(n:Int)
 rw [a,IntKind.wrap_u64]
 omega
theorem ziQ (n:Nat) (h:n<4294967296) (w:World):Calls Tryz.prog 221 #[.int .u64 1,.int .u64 (n:Nat)] w fun e w'=>e=.returned (.tuple #[.int .u64 0,.int .u64 (n:Nat)])/\w'=w:=by
 have h1:bits .and .u64 1 4294967295=1:=zhJ 1 (by omega)
 have h0:bits .and .u64 0 4294967295=0:=zhJ 0 (by omega)
 have hn:=zhJ n h
 have hd:(n:Int) / 4294967296=0:=by omega
 have hw:IntKind.u64.wrap (n:Int)=(n:Int):=IntWalk.u64_in _ (by omega)
 go_enter Tryz.func221, Tryz.ntmps221
 go_wp2
 go_ret2
 exact ⟨rfl,rfl⟩
theorem zk5 (n:Nat) (h:n<4294967296) (w:World):Calls Tryz.prog 179 #[.int .u64 1,.int .u64 (n:Nat)] w fun e w'=>e=.returned (.tuple #[.int .u64 0,.int .u64 (n:Nat)])/\w'=w:=by
 have hw:IntKind.u64.wrap (n:Int)=(n:Int):=IntWalk.u64_in _ (by omega)
 go_enter Tryz.func179, Tryz.ntmps179
 go_wp2_with fail
 refine (ziQ n h w).mono ?_
 rintro e w1 ⟨rfl,rfl⟩
 go_wp2
 go_ret2
 exact ⟨rfl,rfl⟩
def filled (U Z:Value) (k n:Nat):List Value:=List.replicate k U ++ List.replicate (n - k) Z
theorem zcP (U Z:Value) {k n:Nat} (h:k<=n):(filled U Z k n).length=n:=by simp [filled]; omega
theorem zeN {U Z:Value} {k n j:Nat} (hj:j<k):(filled U Z k n)[j]?=some U:=by
 unfold filled
 rw [List.getElem?_append_left (by simpa using hj)]
 simp [hj]
theorem zcQ (U Z:Value) (k m n:Nat):splice (filled U Z k n) k (List.replicate m U)=filled U Z (k+m) n:=by
 unfold splice filled
 rw [List.take_append_of_le_length (by simp),List.take_of_length_le (by simp),List.length_replicate,List.drop_append,List.drop_of_length_le (by simp),List.nil_append,List.length_replicate,List.drop_replicate,show k+m - k=m by omega,show n - k - m=n - (k+m) by omega,<-List.append_assoc,List.replicate_append_replicate]
theorem zdn (U Z:Value) (n:Nat):(madeCells #[Z] n).toList=filled U Z 0 n:=by
 apply List.ext_getElem?
 intro i
 simp only [filled,List.replicate_zero,List.nil_append,Nat.sub_zero,List.getElem?_replicate,Array.getElem?_toList]
 by_cases h:i<n
 ·rw [if_pos h]
  simp [madeCells,h]
  have:i % 1=0:=Nat.mod_one i
  simp [this]
 rw [if_neg h]
 simp [madeCells]
 omega
theorem zhK (b:Nat) (U:Value) (n c:Nat) (w:World) (hcell:w.cell? ⟨b,0,none⟩=some U) (hU:U.oneCell'=true) (h1:1<=n) (hn:n<=1048576) :
  Calls Tryz.prog 138 #[.slice (some ⟨b,0,none⟩) 1 c,.int .i64 (n:Nat)] w fun e w' =>
   ∃ g,e=.returned (.slice (some ⟨g,0,none⟩) n n)/\w.heap.size<=g/\w'.rowIs g 69 n (fun _=>U)/\Below w.heap.size w w':=by
 have T:¬ (n:Int)<0:=by omega
 have N:IntKind.u64.wrap (n:Int)=(n:Int):=IntWalk.u64_in _ (by omega)
 have O:IntKind.i64.wrap (n:Int)=(n:Int):=IntWalk.i64_in _ (by omega)
 go_enter Tryz.func138, Tryz.ntmps138
 go_wp2_with fail
 refine (zk5 n (by omega) w).mono ?_
 rintro e w1 ⟨rfl,rfl⟩
 have R:¬ (n:Int) > 9223372036854775807:=by omega
 have G:decide ((n:Int) > 9223372036854775807)=false:=by simp; omega
 have F:decide (9223372036854775807<(n:Int))=false:=by simp; omega
 have s:=fun W=>zag (P:=Tryz.prog) 64 69 _ 24 Tryz.underlying64 Tryz.infoNat rfl (n:Int) (by omega) (by omega) (by omega) W
 simp only [Int.toNat_natCast] at s
 go_upto_region 7 with fail
 obtain ⟨i0,J⟩:∃ i,Tryz.prog.info? 69 = some i:=by cases h:Tryz.prog.info? 69 with | none=>have:=Tryz.infoNat; simp [h] at this | some i=>exact ⟨i,rfl⟩
 have z:(Tryz.prog.info? 69).map (·.size)=some 1:=by
  have:=Tryz.infoNat
  rw [J] at this ⊢
  simp only [Option.map_some,Option.some.injEq,Prod.mk.injEq] at this ⊢
  exact this.2.1
 have q:(w1.alloc (Obj.cells (madeCells #[Value.slice none 0 0] n) 69)).heap[w1.heap.size]?=some (.cells (filled U (.slice none 0 0) 0 n).toArray 69 (0,0)):=by
  rw [<-zdn,Array.toArray_toList]
  exact heap_alloc_new _ _
 have r:=aly w1 (Obj.cells (madeCells #[Value.slice none 0 0] n) 69)
 have x:=cellS r hcell
 obtain ⟨wm,y⟩:=exx (w1.alloc (Obj.cells (madeCells #[Value.slice none 0 0] n) 69))
 rw [<-y] at q r x ⊢
 obtain ⟨g,hg⟩:=exx w1.heap.size
 have o:w1.heap.size<=g:=by omega
 rw [<-hg] at q ⊢
 have M:=hid x
 clear y s x hg hcell
 have a:Hid (∀ j v,(List.replicate 1 U)[j]?=some v->wm.cell? ((⟨b,0,none⟩:Addr).add j)=some v):=fun j v hv=>by
  have hj:j=0:=by
   have:=(List.getElem?_eq_some_iff.1 hv).1
   simp at this; omega
  subst hj
  have:U=v:=by simpa using hv
  rw [<-this]
  exact M.out
 have p:Hid (∀ m,∀ v ∈ List.replicate m U,v.oneCell'=true):=fun m v hv=>by rw [List.eq_of_mem_replicate hv]; exact hU
 have l:Hid (0+(List.replicate 1 U).length<=(filled U (.slice none 0 0) 0 n).length):=by
  show _<=_
  rw [zcP _ _ (by omega)]; simp; omega
 have d:Hid ((List.replicate 1 U).length=Nat.min 1 n):=by show 1=min 1 n; omega
 go_wp2_with (first | (refine wpList_copy_splice (cur:=filled U (.slice none 0 0) 0 n) (cs:=List.replicate 1 U) (B:=w1.heap.size) (w0:=w1) rfl (.tmp 31) (.tmp 32) 64 64 rfl 69 Tryz.underlying64 z (some ⟨g,0,none⟩) (some ⟨b,0,none⟩) n n 1 c rfl rfl g 0 69 q d.out (fun _=>⟨rfl,_,rfl,a.out⟩) l.out (p.out 1) r o ?_; intro w2 hm2 hb2))
 have C:Hid (w2.heap[g]?=some (.cells (filled U (.slice none 0 0) 1 n).toArray 69 (0,0))):=by
  have:=hm2.out
  rwa [zcQ] at this
 clear q r hm2 hU d l a
 go_wp2
 go_loopg [8] n (fun gg iv wx=>∃ k:Nat,iv=.int .i64 (k:Nat)/\1<=k/\k<=n/\n<=k+gg/\Hid (wx.heap[g]?=some (.cells (filled U (.slice none 0 0) k n).toArray 69 (0,0)))/\Below w1.heap.size w1 wx)
 case atStart=>exact ⟨1,rfl,by omega,by omega,by omega,C,hb2⟩
 clear C hb2
 obtain ⟨k,rfl,a0,hk,Z,HM,hb⟩:=hrel
 have a1:(0:Int)<=(k:Int):=by omega
 by_cases hlt:k<n
 rotate_left
 ·obtain rfl:k=n:=by omega
  have u:wr.rowIs g 69 k (fun _=>U):=⟨_,HM.out,by simp [filled],fun i hi=>by
   rw [List.getElem?_toArray,zeN hi]⟩
  go_wp2
  go_ret
  exact ⟨g,rfl,o,u,hb⟩
 have H:(k:Int)<(n:Int):=by omega
 obtain ⟨m,hm⟩:=exx (min k (n - k))
 have V:1<=m:=by omega
 have s:m<=k:=by omega
 have Y:k+m<=n:=by omega
 have I:(k:Int)<=(n:Int):=by omega
 have X:k≠n:=by omega
 have Q:¬ n=k:=by omega
 have a:Hid (∀ j v,(List.replicate m U)[j]?=some v->(World.drew wr).cell? ((⟨g,0,none⟩:Addr).add j)=some v):=fun j v hv=>by
  have hj:j<m:=by
   have:=(List.getElem?_eq_some_iff.1 hv).1
   simpa using this
  have E:U=v:=by
   rw [List.getElem?_replicate,if_pos hj] at hv
   simpa using hv
  rw [zcK,Nat.zero_add,<-E]
  show wr.cell? ⟨g,j,none⟩=some U
  rw [cell_of_row wr g j _ _ _ HM.out,List.getElem?_toArray,zeN (by omega)]
 have l:Hid (k+(List.replicate m U).length<=(filled U (.slice none 0 0) k n).length):=by
  show _<=_
  rw [zcP _ _ hk]; simp; omega
 have d:Hid ((List.replicate m U).length=Nat.min k (n - k)):=by show _=_; rw [List.length_replicate]; exact hm
 clear hm
 have D:IntKind.i64.wrap ((k:Int)+(m:Int))=(k:Int)+(m:Int):=IntWalk.i64_in _ (by omega)
 go_upto_region 9 with fail
 refine wp_region_held_drew (S:=fun w'=>Below w1.heap.size w1 w') (by kernel_rfl) hb.drew (fun hHeld=>?_)
 refine tkq 0 (h:=tkq 1 (h:=tkq 2 (h:=tkq 3 (h:=tkq 4 (h:=tkq 5 (h:=tkq 6 (h:=?_)))))))
 refine rdq 7 (h:=fun K hK=>?_)
 refine step_copy_splice (cur:=filled U (.slice none 0 0) k n) (cs:=List.replicate m U) (B:=w1.heap.size) (w0:=w1) (by rfl) (.tmp 41) (.tmp 44) 64 64 (by rfl) 69 Tryz.underlying64 z (some ⟨g,k,none⟩) (some ⟨g,0,none⟩) (n - k) (n - k) k n (by rfl) (by rfl) g k 69 HM.out d.out (fun _=>⟨rfl,_,rfl,a.out⟩) l.out (p.out m) hb.drew o ?_
 intro w3 hm3 hb3
 refine bkq hK hb3 (h:=fun hHeld=>?_)
 clear hK K
 refine tkq 8 (h:=tkq 9 (h:=?_))
 refine wpAnyH_done (by kernel_rfl) ?_ _
 clear hHeld
 have L:Hid (w3.heap[g]?=some (.cells (filled U (.slice none 0 0) (k+m) n).toArray 69 (0,0))):=by
  have:=hm3.out
  rwa [zcQ] at this
 clear hm3
 go_wp2
 go_roundg (gk - 1)
 case measure=>omega
 case rel=>exact ⟨k+m,by go_num,by omega,by omega,by omega,L,hb3⟩
def hitB (f:Nat->Int):Nat->Int->Bool
 | 0,_=>false
 | j+1,v=>hitB f j v || decide (f j=v)
theorem za2 {f:Nat->Int} {v:Int}:∀ {j:Nat},hitB f j v=true↔∃ i,i<j/\f i=v:=by
 intro j
 induction j with
 | zero=>simp [hitB]
 | succ j ih =>
  simp only [hitB,Bool.or_eq_true,decide_eq_true_eq,ih]
  constructor
  ·rintro (⟨i,hi,e⟩ | e)
   ·exact ⟨i,by omega,e⟩
   ·exact ⟨j,by omega,e⟩
  ·rintro ⟨i,hi,e⟩
   by_cases h:i=j
   ·subst h; exact .inr e
   ·exact .inl ⟨i,by omega,e⟩
def Trel.after (T:Trel) (i j:Nat):Prop:=T.fr i (j - 1)<T.fr i j∨T.fr i (j - 1)=T.fr i j/\T.lb i (j - 1)<T.lb i j
instance (T:Trel) (i j:Nat):Decidable (T.after i j):=by unfold Trel.after; exact inferInstance
def Trel.edgeOk (T:Trel) (i j:Nat):Prop:=0<=T.lb i j/\T.lb i j<256/\(0<j->T.after i j)
instance (T:Trel) (i j:Nat):Decidable (T.edgeOk i j):=by unfold Trel.edgeOk; exact inferInstance
def Trel.secOk (T:Trel) (i:Nat):Prop :=
 (∀ j,j<T.el i->T.edgeOk i j)/\(∀ v,v<(T.W i).toNat->hitB (T.fr i) (T.el i) (v:Nat)=true)/\(∀ v,v<(T.W (i+1)).toNat->hitB (T.to i) (T.el i) (v:Nat)=true)
instance (T:Trel) (i:Nat):Decidable (T.secOk i):=by unfold Trel.secOk; exact inferInstance
def Trel.properE (T:Trel):Int :=
 if T.shapeE≠0 then T.shapeE else if T.W 0≠1∨T.W T.n≠1 then 5 else if ∀ i,i<T.n->T.secOk i then 0 else 5
structure Trel.Proper (T:Trel):Prop where
 shape:T.Shape
 w0:T.W 0=1
 wn:T.W T.n=1
 sec:∀ i,i<T.n->T.secOk i
theorem Trel.proper_of {T:Trel} (h:T.properE=0):T.Proper:=by
 unfold Trel.properE at h
 by_cases h1:T.shapeE=0
 ·rw [if_neg (by simpa using h1)] at h
  by_cases h2:T.W 0≠1∨T.W T.n≠1
  ·rw [if_pos h2] at h; omega
  rw [if_neg h2] at h
  by_cases h3:∀ i,i<T.n->T.secOk i
  ·exact ⟨Trel.shape_of h1,by omega,by omega,h3⟩
  ·rw [if_neg h3] at h; omega
 ·rw [if_pos h1] at h; exact absurd h h1
theorem Trel.properE_shape {T:Trel} (h:T.shapeE≠0):T.properE=T.shapeE:=by unfold Trel.properE; rw [if_pos h]
theorem Trel.properE_end {T:Trel} (h:T.shapeE=0) (h2:T.W 0≠1∨T.W T.n≠1):T.properE=5:=by unfold Trel.properE; rw [if_neg (by simpa using h),if_pos h2]
theorem Trel.properE_sec {T:Trel} (h:T.shapeE=0) {i:Nat} (hi:i<T.n) (h2:¬ T.secOk i):T.properE=5:=by
 unfold Trel.properE
 rw [if_neg (by simpa using h)]
 split
 ·rfl
 ·rw [if_neg fun h3=>h2 (h3 i hi)]
theorem Trel.properE_ok {T:Trel} (h:T.shapeE=0) (h0:T.W 0=1) (hn:T.W T.n=1) (h2:∀ i,i<T.n->T.secOk i):T.properE=0:=by
 unfold Trel.properE
 rw [if_neg (by simpa using h),if_neg (by omega),if_pos h2]
theorem zaU {w:World} {p q:Addr} {u v:Value} (h:w.cell? q=some v) (hne:q.block≠p.block):(w.setCell p u).cell? q=some v :=
 (World.cell?_setCell_other w p q u (fun e=>hne (by rw [e]))).trans h
theorem zdo (T:Trel) (A B:Option Addr) (c d:Nat) (w:World) (h:T.Reads w A B) :
  Calls Tryz.prog 95 #[.agg #[.slice A T.nw c,.slice B T.n d]] w fun e w'=>e=.returned (.int .i64 T.properE)/\Below w.heap.size w w':=by
 obtain ⟨RB,av⟩:=exx ((Obj.cells #[.slice A T.nw c,.slice B T.n d] 53))
 have ay:Below (w.heap.size+1) (w.alloc RB) (w.alloc RB):=Below.refl _ _
 have HS:Hid (∀ w',Below (w.heap.size+1) (w.alloc RB) w'->(w'.cell? ⟨w.heap.size,0,none⟩=some (.slice A T.nw c)/\w'.cell? ⟨w.heap.size,1,none⟩=some (.slice B T.n d))/\Below w.heap.size w w'):=fun w' hB=>by
  have cm:=zaJ hB
  subst av
  exact ⟨⟨tbox hB rfl,tbox hB rfl⟩,cm⟩
 obtain ⟨⟨p0,p1⟩,hW⟩:=HS.out _ ay
 go_enter Tryz.func95, Tryz.ntmps95
 go_wp2_with fail
 rw [<-av]
 refine (zeL T A B c d _ (h.on hW)).mono ?_
 rintro e w1 ⟨rfl,hb⟩
 have ax:=zaB ay hb
 clear hW p0 p1 hb ay av
 obtain ⟨⟨p0,p1⟩,hW⟩:=HS.out _ ax
 by_cases hs:T.shapeE=0
 rotate_left
 ·have hE:=hid (Trel.properE_shape hs)
  have hn:(T.shapeE != 0)=true:=by simpa using hs
  obtain ⟨x,hx⟩:=exx T.shapeE
  rw [<-hx] at hE hn ⊢;clear hs hx
  go_wp2
  go_ret
  exact ⟨zan hE.out.symm,hW⟩
 have M:=hid (Trel.shape_of hs)
 have a6:=hid hs
 rw [hs]
 have HR:=hid h
 have bj:T.nw=T.n+1:=M.out.nw
 have d7:=hid bj
 have d6:T.n<=64:=M.out.n64
 have cb:T.n<T.nw:=by omega
 have bi:(T.n:Int)<(T.nw:Int):=by omega
 have ca:0<T.nw:=by omega
 have bh:(0:Int)<(T.nw:Int):=by omega
 have cq:=hid ax
 clear hs bj h ax
 obtain ⟨b,o,hA,hb,x0,_,_⟩:=(HR.out.on hW).width (i:=0) (by omega)
 obtain ⟨_,_,a5,_,x1,_,_⟩:=(HR.out.on hW).width (i:=T.n) (by omega)
 subst hA
 injection a5 with e1
 injection e1 with e1 e2
 subst e1 e2
 obtain ⟨u0,ae⟩:=exx (T.W 0)
 obtain ⟨u1,ad⟩:=exx (T.W T.n)
 rw [Nat.add_zero,<-ae] at x0;rw [<-ad] at x1
 have bt:=hid ae
 have bs:=hid ad
 clear ae ad
 by_cases h0:u0=1
 rotate_left
 ·have c0:(u0 != 1)=true:=by simp [h0]
  have hE:=hid (T.properE_end a6.out (.inl (by rw [<-bt.out]; exact h0)))
  go_wp2
  go_ret
  exact ⟨zan hE.out.symm,hW⟩
 have c0:(u0 != 1)=false:=by simp [h0]
 by_cases h1:u1=1
 rotate_left
 ·have c1:(u1 != 1)=true:=by simp [h1]
  have hE:=hid (T.properE_end a6.out (.inr (by rw [<-bs.out]; exact h1)))
  go_wp2
  go_ret
  exact ⟨zan hE.out.symm,hW⟩
 have c1:(u1 != 1)=false:=by simp [h1]
 have co:Hid (T.W 0=1):=bt.out.symm.trans h0
 have cn:Hid (T.W T.n=1):=bs.out.symm.trans h1
 clear h0 h1
 go_wp2
 go_loopg [35] T.n (fun gg iv wx=>∃ k:Nat,iv=.int .i64 (k:Nat)/\k<=T.n/\T.n<=k+gg/\(∀ i,i<k->T.secOk i)/\Below (w.heap.size+1) (w.alloc RB) wx)
 case atStart=>exact ⟨0,rfl,by omega,by omega,fun i hi=>absurd hi (by omega),cq.out⟩
 clear hW p0 p1 x0 x1
 obtain ⟨gK,cg⟩:=exx gk
 subst cg
 obtain ⟨k,rfl,hk,cv,y,hB⟩:=hrel
 obtain ⟨wk,ab⟩:=exx wr
 subst ab
 have cx:(0:Int)<=(k:Int):=by omega
 have HB:=hid hB
 have cs:=zaY hB
 clear hB
 obtain ⟨⟨p0,p1⟩,hW⟩:=HS.out _ HB.out
 have a0:=hid y
 clear y
 by_cases hlt:k<T.n
 rotate_left
 ·have am:¬ (k:Int)<(T.n:Int):=by omega
  have hE:=hid (T.properE_ok a6.out co.out cn.out fun i hi=>a0.out i (by omega))
  go_wp2
  go_ret
  exact ⟨zan hE.out.symm,hW⟩
 have am:(k:Int)<(T.n:Int):=by omega
 have cw:k+1<T.nw:=by omega
 have ce:(k:Int)+1<(T.nw:Int):=by omega
 have cd:(k:Int)<(T.nw:Int):=by omega
 obtain ⟨wa,wo,hA,_,y0,c6,c5⟩:=(HR.out.on hW).width (i:=k) (by omega)
 obtain ⟨_,_,a5,_,y1,c4,c3⟩:=(HR.out.on hW).width (i:=k+1) (by omega)
 rw [hA] at a5
 injection hA with e1
 injection e1 with e1 e2
 subst e1 e2
 injection a5 with e1
 injection e1 with e1 e2
 subst e1 e2
 obtain ⟨eb,eo,E,ec,rfl,d4,x0,d5,ck,bq,bp⟩:=(HR.out.on hW).sec hlt
 unfold maxLen at ck
 have ab:=M.out.wid (i:=k) (by omega)
 have aa:=M.out.wid (i:=k+1) (by omega)
 have d3:=M.out.elb hlt
 obtain ⟨n1,ak⟩:∃ n:Nat,(n:Int)=T.W k:=⟨(T.W k).toNat,by omega⟩
 obtain ⟨n2,aj⟩:∃ n:Nat,(n:Int)=T.W (k+1):=⟨(T.W (k+1)).toNat,by omega⟩
 rw [<-ak] at y0 ab;rw [<-aj] at y1 aa
 have b7:=hid ak
 have b6:=hid aj
 have bv:=hid bq
 have d8:=hid bp
 have br:=hid x0
 have bk:=fun W=>zag (P:=Tryz.prog) 185 4 _ 1 Tryz.underlying185 Tryz.infoBool rfl (n1:Int) (by omega) (by omega) (by omega) W
 have R:=fun W=>zag (P:=Tryz.prog) 185 4 _ 1 Tryz.underlying185 Tryz.infoBool rfl (n2:Int) (by omega) (by omega) (by omega) W
 simp only [Int.toNat_natCast] at bk R
 clear ak aj bq bp c6 c5 c4 c3
 go_upto_region 12 with fail
 have m:=zab (World.rowIs_made wk (.bool false) n1 4) ((Below.refl _ _).alloc (Nat.le_refl _) (Obj.cells (madeCells #[Value.bool false] n2) 4))
 have l:=World.rowIs_made (wk.alloc (Obj.cells (madeCells #[Value.bool false] n1) 4)) (.bool false) n2 4
 have aq:=(((Below.refl wk.heap.size wk).alloc (Nat.le_refl _) (Obj.cells (madeCells #[Value.bool false] n1) 4)).alloc (by simp) (Obj.cells (madeCells #[Value.bool false] n2) 4))
 simp only [World.size_alloc] at l ⊢
 obtain ⟨wm,bd⟩:∃ W,W=(wk.alloc (Obj.cells (madeCells #[Value.bool false] n1) 4)).alloc (Obj.cells (madeCells #[Value.bool false] n2) 4):=⟨_,rfl⟩
 rw [<-bd] at m l aq ⊢
 obtain ⟨b1,au⟩:=exx wk.heap.size
 obtain ⟨b2,ar⟩:=exx (wk.heap.size+1)
 rw [<-au] at m;rw [<-ar] at l;rw [<-ar,<-au]
 have ai:b1≠b2:=by omega
 have bc:wk.heap.size<=b1:=by omega
 have bb:wk.heap.size<=b2:=by omega
 have F:Hid (wm.rowIs b1 4 n1 (fun v=>.bool (hitB (T.fr k) 0 (v:Nat)))):=m.congr fun _ _=>rfl
 have D:Hid (wm.rowIs b2 4 n2 (fun v=>.bool (hitB (T.to k) 0 (v:Nat)))):=l.congr fun _ _=>rfl
 have a8:=hid aq
 have L:Hid (¬ T.secOk k->T.properE=5):=fun hb=>T.properE_sec a6.out hlt hb
 clear m l aq bd au ar bk R p0 p1 x0 hW
 obtain ⟨⟨p0,p1⟩,hW⟩:=HS.out _ (zaB HB.out a8.out)
 have x0:=cellS a8.out br.out
 go_wp2
 go_loopg [55] (T.el k) (fun gg jv wx=>∃ j:Nat,jv=.int .i64 (j:Nat)/\j<=T.el k/\T.el k<=j+gg/\(∀ i,i<j->T.edgeOk k i)/\wx.rowIs b1 4 n1 (fun v=>.bool (hitB (T.fr k) j (v:Nat)))/\wx.rowIs b2 4 n2 (fun v=>.bool (hitB (T.to k) j (v:Nat)))/\Below wk.heap.size wk wx)
 case atStart=>exact ⟨0,rfl,by omega,by omega,fun i hi=>absurd hi (by omega),F.out,D.out,a8.out⟩
 clear hW p0 p1 x0 F D a8 y0 y1 hb
 obtain ⟨wj,c8⟩:=exx wr
 subst c8
 obtain ⟨j,rfl,hj,cy,y,m,l,G⟩:=hrel
 have cz:(0:Int)<=(j:Int):=by omega
 have z:=hid y
 obtain ⟨⟨p0,p1⟩,hW⟩:=HS.out _ (zaB HB.out G)
 have x0:=cellS G br.out
 have a7:=hid G
 have O:=m.lt
 have c7:=zaY (zaB HB.out G)
 have a9:wk.heap.size<=wj.heap.size:=G.size
 have cj:eb<wj.heap.size:=by omega
 have ac:=l.lt
 have b4:=hid m
 have b3:=hid l
 clear y
 by_cases hltj:j<T.el k
 rotate_left
 ·have V:¬ (j:Int)<(T.el k:Int):=by omega
  have bl:j=T.el k:=by omega
  have Z:Hid (∀ i,i<T.el k->T.edgeOk k i):=by rw [<-bl]; exact z
  rw [bl] at m l;clear b4 b3 z
  go_wp2_with fail
  refine (zdm _ n1 n1 (fun v=>hitB (T.fr k) (T.el k) (v:Nat)) false wj (zbm m) (by omega)).mono ?_
  rintro e w2 ⟨⟨r1,rfl,a3⟩,kb⟩
  replace hW:=onS hW kb;replace l:=zab l kb
  have J:=onS a7.out kb
  clear kb m
  cases r1
  rotate_left
  ·have hE:=hid (L.out fun hs=>by
    obtain ⟨i,hi,e⟩:=a3.1 rfl
    have:=hs.2.1 i (by have:=b7.out; omega)
    rw [e] at this
    cases this)
   clear a3
   go_wp2
   go_ret
   exact ⟨zan hE.out.symm,hW⟩
  have cr:Hid (∀ i,i<n1->hitB (T.fr k) (T.el k) (i:Nat)=true):=fun i hi=>by
   cases hv:hitB (T.fr k) (T.el k) (i:Nat)
   ·exact absurd (a3.2 ⟨i,hi,hv⟩) (by simp)
   ·rfl
  clear a3
  go_wp2_with fail
  refine (zdm _ n2 n2 (fun v=>hitB (T.to k) (T.el k) (v:Nat)) false w2 (zbm l) (by omega)).mono ?_
  rintro e w3 ⟨⟨r2,rfl,a2⟩,kb⟩
  replace hW:=onS hW kb;replace J:=onS J kb;clear kb l
  cases r2
  ·have HN:Hid (∀ i,i<k+1->T.secOk i):=fun i hi=>by
    by_cases e:i=k
    ·subst e
     refine ⟨Z.out,fun v hv=>cr.out v (by have:=b7.out; omega),fun v hv=>?_⟩
     cases hv2:hitB (T.to i) (T.el i) (v:Nat)
     ·exact absurd (a2.2 ⟨v,by have:=b6.out; omega,hv2⟩) (by simp)
     ·rfl
    ·exact a0.out i (by omega)
   have b9:=hid (zaB HB.out J)
   clear a2
   go_wp2
   go_roundg (gK - 1)
   case measure=>omega
   case rel=>exact ⟨k+1,by go_num,by omega,by omega,HN.out,b9.out⟩
  have hE:=hid (L.out fun hs=>by
   obtain ⟨i,hi,e⟩:=a2.1 rfl
   have:=hs.2.2 i (by have:=b6.out; omega)
   rw [e] at this
   cases this)
  clear a2
  go_wp2
  go_ret
  exact ⟨zan hE.out.symm,hW⟩
 have V:(j:Int)<(T.el k:Int):=by omega
 obtain ⟨fb,fo,rfl,d1,e0,e1,e2⟩:=zcO ((Rd.below bv.out G (Nat.le_refl _)).mono G.size) hltj
 obtain ⟨i1,i2,i3,i4⟩:=M.out.ins k hlt j hltj
 rw [<-b7.out] at i2;rw [<-b6.out] at i4
 have N:Hid (T.edgeOk k j↔0<=T.lb k j/\T.lb k j<256/\(0<j->T.after k j)):=Iff.rfl
 have b5:Hid (¬ T.edgeOk k j->T.properE=5):=fun hn=>L.out fun hs=>hn (hs.1 j hltj)
 obtain ⟨fn,ao⟩:∃ n:Nat,(n:Int)=T.fr k j:=⟨(T.fr k j).toNat,by omega⟩
 obtain ⟨tn,af⟩:∃ n:Nat,(n:Int)=T.to k j:=⟨(T.to k j).toNat,by omega⟩
 obtain ⟨lb,an⟩:=exx (T.lb k j)
 have ap:fn<n1:=by omega
 have ag:tn<n2:=by omega
 have ci:(fn:Int)<(n1:Int):=by omega
 have c9:(tn:Int)<(n2:Int):=by omega
 have d2:(0:Int)<=(fn:Int):=by omega
 have ct:(0:Int)<=(tn:Int):=by omega
 have Y:Hid (T.edgeOk k j->∀ i,i<j+1->T.edgeOk k i):=fun ho i hi=>by
  by_cases e:i=j
  ·subst e; exact ho
  ·exact z.out i (by omega)
 have u0:=m.cell (i:=fn) ap
 have u1:=l.cell (i:=tn) ag
 have z0:=m.frozen fn
 have z1:=l.frozen tn
 obtain ⟨v0,bg⟩:=exx (hitB (T.fr k) j (fn:Nat))
 obtain ⟨v1,bf⟩:=exx (hitB (T.to k) j (tn:Nat))
 have Q:b2≠b1:=fun e=>ai e.symm
 rw [<-bg] at u0;rw [<-bf] at u1;rw [<-ao] at e0;rw [<-af] at e2;rw [<-an] at e1 N
 have b8:=hid ao
 have bu:=hid af
 have cp:=hid an
 clear bg bf ao af an m l G i1 i2 i3 i4
 have a4:=(a7.out.alloc a9 (Obj.cells #[.int .i64 (fn:Int),.int .i64 lb,.int .i64 (tn:Int)] 90))
 have bx:Hid (∀ v,v<n1->(if v=fn then Value.bool true else .bool (hitB (T.fr k) j (v:Nat)))=.bool (hitB (T.fr k) (j+1) (v:Nat))):=fun v hv=>by
  show _=Value.bool (hitB (T.fr k) j (v:Nat) || decide (T.fr k j=(v:Nat)))
  by_cases e:v=fn
  ·subst e; rw [if_pos rfl,<-b8.out]; simp
  ·rw [if_neg e,decide_eq_false (by have:=b8.out; omega)]; simp
 have bw:Hid (∀ v,v<n2->(if v=tn then Value.bool true else .bool (hitB (T.to k) j (v:Nat)))=.bool (hitB (T.to k) (j+1) (v:Nat))):=fun v hv=>by
  show _=Value.bool (hitB (T.to k) j (v:Nat) || decide (T.to k j=(v:Nat)))
  by_cases e:v=tn
  ·subst e; rw [if_pos rfl,<-bu.out]; simp
  ·rw [if_neg e,decide_eq_false (by have:=bu.out; omega)]; simp
 go_upto_region 15 with fail
 obtain ⟨OB,aw⟩:=exx ((Obj.cells #[.int .i64 (fn:Int),.int .i64 lb,.int .i64 (tn:Int)] 90))
 have hq:∀ i v,(#[Value.int .i64 (fn:Int),.int .i64 lb,.int .i64 (tn:Int)]:Array Value)[i]?=some v->(wj.alloc OB).cell? ⟨wj.heap.size,i,none⟩=some v:=fun i v hv=>by subst aw; exact tbox (Below.refl _ _) hv
 have q0:=hq 0 _ rfl
 have q1:=hq 1 _ rfl
 have q2:=hq 2 _ rfl
 have r:=aly wj OB
 rw [<-aw] at a4 ⊢
 obtain ⟨w50,H⟩:=exx (wj.alloc OB)
 rw [<-H] at a4 q0 q1 q2 r ⊢
 have m:=zab b4.out r
 have l:=zab b3.out r
 have q:=a4
 have be:wj.heap.size<w50.heap.size:=by rw [H]; simp
 have C:Below w.heap.size w w50:=onS hW r
 have c2:b1<wj.heap.size:=O
 have bz:b2<wj.heap.size:=ac
 clear hq H aw a4 p0 p1 x0 b4 b3 u0 u1 z0 z1
 by_cases l1:lb<0
 ·have q3:decide (lb<0)=true:=by simpa using l1
  have hE:=hid (b5.out fun ho=>by have:=(N.out.1 ho).1; omega)
  go_quiet (fail)
  go_wp2
  go_ret
  exact ⟨zan hE.out.symm,zac C _⟩
 have q3:decide (lb<0)=false:=by simpa using l1
 by_cases l2:lb ≥ 256
 ·have q4:decide (lb ≥ 256)=true:=by simpa using l2
  have q5:decide (256<=lb)=true:=by simpa using l2
  have hE:=hid (b5.out fun ho=>by have:=(N.out.1 ho).2.1; omega)
  go_quiet (fail)
  go_wp2
  go_ret
  exact ⟨zan hE.out.symm,zac C _⟩
 have q4:decide (lb ≥ 256)=false:=by simpa using l2
 have q5:decide (256<=lb)=false:=by simpa using l2
 by_cases jz:j=0
 ·have hg:decide ((j:Int) > 0)=false:=by simp; omega
  have ch:decide (0<(j:Int))=false:=by simp; omega
  have d0:decide (0<j)=false:=by simp; omega
  have ah:=hid (N.out.2 ⟨by omega,by omega,fun h=>absurd h (by omega)⟩)
  clear jz e0 e1 e2
  go_quiet (fail)
  go_upto_region 17 with fail
  replace r:=zac (Below.refl w50.heap.size w50) nq;replace q0:=cellS r q0;replace q2:=cellS r q2;replace m:=zab m r;replace l:=zab l r;replace q:=onS q r
  obtain ⟨w60,s⟩:=exx (w50.drewN nq)
  rw [<-s] at q0 q2 m l q ⊢;clear s r C q1
  refine wp_region_held_drew (S:=fun w'=>w'.cell? ⟨wj.heap.size,0,none⟩=some (.int .i64 fn)/\w'.cell? ⟨wj.heap.size,2,none⟩=some (.int .i64 tn)) (by kernel_rfl) ⟨cellS (Below.refl _ _).drew q0,cellS (Below.refl _ _).drew q2⟩ (fun hHeld=>?_)
  obtain ⟨w61,hw,kb⟩:=dwx w60
  rw [<-hw] at hHeld ⊢;clear hw;replace m:=zab m kb;replace l:=zab l kb;replace q0:=cellS kb q0;replace q2:=cellS kb q2;replace q:=onS q kb;clear kb
  refine tkq 0 (h:=tkq 1 (h:=tkq 2 (h:=tkq 3 (h:=tkq 4 (h:=tkq 5 (h:=tkq 6 (h:=?_)))))))
  refine rdq 7 (h:=fun K hK=>?_)
  have I:=m.lt
  have u0:=m.cell (i:=fn) ap
  have z0:=m.frozen fn
  skip
  go_simp
  replace q0:=zaU (p:=⟨b1,fn,none⟩) (u:=.bool true) q0 (by show wj.heap.size≠b1; omega)
  replace q2:=zaU (p:=⟨b1,fn,none⟩) (u:=.bool true) q2 (by show wj.heap.size≠b1; omega)
  replace q:=q.setCell (p:=⟨b1,fn,none⟩) bc (.bool true)
  replace l:=l.setOther (a:=⟨b1,fn,none⟩) (by simpa using Q) (.bool true)
  replace m:=m.set fn (.bool true)
  obtain ⟨w62,hw⟩:=exx (World.setCell w61 ⟨b1,fn,none⟩ (.bool true))
  rw [<-hw] at q0 q2 q m l ⊢;clear hw u0 z0 I
  refine bkq hK ⟨q0,q2⟩ (h:=fun hHeld=>?_)
  clear hK K
  refine tkq 8 (h:=?_)
  refine rdq 9 (h:=fun K hK=>?_)
  have I:=l.lt
  have u0:=l.cell (i:=tn) ag
  have z0:=l.frozen tn
  skip
  go_simp
  replace q0:=zaU (p:=⟨b2,tn,none⟩) (u:=.bool true) q0 (by show wj.heap.size≠b2; omega)
  replace q2:=zaU (p:=⟨b2,tn,none⟩) (u:=.bool true) q2 (by show wj.heap.size≠b2; omega)
  replace q:=q.setCell (p:=⟨b2,tn,none⟩) bb (.bool true)
  replace m:=m.setOther (a:=⟨b2,tn,none⟩) (by simpa using ai) (.bool true)
  replace l:=l.set tn (.bool true)
  obtain ⟨w63,hw⟩:=exx (World.setCell w62 ⟨b2,tn,none⟩ (.bool true))
  rw [<-hw] at q0 q2 q m l ⊢;clear hw u0 z0 I
  refine bkq hK ⟨q0,q2⟩ (h:=fun hHeld=>?_)
  clear hK K
  refine wpAnyH_done (by kernel_rfl) ?_ _
  clear hHeld
  have F:=m.congr (g:=fun v=>.bool (hitB (T.fr k) (j+1) (v:Nat))) (bx.out)
  have D:=l.congr (g:=fun v=>.bool (hitB (T.to k) (j+1) (v:Nat))) (bw.out)
  have b0:=hid F
  have az:=hid D
  have ba:=hid q
  clear F D m l q
  go_wp2
  go_roundg (gk - 1)
  case measure=>omega
  case rel=>exact ⟨j+1,by go_num,by omega,by omega,Y.out ah.out,b0.out,az.out,ba.out⟩
 obtain ⟨jp,rfl⟩:∃ jp,j=jp+1:=⟨j - 1,by omega⟩
 obtain ⟨_,_,X,_,g0,g1,g2⟩:=zcO ((Rd.below bv.out a7.out (Nat.le_refl _)).mono a7.out.size) (j:=jp) (by omega)
 injection X with X; injection X with X hE3; subst X hE3
 have a1:Hid (T.after k (jp+1)↔T.fr k jp<T.fr k (jp+1)∨T.fr k jp=T.fr k (jp+1)/\T.lb k jp<T.lb k (jp+1)):=Iff.rfl
 rw [<-b8.out,<-cp.out] at a1
 have cu:jp<T.el k:=by omega
 have cc:(jp:Int)<(T.el k:Int):=by omega
 have cf:(0:Int)<=(jp:Int):=by omega
 obtain ⟨gf,bo⟩:=exx (T.fr k jp)
 obtain ⟨gl,bn⟩:=exx (T.lb k jp)
 obtain ⟨gt,bm⟩:=exx (T.to k jp)
 rw [<-bo] at g0 a1;rw [<-bn] at g1 a1;rw [<-bm] at g2;replace g0:=cellS r g0;replace g1:=cellS r g1;replace g2:=cellS r g2;clear bo bn bm jz e0 e1 e2 r C
 have hg:decide ((jp:Int)+1 > 0)=true:=decide_eq_true (by omega)
 have ch:decide (0<(jp:Int)+1)=true:=decide_eq_true (by omega)
 have O:IntKind.i64.wrap (jp:Int)=(jp:Int):=IntWalk.i64_in _ (by omega)
 have al:Hid (lessV gf gl fn lb<0↔gf<fn∨gf=fn/\gl<lb):=zcn
 refine wp_region_held_drew (S:=fun w'=>w'.cell? ⟨wj.heap.size,0,none⟩=some (.int .i64 fn)/\w'.cell? ⟨wj.heap.size,1,none⟩=some (.int .i64 lb)/\w'.cell? ⟨wj.heap.size,2,none⟩=some (.int .i64 tn)/\w'.cell? ⟨fb,fo+jp*3,none⟩=some (.int .i64 gf)/\w'.cell? ⟨fb,fo+jp*3+1,none⟩=some (.int .i64 gl)/\w'.cell? ⟨fb,fo+jp*3+2,none⟩=some (.int .i64 gt)) (by kernel_rfl) ⟨cellS (Below.refl _ _).drew q0,cellS (Below.refl _ _).drew q1,cellS (Below.refl _ _).drew q2,cellS (Below.refl _ _).drew g0,cellS (Below.refl _ _).drew g1,cellS (Below.refl _ _).drew g2⟩ (fun hHeld=>?_)
 obtain ⟨w51,hw,kb⟩:=dwx w50
 rw [<-hw] at hHeld ⊢;clear hw;replace m:=zab m kb;replace l:=zab l kb;replace q0:=cellS kb q0;replace q1:=cellS kb q1;replace q2:=cellS kb q2;replace g0:=cellS kb g0;replace g1:=cellS kb g1;replace g2:=cellS kb g2;replace q:=onS q kb;clear kb
 refine tkq 0 (h:=tkq 1 (h:=tkq 2 (h:=tkq 3 (h:=tkq 4 (h:=tkq 5 (h:=tkq 6 (h:=tkq 7 (h:=tkq 8 (h:=tkq 9 (h:=tkq 10 (h:=tkq 11 (h:=tkq 12 (h:=tkq 13 (h:=tkq 14 (h:=tkq 15 (h:=tkq 16 (h:=tkq 17 (h:=?_))))))))))))))))))
 refine rdq 18 (h:=fun K hK=>?_)
 go_simp
 go_wp2_with fail
 refine (zkc gf gl gt fn lb tn w51).mono ?_
 rintro e w52 ⟨rfl,kb⟩
 replace m:=zab m kb;replace l:=zab l kb;replace q0:=cellS kb q0;replace q1:=cellS kb q1;replace q2:=cellS kb q2;replace g0:=cellS kb g0;replace g1:=cellS kb g1;replace g2:=cellS kb g2;replace q:=onS q kb;clear kb
 refine bkq hK ⟨q0,q1,q2,g0,g1,g2⟩ (h:=fun hHeld=>?_)
 clear hK K
 refine tkq 19 (h:=tkq 20 (h:=tkq 21 (h:=?_)))
 refine wpAnyH_done (by kernel_rfl) ?_ _
 clear hHeld
 obtain ⟨lv,U⟩:=exx (lessV gf gl fn lb)
 rw [<-U] at al ⊢;clear U
 by_cases hl0:lv ≥ 0
 ·have q6:decide (lv ≥ 0)=true:=by simpa using hl0
  have q7:decide (0<=lv)=true:=by simpa using hl0
  have hE:=hid (b5.out fun ho=>by have:=al.out.2 (a1.out.1 ((N.out.1 ho).2.2 (by omega))); omega)
  have cl:=zaJ (zaB HB.out q)
  go_wp2
  go_ret
  exact ⟨zan hE.out.symm,cl⟩
 have q6:decide (lv ≥ 0)=false:=by simpa using hl0
 have q7:decide (0<=lv)=false:=by simpa using hl0
 have ah:=hid (N.out.2 ⟨by omega,by omega,fun h=>a1.out.2 (al.out.1 (by omega))⟩)
 clear g0 g1 g2 q1
 go_upto_region 17 with fail
 obtain ⟨w60,s⟩:=exx w52
 rw [<-s] at q0 q2 m l q ⊢;clear s
 refine wp_region_held_drew (S:=fun w'=>w'.cell? ⟨wj.heap.size,0,none⟩=some (.int .i64 fn)/\w'.cell? ⟨wj.heap.size,2,none⟩=some (.int .i64 tn)) (by kernel_rfl) ⟨cellS (Below.refl _ _).drew q0,cellS (Below.refl _ _).drew q2⟩ (fun hHeld=>?_)
 obtain ⟨w61,hw,kb⟩:=dwx w60
 rw [<-hw] at hHeld ⊢;clear hw;replace m:=zab m kb;replace l:=zab l kb;replace q0:=cellS kb q0;replace q2:=cellS kb q2;replace q:=onS q kb;clear kb
 refine tkq 0 (h:=tkq 1 (h:=tkq 2 (h:=tkq 3 (h:=tkq 4 (h:=tkq 5 (h:=tkq 6 (h:=?_)))))))
 refine rdq 7 (h:=fun K hK=>?_)
 have I:=m.lt
 have u0:=m.cell (i:=fn) ap
 have z0:=m.frozen fn
 skip
 go_simp
 replace q0:=zaU (p:=⟨b1,fn,none⟩) (u:=.bool true) q0 (by show wj.heap.size≠b1; omega)
 replace q2:=zaU (p:=⟨b1,fn,none⟩) (u:=.bool true) q2 (by show wj.heap.size≠b1; omega)
 replace q:=q.setCell (p:=⟨b1,fn,none⟩) bc (.bool true)
 replace l:=l.setOther (a:=⟨b1,fn,none⟩) (by simpa using Q) (.bool true)
 replace m:=m.set fn (.bool true)
 obtain ⟨w62,hw⟩:=exx (World.setCell w61 ⟨b1,fn,none⟩ (.bool true))
 rw [<-hw] at q0 q2 q m l ⊢;clear hw u0 z0 I
 refine bkq hK ⟨q0,q2⟩ (h:=fun hHeld=>?_)
 clear hK K
 refine tkq 8 (h:=?_)
 refine rdq 9 (h:=fun K hK=>?_)
 have I:=l.lt
 have u0:=l.cell (i:=tn) ag
 have z0:=l.frozen tn
 skip
 go_simp
 replace q0:=zaU (p:=⟨b2,tn,none⟩) (u:=.bool true) q0 (by show wj.heap.size≠b2; omega)
 replace q2:=zaU (p:=⟨b2,tn,none⟩) (u:=.bool true) q2 (by show wj.heap.size≠b2; omega)
 replace q:=q.setCell (p:=⟨b2,tn,none⟩) bb (.bool true)
 replace m:=m.setOther (a:=⟨b2,tn,none⟩) (by simpa using ai) (.bool true)
 replace l:=l.set tn (.bool true)
 obtain ⟨w63,hw⟩:=exx (World.setCell w62 ⟨b2,tn,none⟩ (.bool true))
 rw [<-hw] at q0 q2 q m l ⊢;clear hw u0 z0 I
 refine bkq hK ⟨q0,q2⟩ (h:=fun hHeld=>?_)
 clear hK K
 refine wpAnyH_done (by kernel_rfl) ?_ _
 clear hHeld
 have F:=m.congr (g:=fun v=>.bool (hitB (T.fr k) (jp+1+1) (v:Nat))) (bx.out)
 have D:=l.congr (g:=fun v=>.bool (hitB (T.to k) (jp+1+1) (v:Nat))) (bw.out)
 have b0:=hid F
 have az:=hid D
 have ba:=hid q
 clear F D m l q
 go_wp2
 go_roundg (gk - 1)
 case measure=>omega
 case rel=>exact ⟨jp+1+1,by go_num,by omega,by omega,Y.out ah.out,b0.out,az.out,ba.out⟩
theorem zkf {f:Nat->Int} {j:Nat} {v:Int} (h:hitB f j v=true):0<j:=by
 obtain ⟨i,hi,_⟩:=za2.1 h
 omega
theorem Trel.Proper.el1 {T:Trel} (h:T.Proper) {i:Nat} (hi:i<T.n):1<=T.el i:=by
 have h1:=(h.sec i hi).2.2 0 (by have:=h.shape.w1 (i+1) (by omega); omega)
 exact zkf h1
def PathsPost (T:Trel) (w:World) (e:Ending) (w':World):Prop :=
 (T.properE≠0/\e=.returned (.tuple #[.slice none 0 0,.int .i64 T.properE])/\Below w.heap.size w w') ∨
 (T.properE=0/\∃ A c,e=.returned (.tuple #[.slice A (dl (T.fwd (fun _ _=>1) T.n 0)) c,.int .i64 0])/\dl (T.fwd (fun _ _=>1) T.n 0)<=c/\c<=maxLen/\NatOk w' w'.heap.size A (T.fwd (fun _ _=>1) T.n 0)/\Below w.heap.size w w')
def OnesUpTo (T:Trel) (wx:World) (gv k:Nat) (A1:Option Addr) (c1:Nat):Prop :=
 ∃ R:Nat->Nat,wx.rowIs gv 64 T.n (fun i=>if i<k then .slice (some ⟨R i,0,none⟩) (T.el i) (T.el i) else .slice none 0 0)/\∀ i,i<k->R i≠gv/\wx.rowIs (R i) 69 (T.el i) (fun _=>.slice A1 (dl 1) c1)
theorem OnesUpTo.on {T:Trel} {w w':World} {gv k:Nat} {A1:Option Addr} {c1:Nat} (h:OnesUpTo T w gv k A1 c1) (hb:Below w.heap.size w w'):OnesUpTo T w' gv k A1 c1:=by
 obtain ⟨R,h1,h2⟩:=h
 exact ⟨R,zab h1 hb,fun i hi=>⟨(h2 i hi).1,zab (h2 i hi).2 hb⟩⟩
theorem OnesUpTo.noInt {T:Trel} {w:World} {gv k:Nat} {A1:Option Addr} {c1:Nat} (h:OnesUpTo T w gv k A1 c1):NoInt w gv:=by
 obtain ⟨R,h1,h2⟩:=h
 exact zfX h1 fun i _ u e=>by
  revert e
  show (if i<k then _ else _)=_->_
  split <;> (intro e; cases e)
theorem OnesUpTo.put {T:Trel} {w:World} {gv k r:Nat} {A1:Option Addr} {c1:Nat} (h:OnesUpTo T w gv k A1 c1) (hr:w.rowIs r 69 (T.el k) (fun _=>.slice A1 (dl 1) c1)) (hne:r≠gv) :
  OnesUpTo T (w.setCell ⟨gv,k,none⟩ (.slice (some ⟨r,0,none⟩) (T.el k) (T.el k))) gv (k+1) A1 c1:=by
 obtain ⟨R,h1,h2⟩:=h
 refine ⟨fun i=>if i=k then r else R i,(h1.set k _).congr fun i _=>?_,fun i hi=>?_⟩
 ·show (if i=k then _ else if i<k then _ else _)=if i<k+1 then Value.slice (some ⟨if i=k then r else R i,0,none⟩) (T.el i) (T.el i) else .slice none 0 0
  by_cases e:i=k
  ·subst e; rw [if_pos rfl,if_pos (by omega),if_pos rfl]
  rw [if_neg e,if_neg e]
  by_cases e2:i<k
  ·rw [if_pos e2,if_pos (by omega)]
  ·rw [if_neg e2,if_neg (by omega)]
 show (if i=k then r else R i)≠gv/\World.rowIs _ (if i=k then r else R i) _ _ _
 by_cases e:i=k
 ·subst e
  rw [if_pos rfl]
  exact ⟨hne,hr.setOther (by simpa using hne) _⟩
 ·rw [if_neg e]
  exact ⟨(h2 i (by omega)).1,(h2 i (by omega)).2.setOther (by simpa using (h2 i (by omega)).1) _⟩
theorem OnesUpTo.tab {T:Trel} {w:World} {gv:Nat} {A1:Option Addr} {c1:Nat} (h:OnesUpTo T w gv T.n A1 c1) (hn:NatOk w w.heap.size A1 1) (h1:dl 1<=c1) (h2:c1<=maxLen):VTab w (some ⟨gv,0,none⟩) T.n T.el (fun _ _=>1):=fun i hi=>by
 obtain ⟨R,k1,k2⟩:=h
 have hc:=k1.cell hi
 rw [if_pos hi] at hc
 refine ⟨gv,0,some ⟨R i,0,none⟩,T.el i,rfl,k1.lt,by rw [Nat.zero_add]; exact hc,fun j hj=>?_⟩
 exact ⟨R i,0,A1,c1,rfl,(k2 i hi).2.lt,by rw [Nat.zero_add]; exact (k2 i hi).2.cell hj,h1,h2,hn⟩
theorem zf0 (T:Trel) (A B:Option Addr) (c d:Nat) (w:World) (h:T.Reads w A B) :
  Calls Tryz.prog 71 #[.agg #[.slice A T.nw c,.slice B T.n d]] w (PathsPost T w):=by
 obtain ⟨RB,G⟩:=exx ((Obj.cells #[.slice A T.nw c,.slice B T.n d] 53))
 have J:Below (w.heap.size+1) (w.alloc RB) (w.alloc RB):=Below.refl _ _
 have HS:Hid (∀ w',Below (w.heap.size+1) (w.alloc RB) w'->(w'.cell? ⟨w.heap.size,0,none⟩=some (.slice A T.nw c)/\w'.cell? ⟨w.heap.size,1,none⟩=some (.slice B T.n d))/\Below w.heap.size w w'):=fun w' hB=>by
  have ae:=zaJ hB
  subst G
  exact ⟨⟨tbox hB rfl,tbox hB rfl⟩,ae⟩
 obtain ⟨⟨p0,p1⟩,hW⟩:=HS.out _ J
 go_enter Tryz.func71, Tryz.ntmps71
 go_wp2_with fail
 rw [<-G]
 refine (zdo T A B c d _ (h.on hW)).mono ?_
 rintro e w1 ⟨rfl,hb⟩
 have I:=zaB J hb
 clear hW p0 p1 hb J G
 obtain ⟨⟨p0,p1⟩,hW⟩:=HS.out _ I
 by_cases hp:T.properE=0
 rotate_left
 ·have a3:(T.properE != 0)=true:=by simpa using hp
  have HP:=hid hp
  obtain ⟨x,hx⟩:=exx T.properE
  have HX:=hid hx
  rw [<-hx] at a3 ⊢;clear hp hx
  go_wp2
  go_ret2
  exact .inl ⟨HP.out,by rw [<-HX.out]; rfl,hW⟩
 have HP:=hid (Trel.proper_of hp)
 have ag:=hid hp
 have HR:=hid h
 have af:Hid (T.shapeE=0):=by
  show _=_
  cases Decidable.em (T.shapeE=0) with
  | inl h=>exact h
  | inr h=>exact absurd (Trel.properE_shape h ▸ hp) h
 rw [hp];clear hp h
 go_wp2_with fail
 refine (zcW 1 _ (by omega)).mono ?_
 rintro e w2 ⟨A1,c1,rfl,g1,g2,g3,kb⟩
 have y:=zaB I kb
 clear hW p0 p1 I kb
 obtain ⟨⟨p0,p1⟩,hW⟩:=HS.out _ y
 have a5:=zaY y
 have a4:=HP.out.shape.n64
 have V:=fun W=>zag (P:=Tryz.prog) 148 64 _ 24 Tryz.underlying148 Tryz.infoNats rfl (T.n:Int) (by omega) (by omega) (by omega) W
 simp only [Int.toNat_natCast] at V
 obtain ⟨x,hx⟩:=exx (T.fwd (fun _ _=>1) T.n 0)
 have HX:=hid hx
 clear hx
 go_upto_region 6 with fail
 obtain ⟨gv,D⟩:=exx w2.heap.size
 have u:=World.rowIs_made w2 (.slice none 0 0) T.n 64
 have q:=aly w2 (Obj.cells (madeCells #[Value.slice none 0 0] T.n) 64)
 obtain ⟨w3,M⟩:=exx (w2.alloc (Obj.cells (madeCells #[Value.slice none 0 0] T.n) 64))
 rw [<-D] at u;rw [<-M] at u q ⊢;rw [<-D]
 have ak:w.heap.size<gv:=by omega
 have a:OnesUpTo T w3 gv 0 A1 c1:=⟨fun _=>0,u.congr fun i _=>(if_neg (by omega)).symm,fun i hi=>absurd hi (by omega)⟩
 have H:=zaB y q
 replace g3:=g3.on q;clear M u V p0 p1 hW y q a5 D
 obtain ⟨⟨p0,p1⟩,hW⟩:=HS.out _ H
 go_wp2
 go_loopg [24] T.n (fun gg iv wx=>∃ k:Nat,iv=.int .i64 (k:Nat)/\k<=T.n/\T.n<=k+gg/\OnesUpTo T wx gv k A1 c1/\NatOk wx wx.heap.size A1 1/\Below (w.heap.size+1) (w.alloc RB) wx)
 case atStart=>exact ⟨0,rfl,by omega,by omega,a,g3,H⟩
 clear p0 p1 hW a g3 H
 obtain ⟨k,rfl,hk,al,a,g3,hB⟩:=hrel
 obtain ⟨⟨p0,p1⟩,hW⟩:=HS.out _ hB
 have am:(0:Int)<=(k:Int):=by omega
 have ah:=zaY hB
 have an:gv<wr.heap.size:=by obtain ⟨R,h1,_⟩:=a; exact h1.lt
 by_cases hlt:k<T.n
 rotate_left
 ·have C:¬ (k:Int)<(T.n:Int):=by omega
  have m:k=T.n:=by omega
  rw [m] at a
  have N:=a.tab g3 g1 g2
  have aj:=zaY hB
  clear m a g3
  go_wp2_with fail
  refine (zft T A B (some ⟨gv,0,none⟩) c d T.n (fun _ _=>1) wr (HR.out.on hW) af.out N (fun _ _ _ _=>Nat.le_refl _)).mono ?_
  rintro e w6 ⟨g,F,rfl,hg,hT,kb⟩
  have ac:=zaB hB kb
  clear N p0 p1 hW kb hB
  obtain ⟨⟨p0,p1⟩,hW⟩:=HS.out _ ac
  have a1:=HP.out.shape.nw
  have Q:T.n<T.nw:=by omega
  have a2:(T.n:Int)<(T.nw:Int):=by omega
  have a0:=HP.out.wn
  obtain ⟨b0,o0,d0,A0,c0,X,ao,aa,q0,q1,q2,q3,_,_⟩:=hT.at (v:=T.n) Q (k:=0) (by show 0<(T.W T.n).toNat; omega)
  have r0:=hT.row.cell Q
  rw [X] at r0
  have Y:(T.W T.n).toNat=1:=by omega
  change w6.cell? ⟨g,T.n,none⟩=some (.slice (some ⟨b0,o0,none⟩) (T.W T.n).toNat d0) at r0
  rw [Y] at r0;rw [Nat.add_zero,<-HX.out] at q0;rw [<-HX.out] at q1 q3
  have ab:=HX.out
  have K:Hid (∀ e,e=.returned (.tuple #[.slice A0 (dl x) c0,.int .i64 0])->PathsPost T w e w6):=fun e he=>.inr ⟨ag.out,A0,c0,by rw [<-HX.out]; exact he,by rw [<-HX.out]; exact q1,q2,by rw [<-HX.out]; exact q3,hW⟩
  clear a1 ab a0 Y hT X q3
  go_wp2
  go_ret2
  exact K.out _ rfl
 have C:(k:Int)<(T.n:Int):=by omega
 obtain ⟨eb,eo,E,ec,rfl,a9,x0,_,_,_,_⟩:=(HR.out.on hW).sec hlt
 have a8:=HP.out.shape.elb hlt
 have o:=HP.out.el1 hlt
 obtain ⟨el,b⟩:=exx (T.el k)
 rw [<-b] at x0 a8 o
 have Z:=hid b
 clear b
 go_wp2_with fail
 have kb:=aly wr (Obj.cells #[Value.slice A1 (dl 1) c1] 69)
 have hc:(wr.alloc (Obj.cells #[Value.slice A1 (dl 1) c1] 69)).cell? ⟨wr.heap.size,0,none⟩=some (.slice A1 (dl 1) c1):=by simp
 replace a:=a.on kb;replace g3:=g3.on kb;replace hB:=zaB hB kb
 obtain ⟨w4,L⟩:=exx (wr.alloc (Obj.cells #[Value.slice A1 (dl 1) c1] 69))
 obtain ⟨nb,U⟩:=exx wr.heap.size
 rw [<-L] at a g3 hB hc kb ⊢;rw [<-U] at hc ⊢;clear p0 p1 hW U L x0 a9
 refine (zhK nb (.slice A1 (dl 1) c1) el 1 w4 hc rfl o (by omega)).mono ?_
 rintro e w5 ⟨r,rfl,ai,O,s⟩
 have a6:gv<w4.heap.size:=by obtain ⟨R,h1,_⟩:=a; exact h1.lt
 replace a:=a.on s;replace g3:=g3.on s;replace hB:=zaB hB s
 have S:=a.noInt
 have z:r≠gv:=by omega
 have j:w5.rowIs r 69 (T.el k) (fun _=>.slice A1 (dl 1) c1):=by rw [<-Z.out]; exact O
 have l:=hid (a.put j z)
 rw [<-Z.out] at l
 have a7:=hid (zaT (i:=k) g3 S (.slice (some ⟨r,0,none⟩) el el))
 have ad:=hid (hB.setCell (p:=⟨gv,k,none⟩) (by show w.heap.size+1<=gv; omega) (.slice (some ⟨r,0,none⟩) el el))
 have q0:∃ v,w5.cell? ⟨gv,k,none⟩=some v:=by obtain ⟨R,h1,_⟩:=a; exact ⟨_,h1.cell hlt⟩
 have z0:w5.frozen? ⟨gv,k,none⟩=false:=by obtain ⟨R,h1,_⟩:=a; exact h1.frozen k
 obtain ⟨v0,q0⟩:=q0
 clear hc kb s a g3 hB S O j
 go_wp2
 go_roundg (gk - 1)
 case measure=>omega
 case rel=>exact ⟨k+1,by go_num,by omega,by omega,l.out,a7.out,ad.out⟩
def Trel.outs (T:Trel) (i:Nat) (v:Int) (m:Nat):List Nat:=(List.range m).filter fun j=>T.fr i j == v
def Trel.dn (T:Trel):Nat->Int->List (List Int)
 | 0,_=>[[]]
 | r+1,v=>(T.outs (T.n - (r+1)) v (T.el (T.n - (r+1)))).flatMap fun j=>(T.dn r (T.to (T.n - (r+1)) j)).map fun q=>T.lb (T.n - (r+1)) j :: q
def Trel.ext (T:Trel) (i m:Nat) (x:List Int × Int):List (List Int × Int):=(T.outs i x.2 m).map fun j=>(x.1 ++ [T.lb i j],T.to i j)
def Trel.lev (T:Trel):Nat->List (List Int × Int)
 | 0=>[([],0)]
 | i+1=>(T.lev i).flatMap (T.ext i (T.el i))
theorem Trel.outs_succ (T:Trel) (i:Nat) (v:Int) (m:Nat):T.outs i v (m+1)=T.outs i v m ++ if T.fr i m=v then [m] else []:=by
 unfold Trel.outs
 rw [List.range_succ,List.filter_append]
 by_cases h:T.fr i m=v
 ·simp [h]
 ·simp [h]
theorem Trel.outs_mem {T:Trel} {i m j:Nat} {v:Int}:j ∈ T.outs i v m↔j<m/\T.fr i j=v:=by
 simp [Trel.outs]
theorem Trel.ext_succ (T:Trel) (i m:Nat) (x:List Int × Int):T.ext i (m+1) x=T.ext i m x ++ if T.fr i m=x.2 then [(x.1 ++ [T.lb i m],T.to i m)] else []:=by
 unfold Trel.ext
 rw [Trel.outs_succ,List.map_append]
 congr 1
 split <;> simp
theorem Trel.lev_dn (T:Trel):∀ i,i<=T.n->(T.lev i).flatMap (fun x=>(T.dn (T.n - i) x.2).map fun q=>x.1 ++ q)=T.dn T.n 0:=by
 intro i
 induction i with
 | zero=>intro _; simp [Trel.lev]
 | succ i ih =>
  intro hi
  rw [<-ih (by omega)]
  show ((T.lev i).flatMap (T.ext i (T.el i))).flatMap _=_
  rw [List.flatMap_assoc]
  congr 1
  funext x
  have e:T.n - i=(T.n - (i+1))+1:=by omega
  rw [e]
  show _=(List.flatMap _ (T.outs _ _ _)).map _
  have e2:T.n - (T.n - (i+1)+1)=i:=by omega
  rw [e2,List.map_flatMap]
  unfold Trel.ext
  rw [List.flatMap_map]
  congr 1
  funext j
  simp [List.map_map,Function.comp_def]
theorem Trel.lev_words (T:Trel):(T.lev T.n).map (·.1)=T.dn T.n 0:=by
 rw [<-Trel.lev_dn T T.n (Nat.le_refl _)]
 have:∀ l:List (List Int × Int),l.map (·.1)=l.flatMap (fun x=>(T.dn (T.n - T.n) x.2).map fun q=>x.1 ++ q):=by
  intro l
  induction l with
  | nil=>rfl
  | cons a l ih=>rw [List.map_cons,List.flatMap_cons,ih,Nat.sub_self]; simp [Trel.dn]
 exact this _
theorem Trel.lev_in {T:Trel} (h:T.Proper):∀ i,i<=T.n->∀ x,x ∈ T.lev i->x.1.length=i/\0<=x.2/\x.2<T.W i:=by
 intro i
 induction i with
 | zero =>
  intro _ x hx
  simp [Trel.lev] at hx
  subst hx
  exact ⟨rfl,Int.le_refl _,by have:=h.w0; show (0:Int)<_; omega⟩
 | succ i ih =>
  intro hi x hx
  simp only [Trel.lev,List.mem_flatMap] at hx
  obtain ⟨y,hy,hx⟩:=hx
  unfold Trel.ext at hx
  rw [List.mem_map] at hx
  obtain ⟨j,hj,rfl⟩:=hx
  have h1:=ih (by omega) y hy
  have h2:=h.shape.ins i (by omega) j (Trel.outs_mem.1 hj).1
  unfold Trel.inside at h2
  refine ⟨by simp [h1.1],?_,?_⟩ <;> simp only <;> omega
def endsAt (l:List (List Int × Int)) (v:Nat):Nat:=l.countP fun x=>x.2.toNat == v
theorem zcG (T:Trel) (i u:Nat) (prev:Nat->Nat) (l:List (List Int × Int)) (hl:∀ x,x ∈ l->0<=x.2) (hp:∀ v,prev v=endsAt l v):∀ m,(∀ j,j<m->0<=T.fr i j)->endsAt (l.flatMap (T.ext i m)) u=T.fwdE (fun _ _=>1) prev i m u:=by
 intro m
 induction m with
 | zero =>
  intro _
  have:l.flatMap (T.ext i 0)=[]:=by
   rw [List.flatMap_eq_nil_iff]
   intro x _
   simp [Trel.ext,Trel.outs]
  rw [this]
  rfl
 | succ m ih =>
  intro hm
  show _=T.fwdE (fun _ _=>1) prev i m u+if (T.to i m).toNat=u then prev (T.fr i m).toNat*1 else 0
  rw [<-ih fun j hj=>hm j (by omega),hp]
  have h0:=hm m (by omega)
  clear hp ih hm
  unfold endsAt
  induction l with
  | nil=>simp
  | cons a l ih =>
   have ih:=ih fun x hx=>hl x (by simp [hx])
   have ha:=hl a (by simp)
   simp only [List.flatMap_cons,List.countP_append,ih,Trel.ext_succ,List.countP_cons]
   by_cases e:T.fr i m=a.2
   ·by_cases e2:(T.to i m).toNat=u
    ·simp [e,e2]; omega
    ·simp [e,e2]
   ·have e3:¬ a.2.toNat=(T.fr i m).toNat:=by omega
    by_cases e2:(T.to i m).toNat=u
    ·simp [e,e2,e3]; omega
    ·simp [e,e2]
theorem Trel.ends_fwd {T:Trel} (h:T.Proper):∀ i,i<=T.n->∀ v,T.fwd (fun _ _=>1) i v=endsAt (T.lev i) v:=by
 intro i
 induction i with
 | zero =>
  intro _ v
  show (if v=0 then 1 else 0)=_
  unfold endsAt Trel.lev
  by_cases e:v=0
  ·subst e; rfl
  ·have:¬ 0=v:=fun h=>e h.symm
   simp [e,this]
 | succ i ih =>
  intro hi v
  show T.fwdE _ _ i (T.el i) v=_
  exact (zcG T i v _ _ (fun x hx=>(Trel.lev_in h i (by omega) x hx).2.1) (ih (by omega)) _ fun j hj=>by
   have:=h.shape.ins i (by omega) j hj
   unfold Trel.inside at this
   omega).symm
theorem Trel.words_len {T:Trel} (h:T.Proper):(T.dn T.n 0).length=T.fwd (fun _ _=>1) T.n 0:=by
 rw [Trel.ends_fwd h T.n (Nat.le_refl _),<-Trel.lev_words,List.length_map]
 unfold endsAt
 refine (List.countP_eq_length.2 fun x hx=>?_).symm
 have h1:=Trel.lev_in h T.n (Nat.le_refl _) x hx
 have:=h.wn
 rw [beq_iff_eq]
 omega
end Go.Proofs.YtgekjfpapmlndaaGreat