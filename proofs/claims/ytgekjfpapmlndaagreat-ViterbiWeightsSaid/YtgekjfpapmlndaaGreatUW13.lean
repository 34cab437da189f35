/- Merged texts of a claim: IValued, IBack, IVals, BwdMath, VitPl, Along, Same11, AliveAll, Decode, Small49, Args49, MemLaw. -/
import Derived.Test.YtgekjfpapmlndaaGreatUW12
namespace Go.Proofs.YtgekjfpapmlndaaGreat
set_option maxRecDepth 100000
set_option maxHeartbeats 32000000
open KA KB KC KD KE KF
open Go.RowKit
theorem zfP (T:Trel) (A B V:Option Addr) (c d vc:Nat) (y:Nat->Nat->Int) (w:World) (h:T.Reads w A B) (hs:T.shapeE=0) (hv:IntRows w V T.n T.el y) :
  Calls Tryz.prog 181 #[.agg #[.slice A T.nw c,.slice B T.n d],.slice V T.n vc] w fun e w'=>e=.returned (.int .i64 0)/\Below w.heap.size w w':=by
 obtain ⟨RB,i⟩:=exx ((Obj.cells #[.slice A T.nw c,.slice B T.n d] 53))
 have j:Below (w.heap.size+1) (w.alloc RB) (w.alloc RB):=Below.refl _ _
 have HS:Hid (∀ w',Below (w.heap.size+1) (w.alloc RB) w'->(w'.cell? ⟨w.heap.size,0,none⟩=some (.slice A T.nw c)/\w'.cell? ⟨w.heap.size,1,none⟩=some (.slice B T.n d))/\Below w.heap.size w w'):=fun w' hB=>by
  have p:=zax hB
  subst i
  exact ⟨⟨tbox hB rfl,tbox hB rfl⟩,p⟩
 obtain ⟨⟨p0,p1⟩,hW⟩:=HS.out _ j
 go_enter Tryz.func181, Tryz.ntmps181
 go_wp2_with fail
 rw [<-i]
 refine (zcG T A B c d _ (h.on hW)).mono ?_
 rintro e w1 ⟨rfl,hb⟩
 have m:=zap j hb
 rw [hs]
 have HR:=hid h
 have HV:=hid hv
 have l:=(Trel.shape_of hs).n64
 clear hW p0 p1 hb j i h hv hs
 obtain ⟨⟨p0,p1⟩,hW⟩:=HS.out _ m
 go_wp2
 go_loopg [22] T.n (fun gg iv wx=>∃ k:Nat,iv=.int .i64 (k:Nat)/\k<=T.n/\T.n<=k+gg/\Below w1.heap.size w1 wx)
 case atStart=>exact ⟨0,rfl,by omega,by omega,Below.refl _ _⟩
 obtain ⟨k,rfl,hk,r,hb⟩:=hrel
 have s:(0:Int)<=(k:Int):=by omega
 replace p0:=cellS hb p0;replace p1:=cellS hb p1
 have g:=onS hW hb
 clear hW
 by_cases hlt:k<T.n
 ·have a:(k:Int)<(T.n:Int):=by omega
  obtain ⟨b,o,E,ec,rfl,_,x0,_,_,_,_⟩:=(HR.out.on g).sec hlt
  obtain ⟨vb,vo,R,rc,rfl,_,x1,_,_,_,_⟩:=(HV.out.on g) k hlt
  have q:((T.el k:Int) != (T.el k:Int))=false:=by simp
  go_wp2
  go_roundg (gk - 1)
  case measure=>omega
  case rel=>exact ⟨k+1,by go_num,by omega,by omega,hb⟩
 have a:¬ (k:Int)<(T.n:Int):=by omega
 go_wp2
 go_ret
 exact ⟨rfl,g⟩
def BwdPost (T:Trel) (x:Nat->Nat->Int) (w:World) (e:Ending) (w':World):Prop :=
 ∃ g F,e=.returned (.tuple #[.slice (some ⟨g,0,none⟩) T.nw T.nw,.int .i64 0])/\w.heap.size<=g/\IntTab w' g (g+1) T.nw F (fun v=>(T.W v).toNat) x/\Below w.heap.size w w'
theorem zh2 (T:Trel) (A B V:Option Addr) (c d vc:Nat) (y:Nat->Nat->Int) (w:World) (h:T.Reads w A B) (hs:T.shapeE=0) (hv:IntRows w V T.n T.el y) (hy:Costs T y) :
  Calls Tryz.prog 123 #[.agg #[],.agg #[.slice A T.nw c,.slice B T.n d],.slice V T.n vc] w (BwdPost T (fun u v=>T.bw y (T.n - u) v) w):=by
 obtain ⟨O1,ay⟩:=exx ((Obj.cells #[] 158))
 obtain ⟨O2,a8⟩:=exx ((Obj.cells #[.slice A T.nw c,.slice B T.n d] 53))
 have ac:Below (w.heap.size+2) ((w.alloc O1).alloc O2) ((w.alloc O1).alloc O2):=Below.refl _ _
 have HS:Hid (∀ w',Below (w.heap.size+2) ((w.alloc O1).alloc O2) w'->(w'.cell? ⟨w.heap.size+1,0,none⟩=some (.slice A T.nw c)/\w'.cell? ⟨w.heap.size+1,1,none⟩=some (.slice B T.n d))/\Below w.heap.size w w'):=fun w' hB=>by
  have c1:=zbx hB
  subst a8
  have hr:=zbT hB
  exact ⟨⟨hr.cell (i:=0) (by simp),hr.cell (i:=1) (by simp)⟩,c1⟩
 obtain ⟨⟨p0,p1⟩,hW⟩:=HS.out _ ac
 have C:=hid (Trel.shape_of hs)
 have c4:=hid hs
 have HR:=hid h
 have HV:=hid hv
 have HY:=hid hy
 clear h hs hv hy
 go_enter Tryz.func123, Tryz.ntmps123
 go_wp2_with fail
 rw [<-ay,<-a8]
 refine (zfP T A B V c d vc y _ (HR.out.on hW) c4.out (HV.out.on hW)).mono ?_
 rintro e w1 ⟨rfl,kb⟩
 have X:=zfH ac kb
 clear p0 p1 hW kb ac ay a8
 obtain ⟨⟨p0,p1⟩,hW⟩:=HS.out _ X
 go_wp2_with fail
 refine (zh1 T A B c d _ (HR.out.on hW) C.out).mono ?_
 rintro e w2 ⟨g,F,rfl,hg,hT,kb⟩
 have s:=zfH X kb
 have bj:=zhQ X
 have ch:w.heap.size+2<=g:=by omega
 have bi:w.heap.size+2<w2.heap.size:=by have:=hT.row.lt; omega
 obtain ⟨W2,a6⟩:∃ W,W=(w.alloc O1).alloc O2:=⟨_,rfl⟩
 have Y:Hid (∀ w',Below (w.heap.size+2) W2 w'->(w'.cell? ⟨w.heap.size+1,0,none⟩=some (.slice A T.nw c)/\w'.cell? ⟨w.heap.size+1,1,none⟩=some (.slice B T.n d))/\Below w.heap.size w w'):=by rw [a6]; exact HS
 rw [<-a6] at s;clear p0 p1 hW kb X bj hg a6 HS
 obtain ⟨⟨p0,p1⟩,hW⟩:=Y.out _ s
 have bf:=C.out.n64
 have ae:=hid C.out.nw
 have q:T.n<T.nw:=by have:=ae.out; omega
 have aj:(T.n:Int)<(T.nw:Int):=by omega
 have bg:(0:Int)<=(T.n:Int):=by omega
 have b6:=C.out.w1 T.n (Nat.le_refl _)
 have m:0<(T.W T.n).toNat:=by omega
 obtain ⟨b0,o0,d0,aa,co,a5,q0,z0⟩:=hT.at (v:=T.n) q (k:=0) m
 obtain ⟨n0,a2⟩:=exx ((T.W T.n).toNat)
 have af:=hid a2
 have r0:=hT.row.cell q
 rw [aa] at r0
 change w2.cell? ⟨g,T.n,none⟩=some (.slice (some ⟨b0,o0,none⟩) (T.W T.n).toNat d0) at r0
 rw [<-a2] at m r0
 have H:(0:Int)<(n0:Int):=by omega
 clear a2
 go_upto_region 5 with fail
 have hl:=bi
 refine wp_region_held_drew (S:=fun w'=>w'.cell? ⟨g,T.n,none⟩=some (.slice (some ⟨b0,o0,none⟩) n0 d0)/\w'.cell? ⟨w.heap.size+1,1,none⟩=some (.slice B T.n d)) (by kernel_rfl) ⟨cellS (Below.refl _ _).drew r0,cellS (Below.refl _ _).drew p1⟩ (fun hHeld=>?_)
 obtain ⟨w3,hw,kb⟩:=dwx w2
 rw [<-hw] at hHeld ⊢;clear hw;replace s:=zag s (Nat.le_of_lt hl) kb;replace hl:=Nat.lt_of_lt_of_le hl kb.size;replace hT:=hT.on kb;replace r0:=cellS kb r0;replace q0:=cellS kb q0;replace p1:=cellS kb p1;clear kb
 refine tkq 0 (h:=tkq 1 (h:=tkq 2 (h:=tkq 3 (h:=tkq 4 (h:=tkq 5 (h:=tkq 6 (h:=tkq 7 (h:=?_))))))))
 refine rdq 8 (h:=fun K hK=>?_)
 go_simp
 go_wp2_with fail
 refine (zhN w3).mono ?_
 rintro e w4 ⟨rfl,kb⟩
 replace s:=zag s (Nat.le_of_lt hl) kb;replace hl:=Nat.lt_of_lt_of_le hl kb.size;replace hT:=hT.on kb;replace r0:=cellS kb r0;replace q0:=cellS kb q0;replace p1:=cellS kb p1;clear kb
 refine bkq hK ⟨r0,p1⟩ (h:=fun hHeld=>?_)
 clear hK K
 refine tkq 9 (h:=?_)
 refine rdq 10 (h:=fun K hK=>?_)
 have zf:w4.frozen? ⟨b0,o0,none⟩=false:=by
  obtain ⟨b9,o9,d9,O,_,_,_,z9⟩:=hT.at (v:=T.n) q (k:=0) (by rw [<-af.out]; exact m)
  rw [aa] at O
  injection O with e1 _ _
  injection e1 with e1
  injection e1 with e1 e2
  subst e1 e2
  exact z9
 rw [Nat.add_zero] at q0
 go_simp
 replace r0:=zaa (p:=⟨b0,o0,none⟩) (u:=.int .i64 0) r0 (by show g≠b0; omega)
 replace p1:=zaa (p:=⟨b0,o0,none⟩) (u:=.int .i64 0) p1 (by show w.heap.size+1≠b0; omega)
 have x:=hT.set (y:=0) (by omega) q (k:=0) (by rw [<-af.out]; exact m) aa
 rw [Nat.add_zero] at x
 have z:=s.setCell (p:=⟨b0,o0,none⟩) (by show w.heap.size+2<=b0; omega) (.int .i64 0)
 have J:w.heap.size+2<(World.setCell w4 ⟨b0,o0,none⟩ (.int .i64 0)).heap.size:=by simp; exact hl
 refine bkq hK ⟨r0,p1⟩ (h:=fun hHeld=>?_)
 clear hK K
 refine wpAnyH_done (by kernel_rfl) ?_ _
 clear hHeld
 obtain ⟨w9,ag⟩:=exx (World.setCell w4 ⟨b0,o0,none⟩ (.int .i64 0))
 rw [<-ag] at x z J ⊢;clear ag hT s hl r0 q0
 have ax:IntTab w9 g (g+1) T.nw F (fun v=>(T.W v).toNat) (fun u v=>if T.n<=u then T.bw y (T.n - u) v else 4611686018427387904):=x.congr (fun v _=>rfl) (fun u hu v hv=>by
  show updI _ T.n 0 0 u v=if T.n<=u then T.bw y (T.n - u) v else 4611686018427387904
  unfold updI
  by_cases e:u=T.n
  ·subst e
   rw [if_pos (Nat.le_refl _),Nat.sub_self]
   show _=if v=0 then 0 else 4611686018427387904
   by_cases e2:v=0
   ·rw [if_pos ⟨rfl,e2⟩,if_pos e2]
   ·rw [if_neg (fun h=>e2 h.2),if_neg e2]
  ·have:=ae.out
   rw [if_neg (fun h=>e h.1),if_neg (by omega)])
 clear x m H z0 a5 af b6 p0 p1 hW
 obtain ⟨⟨p0,p1⟩,hW⟩:=Y.out _ z
 go_wp2
 go_loopg [10] T.n (fun gg iv wx=>∃ i:Nat,iv=.int .i64 ((i:Int) - 1)/\i<=T.n/\i<=gg/\IntTab wx g (g+1) T.nw F (fun v=>(T.W v).toNat) (fun u v=>if i<=u then T.bw y (T.n - u) v else 4611686018427387904)/\Below (w.heap.size+2) W2 wx/\w.heap.size+2<wx.heap.size)
 case atStart=>exact ⟨T.n,by go_num,by omega,by omega,ax,z,J⟩
 clear hW p0 p1 ax z J
 obtain ⟨gK,bn⟩:=exx gk
 subst bn
 obtain ⟨i,rfl,hk,cd,hT,hB,hl⟩:=hrel
 obtain ⟨wk,b5⟩:=exx wr
 subst b5
 obtain ⟨⟨p0,p1⟩,hW⟩:=Y.out _ hB
 by_cases hlt0:0<i
 rotate_left
 ·obtain rfl:i=0:=by omega
  have eiv:(((0:Nat):Int) - 1) = -1:=by omega
  rw [eiv]
  have c0:=hid (hT.congr (x':=fun u v=>T.bw y (T.n - u) v) (fun v _=>rfl) (fun u hu v _=>if_pos (Nat.zero_le _)))
  clear hT eiv
  go_wp2
  go_ret2
  exact ⟨g,F,rfl,by omega,c0.out,hW⟩
 obtain ⟨k,rfl⟩:∃ k,i=k+1:=⟨i - 1,by omega⟩
 have eiv:(((k+1:Nat):Int) - 1)=(k:Int):=by omega
 rw [eiv]
 have r:k<T.n:=by omega
 have ce:(0:Int)<=(k:Int):=by omega
 have bh:(k:Int)<(T.n:Int):=by omega
 have a3:k+1<T.nw:=by have:=ae.out; omega
 have L:k<T.nw:=by omega
 have bl:(k:Int)+1<(T.nw:Int):=by omega
 have bk:(k:Int)<(T.nw:Int):=by omega
 have bm:(0:Int)<=(k:Int)+1:=by omega
 have b4:IntKind.i64.wrap ((k:Int)+1)=(k:Int)+1:=IntWalk.i64_in _ (by omega)
 obtain ⟨eb,eo,E,ec,rfl,cl,x0w,cm,bt,ar,bs⟩:=HR.out.sec r
 obtain ⟨vb,vo,R,rc,rfl,c9,y0w,ba,b8,ah,b7⟩:=HV.out k r
 have ck:=C.out.elb r
 have c5:=hid ar
 have az:=hid ah
 have c3:=hid x0w
 have c2:=hid y0w
 have x0:=cellS hW x0w
 have Q:IntTab wk g (g+1) T.nw F (fun v=>(T.W v).toNat) (T.bwX y k 0):=hT.congr (fun v _=>rfl) (fun u _ v _=>(Trel.bwX_first u v).symm)
 clear ar bs bt ah x0w y0w eiv hT ba b8 b7
 go_wp2
 go_loopg [46] (T.el k) (fun gg jv wx=>∃ j:Nat,jv=.int .i64 (j:Nat)/\j<=T.el k/\T.el k<=j+gg/\IntTab wx g (g+1) T.nw F (fun v=>(T.W v).toNat) (T.bwX y k j)/\Below (w.heap.size+2) W2 wx/\w.heap.size+2<wx.heap.size)
 case atStart=>exact ⟨0,rfl,by omega,by omega,Q,hB,hl⟩
 clear p0 p1 Q hB hl x0 hW
 obtain ⟨j,rfl,hj,cf,hT,hB,hl⟩:=hrel
 have cg:(0:Int)<=(j:Int):=by omega
 by_cases hltj:j<T.el k
 rotate_left
 ·have I:¬ (j:Int)<(T.el k:Int):=by omega
  have an:j=T.el k:=by omega
  rw [an] at hT
  have Q:=hid (hT.congr (x':=fun u v=>if k<=u then T.bw y (T.n - u) v else 4611686018427387904) (fun v _=>rfl) (fun u _ v _=>Trel.bwX_next r u v))
  have HB:=hid hB
  clear hT hB an
  go_wp2
  go_roundg (gK - 1)
  case measure=>omega
  case rel=>exact ⟨k,by go_num,by omega,by omega,Q.out,HB.out,hl⟩
 have I:(j:Int)<(T.el k:Int):=by omega
 have hW:=(Y.out _ hB).2
 obtain ⟨fb,fo,rfl,ci,e0,e1,e2⟩:=zbt ((Rd.below c5.out hW (Nat.le_refl _)).mono hW.size) hltj
 obtain ⟨i1,i2,i3,i4⟩:=C.out.ins k r j hltj
 obtain ⟨fn,ap⟩:∃ n:Nat,(n:Int)=T.fr k j:=⟨(T.fr k j).toNat,by omega⟩
 obtain ⟨tn,ai⟩:∃ n:Nat,(n:Int)=T.to k j:=⟨(T.to k j).toNat,by omega⟩
 obtain ⟨lb,am⟩:=exx (T.lb k j)
 obtain ⟨n1,a1⟩:=exx ((T.W k).toNat)
 obtain ⟨n2,al⟩:=exx ((T.W (k+1)).toNat)
 have br:fn<n1:=by omega
 have ca:tn<n2:=by omega
 have bp:(fn:Int)<(n1:Int):=by omega
 have bc:(tn:Int)<(n2:Int):=by omega
 have cj:(0:Int)<=(fn:Int):=by omega
 have cb:(0:Int)<=(tn:Int):=by omega
 obtain ⟨ab,ao,ad,U,cp,bz,aq,zq⟩:=hT.at (v:=k) L (k:=fn) (by omega)
 obtain ⟨bb,bo,bd,a9,cn,bu,bq,_⟩:=hT.at (v:=k+1) a3 (k:=tn) (by omega)
 obtain ⟨rb,ro,rfl,cc,vq⟩:=(az.out.on hW).at hltj
 have b:=hT.row.cell L
 have a:=hT.row.cell a3
 have y0:=cellS hW c2.out
 have l:=hT.apart k (k+1) L a3 (by omega)
 rw [U] at b;rw [a9] at a
 have be:bb≠ab:=fun e=>by
  rw [U,a9,e] at l
  simp [Value.ownBlock] at l
 have d1:=Trel.bwX_cost HY.out r hj k fn
 have d2:=Trel.bwX_cost HY.out r hj (k+1) tn
 have d3:=HY.out.cost r hltj
 have o:Hid (∀ u v,updI (T.bwX y k j) k fn (min (T.bwX y k j k fn) (capI (y k j) (T.bwX y k j (k+1) tn))) u v=T.bwX y k (j+1) u v):=fun u v=>Trel.bwX_put (T:=T) (y:=y) k j u v (by omega) (by omega)
 obtain ⟨av,aw⟩:=exx (T.bwX y k j k fn)
 obtain ⟨bv,au⟩:=exx (T.bwX y k j (k+1) tn)
 obtain ⟨yv,D⟩:=exx (y k j)
 rw [<-aw] at aq d1 o;rw [<-au] at bq d2 o;rw [<-D] at vq d3 o
 have c7:=hid d1
 have b3:=hid d2
 have b2:=hid d3
 have c6:=hid (ze8 d3 d2)
 change wr.cell? ⟨g,k,none⟩=some (.slice (some ⟨ab,ao,none⟩) (T.W k).toNat ad) at b
 change wr.cell? ⟨g,k+1,none⟩=some (.slice (some ⟨bb,bo,none⟩) (T.W (k+1)).toNat bd) at a
 have x0:=cellS hW c3.out
 rw [<-a1] at b;rw [<-al] at a;rw [<-ap] at e0;rw [<-am] at e1;rw [<-ai] at e2
 have M:g≠ab:=by omega
 have a4:wr.heap.size≠ab:=by omega
 have Z:vb≠ab:=by omega
 have cq:=hW.size
 have P:Hid (F k=.slice (some ⟨ab,ao,none⟩) (T.W k).toNat ad):=U
 have b1:Hid (fn<(T.W k).toNat):=by rw [<-a1]; exact br
 have a0:rb≠ab:=by
  obtain ⟨_,_,e8,h8,_⟩:=az.out.at hltj
  injection e8 with e8
  injection e8 with e8
  omega
 clear l U a9 aw au D ap ai am i1 i2 i3 i4 a1 al hW d1 d2 d3
 go_upto_region 12 with fail
 obtain ⟨OB,a7⟩:=exx ((Obj.cells #[.int .i64 (fn:Int),.int .i64 lb,.int .i64 (tn:Int)] 90))
 have hq:∀ i v,(#[Value.int .i64 (fn:Int),.int .i64 lb,.int .i64 (tn:Int)]:Array Value)[i]?=some v->(wr.alloc OB).cell? ⟨wr.heap.size,i,none⟩=some v:=fun i v hv=>by subst a7; exact tbox (Below.refl _ _) hv
 have s0:=hq 0 _ rfl
 have s2:=hq 2 _ rfl
 have kb:=aly wr OB
 rw [<-a7]
 obtain ⟨w50,G⟩:=exx (wr.alloc OB)
 rw [<-G] at s0 s2 kb ⊢;replace hT:=hT.on kb;replace hB:=zag hB (Nat.le_of_lt hl) kb;replace hl:=Nat.lt_of_lt_of_le hl kb.size;replace aq:=cellS kb aq;replace bq:=cellS kb bq;replace vq:=cellS kb vq;replace y0:=cellS kb y0;replace b:=cellS kb b;replace a:=cellS kb a
 obtain ⟨bx,N⟩:=exx wr.heap.size
 rw [<-N] at s0 s2 a4 ⊢;clear hq G a7 kb x0 e0 e1 e2 N zq
 refine wp_region_held_drew (S:=fun w'=>w'.cell? ⟨g,k,none⟩=some (.slice (some ⟨ab,ao,none⟩) n1 ad)/\w'.cell? ⟨g,k+1,none⟩=some (.slice (some ⟨bb,bo,none⟩) n2 bd)/\w'.cell? ⟨bx,0,none⟩=some (.int .i64 (fn:Int))/\w'.cell? ⟨bx,2,none⟩=some (.int .i64 (tn:Int))/\w'.cell? ⟨vb,vo+k,none⟩=some (.slice (some ⟨rb,ro,none⟩) (T.el k) rc)/\w'.cell? ⟨rb,ro+j,none⟩=some (.int .i64 yv)/\w'.cell? ⟨bb,bo+tn,none⟩=some (.int .i64 bv)) (by kernel_rfl) ⟨cellS (Below.refl _ _).drew b,cellS (Below.refl _ _).drew a,cellS (Below.refl _ _).drew s0,cellS (Below.refl _ _).drew s2,cellS (Below.refl _ _).drew y0,cellS (Below.refl _ _).drew vq,cellS (Below.refl _ _).drew bq⟩ (fun hHeld=>?_)
 obtain ⟨w51,hw,kb⟩:=dwx w50
 rw [<-hw] at hHeld ⊢;clear hw;replace hB:=zag hB (Nat.le_of_lt hl) kb;replace hl:=Nat.lt_of_lt_of_le hl kb.size;replace hT:=hT.on kb;replace aq:=cellS kb aq;replace bq:=cellS kb bq;replace vq:=cellS kb vq;replace y0:=cellS kb y0;replace b:=cellS kb b;replace a:=cellS kb a;replace s0:=cellS kb s0;replace s2:=cellS kb s2;clear kb
 refine tkq 0 (h:=tkq 1 (h:=tkq 2 (h:=tkq 3 (h:=tkq 4 (h:=tkq 5 (h:=tkq 6 (h:=tkq 7 (h:=tkq 8 (h:=tkq 9 (h:=tkq 10 (h:=tkq 11 (h:=tkq 12 (h:=tkq 13 (h:=tkq 14 (h:=tkq 16 (h:=tkq 17 (h:=tkq 18 (h:=tkq 19 (h:=tkq 20 (h:=tkq 21 (h:=tkq 22 (h:=tkq 23 (h:=tkq 24 (h:=tkq 25 (h:=tkq 26 (h:=tkq 27 (h:=tkq 28 (h:=tkq 29 (h:=tkq 30 (h:=tkq 31 (h:=tkq 32 (h:=tkq 33 (h:=?_)))))))))))))))))))))))))))))))))
 refine rdq2 15 34 (h:=fun K hK=>?_) (h2:=fun K hK=>?_)
 focus
  go_simp
  refine bkq hK ⟨b,a,s0,s2,y0,vq,bq⟩ (h:=fun hHeld=>?_)
  clear hK K
  refine rdq 34 (h:=fun K hK=>?_)
  go_simp
  go_wp2_with fail
  refine (ze9 yv bv w51 b2.out b3.out).mono ?_
  rintro e w52 ⟨rfl,kb⟩
  replace hB:=zag hB (Nat.le_of_lt hl) kb;replace hl:=Nat.lt_of_lt_of_le hl kb.size;replace hT:=hT.on kb;replace aq:=cellS kb aq;replace bq:=cellS kb bq;replace vq:=cellS kb vq;replace y0:=cellS kb y0;replace b:=cellS kb b;replace a:=cellS kb a;replace s0:=cellS kb s0;replace s2:=cellS kb s2;clear kb
 rotate_left
 focus
  go_simp
  go_wp2_with fail
  refine (ze9 yv bv w51 b2.out b3.out).mono ?_
  rintro e w52 ⟨rfl,kb⟩
  replace hB:=zag hB (Nat.le_of_lt hl) kb;replace hl:=Nat.lt_of_lt_of_le hl kb.size;replace hT:=hT.on kb;replace aq:=cellS kb aq;replace bq:=cellS kb bq;replace vq:=cellS kb vq;replace y0:=cellS kb y0;replace b:=cellS kb b;replace a:=cellS kb a;replace s0:=cellS kb s0;replace s2:=cellS kb s2;clear kb
  refine bkq hK ⟨b,a,s0,s2,y0,vq,bq⟩ (h:=fun hHeld=>?_)
  clear hK K
  refine rdq 15 (h:=fun K hK=>?_)
  go_simp
 rotate_left
 all_goals
  refine bkq hK ⟨b,a,s0,s2,y0,vq,bq⟩ (h:=fun hHeld=>?_)
  clear hK K
  refine rdq 35 (h:=fun K hK=>?_)
  go_simp
  go_wp2_with fail
  refine (zhO av (capI yv bv) w52 c7.out c6.out).mono ?_
  rintro e w53 ⟨rfl,kb⟩
  replace hB:=zag hB (Nat.le_of_lt hl) kb;replace hl:=Nat.lt_of_lt_of_le hl kb.size;replace hT:=hT.on kb;replace aq:=cellS kb aq;replace bq:=cellS kb bq;replace vq:=cellS kb vq;replace y0:=cellS kb y0;replace b:=cellS kb b;replace a:=cellS kb a;replace s0:=cellS kb s0;replace s2:=cellS kb s2;clear kb
  refine bkq hK ⟨b,a,s0,s2,y0,vq,bq⟩ (h:=fun hHeld=>?_)
  clear hK K
  refine tkq 36 (h:=?_)
  refine rdq 37 (h:=fun K hK=>?_)
  have zf:w53.frozen? ⟨ab,ao+fn,none⟩=false:=by
   obtain ⟨b9,o9,d9,O,_,_,_,z9⟩:=hT.at (v:=k) L (k:=fn) b1.out
   rw [P.out] at O
   injection O with e1 _ _
   injection e1 with e1
   injection e1 with e1 e2
   subst e1 e2
   exact z9
  obtain ⟨nv,ak⟩:=exx (min av (capI yv bv))
  rw [<-ak] at o ⊢;clear ak
  go_simp
  replace b:=zaa (p:=⟨ab,ao+fn,none⟩) (u:=.int .i64 nv) b (by simpa using M)
  replace a:=zaa (p:=⟨ab,ao+fn,none⟩) (u:=.int .i64 nv) a (by simpa using M)
  replace s0:=zaa (p:=⟨ab,ao+fn,none⟩) (u:=.int .i64 nv) s0 (by simpa using a4)
  replace s2:=zaa (p:=⟨ab,ao+fn,none⟩) (u:=.int .i64 nv) s2 (by simpa using a4)
  replace y0:=zaa (p:=⟨ab,ao+fn,none⟩) (u:=.int .i64 nv) y0 (by simpa using Z)
  replace vq:=zaa (p:=⟨ab,ao+fn,none⟩) (u:=.int .i64 nv) vq (by simpa using a0)
  replace bq:=zaa (p:=⟨ab,ao+fn,none⟩) (u:=.int .i64 nv) bq (by simpa using be)
  have x:=hT.set (y:=nv) (by omega) L (k:=fn) b1.out P.out
  have z:=hB.setCell (p:=⟨ab,ao+fn,none⟩) (by show w.heap.size+2<=ab; omega) (.int .i64 nv)
  have J:w.heap.size+2<(World.setCell w53 ⟨ab,ao+fn,none⟩ (.int .i64 nv)).heap.size:=by simp; exact hl
  refine bkq hK ⟨b,a,s0,s2,y0,vq,bq⟩ (h:=fun hHeld=>?_)
  clear hK K
  refine wpAnyH_done (by kernel_rfl) ?_ _
  clear hHeld
  have hN:=hid (x.congr (x':=T.bwX y k (j+1)) (fun v _=>rfl) (fun u _ v _=>o.out u v))
  have c8:=hid z
  clear x hT z hB aq
  go_wp2
  go_roundg (gk - 1)
  case measure=>omega
  case rel=>exact ⟨j+1,by go_num,by omega,by omega,hN.out,c8.out,J⟩
def Trel.yOf (T:Trel) (C:Nat->Nat->Int) (i j:Nat):Int:=C i (T.lb i j).toNat
def Trel.Fit (T:Trel) (ln:Nat->Nat):Prop:=∀ i,i<T.n->∀ j,j<T.el i->0<=T.lb i j/\T.lb i j<(ln i:Nat)
theorem zdf (CA:Option Addr) (M cc cb i a:Nat) (ln:Nat->Nat) (C:Nat->Nat->Int) (w:World) (h:IntRows w CA M ln C) (hc:w.cell? ⟨cb,0,none⟩=some (.slice CA M cc)) (hi:i<M) (ha:a<ln i) :
  Calls Tryz.prog 122 #[.int .i64 (i:Nat),.int .i64 (a:Nat),.pointer (some ⟨cb,0,none⟩)] w fun e w'=>e=.returned (.int .i64 (C i a))/\Below w.heap.size w w':=by
 obtain ⟨b,o,R,rc,rfl,hb,x0,h1,h2,h3,h4⟩:=h i hi
 obtain ⟨rb,ro,rfl,d,x1⟩:=h3.at ha
 obtain ⟨n1,c⟩:=exx (ln i)
 obtain ⟨v,hv⟩:=exx (C i a)
 rw [<-c] at x0 ha;rw [<-hv] at x1
 have HV:=hid hv
 have j:(0:Int)<=(i:Int):=by omega
 have l:(0:Int)<=(a:Int):=by omega
 have g:(i:Int)<(M:Int):=by omega
 have k:(a:Int)<(n1:Int):=by omega
 clear h h3 h4 hv c h1
 go_enter Tryz.func122, Tryz.ntmps122
 go_wp2
 go_ret
 exact ⟨by rw [<-HV.out]; rfl,Below.refl _ _⟩
def SecPost (T:Trel) (x:Nat->Nat->Int) (w:World) (e:Ending) (w':World):Prop :=
 ∃ g F,e=.returned (.slice (some ⟨g,0,none⟩) T.n T.n)/\w.heap.size<=g/\IntTab w' g (g+1) T.n F T.el x/\Below w.heap.size w w'
theorem zh3 (T:Trel) (A B CA:Option Addr) (c d M cc cb:Nat) (ln:Nat->Nat) (C:Nat->Nat->Int) (w:World) (h:T.Reads w A B) (hs:T.Shape) (hC:IntRows w CA M ln C) (hM:M=T.n) (hF:T.Fit ln) (hcb:w.cell? ⟨cb,0,none⟩=some (.slice CA M cc)) :
  Calls Tryz.prog 116 #[.agg #[.slice A T.nw c,.slice B T.n d],.func (.func 122) #[] #[.pointer (some ⟨cb,0,none⟩)]] w (SecPost T (T.yOf C) w):=by
 have ba:∀ (x y p:Value) (W:World),(callFunc 122 #[x,y,p]).run Tryz.prog W=.ok (.enter 122 #[x,y,p]) W:=fun _ _ _ _=>by kernel_rfl
 obtain ⟨RB,a0⟩:=exx ((Obj.cells #[.slice A T.nw c,.slice B T.n d] 53))
 have N:Below (w.heap.size+1) (w.alloc RB) (w.alloc RB):=Below.refl _ _
 have HS:Hid (∀ w',Below (w.heap.size+1) (w.alloc RB) w'->(w'.cell? ⟨w.heap.size,0,none⟩=some (.slice A T.nw c)/\w'.cell? ⟨w.heap.size,1,none⟩=some (.slice B T.n d))/\Below w.heap.size w w'):=fun w' hB=>by
  have b0:=zax hB
  subst a0
  exact ⟨⟨tbox hB rfl,tbox hB rfl⟩,b0⟩
 obtain ⟨⟨p0,p1⟩,hW⟩:=HS.out _ N
 have ak:=hs.n64
 have a7:=fun W=>zaf (P:=Tryz.prog) 25 22 _ 24 Tryz.underlying25 Tryz.infoInts rfl (T.n:Int) (by omega) (by omega) (by omega) W
 simp only [Int.toNat_natCast] at a7
 have HR:=hid h
 have b1:=hid hs
 have HC:=hid hC
 have HF:=hid hF
 have HM:=hid hM
 have b3:=hid hcb
 clear h hs hC hF hM hcb
 have an:w.heap.size<(w.alloc RB).heap.size:=by simp
 go_enter Tryz.func116, Tryz.ntmps116
 go_wp2_with fail
 rw [<-a0]
 go_upto_region 2 with fail
 obtain ⟨W2,J⟩:=exx (w.alloc RB)
 have r:W2.heap.size=w.heap.size+1:=by rw [J]; simp
 have a2:Hid (∀ w',Below (w.heap.size+1) W2 w'->(w'.cell? ⟨w.heap.size,0,none⟩=some (.slice A T.nw c)/\w'.cell? ⟨w.heap.size,1,none⟩=some (.slice B T.n d))/\Below w.heap.size w w'):=by rw [J]; exact HS
 rw [<-J] at N ⊢
 obtain ⟨g,hg⟩:=exx (w.heap.size+1)
 have aa:g=W2.heap.size:=by omega
 have I:=World.rowIs_made W2 (.slice none 0 0) T.n 22
 have L:=zag N (Nat.le_of_eq r.symm) ((Below.refl W2.heap.size W2).alloc (Nat.le_refl _) (Obj.cells (madeCells #[Value.slice none 0 0] T.n) 22))
 have V:w.heap.size+1<(W2.alloc (Obj.cells (madeCells #[Value.slice none 0 0] T.n) 22)).heap.size:=by simp; omega
 obtain ⟨W3,ad⟩:=exx (W2.alloc (Obj.cells (madeCells #[Value.slice none 0 0] T.n) 22))
 rw [<-aa] at I;rw [<-ad] at I L V ⊢;rw [<-hg]
 have ae:IntTab W3 g (g+1) T.n (fun _=>.slice none 0 0) (fun v=>if v<0 then T.el v else 0) (T.yOf C):=(zbE I).congr (fun v _=>(if_neg (by omega)).symm) (fun v _ k hk=>rfl)
 have aq:w.heap.size+1<=g:=by omega
 clear ad aa hg I J HS N a7 a0 r an p0 p1 hW
 obtain ⟨⟨p0,p1⟩,hW⟩:=a2.out _ L
 go_wp2
 go_loopg [17] T.n (fun gg iv wx=>∃ (k:Nat) (F:Nat->Value),iv=.int .i64 (k:Nat)/\k<=T.n/\T.n<=k+gg/\IntTab wx g (g+1) T.n F (fun v=>if v<k then T.el v else 0) (T.yOf C)/\Below (w.heap.size+1) W2 wx/\w.heap.size+1<wx.heap.size)
 case atStart=>exact ⟨0,_,rfl,by omega,by omega,ae,L,V⟩
 clear hW p0 p1 ae L V
 obtain ⟨gK,ap⟩:=exx gk
 subst ap
 obtain ⟨k,F,rfl,hk,b4,hT,hB,hl⟩:=hrel
 obtain ⟨wk,ai⟩:=exx wr
 subst ai
 have b5:(0:Int)<=(k:Int):=by omega
 obtain ⟨⟨p0,p1⟩,hW⟩:=a2.out _ hB
 by_cases hlt:k<T.n
 rotate_left
 ·have R:¬ (k:Int)<(T.n:Int):=by omega
  have ax:Hid (IntTab wk g (g+1) T.n F T.el (T.yOf C)):=hT.congr (fun v hv=>if_pos (by omega)) (fun v _ q hq=>rfl)
  clear hT
  go_wp2
  go_ret
  exact ⟨g,F,rfl,by omega,ax.out,hW⟩
 have R:(k:Int)<(T.n:Int):=by omega
 obtain ⟨eb,eo,E,ec,rfl,b9,x0w,aw,av,ac,au⟩:=HR.out.sec hlt
 have x0:=cellS hW x0w
 have ar:=b1.out.elb hlt
 obtain ⟨n1,Q⟩:∃ n:Nat,n=T.el k:=⟨_,rfl⟩
 rw [<-Q] at x0 ar
 have a3:=hid Q
 have b2:=hid ac
 have af:IntTab wk g (g+1) T.n F (fun v=>if v<k then T.el v else if v=k then 0 else 0) (T.yOf C):=hT.congr (fun v _=>by split <;> simp) (fun v _ q hq=>rfl)
 clear hT Q ac au x0w aw av
 go_wp2
 go_loopg [24] n1 (fun gg jv wx=>∃ (j:Nat) (F:Nat->Value),jv=.int .i64 (j:Nat)/\j<=n1/\n1<=j+gg/\IntTab wx g (g+1) T.n F (fun v=>if v<k then T.el v else if v=k then j else 0) (T.yOf C)/\Below (w.heap.size+1) W2 wx/\w.heap.size+1<wx.heap.size)
 case atStart=>exact ⟨0,F,rfl,by omega,by omega,af,hB,hl⟩
 clear hW p0 p1 af hB hl x0
 obtain ⟨j,F2,rfl,hj,b6,hT,hB,hl⟩:=hrel
 have b7:(0:Int)<=(j:Int):=by omega
 have hW:=(a2.out _ hB).2
 by_cases hltj:j<n1
 rotate_left
 ·have s:¬ (j:Int)<(n1:Int):=by omega
  have a9:j=n1:=by omega
  have ay:Hid (IntTab wr g (g+1) T.n F2 (fun v=>if v<k+1 then T.el v else 0) (T.yOf C)):=hT.congr (fun v _=>by
   by_cases e:v<k
   ·rw [if_pos e,if_pos (by omega)]
   rw [if_neg e]
   by_cases e2:v=k
   ·subst e2
    rw [if_pos rfl,if_pos (by omega),a9]
    exact a3.out
   ·rw [if_neg e2,if_neg (by omega)]) (fun v _ q hq=>rfl)
  have HB:=hid hB
  clear hT hB a9 hW
  go_wp2
  go_roundg (gK - 1)
  case measure=>omega
  case rel=>exact ⟨k+1,F2,by go_num,by omega,by omega,ay.out,HB.out,hl⟩
 have s:(j:Int)<(n1:Int):=by omega
 obtain ⟨fb,fo,rfl,b8,e0,e1,e2⟩:=zbt ((Rd.below b2.out hW (Nat.le_refl _)).mono hW.size) (show j<T.el k by rw [<-a3.out]; exact hltj)
 have Z:=HF.out k hlt j (by rw [<-a3.out]; exact hltj)
 obtain ⟨la,U⟩:∃ n:Nat,(n:Int)=T.lb k j:=⟨(T.lb k j).toNat,by omega⟩
 have hY:Hid (C k la=T.yOf C k j):=by show C k la=C k (T.lb k j).toNat; rw [<-U]; rfl
 have z:la<ln k:=by omega
 rw [<-U] at e1
 obtain ⟨fv,ab⟩:=exx (T.fr k j)
 obtain ⟨tv,a6⟩:=exx (T.to k j)
 rw [<-ab] at e0;rw [<-a6] at e2
 obtain ⟨fk,Y⟩:=exx (F2 k)
 have q0:wr.cell? ⟨g,k,none⟩=some fk:=by rw [Y]; exact hT.row.cell hlt
 have O:=hid Y
 have a:=HC.out.on hW
 have hcb:=cellS hW b3.out
 have a8:k<M:=by rw [HM.out]; exact hlt
 clear Y ab a6 U Z hW
 go_upto_region 8 with fail
 obtain ⟨OB,a1⟩:=exx ((Obj.cells #[.int .i64 fv,.int .i64 (la:Int),.int .i64 tv] 90))
 have s1:(wr.alloc OB).cell? ⟨wr.heap.size,1,none⟩=some (.int .i64 (la:Int)):=by subst a1; exact tbox (Below.refl _ _) rfl
 have kb:=aly wr OB
 rw [<-a1]
 obtain ⟨w50,o⟩:=exx (wr.alloc OB)
 rw [<-o] at s1 kb ⊢
 have m:∀ q,fk.ownBlock=some q->q<wr.heap.size:=fun q e=>by
  have:=(hT.own k hlt).lt q (by rw [<-O.out]; exact e)
  exact this.2
 have a5:wr.heap.size≠g:=by have:=hT.row.lt; omega
 replace hT:=hT.on kb;replace hB:=zag hB (Nat.le_of_lt hl) kb;replace hl:=Nat.lt_of_lt_of_le hl kb.size;replace q0:=cellS kb q0;replace a:=a.on kb;replace hcb:=cellS kb hcb
 obtain ⟨bx,D⟩:=exx wr.heap.size
 rw [<-D] at s1 a5 m ⊢
 have a4:=hid m
 clear o a1 kb e0 e1 e2 D m
 refine wp_region_held_drew (S:=fun w'=>w'.cell? ⟨bx,1,none⟩=some (.int .i64 (la:Int))) (by kernel_rfl) (cellS (Below.refl _ _).drew s1) (fun hHeld=>?_)
 obtain ⟨w51,hw,kb⟩:=dwx w50
 rw [<-hw] at hHeld ⊢;clear hw;replace hB:=zag hB (Nat.le_of_lt hl) kb;replace hl:=Nat.lt_of_lt_of_le hl kb.size;replace hT:=hT.on kb;replace q0:=cellS kb q0;replace s1:=cellS kb s1;replace a:=a.on kb;replace hcb:=cellS kb hcb;clear kb
 refine tkq 0 (h:=tkq 1 (h:=tkq 2 (h:=tkq 3 (h:=tkq 4 (h:=tkq 6 (h:=tkq 7 (h:=tkq 8 (h:=tkq 9 (h:=?_)))))))))
 refine rdq2 5 10 (h:=fun K hK=>?_) (h2:=fun K hK=>?_)
 focus
  go_simp
  refine bkq hK s1 (h:=fun hHeld=>?_)
  clear hK K
  refine rdq 10 (h:=fun K hK=>?_)
  go_simp
  go_wp2_with fail
  refine (zdf CA M cc cb k la ln C w51 a hcb a8 z).mono ?_
  rintro e w52 ⟨rfl,kb⟩
  replace hB:=zag hB (Nat.le_of_lt hl) kb;replace hl:=Nat.lt_of_lt_of_le hl kb.size;replace hT:=hT.on kb;replace q0:=cellS kb q0;replace s1:=cellS kb s1;replace a:=a.on kb;replace hcb:=cellS kb hcb;clear kb;rw [hY.out]
  obtain ⟨yv,l⟩:=exx (T.yOf C k j)
  rw [<-l]
  have ah:=hid l
  clear l
  refine bkq hK s1 (h:=fun hHeld=>?_)
  clear hK K
  refine rdq 11 (h:=fun K hK=>?_)
  go_simp
  obtain ⟨w53,hw⟩:=exx (World.alloc w52 (Obj.cells #[Value.int .i64 yv] 3))
  have kb:=alx hw
  have n1c:w53.cell? ⟨w52.heap.size,0,none⟩=some (Value.int .i64 yv):=by rw [hw]; simp
  rw [<-hw];clear hw
  obtain ⟨nb_n1c,b⟩:=exx w52.heap.size
  rw [<-b] at n1c ⊢;clear b;replace hB:=zag hB (Nat.le_of_lt hl) kb;replace hl:=Nat.lt_of_lt_of_le hl kb.size;replace hT:=hT.on kb;replace q0:=cellS kb q0;replace s1:=cellS kb s1;replace a:=a.on kb;replace hcb:=cellS kb hcb;clear kb
 rotate_left
 focus
  go_simp
  go_wp2_with fail
  refine (zdf CA M cc cb k la ln C w51 a hcb a8 z).mono ?_
  rintro e w52 ⟨rfl,kb⟩
  replace hB:=zag hB (Nat.le_of_lt hl) kb;replace hl:=Nat.lt_of_lt_of_le hl kb.size;replace hT:=hT.on kb;replace q0:=cellS kb q0;replace s1:=cellS kb s1;replace a:=a.on kb;replace hcb:=cellS kb hcb;clear kb;rw [hY.out]
  obtain ⟨yv,l⟩:=exx (T.yOf C k j)
  rw [<-l]
  have ah:=hid l
  clear l
  refine bkq hK s1 (h:=fun hHeld=>?_)
  clear hK K
  refine rdq2 5 11 (h:=fun K hK=>?_) (h2:=fun K hK=>?_)
  focus
   go_simp
   refine bkq hK s1 (h:=fun hHeld=>?_)
   clear hK K
   refine rdq 11 (h:=fun K hK=>?_)
   go_simp
   obtain ⟨w53,hw⟩:=exx (World.alloc w52 (Obj.cells #[Value.int .i64 yv] 3))
   have kb:=alx hw
   have n1c:w53.cell? ⟨w52.heap.size,0,none⟩=some (Value.int .i64 yv):=by rw [hw]; simp
   rw [<-hw];clear hw
   obtain ⟨nb_n1c,b⟩:=exx w52.heap.size
   rw [<-b] at n1c ⊢;clear b;replace hB:=zag hB (Nat.le_of_lt hl) kb;replace hl:=Nat.lt_of_lt_of_le hl kb.size;replace hT:=hT.on kb;replace q0:=cellS kb q0;replace s1:=cellS kb s1;replace a:=a.on kb;replace hcb:=cellS kb hcb;clear kb
  rotate_left
  focus
   go_simp
   obtain ⟨w53,hw⟩:=exx (World.alloc w52 (Obj.cells #[Value.int .i64 yv] 3))
   have kb:=alx hw
   have n1c:w53.cell? ⟨w52.heap.size,0,none⟩=some (Value.int .i64 yv):=by rw [hw]; simp
   rw [<-hw];clear hw
   obtain ⟨nb_n1c,b⟩:=exx w52.heap.size
   rw [<-b] at n1c ⊢;clear b;replace hB:=zag hB (Nat.le_of_lt hl) kb;replace hl:=Nat.lt_of_lt_of_le hl kb.size;replace hT:=hT.on kb;replace q0:=cellS kb q0;replace s1:=cellS kb s1;replace a:=a.on kb;replace hcb:=cellS kb hcb;clear kb
   refine bkq hK s1 (h:=fun hHeld=>?_)
   clear hK K
   refine rdq 5 (h:=fun K hK=>?_)
   go_simp
  rotate_left
 rotate_left 2
 all_goals
  refine bkq hK s1 (h:=fun hHeld=>?_)
  clear hK K
  refine rdq 12 (h:=fun K hK=>?_)
  have H:Own w53 (g+1) 3 1 fk j (fun i _=>.int .i64 (T.yOf C k i)):=by
   have:=hT.own k hlt
   rw [if_neg (Nat.lt_irrefl k),if_pos rfl,<-O.out] at this
   exact this
  have ao:g+1<=w53.heap.size:=hT.row.lt
  rw [ah.out] at n1c
  refine zbB (by rfl) (.tmp 33) (.tmp 39) (by rfl) (g+1) fk j (fun i=>T.yOf C k i) (by rfl) H ao (by omega) nb_n1c 1 (by rfl) n1c ?_
  intro v9 w9 o1 o2 o3
  obtain ⟨A9,c9,aj⟩:=o1.shape
  subst aj
  have X:∀ q,fk.ownBlock=some q->g+1<=q:=fun q e=>(H.lt q e).1
  have q9:w9.cell? ⟨g,k,none⟩=some fk:=zae q0 o2 fun e=>by have:=X g e; omega
  have z9:w9.frozen? ⟨g,k,none⟩=false:=by
   have:=(hT.row.of_block (o2.block g hT.row.lt fun e=>by have:=X g e.symm; omega)).frozen k
   exact this
  have ag:Below (w.heap.size+1) W2 w9:=hB.grown o2 (Nat.le_of_lt hl) fun q e=>by have:=X q e; omega
  have am:w.heap.size+1<w9.heap.size:=Nat.lt_of_lt_of_le hl o2.size
  have s1:=zae s1 o2 fun e=>absurd (a4.out _ e) (Nat.lt_irrefl _)
  have G:=hid (hT.put (by omega) hlt o1 (by rw [<-O.out]; exact o2) (by rw [<-O.out]; exact o3))
  refine bkq hK s1 (h:=fun hHeld=>?_)
  clear hK K
  refine tkq 13 (h:=?_)
  refine rdq 14 (h:=fun K hK=>?_)
  go_simp
  replace s1:=zaa (p:=⟨g,k,none⟩) (u:=.slice A9 (j+1) c9) s1 a5
  refine bkq hK s1 (h:=fun hHeld=>?_)
  clear hK K
  refine wpAnyH_done (by kernel_rfl) ?_ _
  clear hHeld
  have hN:=G.out.congr (n':=fun v=>if v<k then T.el v else if v=k then j+1 else 0) (x':=T.yOf C) (fun v _=>by
    by_cases e:v=k
    ·subst e; simp
    ·simp [e]) (fun v _ q hq=>by
    by_cases e:v=k
    ·rw [if_pos e,e]
    ·rw [if_neg e])
  have HN:=hid hN
  have az:=ag.setCell (p:=⟨g,k,none⟩) aq (.slice A9 (j+1) c9)
  have al:w.heap.size+1<(w9.setCell ⟨g,k,none⟩ (.slice A9 (j+1) c9)).heap.size:=by simp; exact am
  clear G hN q9 z9 ag
  go_wp2
  go_roundg (gk - 1)
  case measure=>omega
  case rel=>exact ⟨j+1,_,by go_num,by omega,by omega,HN.out,az,al⟩
section
variable {T:Trel} {y:Nat->Nat->Int}
theorem Trel.bwE_le {next:Nat->Int} {i:Nat} {v:Nat}:∀ j q,q<j->(T.fr i q).toNat=v->T.bwE y next i j v<=capI (y i q) (next (T.to i q).toNat):=by
 intro j
 induction j with
 | zero=>intro q hq; omega
 | succ j ih =>
  intro q hq hf
  show (if (T.fr i j).toNat=v then _ else _)<=_
  by_cases e:q=j
  ·subst e
   rw [if_pos hf]
   exact Int.min_le_right _ _
  ·have:=ih q (by omega) hf
   split
   ·exact Int.le_trans (Int.min_le_left _ _) this
   ·exact this
theorem Trel.bwE_att {next:Nat->Int} {i:Nat} {v:Nat}:∀ j,T.bwE y next i j v=4611686018427387904∨∃ q,q<j/\(T.fr i q).toNat=v/\T.bwE y next i j v=capI (y i q) (next (T.to i q).toNat):=by
 intro j
 induction j with
 | zero=>exact .inl rfl
 | succ j ih =>
  have e:T.bwE y next i (j+1) v=if (T.fr i j).toNat=v then min (T.bwE y next i j v) (capI (y i j) (next (T.to i j).toNat)) else T.bwE y next i j v:=rfl
  rw [e]
  by_cases h:(T.fr i j).toNat=v
  ·rw [if_pos h]
   by_cases h2:T.bwE y next i j v<=capI (y i j) (next (T.to i j).toNat)
   ·rw [Int.min_eq_left h2]
    rcases ih with h3 | ⟨q,h3,h4,h5⟩
    ·exact .inl h3
    ·exact .inr ⟨q,by omega,h4,h5⟩
   ·rw [Int.min_eq_right (by omega)]
    exact .inr ⟨j,by omega,h,rfl⟩
  ·rw [if_neg h]
   rcases ih with h3 | ⟨q,h3,h4,h5⟩
   ·exact .inl h3
   ·exact .inr ⟨q,by omega,h4,h5⟩
theorem Trel.bw_step (T:Trel) (y:Nat->Nat->Int) {i:Nat} (hi:i<T.n) (v:Nat):T.bw y (T.n - i) v=T.bwE y (T.bw y (T.n - (i+1))) i (T.el i) v:=by
 have e:T.n - i=(T.n - (i+1))+1:=by omega
 rw [e]
 show T.bwE y (T.bw y (T.n - (i+1))) (T.n - (T.n - (i+1)+1)) (T.el (T.n - (T.n - (i+1)+1))) v=_
 rw [show T.n - (T.n - (i+1)+1)=i by omega]
theorem Trel.bw_le (hP:T.Proper) (hy:Costs T y):∀ r,r<=T.n->∀ v:Nat,(v:Int)<T.W (T.n - r)->T.bw y r v<=(r:Int)*2147483648:=by
 intro r
 induction r with
 | zero =>
  intro _ v hv
  have:=hP.wn
  rw [Nat.sub_zero] at hv
  obtain rfl:v=0:=by omega
  show (if 0=0 then (0:Int) else _)<=_
  rw [if_pos rfl]
  omega
 | succ r ih =>
  intro hr v hv
  obtain ⟨j,hj⟩:=Trel.outs_pos hP (i:=T.n - (r+1)) (by omega) (by omega) hv
  obtain ⟨a,b⟩:=Trel.outs_mem.1 hj
  have h2:=hP.shape.ins (T.n - (r+1)) (by omega) j a
  unfold Trel.inside at h2
  have e:T.n - (r+1)+1=T.n - r:=by omega
  rw [e] at h2
  have h3:=ih (by omega) (T.to (T.n - (r+1)) j).toNat (by omega)
  have h4:=Trel.bwE_le (T:=T) (y:=y) (next:=T.bw y r) (i:=T.n - (r+1)) (v:=v) _ j a (by omega)
  have h5:=hy (T.n - (r+1)) (by omega) j a
  have h6:=hP.shape.n64
  have h7:capI (y (T.n - (r+1)) j) (T.bw y r (T.to (T.n - (r+1)) j).toNat)=y (T.n - (r+1)) j+T.bw y r (T.to (T.n - (r+1)) j).toNat:=zgF (by omega)
  show T.bwE y (T.bw y r) (T.n - (r+1)) (T.el (T.n - (r+1))) v<=_
  rw [h7] at h4
  have h8:((r+1:Nat):Int)*2147483648=(r:Int)*2147483648+2147483648:=by omega
  omega
def Trel.lp (T:Trel) (y:Nat->Nat->Int) (i v j:Nat):Bool:=(T.fr i j == (v:Int)) && (y i j+T.bw y (T.n - (i+1)) (T.to i j).toNat == T.bw y (T.n - i) v)
theorem Trel.lp_ex (hP:T.Proper) (hy:Costs T y) {i v:Nat} (hi:i<T.n) (hv:(v:Int)<T.W i):∃ j,j<T.el i/\T.lp y i v j=true:=by
 have h1:=Trel.bw_le hP hy (T.n - i) (by omega) v (by rw [show T.n - (T.n - i)=i by omega]; exact hv)
 have h2:=hP.shape.n64
 rw [Trel.bw_step T y hi] at h1
 rcases Trel.bwE_att (T:=T) (y:=y) (next:=T.bw y (T.n - (i+1))) (i:=i) (v:=v) (T.el i) with h3 | ⟨q,h3,h4,h5⟩
 ·omega
 refine ⟨q,h3,?_⟩
 have h6:=hP.shape.ins i hi q h3
 unfold Trel.inside at h6
 unfold Trel.lp
 rw [Trel.bw_step T y hi,h5,Bool.and_eq_true,beq_iff_eq,beq_iff_eq];rw [h5] at h1
 unfold capI at h1 ⊢
 refine ⟨by omega,?_⟩
 split
 ·rename_i h7
  rw [if_pos h7] at h1
  omega
 ·rfl
def firstOf (p:Nat->Bool) (m:Nat):Nat:=((List.range m).find? p).getD m
theorem zgS {p:Nat->Bool} {m j:Nat} (hj:j<m) (hp:p j=true) (hn:∀ q,q<j->p q=false):firstOf p m=j:=by
 unfold firstOf
 have:(List.range m).find? p=some j:=by
  rw [List.find?_range_eq_some]
  exact ⟨hp,List.mem_range.2 hj,fun q hq=>by rw [hn q hq]; rfl⟩
 rw [this]
 rfl
def Trel.nd (T:Trel) (y:Nat->Nat->Int):Nat->Nat
 | 0=>0
 | i+1=>(T.to i (firstOf (T.lp y i (T.nd y i)) (T.el i))).toNat
def Trel.wd (T:Trel) (y:Nat->Nat->Int) (i:Nat):Int:=T.lb i (firstOf (T.lp y i (T.nd y i)) (T.el i))
theorem Trel.nd_step {i j:Nat} (hj:j<T.el i) (hp:T.lp y i (T.nd y i) j=true) (hn:∀ q,q<j->T.lp y i (T.nd y i) q=false):T.nd y (i+1)=(T.to i j).toNat/\T.wd y i=T.lb i j:=by
 have:=zgS hj hp hn
 exact ⟨by show (T.to i (firstOf _ _)).toNat=_; rw [this],by show T.lb i (firstOf _ _)=_; rw [this]⟩
end
def LexLt (f g:Nat->Int) (n:Nat):Prop:=∃ i,i<n/\(∀ t,t<i->f t=g t)/\f i<g i
def AlongPost (T:Trel) (y:Nat->Nat->Int) (w:World) (e:Ending) (w':World):Prop :=
 ∃ gw,e=.returned (.tuple #[.slice (some ⟨gw,0,none⟩) T.n T.n,.int .i64 (T.bw y T.n 0)])/\w'.rowIs gw 3 T.n (fun i=>.int .i64 (T.wd y i))/\w.heap.size<=gw/\Below w.heap.size w w'
theorem Costs.of {T:Trel} {M:Nat} {ln:Nat->Nat} {C:Nat->Nat->Int} (hM:M=T.n) (hF:T.Fit ln) (hC:∀ i,i<M->∀ a,a<ln i->0<=C i a/\C i a<=2147483648):Costs T (T.yOf C):=fun i hi j hj=>by
 have:=hF i hi j hj
 exact hC i (by omega) _ (by omega)
theorem zh4 (T:Trel) (A B CA:Option Addr) (c d M cc:Nat) (ln:Nat->Nat) (C:Nat->Nat->Int) (w:World) (h:T.Reads w A B) (hP:T.Proper) (hSE:T.shapeE=0) (hC:IntRows w CA M ln C) (hM:M=T.n) (hF:T.Fit ln) (hpr:∀ i,i<M->∀ a,a<ln i->0<=C i a/\C i a<=2147483648) :
  Calls Tryz.prog 59 #[.agg #[.slice A T.nw c,.slice B T.n d],.slice CA M cc] w (AlongPost T (T.yOf C) w):=by
 have HY:=hid (Costs.of hM hF hpr)
 obtain ⟨y,hy⟩:=exx (T.yOf C)
 have c5:=hid hy
 rw [<-hy] at HY ⊢
 obtain ⟨O1,a5⟩:=exx ((Obj.cells #[.slice A T.nw c,.slice B T.n d] 53))
 obtain ⟨O2,a4⟩:=exx ((Obj.cells #[.slice CA M cc] 25))
 have a7:Below (w.heap.size+2) ((w.alloc O1).alloc O2) ((w.alloc O1).alloc O2):=Below.refl _ _
 have HS:Hid (∀ w',Below (w.heap.size+2) ((w.alloc O1).alloc O2) w'->(w'.cell? ⟨w.heap.size,0,none⟩=some (.slice A T.nw c)/\w'.cell? ⟨w.heap.size,1,none⟩=some (.slice B T.n d))/\w'.cell? ⟨w.heap.size+1,0,none⟩=some (.slice CA M cc)/\Below w.heap.size w w'):=fun w' hB=>by
  have c4:=zbx hB
  have G:=ziL hB
  subst a4
  have hr:=zbT hB
  subst a5
  exact ⟨⟨tbox G rfl,tbox G rfl⟩,hr.cell (i:=0) (by simp),c4⟩
 obtain ⟨⟨p0,p1⟩,p2,hW⟩:=HS.out _ a7
 have HR:=hid h
 have HP:=hid hP
 have c9:=hid hSE
 have HC:=hid hC
 have HM:=hid hM
 have HF:=hid hF
 clear h hP hSE hC hM hF hpr hy
 go_enter Tryz.func59, Tryz.ntmps59
 go_wp2_with fail
 rw [<-a5,<-a4]
 refine (zh3 T A B CA c d M cc (w.heap.size+1) ln C _ (HR.out.on hW) HP.out.shape (HC.out.on hW) HM.out HF.out p2).mono ?_
 rintro e w1 ⟨g1,F1,rfl,bn,F,kb⟩
 have G:=zfH a7 kb
 rw [<-c5.out] at F;clear p0 p1 p2 hW kb a7 a5 a4 bn
 obtain ⟨⟨p0,p1⟩,p2,hW⟩:=HS.out _ G
 have x:=F.rows fun i hi j hj=>by have:=HY.out i hi j hj; omega
 go_wp2_with fail
 refine (zh2 T A B (some ⟨g1,0,none⟩) c d T.n y w1 (HR.out.on hW) c9.out x HY.out).mono ?_
 rintro e w2 ⟨g2,F2,rfl,bm,b0,kb⟩
 have a6:=zfH G kb
 replace F:=F.on kb;clear p0 p1 p2 hW kb G x bm
 obtain ⟨⟨p0,p1⟩,p2,hW⟩:=HS.out _ a6
 have cl:=zhQ a6
 have be:=HP.out.shape.n64
 have an:=fun W=>zaf (P:=Tryz.prog) 22 3 _ 8 Tryz.underlying22 Tryz.infoInt rfl (T.n:Int) (by omega) (by omega) (by omega) W
 simp only [Int.toNat_natCast] at an
 have b5:=hid F
 have H:=hid b0
 have cv:=hid p1
 have a8:=hid hW
 have bg:w.heap.size<w2.heap.size:=by omega
 clear F b0
 go_upto_region 5 with fail
 have U:=World.rowIs_made w2 (.int .i64 0) T.n 3
 have R:=aly w2 (Obj.cells (madeCells #[Value.int .i64 0] T.n) 3)
 obtain ⟨w3,ag⟩:=exx (w2.alloc (Obj.cells (madeCells #[Value.int .i64 0] T.n) 3))
 obtain ⟨gw,V⟩:=exx w2.heap.size
 have b6:=hid V
 rw [<-V] at U;rw [<-ag] at U R ⊢;rw [<-V];replace p1:=cellS R p1
 have aj:w3.rowIs gw 3 T.n (fun i=>.int .i64 (if i<0 then T.wd y i else 0)):=U.congr fun i _=>by rw [if_neg (by omega)]
 clear ag V an U p0 p2 a6
 go_wp2
 go_loopg [10,32] T.n (fun gg vv iv wx=>∃ k:Nat,iv=.int .i64 (k:Nat)/\k<=T.n/\T.n<=k+gg/\vv=.int .i64 (T.nd y k:Nat)/\Hid ((T.nd y k:Int)<T.W k)/\wx.rowIs gw 3 T.n (fun i=>.int .i64 (if i<k then T.wd y i else 0))/\Below w2.heap.size w2 wx)
 case atStart=>exact ⟨0,rfl,by omega,by omega,rfl,by show (0:Int)<T.W 0; have:=HP.out.w0; omega,aj,R⟩
 clear p1 aj R
 obtain ⟨gK,bl⟩:=exx gk
 subst bl
 obtain ⟨k,rfl,hk,cm,rfl,HV,b,hB⟩:=hrel
 have cn:(0:Int)<=(k:Int):=by omega
 obtain ⟨v,hv⟩:=exx (T.nd y k)
 have a9:=hid hv
 rw [<-hv] at HV ⊢;clear hv
 by_cases hlt:k<T.n
 rotate_left
 ·have a0:¬ (k:Int)<(T.n:Int):=by omega
  obtain rfl:k=T.n:=by omega
  have L:0<T.nw:=by have:=HP.out.shape.nw; omega
  have b9:=HP.out.w0
  obtain ⟨ab,ao,ad,Q,c1,a2,aq,_⟩:=(H.out.on hB).at (v:=0) L (k:=0) (by show 0<(T.W 0).toNat; omega)
  have l:=(H.out.on hB).row.cell L
  rw [Q] at l
  change wr.cell? ⟨g2,0,none⟩=some (.slice (some ⟨ab,ao,none⟩) (T.W 0).toNat ad) at l
  obtain ⟨n2,N⟩:=exx ((T.W 0).toNat)
  rw [<-N] at l;rw [Nat.add_zero,Nat.sub_zero] at aq
  obtain ⟨av,D⟩:=exx (T.bw y T.n 0)
  have cg:=hid D
  rw [<-D] at aq
  have bf:(0:Int)<(n2:Int):=by omega
  have al:(0:Int)<(T.nw:Int):=by omega
  have J:=hid (b.congr (g:=fun i=>.int .i64 (T.wd y i)) fun i hi=>by rw [if_pos hi])
  have c2:=hid (onS a8.out hB)
  have bk:Hid (w.heap.size<=gw):=by show _<=gw; rw [b6.out]; omega
  clear Q N D b9 b a9 HV
  go_wp2
  go_quiet (fail)
  go_wp2
  go_ret2
  exact ⟨gw,by rw [<-cg.out]; rfl,zab J.out (zac (Below.refl _ _) _),bk.out,zac c2.out _⟩
 have a0:(k:Int)<(T.n:Int):=by omega
 obtain ⟨eb,eo,E,ec,rfl,cs,x0w,bu,bt,ax,bs⟩:=HR.out.sec hlt
 have az:=onS a8.out hB
 have x0:=cellS az x0w
 have br:=HP.out.shape.elb hlt
 have ce:=hid (Trel.lp_ex HP.out HY.out hlt HV.out)
 obtain ⟨n1,Z⟩:∃ n:Nat,n=T.el k:=⟨_,rfl⟩
 rw [<-Z] at x0 br
 have ae:=hid Z
 have cf:=hid ax
 clear Z ax bs x0w bu bt az
 go_wp2
 go_loopg [10,39] n1 (fun gg vv jv wx=>∃ j:Nat,vv=.int .i64 (v:Nat)/\jv=.int .i64 (j:Nat)/\j<=n1/\n1<=j+gg/\Hid (∀ q,q<j->T.lp y k v q=false)/\wx.rowIs gw 3 T.n (fun i=>.int .i64 (if i<k then T.wd y i else 0))/\Below w2.heap.size w2 wx)
 case atStart=>exact ⟨0,rfl,rfl,by omega,by omega,fun q hq=>absurd hq (by omega),b,hB⟩
 clear x0 b hB
 obtain ⟨j,rfl,rfl,hj,cp,HN,b,hB⟩:=hrel
 have cr:(0:Int)<=(j:Int):=by omega
 by_cases hltj:j<n1
 rotate_left
 ·exfalso
  obtain ⟨q,hq,ak⟩:=ce.out
  have:=HN.out q (by have:=ae.out; omega)
  rw [this] at ak
  cases ak
 have ap:(j:Int)<(n1:Int):=by omega
 have r:j<T.el k:=by rw [<-ae.out]; exact hltj
 have hW:=onS a8.out hB
 obtain ⟨fb,fo,rfl,bp,e0,e1,e2⟩:=zbt ((Rd.below cf.out hW (Nat.le_refl _)).mono hW.size) r
 obtain ⟨i1,i2,i3,i4⟩:=HP.out.shape.ins k hlt j r
 obtain ⟨fn,aw⟩:∃ n:Nat,(n:Int)=T.fr k j:=⟨(T.fr k j).toNat,by omega⟩
 obtain ⟨tn,ah⟩:∃ n:Nat,(n:Int)=T.to k j:=⟨(T.to k j).toNat,by omega⟩
 have ar:k<T.nw:=by have:=HP.out.shape.nw; omega
 have au:k+1<T.nw:=by have:=HP.out.shape.nw; omega
 obtain ⟨ab,ao,ad,Q,c1,a2,aq,_⟩:=(H.out.on hB).at (v:=k) ar (k:=v) (by have:=HV.out; omega)
 obtain ⟨bb,bo,bd,b4,cu,c0,bq,_⟩:=(H.out.on hB).at (v:=k+1) au (k:=tn) (by omega)
 obtain ⟨cb,co,cd,b3,ct,bz,cq,_⟩:=(b5.out.on hB).at (v:=k) hlt (k:=j) r
 have l:=(H.out.on hB).row.cell ar
 have m:=(H.out.on hB).row.cell au
 have o:=(b5.out.on hB).row.cell hlt
 rw [Q] at l;rw [b4] at m;rw [b3] at o
 change wr.cell? ⟨g2,k,none⟩=some (.slice (some ⟨ab,ao,none⟩) (T.W k).toNat ad) at l
 change wr.cell? ⟨g2,k+1,none⟩=some (.slice (some ⟨bb,bo,none⟩) (T.W (k+1)).toNat bd) at m
 have d1:=Trel.bw_cost HY.out (T.n - k) (by omega) v
 have d2:=Trel.bw_cost HY.out (T.n - (k+1)) (by omega) tn
 have d3:=HY.out k hlt j r
 have s:Hid (T.lp y k v j=((T.fr k j == (v:Int)) && (y k j+T.bw y (T.n - (k+1)) tn == T.bw y (T.n - k) v))):=by
  show T.lp y k v j=_
  unfold Trel.lp
  rw [show (T.to k j).toNat=tn by omega]
 obtain ⟨av,D⟩:=exx (T.bw y (T.n - k) v)
 obtain ⟨bv,ay⟩:=exx (T.bw y (T.n - (k+1)) tn)
 obtain ⟨yv,af⟩:=exx (y k j)
 obtain ⟨lb,a1⟩:=exx (T.lb k j)
 obtain ⟨n2,N⟩:=exx ((T.W k).toNat)
 obtain ⟨n3,am⟩:=exx ((T.W (k+1)).toNat)
 have cj:tn<n3:=by omega
 have ch:v<n2:=by have:=HV.out; omega
 rw [<-D] at aq d1 s;rw [<-ay] at bq d2 s;rw [<-af] at cq d3 s;rw [<-aw] at e0 s;rw [<-a1] at e1;rw [<-ah] at e2;rw [<-N] at l;rw [<-am] at m;rw [<-ae.out] at o
 have c8:Hid (tn=(T.to k j).toNat):=by show tn=_; omega
 have ca:=hid a1
 have c7:Hid ((tn:Int)<T.W (k+1)):=by show (tn:Int)<_; omega
 unfold Cost at d1 d2
 have b8:IntKind.i64.wrap ((k:Int)+1)=(k:Int)+1:=IntWalk.i64_in _ (by omega)
 have b7:IntKind.i64.wrap (yv+bv)=yv+bv:=IntWalk.i64_in _ (by omega)
 have bc:(tn:Int)<(n3:Int):=by omega
 have ba:(v:Int)<(n2:Int):=by omega
 have ck:(0:Int)<=(tn:Int):=by omega
 have ci:(0:Int)<=(v:Int):=by omega
 have bi:(k:Int)+1<(T.nw:Int):=by omega
 have bh:(k:Int)<(T.nw:Int):=by omega
 have bj:(0:Int)<=(k:Int)+1:=by omega
 clear Q b4 b3 D ay af a1 aw ah i1 i2 i3 i4 N am hW d1 d2 d3
 go_upto_region 11 with fail
 obtain ⟨OB,a3⟩:=exx ((Obj.cells #[.int .i64 (fn:Int),.int .i64 lb,.int .i64 (tn:Int)] 90))
 have hq:∀ i v,(#[Value.int .i64 (fn:Int),.int .i64 lb,.int .i64 (tn:Int)]:Array Value)[i]?=some v->(wr.alloc OB).cell? ⟨wr.heap.size,i,none⟩=some v:=fun i v hv=>by subst a3; exact tbox (Below.refl _ _) hv
 have s0:=hq 0 _ rfl
 have s1:=hq 1 _ rfl
 have s2:=hq 2 _ rfl
 have kb:=aly wr OB
 rw [<-a3]
 obtain ⟨w50,I⟩:=exx (wr.alloc OB)
 rw [<-I] at s0 s1 s2 kb ⊢
 have X:wr.heap.size≠gw:=by have:=b.lt; omega
 replace hB:=onS hB kb;replace b:=zab b kb;replace aq:=cellS kb aq;replace bq:=cellS kb bq;replace cq:=cellS kb cq;replace l:=cellS kb l;replace m:=cellS kb m;replace o:=cellS kb o
 obtain ⟨bx,O⟩:=exx wr.heap.size
 rw [<-O] at s0 s1 s2 X ⊢;clear hq I a3 kb e0 e1 e2 O bp
 by_cases hfv:(fn:Int)=(v:Int)
 rotate_left
 ·have b1:((fn:Int) == (v:Int))=false:=by simpa using hfv
  rw [b1,Bool.false_and] at s
  have ac:Hid (∀ q,q<j+1->T.lp y k v q=false):=fun q hq=>by
   by_cases e:q=j
   ·subst e; exact s.out
   ·exact HN.out q (by omega)
  clear hfv
  go_wp2
  go_quiet (fail)
  go_wp2
  go_roundg (gk - 1)
  case measure=>omega
  case rel=>exact ⟨j+1,rfl,by go_num,by omega,by omega,ac,zab b (zac (Below.refl _ _) _),zac hB _⟩
 have b1:((fn:Int) == (v:Int))=true:=by simpa using hfv
 rw [b1,Bool.true_and] at s;clear hfv
 by_cases hsm:yv+bv=av
 rotate_left
 ·have b2:(yv+bv == av)=false:=by simpa using hsm
  rw [b2] at s
  have ac:Hid (∀ q,q<j+1->T.lp y k v q=false):=fun q hq=>by
   by_cases e:q=j
   ·subst e; exact s.out
   ·exact HN.out q (by omega)
  clear hsm
  go_wp2
  go_quiet (fail)
  go_wp2
  go_roundg (gk - 1)
  case measure=>omega
  case rel=>exact ⟨j+1,rfl,by go_num,by omega,by omega,ac,zab b (zac (Below.refl _ _) _),zac hB _⟩
 have b2:(yv+bv == av)=true:=by simpa using hsm
 rw [b2] at s
 have aa:Hid (T.nd y (k+1)=tn/\T.wd y k=lb):=by
  have:=Trel.nd_step (T:=T) (y:=y) (i:=k) (j:=j) r (by rw [<-a9.out]; exact s.out) (by rw [<-a9.out]; exact HN.out)
  rw [<-c8.out,<-ca.out] at this
  exact this
 clear hsm
 go_wp2
 go_quiet (fail)
 go_upto_region 12 with fail
 obtain ⟨w51,z⟩:=exx (w50.drewN nq)
 have kb:Below w50.heap.size w50 w51:=by rw [z]; exact zac (Below.refl _ _) _
 rw [<-z];replace hB:=onS hB kb;replace b:=zab b kb;replace s1:=cellS kb s1;replace s2:=cellS kb s2;clear kb z aq bq cq l m o s0 b1 b2 b7
 refine wp_region_held_drew (S:=fun w'=>w'.cell? ⟨bx,1,none⟩=some (.int .i64 lb)/\w'.cell? ⟨bx,2,none⟩=some (.int .i64 (tn:Int))) (by kernel_rfl) ⟨cellS (Below.refl _ _).drew s1,cellS (Below.refl _ _).drew s2⟩ (fun hHeld=>?_)
 obtain ⟨w52,hw,kb⟩:=dwx w51
 rw [<-hw] at hHeld ⊢;clear hw;replace hB:=onS hB kb;replace s1:=cellS kb s1;replace s2:=cellS kb s2;replace b:=zab b kb;clear kb
 refine tkq 0 (h:=tkq 1 (h:=tkq 2 (h:=tkq 3 (h:=tkq 4 (h:=tkq 5 (h:=tkq 6 (h:=?_)))))))
 refine rdq 7 (h:=fun K hK=>?_)
 have q0:=b.cell hlt
 have z0:=b.frozen k
 go_simp
 replace s1:=zaa (p:=⟨gw,k,none⟩) (u:=.int .i64 lb) s1 X;replace s2:=zaa (p:=⟨gw,k,none⟩) (u:=.int .i64 lb) s2 X
 have ai:=hid (b.set k (.int .i64 lb))
 have c3:=hid (hB.setCell (p:=⟨gw,k,none⟩) (by show w2.heap.size<=gw; rw [b6.out]; exact Nat.le_refl _) (.int .i64 lb))
 clear q0 z0
 refine bkq hK ⟨s1,s2⟩ (h:=fun hHeld=>?_)
 clear hK K
 refine tkq 8 (h:=?_)
 refine wpAnyH_done (by kernel_rfl) ?_ _
 clear hHeld
 have Y:=hid (ai.out.congr (g:=fun i=>.int .i64 (if i<k+1 then T.wd y i else 0)) fun i _=>by
   by_cases e:i=k
   ·subst e; rw [if_pos rfl,if_pos (Nat.lt_succ_self _),aa.out.2]
   rw [if_neg e]
   by_cases e2:i<k
   ·rw [if_pos e2,if_pos (by omega)]
   ·rw [if_neg e2,if_neg (by omega)])
 have c6:Hid ((T.nd y (k+1):Int)<T.W (k+1)):=by rw [aa.out.1]; exact c7
 clear ai hB b s1 s2
 go_wp2
 go_roundg (gK - 1)
 case measure=>omega
 case rel=>exact ⟨k+1,by go_num,by omega,by omega,by rw [aa.out.1],c6,Y.out,c3.out⟩
def PricedP (M:Nat) (ln:Nat->Nat) (C:Nat->Nat->Int):Prop:=∀ i,i<M->∀ a,a<ln i->0<=C i a/\C i a<=2147483648
instance (M:Nat) (ln:Nat->Nat) (C:Nat->Nat->Int):Decidable (PricedP M ln C):=by unfold PricedP; exact inferInstance
theorem zgT (CA:Option Addr) (M cc:Nat) (ln:Nat->Nat) (C:Nat->Nat->Int) (w:World) (h:IntRows w CA M ln C) (hM:M<=1048576) :
  Calls Tryz.prog 58 #[.slice CA M cc] w fun e w'=>e=.returned (.int .i64 (if PricedP M ln C then 0 else 6))/\Below w.heap.size w w':=by
 have HC:=hid h
 clear h
 have l:Hid ((∀ i,i<M->∀ a,a<ln i->0<=C i a/\C i a<=2147483648)->(0:Int)=if PricedP M ln C then 0 else 6):=fun h=>(if_pos h).symm
 have p:Hid ((¬ ∀ i,i<M->∀ a,a<ln i->0<=C i a/\C i a<=2147483648)->(6:Int)=if PricedP M ln C then 0 else 6):=fun h=>(if_neg h).symm
 obtain ⟨r,hr⟩:∃ r:Int,r=if PricedP M ln C then 0 else 6:=⟨_,rfl⟩
 rw [<-hr] at l p ⊢;clear hr
 go_enter Tryz.func58, Tryz.ntmps58
 go_wp2
 go_loopg [9] M (fun g iv wx=>∃ k:Nat,iv=.int .i64 (k:Nat)/\k<=M/\M<=k+g/\Hid (∀ i,i<k->∀ a,a<ln i->0<=C i a/\C i a<=2147483648)/\Below w.heap.size w wx)
 case atStart=>exact ⟨0,rfl,by omega,by omega,fun i hi=>absurd hi (by omega),Below.refl _ _⟩
 obtain ⟨gK,u⟩:=exx gk
 subst u
 obtain ⟨k,rfl,hk,D,HD,hW⟩:=hrel
 have E:(0:Int)<=(k:Int):=by omega
 by_cases hlt:k<M
 rotate_left
 ·have n:¬ (k:Int)<(M:Int):=by omega
  obtain rfl:k=M:=by omega
  have HF:=hid (l.out HD.out)
  clear HD
  go_wp2
  go_ret
  exact ⟨by rw [<-HF.out]; rfl,hW⟩
 have n:(k:Int)<(M:Int):=by omega
 obtain ⟨b,o,R,rc,rfl,hb,x0,h1,h2,h3,h4⟩:=(HC.out.on hW) k hlt
 obtain ⟨n1,m⟩:=exx (ln k)
 rw [<-m] at x0 h1 h3
 have s:=hid m
 have HR:=hid h3
 have B:n1<=9223372036854775807:=by unfold maxLen at h2; omega
 obtain ⟨wa,t⟩:=exx wr
 subst t
 clear m h3 h4 h1 h2
 go_wp2
 go_loopg [15] n1 (fun g jv wx=>∃ j:Nat,jv=.int .i64 (j:Nat)/\j<=n1/\n1<=j+g/\Hid (∀ a,a<j->0<=C k a/\C k a<=2147483648)/\Below wa.heap.size wa wx)
 case atStart=>exact ⟨0,rfl,by omega,by omega,fun i hi=>absurd hi (by omega),Below.refl _ _⟩
 obtain ⟨j,rfl,hj,F,HE,hV⟩:=hrel
 have G:(0:Int)<=(j:Int):=by omega
 by_cases hltj:j<n1
 rotate_left
 ·have c:¬ (j:Int)<(n1:Int):=by omega
  have y:Hid (∀ i,i<k+1->∀ a,a<ln i->0<=C i a/\C i a<=2147483648):=fun i hi a ha=>by
   by_cases e:i=k
   ·subst e; exact HE.out a (by have:=s.out; omega)
   ·exact HD.out i (by omega) a ha
  have d:=onS hW hV
  clear x0
  go_wp2
  go_roundg (gK - 1)
  case measure=>omega
  case rel=>exact ⟨k+1,by go_num,by omega,by omega,y,d⟩
 have c:(j:Int)<(n1:Int):=by omega
 have q:j<ln k:=by rw [<-s.out]; exact hltj
 obtain ⟨rb,ro,rfl,z,x1⟩:=((HR.out:IntsR _ _ _ _ _).on hV).at hltj
 obtain ⟨x,hx⟩:=exx (C k j)
 rw [<-hx] at x1
 have HX:=hid hx
 clear hx x0
 by_cases h1:x<0
 ·have hf:=hid (p.out fun h=>by have:=h k hlt j q; rw [<-HX.out] at this; omega)
  have d:=hid (onS hW hV)
  go_wp2
  go_ret
  exact ⟨by rw [<-hf.out]; rfl,d.out⟩
 by_cases h2:2147483648<x
 ·have hf:=hid (p.out fun h=>by have:=h k hlt j q; rw [<-HX.out] at this; omega)
  have d:=hid (onS hW hV)
  go_wp2
  go_ret
  exact ⟨by rw [<-hf.out]; rfl,d.out⟩
 have v:Hid (∀ a,a<j+1->0<=C k a/\C k a<=2147483648):=fun a ha=>by
  by_cases e:a=j
  ·subst e; rw [<-HX.out]; omega
  ·exact HE.out a (by omega)
 go_wp2
 go_roundg (gk - 1)
 case measure=>omega
 case rel=>exact ⟨j+1,by go_num,by omega,by omega,v,hV⟩
def Trel.fitB (T:Trel) (ln:Nat->Nat):Prop:=∀ i,i<T.n->∀ j,j<T.el i->T.lb i j<(ln i:Nat)
instance (T:Trel) (ln:Nat->Nat):Decidable (T.fitB ln):=by unfold Trel.fitB; exact inferInstance
def Trel.alongE (T:Trel) (M:Nat) (ln:Nat->Nat) (C:Nat->Nat->Int):Int :=
 if T.properE≠0 then T.properE else if M≠T.n then 3 else if ¬ T.fitB ln then 3 else if PricedP M ln C then 0 else 6
def AlongRes (T:Trel) (M:Nat) (ln:Nat->Nat) (C:Nat->Nat->Int) (w:World) (e:Ending) (w':World):Prop :=
 Below w.heap.size w w' /\
 ((T.alongE M ln C≠0/\e=.returned (.tuple #[.slice none 0 0,.int .i64 0,.int .i64 (T.alongE M ln C)])) ∨
 (T.alongE M ln C=0/\∃ gw,e=.returned (.tuple #[.slice (some ⟨gw,0,none⟩) T.n T.n,.int .i64 (T.bw (T.yOf C) T.n 0),.int .i64 0])/\w'.rowIs gw 3 T.n (fun i=>.int .i64 (T.wd (T.yOf C) i))))
theorem Trel.shapeE_of {T:Trel} (hp:T.properE=0):T.shapeE=0:=by
 cases Decidable.em (T.shapeE=0) with
 | inl h=>exact h
 | inr h=>exact absurd (Trel.properE_shape h ▸ hp) h
theorem zcR (T:Trel) (A B CA:Option Addr) (c d M cc:Nat) (ln:Nat->Nat) (C:Nat->Nat->Int) (w:World) (h:T.Reads w A B) (hC:IntRows w CA M ln C) :
  Calls Tryz.prog 56 #[.agg #[.slice A T.nw c,.slice B T.n d],.slice CA M cc] w (AlongRes T M ln C w):=by
 obtain ⟨RB,J⟩:=exx ((Obj.cells #[.slice A T.nw c,.slice B T.n d] 53))
 have O:Below (w.heap.size+1) (w.alloc RB) (w.alloc RB):=Below.refl _ _
 have HS:Hid (∀ w',Below (w.heap.size+1) (w.alloc RB) w'->(w'.cell? ⟨w.heap.size,0,none⟩=some (.slice A T.nw c)/\w'.cell? ⟨w.heap.size,1,none⟩=some (.slice B T.n d))/\Below w.heap.size w w'):=fun w' hB=>by
  have ae:=zax hB
  subst J
  exact ⟨⟨tbox hB rfl,tbox hB rfl⟩,ae⟩
 obtain ⟨⟨p0,p1⟩,hW⟩:=HS.out _ O
 have ai:Hid (T.properE≠0->T.properE=T.alongE M ln C):=fun h=>(if_pos h).symm
 have ah:Hid (T.properE=0->M≠T.n->(3:Int)=T.alongE M ln C):=fun h h1=>by unfold Trel.alongE; rw [if_neg (by simpa using h),if_pos h1]
 have U:Hid (T.properE=0->M=T.n->(¬ T.fitB ln)->(3:Int)=T.alongE M ln C):=fun h h1 h2=>by unfold Trel.alongE; rw [if_neg (by simpa using h),if_neg (by simpa using h1),if_pos h2]
 have ag:Hid (T.properE=0->M=T.n->T.fitB ln->(if PricedP M ln C then (0:Int) else 6)=T.alongE M ln C):=fun h h1 h2=>(show T.alongE M ln C=_ by unfold Trel.alongE; rw [if_neg (by simpa using h),if_neg (by simpa using h1),if_neg (by simpa using h2)]).symm
 have b:Hid (∀ w' r,Below w.heap.size w w'->r=T.alongE M ln C->r≠0->∀ e,e=.returned (.tuple #[.slice none 0 0,.int .i64 0,.int .i64 r])->AlongRes T M ln C w e w'):=fun w' r hB hr h0 e he=>by subst hr; exact ⟨hB,.inl ⟨h0,he⟩⟩
 go_enter Tryz.func56, Tryz.ntmps56
 go_wp2_with fail
 rw [<-J]
 refine (zcI T A B c d _ (h.on hW)).mono ?_
 rintro e w1 ⟨rfl,kb⟩
 have N:=zap O kb
 have HR:=hid h
 have HC:=hid hC
 clear p0 p1 hW kb O J h hC
 obtain ⟨⟨p0,p1⟩,hW⟩:=HS.out _ N
 by_cases hp:T.properE=0
 rotate_left
 ·have a6:(T.properE != 0)=true:=by simpa using hp
  have hf:=hid (ai.out hp)
  have W:=hid hp
  obtain ⟨x,hx⟩:=exx T.properE
  rw [<-hx] at a6 hf W ⊢;clear hp hx
  go_wp2
  go_ret3
  exact b.out _ x hW hf.out W.out _ rfl
 have HP:=hid (Trel.proper_of hp)
 have y:=hid hp
 rw [hp];clear hp
 by_cases hM:M=T.n
 rotate_left
 ·have Z:((M:Int) != (T.n:Int))=true:=by
   rw [bne_iff_ne]
   omega
  have hf:=hid (ah.out y.out hM)
  clear hM
  go_wp2
  go_ret3
  exact b.out _ 3 hW hf.out (by omega) _ rfl
 have Z:((M:Int) != (T.n:Int))=false:=by simp [hM]
 have HM:=hid hM
 have z:=HP.out.shape.n64
 obtain ⟨n,hn⟩:=exx T.n
 have HN:=hid hn
 rw [<-hn] at z p1 Z ⊢;clear hM hn
 go_wp2
 go_loopg [29] n (fun g iv wx=>∃ k:Nat,iv=.int .i64 (k:Nat)/\k<=n/\n<=k+g/\Hid (∀ i,i<k->∀ j,j<T.el i->T.lb i j<(ln i:Nat))/\Below (w.heap.size+1) (w.alloc RB) wx)
 case atStart=>exact ⟨0,rfl,by omega,by omega,fun i hi=>absurd hi (by omega),N⟩
 clear p0 p1 hW N
 obtain ⟨gK,a7⟩:=exx gk
 subst a7
 obtain ⟨k,rfl,hk,al,HD,hB⟩:=hrel
 have am:(0:Int)<=(k:Int):=by omega
 obtain ⟨⟨p0,p1⟩,hW⟩:=HS.out _ hB
 rw [<-HN.out] at p1
 by_cases hlt:k<n
 rotate_left
 ·have G:¬ (k:Int)<(n:Int):=by omega
  have a4:Hid (T.fitB ln):=fun i hi=>HD.out i (by have:=HN.out; omega)
  have hf:=hid (ag.out y.out HM.out a4.out)
  have L:M<=1048576:=by have:=HM.out; have:=HN.out; omega
  clear HD
  go_wp2_with fail
  refine (zgT CA M cc ln C wr (HC.out.on hW) L).mono ?_
  rintro e w2 ⟨rfl,kb⟩
  have a0:=zap hB kb
  clear kb p0 p1 hW hB
  obtain ⟨⟨p0,p1⟩,hW⟩:=HS.out _ a0
  by_cases hpr:PricedP M ln C
  rotate_left
  ·rw [if_neg hpr] at hf
   rw [if_neg hpr];clear hpr
   go_wp2
   go_ret3
   exact b.out _ 6 hW hf.out (by omega) _ rfl
  rw [if_pos hpr] at hf;rw [if_pos hpr]
  have af:Hid (PricedP M ln C):=hpr
  have v:T.Fit ln:=fun i hi j hj=>⟨((HP.out.sec i hi).1 j hj).1,a4.out i hi j hj⟩
  have a1:=HR.out.on hW
  have a5:=HC.out.on hW
  clear hpr
  go_wp2_with fail
  refine (zh4 T A B CA c d M cc ln C w2 a1 HP.out (Trel.shapeE_of y.out) a5 HM.out v af.out).mono ?_
  rintro e w3 ⟨gw,rfl,o,_,kb⟩
  have ad:=hid (onS hW kb)
  obtain ⟨bv,I⟩:=exx (T.bw (T.yOf C) T.n 0)
  have ak:=hid I
  have P:=hid o
  rw [<-I];clear I o kb p0 p1 hW a1 a5 a0 v
  go_wp2
  go_ret3
  exact ⟨ad.out,.inr ⟨hf.out.symm,gw,by rw [<-ak.out]; rfl,P.out⟩⟩
 have G:(k:Int)<(n:Int):=by omega
 have a:k<T.n:=by rw [<-HN.out]; exact hlt
 have F:k<M:=by rw [HM.out]; exact a
 have X:(k:Int)<(M:Int):=by omega
 have a9:=HP.out.shape.elb a
 obtain ⟨eb,eo,E,ec,rfl,ap,x0w,ac,ab,s,aa⟩:=HR.out.sec a
 have x0:=cellS hW x0w
 obtain ⟨el,l⟩:=exx (T.el k)
 have Q:=hid l
 rw [<-l] at a9 x0
 have S:=hid s
 clear l s aa ac ab x0w
 go_wp2
 go_loopg [36] el (fun g jv wx=>∃ j:Nat,jv=.int .i64 (j:Nat)/\j<=el/\el<=j+g/\Hid (∀ q,q<j->T.lb k q<(ln k:Nat))/\Below (w.heap.size+1) (w.alloc RB) wx)
 case atStart=>exact ⟨0,rfl,by omega,by omega,fun i hi=>absurd hi (by omega),hB⟩
 clear hB p0 p1 hW x0
 obtain ⟨j,rfl,hj,an,HE,hB⟩:=hrel
 have ao:(0:Int)<=(j:Int):=by omega
 obtain ⟨⟨p0,p1⟩,hW⟩:=HS.out _ hB
 by_cases hltj:j<el
 rotate_left
 ·have p:¬ (j:Int)<(el:Int):=by omega
  have aj:Hid (∀ i,i<k+1->∀ j,j<T.el i->T.lb i j<(ln i:Nat)):=fun i hi q hq=>by
   by_cases e:i=k
   ·subst e; exact HE.out q (by have:=Q.out; omega)
   ·exact HD.out i (by omega) q hq
  go_wp2
  go_roundg (gK - 1)
  case measure=>omega
  case rel=>exact ⟨k+1,by go_num,by omega,by omega,aj,hB⟩
 have p:(j:Int)<(el:Int):=by omega
 obtain ⟨fb,fo,rfl,a8,e0,e1,e2⟩:=zbt ((Rd.below S.out hW (Nat.le_refl _)).mono hW.size) (show j<T.el k by rw [<-Q.out]; exact hltj)
 obtain ⟨cb,co,R,rc,rfl,aq,y0,h1,h2,h3,h4⟩:=(HC.out.on hW) k F
 obtain ⟨lv,D⟩:=exx (T.lb k j)
 obtain ⟨lk,H⟩:=exx (ln k)
 rw [<-D] at e1;rw [<-H] at y0
 have a2:=hid D
 have a3:=hid H
 obtain ⟨fv,Y⟩:=exx (T.fr k j)
 obtain ⟨tv,V⟩:=exx (T.to k j)
 rw [<-Y] at e0;rw [<-V] at e2;clear D H h1 h2 h3 h4 p0 p1 Y V
 go_upto_region 12 with fail
 obtain ⟨OB,K⟩:=exx ((Obj.cells #[.int .i64 fv,.int .i64 lv,.int .i64 tv] 90))
 have s1:(wr.alloc OB).cell? ⟨wr.heap.size,1,none⟩=some (.int .i64 lv):=by subst K; exact tbox (Below.refl _ _) rfl
 have kb:=aly wr OB
 rw [<-K]
 obtain ⟨w50,m⟩:=exx (wr.alloc OB)
 rw [<-m] at s1 kb ⊢;replace hB:=zap hB kb;replace hW:=onS hW kb;replace y0:=cellS kb y0
 obtain ⟨bx,u⟩:=exx wr.heap.size
 rw [<-u] at s1 ⊢;clear u m K kb e0 e1 e2 a8
 by_cases hge:lv ≥ (lk:Int)
 ·have b1:decide (lv ≥ (lk:Int))=true:=by simp; omega
  have b2:decide ((lk:Int)<=lv)=true:=by simp; omega
  have hf:=hid (U.out y.out HM.out fun hh=>by have:=hh k a j (by rw [<-Q.out]; exact hltj); rw [<-a2.out,<-a3.out] at this; omega)
  go_wp2
  go_quiet (fail)
  go_wp2
  go_ret3
  exact b.out _ 3 (zac hW _) hf.out (by omega) _ rfl
 have b1:decide (lv ≥ (lk:Int))=false:=by simp; omega
 have b2:decide ((lk:Int)<=lv)=false:=by simp; omega
 have U:Hid (∀ q,q<j+1->T.lb k q<(ln k:Nat)):=fun q hq=>by
  by_cases e:q=j
  ·subst e; rw [<-a2.out,<-a3.out]; omega
  ·exact HE.out q (by omega)
 go_wp2
 go_quiet (fail)
 go_wp2
 go_roundg (gk - 1)
 case measure=>omega
 case rel=>exact ⟨j+1,by go_num,by omega,by omega,U,zac hB _⟩
def parT:Trel:=⟨2,fun _=>1,1,fun _=>2,fun _ _=>0,fun _ j=>if j=0 then 0 else 1,fun _ _=>0⟩
def parC:Nat->Nat->Int:=fun _ a=>if a=0 then 5 else 3
theorem zgU:parT.alongE 1 (fun _=>2) parC=0:=of_decide_eq_true (by kernel_rfl)
theorem zj9:parT.bw (parT.yOf parC) parT.n 0=3:=of_decide_eq_true (by kernel_rfl)
theorem zka:parT.wd (parT.yOf parC) 0=1:=of_decide_eq_true (by kernel_rfl)
theorem zh5 {w:World} {b1 b2 b3:Nat} (h1:b1<w.heap.size) (h2:b2<w.heap.size) (h3:b3<w.heap.size) (c0:w.cell? ⟨b1,0,none⟩=some (.int .i64 1)) (c1:w.cell? ⟨b1,1,none⟩=some (.int .i64 1))
  (e:∀ j,j<2->∀ k,k<3->w.cell? ⟨b2,j*3+k,none⟩=some (parT.edge 0 j k)) (s:w.cell? ⟨b3,0,none⟩=some (.slice (some ⟨b2,0,none⟩) 2 2)):parT.Reads w (some ⟨b1,0,none⟩) (some ⟨b3,0,none⟩):=by
 refine ⟨fun i hi=>⟨b1,0,rfl,h1,fun j hj=>?_⟩,fun i _=>⟨by show (-9223372036854775808:Int)<=1; omega,by show (1:Int)<=_; omega⟩,fun i hi=>?_,by show (2:Nat)<=_; omega,by show (1:Nat)<=_; omega,fun i _=>by show (2:Nat)<=_; omega⟩
 ·obtain rfl:j=0:=by omega
  have hi:i<2:=hi
  match i,hi with
  | 0,_=>exact c0
  | 1,_=>exact c1
 have hi:i<1:=hi
 obtain rfl:i=0:=by omega
 refine ⟨b3,0,some ⟨b2,0,none⟩,2,rfl,h3,s,Nat.le_refl _,by unfold maxLen; omega,fun j hj=>⟨b2,0,rfl,h2,fun k hk=>?_⟩,fun j hj=>?_⟩
 ·have:=e j hj k hk
  rwa [Nat.zero_add]
 unfold InI64
 refine ⟨⟨by show (-9223372036854775808:Int)<=0; omega,by show (0:Int)<=_; omega⟩,?_,⟨by show (-9223372036854775808:Int)<=0; omega,by show (0:Int)<=_; omega⟩⟩
 have e:parT.lb 0 j=if j=0 then (0:Int) else 1:=rfl
 rw [e]
 split <;> omega
theorem zjd {w:World} {b4 b5:Nat} (h4:b4<w.heap.size) (h5:b5<w.heap.size) (c0:w.cell? ⟨b4,0,none⟩=some (.int .i64 5)) (c1:w.cell? ⟨b4,1,none⟩=some (.int .i64 3)) (s:w.cell? ⟨b5,0,none⟩=some (.slice (some ⟨b4,0,none⟩) 2 2)) :
  IntRows w (some ⟨b5,0,none⟩) 1 (fun _=>2) parC:=fun i hi=>by
 obtain rfl:i=0:=by omega
 refine ⟨b5,0,some ⟨b4,0,none⟩,2,rfl,h5,s,Nat.le_refl _,by unfold maxLen; omega,fun j hj=>⟨b4,0,rfl,h4,fun k hk=>?_⟩,fun j hj=>?_⟩
 ·obtain rfl:k=0:=by omega
  match j,hj with
  | 0,_=>exact c0
  | 1,_=>exact c1
 ·unfold parC
  split <;> omega
theorem zfQ (w:World):Calls Tryz.prog 14 #[] w fun e w'=>e=.returned (.bool true)/\Below w.heap.size w w':=by
 go_enter Tryz.func14, Tryz.ntmps14
 go_wp2_with fail
 obtain ⟨O1,s⟩:=exx ((Obj.cells #[Value.int .i64 1,Value.int .i64 1] 3))
 obtain ⟨O2,r⟩:=exx ((Obj.cells #[Value.int .i64 0,Value.int .i64 0,Value.int .i64 0,Value.int .i64 0,Value.int .i64 1,Value.int .i64 0] 90))
 obtain ⟨O3,q⟩:=exx ((Obj.cells #[Value.slice (some ⟨w.heap.size+1,0,none⟩) 2 2] 86))
 obtain ⟨O4,p⟩:=exx ((Obj.cells #[Value.int .i64 5,Value.int .i64 3] 3))
 obtain ⟨O5,o⟩:=exx ((Obj.cells #[Value.slice (some ⟨w.heap.size+1+1+1,0,none⟩) 2 2] 22))
 rw [<-s,<-r,<-q,<-p,<-o]
 have s1:(w.alloc O1).heap.size=w.heap.size+1:=by simp
 have s2:((w.alloc O1).alloc O2).heap.size=w.heap.size+1+1:=by simp
 have s3:(((w.alloc O1).alloc O2).alloc O3).heap.size=w.heap.size+1+1+1:=by simp
 have s4:((((w.alloc O1).alloc O2).alloc O3).alloc O4).heap.size=w.heap.size+1+1+1+1:=by simp
 have k1:=aly w O1
 have k2:Below (w.alloc O1).heap.size (w.alloc O1) ((w.alloc O1).alloc O2):=(Below.refl _ _).alloc (Nat.le_refl _) _
 have k3:Below ((w.alloc O1).alloc O2).heap.size ((w.alloc O1).alloc O2) (((w.alloc O1).alloc O2).alloc O3):=(Below.refl _ _).alloc (Nat.le_refl _) _
 have k4:Below (((w.alloc O1).alloc O2).alloc O3).heap.size (((w.alloc O1).alloc O2).alloc O3) ((((w.alloc O1).alloc O2).alloc O3).alloc O4):=(Below.refl _ _).alloc (Nat.le_refl _) _
 have k5:Below ((((w.alloc O1).alloc O2).alloc O3).alloc O4).heap.size ((((w.alloc O1).alloc O2).alloc O3).alloc O4) (((((w.alloc O1).alloc O2).alloc O3).alloc O4).alloc O5):=(Below.refl _ _).alloc (Nat.le_refl _) _
 have l:=onS k4 k5
 have d:=onS k3 l
 have a:=onS k2 d
 have hW:=onS k1 a
 have a1:∀ i v,(#[Value.int .i64 1,Value.int .i64 1]:Array Value)[i]?=some v->(w.alloc O1).cell? ⟨w.heap.size,i,none⟩=some v:=fun i v hv=>by rw [s]; rw [World.cell?_alloc_at _ _ _ _ rfl]; exact hv
 have a2:∀ i v,(#[Value.int .i64 0,Value.int .i64 0,Value.int .i64 0,Value.int .i64 0,Value.int .i64 1,Value.int .i64 0]:Array Value)[i]?=some v->((w.alloc O1).alloc O2).cell? ⟨w.heap.size+1,i,none⟩=some v:=fun i v hv=>by rw [r]; rw [World.cell?_alloc_at _ _ _ _ (by simp)]; exact hv
 have a3:(((w.alloc O1).alloc O2).alloc O3).cell? ⟨w.heap.size+1+1,0,none⟩=some (.slice (some ⟨w.heap.size+1,0,none⟩) 2 2):=by rw [q]; rw [World.cell?_alloc_at _ _ _ _ (by simp)]; rfl
 have a4:∀ i v,(#[Value.int .i64 5,Value.int .i64 3]:Array Value)[i]?=some v->((((w.alloc O1).alloc O2).alloc O3).alloc O4).cell? ⟨w.heap.size+1+1+1,i,none⟩=some v:=fun i v hv=>by rw [p]; rw [World.cell?_alloc_at _ _ _ _ (by simp)]; exact hv
 have a5:(((((w.alloc O1).alloc O2).alloc O3).alloc O4).alloc O5).cell? ⟨w.heap.size+1+1+1+1,0,none⟩=some (.slice (some ⟨w.heap.size+1+1+1,0,none⟩) 2 2):=by rw [o]; rw [World.cell?_alloc_at _ _ _ _ (by simp)]; rfl
 obtain ⟨w5,m⟩:∃ W,W=((((w.alloc O1).alloc O2).alloc O3).alloc O4).alloc O5:=⟨_,rfl⟩
 have s5:w5.heap.size=w.heap.size+1+1+1+1+1:=by rw [m]; simp
 rw [<-m] at k5 l d a hW a5 ⊢
 have b:parT.Reads w5 (some ⟨w.heap.size,0,none⟩) (some ⟨w.heap.size+1+1,0,none⟩):=by
  refine zh5 (by omega) (b2:=w.heap.size+1) (by omega) (by omega) (cellS a (a1 0 _ rfl)) (cellS a (a1 1 _ rfl)) (fun j hj k hk=>?_) (cellS l a3)
  refine cellS d (a2 (j*3+k) _ ?_)
  match j,hj,k,hk with
  | 0,_,0,_=>rfl
  | 0,_,1,_=>rfl
  | 0,_,2,_=>rfl
  | 1,_,0,_=>rfl
  | 1,_,1,_=>rfl
  | 1,_,2,_=>rfl
 have c:IntRows w5 (some ⟨w.heap.size+1+1+1+1,0,none⟩) 1 (fun _=>2) parC:=zjd (b4:=w.heap.size+1+1+1) (by omega) (by omega) (cellS k5 (a4 0 _ rfl)) (cellS k5 (a4 1 _ rfl)) a5
 have HW:=hid hW
 clear a1 a2 a3 a4 a5 k1 k2 k3 k4 k5 l d a s1 s2 s3 s4 s5 m s r q p o hW
 refine (zcR parT _ _ _ 2 1 1 1 (fun _=>2) parC w5 b c).mono ?_
 rintro e w6 ⟨kb,h⟩
 have u:=onS HW.out kb
 rcases h with ⟨h0,_⟩ | ⟨_,gw,rfl,g⟩
 ·exact absurd zgU h0
 have q0:=g.cell (i:=0) (by show 0<1; omega)
 rw [zka] at q0;rw [zj9]
 change w6.cell? ⟨gw,0,none⟩=some (.int .i64 1) at q0
 have x:=hid u
 clear g b c kb HW u
 have en:parT.n=1:=rfl
 rw [en]
 go_wp2
 go_ret
 exact ⟨rfl,x.out⟩
open Go.ChangeShapes Go.WideShapes Go.ChangeAt
theorem zje {q n N:Nat} {add mul:Nat->Nat->Nat} {pv:Nat->Nat} {V R:Nat->Nat->Nat} {T:Trel} {y:Nat->Nat->Int × Int × Int} (hL:FieldLaws q add mul) (hS:SpanF q n N pv R) (hM:MinT q add mul n N pv R T) (hP:T.Proper) (hy:IsRen T y) (hsp:SameSp q add mul N n n V R) (x:Nat->Nat):(T.re y).PathW x↔InSp q add mul n N V x :=
 (hy.path hP).trans ((hM.path_iff hL hS).trans (hsp x).symm)
end Go.Proofs.YtgekjfpapmlndaaGreat