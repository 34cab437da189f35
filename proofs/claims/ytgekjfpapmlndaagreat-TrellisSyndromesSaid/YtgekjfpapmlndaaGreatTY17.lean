/- Merged texts of a claim: Renum, Minimal, IRows, Bwd, IValued, IBack, IVals, BwdMath, VitPl, Along, Same11, AliveAll, Decode, Args49, CmpLex, Wt11, Has12, Rest10, Cost49, DecLaw, SameC, LeastPl, CovPl. -/
import Derived.Test.YtgekjfpapmlndaaGreatTY15
import Derived.Test.YtgekjfpapmlndaaGreatTY16
namespace Go.Proofs.YtgekjfpapmlndaaGreat
set_option maxRecDepth 100000
set_option maxHeartbeats 32000000
open KA KB KC KD KE KF
open Go.RowKit
def RenumPost (T:Trel) (w:World) (e:Ending) (w':World):Prop :=
 Below w.heap.size w w'/\((T.properE≠0/\e=.returned (.tuple #[.agg #[.slice none 0 0,.slice none 0 0],.int .i64 T.properE])) ∨
  (T.properE=0/\∃ y A' B' c' d',e=.returned (.tuple #[.agg #[.slice A' T.nw c',.slice B' T.n d'],.int .i64 0])/\IsRen T y/\RenOut T y w' A' B' c' d'))
structure LeastSt (T:Trel) (i j lb bx sb m:Nat) (w:World):Prop where
 least:w.rowIs lb 90 (m*3) (eRow (T.lx (T.nm i) i j))
 box:w.rowIs bx 86 1 (fun _=>.slice (some ⟨lb,0,none⟩) m m)
 seen:w.rowIs sb 4 m (fun v=>.bool (T.sn (T.nm i) i j v))
theorem LeastSt.on {T:Trel} {i j lb bx sb m:Nat} {w w':World} (h:LeastSt T i j lb bx sb m w) (hb:Below w.heap.size w w'):LeastSt T i j lb bx sb m w' :=
 ⟨h.least.of_block (hb.block _ h.least.lt),h.box.of_block (hb.block _ h.box.lt),h.seen.of_block (hb.block _ h.seen.lt)⟩
theorem zea (T:Trel) (A B:Option Addr) (c d:Nat) (w:World) (h:T.Reads w A B) (hc:T.nw<=c) :
  Calls Tryz.prog 78 #[.agg #[.slice A T.nw c,.slice B T.n d]] w (RenumPost T w):=by
 obtain ⟨RB,ck⟩:=exx ((Obj.cells #[.slice A T.nw c,.slice B T.n d] 53))
 have dw:Below (w.heap.size+1) (w.alloc RB) (w.alloc RB):=Below.refl _ _
 have HS:Hid (∀ w',Below (w.heap.size+1) (w.alloc RB) w'->(w'.cell? ⟨w.heap.size,0,none⟩=some (.slice A T.nw c)/\w'.cell? ⟨w.heap.size,1,none⟩=some (.slice B T.n d))/\Below w.heap.size w w'):=fun w' hB=>by
  have bq:=zaL hB
  subst ck
  exact ⟨⟨tbox hB rfl,tbox hB rfl⟩,bq⟩
 have HR:=hid h
 have HC:=hid hc
 clear h hc
 go_enter Tryz.func78, Tryz.ntmps78
 go_upto_region 1 with fail
 rw [<-ck];clear ck
 have al:((w.alloc RB).alloc (Obj.cells #[.slice none 0 0,.slice none 0 0] 53)).rowIs (w.alloc RB).heap.size 53 2 (fun _=>.slice none 0 0):=World.rowIs_alloc (w.alloc RB) _ _ _ (fun i hi=>by
  match i,hi with
  | 0,_=>rfl
  | 1,_=>rfl)
 have dd:(w.alloc RB).heap.size=w.heap.size+1:=by simp
 rw [dd] at al
 have cw:Below (w.alloc RB).heap.size (w.alloc RB) ((w.alloc RB).alloc (Obj.cells #[.slice none 0 0,.slice none 0 0] 53)):=(Below.refl _ _).alloc (Nat.le_refl _) _
 have bp:=zaD dw cw
 obtain ⟨w4,d5⟩:=exx ((w.alloc RB).alloc (Obj.cells #[.slice none 0 0,.slice none 0 0] 53))
 rw [<-d5] at al bp ⊢
 obtain ⟨rb,c7⟩:=exx (w.heap.size+1)
 rw [<-c7] at al ⊢
 have bt:=hid c7
 clear d5 cw dd dw c7
 obtain ⟨⟨p0,p1⟩,hW⟩:=HS.out _ bp
 go_wp2_with fail
 refine (zeJ T A B c d w4 (HR.out.on hW)).mono ?_
 rintro e w5 ⟨rfl,hb⟩
 have bh:=zaD bp hb
 have a5:=al.of_block (hb.block rb al.lt)
 clear p0 p1 hW bp al hb
 by_cases hs:T.properE=0
 rotate_left
 ·obtain ⟨pe,c8⟩:∃ x,x=T.properE:=⟨_,rfl⟩
  have e7:=hid c8
  rw [<-c8] at hs ⊢;clear c8
  have ft:(pe != 0)=true:=by simp [hs]
  have r0:=a5.cell (i:=0) (by omega)
  have r1:=a5.cell (i:=1) (by omega)
  have z0:=a5.frozen 0
  have z1:=a5.frozen 1
  have q0:=a5.set 0 (.slice none 0 0)
  have q1:=q0.cell (i:=1) (by omega)
  rw [if_neg (by omega)] at q1
  have q2:=q0.frozen 1
  have q3:=q0.set 1 (.slice none 0 0)
  have q4:=q3.cell (i:=0) (by omega)
  have q5:=q3.cell (i:=1) (by omega)
  rw [if_neg (by omega),if_pos rfl] at q4
  rw [if_pos rfl] at q5
  have fo:=hid bh
  clear q0 q3 bh a5
  go_wp2
  refine bodyPost_ret (v:=.tuple #[.agg #[.slice none 0 0,.slice none 0 0],.int .i64 pe]) (by simp [results,Tryz.results78, go_sem,q4,q5]) rfl ?_
  refine ⟨(HS.out _ ((fo.out.setCell (p:=⟨rb,0,none⟩) (by rw [bt.out]; exact Nat.le_refl _) _).setCell (p:=⟨rb,1,none⟩) (by rw [bt.out]; exact Nat.le_refl _) _)).2,.inl ⟨by rw [<-e7.out]; exact hs,by rw [<-e7.out]⟩⟩
 have HP:=hid (Trel.proper_of hs)
 have fa:=hid hs
 rw [hs];clear hs
 go_upto_region 5 with fail
 have an:=zgz w5
 have au:Below w5.heap.size w5 ((w5.alloc (Obj.cells #[.int .i64 0] 3)).alloc (Obj.cells #[.slice (some ⟨w5.heap.size,0,none⟩) 1 1] 22)):=((Below.refl _ _).alloc (Nat.le_refl _) _).alloc (by simp) _
 obtain ⟨w6,aa⟩:∃ W,W=(w5.alloc (Obj.cells #[.int .i64 0] 3)).alloc (Obj.cells #[.slice (some ⟨w5.heap.size,0,none⟩) 1 1] 22):=⟨_,rfl⟩
 rw [<-aa] at an au ⊢;rw [<-Trel.names_one HP.out] at an
 have cm:=zaD bh au
 have df:=a5.of_block (au.block rb a5.lt)
 have em:w.heap.size<w5.heap.size:=za6 bh
 have bn:w5.heap.size<=w6.heap.size:=au.size
 obtain ⟨nv,dh⟩:∃ x:Value,x=.slice (some ⟨w5.heap.size+1,0,none⟩) 1 1:=⟨_,rfl⟩
 rw [<-dh] at an ⊢
 obtain ⟨bs,dn⟩:=exx w5.heap.size
 rw [<-dn] at an em bn
 have ak:=hid an
 have e2:=hid df
 obtain ⟨⟨p0,p1⟩,hW⟩:=HS.out _ cm
 have er:=HP.out.shape.n64
 have e8:=hid HP.out.shape.nw
 clear an aa au bh a5 df dh dn
 go_wp2
 go_loopg [5,24] T.n (fun gg nv iv wx=>∃ i:Nat,iv=.int .i64 (i:Nat)/\i<=T.n/\T.n<=i+gg/\Hid (TabL wx bs nv (T.names (i+1)))/\Hid (wx.rowIs rb 53 2 (fun _=>.slice none 0 0))/\Below (w.heap.size+1) (w.alloc RB) wx/\bs<=wx.heap.size)
 case atStart=>exact ⟨0,rfl,by omega,by omega,ak,e2,cm,bn⟩
 clear ak e2 cm bn p0 p1 hW
 obtain ⟨gI,ey⟩:=exx gk
 subst ey
 obtain ⟨i,rfl,hi,fy,ak,br,hB,bn⟩:=hrel
 obtain ⟨NA,ncap,ds⟩:=ak.out.shape
 rw [T.names_len] at ds
 subst ds
 have g9:(0:Int)<=(i:Int):=by omega
 obtain ⟨⟨p0,p1⟩,hW⟩:=HS.out _ hB
 by_cases hlt:i<T.n
 rotate_left
 ·have cb:¬ (i:Int)<(T.n:Int):=by omega
  obtain rfl:i=T.n:=by omega
  obtain ⟨O,oc,hO,ac⟩:=Trel.names_rows HP.out ak.out
  injection hO with hO _ hO2
  subst hO hO2
  have cp:=hid ac
  have fk:=hid hB
  clear ac hB
  go_wp2_with fail
  refine (zhO T A B NA c d ncap wr (HR.out.on hW) HP.out HC.out cp.out).mono ?_
  rintro e w7 ⟨hb,y,A',B',c',d',rfl,b1,b5⟩
  have hr:=br.out.of_block (hb.block rb br.out.lt)
  have dv:=zaD fk.out hb
  have r0:=hr.cell (i:=0) (by omega)
  have r1:=hr.cell (i:=1) (by omega)
  have z0:=hr.frozen 0
  have z1:=hr.frozen 1
  have q0:=hr.set 0 (.slice A' T.nw c')
  have q1:=q0.cell (i:=1) (by omega)
  rw [if_neg (by omega)] at q1
  have q2:=q0.frozen 1
  have q3:=q0.set 1 (.slice B' T.n d')
  have q4:=q3.cell (i:=0) (by omega)
  have q5:=q3.cell (i:=1) (by omega)
  rw [if_neg (by omega),if_pos rfl] at q4
  rw [if_pos rfl] at q5
  have cq:=hid b1
  have fl:=hid dv
  have cr:=hid ((b5.setCell (b:=rb) (i:=0) hr (by decide) (by decide) (by decide) (.slice A' T.nw c')).setCell (b:=rb) (i:=1) q0 (by decide) (by decide) (by decide) (.slice B' T.n d'))
  clear b1 b5 hr q0 q3 hb dv p0 p1
  go_wp2
  refine bodyPost_ret (v:=.tuple #[.agg #[.slice A' T.nw c',.slice B' T.n d'],.int .i64 0]) (by simp [results,Tryz.results78, go_sem,q4,q5]) rfl ?_
  refine ⟨(HS.out _ ((fl.out.setCell (p:=⟨rb,0,none⟩) (by rw [bt.out]; exact Nat.le_refl _) _).setCell (p:=⟨rb,1,none⟩) (by rw [bt.out]; exact Nat.le_refl _) _)).2,.inr ⟨fa.out,_,_,_,_,_,rfl,cq.out,cr.out⟩⟩
 have cb:(i:Int)<(T.n:Int):=by omega
 obtain ⟨eb,eo,E,ec,f5,f4,x0,f6,gc,ch,_⟩:=HR.out.sec hlt
 obtain ⟨ab,ao,hA,f7,x1,_⟩:=HR.out.width (i:=i+1) (by rw [e8.out]; omega)
 subst f5 hA
 have f3:=HP.out.shape.elb hlt
 obtain ⟨el,ai⟩:=exx (T.el i)
 have ea:=hid ai
 rw [<-ai] at x0 f6 ch f3
 have bw:=HP.out.shape.wid (i:=i+1) (by omega)
 obtain ⟨m,hm⟩:∃ m:Nat,m=(T.W (i+1)).toNat:=⟨_,rfl⟩
 have di:T.W (i+1)=(m:Int):=by omega
 rw [di] at x1
 have et:0<m:=by omega
 have fv:m<=65536:=by omega
 have HM:=hid hm
 have fh:=hid ch
 have x0r:=(hW.cell (p:=⟨eb,eo+i,none⟩) f4).trans x0
 have x1r:=(hW.cell (p:=⟨ab,ao+(i+1),none⟩) f7).trans x1
 have ev:(i:Int)+1<(T.nw:Int):=by have:=e8.out; omega
 have ew:(0:Int)<=(i:Int)+1:=by omega
 have ek:IntKind.i64.wrap ((i:Int)+1)=(i:Int)+1:=IntWalk.i64_in _ (by omega)
 have ep:((i:Int)+1).toNat=i+1:=by omega
 have es:=fun W=>zft m (by omega) W
 have b7:=fun W=>zaf (P:=Tryz.prog) 185 4 _ 1 Tryz.underlying185 Tryz.infoBool rfl (m:Int) (by omega) (by omega) (by omega) W
 simp only [Int.toNat_natCast] at b7
 clear ai hm di bw ch x0 x1
 go_upto_region 9 with fail
 have fq:=za6 hB
 obtain ⟨wa,en⟩:=exx wr
 subst en
 have bu:=aly wa (Obj.cells (madeCells #[.int .i64 0,.int .i64 0,.int .i64 0] (m*3)) 90)
 have bb:=zd9 wa m
 have c6:(wa.alloc (Obj.cells (madeCells #[.int .i64 0,.int .i64 0,.int .i64 0] (m*3)) 90)).heap.size=wa.heap.size+1:=by simp
 obtain ⟨lb,bm⟩:=exx wa.heap.size
 obtain ⟨w7,d4⟩:=exx (wa.alloc (Obj.cells (madeCells #[.int .i64 0,.int .i64 0,.int .i64 0] (m*3)) 90))
 rw [<-d4] at bu bb c6 ⊢;rw [<-c6];rw [<-bm] at bb ⊢
 have a2:=aly w7 (Obj.cells #[.slice (some ⟨lb,0,none⟩) m m] 86)
 have be:(w7.alloc (Obj.cells #[.slice (some ⟨lb,0,none⟩) m m] 86)).rowIs w7.heap.size 86 1 (fun _=>.slice (some ⟨lb,0,none⟩) m m):=World.rowIs_alloc w7 _ _ _ (fun i hi=>by
  match i,hi with
  | 0,_=>rfl)
 have c5:(w7.alloc (Obj.cells #[.slice (some ⟨lb,0,none⟩) m m] 86)).heap.size=w7.heap.size+1:=by simp
 obtain ⟨bx,dm⟩:=exx w7.heap.size
 obtain ⟨w8,d3⟩:=exx (w7.alloc (Obj.cells #[.slice (some ⟨lb,0,none⟩) m m] 86))
 rw [<-d3] at a2 be c5 ⊢;rw [<-dm] at be c5 ⊢
 have ce:=bb.of_block (a2.block lb bb.lt)
 have Z:=onS bu a2
 replace p0:=cellS Z p0;replace x1r:=cellS Z x1r
 have aq:Hid (wa.heap.size<=lb/\wa.heap.size<=bx):=by show _/\_; omega
 clear bu a2 d4 d3 bb c6 c5 es bm dm
 go_upto_region 10 with fail
 have bj:=World.rowIs_made w8 (.bool false) m 4
 have av:=aly w8 (Obj.cells (madeCells #[Value.bool false] m) 4)
 obtain ⟨sb,da⟩:=exx w8.heap.size
 obtain ⟨w9,cz⟩:=exx (w8.alloc (Obj.cells (madeCells #[Value.bool false] m) 4))
 rw [<-cz] at av bj ⊢;rw [<-da] at bj ⊢
 have ae:=(ce.of_block (av.block lb ce.lt)).congr (g:=eRow (T.lx (T.nm i) i 0)) fun k _=>by
  have:T.lx (T.nm i) i 0=fun _=>(0,0,0):=funext fun v=>Trel.lx_zero _ _ _ _
  rw [this]
 have a3:=be.of_block (av.block bx be.lt)
 have db:w9.rowIs sb 4 m (fun v=>.bool (T.sn (T.nm i) i 0 v)):=bj.congr fun v _=>by rw [Trel.sn_zero]
 have bg:=onS Z av
 have e0:Hid (wa.heap.size<=sb):=by show _<=_; have:=Z.size; omega
 have Q:Hid (LeastSt T i 0 lb bx sb m w9):=⟨ae,a3,db⟩
 have cv:=hid hB
 clear ce be bj ae a3 db av Z cz da b7 x1r p0 p1 hW x0r hB
 go_wp2
 go_loopg [45] el (fun gg jv wx=>∃ j:Nat,jv=.int .i64 (j:Nat)/\j<=el/\el<=j+gg/\Hid (LeastSt T i j lb bx sb m wx)/\Below wa.heap.size wa wx)
 case atStart=>exact ⟨0,rfl,by omega,by omega,Q,bg⟩
 clear Q bg
 obtain ⟨j,rfl,hj,fw,Q,hB⟩:=hrel
 have fx:(0:Int)<=(j:Int):=by omega
 have du:=zaD cv.out hB
 obtain ⟨_,hW⟩:=HS.out _ du
 by_cases hltj:j<el
 rotate_left
 ·have b8:¬ (j:Int)<(el:Int):=by omega
  obtain rfl:j=el:=by omega
  obtain ⟨l,s,o⟩:=Q.out
  rw [ea.out] at l
  have co:=hid (br.out.of_block (hB.block rb br.out.lt))
  have X:=ak.out.on hB
  have b0:=s.cell (i:=0) (by omega)
  have ff:Hid (∀ u v,u<m->v<m->(lessV (T.lx (T.nm i) i (T.el i) u).1 (T.lx (T.nm i) i (T.el i) u).2.1 (T.lx (T.nm i) i (T.el i) v).1 (T.lx (T.nm i) i (T.el i) v).2.1<0↔T.kt (T.nm i) i (T.el i) u<T.kt (T.nm i) i (T.el i) v)):=fun u v hu hv=>HP.out.lx_key hlt u v (by rw [<-HM.out]; exact hu) (by rw [<-HM.out]; exact hv)
  have fg:Hid (∀ a b,a<m->b<m->T.kt (T.nm i) i (T.el i) a=T.kt (T.nm i) i (T.el i) b->a=b):=fun a b ha hb e=>HP.out.keys hlt a b (by rw [<-HM.out]; exact ha) (by rw [<-HM.out]; exact hb) e
  have fd:Hid ((T.names (i+1)).length<=1048576):=by show _<=_; rw [T.names_len]; omega
  have cs:Hid (T.nrow (i+1)=(List.range m).map fun u=>(((rankOf (T.kt (T.nm i) i (T.el i)) m u:Nat)):Int)):=by
   show T.nrow (i+1)=_
   unfold Trel.nrow
   rw [<-HM.out]
   refine List.map_congr_left fun u _=>?_
   show ((rankOf (T.kt (T.nm i) i (T.el i)) (T.W (i+1)).toNat u:Nat):Int)=_
   rw [<-HM.out]
  obtain ⟨w6,aa⟩:=exx wr
  subst aa
  have fp:=cv.out.size
  have gb:=hB.size
  have ed:Hid (CmpB bx m (fun u v=>lessV (T.lx (T.nm i) i (T.el i) u).1 (T.lx (T.nm i) i (T.el i) u).2.1 (T.lx (T.nm i) i (T.el i) v).1 (T.lx (T.nm i) i (T.el i) v).2.1) w6):=fun W hW u v hu hv=>zfs bx lb m m (T.lx (T.nm i) i (T.el i)) W (cellS hW b0) (zaa l hW) u v hu hv
  have f8:=hid X
  have fm:=hid hB
  clear o Q X l s hB
  go_wp2_with fail
  refine (zhM bx m _ (T.kt (T.nm i) i (T.el i)) w6 ed.out ff.out fg.out et (by omega)).mono ?_
  rintro e w7 ⟨go,rfl,dj,ex,kb⟩
  have a2:=aly w7 (Obj.cells #[Value.slice (some ⟨go,0,none⟩) m m] 22)
  have dr:OwnL w7 bs (.slice (some ⟨go,0,none⟩) m m) (T.nrow (i+1)):=by
   rw [cs.out]
   exact zgy dj (by omega) (by unfold maxLen; omega)
  have fc:=hid (dr.on a2)
  have cl:=onS (onS fm.out kb) a2
  have X:=(f8.out.on kb).on a2
  have dt:=zaD cv.out cl
  have dz:=hid X
  have ee:=hid dt
  have aj:=hid ((co.out.of_block (kb.block rb co.out.lt)).of_block (a2.block rb (by have:=co.out.lt; have:=kb.size; omega)))
  have fi:Hid ((w7.alloc (Obj.cells #[Value.slice (some ⟨go,0,none⟩) m m] 22)).cell? ((⟨w7.heap.size,0,none⟩:Addr).add 0)=some (.slice (some ⟨go,0,none⟩) m m)):=tbox (Below.refl _ _) rfl
  have dx:Hid (bs<=(w7.alloc (Obj.cells #[Value.slice (some ⟨go,0,none⟩) m m] 22)).heap.size):=by show _<=_; have:=cl.size; omega
  clear dj ex kb a2 dr cl X dt ed b0
  go_wp2_with (first | (at_builtin; (refine zcq rfl (.tmp 86) (.tmp 91) rfl dz.out rfl (ad:=⟨w7.heap.size,0,none⟩) (c:=1) rfl fi.out rfl fc.out dx.out fd.out ?_); intro v9 w9 o1 o2))
  obtain ⟨RR,hA,_⟩:=dz.out
  have b6:=zae aj.out hA (by decide)
  have fb:=hid (aj.out.of_block (o2.block rb aj.out.lt fun e=>b6 e.symm))
  have a0:=hid (ee.out.grown o2 (by have:=ee.out.size; simpa using this) fun q e=>by have:=(hA.lt q e).1; omega)
  have ci:bs<=w9.heap.size:=Nat.le_trans dx.out o2.size
  rw [<-T.names_succ] at o1
  have f9:=hid o1
  clear hA b6 o1 o2
  go_wp2
  go_roundg (gI - 1)
  case measure=>omega
  case rel=>exact ⟨i+1,by go_num,by omega,by omega,f9,fb,a0.out,ci⟩
 have b8:(j:Int)<(el:Int):=by omega
 obtain ⟨b9,o9,rfl,a3,y0,y1,y2⟩:=zdd ((Rd.below fh.out hW (Nat.le_refl _)).mono hW.size) hltj
 have M:j<T.el i:=by rw [<-ea.out]; exact hltj
 have bi:=HP.out.toL hlt M
 have af:=HP.out.frL hlt M
 have cd:=(HP.out.sec i hlt).1 j M
 have L:0<=T.lb i j/\T.lb i j<256:=⟨cd.1,cd.2.1⟩
 have ca:=HP.out.nm_lt (i:=i) (by omega) af.1
 have aw:=(HP.out.shape.wid (i:=i) (by omega)).2
 obtain ⟨tn,bz⟩:=exx ((T.to i j).toNat)
 obtain ⟨fn,cg⟩:=exx ((T.fr i j).toNat)
 obtain ⟨lv,bl⟩:=exx (T.lb i j)
 rw [<-bz,<-HM.out] at bi;rw [<-cg] at af ca;rw [<-bl] at L;rw [<-bi.2] at y2;rw [<-af.2] at y0;rw [<-bl] at y1
 have a4:=bi.1
 have d9:(tn:Int)<(m:Int):=by omega
 obtain ⟨a1,bo⟩:=exx (T.nm i fn)
 have dl:T.code (T.nm i) i j=a1*256+lv.toNat:=by unfold Trel.code; rw [<-cg,<-bo,<-bl]
 rw [<-bo] at ca
 have V:a1<65536:=by omega
 obtain ⟨dp,eq,RA,rc,rfl,ga,s2,ah⟩:=(ak.out.on hB).readR (k:=i) (by rw [T.names_len]; omega)
 rw [T.names_get (by omega:i<i+1),T.nrow_len] at s2 
 rw [T.names_get (by omega:i<i+1)] at ah
 have de:=Own.rd ah rfl
 obtain ⟨nb,no,rfl,fu,s3⟩:=Rd.at1 de (i:=fn) (by rw [T.nrow_len]; exact af.1)
 have dc:listCell (T.nrow i) fn 0=.int .i64 (a1:Nat):=by
  show Value.int .i64 ((T.nrow i).getD fn 0)=_
  rw [T.nrow_get af.1,<-bo]
 rw [dc] at s3
 obtain ⟨Wi,dq⟩:=exx ((T.W i).toNat)
 rw [<-dq] at s2 af
 have ez:=af.1
 have dk:(fn:Int)<(Wi:Int):=by omega
 have ar:=hid dl
 have ap:=hid bz
 have fz:(i:Int)<(i:Int)+1:=by omega
 obtain ⟨l,s,o⟩:=Q.out
 have fs:=hB.size
 clear ah de dc bi af bz cg bl bo dl cd M aw ca Q dq
 go_upto_region 13 with fail
 obtain ⟨OB,bf⟩:=exx ((Obj.cells #[Value.int .i64 (fn:Nat),Value.int .i64 lv,Value.int .i64 (tn:Nat)] 90))
 rw [<-bf]
 have kb:=aly wr OB
 have c0:(wr.alloc OB).cell? ⟨wr.heap.size,0,none⟩=some (.int .i64 (fn:Nat)):=by subst bf; exact tbox (Below.refl _ _) rfl
 have c1:(wr.alloc OB).cell? ⟨wr.heap.size,1,none⟩=some (.int .i64 lv):=by subst bf; exact tbox (Below.refl _ _) rfl
 have c2:(wr.alloc OB).cell? ⟨wr.heap.size,2,none⟩=some (.int .i64 (tn:Nat)):=by subst bf; exact tbox (Below.refl _ _) rfl
 obtain ⟨w6,aa⟩:=exx (wr.alloc OB)
 have bm:=l.lt
 have eu:wr.heap.size<w6.heap.size:=by rw [aa]; simp
 obtain ⟨pb,b4⟩:=exx wr.heap.size
 rw [<-aa] at kb c0 c1 c2 ⊢;rw [<-b4] at c0 c1 c2 bm eu ⊢
 have e6:Hid (pb≠sb):=by
  have:=o.lt
  show _≠_
  omega
 replace l:=l.of_block (kb.block lb l.lt);replace s:=s.of_block (kb.block bx s.lt);replace o:=o.of_block (kb.block sb o.lt);replace s2:=cellS kb s2;replace s3:=cellS kb s3;replace hB:=onS hB kb;clear b4 aa bf kb y0 y1 y2 hW a3 du
 refine wp_region_held_drew (S:=fun w'=>w'.cell? ⟨dp,eq+i,none⟩=some (.slice (some ⟨nb,no,none⟩) Wi rc)/\w'.cell? ⟨nb,no+fn,none⟩=some (.int .i64 (a1:Nat))/\w'.cell? ⟨pb,0,none⟩=some (.int .i64 (fn:Nat))/\w'.cell? ⟨pb,1,none⟩=some (.int .i64 lv)) (by kernel_rfl) ⟨cellS (Below.refl _ _).drew s2,cellS (Below.refl _ _).drew s3,cellS (Below.refl _ _).drew c0,cellS (Below.refl _ _).drew c1⟩ (fun hHeld=>?_)
 obtain ⟨w7,hw,kb⟩:=dwx w6
 rw [<-hw] at hHeld ⊢;clear hw;replace l:=zaa l kb;replace s:=zaa s kb;replace o:=zaa o kb;replace hB:=onS hB kb;replace c2:=cellS kb c2;replace s2:=cellS kb s2;replace s3:=cellS kb s3;replace c0:=cellS kb c0;replace c1:=cellS kb c1;clear kb
 refine tkq 0 (h:=tkq 1 (h:=tkq 2 (h:=tkq 3 (h:=tkq 4 (h:=tkq 5 (h:=tkq 6 (h:=tkq 7 (h:=tkq 8 (h:=tkq 9 (h:=tkq 10 (h:=?_)))))))))))
 refine rdq 11 (h:=fun K hK=>?_)
 go_simp
 obtain ⟨w8,hw⟩:=exx (World.alloc w7 (Obj.cells #[.int .i64 0,.int .i64 0,.int .i64 0] 90))
 have kb:=alx hw
 have hq:w8.rowIs w7.heap.size 90 3 (fun _=>.int .i64 0):=by rw [hw]; exact World.rowIs_alloc w7 _ _ _ (fun i hi=>by
  match i,hi with
  | 0,_=>rfl
  | 1,_=>rfl
  | 2,_=>rfl)
 have hz:=c2
 replace hz:=World.block_lt_of_cell? _ _ hz
 have cy:=World.block_lt_of_cell? _ _ s2
 have cx:=World.block_lt_of_cell? _ _ s3
 have ej:=l.lt
 have ei:=s.lt
 have eh:=o.lt
 have eg:=hB.size
 rw [<-hw];clear hw
 obtain ⟨qb,b3⟩:=exx w7.heap.size
 rw [<-b3] at hq ⊢
 have e4:Hid (qb≠lb):=by show _≠_; omega
 have e3:Hid (qb≠sb):=by show _≠_; omega
 have a6:pb≠qb:=by rw [b3]; exact Nat.ne_of_lt hz
 have cf:dp≠qb:=by rw [b3]; exact Nat.ne_of_lt cy
 have c9:nb≠qb:=by rw [b3]; exact Nat.ne_of_lt cx
 have cc:lb≠qb:=by omega
 have cj:bx≠qb:=by omega
 have c3:sb≠qb:=by omega
 have bv:wa.heap.size<=qb:=by omega
 clear b3 hz cy cx ej ei eh eg;replace l:=zaa l kb;replace s:=zaa s kb;replace o:=zaa o kb;replace hB:=onS hB kb;replace c2:=cellS kb c2;replace s2:=cellS kb s2;replace s3:=cellS kb s3;replace c0:=cellS kb c0;replace c1:=cellS kb c1;clear kb
 refine bkq hK ⟨s2,s3,c0,c1⟩ (h:=fun hHeld=>?_)
 clear hK K
 refine rdq 12 (h:=fun K hK=>?_)
 have am:=hq.set 0 (.int .i64 (a1:Nat))
 have bk:=am.set 1 (.int .i64 lv)
 have dg:=bk.set 2 (.int .i64 0)
 have d0:=hq.cell (i:=0) (by omega)
 have z0:=hq.frozen 0
 have d1:=am.cell (i:=1) (by omega)
 have z1:=am.frozen 1
 have d2:=bk.cell (i:=2) (by omega)
 have z2:=bk.frozen 2
 have d51:=hq.cell (i:=1) (by omega)
 have z51:=hq.frozen 1
 have d52:=hq.cell (i:=2) (by omega)
 have z52:=hq.frozen 2
 have d62:=am.cell (i:=2) (by omega)
 have z62:=am.frozen 2
 have s2':=(zab (p:=⟨qb,2,none⟩) (u:=(.int .i64 0)) (zab (p:=⟨qb,1,none⟩) (u:=(.int .i64 lv)) (zab (p:=⟨qb,0,none⟩) (u:=(.int .i64 (a1:Nat))) s2 cf) cf) cf)
 have s3':=(zab (p:=⟨qb,2,none⟩) (u:=(.int .i64 0)) (zab (p:=⟨qb,1,none⟩) (u:=(.int .i64 lv)) (zab (p:=⟨qb,0,none⟩) (u:=(.int .i64 (a1:Nat))) s3 c9) c9) c9)
 have c0':=(zab (p:=⟨qb,2,none⟩) (u:=(.int .i64 0)) (zab (p:=⟨qb,1,none⟩) (u:=(.int .i64 lv)) (zab (p:=⟨qb,0,none⟩) (u:=(.int .i64 (a1:Nat))) c0 a6) a6) a6)
 have c1':=(zab (p:=⟨qb,2,none⟩) (u:=(.int .i64 0)) (zab (p:=⟨qb,1,none⟩) (u:=(.int .i64 lv)) (zab (p:=⟨qb,0,none⟩) (u:=(.int .i64 (a1:Nat))) c1 a6) a6) a6)
 have c2':=(zab (p:=⟨qb,2,none⟩) (u:=(.int .i64 0)) (zab (p:=⟨qb,1,none⟩) (u:=(.int .i64 lv)) (zab (p:=⟨qb,0,none⟩) (u:=(.int .i64 (a1:Nat))) c2 a6) a6) a6)
 have ba:=((l.setOther (a:=⟨qb,0,none⟩) (by simpa using cc) (.int .i64 (a1:Nat))).setOther (a:=⟨qb,1,none⟩) (by simpa using cc) (.int .i64 lv)).setOther (a:=⟨qb,2,none⟩) (by simpa using cc) (.int .i64 0)
 have bd:=((s.setOther (a:=⟨qb,0,none⟩) (by simpa using cj) (.int .i64 (a1:Nat))).setOther (a:=⟨qb,1,none⟩) (by simpa using cj) (.int .i64 lv)).setOther (a:=⟨qb,2,none⟩) (by simpa using cj) (.int .i64 0)
 have az:=((o.setOther (a:=⟨qb,0,none⟩) (by simpa using c3) (.int .i64 (a1:Nat))).setOther (a:=⟨qb,1,none⟩) (by simpa using c3) (.int .i64 lv)).setOther (a:=⟨qb,2,none⟩) (by simpa using c3) (.int .i64 0)
 have bq:=((hB.setCell (p:=⟨qb,0,none⟩) bv (.int .i64 (a1:Nat))).setCell (p:=⟨qb,1,none⟩) bv (.int .i64 lv)).setCell (p:=⟨qb,2,none⟩) bv (.int .i64 0)
 have e5:=hid dg
 have ef:=hid bq
 have e9:=hid ba
 have dy:=hid bd
 have e1:=hid az
 clear am bk dg hq l s o hB ba bd az bq s2 s3 c0 c1 c2
 go_simp
 clear d0 z0 d1 z1 d2 z2 d51 d52 d62 z51 z52 z62
 refine bkq hK ⟨s2',s3',c0',c1'⟩ (h:=fun hHeld=>?_)
 clear hK K
 refine wpAnyH_done (by kernel_rfl) ?_ _
 clear hHeld
 go_wp2_with fail
 obtain ⟨w20,ay⟩:∃ W,W=((w8.setCell ⟨qb,0,none⟩ (.int .i64 (a1:Nat))).setCell ⟨qb,1,none⟩ (.int .i64 lv)).setCell ⟨qb,2,none⟩ (.int .i64 0):=⟨_,rfl⟩
 have hq:=e5.out
 have hB:=ef.out
 have l:=e9.out
 have s:=dy.out
 have o:=e1.out
 rw [<-ay] at hq hB l s o c2' ⊢
 have q0:=hq.cell (i:=0) (by omega)
 have q1:=hq.cell (i:=1) (by omega)
 have q2:=hq.cell (i:=2) (by omega)
 rw [if_neg (by omega),if_neg (by omega),if_pos rfl] at q0
 rw [if_neg (by omega),if_pos rfl] at q1
 rw [if_pos rfl] at q2;clear ay e5 ef e9 dy e1 s2' s3' c0' c1' hq
 have HL:=hid l
 have HX:=hid s
 have cn:=hid o
 have cu:=hid hB
 have z0:=o.cell a4
 have b4:=World.block_lt_of_cell? _ _ c2'
 have b2:=World.block_lt_of_cell? _ _ q0
 clear l s o hB
 by_cases hsn:T.sn (T.nm i) i j tn=true
 rotate_left
 ·have c4:T.sn (T.nm i) i j tn=false:=by simpa using hsn
  rw [c4] at z0
  have ag:=hid (Trel.kt_new L ar.out V c4)
  clear hsn c4
  have C2:=hid c2'
  have Q0:=hid q0
  have Q1:=hid q1
  have Q2:=hid q2
  clear b4 b2 q0 q1 q2
  go_quiet (fail)
  go_upto_region 15 with fail
  obtain ⟨w21,C⟩:=exx (w20.drewN nq)
  rw [<-C]
  have kb:Below w20.heap.size w20 w21:=by rw [C]; exact zac (Below.refl _ _) _
  clear C c2' z0
  have l:=zaa HL.out kb
  have s:=zaa HX.out kb
  have o:=zaa cn.out kb
  have hB:=onS cu.out kb
  have c2:=cellS kb C2.out
  have q0:=cellS kb Q0.out
  have q1:=cellS kb Q1.out
  have q2:=cellS kb Q2.out
  have b0:=s.cell (i:=0) (by omega)
  have J:tn*3+2<m*3:=by omega
  clear kb
  refine wp_region_held_drew (S:=fun w'=>w'.cell? ⟨bx,0,none⟩=some (.slice (some ⟨lb,0,none⟩) m m)/\w'.cell? ⟨pb,2,none⟩=some (.int .i64 (tn:Nat))/\w'.cell? ⟨qb,0,none⟩=some (.int .i64 (a1:Nat))/\w'.cell? ⟨qb,1,none⟩=some (.int .i64 lv)/\w'.cell? ⟨qb,2,none⟩=some (.int .i64 0)) (by kernel_rfl) ⟨cellS (Below.refl _ _).drew b0,cellS (Below.refl _ _).drew c2,cellS (Below.refl _ _).drew q0,cellS (Below.refl _ _).drew q1,cellS (Below.refl _ _).drew q2⟩ (fun hHeld=>?_)
  obtain ⟨w22,hw,kb⟩:=dwx w21
  rw [<-hw] at hHeld ⊢;clear hw;replace l:=zaa l kb;replace s:=zaa s kb;replace o:=zaa o kb;replace hB:=onS hB kb;replace b0:=cellS kb b0;replace c2:=cellS kb c2;replace q0:=cellS kb q0;replace q1:=cellS kb q1;replace q2:=cellS kb q2;clear kb
  refine tkq 0 (h:=tkq 1 (h:=tkq 2 (h:=tkq 3 (h:=tkq 4 (h:=tkq 5 (h:=tkq 6 (h:=tkq 7 (h:=?_))))))))
  refine rdq 8 (h:=fun K hK=>?_)
  have h1:=l.set (tn*3) (.int .i64 (a1:Nat))
  have h2:=h1.set (tn*3+1) (.int .i64 lv)
  have d0:=l.cell (i:=tn*3) (by omega)
  have f0:=l.frozen (tn*3)
  have d1:=h1.cell (i:=tn*3+1) (by omega)
  have f1:=h1.frozen (tn*3+1)
  have d2:=h2.cell (i:=tn*3+2) J
  have f2:=h2.frozen (tn*3+2)
  have d51:=l.cell (i:=tn*3+1) (by omega)
  have f51:=l.frozen (tn*3+1)
  have d52:=l.cell (i:=tn*3+2) J
  have f52:=l.frozen (tn*3+2)
  have d62:=h1.cell (i:=tn*3+2) J
  have f62:=h1.frozen (tn*3+2)
  have z:Hid (bx≠lb/\pb≠lb/\qb≠lb):=⟨zaQ s l (by decide),by omega,e4.out⟩
  have N:Hid (bx≠sb/\pb≠sb/\qb≠sb):=⟨zaQ s o (by decide),e6.out,e3.out⟩
  have a7:=zaQ l o (by decide)
  have h9:=zhN (x':=T.lx (T.nm i) i (j+1)) l (fun v=>Trel.lx_take ap.out.symm L ar.out V ag.out v)
  have Y:=((hB.setCell (p:=⟨lb,tn*3,none⟩) aq.out.1 (.int .i64 (a1:Nat))).setCell (p:=⟨lb,tn*3+1,none⟩) aq.out.1 (.int .i64 lv)).setCell (p:=⟨lb,tn*3+2,none⟩) aq.out.1 (.int .i64 0)
  have U:=((s.setOther (a:=⟨lb,tn*3,none⟩) (by simpa using z.out.1) (.int .i64 (a1:Nat))).setOther (a:=⟨lb,tn*3+1,none⟩) (by simpa using z.out.1) (.int .i64 lv)).setOther (a:=⟨lb,tn*3+2,none⟩) (by simpa using z.out.1) (.int .i64 0)
  have R:=((o.setOther (a:=⟨lb,tn*3,none⟩) (by simpa using a7.symm) (.int .i64 (a1:Nat))).setOther (a:=⟨lb,tn*3+1,none⟩) (by simpa using a7.symm) (.int .i64 lv)).setOther (a:=⟨lb,tn*3+2,none⟩) (by simpa using a7.symm) (.int .i64 0)
  have b09:=(zab (p:=⟨lb,tn*3+2,none⟩) (u:=(.int .i64 0)) (zab (p:=⟨lb,tn*3+1,none⟩) (u:=(.int .i64 lv)) (zab (p:=⟨lb,tn*3,none⟩) (u:=(.int .i64 (a1:Nat))) b0 z.out.1) z.out.1) z.out.1)
  have c29:=(zab (p:=⟨lb,tn*3+2,none⟩) (u:=(.int .i64 0)) (zab (p:=⟨lb,tn*3+1,none⟩) (u:=(.int .i64 lv)) (zab (p:=⟨lb,tn*3,none⟩) (u:=(.int .i64 (a1:Nat))) c2 z.out.2.1) z.out.2.1) z.out.2.1)
  have q09:=(zab (p:=⟨lb,tn*3+2,none⟩) (u:=(.int .i64 0)) (zab (p:=⟨lb,tn*3+1,none⟩) (u:=(.int .i64 lv)) (zab (p:=⟨lb,tn*3,none⟩) (u:=(.int .i64 (a1:Nat))) q0 z.out.2.2) z.out.2.2) z.out.2.2)
  have q19:=(zab (p:=⟨lb,tn*3+2,none⟩) (u:=(.int .i64 0)) (zab (p:=⟨lb,tn*3+1,none⟩) (u:=(.int .i64 lv)) (zab (p:=⟨lb,tn*3,none⟩) (u:=(.int .i64 (a1:Nat))) q1 z.out.2.2) z.out.2.2) z.out.2.2)
  have q29:=(zab (p:=⟨lb,tn*3+2,none⟩) (u:=(.int .i64 0)) (zab (p:=⟨lb,tn*3+1,none⟩) (u:=(.int .i64 lv)) (zab (p:=⟨lb,tn*3,none⟩) (u:=(.int .i64 (a1:Nat))) q2 z.out.2.2) z.out.2.2) z.out.2.2)
  have H9:=hid h9
  have a0:=hid Y
  have a8:=hid U
  have a9:=hid R
  have I:=hid b09
  have H:=hid c29
  have G:=hid q09
  have F:=hid q19
  have D:=hid q29
  clear h9 Y U R h1 h2 l s o hB b09 c29 q09 q19 q29
  go_simp
  clear d0 f0 d1 f1 d2 f2 d51 f51 d52 f52 d62 f62 b0 c2 q0 q1 q2
  obtain ⟨w23,ax⟩:∃ W,W=((World.setCell w22 ⟨lb,tn*3,none⟩ (.int .i64 (a1:Nat))).setCell ⟨lb,tn*3+1,none⟩ (.int .i64 lv)).setCell ⟨lb,tn*3+2,none⟩ (.int .i64 0):=⟨_,rfl⟩
  have l:=H9.out
  have hB:=a0.out
  have s:=a8.out
  have o:=a9.out
  have b0:=I.out
  have c2:=H.out
  have q0:=G.out
  have q1:=F.out
  have q2:=D.out
  rw [<-ax] at l hB s o b0 c2 q0 q1 q2 ⊢;clear ax H9 a0 a8 a9 I H G F D
  refine bkq hK ⟨b0,c2,q0,q1,q2⟩ (h:=fun hHeld=>?_)
  clear hK K
  refine tkq 9 (h:=?_)
  refine rdq 10 (h:=fun K hK=>?_)
  have h1:=o.set tn (.bool true)
  have y0:=o.cell a4
  have y1:=o.frozen tn
  have Y:=hB.setCell (p:=⟨sb,tn,none⟩) e0.out (.bool true)
  have ae:=l.setOther (a:=⟨sb,tn,none⟩) (by simpa using a7) (.bool true)
  have a3:=s.setOther (a:=⟨sb,tn,none⟩) (by simpa using N.out.1) (.bool true)
  have b09:=zab (p:=⟨sb,tn,none⟩) (u:=(.bool true)) b0 N.out.1
  have c29:=zab (p:=⟨sb,tn,none⟩) (u:=(.bool true)) c2 N.out.2.1
  have q09:=zab (p:=⟨sb,tn,none⟩) (u:=(.bool true)) q0 N.out.2.2
  have q19:=zab (p:=⟨sb,tn,none⟩) (u:=(.bool true)) q1 N.out.2.2
  have q29:=zab (p:=⟨sb,tn,none⟩) (u:=(.bool true)) q2 N.out.2.2
  have a9:=hid h1
  have a0:=hid Y
  have ct:=hid ae
  have a8:=hid a3
  have I:=hid b09
  have H:=hid c29
  have G:=hid q09
  have F:=hid q19
  have D:=hid q29
  clear h1 Y ae a3 l s o hB b0 c2 q0 q1 q2 b09 c29 q09 q19 q29
  go_simp
  clear y0 y1
  refine bkq hK ⟨I.out,H.out,G.out,F.out,D.out⟩ (h:=fun hHeld=>?_)
  clear hK K
  refine wpAnyH_done (by kernel_rfl) ?_ _
  clear hHeld
  go_wp2
  go_roundg (gk - 1)
  case measure=>omega
  refine ⟨j+1,by go_num,by omega,by omega,⟨ct.out,a8.out,a9.out.congr fun v _=>?_⟩,a0.out⟩
  rw [Trel.sn_take ap.out.symm L ar.out V ag.out v]
  by_cases e:v=tn
  ·rw [if_pos e,if_pos e]
  ·rw [if_neg e,if_neg e]
 obtain ⟨l0,l1,l2⟩:=zhL HL.out a4
 have Q:=hid (Trel.lx_less (T:=T) (f:=T.nm i) (i:=i) (j:=j) (tn:=tn) L ar.out hsn)
 rw [hsn] at z0
 obtain ⟨v1,d8⟩:=exx ((T.lx (T.nm i) i j tn).1)
 obtain ⟨v2,d7⟩:=exx ((T.lx (T.nm i) i j tn).2.1)
 obtain ⟨v3,d6⟩:=exx ((T.lx (T.nm i) i j tn).2.2)
 rw [<-d8] at l0 Q;rw [<-d7] at l1 Q;rw [<-d6] at l2
 have x0:=HX.out.cell (i:=0) (by omega)
 have hc:=fun W=>zjh (a1:Nat) lv 0 v1 v2 v3 W
 have bc:∀ W,Calls Tryz.prog 151 #[.agg #[.int .i64 (a1:Nat),.int .i64 lv,.int .i64 0],.agg #[.int .i64 v1,.int .i64 v2,.int .i64 v3]] W fun e w'=>e=.returned (.int .i64 (lessV (a1:Nat) lv v1 v2))/\∃ q os',w'=Go.Sort.grow (W.drewN q) os':=hc
 obtain ⟨r,hr⟩:=exx (lessV (a1:Nat) lv v1 v2)
 rw [<-hr] at Q bc
 have mixed:Tryz.prog.follows .mixedOrders=true:=by kernel_rfl
 have g0:=fun k os=>_root_.Go.cell_grown (World.block_lt_of_cell? _ _ c2') c2' k os
 have g1:=fun k os=>_root_.Go.cell_grown (World.block_lt_of_cell? _ _ z0) z0 k os
 have g2:=fun k os=>_root_.Go.cell_grown (World.block_lt_of_cell? _ _ q0) q0 k os
 have g3:=fun k os=>_root_.Go.cell_grown (World.block_lt_of_cell? _ _ q1) q1 k os
 have g4:=fun k os=>_root_.Go.cell_grown (World.block_lt_of_cell? _ _ q2) q2 k os
 have g5:=fun k os=>_root_.Go.cell_grown (World.block_lt_of_cell? _ _ x0) x0 k os
 have g6:=fun k os=>_root_.Go.cell_grown (World.block_lt_of_cell? _ _ l0) l0 k os
 have g7:=fun k os=>_root_.Go.cell_grown (World.block_lt_of_cell? _ _ l1) l1 k os
 have g8:=fun k os=>_root_.Go.cell_grown (World.block_lt_of_cell? _ _ l2) l2 k os
 have C2:=hid c2'
 have Q0:=hid q0
 have Q1:=hid q1
 have Q2:=hid q2
 clear hc hr d8 d7 d6 l0 l1 l2 z0 x0 c2' q0 q1 q2 b4 b2 hsn
 by_cases hlz:r<0
 rotate_left
 ·have ag:=hid fun e=>hlz (Q.out.2 e)
  go_quiet_grown (first | (go_at_call 151; refine Calls.grown_of (bc _)))
  go_wp2
  obtain ⟨w21,C⟩:=exx (Go.Sort.grow (w20.drewN nq) osq)
  rw [<-C]
  have kb:Below w20.heap.size w20 w21:=GG.below ⟨nq,osq,C⟩
  have fe:Hid (LeastSt T i (j+1) lb bx sb m w21):=by
   refine LeastSt.on (w:=w20) ⟨HL.out.congr fun k _=>?_,HX.out,cn.out.congr fun v _=>?_⟩ kb
   ·have:T.lx (T.nm i) i (j+1)=T.lx (T.nm i) i j:=funext fun v=>Trel.lx_skip ap.out.symm ag.out v
    rw [this]
   ·rw [Trel.sn_skip ap.out.symm ag.out v]
  have fj:=hid (onS cu.out kb)
  clear kb C g0 g1 g2 g3 g4 g5 g6 g7 g8 bc
  go_roundg (gk - 1)
  case measure=>omega
  case rel=>exact ⟨j+1,by go_num,by omega,by omega,fe,fj.out⟩
 have ag:=hid (Q.out.1 hlz)
 go_quiet_grown (first | (go_at_call 151; refine Calls.grown_of (bc _)))
 go_upto_region 15 with fail
 obtain ⟨w21,C⟩:=exx (Go.Sort.grow (w20.drewN nq) osq)
 rw [<-C]
 have kb:Below w20.heap.size w20 w21:=GG.below ⟨nq,osq,C⟩
 clear C g0 g1 g2 g3 g4 g5 g6 g7 g8 bc
 have l:=zaa HL.out kb
 have s:=zaa HX.out kb
 have o:=zaa cn.out kb
 have hB:=onS cu.out kb
 have c2:=cellS kb C2.out
 have q0:=cellS kb Q0.out
 have q1:=cellS kb Q1.out
 have q2:=cellS kb Q2.out
 have b0:=s.cell (i:=0) (by omega)
 have J:tn*3+2<m*3:=by omega
 clear kb
 refine wp_region_held_drew (S:=fun w'=>w'.cell? ⟨bx,0,none⟩=some (.slice (some ⟨lb,0,none⟩) m m)/\w'.cell? ⟨pb,2,none⟩=some (.int .i64 (tn:Nat))/\w'.cell? ⟨qb,0,none⟩=some (.int .i64 (a1:Nat))/\w'.cell? ⟨qb,1,none⟩=some (.int .i64 lv)/\w'.cell? ⟨qb,2,none⟩=some (.int .i64 0)) (by kernel_rfl) ⟨cellS (Below.refl _ _).drew b0,cellS (Below.refl _ _).drew c2,cellS (Below.refl _ _).drew q0,cellS (Below.refl _ _).drew q1,cellS (Below.refl _ _).drew q2⟩ (fun hHeld=>?_)
 obtain ⟨w22,hw,kb⟩:=dwx w21
 rw [<-hw] at hHeld ⊢;clear hw;replace l:=zaa l kb;replace s:=zaa s kb;replace o:=zaa o kb;replace hB:=onS hB kb;replace b0:=cellS kb b0;replace c2:=cellS kb c2;replace q0:=cellS kb q0;replace q1:=cellS kb q1;replace q2:=cellS kb q2;clear kb
 refine tkq 0 (h:=tkq 1 (h:=tkq 2 (h:=tkq 3 (h:=tkq 4 (h:=tkq 5 (h:=tkq 6 (h:=tkq 7 (h:=?_))))))))
 refine rdq 8 (h:=fun K hK=>?_)
 have h1:=l.set (tn*3) (.int .i64 (a1:Nat))
 have h2:=h1.set (tn*3+1) (.int .i64 lv)
 have d0:=l.cell (i:=tn*3) (by omega)
 have f0:=l.frozen (tn*3)
 have d1:=h1.cell (i:=tn*3+1) (by omega)
 have f1:=h1.frozen (tn*3+1)
 have d2:=h2.cell (i:=tn*3+2) J
 have f2:=h2.frozen (tn*3+2)
 have d51:=l.cell (i:=tn*3+1) (by omega)
 have f51:=l.frozen (tn*3+1)
 have d52:=l.cell (i:=tn*3+2) J
 have f52:=l.frozen (tn*3+2)
 have d62:=h1.cell (i:=tn*3+2) J
 have f62:=h1.frozen (tn*3+2)
 have z:Hid (bx≠lb/\pb≠lb/\qb≠lb):=⟨zaQ s l (by decide),by omega,e4.out⟩
 have N:Hid (bx≠sb/\pb≠sb/\qb≠sb):=⟨zaQ s o (by decide),e6.out,e3.out⟩
 have a7:=zaQ l o (by decide)
 have h9:=zhN (x':=T.lx (T.nm i) i (j+1)) l (fun v=>Trel.lx_take ap.out.symm L ar.out V ag.out v)
 have Y:=((hB.setCell (p:=⟨lb,tn*3,none⟩) aq.out.1 (.int .i64 (a1:Nat))).setCell (p:=⟨lb,tn*3+1,none⟩) aq.out.1 (.int .i64 lv)).setCell (p:=⟨lb,tn*3+2,none⟩) aq.out.1 (.int .i64 0)
 have U:=((s.setOther (a:=⟨lb,tn*3,none⟩) (by simpa using z.out.1) (.int .i64 (a1:Nat))).setOther (a:=⟨lb,tn*3+1,none⟩) (by simpa using z.out.1) (.int .i64 lv)).setOther (a:=⟨lb,tn*3+2,none⟩) (by simpa using z.out.1) (.int .i64 0)
 have R:=((o.setOther (a:=⟨lb,tn*3,none⟩) (by simpa using a7.symm) (.int .i64 (a1:Nat))).setOther (a:=⟨lb,tn*3+1,none⟩) (by simpa using a7.symm) (.int .i64 lv)).setOther (a:=⟨lb,tn*3+2,none⟩) (by simpa using a7.symm) (.int .i64 0)
 have b09:=(zab (p:=⟨lb,tn*3+2,none⟩) (u:=(.int .i64 0)) (zab (p:=⟨lb,tn*3+1,none⟩) (u:=(.int .i64 lv)) (zab (p:=⟨lb,tn*3,none⟩) (u:=(.int .i64 (a1:Nat))) b0 z.out.1) z.out.1) z.out.1)
 have c29:=(zab (p:=⟨lb,tn*3+2,none⟩) (u:=(.int .i64 0)) (zab (p:=⟨lb,tn*3+1,none⟩) (u:=(.int .i64 lv)) (zab (p:=⟨lb,tn*3,none⟩) (u:=(.int .i64 (a1:Nat))) c2 z.out.2.1) z.out.2.1) z.out.2.1)
 have q09:=(zab (p:=⟨lb,tn*3+2,none⟩) (u:=(.int .i64 0)) (zab (p:=⟨lb,tn*3+1,none⟩) (u:=(.int .i64 lv)) (zab (p:=⟨lb,tn*3,none⟩) (u:=(.int .i64 (a1:Nat))) q0 z.out.2.2) z.out.2.2) z.out.2.2)
 have q19:=(zab (p:=⟨lb,tn*3+2,none⟩) (u:=(.int .i64 0)) (zab (p:=⟨lb,tn*3+1,none⟩) (u:=(.int .i64 lv)) (zab (p:=⟨lb,tn*3,none⟩) (u:=(.int .i64 (a1:Nat))) q1 z.out.2.2) z.out.2.2) z.out.2.2)
 have q29:=(zab (p:=⟨lb,tn*3+2,none⟩) (u:=(.int .i64 0)) (zab (p:=⟨lb,tn*3+1,none⟩) (u:=(.int .i64 lv)) (zab (p:=⟨lb,tn*3,none⟩) (u:=(.int .i64 (a1:Nat))) q2 z.out.2.2) z.out.2.2) z.out.2.2)
 have H9:=hid h9
 have a0:=hid Y
 have a8:=hid U
 have a9:=hid R
 have I:=hid b09
 have H:=hid c29
 have G:=hid q09
 have F:=hid q19
 have D:=hid q29
 clear h9 Y U R h1 h2 l s o hB b09 c29 q09 q19 q29
 go_simp
 clear d0 f0 d1 f1 d2 f2 d51 f51 d52 f52 d62 f62 b0 c2 q0 q1 q2
 obtain ⟨w23,ax⟩:∃ W,W=((World.setCell w22 ⟨lb,tn*3,none⟩ (.int .i64 (a1:Nat))).setCell ⟨lb,tn*3+1,none⟩ (.int .i64 lv)).setCell ⟨lb,tn*3+2,none⟩ (.int .i64 0):=⟨_,rfl⟩
 have l:=H9.out
 have hB:=a0.out
 have s:=a8.out
 have o:=a9.out
 have b0:=I.out
 have c2:=H.out
 have q0:=G.out
 have q1:=F.out
 have q2:=D.out
 rw [<-ax] at l hB s o b0 c2 q0 q1 q2 ⊢;clear ax H9 a0 a8 a9 I H G F D
 refine bkq hK ⟨b0,c2,q0,q1,q2⟩ (h:=fun hHeld=>?_)
 clear hK K
 refine tkq 9 (h:=?_)
 refine rdq 10 (h:=fun K hK=>?_)
 have h1:=o.set tn (.bool true)
 have y0:=o.cell a4
 have y1:=o.frozen tn
 have Y:=hB.setCell (p:=⟨sb,tn,none⟩) e0.out (.bool true)
 have ae:=l.setOther (a:=⟨sb,tn,none⟩) (by simpa using a7) (.bool true)
 have a3:=s.setOther (a:=⟨sb,tn,none⟩) (by simpa using N.out.1) (.bool true)
 have b09:=zab (p:=⟨sb,tn,none⟩) (u:=(.bool true)) b0 N.out.1
 have c29:=zab (p:=⟨sb,tn,none⟩) (u:=(.bool true)) c2 N.out.2.1
 have q09:=zab (p:=⟨sb,tn,none⟩) (u:=(.bool true)) q0 N.out.2.2
 have q19:=zab (p:=⟨sb,tn,none⟩) (u:=(.bool true)) q1 N.out.2.2
 have q29:=zab (p:=⟨sb,tn,none⟩) (u:=(.bool true)) q2 N.out.2.2
 have a9:=hid h1
 have a0:=hid Y
 have ct:=hid ae
 have a8:=hid a3
 have I:=hid b09
 have H:=hid c29
 have G:=hid q09
 have F:=hid q19
 have D:=hid q29
 clear h1 Y ae a3 l s o hB b0 c2 q0 q1 q2 b09 c29 q09 q19 q29
 go_simp
 clear y0 y1
 refine bkq hK ⟨I.out,H.out,G.out,F.out,D.out⟩ (h:=fun hHeld=>?_)
 clear hK K
 refine wpAnyH_done (by kernel_rfl) ?_ _
 clear hHeld
 go_wp2
 go_roundg (gk - 1)
 case measure=>omega
 refine ⟨j+1,by go_num,by omega,by omega,⟨ct.out,a8.out,a9.out.congr fun v _=>?_⟩,a0.out⟩
 rw [Trel.sn_take ap.out.symm L ar.out V ag.out v]
 by_cases e:v=tn
 ·rw [if_pos e,if_pos e]
 ·rw [if_neg e,if_neg e]
open Go.ChangeShapes Go.WideShapes Go.ChangeAt
theorem Trel.Shape.E0 {T:Trel} (h:T.Shape):T.shapeE=0:=by
 have h1:=h.n64
 have h2:=h.nw
 have h3:=h.sW
 have h4:=h.sE
 unfold Trel.shapeE
 rw [if_neg (by omega),if_neg (by simp only [Decidable.not_not]; exact fun i hi=>h.w1 i (by omega)),if_neg (by rw [h2]; omega),if_neg (by omega),if_neg (by simp only [Decidable.not_not]; exact h.ins)]
theorem Trel.Proper.E0 {T:Trel} (h:T.Proper):T.properE=0:=Trel.properE_ok h.shape.E0 h.w0 h.wn h.sec
theorem ETab.kept {w w':World} {base n:Nat} {v:Value} {el:Nat->Nat} {y:Nat->Nat->Int × Int × Int} (h:ETab w base v n el y) {m:Nat} {z:Value} {f:Nat->Nat->Value} (ho:Own w base 3 1 z m f) (hg:w.grownBy w' z.ownBlock):ETab w' base v n el y:=by
 obtain ⟨R,h1,h2⟩:=h
 exact ⟨R,h1.kept hg (za4 ho h1 (by decide)),fun i hi=>(h2 i hi).kept hg (za4 ho (h2 i hi) (by decide))⟩
theorem ETab.own {w:World} {base n:Nat} {v:Value} {el:Nat->Nat} {y:Nat->Nat->Int × Int × Int} (h:ETab w base v n el y):∃ R:Nat->Value,Own w base 86 1 v n (fun i _=>R i):=⟨h.choose,h.choose_spec.1⟩
def MinPost (P M : Int) (k : Nat) (f : Nat → Int) (N : Int) (n : Nat) (ln : Nat → Nat) (V : Nat → Nat → Int) (w : World) (e : Ending) (w' : World) : Prop :=
  Below w.heap.size w w'/\∃ u,FirstErr (CodeErrs P M k f N n ln V) u/\((u≠0/\e=.returned (.tuple #[.agg #[.slice none 0 0,.slice none 0 0],.int .i64 u])) ∨
    (u = 0 ∧ ∃ P' M' N' : Nat, P = P' ∧ M = M' ∧ N = N' ∧ ∃ pv R, SpanF (P' ^ M') n N' pv R ∧ SameSp (P' ^ M') (addF P' M') (mulF P' M' fun i => (f i).toNat) N' n n (natT V) R ∧ (∀ i j, i < j → j < n → lE (R i) N' ≠ lE (R j) N') ∧
      ((¬ SizeIn (P' ^ M') n N' pv R/\e=.returned (.tuple #[.agg #[.slice none 0 0,.slice none 0 0],.int .i64 8])) ∨
       (SizeIn (P' ^ M') n N' pv R/\∃ T y A B c d,MinT (P' ^ M') (addF P' M') (mulF P' M' fun i=>(f i).toNat) n N' pv R T/\T.Proper/\IsRen T y/\RenOut T y w' A B c d/\e=.returned (.tuple #[.agg #[.slice A T.nw c,.slice B T.n d],.int .i64 0])))))
theorem zdF (P M:Int) (A:Option Addr) (k c:Nat) (f:Nat->Int) (N:Int) (TC:Option Addr) (n d:Nat) (ln:Nat->Nat) (V:Nat->Nat->Int) (w:World) (hr:IntsR w w.heap.size A k f) (h:IntRows w TC n ln V) :
  Calls Tryz.prog 30 #[.agg #[.int .i64 P,.int .i64 M,.slice A k c,.int .i64 N,.slice TC n d]] w (MinPost P M k f N n ln V w):=by
 have HI:=hid hr
 have HT:=hid h
 clear hr h
 obtain ⟨wa,av,bw,rf0⟩:=zaG w (.int .i64 P) (.int .i64 M) (.slice A k c) (.int .i64 N) (.slice TC n d) 27
 have ay:wa.heap.size=w.heap.size+1:=by rw [av]; simp
 have rr:(wa.alloc (Obj.cells #[.slice none 0 0,.slice none 0 0] 53)).rowIs wa.heap.size 53 2 (fun _=>.slice none 0 0):=World.rowIs_alloc wa _ _ _ (fun i hi=>by
  match i,hi with
  | 0,_=>rfl
  | 1,_=>rfl)
 have kb:=aly wa (Obj.cells #[.slice none 0 0,.slice none 0 0] 53)
 obtain ⟨w1,ak⟩:=exx (wa.alloc (Obj.cells #[.slice none 0 0,.slice none 0 0] 53))
 have bj:w1.heap.size=w.heap.size+2:=by rw [ak]; simp [ay]
 rw [<-ak] at rr kb
 have rf:=zaa rf0 kb
 have hB:=onS bw kb
 clear kb bw rf0
 go_enter Tryz.func30, Tryz.ntmps30
 go_upto_region 1 with fail
 rw [<-av];rw [<-ak];rw [ay] at rr;clear ak av ay
 obtain ⟨b0,a7⟩:=exx w.heap.size
 rw [<-a7] at rf;rw [<-a7]
 obtain ⟨rb,bl⟩:=exx (b0+1)
 rw [<-a7] at rr bj;rw [<-bl] at rr ⊢
 have be:Hid (b0=w.heap.size/\rb=w.heap.size+1/\w1.heap.size=w.heap.size+2):=hid ⟨a7,by omega,by omega⟩
 clear a7 bl bj
 have o:Hid (∀ X,Below w1.heap.size w1 X->(X.cell? ⟨b0,0,none⟩=some (.int .i64 P)/\X.cell? ⟨b0,1,none⟩=some (.int .i64 M)/\X.cell? ⟨b0,2,none⟩=some (.slice A k c)/\X.cell? ⟨b0,3,none⟩=some (.int .i64 N)/\X.cell? ⟨b0,4,none⟩=some (.slice TC n d))):=hid fun X hx =>
  ⟨(zaa rf hx).cell (i:=0) (by omega),(zaa rf hx).cell (i:=1) (by omega),(zaa rf hx).cell (i:=2) (by omega),(zaa rf hx).cell (i:=3) (by omega),(zaa rf hx).cell (i:=4) (by omega)⟩
 have ba:=hid rr
 have HB:=hid hB
 clear hB rf rr
 obtain ⟨q0,q1,q2,q3,q4⟩:=o.out _ (Below.refl _ _)
 go_wp2_with fail
 refine (ziL P M A k c f N TC n d ln V w1 (HI.out.on HB.out) (HT.out.on HB.out)).mono ?_
 rintro e w2 ⟨kb,u,hu,he⟩
 have HU:=hid hu
 have KB:=hid kb
 clear kb hu q0 q1 q2 q3 q4
 rcases he with ⟨ax,rfl⟩ | ⟨rfl,P',M',N',rfl,rfl,rfl,g,F,pv,R,rfl,hg,a8,b5,br,bu⟩
 ·have ci:(u != 0)=true:=by simpa using ax
  have ct:=hid ax
  clear ax
  have z:=zaa ba.out KB.out
  have r0:=z.cell (i:=0) (by omega)
  have r1:=z.cell (i:=1) (by omega)
  have z0:=z.frozen 0
  have z1:=z.frozen 1
  have p0:=z.set 0 (.slice none 0 0)
  have p1:=p0.cell (i:=1) (by omega)
  rw [if_neg (by omega)] at p1
  have p2:=p0.frozen 1
  have p3:=p0.set 1 (.slice none 0 0)
  have p4:=p3.cell (i:=0) (by omega)
  have p5:=p3.cell (i:=1) (by omega)
  rw [if_neg (by omega),if_pos rfl] at p4
  rw [if_pos rfl] at p5;clear p0 p3 z
  go_wp2
  refine bodyPost_ret (v:=.tuple #[.agg #[.slice none 0 0,.slice none 0 0],.int .i64 u]) (by simp [results,Tryz.results30, go_sem,p4,p5]) rfl ?_
  have I:w.heap.size<=rb:=by have:=be.out.2.1; omega
  exact ⟨((onS HB.out KB.out).setCell (p:=⟨rb,0,none⟩) I _).setCell (p:=⟨rb,1,none⟩) I _,u,HU.out,.inl ⟨ct.out,rfl⟩⟩
 obtain ⟨P2,M2,N2,e1,e2,e3,hC⟩:=zbB HI.out HT.out HU.out
 obtain rfl:P'=P2:=by omega
 obtain rfl:M'=M2:=by omega
 obtain rfl:N'=N2:=by omega
 have HC:=hid hC
 have W:=hC.ln2
 have cy:=hC.n_le
 have a5:=hC.fld
 clear hC e1 e2 e3
 have am:=hid b5
 have c1:=hid br
 have ca:=hid bu
 have an:Hid (IntRows w2 (some ⟨g,0,none⟩) n (fun _=>N') (fun i j=>((R i j:Nat):Int))):=hid (a8.rows fun v hv j hj=>by
  have h1:=b5.lt v hv j hj
  have h2:=a5.1.2.2.2
  omega)
 clear a8 b5 br bu hg
 have ci:((0:Int) != 0)=false:=by simp
 obtain ⟨q0,q1,q2,q3,q4⟩:=o.out _ KB.out
 go_wp2_with fail
 refine (zcg (P':Int) (M':Int) A k c f w2 (HI.out.on (onS HB.out KB.out))).mono ?_
 rintro e w3 ⟨kb,l⟩
 rcases l with ⟨b2,_⟩ | ⟨_,gf,P2,M2,cq,cr,rfl,_,hG⟩
 ·refine absurd ?_ b2
  rcases HU.out with ⟨_,h9⟩ | ⟨h1,_⟩
  ·cases h9
  ·exact h1
 obtain rfl:P'=P2:=by omega
 obtain rfl:M'=M2:=by omega
 have HG:=hid hG.gf
 replace an:=hid (an.out.on kb);replace KB:=hid (onS KB.out kb);clear kb q0 q1 q2 q3 q4 cq cr hG
 obtain ⟨q,hq⟩:=exx (P' ^ M')
 have HQ:=hid hq
 have cn:2<=q:=by rw [hq]; exact (fieldLaws a5).two
 have a3:q<=256:=by rw [hq]; exact a5.1.2.2.2
 clear hq
 have b9:Hid (SpanF q n N' pv R):=hid (by rw [HQ.out]; exact am.out)
 obtain ⟨q0,q1,q2,q3,q4⟩:=o.out _ KB.out
 go_upto_region 5 with fail
 clear q0 q1 q2 q3 q4
 refine wp_region_held_drew (S:=fun X=>(X.cell? ⟨b0,0,none⟩=some (.int .i64 (P':Int))/\X.cell? ⟨b0,1,none⟩=some (.int .i64 (M':Int))/\X.cell? ⟨b0,2,none⟩=some (.slice A k c)/\X.cell? ⟨b0,3,none⟩=some (.int .i64 (N':Int))/\X.cell? ⟨b0,4,none⟩=some (.slice TC n d))) (by kernel_rfl) (o.out _ (onS KB.out (Below.refl _ _).drew)) (fun hHeld=>?_)
 obtain ⟨w4,hw,kb⟩:=dwx w3
 rw [<-hw] at hHeld ⊢;clear hw
 have K3:=hid kb
 clear kb
 refine tkq 0 (h:=tkq 2 (h:=tkq 3 (h:=tkq 4 (h:=?_))))
 clear hHeld
 refine rdq 1 (h:=fun K hK=>?_)
 go_simp
 go_wp2_with fail
 refine (zfN (HG.out.on K3.out)).mono ?_
 rintro e w5 ⟨he,kb⟩
 rw [<-HQ.out] at he
 subst he
 replace K3:=hid (onS K3.out kb);clear kb
 refine bkq hK (o.out _ (onS KB.out K3.out)) (h:=fun hHeld=>?_)
 clear hK K hHeld
 refine rdq 5 (h:=fun K hK=>?_)
 go_simp
 go_wp2_with fail
 refine (zjZ q n N' pv R (some ⟨g,0,none⟩) n w5 (an.out.on K3.out) b9.out cn a3 (by omega) W).mono ?_
 rintro e w6 ⟨l,kb⟩
 have co:∃ ev:Int,e=.returned (.int .i64 ev)/\((SizeIn q n N' pv R/\ev=0)∨(¬ SizeIn q n N' pv R/\ev=8)):=by
  rcases l with ⟨h1,h2⟩ | ⟨h1,h2⟩
  ·exact ⟨_,h2,.inl ⟨h1,rfl⟩⟩
  ·exact ⟨_,h2,.inr ⟨h1,rfl⟩⟩
 obtain ⟨ev,rfl,bn⟩:=co
 have bd:=hid bn
 replace K3:=hid (onS K3.out kb);clear kb bn l
 refine bkq hK (o.out _ (onS KB.out K3.out)) (h:=fun hHeld=>?_)
 clear hK K
 refine tkq 6 (h:=?_)
 refine wpAnyH_done (by kernel_rfl) ?_ _
 clear hHeld
 rcases bd.out with ⟨a9,rfl⟩ | ⟨a9,rfl⟩
 rotate_left
 ·have cg:((8:Int) != 0)=true:=by simp
  have ab:Hid (¬ SizeIn (P' ^ M') n N' pv R):=hid (by rw [<-HQ.out]; exact a9)
  clear a9 bd a5
  have KF:=hid (onS KB.out K3.out)
  have z:=zaa ba.out KF.out
  have r0:=z.cell (i:=0) (by omega)
  have r1:=z.cell (i:=1) (by omega)
  have z0:=z.frozen 0
  have z1:=z.frozen 1
  have p0:=z.set 0 (.slice none 0 0)
  have p1:=p0.cell (i:=1) (by omega)
  rw [if_neg (by omega)] at p1
  have p2:=p0.frozen 1
  have p3:=p0.set 1 (.slice none 0 0)
  have p4:=p3.cell (i:=0) (by omega)
  have p5:=p3.cell (i:=1) (by omega)
  rw [if_neg (by omega),if_pos rfl] at p4
  rw [if_pos rfl] at p5;clear p0 p3 z
  go_wp2
  refine bodyPost_ret (v:=.tuple #[.agg #[.slice none 0 0,.slice none 0 0],.int .i64 8]) (by simp [results,Tryz.results30, go_sem,p4,p5]) rfl ?_
  have I:w.heap.size<=rb:=by have:=be.out.2.1; omega
  exact ⟨((onS HB.out KF.out).setCell (p:=⟨rb,0,none⟩) I _).setCell (p:=⟨rb,1,none⟩) I _,0,HU.out,.inr ⟨rfl,P',M',N',rfl,rfl,rfl,pv,R,am.out,c1.out,ca.out,.inl ⟨ab.out,rfl⟩⟩⟩
 have ch:((0:Int) != 0)=false:=by simp
 have ab:Hid (SizeIn q n N' pv R):=hid a9
 clear a9 bd a5
 obtain ⟨q0,q1,q2,q3,q4⟩:=o.out _ (onS KB.out K3.out)
 go_upto_region 9 with fail
 clear q0 q1 q2 q3 q4
 obtain ⟨wN,aw⟩:∃ wN:Nat->Nat,wN=fun i=>q ^ cntB (actA pv R N' i) n:=⟨_,rfl⟩
 obtain ⟨eN,bo⟩:∃ eN:Nat->Nat,eN=fun i=>q ^ cntB (actE pv R N' i) n:=⟨_,rfl⟩
 have cs:Hid (wN 0=1):=hid (by rw [aw]; show q ^ cntB (actA pv R N' 0) n=1; rw [zcl zfp]; rfl)
 have c0:=hid aw
 have c9:=hid bo
 clear aw bo
 obtain ⟨bs,bp⟩:=exx w6.heap.size
 have cb:=hid bp
 have E:bs<=w6.heap.size:=by omega
 clear bp
 have az:=Own.new (w:=w6) (base:=bs) (e := 3) (s:=1) (m:=1) (cap:=1) (cur:=#[.int .i64 1]) (f:=fun k _=>.int .i64 (wN k:Nat)) E (by omega) (by unfold maxLen; omega) (by simp) (fun k hk j hj=>by
  obtain rfl:k=0:=by omega
  obtain rfl:j=0:=by omega
  rw [cs.out]
  rfl)
 have aq:=aly w6 (Obj.cells #[Value.int .i64 1] 3)
 obtain ⟨wx,au⟩:=exx (w6.alloc (Obj.cells #[Value.int .i64 1] 3))
 have bi:wx.heap.size=w6.heap.size+1:=by rw [au]; simp
 rw [<-au] at az aq ⊢
 have a2:(wx.alloc (Obj.cells #[Value.slice (some ⟨w6.heap.size,0,none⟩) 1 1,Value.slice none 0 0] 53)).rowIs wx.heap.size 53 2 (fun k=>if k=0 then .slice (some ⟨w6.heap.size,0,none⟩) 1 1 else .slice none 0 0):=World.rowIs_alloc wx _ _ _ (fun j hj=>by
  match j,hj with
  | 0,_=>rfl
  | 1,_=>rfl)
 have aj:=aly wx (Obj.cells #[Value.slice (some ⟨w6.heap.size,0,none⟩) 1 1,Value.slice none 0 0] 53)
 obtain ⟨w7,bh⟩:=exx (wx.alloc (Obj.cells #[Value.slice (some ⟨w6.heap.size,0,none⟩) 1 1,Value.slice none 0 0] 53))
 rw [<-bh] at a2 aj ⊢;rw [bi] at a2
 obtain ⟨ob,bm⟩:=exx (w6.heap.size+1)
 rw [<-bm] at a2 ⊢
 have ag:Hid (w6.heap.size<=ob):=hid (by omega)
 have D:=hid a2
 have J:=hid (az.on aj)
 have K7:=hid (onS aq aj)
 clear az aq aj au bi bh bm a2
 obtain ⟨q0,q1,q2,q3,q4⟩:=o.out _ (onS KB.out (onS K3.out K7.out))
 go_upto_region 10 with fail
 clear q0 q1 q2 q3 q4
 go_loopg [42] N' (fun gg iv wx=>∃ (i:Nat) (WA EA:Option Addr) (wc ec:Nat) (y:Nat->Nat->Int × Int × Int),iv=.int .i64 (i:Nat)/\i<=N'/\N'<=i+gg/\Hid (wx.rowIs ob 53 2 (fun k=>if k=0 then .slice WA (i+1) wc else .slice EA i ec))/\Hid (Own wx bs 3 1 (.slice WA (i+1) wc) (i+1) (fun k _=>.int .i64 (wN k:Nat)))/\Hid (ETab wx bs (.slice EA i ec) i eN y)/\Hid (∀ j,j<i->SecM (P' ^ M') (addF P' M') (mulF P' M' fun i=>(f i).toNat) n N' pv R j (eN j) (y j))/\Below w6.heap.size w6 wx)
 case atStart=>exact ⟨0,_,_,_,_,fun _ _=>(0,0,0),rfl,by omega,by omega,D,J,hid (ETab.nil _ _ _ _),hid fun j hj=>absurd hj (by omega),K7.out⟩
 clear D J K7
 obtain ⟨i,WA,EA,wc,ec,y,rfl,hi,cz,D,J,ai,ac,bv⟩:=hrel
 have d0:(0:Int)<=(i:Int):=by omega
 have K7:=hid bv
 obtain ⟨w8,cd⟩:=exx wr
 subst cd
 clear bv
 by_cases hin:i<N'
 rotate_left
 ·have b1:¬ (i:Int)<(N':Int):=by omega
  obtain rfl:N'=i:=by omega
  have cc:∃ T:Trel,T.nw=N'+1/\T.n=N'/\MinT (P' ^ M') (addF P' M') (mulF P' M' fun i=>(f i).toNat) n N' pv R T/\T.Proper/\T.Reads w8 WA EA/\T.nw<=wc:=by
   have aa:MinT (P' ^ M') (addF P' M') (mulF P' M' fun i=>(f i).toNat) n N' pv R ⟨N'+1,fun k=>((wN k:Nat):Int),N',eN,fun i j=>(y i j).1,fun i j=>(y i j).2.1,fun i j=>(y i j).2.2⟩ :=
    ⟨rfl,rfl,fun i _=>by show ((wN i:Nat):Int)=_; rw [c0.out,<-HQ.out],fun i _=>by show eN i=_; rw [c9.out,<-HQ.out],fun i h c hc=>(ac.out i h).out c hc,fun i h j hj=>(ac.out i h).inn j hj,fun i h a b hab hb=>(ac.out i h).srt a b hab hb⟩
   have B:=aa.proper_in (fieldLaws HC.out.fld) HC.out.fld.1.2.2.2 W (by rw [<-HQ.out]; exact ab.out)
   have a6:∀ i,i<N'->∀ j,j<eN i->InI64 (y i j).1/\InI64 (y i j).2.1/\InI64 (y i j).2.2:=fun i h j hj=>by
    have h1:=B.shape.ins i h j hj
    have h2:=B.lbL h hj
    have h3:=B.shape.wid (i:=i) (Nat.le_of_lt h)
    have h4:=B.shape.wid (i:=i+1) h
    unfold Trel.inside at h1
    unfold InI64
    have h1:0<=(y i j).1/\(y i j).1<((wN i:Nat):Int)/\0<=(y i j).2.2/\(y i j).2.2<((wN (i+1):Nat):Int):=h1
    have h2:(y i j).2.1.toNat<256/\(((y i j).2.1.toNat:Nat):Int)=(y i j).2.1:=h2
    have h3:1<=((wN i:Nat):Int)/\((wN i:Nat):Int)<=65536:=h3
    have h4:1<=((wN (i+1):Nat):Int)/\((wN (i+1):Nat):Int)<=65536:=h4
    omega
   obtain ⟨A2,B2,c2,d2,cf,ce,cm,cp,_⟩:=ETab.reads (T:=⟨N'+1,fun k=>((wN k:Nat):Int),N',eN,fun i j=>(y i j).1,fun i j=>(y i j).2.1,fun i j=>(y i j).2.2⟩) ai.out J.out (fun i h=>by
     have h1:=B.shape.wid (i:=i) (by have h:i<N'+1:=h; show i<=N'; omega)
     have h1:1<=((wN i:Nat):Int)/\((wN i:Nat):Int)<=65536:=h1
     show InI64 ((wN i:Nat):Int)
     unfold InI64
     omega) a6 (by show N'+1<=_; omega) (by show N'<=_; omega) (fun i h=>by
     have h1:=B.shape.elb (i:=i) h
     have h1:eN i<=262144:=h1
     show eN i<=_
     omega)
   injection cf with e1 _ e3
   injection ce with e4 _ _
   subst e1 e3 e4
   exact ⟨_,rfl,rfl,aa,B,cm,cp⟩
  obtain ⟨T,b3,b4,aa,B,bt,bq⟩:=cc
  have cv:=hid aa
  have c4:=hid B
  have y0:=D.out.cell (i:=0) (by omega)
  rw [if_pos rfl] at y0
  have y1:=D.out.cell (i:=1) (by omega)
  rw [if_neg (by omega)] at y1
  have L:=zea T WA EA wc ec w8 bt bq
  rw [b3,b4] at L
  have bb:=hid L
  clear aa B bt bq L
  go_wp2_with fail
  clear y0 y1
  refine bb.out.mono ?_
  rintro e w9 ⟨kb,l⟩
  have KF:=hid (onS KB.out (onS K3.out (onS K7.out kb)))
  clear kb
  rcases l with ⟨h0,_⟩ | ⟨_,y2,A',B',c',d',rfl,bk,a4⟩
  ·exact absurd c4.out.E0 h0
  rw [b3,b4]
  have hr:=zaa ba.out KF.out
  have r0:=hr.cell (i:=0) (by omega)
  have r1:=hr.cell (i:=1) (by omega)
  have z0:=hr.frozen 0
  have z1:=hr.frozen 1
  have p0:=hr.set 0 (.slice A' (N'+1) c')
  have p1:=p0.cell (i:=1) (by omega)
  rw [if_neg (by omega)] at p1
  have p2:=p0.frozen 1
  have p3:=p0.set 1 (.slice B' N' d')
  have p4:=p3.cell (i:=0) (by omega)
  have p5:=p3.cell (i:=1) (by omega)
  rw [if_neg (by omega),if_pos rfl] at p4
  rw [if_pos rfl] at p5
  have cu:=hid bk
  have bc:=hid ((a4.setCell (b:=rb) (i:=0) hr (by decide) (by decide) (by decide) (.slice A' (N'+1) c')).setCell (b:=rb) (i:=1) p0 (by decide) (by decide) (by decide) (.slice B' N' d'))
  clear bk a4 hr p0 p3
  go_wp2
  refine bodyPost_ret (v:=.tuple #[.agg #[.slice A' (N'+1) c',.slice B' N' d'],.int .i64 0]) (by simp [results,Tryz.results30, go_sem,p4,p5]) rfl ?_
  have I:w.heap.size<=rb:=by have:=be.out.2.1; omega
  exact ⟨((onS HB.out KF.out).setCell (p:=⟨rb,0,none⟩) I _).setCell (p:=⟨rb,1,none⟩) I _,0,HU.out,.inr ⟨rfl,P',M',N',rfl,rfl,rfl,pv,R,am.out,c1.out,ca.out,.inr ⟨by rw [<-HQ.out]; exact ab.out,T,y2,A',B',c',d',cv.out,c4.out,cu.out,bc.out,by rw [b3,b4]⟩⟩⟩
 have b1:(i:Int)<(N':Int):=by omega
 have hE:(P' ^ M') ^ cntB (actE pv R N' i) n<=262144:=by
  have h1:=zkJ (q:=q) (d:=fun i=>cntB (actE pv R N' i) n) hin
  have h2:=ab.out.2
  rw [<-HQ.out]
  exact Nat.le_trans h1 h2
 have cx:=hid hE
 clear hE
 go_wp2_with fail
 refine (zgA P' M' (fun i=>(f i).toNat) gf n N' i pv R (some ⟨g,0,none⟩) n w8 (HG.out.on (onS K3.out K7.out)) (an.out.on (onS K3.out K7.out)) am.out (by omega) W hin cx.out).mono ?_
 rintro e w9 ⟨SA,sm,sc,ys,he,hM,hO,kb⟩
 rw [show (P' ^ M') ^ cntB (actA pv R N' (i+1)) n=wN (i+1) by rw [c0.out,HQ.out]] at he
 subst he
 have cj:sm=eN i:=by rw [hM.el,c9.out,HQ.out]
 subst cj
 have c3:=hid hM
 have c5:=hid (hO.mono (base':=bs) (Nat.le_trans E K7.out.size))
 replace D:=hid (zaa D.out kb);replace J:=hid (J.out.on kb);replace ai:=hid (ai.out.on kb);replace K7:=hid (onS K7.out kb);clear kb hM hO
 have y0:=D.out.cell (i:=0) (by omega)
 rw [if_pos rfl] at y0
 have x:=aly w9 (Obj.cells #[Value.int .i64 (wN (i+1):Nat)] 3)
 have C:=hid (J.out.on x)
 have G:=hid (zaa D.out x)
 have a1:=hid (ai.out.on x)
 have a0:=hid (c5.out.on x)
 have H:=hid (onS K7.out x)
 have HC:Hid ((w9.alloc (Obj.cells #[Value.int .i64 (wN (i+1):Nat)] 3)).cell? ((⟨w9.heap.size,0,none⟩:Addr).add 0)=some (.int .i64 (wN (i+1):Nat))):=tbox2
 have HZ:Hid (bs<=(w9.alloc (Obj.cells #[Value.int .i64 (wN (i+1):Nat)] 3)).heap.size):=hid (Nat.le_trans E H.out.size)
 have HL:Hid (i+1<=1048576):=hid (by omega)
 have ah:=hid (zae G.out C.out (by decide))
 clear x J D ai c5 K7
 go_upto_region 14 with (first | (at_builtin; (refine zbx rfl (.tmp 53) (.tmp 55) rfl C.out rfl (ad:=⟨w9.heap.size,0,none⟩) (c:=1) rfl HC.out HZ.out HL.out ?_); intro v7 wa o1 o2 o3; obtain ⟨A7,c7,cl⟩:=o1.shape; subst cl; have r:=G.out.of_block (o2.block ob G.out.lt fun e=>ah.out e.symm); have y7:=r.cell (i:=0) (by omega); rw [if_pos rfl] at y7; have z7:=r.frozen 0))
 have Q:=o1.setCell (zae r o1 (by decide)) (a:=⟨ob,0,none⟩) (.slice A7 (i+1+1) c7)
 have Z:=(a1.out.kept C.out o2).setCell (b:=ob) (i:=0) r (by decide) (by decide) (.slice A7 (i+1+1) c7)
 have Y:=a0.out.kept o2 (za4 C.out a0.out (by decide))
 have b7:=Y.setCell (zae r Y (by decide)) (a:=⟨ob,0,none⟩) (.slice A7 (i+1+1) c7)
 have U:=(r.set 0 (.slice A7 (i+1+1) c7)).congr (g:=fun k=>if k=0 then .slice A7 (i+1+1) c7 else .slice EA i ec) fun k hk=>by
  by_cases e:k=0
  ·subst e; rw [if_pos rfl,if_pos rfl]
  ·rw [if_neg e,if_neg e,if_neg e]
 have kb:=(H.out.grown o2 H.out.size fun b e=>by
  have h1:=(C.out.lt _ e).1
  have h2:=cb.out
  omega).setCell (p:=⟨ob,0,none⟩) ag.out (.slice A7 (i+1+1) c7)
 obtain ⟨wb,bg⟩:=exx (wa.setCell ⟨ob,0,none⟩ (.slice A7 (i+1+1) c7))
 rw [<-bg] at Q Z b7 U kb ⊢
 have al:=hid Q
 have ap:=hid Z
 have c6:=hid b7
 have af:=hid U
 have ao:=hid kb
 clear Q Z b7 U kb bg o1 o2 o3 r y7 z7 Y y0 C G a1 a0 H HC HZ ah
 have y1:=af.out.cell (i:=1) (by omega)
 rw [if_neg (by omega)] at y1
 obtain ⟨yn,ar⟩:∃ yn:Nat->Nat->Int × Int × Int,yn=fun j=>if j=i then ys else y j:=⟨_,rfl⟩
 have bz:Hid (yn i=ys):=hid (by rw [ar]; exact if_pos rfl)
 have bx:Hid (∀ j,j≠i->yn j=y j):=hid fun j hj=>by rw [ar]; exact if_neg hj
 clear ar
 have x:=aly wb (Obj.cells #[Value.slice SA (eN i) sc] 86)
 have C:=hid (al.out.on x)
 have G:=hid (zaa af.out x)
 have a1:Hid (ETab (wb.alloc (Obj.cells #[Value.slice SA (eN i) sc] 86)) bs (.slice EA i ec) i eN yn):=hid ((ap.out.on x).congr (fun _ _=>rfl) fun j hj q _=>by rw [bx.out j (by omega)])
 have a0:Hid (Own (wb.alloc (Obj.cells #[Value.slice SA (eN i) sc] 86)) bs 90 3 (.slice SA (eN i) sc) (eN i) (edgeCell (yn i))):=hid (by rw [bz.out]; exact c6.out.on x)
 have H:=hid (onS ao.out x)
 have HC:Hid ((wb.alloc (Obj.cells #[Value.slice SA (eN i) sc] 86)).cell? ((⟨wb.heap.size,0,none⟩:Addr).add 0)=some (.slice SA (eN i) sc)):=tbox2
 have HZ:Hid (bs<=(wb.alloc (Obj.cells #[Value.slice SA (eN i) sc] 86)).heap.size):=hid (Nat.le_trans E H.out.size)
 have cw:Hid (i<=1048576):=hid (by omega)
 obtain ⟨RR,b6⟩:=a1.out.own
 have ae:=hid b6
 have ah:=hid (zae G.out b6 (by decide))
 clear x al af ap c6 ao b6
 go_upto_region 15 with (first | (at_builtin; (refine zbI rfl (.tmp 59) (.tmp 61) rfl a1.out rfl (ad:=⟨wb.heap.size,0,none⟩) (c:=1) rfl HC.out rfl a0.out HZ.out cw.out ?_); intro v7 wc2 o1 o2; obtain ⟨A8,c8,ck⟩:=o1.shape; subst ck; have r:=G.out.of_block (o2.block ob G.out.lt fun e=>ah.out e.symm); have y7:=r.cell (i:=1) (by omega); rw [if_neg (by omega)] at y7; have z7:=r.frozen 1))
 have O:=C.out.kept o2 (za4 ae.out C.out (by decide))
 have Q:=O.setCell (zae r O (by decide)) (a:=⟨ob,1,none⟩) (.slice A8 (i+1) c8)
 have Z:=o1.setCell (b:=ob) (i:=1) r (by decide) (by decide) (.slice A8 (i+1) c8)
 have U:=(r.set 1 (.slice A8 (i+1) c8)).congr (g:=fun k=>if k=0 then .slice A7 (i+1+1) c7 else .slice A8 (i+1) c8) fun k hk=>by
  by_cases e:k=0
  ·subst e; rw [if_neg (by omega),if_pos rfl,if_pos rfl]
  ·rw [if_pos (by omega),if_neg e]
 have kb:=(H.out.grown o2 H.out.size fun b e=>by
  have h1:=(ae.out.lt _ e).1
  have h2:=cb.out
  omega).setCell (p:=⟨ob,1,none⟩) ag.out (.slice A8 (i+1) c8)
 obtain ⟨we,bf⟩:=exx (wc2.setCell ⟨ob,1,none⟩ (.slice A8 (i+1) c8))
 rw [<-bf] at Q Z U kb ⊢
 have al:=hid Q
 have ap:=hid Z
 have af:=hid U
 have ao:=hid kb
 have b8:Hid (∀ j,j<i+1->SecM (P' ^ M') (addF P' M') (mulF P' M' fun i=>(f i).toNat) n N' pv R j (eN j) (yn j)):=hid fun j hj=>by
  by_cases e:j=i
  ·subst e; rw [bz.out]; exact c3.out
  ·rw [bx.out j e]; exact ac.out j (by omega)
 clear Q Z U kb bf o1 o2 r y7 z7 O y1 C G a1 a0 H HC HZ ah ac c3
 go_wp2
 go_roundg (gk - 1)
 case measure=>omega
 case rel=>exact ⟨i+1,A7,A8,c7,c8,yn,by go_num,by omega,by omega,af,al,ap,b8,ao.out⟩
def LexLt (f g:Nat->Int) (n:Nat):Prop:=∃ i,i<n/\(∀ t,t<i->f t=g t)/\f i<g i
def PricedP (M:Nat) (ln:Nat->Nat) (C:Nat->Nat->Int):Prop:=∀ i,i<M->∀ a,a<ln i->0<=C i a/\C i a<=2147483648
instance (M:Nat) (ln:Nat->Nat) (C:Nat->Nat->Int):Decidable (PricedP M ln C):=by unfold PricedP; exact inferInstance
def Trel.fitB (T:Trel) (ln:Nat->Nat):Prop:=∀ i,i<T.n->∀ j,j<T.el i->T.lb i j<(ln i:Nat)
instance (T:Trel) (ln:Nat->Nat):Decidable (T.fitB ln):=by unfold Trel.fitB; exact inferInstance
theorem zfu {q n N:Nat} {add mul:Nat->Nat->Nat} {pv:Nat->Nat} {V R:Nat->Nat->Nat} {pr se:Nat->Nat} (hL:FieldLaws q add mul) (h:SpanF q n N pv R) (hV:∀ i,i<n->∀ j,j<N->V i j<q) (hS:SameSp q add mul N n n V R) (hd:∀ i j,i<j->j<n->lE (R i) N≠lE (R j) N)
  (hp:ProfIs q add mul n N V pr) (hs:SecsIs q add mul n N V se):SizeOk q N pr se↔SizeIn q n N pv R:=by
 have e1:powS q pr (N+1)=powS q (fun i=>cntB (actA pv R N i) n) (N+1):=zbP (N+1) fun i hi=>by
  obtain ⟨a,b,ha,hb,e⟩:=hp i hi
  have:=SpanF.prof hL h hV hS hd (i:=i) (by omega) ha hb
  omega
 have e2:powS q se N=powS q (fun i=>cntB (actE pv R N i) n) N:=zbP N fun i hi=>by
  obtain ⟨a,b,ha,hb,e⟩:=hs i hi
  have:=SpanF.sects hL h hV hS hd hi ha hb
  omega
 unfold SizeOk SizeIn
 rw [e1,e2]
theorem zeb (A B:Option Addr) (n c d:Nat) (f g:Nat->Int) (w:World) (ha:IntsR w w.heap.size A n f) (hb:IntsR w w.heap.size B n g) (hn:n<=140737488351232) :
  Calls Tryz.prog 20 #[.slice A n c,.slice B n d] w fun e w'=>∃ r:Int,e=.returned (.int .i64 r)/\((r = -1/\LexLt f g n)∨(r=1/\LexLt g f n)∨(r=0/\∀ i,i<n->f i=g i))/\Below w.heap.size w w':=by
 have HA:=hid ha
 have HB:=hid hb
 clear ha hb
 go_enter Tryz.func20, Tryz.ntmps20
 go_wp2
 go_loopg [5] n (fun gg iv wx=>∃ k:Nat,iv=.int .i64 (k:Nat)/\k<=n/\n<=k+gg/\(∀ i,i<k->f i=g i)/\Below w.heap.size w wx)
 case atStart=>exact ⟨0,rfl,by omega,by omega,fun i hi=>absurd hi (by omega),Below.refl _ _⟩
 obtain ⟨k,rfl,hk,l,h,hW⟩:=hrel
 have m:(0:Int)<=(k:Int):=by omega
 have a:=hid h
 clear h
 by_cases hlt:k<n
 rotate_left
 ·have b:¬ (k:Int)<(n:Int):=by omega
  have hd:decide ((k:Int)<(n:Int))=false:=by simp; omega
  have h3:¬ (n:Int)<(n:Int):=by omega
  have h4:¬ (n:Int) > (n:Int):=by omega
  go_wp2
  go_ret
  exact ⟨0,rfl,.inr (.inr ⟨rfl,fun i hi=>a.out i (by omega)⟩),hW⟩
 have b:(k:Int)<(n:Int):=by omega
 have hd:decide ((k:Int)<(n:Int))=true:=by simp; omega
 obtain ⟨ab,ao,rfl,p,x0⟩:=(HA.out.on hW).at hlt
 obtain ⟨bb,bo,rfl,o,y0⟩:=(HB.out.on hW).at hlt
 obtain ⟨x,hx⟩:=exx (f k)
 obtain ⟨y,hy⟩:=exx (g k)
 rw [<-hx] at x0;rw [<-hy] at y0
 have HX:=hid hx
 have HY:=hid hy
 clear hx hy
 by_cases h1:x<y
 ·go_wp2
  go_quiet (fail)
  go_wp2
  go_ret
  exact ⟨-1,rfl,.inl ⟨rfl,k,hlt,a.out,by rw [<-HX.out,<-HY.out]; omega⟩,zac hW _⟩
 by_cases h2:y<x
 ·have j:x > y:=h2
  go_wp2
  go_quiet (fail)
  go_wp2
  go_quiet (fail)
  go_wp2
  go_ret
  exact ⟨1,rfl,.inr (.inl ⟨rfl,k,hlt,fun t ht=>(a.out t ht).symm,by rw [<-HX.out,<-HY.out]; omega⟩),zac (zac hW _) _⟩
 have j:¬ x > y:=h2
 go_wp2
 go_quiet (fail)
 go_wp2
 go_quiet (fail)
 go_wp2
 go_roundg (gk - 1)
 case measure=>omega
 refine ⟨k+1,by go_num,by omega,by omega,fun i hi=>?_,zac hW _⟩
 by_cases e:i=k
 ·subst e; rw [<-HX.out,<-HY.out]; omega
 ·exact a.out i (by omega)
theorem zgB {q n x i:Nat} (h:i<n):msgD q (n+1) x i=msgD q n (x / q) i:=by
 unfold msgD
 rw [show n+1 - 1 - i=(n - 1 - i)+1 by omega,zcV]
theorem zhP {q n x:Nat}:msgD q (n+1) x n=x % q:=by
 unfold msgD
 rw [show n+1 - 1 - n=0 by omega,zb8]
theorem zf3 {q:Nat} (hq:0<q):∀ {n s t:Nat},s<t->t<q ^ n->∃ i,i<n/\(∀ j,j<i->msgD q n s j=msgD q n t j)/\msgD q n s i<msgD q n t i
 | 0,s,t,h,ht=>by rw [Nat.pow_zero] at ht; omega
 | n + 1, s, t, h, ht => by
  have ht2:t / q<q ^ n:=Nat.div_lt_of_lt_mul (by rw [Nat.mul_comm,<-Nat.pow_succ]; exact ht)
  by_cases e:s / q=t / q
  ·refine ⟨n,by omega,fun j hj=>by rw [zgB hj,zgB hj,e],?_⟩
   rw [zhP,zhP]
   have h1:=Nat.div_add_mod s q
   have h2:=Nat.div_add_mod t q
   rw [e] at h1
   omega
  ·have hlt:s / q<t / q:=by
    have:=Nat.div_le_div_right (c:=q) (Nat.le_of_lt h)
    omega
   obtain ⟨i,h1,h2,h3⟩:=zf3 hq hlt ht2
   exact ⟨i,by omega,fun j hj=>by rw [zgB (by omega),zgB (by omega)]; exact h2 j hj,by rw [zgB h1,zgB h1]; exact h3⟩
section
variable {q n N:Nat} {add mul:Nat->Nat->Nat} {V:Nat->Nat->Nat}
theorem zhQ (hL:FieldLaws q add mul) (hV:RrefN q n N V) {s t:Nat} (h:s<t) (ht:t<q ^ n) :
  LexLt (fun j=>((spE add mul V (msgD q n s) n j:Nat):Int)) (fun j=>((spE add mul V (msgD q n t) n j:Nat):Int)) N:=by
 have hq:0<q:=by have:=hL.two; omega
 obtain ⟨pv,hE⟩:=hV
 obtain ⟨i,hi,h1,h2⟩:=zf3 hq h ht
 refine ⟨pv i,hE.pvlt i hi,fun j hj=>?_,?_⟩
 ·show ((spE add mul V (msgD q n s) n j:Nat):Int)=((spE add mul V (msgD q n t) n j:Nat):Int)
  rw [zbM n fun u hu=>?_]
  by_cases g:u<i
  ·rw [h1 u g]
  have a:V u j=0:=hE.lead u hu j (by
   by_cases e:u=i
   ·rw [e]; exact hj
   ·have:=hE.inc i u (by omega) hu
    omega)
  rw [a,hL.mulZero (zbH hq),hL.mulZero (zbH hq)]
 show ((spE add mul V (msgD q n s) n (pv i):Nat):Int)<((spE add mul V (msgD q n t) n (pv i):Nat):Int)
 rw [hE.spE_pv hL (fun _ _=>zbH hq) hi,hE.spE_pv hL (fun _ _=>zbH hq) hi]
 omega
theorem zj3 {x:Nat->Nat} (hx:InSp q add mul n N V x):∃ t,t<q ^ n/\∀ j,j<N->x j=spE add mul V (msgD q n t) n j:=by
 obtain ⟨c,h1,h2⟩:=hx
 refine ⟨valN q (fun j=>c (n - 1 - j)) n,zbh fun i hi=>h1 _ (by omega),fun j hj=>?_⟩
 rw [h2 j hj]
 refine zbM n fun u hu=>?_
 unfold msgD
 rw [za7 (fun i hi=>h1 _ (by omega)) _ (by omega),show n - 1 - (n - 1 - u)=u by omega]
theorem zji (hL:FieldLaws q add mul) (t:Nat):InSp q add mul n N V (fun j=>spE add mul V (msgD q n t) n j):=⟨msgD q n t,fun _ _=>zbH (by have:=hL.two; omega),fun _ _=>rfl⟩
end
structure Cov (T:Trel) (mw:Nat) (x a:Nat->Nat->Nat):Prop where
 lt:∀ i,i<=T.n->∀ t,t<mw->((a t i:Nat):Int)<T.W i
 onto:∀ i,i<=T.n->∀ v:Nat,(v:Int)<T.W i->∃ t,t<mw/\a t i=v
 out:∀ i,i<T.n->∀ t,t<mw->∃ j,j<T.el i/\T.fr i j=(a t i:Nat)/\T.lb i j=(x t i:Nat)/\T.to i j=(a t (i+1):Nat)
 inn:∀ i,i<T.n->∀ j,j<T.el i->∃ t,t<mw/\T.fr i j=(a t i:Nat)/\T.lb i j=(x t i:Nat)/\T.to i j=(a t (i+1):Nat)
 srt:∀ i,i<T.n->∀ p q,p<q->q<T.el i->ltE (T.eD i p) (T.eD i q)
theorem zhR {mw A:Nat} {a:Nat->Nat} (ho:∀ v,v<A->∃ t,t<mw/\a t=v):∃ S:Nat->Nat,∀ v,v<A->S v<mw/\a (S v)=v:=by
 have hs:∀ v,∃ t,v<A->t<mw/\a t=v:=fun v=>by
  by_cases g:v<A
  ·obtain ⟨t,h⟩:=ho v g
   exact ⟨t,fun _=>h⟩
  ·exact ⟨0,fun k=>absurd k g⟩
 exact Classical.axiomOfChoice hs
theorem zj4 {mw A B:Nat} {a b:Nat->Nat} (hb:∀ t,t<mw->b t<B) (ho:∀ v,v<A->∃ t,t<mw/\a t=v) (he:∀ t t',t<mw->t'<mw->b t=b t'->a t=a t'):A<=B:=by
 obtain ⟨S,hS⟩:=zhR ho
 have c:((List.range A).map fun v=>b (S v)).Nodup:=zaT List.nodup_range fun y hy z hz e=>by
  have hy:=hS y (List.mem_range.1 hy)
  have hz:=hS z (List.mem_range.1 hz)
  have:=he _ _ hy.1 hz.1 e
  omega
 have:=zfi (m:=List.range B) c fun x hx=>by
  obtain ⟨y,hy,rfl⟩:=List.mem_map.1 hx
  exact List.mem_range.2 (hb _ (hS y (List.mem_range.1 hy)).1)
 simpa using this
theorem zhS {mw A:Nat} {a b:Nat->Nat} {k l:Nat->Nat} (hb:∀ t,t<mw->b t<A) (oa:∀ v,v<A->∃ t,t<mw/\a t=v) (he:∀ t t',t<mw->t'<mw->b t=b t'->a t=a t') (hkl:∀ t,t<mw->l (b t)=k (a t)) {t:Nat} (ht:t<mw):rankOf l A (b t)=rankOf k A (a t):=by
 obtain ⟨S,hS⟩:=zhR oa
 have hp:((List.range A).map fun v=>b (S v)).Perm (List.range A):=zcI (zaT List.nodup_range fun y hy z hz e=>by
   have hy:=hS y (List.mem_range.1 hy)
   have hz:=hS z (List.mem_range.1 hz)
   have:=he _ _ hy.1 hz.1 e
   omega) (fun x hx=>by
   obtain ⟨y,hy,rfl⟩:=List.mem_map.1 hx
   exact List.mem_range.2 (hb _ (hS y (List.mem_range.1 hy)).1)) (by simp)
 unfold rankOf
 rw [<-hp.countP_eq,List.countP_map]
 refine List.countP_congr fun u hu=>?_
 have h1:=hS u (List.mem_range.1 hu)
 have h2:=hkl (S u) h1.1
 rw [h1.2] at h2
 simp only [Function.comp,h2,hkl t ht]
section
variable {T U:Trel} {mw:Nat} {x a b:Nat->Nat->Nat}
theorem Cov.uniq (h:Cov T mw x a) {i:Nat} (hi:i<T.n) {j q:Nat} (hj:j<T.el i) (hq:q<T.el i) (e1:T.fr i j=T.fr i q) (e2:T.lb i j=T.lb i q):j=q:=by
 rcases Nat.lt_trichotomy j q with g | g | g
 ·have h1:T.fr i j<T.fr i q∨T.fr i j=T.fr i q/\T.lb i j<T.lb i q:=h.srt i hi j q g hq
  omega
 ·exact g
 ·have h1:T.fr i q<T.fr i j∨T.fr i q=T.fr i j/\T.lb i q<T.lb i j:=h.srt i hi q j g hj
  omega
theorem Cov.pick (h:Cov T mw x a) {i:Nat} (hi:i<T.n):∃ e:Nat->Nat,∀ t,t<mw->e t<T.el i/\T.fr i (e t)=(a t i:Nat)/\T.lb i (e t)=(x t i:Nat)/\T.to i (e t)=(a t (i+1):Nat):=by
 have hs:∀ t,∃ j,t<mw->j<T.el i/\T.fr i j=(a t i:Nat)/\T.lb i j=(x t i:Nat)/\T.to i j=(a t (i+1):Nat):=fun t=>by
  by_cases g:t<mw
  ·obtain ⟨j,hj⟩:=h.out i hi t g
   exact ⟨j,fun _=>hj⟩
  ·exact ⟨0,fun k=>absurd k g⟩
 exact Classical.axiomOfChoice hs
theorem Cov.el_le (hT:Cov T mw x a) (hU:Cov U mw x b) (hn:U.n=T.n) (hk:∀ i,i<=T.n->∀ t t',t<mw->t'<mw->b t i=b t' i->a t i=a t' i) {i:Nat} (hi:i<T.n):T.el i<=U.el i:=by
 obtain ⟨e,he⟩:=hT.pick hi
 obtain ⟨f,hf⟩:=hU.pick (i:=i) (by omega)
 refine zj4 (mw:=mw) (a:=e) (b:=f) (fun t ht=>(hf t ht).1) (fun v hv=>?_) (fun t t' ht ht' g=>?_)
 ·obtain ⟨t,ht,h1,h2,_⟩:=hT.inn i hi v hv
  obtain ⟨k1,k2,k3,_⟩:=he t ht
  exact ⟨t,ht,hT.uniq hi k1 hv (by omega) (by omega)⟩
 obtain ⟨k1,k2,k3,_⟩:=he t ht
 obtain ⟨l1,l2,l3,_⟩:=he t' ht'
 obtain ⟨_,m2,m3,_⟩:=hf t ht
 obtain ⟨_,n2,n3,_⟩:=hf t' ht'
 rw [g] at m2 m3
 have:=hk i (by omega) t t' ht ht' (by omega)
 exact hT.uniq hi k1 l1 (by omega) (by omega)
theorem Cov.w_le (hT:Cov T mw x a) (hU:Cov U mw x b) (hn:U.n=T.n) (hk:∀ i,i<=T.n->∀ t t',t<mw->t'<mw->b t i=b t' i->a t i=a t' i) {i:Nat} (hi:i<=T.n):(T.W i).toNat<=(U.W i).toNat :=
 zj4 (mw:=mw) (a:=fun t=>a t i) (b:=fun t=>b t i) (fun t ht=>by have:=hU.lt i (by omega) t ht; show b t i<_; omega) (fun v hv=>hT.onto i hi v (by omega)) (fun t t' ht ht' g=>hk i hi t t' ht ht' g)
theorem Cov.proper (hP:T.Proper) (hT:Cov T mw x a) (hU:Cov U mw x b) (hn:U.n=T.n) (hk:∀ i,i<=T.n->∀ t t',t<mw->t'<mw->(b t i=b t' i↔a t i=a t' i)) (hnw:U.nw=T.nw) (hW0:∀ i,i<=T.n->0<=U.W i) :
  (∀ i,i<=T.n->U.W i=T.W i)/\(∀ i,i<T.n->U.el i=T.el i)/\U.Proper:=by
 have hw:∀ i,i<=T.n->U.W i=T.W i:=fun i hi=>by
  have h1:=hT.w_le hU hn (fun i hi t t' ht ht'=>(hk i hi t t' ht ht').1) hi
  have h2:=hU.w_le hT hn.symm (fun i hi t t' ht ht'=>(hk i (by omega) t t' ht ht').2) (i:=i) (by omega)
  have:=hW0 i hi
  have:=(hP.shape.wid hi).1
  omega
 have he:∀ i,i<T.n->U.el i=T.el i:=fun i hi=>by
  have h1:=hT.el_le hU hn (fun i hi t t' ht ht'=>(hk i hi t t' ht ht').1) hi
  have h2:=hU.el_le hT hn.symm (fun i hi t t' ht ht'=>(hk i (by omega) t t' ht ht').2) (i:=i) (by omega)
  omega
 have sW:∀ k,k<=T.n+1->U.sumW k=T.sumW k:=by
  intro k
  induction k with
  | zero=>intro _; rfl
  | succ k ih=>intro h; show U.sumW k+U.W k=T.sumW k+T.W k; rw [ih (by omega),hw k (by omega)]
 have sE:∀ k,k<=T.n->U.sumE k=T.sumE k:=by
  intro k
  induction k with
  | zero=>intro _; rfl
  | succ k ih=>intro h; show U.sumE k+U.el k=T.sumE k+T.el k; rw [ih (by omega),he k (by omega)]
 refine ⟨hw,he,⟨⟨by rw [hn]; exact hP.shape.n64,by rw [hn,hnw]; exact hP.shape.nw,fun i hi=>by rw [hw i (by omega)]; exact hP.shape.w1 i (by omega),by rw [hn,sW _ (Nat.le_refl _)]; exact hP.shape.sW,by rw [hn,sE _ (Nat.le_refl _)]; exact hP.shape.sE,fun i hi j hj=>?_⟩,
  by rw [hw 0 (by omega)]; exact hP.w0,by rw [hn,hw _ (Nat.le_refl _)]; exact hP.wn,fun i hi=>⟨fun j hj=>?_,fun v hv=>?_,fun v hv=>?_⟩⟩⟩
 ·obtain ⟨t,ht,h1,_,h3⟩:=hU.inn i hi j hj
  have k1:=hU.lt i (by omega) t ht
  have k2:=hU.lt (i+1) hi t ht
  unfold Trel.inside
  omega
 ·obtain ⟨t,ht,h1,h2,_⟩:=hU.inn i hi j hj
  obtain ⟨p,hp,_,k2,_⟩:=hT.out i (by omega) t ht
  have k:=(hP.sec i (by omega)).1 p hp
  exact ⟨by rw [h2]; omega,by rw [h2,<-k2]; exact k.2.1,fun h0=>hU.srt i hi (j - 1) j (by omega) hj⟩
 ·obtain ⟨t,ht,e⟩:=hU.onto i (by omega) v (by omega)
  obtain ⟨p,hp,k1,_⟩:=hU.out i hi t ht
  exact za2.2 ⟨p,hp,by rw [k1,e]⟩
 obtain ⟨t,ht,e⟩:=hU.onto (i+1) hi v (by omega)
 obtain ⟨p,hp,_,_,k3⟩:=hU.out i hi t ht
 exact za2.2 ⟨p,hp,by rw [k3,e]⟩
theorem Cov.kt_le (hP:T.Proper) (hT:Cov T mw x a) (hU:Cov U mw x b) (hn:U.n=T.n) (hk:∀ i,i<=T.n->∀ t t',t<mw->t'<mw->(b t i=b t' i↔a t i=a t' i)) {i:Nat} (hi:i<T.n) (ih:∀ t,t<mw->U.nm i (b t i)=T.nm i (a t i)) {t:Nat} (ht:t<mw) :
  U.kt (U.nm i) i (U.el i) (b t (i+1))<=T.kt (T.nm i) i (T.el i) (a t (i+1)):=by
 obtain ⟨q,hq,e1,e2⟩:=hP.kt_hit hi (v:=a t (i+1)) (by have:=hT.lt (i+1) hi t ht; omega)
 obtain ⟨s,hs,h1,h2,h3⟩:=hT.inn i hi q hq
 rw [h3,Int.toNat_natCast] at e1
 have e3:=(hk (i+1) hi s t hs ht).2 e1
 obtain ⟨p,hp,k1,k2,k3⟩:=hU.out i (by omega) s hs
 have h4:=Trel.kt_le (T:=U) (f:=U.nm i) (i:=i) hp
 rw [k3,Int.toNat_natCast,e3] at h4
 have h5:U.code (U.nm i) i p=T.code (T.nm i) i q:=by
  unfold Trel.code
  rw [k1,k2,h1,h2]
  simp only [Int.toNat_natCast,ih s hs]
 omega
theorem Cov.nm_eq (hP:T.Proper) (hPU:U.Proper) (hT:Cov T mw x a) (hU:Cov U mw x b) (hn:U.n=T.n) (hk:∀ i,i<=T.n->∀ t t',t<mw->t'<mw->(b t i=b t' i↔a t i=a t' i)) (hw:∀ i,i<=T.n->U.W i=T.W i):∀ i,i<=T.n->∀ t,t<mw->U.nm i (b t i)=T.nm i (a t i):=by
 intro i
 induction i with
 | zero=>intro _ _ _; rfl
 | succ i ih =>
  intro hi t ht
  have ih:=ih (by omega)
  show rankOf (U.kt (U.nm i) i (U.el i)) (U.W (i+1)).toNat (b t (i+1))=rankOf (T.kt (T.nm i) i (T.el i)) (T.W (i+1)).toNat (a t (i+1))
  rw [hw (i+1) hi]
  refine zhS (mw:=mw) (a:=fun t=>a t (i+1)) (b:=fun t=>b t (i+1)) (fun t ht=>?_) (fun v hv=>hT.onto (i+1) hi v (by omega)) (fun t t' ht ht'=>(hk (i+1) hi t t' ht ht').1) (fun t ht=>Nat.le_antisymm ?_ ?_) ht
  ·have:=hU.lt (i+1) (by omega) t ht
   rw [hw (i+1) hi] at this
   show b t (i+1)<_
   omega
  ·exact Cov.kt_le hP hT hU hn hk hi ih ht
  ·exact Cov.kt_le hPU hU hT hn.symm (fun i hi t t' ht ht'=>(hk i (by omega) t t' ht ht').symm) (by omega) (fun t ht=>(ih t ht).symm) ht
theorem Cov.tri_mem (hT:Cov T mw x a) {i:Nat} (hi:i<T.n) (y:Int × Int × Int):y ∈ (List.range (T.el i)).map (T.tri i)↔∃ t,t<mw/\y=(((T.nm i (a t i):Nat):Int),((x t i:Nat):Int),((T.nm (i+1) (a t (i+1)):Nat):Int)):=by
 constructor
 ·intro h
  obtain ⟨j,hj,rfl⟩:=List.mem_map.1 h
  obtain ⟨t,ht,h1,h2,h3⟩:=hT.inn i hi j (List.mem_range.1 hj)
  refine ⟨t,ht,?_⟩
  unfold Trel.tri
  simp only [h1,h2,h3,Int.toNat_natCast]
 rintro ⟨t,ht,rfl⟩
 obtain ⟨j,hj,h1,h2,h3⟩:=hT.out i hi t ht
 refine List.mem_map.2 ⟨j,List.mem_range.2 hj,?_⟩
 unfold Trel.tri
 simp only [h1,h2,h3,Int.toNat_natCast]
theorem Trel.Proper.tri_nodup (hP:T.Proper) {i:Nat} (hi:i<T.n):((List.range (T.el i)).map (T.tri i)).Nodup :=
 zag.2 fun p q hpq hq e=>by
  have:=hP.tri_inj hi (by omega) hq (congrArg Prod.fst e) (congrArg (fun t=>t.2.1) e)
  omega
theorem Cov.ren (hP:T.Proper) (hPU:U.Proper) (hT:Cov T mw x a) (hU:Cov U mw x b) (hn:U.n=T.n) (hk:∀ i,i<=T.n->∀ t t',t<mw->t'<mw->(b t i=b t' i↔a t i=a t' i)) (hw:∀ i,i<=T.n->U.W i=T.W i) (he:∀ i,i<T.n->U.el i=T.el i) {z:Nat->Nat->Int × Int × Int} (h:IsRen U z):IsRen T z:=fun i hi=>by
 obtain ⟨h1,h2⟩:=h i (by omega)
 have hnm:=Cov.nm_eq hP hPU hT hU hn hk hw
 have hp:((List.range (U.el i)).map (U.tri i)).Perm ((List.range (T.el i)).map (T.tri i)):=by
  refine (List.perm_ext_iff_of_nodup (hPU.tri_nodup (by omega)) (hP.tri_nodup hi)).2 fun y=>?_
  rw [hT.tri_mem hi,hU.tri_mem (by omega)]
  constructor
  ·rintro ⟨t,ht,e⟩
   exact ⟨t,ht,by rw [e,hnm i (by omega) t ht,hnm (i+1) hi t ht]⟩
  ·rintro ⟨t,ht,e⟩
   exact ⟨t,ht,by rw [e,hnm i (by omega) t ht,hnm (i+1) hi t ht]⟩
 have h3:=h1.trans hp
 rw [he i hi] at h3 h2
 exact ⟨h3,h2⟩
theorem IsRen.cov (hP:T.Proper) (hT:Cov T mw x a) {y:Nat->Nat->Int × Int × Int} (h:IsRen T y):Cov (T.re y) mw x (fun t i=>T.nm i (a t i)) where
 lt i hi t ht:=by
  have h1:=hT.lt i hi t ht
  have h2:=hP.nm_lt (i:=i) (v:=a t i) hi (by omega)
  show ((T.nm i (a t i):Nat):Int)<T.W i
  omega
 onto i hi v hv:=by
  have hv:(v:Int)<T.W i:=hv
  obtain ⟨u,hu,e⟩:=hP.nm_surj (i:=i) hi (t:=v) (by omega)
  obtain ⟨t,ht,e2⟩:=hT.onto i hi u (by omega)
  exact ⟨t,ht,by show T.nm i (a t i)=v; rw [e2,e]⟩
 out i hi t ht:=by
  have hi:i<T.n:=hi
  obtain ⟨j,hj,h1,h2,h3⟩:=hT.out i hi t ht
  obtain ⟨p,hp,e⟩:=h.from_old hi hj
  refine ⟨p,hp,?_,?_,?_⟩
  ·show (y i p).1=_
   rw [e]
   show ((T.nm i (T.fr i j).toNat:Nat):Int)=_
   rw [h1,Int.toNat_natCast]
  ·show (y i p).2.1=_
   rw [e]
   exact h2
  ·show (y i p).2.2=_
   rw [e]
   show ((T.nm (i+1) (T.to i j).toNat:Nat):Int)=_
   rw [h3,Int.toNat_natCast]
 inn i hi p hp:=by
  have hi:i<T.n:=hi
  have hp:p<T.el i:=hp
  obtain ⟨j,hj,e⟩:=h.to_old hi hp
  obtain ⟨t,ht,h1,h2,h3⟩:=hT.inn i hi j hj
  refine ⟨t,ht,?_,?_,?_⟩
  ·show (y i p).1=_
   rw [e]
   show ((T.nm i (T.fr i j).toNat:Nat):Int)=_
   rw [h1,Int.toNat_natCast]
  ·show (y i p).2.1=_
   rw [e]
   exact h2
  ·show (y i p).2.2=_
   rw [e]
   show ((T.nm (i+1) (T.to i j).toNat:Nat):Int)=_
   rw [h3,Int.toNat_natCast]
 srt i hi p q hpq hq:=(h i hi).2 p q hpq hq
end
section
variable {T:Trel} {mw q r:Nat} {add mul:Nat->Nat->Nat} {H x a:Nat->Nat->Nat}
theorem Cov.synv (hT:Cov T mw x a) (hs:∀ i,i<=T.n->∀ t t',t<mw->t'<mw->a t i=a t' i->∀ k,k<r->dotN add mul (x t) (H k) i=dotN add mul (x t') (H k) i) {i:Nat} (hi:i<T.n) (hS:∀ t,t<mw->∀ k,k<r->T.syn add mul H i (a t i) k=dotN add mul (x t) (H k) i)
  {j:Nat} (hj:j<T.el i) {t:Nat} (ht:t<mw) (e:(T.to i j).toNat=a t (i+1)) {k:Nat} (hk:k<r):T.synv add mul H (T.syn add mul H i) i j k=dotN add mul (x t) (H k) (i+1):=by
 obtain ⟨s,b,h1,h2,h3⟩:=hT.inn i hi j hj
 rw [h3,Int.toNat_natCast] at e;rw [<-hs (i+1) hi s t b ht e k hk]
 unfold Trel.synv
 rw [h1,h2,Int.toNat_natCast,Int.toNat_natCast,hS s b k hk]
 rfl
theorem Cov.synL (hT:Cov T mw x a) (hs:∀ i,i<=T.n->∀ t t',t<mw->t'<mw->a t i=a t' i->∀ k,k<r->dotN add mul (x t) (H k) i=dotN add mul (x t') (H k) i) {i:Nat} (hi:i<T.n) (hS:∀ t,t<mw->∀ k,k<r->T.syn add mul H i (a t i) k=dotN add mul (x t) (H k) i) :
  ∀ m,m<=T.el i->∀ t,t<mw->T.asg i m (a t (i+1))->∀ k,k<r->T.synL add mul H (T.syn add mul H i) i m (a t (i+1)) k=dotN add mul (x t) (H k) (i+1)
 | 0,_,_,_,h,_,_=>absurd h Trel.asg_zero
 | m + 1, hm, t, ht, h, k, hk => by
  show (if (T.to i m).toNat=a t (i+1) then T.synv add mul H (T.syn add mul H i) i m k else T.synL add mul H (T.syn add mul H i) i m (a t (i+1)) k)=_
  by_cases e:(T.to i m).toNat=a t (i+1)
  ·rw [if_pos e]
   exact hT.synv hs hi hS (by omega) ht e hk
  ·rw [if_neg e]
   rcases Trel.asg_succ.1 h with g | g
   ·exact Cov.synL hT hs hi hS m (by omega) t ht g k hk
   ·exact absurd g e
theorem Cov.syn (hT:Cov T mw x a) (hs:∀ i,i<=T.n->∀ t t',t<mw->t'<mw->a t i=a t' i->∀ k,k<r->dotN add mul (x t) (H k) i=dotN add mul (x t') (H k) i):∀ i,i<=T.n->∀ t,t<mw->∀ k,k<r->T.syn add mul H i (a t i) k=dotN add mul (x t) (H k) i
 | 0,_,_,_,_,_=>rfl
 | i+1,hi,t,ht,k,hk=>by
  obtain ⟨j,hj,_,_,h3⟩:=hT.out i hi t ht
  exact hT.synL hs hi (Cov.syn hT hs i (by omega)) (T.el i) (Nat.le_refl _) t ht ⟨j,hj,by rw [h3,Int.toNat_natCast]⟩ k hk
theorem Cov.synOk (hT:Cov T mw x a) (hx:∀ t i,x t i<q) (hs:∀ i,i<=T.n->∀ t t',t<mw->t'<mw->a t i=a t' i->∀ k,k<r->dotN add mul (x t) (H k) i=dotN add mul (x t') (H k) i):T.SynOk add mul H q r:=fun i hi j hj=>by
 obtain ⟨t,ht,h1,h2,h3⟩:=hT.inn i hi j hj
 have hxt:=hx t i
 have hS:=hT.syn hs i (by omega)
 refine ⟨⟨by rw [h2]; omega,by rw [h2]; omega⟩,fun hz k hk=>?_⟩
 rw [h3,Int.toNat_natCast] at hz ⊢
 rw [hT.synL hs hi hS j (by omega) t ht hz k hk,hT.synv hs hi hS hj ht (by rw [h3,Int.toNat_natCast]) hk]
theorem Trel.path_lev {e:Nat->Nat} {nd u:Nat->Int} (h0:nd 0=0) (hp:∀ t,t<T.n->e t<T.el t/\T.fr t (e t)=nd t/\T.to t (e t)=nd (t+1)/\T.lb t (e t)=u t):∀ i,i<=T.n->((List.range i).map u,nd i) ∈ T.lev i
 | 0,_=>by simp [Trel.lev,h0]
 | i+1,hi=>by
  obtain ⟨h1,h2,h3,h4⟩:=hp i (by omega)
  have ih:=Trel.path_lev h0 hp i (by omega)
  show _ ∈ (T.lev i).flatMap (T.ext i (T.el i))
  refine List.mem_flatMap.2 ⟨_,ih,?_⟩
  unfold Trel.ext
  refine List.mem_map.2 ⟨e i,Trel.outs_mem.2 ⟨h1,h2⟩,?_⟩
  rw [List.range_succ,List.map_append,h3,h4]
  rfl
end
section
variable {T:Trel} {q n r:Nat} {add mul:Nat->Nat->Nat} {neg:Nat->Nat} {H V a:Nat->Nat->Nat}
theorem Cov.isTr (hL:FieldLaws q add mul) (hneg:∀ x,x<q->neg x<q/\add x (neg x)=0) (hV:RrefN q n T.n V) (hrel:NullRel q add mul neg n T.n V r H) (hP:T.Proper) (hT:Cov T (q ^ n) (fun t=>spE add mul V (msgD q n t) n) a)
  (hs:∀ i,i<=T.n->∀ t t',t<q ^ n->t'<q ^ n->a t i=a t' i->∀ k,k<r->dotN add mul (spE add mul V (msgD q n t) n) (H k) i=dotN add mul (spE add mul V (msgD q n t') n) (H k) i):IsTr q r add mul H T n:=by
 have w:0<q:=by have:=hL.two; omega
 have m:0<q ^ n:=Nat.pow_pos w
 have h:=hT.synOk (fun t i=>za0 hL _ _ _) hs
 have hz:∀ k,k<r->T.syn add mul H T.n 0 k=0:=fun k hk=>by
  have h1:=hT.syn hs T.n (Nat.le_refl _) 0 m k hk
  have h2:=hT.lt T.n (Nat.le_refl _) 0 m
  rw [hP.wn] at h2
  rw [show a 0 T.n=0 by omega] at h1
  rw [h1]
  exact (zci hL hneg hV hrel (fun j _=>za0 hL _ _ _)).1 (zji hL 0) k hk
 refine ⟨h,hz,?_⟩
 obtain ⟨C,hC⟩:∃ C,C=(List.range (q ^ n)).map fun i=>(List.range T.n).map fun j=>((spE add mul V (msgD q n i) n j:Nat):Int):=⟨_,rfl⟩
 have p:C.length=q ^ n:=by rw [hC]; simp
 obtain ⟨A,z⟩:=Trel.lev_uniq hP T.n (Nat.le_refl _)
 have hW:((T.lev T.n).map (·.1)).Nodup:=zaT A fun x hx y hy e=>z x hx y hy e
 have o:((T.lev T.n).map (·.1)).length=T.fwd (fun _ _=>1) T.n 0:=by rw [Trel.lev_words,Trel.words_len hP]
 have d:∀ x,x ∈ (T.lev T.n).map (·.1)->x ∈ C:=fun x hx=>by
  obtain ⟨y,hy,rfl⟩:=List.mem_map.1 hx
  obtain ⟨g1,g2,g3⟩:=Trel.lev_in hP T.n (Nat.le_refl _) y hy
  obtain ⟨g4,g5⟩:=Trel.lev_syn hP h T.n (Nat.le_refl _) y hy
  have v:y.2.toNat=0:=by have:=hP.wn; omega
  have b:∀ j,j<T.n->0<=y.1.getD j 0/\y.1.getD j 0<(q:Int):=fun j hj=>by
   rw [List.getD_eq_getElem?_getD,List.getElem?_eq_getElem (by omega),Option.getD_some]
   exact g4 _ (List.getElem_mem _)
  have B:∀ j,j<T.n->symW y.1 j<q:=fun j hj=>by
   have:=b j hj
   unfold symW
   omega
  have D:=(zci hL hneg hV hrel B).2 fun k hk=>by rw [<-g5 k hk,v]; exact hz k hk
  rw [hC]
  exact ziG D g1 fun j hj=>by
   have:=b j hj
   unfold symW
   omega
 have hE:∃ e:Nat->Nat->Nat,∀ i,i<T.n->∀ t,t<q ^ n->e i t<T.el i/\T.fr i (e i t)=(a t i:Nat)/\T.lb i (e i t)=(spE add mul V (msgD q n t) n i:Nat)/\T.to i (e i t)=(a t (i+1):Nat):=by
  have hs:∀ i,∃ e:Nat->Nat,i<T.n->∀ t,t<q ^ n->e t<T.el i/\T.fr i (e t)=(a t i:Nat)/\T.lb i (e t)=(spE add mul V (msgD q n t) n i:Nat)/\T.to i (e t)=(a t (i+1):Nat):=fun i=>by
   by_cases g:i<T.n
   ·obtain ⟨e,he⟩:=hT.pick g
    exact ⟨e,fun _=>he⟩
   ·exact ⟨fun _=>0,fun k=>absurd k g⟩
  exact Classical.axiomOfChoice hs
 obtain ⟨e,he⟩:=hE
 have c:∀ x,x ∈ C->x ∈ (T.lev T.n).map (·.1):=fun x hx=>by
  rw [hC] at hx
  obtain ⟨t,ht,rfl⟩:=List.mem_map.1 hx
  have ht:=List.mem_range.1 ht
  have h0:((a t 0:Nat):Int)=0:=by
   have:=hT.lt 0 (Nat.zero_le _) t ht
   rw [hP.w0] at this
   omega
  exact List.mem_map.2 ⟨_,Trel.path_lev (T:=T) (e:=fun i=>e i t) (nd:=fun i=>(a t i:Nat)) (u:=fun i=>(spE add mul V (msgD q n t) n i:Nat)) h0 (fun i hi=>by
   obtain ⟨k1,k2,k3,k4⟩:=he i hi t ht
   exact ⟨k1,k2,k4,k3⟩) T.n (Nat.le_refl _),rfl⟩
 have f:C.Nodup:=by
  rw [hC]
  refine zag.2 fun s t hst ht e=>?_
  obtain ⟨i,hi,_,h2⟩:=zhQ hL hV hst ht
  have h3:=congrArg (fun l:List Int=>l.getD i 0) e
  dsimp only at h2
  simp [hi] at h3
  omega
 have l1:=zfi hW d
 have l2:=zfi f c
 omega
end
section
variable {q n N r:Nat} {add mul:Nat->Nat->Nat} {neg:Nat->Nat} {pv:Nat->Nat} {R V H:Nat->Nat->Nat} {T:Trel}
theorem zhT (hL:FieldLaws q add mul) {x y z:Nat} (hx:x<q) (hy:y<q) (hz:z<q) (h:add x z=add y z):x=y:=by
 obtain ⟨z',a,e⟩:=hL.neg z hz
 have h1:add (add x z) z'=add (add y z) z':=by rw [h]
 rw [hL.addAssoc x z z' hx hz a,hL.addAssoc y z z' hy hz a,e,hL.addComm x 0,hL.addComm y 0,hL.zeroAdd x hx,hL.zeroAdd y hy] at h1
 exact h1
theorem zf4 (hL:FieldLaws q add mul) {u u' y:Nat->Nat} {i:Nat}:∀ m,(∀ j,i<=j->j<i+m->u j=u' j)->dotN add mul u y (i+m)=dotN add mul u' y (i+m)->dotN add mul u y i=dotN add mul u' y i
 | 0,_,h=>h
 | m+1,he,h=>by
  have h:add (dotN add mul u y (i+m)) (mul (u (i+m)) (y (i+m)))=add (dotN add mul u' y (i+m)) (mul (u' (i+m)) (y (i+m))):=h
  rw [he (i+m) (by omega) (by omega)] at h
  exact zf4 hL m (fun j h1 h2=>he j h1 (by omega)) (zhT hL (zeA hL _ _ _) (zeA hL _ _ _) (hL.mulLt _ _) h)
theorem MinT.coefs (hL:FieldLaws q add mul) (hsp:SameSp q add mul N n n V R):∃ C:Nat->Nat->Nat,(∀ t s,C t s<q)/\∀ t j,j<N->spE add mul V (msgD q n t) n j=spE add mul R (C t) n j:=by
 have a:0<q:=by have:=hL.two; omega
 have hs:∀ t,∃ c:Nat->Nat,(∀ s,c s<q)/\∀ j,j<N->spE add mul V (msgD q n t) n j=spE add mul R c n j:=fun t=>by
  obtain ⟨c,h1,h2⟩:=(hsp _).1 (zji hL t)
  refine ⟨fun s=>if s<n then c s else 0,fun s=>?_,fun j hj=>?_⟩
  ·show (if s<n then c s else 0)<q
   split
   ·exact h1 s (by assumption)
   ·exact a
  have h3:spE add mul V (msgD q n t) n j=spE add mul R c n j:=h2 j hj
  rw [h3]
  exact zbM n fun s hs=>by show mul (c s) _=mul (if s<n then c s else 0) _; rw [if_pos hs]
 obtain ⟨C,hC⟩:=Classical.axiomOfChoice hs
 exact ⟨C,fun t=>(hC t).1,fun t=>(hC t).2⟩
theorem MinT.cov (hL:FieldLaws q add mul) (h:SpanF q n N pv R) (hM:MinT q add mul n N pv R T) (hsp:SameSp q add mul N n n V R) {C:Nat->Nat->Nat} (hC:∀ t s,C t s<q) (hW:∀ t j,j<N->spE add mul V (msgD q n t) n j=spE add mul R (C t) n j) :
  Cov T (q ^ n) (fun t=>spE add mul V (msgD q n t) n) (fun t i=>packB q (actA pv R N i) (C t) n):=by
 have b:0<q:=by have:=hL.two; omega
 have e:=hM.nN
 have a:∀ c:Nat->Nat,(∀ s,c s<q)->∃ t,t<q ^ n/\∀ s,s<n->C t s=c s:=fun c hc=>by
  obtain ⟨t,ht,h1⟩:=zj3 ((hsp (spE add mul R c n)).2 ⟨c,fun s _=>hc s,fun _ _=>rfl⟩)
  refine ⟨t,ht,fun s hs=>?_⟩
  exact zeN hL h (c:=C t) (d:=c) (fun s _=>hC t s) (fun s _=>hc s) (i:=N) (fun j _ hj=>by rw [<-hW t j hj,<-h1 j hj]) (s+1) s (by omega) hs (h.pvlt s hs)
 refine ⟨fun i hi t ht=>?_,fun i hi v hv=>?_,fun i hi t ht=>?_,fun i hi j hj=>?_,fun i hi=>hM.srt i (by omega)⟩
 ·rw [hM.w i (by omega)]
  have:=zbL (D:=actA pv R N i) (c:=C t) n fun s _=>hC t s
  omega
 ·rw [hM.w i (by omega)] at hv
  obtain ⟨c,h1,_,h2⟩:=zaP b (D:=actA pv R N i) n v (by omega)
  obtain ⟨t,ht,h3⟩:=a c h1
  exact ⟨t,ht,by rw [<-h2]; exact zaU n fun s hs _=>h3 s hs⟩
 ·obtain ⟨j,hj,h1,h2,h3⟩:=hM.edge (i:=i) (by omega) (hC t)
  exact ⟨j,hj,h1,by rw [h2,hW t i (by omega)],h3⟩
 obtain ⟨c,h1,h2⟩:=hM.inn i (by omega) j hj
 simp only [Trel.eD,secE,Prod.mk.injEq] at h2
 obtain ⟨t,ht,h3⟩:=a c h1
 refine ⟨t,ht,?_,?_,?_⟩
 ·rw [h2.1,zaU (c':=C t) n fun s hs _=>(h3 s hs).symm]
 ·rw [h2.2.1,hW t i (by omega),zbM (c':=C t) n fun s hs=>by rw [h3 s hs]]
 ·rw [h2.2.2,zaU (c':=C t) n fun s hs _=>(h3 s hs).symm]
theorem MinT.ker (hL:FieldLaws q add mul) (hneg:∀ x,x<q->neg x<q/\add x (neg x)=0) (hV:RrefN q n N V) (hp:NullRel q add mul neg n N V r H) (hsp:SameSp q add mul N n n V R) (h:SpanF q n N pv R) (hdis:∀ i j,i<j->j<n->lE (R i) N≠lE (R j) N)
  {C:Nat->Nat->Nat} (hC:∀ t s,C t s<q) (hW:∀ t j,j<N->spE add mul V (msgD q n t) n j=spE add mul R (C t) n j) {i:Nat} (hi:i<=N) (t t':Nat) :
  (∀ k,k<r->dotN add mul (spE add mul V (msgD q n t) n) (H k) i=dotN add mul (spE add mul V (msgD q n t') n) (H k) i)↔packB q (actA pv R N i) (C t) n=packB q (actA pv R N i) (C t') n:=by
 have hd:∀ t k,dotN add mul (spE add mul V (msgD q n t) n) (H k) i=dotN add mul (spE add mul R (C t) n) (H k) i:=fun t k=>zby i fun j hj=>hW t j (by omega)
 constructor
 ·intro he
  have e2:=ziI hL hneg hV hp hsp h hdis (c:=C t) (c':=C t') (fun s _=>hC t s) (fun s _=>hC t' s) (k:=i) hi (fun k hk=>by rw [<-hd,<-hd]; exact he k hk) (fun j h1 h2 _=>absurd h1 (by omega))
  exact zaU n fun s hs hA=>e2 s hs ((zaO i s).1 hA).1 ((zaO i s).1 hA).2
 intro he k hk
 have a:=zcS n (fun s _=>hC t s) (fun s _=>hC t' s) he
 rw [hd,hd]
 obtain ⟨d,b⟩:∃ d:Nat->Nat,d=fun s=>if pv s<i then C t s else C t' s:=⟨_,rfl⟩
 have f:∀ s,d s<q:=fun s=>by
  rw [b]
  show (if pv s<i then C t s else C t' s)<q
  split
  ·exact hC _ _
  ·exact hC _ _
 have h1:∀ j,j<i->spE add mul R d n j=spE add mul R (C t) n j:=fun j hj=>zbM n fun s hs=>by
  rw [b]
  show mul (if pv s<i then C t s else C t' s) _=_
  split
  ·rfl
  ·rw [h.low s hs j (by omega),hL.mulZero (hC _ _),hL.mulZero (hC _ _)]
 have h2:∀ j,i<=j->j<N->spE add mul R d n j=spE add mul R (C t') n j:=fun j hij hj=>zbM n fun s hs=>by
  rw [b]
  show mul (if pv s<i then C t s else C t' s) _=_
  split
  ·rename_i g
   by_cases g2:(i:Int)<=lE (R s) N
   ·rw [a s hs ((zaO i s).2 ⟨g,g2⟩)]
   ·have:R s j=0:=zbs (n:=N) hj (by omega)
    rw [this,hL.mulZero (hC _ _),hL.mulZero (hC _ _)]
  ·rfl
 have e:∀ c:Nat->Nat,(∀ s,c s<q)->dotN add mul (spE add mul R c n) (H k) N=0:=fun c hc =>
  (zci hL hneg hV hp (fun j _=>za0 hL _ _ _)).1 ((hsp _).2 ⟨c,fun s _=>hc s,fun _ _=>rfl⟩) k hk
 have h3:=zf4 hL (u:=spE add mul R d n) (u':=spE add mul R (C t') n) (y:=H k) (i:=i) (N - i) (fun j h3 h4=>h2 j h3 (by omega)) (by
  rw [show i+(N - i)=N by omega,e d f,e _ (hC t')])
 rw [<-h3]
 exact zby i fun j hj=>(h1 j hj).symm
end
end Go.Proofs.YtgekjfpapmlndaaGreat