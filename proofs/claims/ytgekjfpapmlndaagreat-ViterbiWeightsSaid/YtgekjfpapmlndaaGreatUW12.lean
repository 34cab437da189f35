/- Merged texts of a claim: Renum, SeesCode, Minimal, Total, Secs47, Size47, Small47, RePath, IRows, Bwd. -/
import Derived.Test.YtgekjfpapmlndaaGreatUW11
namespace Go.Proofs.YtgekjfpapmlndaaGreat
set_option maxRecDepth 100000
set_option maxHeartbeats 32000000
open KA KB KC KD KE KF
open Go.RowKit
def RenumPost (T:Trel) (w:World) (e:Ending) (w':World):Prop :=
 Below w.heap.size w w'/\((T.properE≠0/\e=.returned (.tuple #[.agg #[.slice none 0 0,.slice none 0 0],.int .i64 T.properE])) ∨
  (T.properE=0/\∃ y A' B' c' d',e=.returned (.tuple #[.agg #[.slice A' T.nw c',.slice B' T.n d'],.int .i64 0])/\IsRen T y/\RenOut T y w' A' B' c' d'))
structure LeastSt (T:Trel) (i j lb bx sb m:Nat) (w:World):Prop where
 least:w.rowIs lb 90 (m*3) (eRow (T.lx (T.nm i) i j))
 box:w.rowIs bx 86 1 (fun _=>.slice (some ⟨lb,0,none⟩) m m)
 seen:w.rowIs sb 4 m (fun v=>.bool (T.sn (T.nm i) i j v))
theorem LeastSt.on {T:Trel} {i j lb bx sb m:Nat} {w w':World} (h:LeastSt T i j lb bx sb m w) (hb:Below w.heap.size w w'):LeastSt T i j lb bx sb m w' :=
 ⟨h.least.of_block (hb.block _ h.least.lt),h.box.of_block (hb.block _ h.box.lt),h.seen.of_block (hb.block _ h.seen.lt)⟩
theorem zhZ (T:Trel) (A B:Option Addr) (c d:Nat) (w:World) (h:T.Reads w A B) (hc:T.nw<=c) :
  Calls Tryz.prog 78 #[.agg #[.slice A T.nw c,.slice B T.n d]] w (RenumPost T w):=by
 obtain ⟨RB,ck⟩:=exx ((Obj.cells #[.slice A T.nw c,.slice B T.n d] 53))
 have dw:Below (w.heap.size+1) (w.alloc RB) (w.alloc RB):=Below.refl _ _
 have HS:Hid (∀ w',Below (w.heap.size+1) (w.alloc RB) w'->(w'.cell? ⟨w.heap.size,0,none⟩=some (.slice A T.nw c)/\w'.cell? ⟨w.heap.size,1,none⟩=some (.slice B T.n d))/\Below w.heap.size w w'):=fun w' hB=>by
  have bq:=zax hB
  subst ck
  exact ⟨⟨tbox hB rfl,tbox hB rfl⟩,bq⟩
 have HR:=hid h
 have HC:=hid hc
 clear h hc
 go_enter Tryz.func78, Tryz.ntmps78
 go_upto_region 1 with fail
 rw [<-ck];clear ck
 have al:((w.alloc RB).alloc (Obj.cells #[.slice none 0 0,.slice none 0 0] 53)).rowIs (w.alloc RB).heap.size 53 2 (fun _=>.slice none 0 0):=World.rowIs_alloc (w.alloc RB) _ _ _ (fun i hi=>by
  match i,hi with
  | 0,_=>rfl
  | 1,_=>rfl)
 have dd:(w.alloc RB).heap.size=w.heap.size+1:=by simp
 rw [dd] at al
 have cw:Below (w.alloc RB).heap.size (w.alloc RB) ((w.alloc RB).alloc (Obj.cells #[.slice none 0 0,.slice none 0 0] 53)):=(Below.refl _ _).alloc (Nat.le_refl _) _
 have bp:=zap dw cw
 obtain ⟨w4,d5⟩:=exx ((w.alloc RB).alloc (Obj.cells #[.slice none 0 0,.slice none 0 0] 53))
 rw [<-d5] at al bp ⊢
 obtain ⟨rb,c7⟩:=exx (w.heap.size+1)
 rw [<-c7] at al ⊢
 have bt:=hid c7
 clear d5 cw dd dw c7
 obtain ⟨⟨p0,p1⟩,hW⟩:=HS.out _ bp
 go_wp2_with fail
 refine (zcI T A B c d w4 (HR.out.on hW)).mono ?_
 rintro e w5 ⟨rfl,hb⟩
 have bh:=zap bp hb
 have a5:=al.of_block (hb.block rb al.lt)
 clear p0 p1 hW bp al hb
 by_cases hs:T.properE=0
 rotate_left
 ·obtain ⟨pe,c8⟩:∃ x,x=T.properE:=⟨_,rfl⟩
  have e7:=hid c8
  rw [<-c8] at hs ⊢;clear c8
  have ft:(pe != 0)=true:=by simp [hs]
  have r0:=a5.cell (i:=0) (by omega)
  have r1:=a5.cell (i:=1) (by omega)
  have z0:=a5.frozen 0
  have z1:=a5.frozen 1
  have q0:=a5.set 0 (.slice none 0 0)
  have q1:=q0.cell (i:=1) (by omega)
  rw [if_neg (by omega)] at q1
  have q2:=q0.frozen 1
  have q3:=q0.set 1 (.slice none 0 0)
  have q4:=q3.cell (i:=0) (by omega)
  have q5:=q3.cell (i:=1) (by omega)
  rw [if_neg (by omega),if_pos rfl] at q4
  rw [if_pos rfl] at q5
  have fo:=hid bh
  clear q0 q3 bh a5
  go_wp2
  refine bodyPost_ret (v:=.tuple #[.agg #[.slice none 0 0,.slice none 0 0],.int .i64 pe]) (by simp [results,Tryz.results78, go_sem,q4,q5]) rfl ?_
  refine ⟨(HS.out _ ((fo.out.setCell (p:=⟨rb,0,none⟩) (by rw [bt.out]; exact Nat.le_refl _) _).setCell (p:=⟨rb,1,none⟩) (by rw [bt.out]; exact Nat.le_refl _) _)).2,.inl ⟨by rw [<-e7.out]; exact hs,by rw [<-e7.out]⟩⟩
 have HP:=hid (Trel.proper_of hs)
 have fa:=hid hs
 rw [hs];clear hs
 go_upto_region 5 with fail
 have an:=zfL w5
 have au:Below w5.heap.size w5 ((w5.alloc (Obj.cells #[.int .i64 0] 3)).alloc (Obj.cells #[.slice (some ⟨w5.heap.size,0,none⟩) 1 1] 22)):=((Below.refl _ _).alloc (Nat.le_refl _) _).alloc (by simp) _
 obtain ⟨w6,aa⟩:∃ W,W=(w5.alloc (Obj.cells #[.int .i64 0] 3)).alloc (Obj.cells #[.slice (some ⟨w5.heap.size,0,none⟩) 1 1] 22):=⟨_,rfl⟩
 rw [<-aa] at an au ⊢;rw [<-Trel.names_one HP.out] at an
 have cm:=zap bh au
 have df:=a5.of_block (au.block rb a5.lt)
 have em:w.heap.size<w5.heap.size:=zaV bh
 have bn:w5.heap.size<=w6.heap.size:=au.size
 obtain ⟨nv,dh⟩:∃ x:Value,x=.slice (some ⟨w5.heap.size+1,0,none⟩) 1 1:=⟨_,rfl⟩
 rw [<-dh] at an ⊢
 obtain ⟨bs,dn⟩:=exx w5.heap.size
 rw [<-dn] at an em bn
 have ak:=hid an
 have e2:=hid df
 obtain ⟨⟨p0,p1⟩,hW⟩:=HS.out _ cm
 have er:=HP.out.shape.n64
 have e8:=hid HP.out.shape.nw
 clear an aa au bh a5 df dh dn
 go_wp2
 go_loopg [5,24] T.n (fun gg nv iv wx=>∃ i:Nat,iv=.int .i64 (i:Nat)/\i<=T.n/\T.n<=i+gg/\Hid (TabL wx bs nv (T.names (i+1)))/\Hid (wx.rowIs rb 53 2 (fun _=>.slice none 0 0))/\Below (w.heap.size+1) (w.alloc RB) wx/\bs<=wx.heap.size)
 case atStart=>exact ⟨0,rfl,by omega,by omega,ak,e2,cm,bn⟩
 clear ak e2 cm bn p0 p1 hW
 obtain ⟨gI,ey⟩:=exx gk
 subst ey
 obtain ⟨i,rfl,hi,fy,ak,br,hB,bn⟩:=hrel
 obtain ⟨NA,ncap,ds⟩:=ak.out.shape
 rw [T.names_len] at ds
 subst ds
 have g9:(0:Int)<=(i:Int):=by omega
 obtain ⟨⟨p0,p1⟩,hW⟩:=HS.out _ hB
 by_cases hlt:i<T.n
 rotate_left
 ·have cb:¬ (i:Int)<(T.n:Int):=by omega
  obtain rfl:i=T.n:=by omega
  obtain ⟨O,oc,hO,ac⟩:=Trel.names_rows HP.out ak.out
  injection hO with hO _ hO2
  subst hO hO2
  have cp:=hid ac
  have fk:=hid hB
  clear ac hB
  go_wp2_with fail
  refine (zgR T A B NA c d ncap wr (HR.out.on hW) HP.out HC.out cp.out).mono ?_
  rintro e w7 ⟨hb,y,A',B',c',d',rfl,b1,b5⟩
  have hr:=br.out.of_block (hb.block rb br.out.lt)
  have dv:=zap fk.out hb
  have r0:=hr.cell (i:=0) (by omega)
  have r1:=hr.cell (i:=1) (by omega)
  have z0:=hr.frozen 0
  have z1:=hr.frozen 1
  have q0:=hr.set 0 (.slice A' T.nw c')
  have q1:=q0.cell (i:=1) (by omega)
  rw [if_neg (by omega)] at q1
  have q2:=q0.frozen 1
  have q3:=q0.set 1 (.slice B' T.n d')
  have q4:=q3.cell (i:=0) (by omega)
  have q5:=q3.cell (i:=1) (by omega)
  rw [if_neg (by omega),if_pos rfl] at q4
  rw [if_pos rfl] at q5
  have cq:=hid b1
  have fl:=hid dv
  have cr:=hid ((b5.setCell (b:=rb) (i:=0) hr (by decide) (by decide) (by decide) (.slice A' T.nw c')).setCell (b:=rb) (i:=1) q0 (by decide) (by decide) (by decide) (.slice B' T.n d'))
  clear b1 b5 hr q0 q3 hb dv p0 p1
  go_wp2
  refine bodyPost_ret (v:=.tuple #[.agg #[.slice A' T.nw c',.slice B' T.n d'],.int .i64 0]) (by simp [results,Tryz.results78, go_sem,q4,q5]) rfl ?_
  refine ⟨(HS.out _ ((fl.out.setCell (p:=⟨rb,0,none⟩) (by rw [bt.out]; exact Nat.le_refl _) _).setCell (p:=⟨rb,1,none⟩) (by rw [bt.out]; exact Nat.le_refl _) _)).2,.inr ⟨fa.out,_,_,_,_,_,rfl,cq.out,cr.out⟩⟩
 have cb:(i:Int)<(T.n:Int):=by omega
 obtain ⟨eb,eo,E,ec,f5,f4,x0,f6,gc,ch,_⟩:=HR.out.sec hlt
 obtain ⟨ab,ao,hA,f7,x1,_⟩:=HR.out.width (i:=i+1) (by rw [e8.out]; omega)
 subst f5 hA
 have f3:=HP.out.shape.elb hlt
 obtain ⟨el,ai⟩:=exx (T.el i)
 have ea:=hid ai
 rw [<-ai] at x0 f6 ch f3
 have bw:=HP.out.shape.wid (i:=i+1) (by omega)
 obtain ⟨m,hm⟩:∃ m:Nat,m=(T.W (i+1)).toNat:=⟨_,rfl⟩
 have di:T.W (i+1)=(m:Int):=by omega
 rw [di] at x1
 have et:0<m:=by omega
 have fv:m<=65536:=by omega
 have HM:=hid hm
 have fh:=hid ch
 have x0r:=(hW.cell (p:=⟨eb,eo+i,none⟩) f4).trans x0
 have x1r:=(hW.cell (p:=⟨ab,ao+(i+1),none⟩) f7).trans x1
 have ev:(i:Int)+1<(T.nw:Int):=by have:=e8.out; omega
 have ew:(0:Int)<=(i:Int)+1:=by omega
 have ek:IntKind.i64.wrap ((i:Int)+1)=(i:Int)+1:=IntWalk.i64_in _ (by omega)
 have ep:((i:Int)+1).toNat=i+1:=by omega
 have es:=fun W=>zeF m (by omega) W
 have b7:=fun W=>zaf (P:=Tryz.prog) 185 4 _ 1 Tryz.underlying185 Tryz.infoBool rfl (m:Int) (by omega) (by omega) (by omega) W
 simp only [Int.toNat_natCast] at b7
 clear ai hm di bw ch x0 x1
 go_upto_region 9 with fail
 have fq:=zaV hB
 obtain ⟨wa,en⟩:=exx wr
 subst en
 have bu:=aly wa (Obj.cells (madeCells #[.int .i64 0,.int .i64 0,.int .i64 0] (m*3)) 90)
 have bb:=zdH wa m
 have c6:(wa.alloc (Obj.cells (madeCells #[.int .i64 0,.int .i64 0,.int .i64 0] (m*3)) 90)).heap.size=wa.heap.size+1:=by simp
 obtain ⟨lb,bm⟩:=exx wa.heap.size
 obtain ⟨w7,d4⟩:=exx (wa.alloc (Obj.cells (madeCells #[.int .i64 0,.int .i64 0,.int .i64 0] (m*3)) 90))
 rw [<-d4] at bu bb c6 ⊢;rw [<-c6];rw [<-bm] at bb ⊢
 have a2:=aly w7 (Obj.cells #[.slice (some ⟨lb,0,none⟩) m m] 86)
 have be:(w7.alloc (Obj.cells #[.slice (some ⟨lb,0,none⟩) m m] 86)).rowIs w7.heap.size 86 1 (fun _=>.slice (some ⟨lb,0,none⟩) m m):=World.rowIs_alloc w7 _ _ _ (fun i hi=>by
  match i,hi with
  | 0,_=>rfl)
 have c5:(w7.alloc (Obj.cells #[.slice (some ⟨lb,0,none⟩) m m] 86)).heap.size=w7.heap.size+1:=by simp
 obtain ⟨bx,dm⟩:=exx w7.heap.size
 obtain ⟨w8,d3⟩:=exx (w7.alloc (Obj.cells #[.slice (some ⟨lb,0,none⟩) m m] 86))
 rw [<-d3] at a2 be c5 ⊢;rw [<-dm] at be c5 ⊢
 have ce:=bb.of_block (a2.block lb bb.lt)
 have Z:=onS bu a2
 replace p0:=cellS Z p0;replace x1r:=cellS Z x1r
 have aq:Hid (wa.heap.size<=lb/\wa.heap.size<=bx):=by show _/\_; omega
 clear bu a2 d4 d3 bb c6 c5 es bm dm
 go_upto_region 10 with fail
 have bj:=World.rowIs_made w8 (.bool false) m 4
 have av:=aly w8 (Obj.cells (madeCells #[Value.bool false] m) 4)
 obtain ⟨sb,da⟩:=exx w8.heap.size
 obtain ⟨w9,cz⟩:=exx (w8.alloc (Obj.cells (madeCells #[Value.bool false] m) 4))
 rw [<-cz] at av bj ⊢;rw [<-da] at bj ⊢
 have ae:=(ce.of_block (av.block lb ce.lt)).congr (g:=eRow (T.lx (T.nm i) i 0)) fun k _=>by
  have:T.lx (T.nm i) i 0=fun _=>(0,0,0):=funext fun v=>Trel.lx_zero _ _ _ _
  rw [this]
 have a3:=be.of_block (av.block bx be.lt)
 have db:w9.rowIs sb 4 m (fun v=>.bool (T.sn (T.nm i) i 0 v)):=bj.congr fun v _=>by rw [Trel.sn_zero]
 have bg:=onS Z av
 have e0:Hid (wa.heap.size<=sb):=by show _<=_; have:=Z.size; omega
 have Q:Hid (LeastSt T i 0 lb bx sb m w9):=⟨ae,a3,db⟩
 have cv:=hid hB
 clear ce be bj ae a3 db av Z cz da b7 x1r p0 p1 hW x0r hB
 go_wp2
 go_loopg [45] el (fun gg jv wx=>∃ j:Nat,jv=.int .i64 (j:Nat)/\j<=el/\el<=j+gg/\Hid (LeastSt T i j lb bx sb m wx)/\Below wa.heap.size wa wx)
 case atStart=>exact ⟨0,rfl,by omega,by omega,Q,bg⟩
 clear Q bg
 obtain ⟨j,rfl,hj,fw,Q,hB⟩:=hrel
 have fx:(0:Int)<=(j:Int):=by omega
 have du:=zap cv.out hB
 obtain ⟨_,hW⟩:=HS.out _ du
 by_cases hltj:j<el
 rotate_left
 ·have b8:¬ (j:Int)<(el:Int):=by omega
  obtain rfl:j=el:=by omega
  obtain ⟨l,s,o⟩:=Q.out
  rw [ea.out] at l
  have co:=hid (br.out.of_block (hB.block rb br.out.lt))
  have X:=ak.out.on hB
  have b0:=s.cell (i:=0) (by omega)
  have ff:Hid (∀ u v,u<m->v<m->(lessV (T.lx (T.nm i) i (T.el i) u).1 (T.lx (T.nm i) i (T.el i) u).2.1 (T.lx (T.nm i) i (T.el i) v).1 (T.lx (T.nm i) i (T.el i) v).2.1<0↔T.kt (T.nm i) i (T.el i) u<T.kt (T.nm i) i (T.el i) v)):=fun u v hu hv=>HP.out.lx_key hlt u v (by rw [<-HM.out]; exact hu) (by rw [<-HM.out]; exact hv)
  have fg:Hid (∀ a b,a<m->b<m->T.kt (T.nm i) i (T.el i) a=T.kt (T.nm i) i (T.el i) b->a=b):=fun a b ha hb e=>HP.out.keys hlt a b (by rw [<-HM.out]; exact ha) (by rw [<-HM.out]; exact hb) e
  have fd:Hid ((T.names (i+1)).length<=1048576):=by show _<=_; rw [T.names_len]; omega
  have cs:Hid (T.nrow (i+1)=(List.range m).map fun u=>(((rankOf (T.kt (T.nm i) i (T.el i)) m u:Nat)):Int)):=by
   show T.nrow (i+1)=_
   unfold Trel.nrow
   rw [<-HM.out]
   refine List.map_congr_left fun u _=>?_
   show ((rankOf (T.kt (T.nm i) i (T.el i)) (T.W (i+1)).toNat u:Nat):Int)=_
   rw [<-HM.out]
  obtain ⟨w6,aa⟩:=exx wr
  subst aa
  have fp:=cv.out.size
  have gb:=hB.size
  have ed:Hid (CmpB bx m (fun u v=>lessV (T.lx (T.nm i) i (T.el i) u).1 (T.lx (T.nm i) i (T.el i) u).2.1 (T.lx (T.nm i) i (T.el i) v).1 (T.lx (T.nm i) i (T.el i) v).2.1) w6):=fun W hW u v hu hv=>zeE bx lb m m (T.lx (T.nm i) i (T.el i)) W (cellS hW b0) (zab l hW) u v hu hv
  have f8:=hid X
  have fm:=hid hB
  clear o Q X l s hB
  go_wp2_with fail
  refine (zgP bx m _ (T.kt (T.nm i) i (T.el i)) w6 ed.out ff.out fg.out et (by omega)).mono ?_
  rintro e w7 ⟨go,rfl,dj,ex,kb⟩
  have a2:=aly w7 (Obj.cells #[Value.slice (some ⟨go,0,none⟩) m m] 22)
  have dr:OwnL w7 bs (.slice (some ⟨go,0,none⟩) m m) (T.nrow (i+1)):=by
   rw [cs.out]
   exact zfK dj (by omega) (by unfold maxLen; omega)
  have fc:=hid (dr.on a2)
  have cl:=onS (onS fm.out kb) a2
  have X:=(f8.out.on kb).on a2
  have dt:=zap cv.out cl
  have dz:=hid X
  have ee:=hid dt
  have aj:=hid ((co.out.of_block (kb.block rb co.out.lt)).of_block (a2.block rb (by have:=co.out.lt; have:=kb.size; omega)))
  have fi:Hid ((w7.alloc (Obj.cells #[Value.slice (some ⟨go,0,none⟩) m m] 22)).cell? ((⟨w7.heap.size,0,none⟩:Addr).add 0)=some (.slice (some ⟨go,0,none⟩) m m)):=tbox (Below.refl _ _) rfl
  have dx:Hid (bs<=(w7.alloc (Obj.cells #[Value.slice (some ⟨go,0,none⟩) m m] 22)).heap.size):=by show _<=_; have:=cl.size; omega
  clear dj ex kb a2 dr cl X dt ed b0
  go_wp2_with (first | (at_builtin; (refine zbU rfl (.tmp 86) (.tmp 91) rfl dz.out rfl (ad:=⟨w7.heap.size,0,none⟩) (c:=1) rfl fi.out rfl fc.out dx.out fd.out ?_); intro v9 w9 o1 o2))
  obtain ⟨RR,hA,_⟩:=dz.out
  have b6:=zar aj.out hA (by decide)
  have fb:=hid (aj.out.of_block (o2.block rb aj.out.lt fun e=>b6 e.symm))
  have a0:=hid (ee.out.grown o2 (by have:=ee.out.size; simpa using this) fun q e=>by have:=(hA.lt q e).1; omega)
  have ci:bs<=w9.heap.size:=Nat.le_trans dx.out o2.size
  rw [<-T.names_succ] at o1
  have f9:=hid o1
  clear hA b6 o1 o2
  go_wp2
  go_roundg (gI - 1)
  case measure=>omega
  case rel=>exact ⟨i+1,by go_num,by omega,by omega,f9,fb,a0.out,ci⟩
 have b8:(j:Int)<(el:Int):=by omega
 obtain ⟨b9,o9,rfl,a3,y0,y1,y2⟩:=zbt ((Rd.below fh.out hW (Nat.le_refl _)).mono hW.size) hltj
 have M:j<T.el i:=by rw [<-ea.out]; exact hltj
 have bi:=HP.out.toL hlt M
 have af:=HP.out.frL hlt M
 have cd:=(HP.out.sec i hlt).1 j M
 have L:0<=T.lb i j/\T.lb i j<256:=⟨cd.1,cd.2.1⟩
 have ca:=HP.out.nm_lt (i:=i) (by omega) af.1
 have aw:=(HP.out.shape.wid (i:=i) (by omega)).2
 obtain ⟨tn,bz⟩:=exx ((T.to i j).toNat)
 obtain ⟨fn,cg⟩:=exx ((T.fr i j).toNat)
 obtain ⟨lv,bl⟩:=exx (T.lb i j)
 rw [<-bz,<-HM.out] at bi;rw [<-cg] at af ca;rw [<-bl] at L;rw [<-bi.2] at y2;rw [<-af.2] at y0;rw [<-bl] at y1
 have a4:=bi.1
 have d9:(tn:Int)<(m:Int):=by omega
 obtain ⟨a1,bo⟩:=exx (T.nm i fn)
 have dl:T.code (T.nm i) i j=a1*256+lv.toNat:=by unfold Trel.code; rw [<-cg,<-bo,<-bl]
 rw [<-bo] at ca
 have V:a1<65536:=by omega
 obtain ⟨dp,eq,RA,rc,rfl,ga,s2,ah⟩:=(ak.out.on hB).readR (k:=i) (by rw [T.names_len]; omega)
 rw [T.names_get (by omega:i<i+1),T.nrow_len] at s2 
 rw [T.names_get (by omega:i<i+1)] at ah
 have de:=Own.rd ah rfl
 obtain ⟨nb,no,rfl,fu,s3⟩:=Rd.at1 de (i:=fn) (by rw [T.nrow_len]; exact af.1)
 have dc:listCell (T.nrow i) fn 0=.int .i64 (a1:Nat):=by
  show Value.int .i64 ((T.nrow i).getD fn 0)=_
  rw [T.nrow_get af.1,<-bo]
 rw [dc] at s3
 obtain ⟨Wi,dq⟩:=exx ((T.W i).toNat)
 rw [<-dq] at s2 af
 have ez:=af.1
 have dk:(fn:Int)<(Wi:Int):=by omega
 have ar:=hid dl
 have ap:=hid bz
 have fz:(i:Int)<(i:Int)+1:=by omega
 obtain ⟨l,s,o⟩:=Q.out
 have fs:=hB.size
 clear ah de dc bi af bz cg bl bo dl cd M aw ca Q dq
 go_upto_region 13 with fail
 obtain ⟨OB,bf⟩:=exx ((Obj.cells #[Value.int .i64 (fn:Nat),Value.int .i64 lv,Value.int .i64 (tn:Nat)] 90))
 rw [<-bf]
 have kb:=aly wr OB
 have c0:(wr.alloc OB).cell? ⟨wr.heap.size,0,none⟩=some (.int .i64 (fn:Nat)):=by subst bf; exact tbox (Below.refl _ _) rfl
 have c1:(wr.alloc OB).cell? ⟨wr.heap.size,1,none⟩=some (.int .i64 lv):=by subst bf; exact tbox (Below.refl _ _) rfl
 have c2:(wr.alloc OB).cell? ⟨wr.heap.size,2,none⟩=some (.int .i64 (tn:Nat)):=by subst bf; exact tbox (Below.refl _ _) rfl
 obtain ⟨w6,aa⟩:=exx (wr.alloc OB)
 have bm:=l.lt
 have eu:wr.heap.size<w6.heap.size:=by rw [aa]; simp
 obtain ⟨pb,b4⟩:=exx wr.heap.size
 rw [<-aa] at kb c0 c1 c2 ⊢;rw [<-b4] at c0 c1 c2 bm eu ⊢
 have e6:Hid (pb≠sb):=by
  have:=o.lt
  show _≠_
  omega
 replace l:=l.of_block (kb.block lb l.lt);replace s:=s.of_block (kb.block bx s.lt);replace o:=o.of_block (kb.block sb o.lt);replace s2:=cellS kb s2;replace s3:=cellS kb s3;replace hB:=onS hB kb;clear b4 aa bf kb y0 y1 y2 hW a3 du
 refine wp_region_held_drew (S:=fun w'=>w'.cell? ⟨dp,eq+i,none⟩=some (.slice (some ⟨nb,no,none⟩) Wi rc)/\w'.cell? ⟨nb,no+fn,none⟩=some (.int .i64 (a1:Nat))/\w'.cell? ⟨pb,0,none⟩=some (.int .i64 (fn:Nat))/\w'.cell? ⟨pb,1,none⟩=some (.int .i64 lv)) (by kernel_rfl) ⟨cellS (Below.refl _ _).drew s2,cellS (Below.refl _ _).drew s3,cellS (Below.refl _ _).drew c0,cellS (Below.refl _ _).drew c1⟩ (fun hHeld=>?_)
 obtain ⟨w7,hw,kb⟩:=dwx w6
 rw [<-hw] at hHeld ⊢;clear hw;replace l:=zab l kb;replace s:=zab s kb;replace o:=zab o kb;replace hB:=onS hB kb;replace c2:=cellS kb c2;replace s2:=cellS kb s2;replace s3:=cellS kb s3;replace c0:=cellS kb c0;replace c1:=cellS kb c1;clear kb
 refine tkq 0 (h:=tkq 1 (h:=tkq 2 (h:=tkq 3 (h:=tkq 4 (h:=tkq 5 (h:=tkq 6 (h:=tkq 7 (h:=tkq 8 (h:=tkq 9 (h:=tkq 10 (h:=?_)))))))))))
 refine rdq 11 (h:=fun K hK=>?_)
 go_simp
 obtain ⟨w8,hw⟩:=exx (World.alloc w7 (Obj.cells #[.int .i64 0,.int .i64 0,.int .i64 0] 90))
 have kb:=alx hw
 have hq:w8.rowIs w7.heap.size 90 3 (fun _=>.int .i64 0):=by rw [hw]; exact World.rowIs_alloc w7 _ _ _ (fun i hi=>by
  match i,hi with
  | 0,_=>rfl
  | 1,_=>rfl
  | 2,_=>rfl)
 have hz:=c2
 replace hz:=World.block_lt_of_cell? _ _ hz
 have cy:=World.block_lt_of_cell? _ _ s2
 have cx:=World.block_lt_of_cell? _ _ s3
 have ej:=l.lt
 have ei:=s.lt
 have eh:=o.lt
 have eg:=hB.size
 rw [<-hw];clear hw
 obtain ⟨qb,b3⟩:=exx w7.heap.size
 rw [<-b3] at hq ⊢
 have e4:Hid (qb≠lb):=by show _≠_; omega
 have e3:Hid (qb≠sb):=by show _≠_; omega
 have a6:pb≠qb:=by rw [b3]; exact Nat.ne_of_lt hz
 have cf:dp≠qb:=by rw [b3]; exact Nat.ne_of_lt cy
 have c9:nb≠qb:=by rw [b3]; exact Nat.ne_of_lt cx
 have cc:lb≠qb:=by omega
 have cj:bx≠qb:=by omega
 have c3:sb≠qb:=by omega
 have bv:wa.heap.size<=qb:=by omega
 clear b3 hz cy cx ej ei eh eg;replace l:=zab l kb;replace s:=zab s kb;replace o:=zab o kb;replace hB:=onS hB kb;replace c2:=cellS kb c2;replace s2:=cellS kb s2;replace s3:=cellS kb s3;replace c0:=cellS kb c0;replace c1:=cellS kb c1;clear kb
 refine bkq hK ⟨s2,s3,c0,c1⟩ (h:=fun hHeld=>?_)
 clear hK K
 refine rdq 12 (h:=fun K hK=>?_)
 have am:=hq.set 0 (.int .i64 (a1:Nat))
 have bk:=am.set 1 (.int .i64 lv)
 have dg:=bk.set 2 (.int .i64 0)
 have d0:=hq.cell (i:=0) (by omega)
 have z0:=hq.frozen 0
 have d1:=am.cell (i:=1) (by omega)
 have z1:=am.frozen 1
 have d2:=bk.cell (i:=2) (by omega)
 have z2:=bk.frozen 2
 have d51:=hq.cell (i:=1) (by omega)
 have z51:=hq.frozen 1
 have d52:=hq.cell (i:=2) (by omega)
 have z52:=hq.frozen 2
 have d62:=am.cell (i:=2) (by omega)
 have z62:=am.frozen 2
 have s2':=(zaa (p:=⟨qb,2,none⟩) (u:=(.int .i64 0)) (zaa (p:=⟨qb,1,none⟩) (u:=(.int .i64 lv)) (zaa (p:=⟨qb,0,none⟩) (u:=(.int .i64 (a1:Nat))) s2 cf) cf) cf)
 have s3':=(zaa (p:=⟨qb,2,none⟩) (u:=(.int .i64 0)) (zaa (p:=⟨qb,1,none⟩) (u:=(.int .i64 lv)) (zaa (p:=⟨qb,0,none⟩) (u:=(.int .i64 (a1:Nat))) s3 c9) c9) c9)
 have c0':=(zaa (p:=⟨qb,2,none⟩) (u:=(.int .i64 0)) (zaa (p:=⟨qb,1,none⟩) (u:=(.int .i64 lv)) (zaa (p:=⟨qb,0,none⟩) (u:=(.int .i64 (a1:Nat))) c0 a6) a6) a6)
 have c1':=(zaa (p:=⟨qb,2,none⟩) (u:=(.int .i64 0)) (zaa (p:=⟨qb,1,none⟩) (u:=(.int .i64 lv)) (zaa (p:=⟨qb,0,none⟩) (u:=(.int .i64 (a1:Nat))) c1 a6) a6) a6)
 have c2':=(zaa (p:=⟨qb,2,none⟩) (u:=(.int .i64 0)) (zaa (p:=⟨qb,1,none⟩) (u:=(.int .i64 lv)) (zaa (p:=⟨qb,0,none⟩) (u:=(.int .i64 (a1:Nat))) c2 a6) a6) a6)
 have ba:=((l.setOther (a:=⟨qb,0,none⟩) (by simpa using cc) (.int .i64 (a1:Nat))).setOther (a:=⟨qb,1,none⟩) (by simpa using cc) (.int .i64 lv)).setOther (a:=⟨qb,2,none⟩) (by simpa using cc) (.int .i64 0)
 have bd:=((s.setOther (a:=⟨qb,0,none⟩) (by simpa using cj) (.int .i64 (a1:Nat))).setOther (a:=⟨qb,1,none⟩) (by simpa using cj) (.int .i64 lv)).setOther (a:=⟨qb,2,none⟩) (by simpa using cj) (.int .i64 0)
 have az:=((o.setOther (a:=⟨qb,0,none⟩) (by simpa using c3) (.int .i64 (a1:Nat))).setOther (a:=⟨qb,1,none⟩) (by simpa using c3) (.int .i64 lv)).setOther (a:=⟨qb,2,none⟩) (by simpa using c3) (.int .i64 0)
 have bq:=((hB.setCell (p:=⟨qb,0,none⟩) bv (.int .i64 (a1:Nat))).setCell (p:=⟨qb,1,none⟩) bv (.int .i64 lv)).setCell (p:=⟨qb,2,none⟩) bv (.int .i64 0)
 have e5:=hid dg
 have ef:=hid bq
 have e9:=hid ba
 have dy:=hid bd
 have e1:=hid az
 clear am bk dg hq l s o hB ba bd az bq s2 s3 c0 c1 c2
 go_simp
 clear d0 z0 d1 z1 d2 z2 d51 d52 d62 z51 z52 z62
 refine bkq hK ⟨s2',s3',c0',c1'⟩ (h:=fun hHeld=>?_)
 clear hK K
 refine wpAnyH_done (by kernel_rfl) ?_ _
 clear hHeld
 go_wp2_with fail
 obtain ⟨w20,ay⟩:∃ W,W=((w8.setCell ⟨qb,0,none⟩ (.int .i64 (a1:Nat))).setCell ⟨qb,1,none⟩ (.int .i64 lv)).setCell ⟨qb,2,none⟩ (.int .i64 0):=⟨_,rfl⟩
 have hq:=e5.out
 have hB:=ef.out
 have l:=e9.out
 have s:=dy.out
 have o:=e1.out
 rw [<-ay] at hq hB l s o c2' ⊢
 have q0:=hq.cell (i:=0) (by omega)
 have q1:=hq.cell (i:=1) (by omega)
 have q2:=hq.cell (i:=2) (by omega)
 rw [if_neg (by omega),if_neg (by omega),if_pos rfl] at q0
 rw [if_neg (by omega),if_pos rfl] at q1
 rw [if_pos rfl] at q2;clear ay e5 ef e9 dy e1 s2' s3' c0' c1' hq
 have HL:=hid l
 have HX:=hid s
 have cn:=hid o
 have cu:=hid hB
 have z0:=o.cell a4
 have b4:=World.block_lt_of_cell? _ _ c2'
 have b2:=World.block_lt_of_cell? _ _ q0
 clear l s o hB
 by_cases hsn:T.sn (T.nm i) i j tn=true
 rotate_left
 ·have c4:T.sn (T.nm i) i j tn=false:=by simpa using hsn
  rw [c4] at z0
  have ag:=hid (Trel.kt_new L ar.out V c4)
  clear hsn c4
  have C2:=hid c2'
  have Q0:=hid q0
  have Q1:=hid q1
  have Q2:=hid q2
  clear b4 b2 q0 q1 q2
  go_quiet (fail)
  go_upto_region 15 with fail
  obtain ⟨w21,C⟩:=exx (w20.drewN nq)
  rw [<-C]
  have kb:Below w20.heap.size w20 w21:=by rw [C]; exact zac (Below.refl _ _) _
  clear C c2' z0
  have l:=zab HL.out kb
  have s:=zab HX.out kb
  have o:=zab cn.out kb
  have hB:=onS cu.out kb
  have c2:=cellS kb C2.out
  have q0:=cellS kb Q0.out
  have q1:=cellS kb Q1.out
  have q2:=cellS kb Q2.out
  have b0:=s.cell (i:=0) (by omega)
  have J:tn*3+2<m*3:=by omega
  clear kb
  refine wp_region_held_drew (S:=fun w'=>w'.cell? ⟨bx,0,none⟩=some (.slice (some ⟨lb,0,none⟩) m m)/\w'.cell? ⟨pb,2,none⟩=some (.int .i64 (tn:Nat))/\w'.cell? ⟨qb,0,none⟩=some (.int .i64 (a1:Nat))/\w'.cell? ⟨qb,1,none⟩=some (.int .i64 lv)/\w'.cell? ⟨qb,2,none⟩=some (.int .i64 0)) (by kernel_rfl) ⟨cellS (Below.refl _ _).drew b0,cellS (Below.refl _ _).drew c2,cellS (Below.refl _ _).drew q0,cellS (Below.refl _ _).drew q1,cellS (Below.refl _ _).drew q2⟩ (fun hHeld=>?_)
  obtain ⟨w22,hw,kb⟩:=dwx w21
  rw [<-hw] at hHeld ⊢;clear hw;replace l:=zab l kb;replace s:=zab s kb;replace o:=zab o kb;replace hB:=onS hB kb;replace b0:=cellS kb b0;replace c2:=cellS kb c2;replace q0:=cellS kb q0;replace q1:=cellS kb q1;replace q2:=cellS kb q2;clear kb
  refine tkq 0 (h:=tkq 1 (h:=tkq 2 (h:=tkq 3 (h:=tkq 4 (h:=tkq 5 (h:=tkq 6 (h:=tkq 7 (h:=?_))))))))
  refine rdq 8 (h:=fun K hK=>?_)
  have h1:=l.set (tn*3) (.int .i64 (a1:Nat))
  have h2:=h1.set (tn*3+1) (.int .i64 lv)
  have d0:=l.cell (i:=tn*3) (by omega)
  have f0:=l.frozen (tn*3)
  have d1:=h1.cell (i:=tn*3+1) (by omega)
  have f1:=h1.frozen (tn*3+1)
  have d2:=h2.cell (i:=tn*3+2) J
  have f2:=h2.frozen (tn*3+2)
  have d51:=l.cell (i:=tn*3+1) (by omega)
  have f51:=l.frozen (tn*3+1)
  have d52:=l.cell (i:=tn*3+2) J
  have f52:=l.frozen (tn*3+2)
  have d62:=h1.cell (i:=tn*3+2) J
  have f62:=h1.frozen (tn*3+2)
  have z:Hid (bx≠lb/\pb≠lb/\qb≠lb):=⟨zaH s l (by decide),by omega,e4.out⟩
  have N:Hid (bx≠sb/\pb≠sb/\qb≠sb):=⟨zaH s o (by decide),e6.out,e3.out⟩
  have a7:=zaH l o (by decide)
  have h9:=zgQ (x':=T.lx (T.nm i) i (j+1)) l (fun v=>Trel.lx_take ap.out.symm L ar.out V ag.out v)
  have Y:=((hB.setCell (p:=⟨lb,tn*3,none⟩) aq.out.1 (.int .i64 (a1:Nat))).setCell (p:=⟨lb,tn*3+1,none⟩) aq.out.1 (.int .i64 lv)).setCell (p:=⟨lb,tn*3+2,none⟩) aq.out.1 (.int .i64 0)
  have U:=((s.setOther (a:=⟨lb,tn*3,none⟩) (by simpa using z.out.1) (.int .i64 (a1:Nat))).setOther (a:=⟨lb,tn*3+1,none⟩) (by simpa using z.out.1) (.int .i64 lv)).setOther (a:=⟨lb,tn*3+2,none⟩) (by simpa using z.out.1) (.int .i64 0)
  have R:=((o.setOther (a:=⟨lb,tn*3,none⟩) (by simpa using a7.symm) (.int .i64 (a1:Nat))).setOther (a:=⟨lb,tn*3+1,none⟩) (by simpa using a7.symm) (.int .i64 lv)).setOther (a:=⟨lb,tn*3+2,none⟩) (by simpa using a7.symm) (.int .i64 0)
  have b09:=(zaa (p:=⟨lb,tn*3+2,none⟩) (u:=(.int .i64 0)) (zaa (p:=⟨lb,tn*3+1,none⟩) (u:=(.int .i64 lv)) (zaa (p:=⟨lb,tn*3,none⟩) (u:=(.int .i64 (a1:Nat))) b0 z.out.1) z.out.1) z.out.1)
  have c29:=(zaa (p:=⟨lb,tn*3+2,none⟩) (u:=(.int .i64 0)) (zaa (p:=⟨lb,tn*3+1,none⟩) (u:=(.int .i64 lv)) (zaa (p:=⟨lb,tn*3,none⟩) (u:=(.int .i64 (a1:Nat))) c2 z.out.2.1) z.out.2.1) z.out.2.1)
  have q09:=(zaa (p:=⟨lb,tn*3+2,none⟩) (u:=(.int .i64 0)) (zaa (p:=⟨lb,tn*3+1,none⟩) (u:=(.int .i64 lv)) (zaa (p:=⟨lb,tn*3,none⟩) (u:=(.int .i64 (a1:Nat))) q0 z.out.2.2) z.out.2.2) z.out.2.2)
  have q19:=(zaa (p:=⟨lb,tn*3+2,none⟩) (u:=(.int .i64 0)) (zaa (p:=⟨lb,tn*3+1,none⟩) (u:=(.int .i64 lv)) (zaa (p:=⟨lb,tn*3,none⟩) (u:=(.int .i64 (a1:Nat))) q1 z.out.2.2) z.out.2.2) z.out.2.2)
  have q29:=(zaa (p:=⟨lb,tn*3+2,none⟩) (u:=(.int .i64 0)) (zaa (p:=⟨lb,tn*3+1,none⟩) (u:=(.int .i64 lv)) (zaa (p:=⟨lb,tn*3,none⟩) (u:=(.int .i64 (a1:Nat))) q2 z.out.2.2) z.out.2.2) z.out.2.2)
  have H9:=hid h9
  have a0:=hid Y
  have a8:=hid U
  have a9:=hid R
  have I:=hid b09
  have H:=hid c29
  have G:=hid q09
  have F:=hid q19
  have D:=hid q29
  clear h9 Y U R h1 h2 l s o hB b09 c29 q09 q19 q29
  go_simp
  clear d0 f0 d1 f1 d2 f2 d51 f51 d52 f52 d62 f62 b0 c2 q0 q1 q2
  obtain ⟨w23,ax⟩:∃ W,W=((World.setCell w22 ⟨lb,tn*3,none⟩ (.int .i64 (a1:Nat))).setCell ⟨lb,tn*3+1,none⟩ (.int .i64 lv)).setCell ⟨lb,tn*3+2,none⟩ (.int .i64 0):=⟨_,rfl⟩
  have l:=H9.out
  have hB:=a0.out
  have s:=a8.out
  have o:=a9.out
  have b0:=I.out
  have c2:=H.out
  have q0:=G.out
  have q1:=F.out
  have q2:=D.out
  rw [<-ax] at l hB s o b0 c2 q0 q1 q2 ⊢;clear ax H9 a0 a8 a9 I H G F D
  refine bkq hK ⟨b0,c2,q0,q1,q2⟩ (h:=fun hHeld=>?_)
  clear hK K
  refine tkq 9 (h:=?_)
  refine rdq 10 (h:=fun K hK=>?_)
  have h1:=o.set tn (.bool true)
  have y0:=o.cell a4
  have y1:=o.frozen tn
  have Y:=hB.setCell (p:=⟨sb,tn,none⟩) e0.out (.bool true)
  have ae:=l.setOther (a:=⟨sb,tn,none⟩) (by simpa using a7) (.bool true)
  have a3:=s.setOther (a:=⟨sb,tn,none⟩) (by simpa using N.out.1) (.bool true)
  have b09:=zaa (p:=⟨sb,tn,none⟩) (u:=(.bool true)) b0 N.out.1
  have c29:=zaa (p:=⟨sb,tn,none⟩) (u:=(.bool true)) c2 N.out.2.1
  have q09:=zaa (p:=⟨sb,tn,none⟩) (u:=(.bool true)) q0 N.out.2.2
  have q19:=zaa (p:=⟨sb,tn,none⟩) (u:=(.bool true)) q1 N.out.2.2
  have q29:=zaa (p:=⟨sb,tn,none⟩) (u:=(.bool true)) q2 N.out.2.2
  have a9:=hid h1
  have a0:=hid Y
  have ct:=hid ae
  have a8:=hid a3
  have I:=hid b09
  have H:=hid c29
  have G:=hid q09
  have F:=hid q19
  have D:=hid q29
  clear h1 Y ae a3 l s o hB b0 c2 q0 q1 q2 b09 c29 q09 q19 q29
  go_simp
  clear y0 y1
  refine bkq hK ⟨I.out,H.out,G.out,F.out,D.out⟩ (h:=fun hHeld=>?_)
  clear hK K
  refine wpAnyH_done (by kernel_rfl) ?_ _
  clear hHeld
  go_wp2
  go_roundg (gk - 1)
  case measure=>omega
  refine ⟨j+1,by go_num,by omega,by omega,⟨ct.out,a8.out,a9.out.congr fun v _=>?_⟩,a0.out⟩
  rw [Trel.sn_take ap.out.symm L ar.out V ag.out v]
  by_cases e:v=tn
  ·rw [if_pos e,if_pos e]
  ·rw [if_neg e,if_neg e]
 obtain ⟨l0,l1,l2⟩:=zgO HL.out a4
 have Q:=hid (Trel.lx_less (T:=T) (f:=T.nm i) (i:=i) (j:=j) (tn:=tn) L ar.out hsn)
 rw [hsn] at z0
 obtain ⟨v1,d8⟩:=exx ((T.lx (T.nm i) i j tn).1)
 obtain ⟨v2,d7⟩:=exx ((T.lx (T.nm i) i j tn).2.1)
 obtain ⟨v3,d6⟩:=exx ((T.lx (T.nm i) i j tn).2.2)
 rw [<-d8] at l0 Q;rw [<-d7] at l1 Q;rw [<-d6] at l2
 have x0:=HX.out.cell (i:=0) (by omega)
 have hc:=fun W=>ziB (a1:Nat) lv 0 v1 v2 v3 W
 have bc:∀ W,Calls Tryz.prog 151 #[.agg #[.int .i64 (a1:Nat),.int .i64 lv,.int .i64 0],.agg #[.int .i64 v1,.int .i64 v2,.int .i64 v3]] W fun e w'=>e=.returned (.int .i64 (lessV (a1:Nat) lv v1 v2))/\∃ q os',w'=Go.Sort.grow (W.drewN q) os':=hc
 obtain ⟨r,hr⟩:=exx (lessV (a1:Nat) lv v1 v2)
 rw [<-hr] at Q bc
 have mixed:Tryz.prog.follows .mixedOrders=true:=by kernel_rfl
 have g0:=fun k os=>_root_.Go.cell_grown (World.block_lt_of_cell? _ _ c2') c2' k os
 have g1:=fun k os=>_root_.Go.cell_grown (World.block_lt_of_cell? _ _ z0) z0 k os
 have g2:=fun k os=>_root_.Go.cell_grown (World.block_lt_of_cell? _ _ q0) q0 k os
 have g3:=fun k os=>_root_.Go.cell_grown (World.block_lt_of_cell? _ _ q1) q1 k os
 have g4:=fun k os=>_root_.Go.cell_grown (World.block_lt_of_cell? _ _ q2) q2 k os
 have g5:=fun k os=>_root_.Go.cell_grown (World.block_lt_of_cell? _ _ x0) x0 k os
 have g6:=fun k os=>_root_.Go.cell_grown (World.block_lt_of_cell? _ _ l0) l0 k os
 have g7:=fun k os=>_root_.Go.cell_grown (World.block_lt_of_cell? _ _ l1) l1 k os
 have g8:=fun k os=>_root_.Go.cell_grown (World.block_lt_of_cell? _ _ l2) l2 k os
 have C2:=hid c2'
 have Q0:=hid q0
 have Q1:=hid q1
 have Q2:=hid q2
 clear hc hr d8 d7 d6 l0 l1 l2 z0 x0 c2' q0 q1 q2 b4 b2 hsn
 by_cases hlz:r<0
 rotate_left
 ·have ag:=hid fun e=>hlz (Q.out.2 e)
  go_quiet_grown (first | (go_at_call 151; refine Calls.grown_of (bc _)))
  go_wp2
  obtain ⟨w21,C⟩:=exx (Go.Sort.grow (w20.drewN nq) osq)
  rw [<-C]
  have kb:Below w20.heap.size w20 w21:=GG.below ⟨nq,osq,C⟩
  have fe:Hid (LeastSt T i (j+1) lb bx sb m w21):=by
   refine LeastSt.on (w:=w20) ⟨HL.out.congr fun k _=>?_,HX.out,cn.out.congr fun v _=>?_⟩ kb
   ·have:T.lx (T.nm i) i (j+1)=T.lx (T.nm i) i j:=funext fun v=>Trel.lx_skip ap.out.symm ag.out v
    rw [this]
   ·rw [Trel.sn_skip ap.out.symm ag.out v]
  have fj:=hid (onS cu.out kb)
  clear kb C g0 g1 g2 g3 g4 g5 g6 g7 g8 bc
  go_roundg (gk - 1)
  case measure=>omega
  case rel=>exact ⟨j+1,by go_num,by omega,by omega,fe,fj.out⟩
 have ag:=hid (Q.out.1 hlz)
 go_quiet_grown (first | (go_at_call 151; refine Calls.grown_of (bc _)))
 go_upto_region 15 with fail
 obtain ⟨w21,C⟩:=exx (Go.Sort.grow (w20.drewN nq) osq)
 rw [<-C]
 have kb:Below w20.heap.size w20 w21:=GG.below ⟨nq,osq,C⟩
 clear C g0 g1 g2 g3 g4 g5 g6 g7 g8 bc
 have l:=zab HL.out kb
 have s:=zab HX.out kb
 have o:=zab cn.out kb
 have hB:=onS cu.out kb
 have c2:=cellS kb C2.out
 have q0:=cellS kb Q0.out
 have q1:=cellS kb Q1.out
 have q2:=cellS kb Q2.out
 have b0:=s.cell (i:=0) (by omega)
 have J:tn*3+2<m*3:=by omega
 clear kb
 refine wp_region_held_drew (S:=fun w'=>w'.cell? ⟨bx,0,none⟩=some (.slice (some ⟨lb,0,none⟩) m m)/\w'.cell? ⟨pb,2,none⟩=some (.int .i64 (tn:Nat))/\w'.cell? ⟨qb,0,none⟩=some (.int .i64 (a1:Nat))/\w'.cell? ⟨qb,1,none⟩=some (.int .i64 lv)/\w'.cell? ⟨qb,2,none⟩=some (.int .i64 0)) (by kernel_rfl) ⟨cellS (Below.refl _ _).drew b0,cellS (Below.refl _ _).drew c2,cellS (Below.refl _ _).drew q0,cellS (Below.refl _ _).drew q1,cellS (Below.refl _ _).drew q2⟩ (fun hHeld=>?_)
 obtain ⟨w22,hw,kb⟩:=dwx w21
 rw [<-hw] at hHeld ⊢;clear hw;replace l:=zab l kb;replace s:=zab s kb;replace o:=zab o kb;replace hB:=onS hB kb;replace b0:=cellS kb b0;replace c2:=cellS kb c2;replace q0:=cellS kb q0;replace q1:=cellS kb q1;replace q2:=cellS kb q2;clear kb
 refine tkq 0 (h:=tkq 1 (h:=tkq 2 (h:=tkq 3 (h:=tkq 4 (h:=tkq 5 (h:=tkq 6 (h:=tkq 7 (h:=?_))))))))
 refine rdq 8 (h:=fun K hK=>?_)
 have h1:=l.set (tn*3) (.int .i64 (a1:Nat))
 have h2:=h1.set (tn*3+1) (.int .i64 lv)
 have d0:=l.cell (i:=tn*3) (by omega)
 have f0:=l.frozen (tn*3)
 have d1:=h1.cell (i:=tn*3+1) (by omega)
 have f1:=h1.frozen (tn*3+1)
 have d2:=h2.cell (i:=tn*3+2) J
 have f2:=h2.frozen (tn*3+2)
 have d51:=l.cell (i:=tn*3+1) (by omega)
 have f51:=l.frozen (tn*3+1)
 have d52:=l.cell (i:=tn*3+2) J
 have f52:=l.frozen (tn*3+2)
 have d62:=h1.cell (i:=tn*3+2) J
 have f62:=h1.frozen (tn*3+2)
 have z:Hid (bx≠lb/\pb≠lb/\qb≠lb):=⟨zaH s l (by decide),by omega,e4.out⟩
 have N:Hid (bx≠sb/\pb≠sb/\qb≠sb):=⟨zaH s o (by decide),e6.out,e3.out⟩
 have a7:=zaH l o (by decide)
 have h9:=zgQ (x':=T.lx (T.nm i) i (j+1)) l (fun v=>Trel.lx_take ap.out.symm L ar.out V ag.out v)
 have Y:=((hB.setCell (p:=⟨lb,tn*3,none⟩) aq.out.1 (.int .i64 (a1:Nat))).setCell (p:=⟨lb,tn*3+1,none⟩) aq.out.1 (.int .i64 lv)).setCell (p:=⟨lb,tn*3+2,none⟩) aq.out.1 (.int .i64 0)
 have U:=((s.setOther (a:=⟨lb,tn*3,none⟩) (by simpa using z.out.1) (.int .i64 (a1:Nat))).setOther (a:=⟨lb,tn*3+1,none⟩) (by simpa using z.out.1) (.int .i64 lv)).setOther (a:=⟨lb,tn*3+2,none⟩) (by simpa using z.out.1) (.int .i64 0)
 have R:=((o.setOther (a:=⟨lb,tn*3,none⟩) (by simpa using a7.symm) (.int .i64 (a1:Nat))).setOther (a:=⟨lb,tn*3+1,none⟩) (by simpa using a7.symm) (.int .i64 lv)).setOther (a:=⟨lb,tn*3+2,none⟩) (by simpa using a7.symm) (.int .i64 0)
 have b09:=(zaa (p:=⟨lb,tn*3+2,none⟩) (u:=(.int .i64 0)) (zaa (p:=⟨lb,tn*3+1,none⟩) (u:=(.int .i64 lv)) (zaa (p:=⟨lb,tn*3,none⟩) (u:=(.int .i64 (a1:Nat))) b0 z.out.1) z.out.1) z.out.1)
 have c29:=(zaa (p:=⟨lb,tn*3+2,none⟩) (u:=(.int .i64 0)) (zaa (p:=⟨lb,tn*3+1,none⟩) (u:=(.int .i64 lv)) (zaa (p:=⟨lb,tn*3,none⟩) (u:=(.int .i64 (a1:Nat))) c2 z.out.2.1) z.out.2.1) z.out.2.1)
 have q09:=(zaa (p:=⟨lb,tn*3+2,none⟩) (u:=(.int .i64 0)) (zaa (p:=⟨lb,tn*3+1,none⟩) (u:=(.int .i64 lv)) (zaa (p:=⟨lb,tn*3,none⟩) (u:=(.int .i64 (a1:Nat))) q0 z.out.2.2) z.out.2.2) z.out.2.2)
 have q19:=(zaa (p:=⟨lb,tn*3+2,none⟩) (u:=(.int .i64 0)) (zaa (p:=⟨lb,tn*3+1,none⟩) (u:=(.int .i64 lv)) (zaa (p:=⟨lb,tn*3,none⟩) (u:=(.int .i64 (a1:Nat))) q1 z.out.2.2) z.out.2.2) z.out.2.2)
 have q29:=(zaa (p:=⟨lb,tn*3+2,none⟩) (u:=(.int .i64 0)) (zaa (p:=⟨lb,tn*3+1,none⟩) (u:=(.int .i64 lv)) (zaa (p:=⟨lb,tn*3,none⟩) (u:=(.int .i64 (a1:Nat))) q2 z.out.2.2) z.out.2.2) z.out.2.2)
 have H9:=hid h9
 have a0:=hid Y
 have a8:=hid U
 have a9:=hid R
 have I:=hid b09
 have H:=hid c29
 have G:=hid q09
 have F:=hid q19
 have D:=hid q29
 clear h9 Y U R h1 h2 l s o hB b09 c29 q09 q19 q29
 go_simp
 clear d0 f0 d1 f1 d2 f2 d51 f51 d52 f52 d62 f62 b0 c2 q0 q1 q2
 obtain ⟨w23,ax⟩:∃ W,W=((World.setCell w22 ⟨lb,tn*3,none⟩ (.int .i64 (a1:Nat))).setCell ⟨lb,tn*3+1,none⟩ (.int .i64 lv)).setCell ⟨lb,tn*3+2,none⟩ (.int .i64 0):=⟨_,rfl⟩
 have l:=H9.out
 have hB:=a0.out
 have s:=a8.out
 have o:=a9.out
 have b0:=I.out
 have c2:=H.out
 have q0:=G.out
 have q1:=F.out
 have q2:=D.out
 rw [<-ax] at l hB s o b0 c2 q0 q1 q2 ⊢;clear ax H9 a0 a8 a9 I H G F D
 refine bkq hK ⟨b0,c2,q0,q1,q2⟩ (h:=fun hHeld=>?_)
 clear hK K
 refine tkq 9 (h:=?_)
 refine rdq 10 (h:=fun K hK=>?_)
 have h1:=o.set tn (.bool true)
 have y0:=o.cell a4
 have y1:=o.frozen tn
 have Y:=hB.setCell (p:=⟨sb,tn,none⟩) e0.out (.bool true)
 have ae:=l.setOther (a:=⟨sb,tn,none⟩) (by simpa using a7) (.bool true)
 have a3:=s.setOther (a:=⟨sb,tn,none⟩) (by simpa using N.out.1) (.bool true)
 have b09:=zaa (p:=⟨sb,tn,none⟩) (u:=(.bool true)) b0 N.out.1
 have c29:=zaa (p:=⟨sb,tn,none⟩) (u:=(.bool true)) c2 N.out.2.1
 have q09:=zaa (p:=⟨sb,tn,none⟩) (u:=(.bool true)) q0 N.out.2.2
 have q19:=zaa (p:=⟨sb,tn,none⟩) (u:=(.bool true)) q1 N.out.2.2
 have q29:=zaa (p:=⟨sb,tn,none⟩) (u:=(.bool true)) q2 N.out.2.2
 have a9:=hid h1
 have a0:=hid Y
 have ct:=hid ae
 have a8:=hid a3
 have I:=hid b09
 have H:=hid c29
 have G:=hid q09
 have F:=hid q19
 have D:=hid q29
 clear h1 Y ae a3 l s o hB b0 c2 q0 q1 q2 b09 c29 q09 q19 q29
 go_simp
 clear y0 y1
 refine bkq hK ⟨I.out,H.out,G.out,F.out,D.out⟩ (h:=fun hHeld=>?_)
 clear hK K
 refine wpAnyH_done (by kernel_rfl) ?_ _
 clear hHeld
 go_wp2
 go_roundg (gk - 1)
 case measure=>omega
 refine ⟨j+1,by go_num,by omega,by omega,⟨ct.out,a8.out,a9.out.congr fun v _=>?_⟩,a0.out⟩
 rw [Trel.sn_take ap.out.symm L ar.out V ag.out v]
 by_cases e:v=tn
 ·rw [if_pos e,if_pos e]
 ·rw [if_neg e,if_neg e]
section
variable {H:Type} {enc:TypeId × Value->H} {w:World} {base:Nat} {spare:Nat->Bool} {held:Bool} {cs:List Value}
theorem zh0 (h:Sees enc Tryz.prog w base spare held 27 cs) :
  ∃ (P M:Int) (A:Option Addr) (k c:Nat) (N:Int) (T:Option Addr) (n d:Nat) (f:Nat->Int) (ln:Nat->Nat) (V:Nat->Nat->Int),cs=[.int .i64 P,.int .i64 M,.slice A k c,.int .i64 N,.slice T n d] /\
   -9223372036854775808<=N/\N<=9223372036854775807/\k<=c/\c<=maxLen/\n<=d/\d<=maxLen/\IntsR w w.heap.size A k f/\IntRows w T n ln V:=by
 obtain ⟨hl,_⟩:=zda Tryz.underlying27 h
 match cs,hl.trans (show Tryz.prog.cellsOf 27 = 5 by kernel_rfl) with
 | [c0,c1,c2,c3,c4],_ =>
  have hc:Tryz.prog.cellsOf 3 = 1:=by kernel_rfl
  have g:Tryz.prog.cellsOf 22 = 1:=by kernel_rfl
  have b:Tryz.prog.cellsOf 25 = 1:=by kernel_rfl
  have e:Tryz.prog.cellsOf 24 = 3:=by kernel_rfl
  have gf:=zdb Tryz.underlying27 h 0 24 0 3 ⟨_,rfl,rfl,rfl⟩ e
  have gN:=zdb Tryz.underlying27 h 1 3 3 1 ⟨_,rfl,rfl,rfl⟩ hc
  have gT:=zdb Tryz.underlying27 h 2 25 4 1 ⟨_,rfl,rfl,rfl⟩ b
  have g0:=zdb Tryz.underlying24 gf 0 3 0 1 ⟨_,rfl,rfl,rfl⟩ hc
  have g1:=zdb Tryz.underlying24 gf 1 3 1 1 ⟨_,rfl,rfl,rfl⟩ hc
  have g2:=zdb Tryz.underlying24 gf 2 22 2 1 ⟨_,rfl,rfl,rfl⟩ g
  obtain ⟨P,hP,_⟩:=zcs Tryz.underlying3 g0
  obtain ⟨M,hM,_⟩:=zcs Tryz.underlying3 g1
  obtain ⟨A,k,c,f,hs,k1,k2,hr,_⟩:=zeT Tryz.underlying22 Tryz.underlying3 hc g2
  obtain ⟨N,hN,i⟩:=zcs Tryz.underlying3 gN
  obtain ⟨T,n,d,ln,V,hT,k3,k4,a⟩:=zhl gT
  simp at hP hM hs hN hT
  subst hP hM hs hN hT
  have:=zjt i
  exact ⟨P,M,A,k,c,N,T,n,d,f,ln,V,rfl,this.1,this.2,k1,k2,k3,k4,hr,a⟩
end
open Go.ChangeShapes Go.WideShapes Go.ChangeAt
theorem Trel.Shape.E0 {T:Trel} (h:T.Shape):T.shapeE=0:=by
 have h1:=h.n64
 have h2:=h.nw
 have h3:=h.sW
 have h4:=h.sE
 unfold Trel.shapeE
 rw [if_neg (by omega),if_neg (by simp only [Decidable.not_not]; exact fun i hi=>h.w1 i (by omega)),if_neg (by rw [h2]; omega),if_neg (by omega),if_neg (by simp only [Decidable.not_not]; exact h.ins)]
theorem Trel.Proper.E0 {T:Trel} (h:T.Proper):T.properE=0:=Trel.properE_ok h.shape.E0 h.w0 h.wn h.sec
theorem ETab.kept {w w':World} {base n:Nat} {v:Value} {el:Nat->Nat} {y:Nat->Nat->Int × Int × Int} (h:ETab w base v n el y) {m:Nat} {z:Value} {f:Nat->Nat->Value} (ho:Own w base 3 1 z m f) (hg:w.grownBy w' z.ownBlock):ETab w' base v n el y:=by
 obtain ⟨R,h1,h2⟩:=h
 exact ⟨R,h1.kept hg (zbm ho h1 (by decide)),fun i hi=>(h2 i hi).kept hg (zbm ho (h2 i hi) (by decide))⟩
theorem ETab.own {w:World} {base n:Nat} {v:Value} {el:Nat->Nat} {y:Nat->Nat->Int × Int × Int} (h:ETab w base v n el y):∃ R:Nat->Value,Own w base 86 1 v n (fun i _=>R i):=⟨h.choose,h.choose_spec.1⟩
def MinPost (P M : Int) (k : Nat) (f : Nat → Int) (N : Int) (n : Nat) (ln : Nat → Nat) (V : Nat → Nat → Int) (w : World) (e : Ending) (w' : World) : Prop :=
  Below w.heap.size w w'/\∃ u,FirstErr (CodeErrs P M k f N n ln V) u/\((u≠0/\e=.returned (.tuple #[.agg #[.slice none 0 0,.slice none 0 0],.int .i64 u])) ∨
    (u = 0 ∧ ∃ P' M' N' : Nat, P = P' ∧ M = M' ∧ N = N' ∧ ∃ pv R, SpanF (P' ^ M') n N' pv R ∧ SameSp (P' ^ M') (addF P' M') (mulF P' M' fun i => (f i).toNat) N' n n (natT V) R ∧ (∀ i j, i < j → j < n → lE (R i) N' ≠ lE (R j) N') ∧
      ((¬ SizeIn (P' ^ M') n N' pv R/\e=.returned (.tuple #[.agg #[.slice none 0 0,.slice none 0 0],.int .i64 8])) ∨
       (SizeIn (P' ^ M') n N' pv R/\∃ T y A B c d,MinT (P' ^ M') (addF P' M') (mulF P' M' fun i=>(f i).toNat) n N' pv R T/\T.Proper/\IsRen T y/\RenOut T y w' A B c d/\e=.returned (.tuple #[.agg #[.slice A T.nw c,.slice B T.n d],.int .i64 0])))))
theorem zfO (P M:Int) (A:Option Addr) (k c:Nat) (f:Nat->Int) (N:Int) (TC:Option Addr) (n d:Nat) (ln:Nat->Nat) (V:Nat->Nat->Int) (w:World) (hr:IntsR w w.heap.size A k f) (h:IntRows w TC n ln V) :
  Calls Tryz.prog 30 #[.agg #[.int .i64 P,.int .i64 M,.slice A k c,.int .i64 N,.slice TC n d]] w (MinPost P M k f N n ln V w):=by
 have HI:=hid hr
 have HT:=hid h
 clear hr h
 obtain ⟨wa,av,bw,rf0⟩:=zbe w (.int .i64 P) (.int .i64 M) (.slice A k c) (.int .i64 N) (.slice TC n d) 27
 have ay:wa.heap.size=w.heap.size+1:=by rw [av]; simp
 have rr:(wa.alloc (Obj.cells #[.slice none 0 0,.slice none 0 0] 53)).rowIs wa.heap.size 53 2 (fun _=>.slice none 0 0):=World.rowIs_alloc wa _ _ _ (fun i hi=>by
  match i,hi with
  | 0,_=>rfl
  | 1,_=>rfl)
 have kb:=aly wa (Obj.cells #[.slice none 0 0,.slice none 0 0] 53)
 obtain ⟨w1,ak⟩:=exx (wa.alloc (Obj.cells #[.slice none 0 0,.slice none 0 0] 53))
 have bj:w1.heap.size=w.heap.size+2:=by rw [ak]; simp [ay]
 rw [<-ak] at rr kb
 have rf:=zab rf0 kb
 have hB:=onS bw kb
 clear kb bw rf0
 go_enter Tryz.func30, Tryz.ntmps30
 go_upto_region 1 with fail
 rw [<-av];rw [<-ak];rw [ay] at rr;clear ak av ay
 obtain ⟨b0,a7⟩:=exx w.heap.size
 rw [<-a7] at rf;rw [<-a7]
 obtain ⟨rb,bl⟩:=exx (b0+1)
 rw [<-a7] at rr bj;rw [<-bl] at rr ⊢
 have be:Hid (b0=w.heap.size/\rb=w.heap.size+1/\w1.heap.size=w.heap.size+2):=hid ⟨a7,by omega,by omega⟩
 clear a7 bl bj
 have o:Hid (∀ X,Below w1.heap.size w1 X->(X.cell? ⟨b0,0,none⟩=some (.int .i64 P)/\X.cell? ⟨b0,1,none⟩=some (.int .i64 M)/\X.cell? ⟨b0,2,none⟩=some (.slice A k c)/\X.cell? ⟨b0,3,none⟩=some (.int .i64 N)/\X.cell? ⟨b0,4,none⟩=some (.slice TC n d))):=hid fun X hx =>
  ⟨(zab rf hx).cell (i:=0) (by omega),(zab rf hx).cell (i:=1) (by omega),(zab rf hx).cell (i:=2) (by omega),(zab rf hx).cell (i:=3) (by omega),(zab rf hx).cell (i:=4) (by omega)⟩
 have ba:=hid rr
 have HB:=hid hB
 clear hB rf rr
 obtain ⟨q0,q1,q2,q3,q4⟩:=o.out _ (Below.refl _ _)
 go_wp2_with fail
 refine (zhS P M A k c f N TC n d ln V w1 (HI.out.on HB.out) (HT.out.on HB.out)).mono ?_
 rintro e w2 ⟨kb,u,hu,he⟩
 have HU:=hid hu
 have KB:=hid kb
 clear kb hu q0 q1 q2 q3 q4
 rcases he with ⟨ax,rfl⟩ | ⟨rfl,P',M',N',rfl,rfl,rfl,g,F,pv,R,rfl,hg,a8,b5,br,bu⟩
 ·have ci:(u != 0)=true:=by simpa using ax
  have ct:=hid ax
  clear ax
  have z:=zab ba.out KB.out
  have r0:=z.cell (i:=0) (by omega)
  have r1:=z.cell (i:=1) (by omega)
  have z0:=z.frozen 0
  have z1:=z.frozen 1
  have p0:=z.set 0 (.slice none 0 0)
  have p1:=p0.cell (i:=1) (by omega)
  rw [if_neg (by omega)] at p1
  have p2:=p0.frozen 1
  have p3:=p0.set 1 (.slice none 0 0)
  have p4:=p3.cell (i:=0) (by omega)
  have p5:=p3.cell (i:=1) (by omega)
  rw [if_neg (by omega),if_pos rfl] at p4
  rw [if_pos rfl] at p5;clear p0 p3 z
  go_wp2
  refine bodyPost_ret (v:=.tuple #[.agg #[.slice none 0 0,.slice none 0 0],.int .i64 u]) (by simp [results,Tryz.results30, go_sem,p4,p5]) rfl ?_
  have I:w.heap.size<=rb:=by have:=be.out.2.1; omega
  exact ⟨((onS HB.out KB.out).setCell (p:=⟨rb,0,none⟩) I _).setCell (p:=⟨rb,1,none⟩) I _,u,HU.out,.inl ⟨ct.out,rfl⟩⟩
 obtain ⟨P2,M2,N2,e1,e2,e3,hC⟩:=zdw HI.out HT.out HU.out
 obtain rfl:P'=P2:=by omega
 obtain rfl:M'=M2:=by omega
 obtain rfl:N'=N2:=by omega
 have HC:=hid hC
 have W:=hC.ln2
 have cy:=hC.n_le
 have a5:=hC.fld
 clear hC e1 e2 e3
 have am:=hid b5
 have c1:=hid br
 have ca:=hid bu
 have an:Hid (IntRows w2 (some ⟨g,0,none⟩) n (fun _=>N') (fun i j=>((R i j:Nat):Int))):=hid (a8.rows fun v hv j hj=>by
  have h1:=b5.lt v hv j hj
  have h2:=a5.1.2.2.2
  omega)
 clear a8 b5 br bu hg
 have ci:((0:Int) != 0)=false:=by simp
 obtain ⟨q0,q1,q2,q3,q4⟩:=o.out _ KB.out
 go_wp2_with fail
 refine (zbw (P':Int) (M':Int) A k c f w2 (HI.out.on (onS HB.out KB.out))).mono ?_
 rintro e w3 ⟨kb,l⟩
 rcases l with ⟨b2,_⟩ | ⟨_,gf,P2,M2,cq,cr,rfl,_,hG⟩
 ·refine absurd ?_ b2
  rcases HU.out with ⟨_,h9⟩ | ⟨h1,_⟩
  ·cases h9
  ·exact h1
 obtain rfl:P'=P2:=by omega
 obtain rfl:M'=M2:=by omega
 have HG:=hid hG.gf
 replace an:=hid (an.out.on kb);replace KB:=hid (onS KB.out kb);clear kb q0 q1 q2 q3 q4 cq cr hG
 obtain ⟨q,hq⟩:=exx (P' ^ M')
 have HQ:=hid hq
 have cn:2<=q:=by rw [hq]; exact (fieldLaws a5).two
 have a3:q<=256:=by rw [hq]; exact a5.1.2.2.2
 clear hq
 have b9:Hid (SpanF q n N' pv R):=hid (by rw [HQ.out]; exact am.out)
 obtain ⟨q0,q1,q2,q3,q4⟩:=o.out _ KB.out
 go_upto_region 5 with fail
 clear q0 q1 q2 q3 q4
 refine wp_region_held_drew (S:=fun X=>(X.cell? ⟨b0,0,none⟩=some (.int .i64 (P':Int))/\X.cell? ⟨b0,1,none⟩=some (.int .i64 (M':Int))/\X.cell? ⟨b0,2,none⟩=some (.slice A k c)/\X.cell? ⟨b0,3,none⟩=some (.int .i64 (N':Int))/\X.cell? ⟨b0,4,none⟩=some (.slice TC n d))) (by kernel_rfl) (o.out _ (onS KB.out (Below.refl _ _).drew)) (fun hHeld=>?_)
 obtain ⟨w4,hw,kb⟩:=dwx w3
 rw [<-hw] at hHeld ⊢;clear hw
 have K3:=hid kb
 clear kb
 refine tkq 0 (h:=tkq 2 (h:=tkq 3 (h:=tkq 4 (h:=?_))))
 clear hHeld
 refine rdq 1 (h:=fun K hK=>?_)
 go_simp
 go_wp2_with fail
 refine (zco (HG.out.on K3.out)).mono ?_
 rintro e w5 ⟨he,kb⟩
 rw [<-HQ.out] at he
 subst he
 replace K3:=hid (onS K3.out kb);clear kb
 refine bkq hK (o.out _ (onS KB.out K3.out)) (h:=fun hHeld=>?_)
 clear hK K hHeld
 refine rdq 5 (h:=fun K hK=>?_)
 go_simp
 go_wp2_with fail
 refine (zi9 q n N' pv R (some ⟨g,0,none⟩) n w5 (an.out.on K3.out) b9.out cn a3 (by omega) W).mono ?_
 rintro e w6 ⟨l,kb⟩
 have co:∃ ev:Int,e=.returned (.int .i64 ev)/\((SizeIn q n N' pv R/\ev=0)∨(¬ SizeIn q n N' pv R/\ev=8)):=by
  rcases l with ⟨h1,h2⟩ | ⟨h1,h2⟩
  ·exact ⟨_,h2,.inl ⟨h1,rfl⟩⟩
  ·exact ⟨_,h2,.inr ⟨h1,rfl⟩⟩
 obtain ⟨ev,rfl,bn⟩:=co
 have bd:=hid bn
 replace K3:=hid (onS K3.out kb);clear kb bn l
 refine bkq hK (o.out _ (onS KB.out K3.out)) (h:=fun hHeld=>?_)
 clear hK K
 refine tkq 6 (h:=?_)
 refine wpAnyH_done (by kernel_rfl) ?_ _
 clear hHeld
 rcases bd.out with ⟨a9,rfl⟩ | ⟨a9,rfl⟩
 rotate_left
 ·have cg:((8:Int) != 0)=true:=by simp
  have ab:Hid (¬ SizeIn (P' ^ M') n N' pv R):=hid (by rw [<-HQ.out]; exact a9)
  clear a9 bd a5
  have KF:=hid (onS KB.out K3.out)
  have z:=zab ba.out KF.out
  have r0:=z.cell (i:=0) (by omega)
  have r1:=z.cell (i:=1) (by omega)
  have z0:=z.frozen 0
  have z1:=z.frozen 1
  have p0:=z.set 0 (.slice none 0 0)
  have p1:=p0.cell (i:=1) (by omega)
  rw [if_neg (by omega)] at p1
  have p2:=p0.frozen 1
  have p3:=p0.set 1 (.slice none 0 0)
  have p4:=p3.cell (i:=0) (by omega)
  have p5:=p3.cell (i:=1) (by omega)
  rw [if_neg (by omega),if_pos rfl] at p4
  rw [if_pos rfl] at p5;clear p0 p3 z
  go_wp2
  refine bodyPost_ret (v:=.tuple #[.agg #[.slice none 0 0,.slice none 0 0],.int .i64 8]) (by simp [results,Tryz.results30, go_sem,p4,p5]) rfl ?_
  have I:w.heap.size<=rb:=by have:=be.out.2.1; omega
  exact ⟨((onS HB.out KF.out).setCell (p:=⟨rb,0,none⟩) I _).setCell (p:=⟨rb,1,none⟩) I _,0,HU.out,.inr ⟨rfl,P',M',N',rfl,rfl,rfl,pv,R,am.out,c1.out,ca.out,.inl ⟨ab.out,rfl⟩⟩⟩
 have ch:((0:Int) != 0)=false:=by simp
 have ab:Hid (SizeIn q n N' pv R):=hid a9
 clear a9 bd a5
 obtain ⟨q0,q1,q2,q3,q4⟩:=o.out _ (onS KB.out K3.out)
 go_upto_region 9 with fail
 clear q0 q1 q2 q3 q4
 obtain ⟨wN,aw⟩:∃ wN:Nat->Nat,wN=fun i=>q ^ cntB (actA pv R N' i) n:=⟨_,rfl⟩
 obtain ⟨eN,bo⟩:∃ eN:Nat->Nat,eN=fun i=>q ^ cntB (actE pv R N' i) n:=⟨_,rfl⟩
 have cs:Hid (wN 0=1):=hid (by rw [aw]; show q ^ cntB (actA pv R N' 0) n=1; rw [zbg zcP]; rfl)
 have c0:=hid aw
 have c9:=hid bo
 clear aw bo
 obtain ⟨bs,bp⟩:=exx w6.heap.size
 have cb:=hid bp
 have E:bs<=w6.heap.size:=by omega
 clear bp
 have az:=Own.new (w:=w6) (base:=bs) (e := 3) (s:=1) (m:=1) (cap:=1) (cur:=#[.int .i64 1]) (f:=fun k _=>.int .i64 (wN k:Nat)) E (by omega) (by unfold maxLen; omega) (by simp) (fun k hk j hj=>by
  obtain rfl:k=0:=by omega
  obtain rfl:j=0:=by omega
  rw [cs.out]
  rfl)
 have aq:=aly w6 (Obj.cells #[Value.int .i64 1] 3)
 obtain ⟨wx,au⟩:=exx (w6.alloc (Obj.cells #[Value.int .i64 1] 3))
 have bi:wx.heap.size=w6.heap.size+1:=by rw [au]; simp
 rw [<-au] at az aq ⊢
 have a2:(wx.alloc (Obj.cells #[Value.slice (some ⟨w6.heap.size,0,none⟩) 1 1,Value.slice none 0 0] 53)).rowIs wx.heap.size 53 2 (fun k=>if k=0 then .slice (some ⟨w6.heap.size,0,none⟩) 1 1 else .slice none 0 0):=World.rowIs_alloc wx _ _ _ (fun j hj=>by
  match j,hj with
  | 0,_=>rfl
  | 1,_=>rfl)
 have aj:=aly wx (Obj.cells #[Value.slice (some ⟨w6.heap.size,0,none⟩) 1 1,Value.slice none 0 0] 53)
 obtain ⟨w7,bh⟩:=exx (wx.alloc (Obj.cells #[Value.slice (some ⟨w6.heap.size,0,none⟩) 1 1,Value.slice none 0 0] 53))
 rw [<-bh] at a2 aj ⊢;rw [bi] at a2
 obtain ⟨ob,bm⟩:=exx (w6.heap.size+1)
 rw [<-bm] at a2 ⊢
 have ag:Hid (w6.heap.size<=ob):=hid (by omega)
 have D:=hid a2
 have J:=hid (az.on aj)
 have K7:=hid (onS aq aj)
 clear az aq aj au bi bh bm a2
 obtain ⟨q0,q1,q2,q3,q4⟩:=o.out _ (onS KB.out (onS K3.out K7.out))
 go_upto_region 10 with fail
 clear q0 q1 q2 q3 q4
 go_loopg [42] N' (fun gg iv wx=>∃ (i:Nat) (WA EA:Option Addr) (wc ec:Nat) (y:Nat->Nat->Int × Int × Int),iv=.int .i64 (i:Nat)/\i<=N'/\N'<=i+gg/\Hid (wx.rowIs ob 53 2 (fun k=>if k=0 then .slice WA (i+1) wc else .slice EA i ec))/\Hid (Own wx bs 3 1 (.slice WA (i+1) wc) (i+1) (fun k _=>.int .i64 (wN k:Nat)))/\Hid (ETab wx bs (.slice EA i ec) i eN y)/\Hid (∀ j,j<i->SecM (P' ^ M') (addF P' M') (mulF P' M' fun i=>(f i).toNat) n N' pv R j (eN j) (y j))/\Below w6.heap.size w6 wx)
 case atStart=>exact ⟨0,_,_,_,_,fun _ _=>(0,0,0),rfl,by omega,by omega,D,J,hid (ETab.nil _ _ _ _),hid fun j hj=>absurd hj (by omega),K7.out⟩
 clear D J K7
 obtain ⟨i,WA,EA,wc,ec,y,rfl,hi,cz,D,J,ai,ac,bv⟩:=hrel
 have d0:(0:Int)<=(i:Int):=by omega
 have K7:=hid bv
 obtain ⟨w8,cd⟩:=exx wr
 subst cd
 clear bv
 by_cases hin:i<N'
 rotate_left
 ·have b1:¬ (i:Int)<(N':Int):=by omega
  obtain rfl:N'=i:=by omega
  have cc:∃ T:Trel,T.nw=N'+1/\T.n=N'/\MinT (P' ^ M') (addF P' M') (mulF P' M' fun i=>(f i).toNat) n N' pv R T/\T.Proper/\T.Reads w8 WA EA/\T.nw<=wc:=by
   have aa:MinT (P' ^ M') (addF P' M') (mulF P' M' fun i=>(f i).toNat) n N' pv R ⟨N'+1,fun k=>((wN k:Nat):Int),N',eN,fun i j=>(y i j).1,fun i j=>(y i j).2.1,fun i j=>(y i j).2.2⟩ :=
    ⟨rfl,rfl,fun i _=>by show ((wN i:Nat):Int)=_; rw [c0.out,<-HQ.out],fun i _=>by show eN i=_; rw [c9.out,<-HQ.out],fun i h c hc=>(ac.out i h).out c hc,fun i h j hj=>(ac.out i h).inn j hj,fun i h a b hab hb=>(ac.out i h).srt a b hab hb⟩
   have B:=aa.proper_in (fieldLaws HC.out.fld) HC.out.fld.1.2.2.2 W (by rw [<-HQ.out]; exact ab.out)
   have a6:∀ i,i<N'->∀ j,j<eN i->InI64 (y i j).1/\InI64 (y i j).2.1/\InI64 (y i j).2.2:=fun i h j hj=>by
    have h1:=B.shape.ins i h j hj
    have h2:=B.lbL h hj
    have h3:=B.shape.wid (i:=i) (Nat.le_of_lt h)
    have h4:=B.shape.wid (i:=i+1) h
    unfold Trel.inside at h1
    unfold InI64
    have h1:0<=(y i j).1/\(y i j).1<((wN i:Nat):Int)/\0<=(y i j).2.2/\(y i j).2.2<((wN (i+1):Nat):Int):=h1
    have h2:(y i j).2.1.toNat<256/\(((y i j).2.1.toNat:Nat):Int)=(y i j).2.1:=h2
    have h3:1<=((wN i:Nat):Int)/\((wN i:Nat):Int)<=65536:=h3
    have h4:1<=((wN (i+1):Nat):Int)/\((wN (i+1):Nat):Int)<=65536:=h4
    omega
   obtain ⟨A2,B2,c2,d2,cf,ce,cm,cp,_⟩:=ETab.reads (T:=⟨N'+1,fun k=>((wN k:Nat):Int),N',eN,fun i j=>(y i j).1,fun i j=>(y i j).2.1,fun i j=>(y i j).2.2⟩) ai.out J.out (fun i h=>by
     have h1:=B.shape.wid (i:=i) (by have h:i<N'+1:=h; show i<=N'; omega)
     have h1:1<=((wN i:Nat):Int)/\((wN i:Nat):Int)<=65536:=h1
     show InI64 ((wN i:Nat):Int)
     unfold InI64
     omega) a6 (by show N'+1<=_; omega) (by show N'<=_; omega) (fun i h=>by
     have h1:=B.shape.elb (i:=i) h
     have h1:eN i<=262144:=h1
     show eN i<=_
     omega)
   injection cf with e1 _ e3
   injection ce with e4 _ _
   subst e1 e3 e4
   exact ⟨_,rfl,rfl,aa,B,cm,cp⟩
  obtain ⟨T,b3,b4,aa,B,bt,bq⟩:=cc
  have cv:=hid aa
  have c4:=hid B
  have y0:=D.out.cell (i:=0) (by omega)
  rw [if_pos rfl] at y0
  have y1:=D.out.cell (i:=1) (by omega)
  rw [if_neg (by omega)] at y1
  have L:=zhZ T WA EA wc ec w8 bt bq
  rw [b3,b4] at L
  have bb:=hid L
  clear aa B bt bq L
  go_wp2_with fail
  clear y0 y1
  refine bb.out.mono ?_
  rintro e w9 ⟨kb,l⟩
  have KF:=hid (onS KB.out (onS K3.out (onS K7.out kb)))
  clear kb
  rcases l with ⟨h0,_⟩ | ⟨_,y2,A',B',c',d',rfl,bk,a4⟩
  ·exact absurd c4.out.E0 h0
  rw [b3,b4]
  have hr:=zab ba.out KF.out
  have r0:=hr.cell (i:=0) (by omega)
  have r1:=hr.cell (i:=1) (by omega)
  have z0:=hr.frozen 0
  have z1:=hr.frozen 1
  have p0:=hr.set 0 (.slice A' (N'+1) c')
  have p1:=p0.cell (i:=1) (by omega)
  rw [if_neg (by omega)] at p1
  have p2:=p0.frozen 1
  have p3:=p0.set 1 (.slice B' N' d')
  have p4:=p3.cell (i:=0) (by omega)
  have p5:=p3.cell (i:=1) (by omega)
  rw [if_neg (by omega),if_pos rfl] at p4
  rw [if_pos rfl] at p5
  have cu:=hid bk
  have bc:=hid ((a4.setCell (b:=rb) (i:=0) hr (by decide) (by decide) (by decide) (.slice A' (N'+1) c')).setCell (b:=rb) (i:=1) p0 (by decide) (by decide) (by decide) (.slice B' N' d'))
  clear bk a4 hr p0 p3
  go_wp2
  refine bodyPost_ret (v:=.tuple #[.agg #[.slice A' (N'+1) c',.slice B' N' d'],.int .i64 0]) (by simp [results,Tryz.results30, go_sem,p4,p5]) rfl ?_
  have I:w.heap.size<=rb:=by have:=be.out.2.1; omega
  exact ⟨((onS HB.out KF.out).setCell (p:=⟨rb,0,none⟩) I _).setCell (p:=⟨rb,1,none⟩) I _,0,HU.out,.inr ⟨rfl,P',M',N',rfl,rfl,rfl,pv,R,am.out,c1.out,ca.out,.inr ⟨by rw [<-HQ.out]; exact ab.out,T,y2,A',B',c',d',cv.out,c4.out,cu.out,bc.out,by rw [b3,b4]⟩⟩⟩
 have b1:(i:Int)<(N':Int):=by omega
 have hE:(P' ^ M') ^ cntB (actE pv R N' i) n<=262144:=by
  have h1:=zjN (q:=q) (d:=fun i=>cntB (actE pv R N' i) n) hin
  have h2:=ab.out.2
  rw [<-HQ.out]
  exact Nat.le_trans h1 h2
 have cx:=hid hE
 clear hE
 go_wp2_with fail
 refine (zfM P' M' (fun i=>(f i).toNat) gf n N' i pv R (some ⟨g,0,none⟩) n w8 (HG.out.on (onS K3.out K7.out)) (an.out.on (onS K3.out K7.out)) am.out (by omega) W hin cx.out).mono ?_
 rintro e w9 ⟨SA,sm,sc,ys,he,hM,hO,kb⟩
 rw [show (P' ^ M') ^ cntB (actA pv R N' (i+1)) n=wN (i+1) by rw [c0.out,HQ.out]] at he
 subst he
 have cj:sm=eN i:=by rw [hM.el,c9.out,HQ.out]
 subst cj
 have c3:=hid hM
 have c5:=hid (hO.mono (base':=bs) (Nat.le_trans E K7.out.size))
 replace D:=hid (zab D.out kb);replace J:=hid (J.out.on kb);replace ai:=hid (ai.out.on kb);replace K7:=hid (onS K7.out kb);clear kb hM hO
 have y0:=D.out.cell (i:=0) (by omega)
 rw [if_pos rfl] at y0
 have x:=aly w9 (Obj.cells #[Value.int .i64 (wN (i+1):Nat)] 3)
 have C:=hid (J.out.on x)
 have G:=hid (zab D.out x)
 have a1:=hid (ai.out.on x)
 have a0:=hid (c5.out.on x)
 have H:=hid (onS K7.out x)
 have HC:Hid ((w9.alloc (Obj.cells #[Value.int .i64 (wN (i+1):Nat)] 3)).cell? ((⟨w9.heap.size,0,none⟩:Addr).add 0)=some (.int .i64 (wN (i+1):Nat))):=tbox2
 have HZ:Hid (bs<=(w9.alloc (Obj.cells #[Value.int .i64 (wN (i+1):Nat)] 3)).heap.size):=hid (Nat.le_trans E H.out.size)
 have HL:Hid (i+1<=1048576):=hid (by omega)
 have ah:=hid (zar G.out C.out (by decide))
 clear x J D ai c5 K7
 go_upto_region 14 with (first | (at_builtin; (refine zba rfl (.tmp 53) (.tmp 55) rfl C.out rfl (ad:=⟨w9.heap.size,0,none⟩) (c:=1) rfl HC.out HZ.out HL.out ?_); intro v7 wa o1 o2 o3; obtain ⟨A7,c7,cl⟩:=o1.shape; subst cl; have r:=G.out.of_block (o2.block ob G.out.lt fun e=>ah.out e.symm); have y7:=r.cell (i:=0) (by omega); rw [if_pos rfl] at y7; have z7:=r.frozen 0))
 have Q:=o1.setCell (zar r o1 (by decide)) (a:=⟨ob,0,none⟩) (.slice A7 (i+1+1) c7)
 have Z:=(a1.out.kept C.out o2).setCell (b:=ob) (i:=0) r (by decide) (by decide) (.slice A7 (i+1+1) c7)
 have Y:=a0.out.kept o2 (zbm C.out a0.out (by decide))
 have b7:=Y.setCell (zar r Y (by decide)) (a:=⟨ob,0,none⟩) (.slice A7 (i+1+1) c7)
 have U:=(r.set 0 (.slice A7 (i+1+1) c7)).congr (g:=fun k=>if k=0 then .slice A7 (i+1+1) c7 else .slice EA i ec) fun k hk=>by
  by_cases e:k=0
  ·subst e; rw [if_pos rfl,if_pos rfl]
  ·rw [if_neg e,if_neg e,if_neg e]
 have kb:=(H.out.grown o2 H.out.size fun b e=>by
  have h1:=(C.out.lt _ e).1
  have h2:=cb.out
  omega).setCell (p:=⟨ob,0,none⟩) ag.out (.slice A7 (i+1+1) c7)
 obtain ⟨wb,bg⟩:=exx (wa.setCell ⟨ob,0,none⟩ (.slice A7 (i+1+1) c7))
 rw [<-bg] at Q Z b7 U kb ⊢
 have al:=hid Q
 have ap:=hid Z
 have c6:=hid b7
 have af:=hid U
 have ao:=hid kb
 clear Q Z b7 U kb bg o1 o2 o3 r y7 z7 Y y0 C G a1 a0 H HC HZ ah
 have y1:=af.out.cell (i:=1) (by omega)
 rw [if_neg (by omega)] at y1
 obtain ⟨yn,ar⟩:∃ yn:Nat->Nat->Int × Int × Int,yn=fun j=>if j=i then ys else y j:=⟨_,rfl⟩
 have bz:Hid (yn i=ys):=hid (by rw [ar]; exact if_pos rfl)
 have bx:Hid (∀ j,j≠i->yn j=y j):=hid fun j hj=>by rw [ar]; exact if_neg hj
 clear ar
 have x:=aly wb (Obj.cells #[Value.slice SA (eN i) sc] 86)
 have C:=hid (al.out.on x)
 have G:=hid (zab af.out x)
 have a1:Hid (ETab (wb.alloc (Obj.cells #[Value.slice SA (eN i) sc] 86)) bs (.slice EA i ec) i eN yn):=hid ((ap.out.on x).congr (fun _ _=>rfl) fun j hj q _=>by rw [bx.out j (by omega)])
 have a0:Hid (Own (wb.alloc (Obj.cells #[Value.slice SA (eN i) sc] 86)) bs 90 3 (.slice SA (eN i) sc) (eN i) (edgeCell (yn i))):=hid (by rw [bz.out]; exact c6.out.on x)
 have H:=hid (onS ao.out x)
 have HC:Hid ((wb.alloc (Obj.cells #[Value.slice SA (eN i) sc] 86)).cell? ((⟨wb.heap.size,0,none⟩:Addr).add 0)=some (.slice SA (eN i) sc)):=tbox2
 have HZ:Hid (bs<=(wb.alloc (Obj.cells #[Value.slice SA (eN i) sc] 86)).heap.size):=hid (Nat.le_trans E H.out.size)
 have cw:Hid (i<=1048576):=hid (by omega)
 obtain ⟨RR,b6⟩:=a1.out.own
 have ae:=hid b6
 have ah:=hid (zar G.out b6 (by decide))
 clear x al af ap c6 ao b6
 go_upto_region 15 with (first | (at_builtin; (refine zch rfl (.tmp 59) (.tmp 61) rfl a1.out rfl (ad:=⟨wb.heap.size,0,none⟩) (c:=1) rfl HC.out rfl a0.out HZ.out cw.out ?_); intro v7 wc2 o1 o2; obtain ⟨A8,c8,ck⟩:=o1.shape; subst ck; have r:=G.out.of_block (o2.block ob G.out.lt fun e=>ah.out e.symm); have y7:=r.cell (i:=1) (by omega); rw [if_neg (by omega)] at y7; have z7:=r.frozen 1))
 have O:=C.out.kept o2 (zbm ae.out C.out (by decide))
 have Q:=O.setCell (zar r O (by decide)) (a:=⟨ob,1,none⟩) (.slice A8 (i+1) c8)
 have Z:=o1.setCell (b:=ob) (i:=1) r (by decide) (by decide) (.slice A8 (i+1) c8)
 have U:=(r.set 1 (.slice A8 (i+1) c8)).congr (g:=fun k=>if k=0 then .slice A7 (i+1+1) c7 else .slice A8 (i+1) c8) fun k hk=>by
  by_cases e:k=0
  ·subst e; rw [if_neg (by omega),if_pos rfl,if_pos rfl]
  ·rw [if_pos (by omega),if_neg e]
 have kb:=(H.out.grown o2 H.out.size fun b e=>by
  have h1:=(ae.out.lt _ e).1
  have h2:=cb.out
  omega).setCell (p:=⟨ob,1,none⟩) ag.out (.slice A8 (i+1) c8)
 obtain ⟨we,bf⟩:=exx (wc2.setCell ⟨ob,1,none⟩ (.slice A8 (i+1) c8))
 rw [<-bf] at Q Z U kb ⊢
 have al:=hid Q
 have ap:=hid Z
 have af:=hid U
 have ao:=hid kb
 have b8:Hid (∀ j,j<i+1->SecM (P' ^ M') (addF P' M') (mulF P' M' fun i=>(f i).toNat) n N' pv R j (eN j) (yn j)):=hid fun j hj=>by
  by_cases e:j=i
  ·subst e; rw [bz.out]; exact c3.out
  ·rw [bx.out j e]; exact ac.out j (by omega)
 clear Q Z U kb bf o1 o2 r y7 z7 O y1 C G a1 a0 H HC HZ ah ac c3
 go_wp2
 go_roundg (gk - 1)
 case measure=>omega
 case rel=>exact ⟨i+1,A7,A8,c7,c8,yn,by go_num,by omega,by omega,af,al,ap,b8,ao.out⟩
section
variable {T:Trel} {y:Nat->Nat->Int × Int × Int}
theorem IsRen.from_old (h:IsRen T y) {i j:Nat} (hi:i<T.n) (hj:j<T.el i):∃ p,p<T.el i/\y i p=T.tri i j:=by
 have:=(h i hi).1.mem_iff.2 (List.mem_map.2 ⟨j,List.mem_range.2 hj,rfl⟩)
 obtain ⟨p,hp,e⟩:=List.mem_map.1 this
 exact ⟨p,List.mem_range.1 hp,e⟩
theorem IsRen.to_old (h:IsRen T y) {i p:Nat} (hi:i<T.n) (hp:p<T.el i):∃ j,j<T.el i/\y i p=T.tri i j:=by
 have:=(h i hi).1.mem_iff.1 (List.mem_map.2 ⟨p,List.mem_range.2 hp,rfl⟩)
 obtain ⟨j,hj,e⟩:=List.mem_map.1 this
 exact ⟨j,List.mem_range.1 hj,e.symm⟩
theorem Trel.Proper.nm_surj (hP:T.Proper) {i:Nat} (hi:i<=T.n) {t:Nat} (ht:t<(T.W i).toNat):∃ v,v<(T.W i).toNat/\T.nm i v=t:=by
 match i with
 | 0 =>
  rw [hP.w0] at ht ⊢
  have e1:(1:Int).toNat=1:=rfl
  rw [e1] at ht
  exact ⟨0,by rw [e1]; omega,by show 0=t; omega⟩
 | i+1 =>
  obtain ⟨h1,h2⟩:=hP.next_perm (i:=i) (by omega)
  have hl:=h1.length_eq
  rw [List.length_range] at hl
  have hm:(firsts ((T.vis i).map fun j=>(T.to i j).toNat))[t]'(by omega) ∈ List.range (T.W (i+1)).toNat:=h1.mem_iff.1 (List.getElem_mem _)
  have hv:=List.mem_range.1 hm
  refine ⟨_,hv,?_⟩
  rw [<-h2 _ hv]
  have a:(firsts ((T.vis i).map fun j=>(T.to i j).toNat)).Nodup:=h1.nodup_iff.2 List.nodup_range
  exact a.idxOf_getElem t (by omega)
theorem IsRen.proper (hP:T.Proper) (h:IsRen T y):(T.re y).Proper:=by
 have hs:=hP.shape
 have eW:∀ k,(T.re y).sumW k=T.sumW k:=fun k=>by
  induction k with
  | zero=>rfl
  | succ k ih=>show (T.re y).sumW k+T.W k=T.sumW k+T.W k; rw [ih]
 have eE:∀ k,(T.re y).sumE k=T.sumE k:=fun k=>by
  induction k with
  | zero=>rfl
  | succ k ih=>show (T.re y).sumE k+T.el k=T.sumE k+T.el k; rw [ih]
 have a:∀ i,i<T.n->∀ p,p<T.el i->∃ j,j<T.el i/\(y i p).1=((T.nm i (T.fr i j).toNat:Nat):Int)/\(y i p).2.1=T.lb i j/\(y i p).2.2=((T.nm (i+1) (T.to i j).toNat:Nat):Int):=fun i hi p hp=>by
  obtain ⟨j,hj,e⟩:=h.to_old hi hp
  rw [e]
  exact ⟨j,hj,rfl,rfl,rfl⟩
 refine ⟨⟨hs.n64,hs.nw,hs.w1,(eW _).symm ▸ hs.sW,(eE _).symm ▸ hs.sE,fun i hi p hp=>?_⟩,hP.w0,hP.wn,fun i hi=>⟨fun p hp=>?_,fun v hv=>?_,fun v hv=>?_⟩⟩
 ·have hi:i<T.n:=hi
  have hp:p<T.el i:=hp
  obtain ⟨j,hj,e1,_,e3⟩:=a i hi p hp
  have k1:=hP.nm_lt (i:=i) (by omega) (hP.frL hi hj).1
  have k2:=hP.nm_lt (i:=i+1) (by omega) (hP.toL hi hj).1
  show 0<=(y i p).1/\(y i p).1<T.W i/\0<=(y i p).2.2/\(y i p).2.2<T.W (i+1)
  omega
 ·have hi:i<T.n:=hi
  have hp:p<T.el i:=hp
  obtain ⟨j,hj,_,e2,_⟩:=a i hi p hp
  have k:=(hP.sec i hi).1 j hj
  refine ⟨by show 0<=(y i p).2.1; rw [e2]; exact k.1,by show (y i p).2.1<256; rw [e2]; exact k.2.1,fun h0=>?_⟩
  exact (h i hi).2 (p - 1) p (by omega) hp
 ·have hi:i<T.n:=hi
  have hv:v<(T.W i).toNat:=hv
  obtain ⟨u,hu,e⟩:=hP.nm_surj (i:=i) (by omega) hv
  obtain ⟨j,hj,e2⟩:=za8.1 ((hP.sec i hi).2.1 u hu)
  obtain ⟨p,hp,e3⟩:=h.from_old hi hj
  refine za8.2 ⟨p,hp,?_⟩
  show (y i p).1=(v:Nat)
  rw [e3]
  show ((T.nm i (T.fr i j).toNat:Nat):Int)=_
  rw [e2,Int.toNat_natCast,e]
 have hi:i<T.n:=hi
 have hv:v<(T.W (i+1)).toNat:=hv
 obtain ⟨u,hu,e⟩:=hP.nm_surj (i:=i+1) (by omega) hv
 obtain ⟨j,hj,e2⟩:=za8.1 ((hP.sec i hi).2.2 u hu)
 obtain ⟨p,hp,e3⟩:=h.from_old hi hj
 refine za8.2 ⟨p,hp,?_⟩
 show (y i p).2.2=(v:Nat)
 rw [e3]
 show ((T.nm (i+1) (T.to i j).toNat:Nat):Int)=_
 rw [e2,Int.toNat_natCast,e]
theorem IsRen.path (hP:T.Proper) (h:IsRen T y) {x:Nat->Nat}:(T.re y).PathW x↔T.PathW x:=by
 constructor
 rotate_left
 ·rintro ⟨nd,h0,hp⟩
  refine ⟨fun i=>T.nm i (nd i),rfl,fun i hi=>?_⟩
  have hi:i<T.n:=hi
  obtain ⟨j,hj,h1,h2,h3⟩:=hp i hi
  obtain ⟨p,a,e⟩:=h.from_old hi hj
  refine ⟨p,a,?_,?_,?_⟩
  ·show (y i p).1=_
   rw [e]
   show ((T.nm i (T.fr i j).toNat:Nat):Int)=_
   rw [h1,Int.toNat_natCast]
  ·show (y i p).2.1=_
   rw [e]
   exact h2
  show (y i p).2.2=_
  rw [e]
  show ((T.nm (i+1) (T.to i j).toNat:Nat):Int)=_
  rw [h3,Int.toNat_natCast]
 rintro ⟨nd,h0,hp⟩
 have hp:∀ i,i<T.n->∃ p,p<T.el i/\(y i p).1=(nd i:Nat)/\(y i p).2.1=(x i:Nat)/\(y i p).2.2=(nd (i+1):Nat):=hp
 have hq:∀ i,∃ j,i<T.n->j<T.el i/\T.nm i (T.fr i j).toNat=nd i/\T.lb i j=(x i:Nat)/\T.nm (i+1) (T.to i j).toNat=nd (i+1):=fun i=>by
  by_cases hi:i<T.n
  ·obtain ⟨p,h1,h2,h3,h4⟩:=hp i hi
   obtain ⟨j,hj,e⟩:=h.to_old hi h1
   rw [e] at h2 h3 h4
   have h2:((T.nm i (T.fr i j).toNat:Nat):Int)=(nd i:Nat):=h2
   have h3:T.lb i j=(x i:Nat):=h3
   have h4:((T.nm (i+1) (T.to i j).toNat:Nat):Int)=(nd (i+1):Nat):=h4
   exact ⟨j,fun _=>⟨hj,by omega,h3,by omega⟩⟩
  ·exact ⟨0,fun g=>absurd g hi⟩
 obtain ⟨q,hq⟩:=Classical.axiomOfChoice hq
 refine ⟨fun i=>match i with | 0=>0 | i+1=>(T.to i (q i)).toNat,rfl,fun i hi=>?_⟩
 obtain ⟨k1,k2,k3,k4⟩:=hq i hi
 refine ⟨q i,k1,?_,k3,by rw [(hP.toL hi k1).2]⟩
 match i with
 | 0 =>
  have:=hP.frL hi k1
  rw [hP.w0] at this
  have e1:(1:Int).toNat=1:=rfl
  show T.fr 0 (q 0)=((0:Nat):Int)
  omega
 | i+1 =>
  obtain ⟨m1,_,_,m4⟩:=hq i (by omega)
  have:=hP.nm_inj (i:=i+1) (by omega) _ _ (hP.frL hi k1).1 (hP.toL (by omega) m1).1 (by omega)
  have e2:=(hP.frL hi k1).2
  show T.fr (i+1) (q (i+1))=(((T.to i (q i)).toNat:Nat):Int)
  omega
end
def ITabPost (T:Trel) (x:Nat->Nat->Int) (w:World) (e:Ending) (w':World):Prop :=
 ∃ g F,e=.returned (.slice (some ⟨g,0,none⟩) T.nw T.nw)/\w.heap.size<=g/\IntTab w' g (g+1) T.nw F (fun v=>(T.W v).toNat) x/\Below w.heap.size w w'
theorem zh1 (T:Trel) (A B:Option Addr) (c d:Nat) (w:World) (h:T.Reads w A B) (hs:T.Shape) :
  Calls Tryz.prog 182 #[.agg #[],.agg #[.slice A T.nw c,.slice B T.n d]] w (ITabPost T (fun _ _=>4611686018427387904) w):=by
 obtain ⟨O1,U⟩:=exx ((Obj.cells #[] 158))
 obtain ⟨O2,G⟩:=exx ((Obj.cells #[.slice A T.nw c,.slice B T.n d] 53))
 have u:Below (w.heap.size+2) ((w.alloc O1).alloc O2) ((w.alloc O1).alloc O2):=Below.refl _ _
 have HS:Hid (∀ w',Below (w.heap.size+2) ((w.alloc O1).alloc O2) w'->(w'.cell? ⟨w.heap.size+1,0,none⟩=some (.slice A T.nw c)/\w'.cell? ⟨w.heap.size+1,1,none⟩=some (.slice B T.n d))/\Below w.heap.size w w'):=fun w' hB=>by
  have ad:=zbx hB
  subst G
  have hr:=zbT hB
  exact ⟨⟨hr.cell (i:=0) (by simp),hr.cell (i:=1) (by simp)⟩,ad⟩
 obtain ⟨⟨p0,p1⟩,hW⟩:=HS.out _ u
 have a4:=hs.n64
 have a3:=hs.nw
 have L:=fun W=>zaf (P:=Tryz.prog) 25 22 _ 24 Tryz.underlying25 Tryz.infoInts rfl (T.nw:Int) (by omega) (by omega) (by omega) W
 simp only [Int.toNat_natCast] at L
 have HR:=hid h
 have X:=hid hs
 have J:T.nw<=65:=by omega
 clear h hs a3
 go_enter Tryz.func182, Tryz.ntmps182
 go_wp2_with fail
 rw [<-U,<-G]
 go_upto_region 2 with fail
 obtain ⟨W2,s⟩:∃ W,W=(w.alloc O1).alloc O2:=⟨_,rfl⟩
 have b:W2.heap.size=w.heap.size+2:=by rw [s]; simp
 have Y:Hid (∀ w',Below (w.heap.size+2) W2 w'->(w'.cell? ⟨w.heap.size+1,0,none⟩=some (.slice A T.nw c)/\w'.cell? ⟨w.heap.size+1,1,none⟩=some (.slice B T.n d))/\Below w.heap.size w w'):=by rw [s]; exact HS
 rw [<-s] at u ⊢
 obtain ⟨g,hg⟩:=exx (w.heap.size+1+1)
 have N:g=W2.heap.size:=by omega
 have r:=World.rowIs_made W2 (.slice none 0 0) T.nw 22
 have H:=zag u (Nat.le_of_eq b.symm) ((Below.refl W2.heap.size W2).alloc (Nat.le_refl _) (Obj.cells (madeCells #[Value.slice none 0 0] T.nw) 22))
 have C:w.heap.size+2<(W2.alloc (Obj.cells (madeCells #[Value.slice none 0 0] T.nw) 22)).heap.size:=by simp; omega
 obtain ⟨W3,O⟩:=exx (W2.alloc (Obj.cells (madeCells #[Value.slice none 0 0] T.nw) 22))
 rw [<-N] at r;rw [<-O] at r H C ⊢;rw [<-hg]
 have Q:IntTab W3 g (g+1) T.nw (fun _=>.slice none 0 0) (fun v=>if v<0 then (T.W v).toNat else 0) (fun _ _=>4611686018427387904):=(zbE r).congr (fun v _=>(if_neg (by omega)).symm) (fun v _ k hk=>rfl)
 have a9:w.heap.size+2<=g:=by omega
 clear O N hg r s HS u L U G b
 go_loopg [15] T.nw (fun gg iv wx=>∃ (k:Nat) (F:Nat->Value),iv=.int .i64 (k:Nat)/\k<=T.nw/\T.nw<=k+gg/\IntTab wx g (g+1) T.nw F (fun v=>if v<k then (T.W v).toNat else 0) (fun _ _=>4611686018427387904)/\Below (w.heap.size+2) W2 wx/\w.heap.size+2<wx.heap.size)
 case atStart=>exact ⟨0,_,rfl,by omega,by omega,Q,H,C⟩
 clear hW p0 p1 Q H C
 obtain ⟨gK,a8⟩:=exx gk
 subst a8
 obtain ⟨k,F,rfl,hk,ag,hT,hB,hl⟩:=hrel
 obtain ⟨wk,a1⟩:=exx wr
 subst a1
 have ah:(0:Int)<=(k:Int):=by omega
 obtain ⟨⟨p0,p1⟩,hW⟩:=Y.out _ hB
 by_cases hlt:k<T.nw
 rotate_left
 ·have z:¬ (k:Int)<(T.nw:Int):=by omega
  have aa:Hid (IntTab wk g (g+1) T.nw F (fun v=>(T.W v).toNat) (fun _ _=>4611686018427387904)):=hT.congr (fun v hv=>if_pos (by omega)) (fun v _ q hq=>rfl)
  clear hT
  go_wp2
  go_ret
  exact ⟨g,F,rfl,by omega,aa.out,hW⟩
 have z:(k:Int)<(T.nw:Int):=by omega
 obtain ⟨wb,wo,rfl,af,y0,a0,Z⟩:=(HR.out.on hW).width hlt
 have x:=X.out.wid (i:=k) (by have:=X.out.nw; omega)
 obtain ⟨n1,y⟩:∃ n:Nat,(n:Int)=T.W k:=⟨(T.W k).toNat,by omega⟩
 rw [<-y] at y0 x
 have ae:=hid y
 clear y a0 Z
 have R:IntTab wk g (g+1) T.nw F (fun v=>if v<k then (T.W v).toNat else if v=k then 0 else 0) (fun _ _=>4611686018427387904):=hT.congr (fun v _=>by split <;> simp) (fun v _ q hq=>rfl)
 clear hT
 go_wp2
 go_loopg [21] n1 (fun gg jv wx=>∃ (j:Nat) (F:Nat->Value),jv=.int .i64 (j:Nat)/\j<=n1/\n1<=j+gg/\IntTab wx g (g+1) T.nw F (fun v=>if v<k then (T.W v).toNat else if v=k then j else 0) (fun _ _=>4611686018427387904)/\Below (w.heap.size+2) W2 wx/\w.heap.size+2<wx.heap.size)
 case atStart=>exact ⟨0,F,rfl,by omega,by omega,R,hB,hl⟩
 clear hW p0 p1 R hB hl y0
 obtain ⟨j,F2,rfl,hj,ai,hT,hB,hl⟩:=hrel
 have aj:(0:Int)<=(j:Int):=by omega
 obtain ⟨⟨p0,p1⟩,hW⟩:=Y.out _ hB
 by_cases hltj:j<n1
 rotate_left
 ·have l:¬ (j:Int)<(n1:Int):=by omega
  have M:j=n1:=by omega
  have ab:Hid (IntTab wr g (g+1) T.nw F2 (fun v=>if v<k+1 then (T.W v).toNat else 0) (fun _ _=>4611686018427387904)):=hT.congr (fun v _=>by
   by_cases e:v<k
   ·rw [if_pos e,if_pos (by omega)]
   rw [if_neg e]
   by_cases e2:v=k
   ·subst e2
    rw [if_pos rfl,if_pos (by omega),M]
    have:=ae.out
    omega
   ·rw [if_neg e2,if_neg (by omega)]) (fun v _ q hq=>rfl)
  have HB:=hid hB
  clear hT hB M
  go_wp2
  go_roundg (gK - 1)
  case measure=>omega
  case rel=>exact ⟨k+1,F2,by go_num,by omega,by omega,ab.out,HB.out,hl⟩
 have l:(j:Int)<(n1:Int):=by omega
 obtain ⟨fk,E⟩:=exx (F2 k)
 have q0:wr.cell? ⟨g,k,none⟩=some fk:=by rw [E]; exact hT.row.cell hlt
 have I:=hid E
 clear E p0 p1 hW
 rename World=>w50
 go_upto_region 7 with fail
 refine wp_region_held_drew (S:=fun _=>True) (by kernel_rfl) trivial (fun hHeld=>?_)
 obtain ⟨w51,hw,kb⟩:=dwx w50
 rw [<-hw];clear hw;replace hB:=zag hB (Nat.le_of_lt hl) kb;replace hl:=Nat.lt_of_lt_of_le hl kb.size;replace hT:=hT.on kb;replace q0:=cellS kb q0;clear kb
 refine tkq 0 (h:=tkq 1 (h:=tkq 2 (h:=tkq 3 (h:=tkq 4 (h:=tkq 6 (h:=tkq 7 (h:=?_)))))))
 refine rdq2 5 8 (h:=fun K hK=>?_) (h2:=fun K hK=>?_)
 focus
  go_simp
  refine bkq hK trivial (h:=fun hHeld=>?_)
  clear hK K
  refine rdq 8 (h:=fun K hK=>?_)
  go_simp
  go_wp2_with fail
  refine (zd3 w51).mono ?_
  rintro e w52 ⟨rfl,kb⟩
  replace hB:=zag hB (Nat.le_of_lt hl) kb;replace hl:=Nat.lt_of_lt_of_le hl kb.size;replace hT:=hT.on kb;replace q0:=cellS kb q0;clear kb
  refine bkq hK trivial (h:=fun hHeld=>?_)
  clear hK K
  refine rdq 9 (h:=fun K hK=>?_)
  go_simp
  obtain ⟨w53,hw⟩:=exx (World.alloc w52 (Obj.cells #[Value.int .i64 4611686018427387904] 3))
  have kb:=alx hw
  have n1c:w53.cell? ⟨w52.heap.size,0,none⟩=some (Value.int .i64 4611686018427387904):=by rw [hw]; simp
  rw [<-hw];clear hw
  obtain ⟨nb_n1c,a⟩:=exx w52.heap.size
  rw [<-a] at n1c ⊢;clear a;replace hB:=zag hB (Nat.le_of_lt hl) kb;replace hl:=Nat.lt_of_lt_of_le hl kb.size;replace hT:=hT.on kb;replace q0:=cellS kb q0;clear kb
 rotate_left
 focus
  go_simp
  go_wp2_with fail
  refine (zd3 w51).mono ?_
  rintro e w52 ⟨rfl,kb⟩
  replace hB:=zag hB (Nat.le_of_lt hl) kb;replace hl:=Nat.lt_of_lt_of_le hl kb.size;replace hT:=hT.on kb;replace q0:=cellS kb q0;clear kb
  refine bkq hK trivial (h:=fun hHeld=>?_)
  clear hK K
  refine rdq2 5 9 (h:=fun K hK=>?_) (h2:=fun K hK=>?_)
  focus
   go_simp
   refine bkq hK trivial (h:=fun hHeld=>?_)
   clear hK K
   refine rdq 9 (h:=fun K hK=>?_)
   go_simp
   obtain ⟨w53,hw⟩:=exx (World.alloc w52 (Obj.cells #[Value.int .i64 4611686018427387904] 3))
   have kb:=alx hw
   have n1c:w53.cell? ⟨w52.heap.size,0,none⟩=some (Value.int .i64 4611686018427387904):=by rw [hw]; simp
   rw [<-hw];clear hw
   obtain ⟨nb_n1c,a⟩:=exx w52.heap.size
   rw [<-a] at n1c ⊢;clear a;replace hB:=zag hB (Nat.le_of_lt hl) kb;replace hl:=Nat.lt_of_lt_of_le hl kb.size;replace hT:=hT.on kb;replace q0:=cellS kb q0;clear kb
  rotate_left
  focus
   go_simp
   obtain ⟨w53,hw⟩:=exx (World.alloc w52 (Obj.cells #[Value.int .i64 4611686018427387904] 3))
   have kb:=alx hw
   have n1c:w53.cell? ⟨w52.heap.size,0,none⟩=some (Value.int .i64 4611686018427387904):=by rw [hw]; simp
   rw [<-hw];clear hw
   obtain ⟨nb_n1c,a⟩:=exx w52.heap.size
   rw [<-a] at n1c ⊢;clear a;replace hB:=zag hB (Nat.le_of_lt hl) kb;replace hl:=Nat.lt_of_lt_of_le hl kb.size;replace hT:=hT.on kb;replace q0:=cellS kb q0;clear kb
   refine bkq hK trivial (h:=fun hHeld=>?_)
   clear hK K
   refine rdq 5 (h:=fun K hK=>?_)
   go_simp
  rotate_left
 rotate_left 2
 all_goals
  refine bkq hK trivial (h:=fun hHeld=>?_)
  clear hK K
  refine rdq 10 (h:=fun K hK=>?_)
  have o:Own w53 (g+1) 3 1 fk j (fun _ _=>.int .i64 4611686018427387904):=by
   have:=hT.own k hlt
   rw [if_neg (Nat.lt_irrefl k),if_pos rfl,<-I.out] at this
   exact this
  have a7:g+1<=w53.heap.size:=hT.row.lt
  refine zbB (by rfl) (.tmp 28) (.tmp 32) (by rfl) (g+1) fk j (fun _=>4611686018427387904) (by rfl) o a7 (by omega) nb_n1c 1 (by rfl) n1c ?_
  intro v9 w9 o1 o2 o3
  obtain ⟨A9,c9,a2⟩:=o1.shape
  subst a2
  have D:∀ q,fk.ownBlock=some q->g+1<=q:=fun q e=>(o.lt q e).1
  have q9:w9.cell? ⟨g,k,none⟩=some fk:=zae q0 o2 fun e=>by have:=D g e; omega
  have z9:w9.frozen? ⟨g,k,none⟩=false:=by
   have:=(hT.row.of_block (o2.block g hT.row.lt fun e=>by have:=D g e.symm; omega)).frozen k
   exact this
  have V:Below (w.heap.size+2) W2 w9:=hB.grown o2 (Nat.le_of_lt hl) fun q e=>by have:=D q e; omega
  have a6:w.heap.size+2<w9.heap.size:=Nat.lt_of_lt_of_le hl o2.size
  have m:=hid (hT.put (by omega) hlt o1 (by rw [<-I.out]; exact o2) (by rw [<-I.out]; exact o3))
  refine bkq hK trivial (h:=fun hHeld=>?_)
  clear hK K
  refine tkq 11 (h:=?_)
  refine rdq 12 (h:=fun K hK=>?_)
  go_simp
  refine bkq hK trivial (h:=fun hHeld=>?_)
  clear hK K
  refine wpAnyH_done (by kernel_rfl) ?_ _
  clear hHeld
  have hN:=m.out.congr (n':=fun v=>if v<k then (T.W v).toNat else if v=k then j+1 else 0) (x':=fun _ _=>4611686018427387904) (fun v _=>by
    by_cases e:v=k
    ·subst e; simp
    ·simp [e]) (fun v _ q hq=>by split <;> rfl)
  have HN:=hid hN
  have ac:=V.setCell (p:=⟨g,k,none⟩) a9 (.slice A9 (j+1) c9)
  have a5:w.heap.size+2<(w9.setCell ⟨g,k,none⟩ (.slice A9 (j+1) c9)).heap.size:=by simp; exact a6
  clear m hN q9 z9 V
  go_wp2
  go_roundg (gk - 1)
  case measure=>omega
  case rel=>exact ⟨j+1,_,by go_num,by omega,by omega,HN.out,ac,a5⟩
def Trel.bwE (T:Trel) (y:Nat->Nat->Int) (next:Nat->Int) (i:Nat):Nat->Nat->Int
 | 0,_=>4611686018427387904
 | j+1,v=>if (T.fr i j).toNat=v then min (T.bwE y next i j v) (capI (y i j) (next (T.to i j).toNat)) else T.bwE y next i j v
def Trel.bw (T:Trel) (y:Nat->Nat->Int):Nat->Nat->Int
 | 0,v=>if v=0 then 0 else 4611686018427387904
 | r+1,v=>T.bwE y (T.bw y r) (T.n - (r+1)) (T.el (T.n - (r+1))) v
def Trel.bwX (T:Trel) (y:Nat->Nat->Int) (i j u v:Nat):Int:=if i<u then T.bw y (T.n - u) v else if u=i then T.bwE y (T.bw y (T.n - (i+1))) i j v else 4611686018427387904
def Costs (T:Trel) (y:Nat->Nat->Int):Prop:=∀ i,i<T.n->∀ j,j<T.el i->0<=y i j/\y i j<=2147483648
section
variable {T:Trel} {y:Nat->Nat->Int}
theorem Trel.bwE_cost {next:Nat->Int} {i:Nat} (hn:∀ v,Cost (next v)):∀ j,(∀ q,q<j->Cost (y i q))->∀ v,Cost (T.bwE y next i j v):=by
 intro j
 induction j with
 | zero=>intro _ v; show Cost 4611686018427387904; unfold Cost; omega
 | succ j ih =>
  intro hy v
  have h1:=ih (fun q hq=>hy q (by omega)) v
  show Cost (if _ then _ else _)
  split
  ·exact zi3 h1 (ze8 (hy j (by omega)) (hn _))
  ·exact h1
theorem Costs.cost (h:Costs T y) {i j:Nat} (hi:i<T.n) (hj:j<T.el i):Cost (y i j):=by
 have:=h i hi j hj
 unfold Cost
 omega
theorem Trel.bw_cost (h:Costs T y):∀ r,r<=T.n->∀ v,Cost (T.bw y r v):=by
 intro r
 induction r with
 | zero=>intro _ v; show Cost (if v=0 then 0 else _); unfold Cost; split <;> omega
 | succ r ih =>
  intro hr v
  exact Trel.bwE_cost (ih (by omega)) _ (fun q hq=>h.cost (by omega) hq) v
theorem Trel.bwX_cost (h:Costs T y) {i j:Nat} (hi:i<T.n) (hj:j<=T.el i) (u v:Nat):Cost (T.bwX y i j u v):=by
 unfold Trel.bwX
 split
 ·exact Trel.bw_cost h _ (by omega) _
 split
 ·exact Trel.bwE_cost (Trel.bw_cost h _ (by omega)) _ (fun q hq=>h.cost hi (by omega)) _
 ·unfold Cost; omega
theorem Trel.bwX_put (i j u v:Nat) {fn tn:Nat} (hf:(T.fr i j).toNat=fn) (ht:(T.to i j).toNat=tn) :
  (fun u' j'=>if u'=i/\j'=fn then min (T.bwX y i j i fn) (capI (y i j) (T.bwX y i j (i+1) tn)) else T.bwX y i j u' j') u v=T.bwX y i (j+1) u v:=by
 have e1:T.bwX y i j i fn=T.bwE y (T.bw y (T.n - (i+1))) i j fn:=by
  unfold Trel.bwX
  rw [if_neg (by omega),if_pos rfl]
 have e2:T.bwX y i j (i+1) tn=T.bw y (T.n - (i+1)) tn:=by
  unfold Trel.bwX
  rw [if_pos (by omega)]
 simp only [e1,e2]
 by_cases h:i<u
 ·rw [if_neg (by omega)]
  unfold Trel.bwX
  rw [if_pos h,if_pos h]
 by_cases h2:u=i
 rotate_left
 ·rw [if_neg fun hh=>h2 hh.1]
  unfold Trel.bwX
  rw [if_neg h,if_neg h2,if_neg h,if_neg h2]
 subst h2
 have e3:T.bwX y u (j+1) u v=if (T.fr u j).toNat=v then min (T.bwE y (T.bw y (T.n - (u+1))) u j v) (capI (y u j) (T.bw y (T.n - (u+1)) (T.to u j).toNat)) else T.bwE y (T.bw y (T.n - (u+1))) u j v:=by
  show (if u<u then _ else if u=u then T.bwE y (T.bw y (T.n - (u+1))) u (j+1) v else _)=_
  rw [if_neg (by omega),if_pos rfl]
  rfl
 rw [e3,hf,ht]
 by_cases h3:v=fn
 ·subst h3
  rw [if_pos ⟨rfl,rfl⟩,if_pos rfl]
 rw [if_neg fun hh=>h3 hh.2,if_neg fun hh=>h3 hh.symm]
 unfold Trel.bwX
 rw [if_neg (by omega),if_pos rfl]
theorem Trel.bwX_next {i:Nat} (hi:i<T.n) (u v:Nat):T.bwX y i (T.el i) u v=if i<=u then T.bw y (T.n - u) v else 4611686018427387904:=by
 unfold Trel.bwX
 by_cases h:i<u
 ·rw [if_pos h,if_pos (by omega)]
 rw [if_neg h]
 by_cases h2:u=i
 ·subst h2
  rw [if_pos rfl,if_pos (Nat.le_refl _)]
  have e:T.n - u=(T.n - (u+1))+1:=by omega
  rw [e]
  show _=T.bwE y (T.bw y (T.n - (u+1))) (T.n - (T.n - (u+1)+1)) (T.el (T.n - (T.n - (u+1)+1))) v
  rw [show T.n - (T.n - (u+1)+1)=u by omega]
 ·rw [if_neg h2,if_neg (by omega)]
theorem Trel.bwX_first {i:Nat} (u v:Nat):T.bwX y i 0 u v=if i+1<=u then T.bw y (T.n - u) v else 4611686018427387904:=by
 unfold Trel.bwX
 by_cases h:i<u
 ·rw [if_pos h,if_pos (by omega)]
 rw [if_neg h,if_neg (show ¬ i+1<=u by omega)]
 split
 ·rfl
 ·rfl
end
end Go.Proofs.YtgekjfpapmlndaaGreat