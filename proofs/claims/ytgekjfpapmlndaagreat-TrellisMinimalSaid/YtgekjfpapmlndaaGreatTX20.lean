/- Merged texts of a claim: RefRen, Same47, MinLaw. -/
import Derived.Test.YtgekjfpapmlndaaGreatTX19
import Derived.Laws.StructEq
namespace Go.Proofs.YtgekjfpapmlndaaGreat
set_option maxRecDepth 100000
set_option maxHeartbeats 32000000
open KA KB KC KD KE KF
open Go.RowKit
structure VisSt (T:Trel) (i u j nb m:Nat) (w:World) (base:Nat) (nv ev:Value):Prop where
 row:w.rowIs nb 3 m (fun v=>.int .i64 (numOf (T.visN i u j) v))
 next:Own w base 3 1 nv (T.visN i u j).length (fun k _=>.int .i64 ((T.visN i u j).getD k 0:Nat))
 edges:Own w base 90 3 ev (T.visV i u j).length (edgeCell (T.visE i u j))
 ne:nv.ownBlock≠some nb
section
variable {T:Trel} {i u j nb m base:Nat} {w w':World} {nv ev:Value}
theorem VisSt.on (h:VisSt T i u j nb m w base nv ev) (hb:Below w.heap.size w w'):VisSt T i u j nb m w' base nv ev :=
 ⟨h.row.of_block (hb.block nb h.row.lt),h.next.on hb,h.edges.on hb,h.ne⟩
end
structure RenSt (T:Trel) (i:Nat) (ob wb wc rb:Nat) (w:World) (base:Nat) (ov:Value):Prop where
 res:w.rowIs rb 53 2 (fun _=>.slice none 0 0)
 wid:Own w base 3 1 (.slice (some ⟨wb,0,none⟩) T.nw wc) T.nw (fun k _=>.int .i64 (T.W k))
 box:∃ EV,w.rowIs ob 53 2 (fun k=>if k=0 then .slice (some ⟨wb,0,none⟩) T.nw wc else EV)/\ETab w base EV i T.el fun i p=>T.tri i ((T.vis i).getD p 0)
 ord:∃ o,OrdOk T i o/\Own w base 3 1 ov (T.W i).toNat (fun u _=>.int .i64 (o u:Nat))
theorem RenSt.on {T:Trel} {i ob wb wc rb base:Nat} {w w':World} {ov:Value} (h:RenSt T i ob wb wc rb w base ov) (hb:Below w.heap.size w w'):RenSt T i ob wb wc rb w' base ov:=by
 obtain ⟨h0,h1,⟨EV,h2,h3⟩,⟨o,h4,h5⟩⟩:=h
 exact ⟨h0.of_block (hb.block rb h0.lt),h1.on hb,⟨EV,h2.of_block (hb.block ob h2.lt),h3.on hb⟩,⟨o,h4,h5.on hb⟩⟩
theorem zgJ {T:Trel} (hP:T.Proper) (X:World) {cap:Nat} {cur:Array Value} (k1:T.nw<=cap) (k2:cap<=maxLen) (k3:cap*1<=cur.size) (k4:∀ k,k<T.nw->∀ j,j<1->cur[k*1+j]?=some (.int .i64 (T.W k))) :
  RenSt T 0 (X.heap.size+1+1+1) (X.heap.size+1+1) cap X.heap.size (((((X.alloc (Obj.cells #[.slice none 0 0,.slice none 0 0] 53)).alloc (Obj.cells #[] 3)).alloc (Obj.cells cur 3)).alloc (Obj.cells #[.slice (some ⟨X.heap.size+1+1,0,none⟩) T.nw cap,.slice none 0 0] 53)).alloc (Obj.cells #[.int .i64 0] 3)).drew X.heap.size (.slice (some ⟨X.heap.size+1+1+1+1,0,none⟩) 1 1):=by
 obtain ⟨X1,g⟩:=exx (X.alloc (Obj.cells #[.slice none 0 0,.slice none 0 0] 53))
 obtain ⟨X2,d⟩:=exx (X1.alloc (Obj.cells #[] 3))
 obtain ⟨X3,b⟩:=exx (X2.alloc (Obj.cells cur 3))
 obtain ⟨X4,a⟩:=exx (X3.alloc (Obj.cells #[.slice (some ⟨X.heap.size+1+1,0,none⟩) T.nw cap,.slice none 0 0] 53))
 obtain ⟨X5,c⟩:=exx (X4.alloc (Obj.cells #[.int .i64 0] 3))
 have s1:X1.heap.size=X.heap.size+1:=by rw [g]; simp
 have s2:X2.heap.size=X.heap.size+1+1:=by rw [d]; simp [s1]
 have s3:X3.heap.size=X.heap.size+1+1+1:=by rw [b]; simp [s2]
 have s4:X4.heap.size=X.heap.size+1+1+1+1:=by rw [a]; simp [s3]
 have b2:=alx d
 have b3:=alx b
 have b4:=alx a
 have b5:=alx c
 have r1:X1.rowIs X.heap.size 53 2 (fun _=>.slice none 0 0):=by rw [g]; exact World.rowIs_alloc X _ _ _ (fun i hi=>by
  match i,hi with
  | 0,_=>rfl
  | 1,_=>rfl)
 have r3:=Own.new (w:=X2) (base:=X.heap.size) (e := 3) (s:=1) (f:=fun k _=>.int .i64 (T.W k)) (by omega) k1 k2 k3 k4
 rw [<-b,s2] at r3
 have r4:X4.rowIs (X.heap.size+1+1+1) 53 2 (fun k=>if k=0 then .slice (some ⟨X.heap.size+1+1,0,none⟩) T.nw cap else .slice none 0 0):=by
  rw [a,<-s3]
  exact World.rowIs_alloc X3 _ _ _ (fun i hi=>by
   match i,hi with
   | 0,_=>rfl
   | 1,_=>rfl)
 have r5:=Own.new (w:=X4) (base:=X.heap.size) (e := 3) (s:=1) (m:=1) (cap:=1) (cur:=#[.int .i64 0]) (f:=fun _ _=>.int .i64 ((0:Nat):Nat)) (by omega) (by omega) (by unfold maxLen; omega) (by simp) (fun k hk j hj=>by
  obtain rfl:k=0:=by omega
  obtain rfl:j=0:=by omega
  rfl)
 rw [<-c,s4] at r5;rw [<-g,<-d,<-b,<-a,<-c]
 have h:(T.W 0).toNat=1:=by rw [hP.w0]; rfl
 refine ⟨?_,((r3.on b4).on b5).drew,⟨.slice none 0 0,?_,ETab.nil _ _ _ _⟩,⟨fun _=>0,fun u hu=>⟨by show 0<_; omega,by show 0=u; omega⟩,?_⟩⟩
 ·have:=r1.of_block (b2.block _ r1.lt)
  have:=this.of_block (b3.block _ this.lt)
  have:=this.of_block (b4.block _ this.lt)
  exact this.of_block (b5.block _ this.lt)
 ·exact r4.of_block (b5.block _ r4.lt)
 ·rw [h]; exact r5.drew
def RefRenPost (T:Trel) (w:World) (e:Ending) (w':World):Prop :=
 Below w.heap.size w w'/\∃ y A' B' c' d',e=.returned (.agg #[.slice A' T.nw c',.slice B' T.n d'])/\IsRen T y/\RenOut T y w' A' B' c' d'
theorem zia (T:Trel) (A B:Option Addr) (c d:Nat) (w:World) (h:T.Reads w A B) (hP:T.Proper) :
  Calls Tryz.prog 46 #[.agg #[.slice A T.nw c,.slice B T.n d]] w (RefRenPost T w):=by
 obtain ⟨RB,bn⟩:=exx ((Obj.cells #[.slice A T.nw c,.slice B T.n d] 53))
 have av:Below (w.heap.size+1) (w.alloc RB) (w.alloc RB):=Below.refl _ _
 have HS:Hid (∀ w',Below (w.heap.size+1) (w.alloc RB) w'->(w'.cell? ⟨w.heap.size,0,none⟩=some (.slice A T.nw c)/\w'.cell? ⟨w.heap.size,1,none⟩=some (.slice B T.n d))/\Below w.heap.size w w'):=fun w' hB=>by
  have e7:=zaJ hB
  subst bn
  exact ⟨⟨tbox hB rfl,tbox hB rfl⟩,e7⟩
 obtain ⟨⟨p0,p1⟩,hW⟩:=HS.out _ av
 have HP:=hid hP
 have HR:=hid h
 have dl:=hP.shape.n64
 have cn:=hP.shape.nw
 have bb:0<T.nw:=by omega
 have d4:=hid cn
 have n3:Hid (T.nw<=maxLen):=by show _<=_; unfold maxLen; omega
 have n4:Hid (T.nw*8<=140737488355328):=by show _<=_; omega
 obtain ⟨i0,qi0,qz0,qz1,qz2⟩:=info_parts Tryz.infoInt
 have NR:Hid (∀ w',Below (w.heap.size+1) (w.alloc RB) w'->Rd w' w'.heap.size A T.nw 1 (fun i _=>.int .i64 (T.W i))):=fun w' hB=>(HR.out.on (HS.out _ hB).2).1
 clear h hP cn
 go_enter Tryz.func46, Tryz.ntmps46
 go_upto_region 1 with fail
 rw [<-bn];clear bn hW
 have Y:Below (w.heap.size+1) (w.alloc RB) (((w.alloc RB).alloc (Obj.cells #[.slice none 0 0,.slice none 0 0] 53)).alloc (Obj.cells #[] 3)):=(av.alloc (by simp) _).alloc (by simp) _
 have NR1:=hid (NR.out _ Y)
 go_upto_region 3 with (first | (at_builtin; (refine zak rfl (.tmp 13) (.tmp 15) _ rfl 3 i0 _ 1 8 Tryz.underlying22 qi0 qz0 qz1 qz2 rfl (by omega) _ rfl A T.nw c (fun i _=>.int .i64 (T.W i)) rfl NR1.out bb (fun _ _ _ _=>rfl) n3.out n4.out ?_); intro cap cur k1 k2 k3 k4))
 have Z:=zgJ HP.out (w.alloc RB) k1 k2 k3 k4
 have ch:(w.alloc RB).heap.size=w.heap.size+1:=by simp
 have c9:Below (w.alloc RB).heap.size (w.alloc RB) (((((((w.alloc RB).alloc (Obj.cells #[.slice none 0 0,.slice none 0 0] 53)).alloc (Obj.cells #[] 3)).alloc (Obj.cells cur 3)).alloc (Obj.cells #[.slice (some ⟨w.heap.size+1+1+1,0,none⟩) T.nw cap,.slice none 0 0] 53)).alloc (Obj.cells #[.int .i64 0] 3)).drew):=((((((Below.refl _ _).alloc (Nat.le_refl _) _).alloc (by simp) _).alloc (by simp) _).alloc (by simp) _).alloc (by simp) _).drew
 have bq:=zaB av c9
 rw [ch] at Z
 obtain ⟨w1,cf⟩:∃ W,W=((((((w.alloc RB).alloc (Obj.cells #[.slice none 0 0,.slice none 0 0] 53)).alloc (Obj.cells #[] 3)).alloc (Obj.cells cur 3)).alloc (Obj.cells #[.slice (some ⟨w.heap.size+1+1+1,0,none⟩) T.nw cap,.slice none 0 0] 53)).alloc (Obj.cells #[.int .i64 0] 3)).drew:=⟨_,rfl⟩
 rw [<-cf] at Z bq ⊢
 have F:=hid Z
 obtain ⟨ov,a1⟩:∃ x:Value,x=.slice (some ⟨w.heap.size+1+1+1+1+1,0,none⟩) 1 1:=⟨_,rfl⟩
 obtain ⟨ob,ba⟩:=exx (w.heap.size+1+1+1+1)
 obtain ⟨wb,cd⟩:=exx (w.heap.size+1+1+1)
 obtain ⟨rb,ap⟩:=exx (w.heap.size+1)
 have c3:=hid ap
 have d3:=hid ba
 rw [<-a1,<-ba,<-cd] at F ⊢
 have F:Hid (RenSt T 0 ob wb cap rb w1 (w.heap.size+1) ov):=by rw [ap]; exact F
 rw [<-ap];clear a1 ba cd ap Z cf c9 av ch Y NR1 k1 k2 k3 k4 p0 p1 NR
 go_wp2
 go_loopg [4,5] T.n (fun gg ov iv wx=>∃ i:Nat,iv=.int .i64 (i:Nat)/\i<=T.n/\T.n<=i+gg/\Hid (RenSt T i ob wb cap rb wx (w.heap.size+1) ov)/\Below (w.heap.size+1) (w.alloc RB) wx)
 case atStart=>exact ⟨0,rfl,by omega,by omega,F,bq⟩
 clear F bq
 obtain ⟨gI,dq⟩:=exx gk
 subst dq
 obtain ⟨i,rfl,hi,f9,F,hB⟩:=hrel
 obtain ⟨⟨p0,p1⟩,hW⟩:=HS.out _ hB
 have fa:(0:Int)<=(i:Int):=by omega
 by_cases hlt:i<T.n
 rotate_left
 ·have bh:¬ (i:Int)<(T.n:Int):=by omega
  obtain rfl:i=T.n:=by omega
  obtain ⟨s0,s1,⟨EV,s2,s3⟩,_⟩:=F.out
  obtain ⟨EA,eec,bo⟩:=s3.shape
  subst bo
  have y0:=s2.cell (i:=0) (by omega)
  have y1:=s2.cell (i:=1) (by omega)
  rw [if_pos rfl] at y0
  rw [if_neg (by omega)] at y1
  have r0:=s0.cell (i:=0) (by omega)
  have r1:=s0.cell (i:=1) (by omega)
  have z0:=s0.frozen 0
  have z1:=s0.frozen 1
  have q0:=s0.set 0 (.slice (some ⟨wb,0,none⟩) T.nw cap)
  have q1:=q0.cell (i:=1) (by omega)
  rw [if_neg (by omega)] at q1
  have q2:=q0.frozen 1
  have a7:IsRen T fun i p=>T.tri i ((T.vis i).getD p 0):=fun i hi=>HP.out.vis_ren hi
  have bz:=hid a7
  have bw:=hid s0
  have d0:=hid s1
  have ef:=hid s3
  have ew:=hid hB
  have q3:=q0.set 1 (.slice EA T.n eec)
  have q4:=q3.cell (i:=0) (by omega)
  have q5:=q3.cell (i:=1) (by omega)
  rw [if_neg (by omega),if_pos rfl] at q4
  rw [if_pos rfl] at q5
  have fe:=hid s2
  clear a7 s0 s1 s2 s3 hB hlt q0 q3
  go_wp2
  refine bodyPost_ret (v:=.agg #[.slice (some ⟨wb,0,none⟩) T.nw cap,.slice EA T.n eec]) (by simp [results,Tryz.results46, go_sem,q4,q5]) rfl ?_
  have k1:=(d0.out.setCell (zad bw.out d0.out (by decide)) (.slice (some ⟨wb,0,none⟩) T.nw cap) (a:=⟨rb,0,none⟩))
  have r1':=bw.out.set 0 (.slice (some ⟨wb,0,none⟩) T.nw cap)
  have k2:=k1.setCell (zad r1' k1 (by decide)) (.slice EA T.n eec) (a:=⟨rb,1,none⟩)
  have k3:=(ef.out.setCell (b:=rb) (i:=0) bw.out (by decide) (by decide) (.slice (some ⟨wb,0,none⟩) T.nw cap)).setCell (b:=rb) (i:=1) r1' (by decide) (by decide) (.slice EA T.n eec)
  refine ⟨?_,_,_,_,_,_,rfl,bz.out,k3.mono (Nat.zero_le _),k2.mono (Nat.zero_le _)⟩
  exact (HS.out _ ((ew.out.setCell (p:=⟨rb,0,none⟩) (by rw [c3.out]; exact Nat.le_refl _) _).setCell (p:=⟨rb,1,none⟩) (by rw [c3.out]; exact Nat.le_refl _) _)).2
 have bh:(i:Int)<(T.n:Int):=by omega
 obtain ⟨m,hm⟩:∃ m:Nat,m=(T.W (i+1)).toNat:=⟨_,rfl⟩
 have az:=HP.out.shape.wid (i:=i+1) (by omega)
 have cp:T.W (i+1)=(m:Int):=by omega
 have cq:0<m:=by omega
 have f6:m<=65536:=by omega
 obtain ⟨b,o,hA,hb,x0,_⟩:=(HR.out.on hW).width (i:=i+1) (by rw [d4.out]; omega)
 rw [cp] at x0
 subst hA
 have dm:(i:Int)+1<(T.nw:Int):=by have:=d4.out; omega
 have dn:(0:Int)<=(i:Int)+1:=by omega
 have dc:IntKind.i64.wrap ((i:Int)+1)=(i:Int)+1:=IntWalk.i64_in _ (by omega)
 have df:((i:Int)+1).toNat=i+1:=by omega
 have HM:=hid hm
 clear hm cp az
 have co:=fun W=>zag (P:=Tryz.prog) 22 3 _ 8 Tryz.underlying22 Tryz.infoInt rfl (m:Int) (by omega) (by omega) (by omega) W
 simp only [Int.toNat_natCast] at co
 go_upto_region 7 with fail
 have Z:=F.out
 have db:=hid hB
 have f0:=zaY hB
 obtain ⟨wa,dd⟩:=exx wr
 subst dd
 have aq:=World.rowIs_made wa (.int .i64 0) m 3
 have Y:=aly wa (Obj.cells (madeCells #[Value.int .i64 0] m) 3)
 obtain ⟨w2,b4⟩:=exx (wa.alloc (Obj.cells (madeCells #[Value.int .i64 0] m) 3))
 obtain ⟨nb,be⟩:=exx wa.heap.size
 have d7:=hid be
 rw [<-b4] at Y ⊢;rw [<-be] at aq ⊢;rw [<-b4] at aq
 have ci:w2.rowIs nb 3 m (fun v=>.int .i64 (if v<0 then -1 else 0)):=aq.congr fun v _=>by rw [if_neg (by omega)]
 clear b4 be co aq x0 p0 p1 hW hB Z
 go_wp2
 go_loopg [7] m (fun gg vv wx=>∃ v:Nat,vv=.int .i64 (v:Nat)/\v<=m/\m<=v+gg/\wx.rowIs nb 3 m (fun x=>.int .i64 (if x<v then -1 else 0))/\Below wa.heap.size wa wx)
 case atStart=>exact ⟨0,rfl,by omega,by omega,ci,Y⟩
 clear ci Y
 obtain ⟨v,rfl,hv,f1,r,hB⟩:=hrel
 have f2:(0:Int)<=(v:Int):=by omega
 by_cases hltv:v<m
 ·have ab:(v:Int)<(m:Int):=by omega
  have y0:=r.cell hltv
  have z0:=r.frozen v
  have a0:=r.set v (.int .i64 (-1))
  have a2:=hB.setCell (p:=⟨nb,v,none⟩) (by have:=d7.out; show _<=nb; omega) (.int .i64 (-1))
  have al:=hid a0
  have ax:=hid a2
  clear a0 a2 r hB
  go_wp2
  go_roundg (gk - 1)
  case measure=>omega
  refine ⟨v+1,by go_num,by omega,by omega,al.out.congr fun x _=>?_,ax.out⟩
  show (if x=v then _ else Value.int .i64 (if x<v then -1 else 0))=Value.int .i64 (if x<v+1 then -1 else 0)
  by_cases e:x=v
  ·rw [if_pos e,if_pos (by omega)]
  rw [if_neg e]
  by_cases e2:x<v
  ·rw [if_pos e2,if_pos (by omega)]
  ·rw [if_neg e2,if_neg (by omega)]
 have ab:¬ (v:Int)<(m:Int):=by omega
 obtain rfl:v=m:=by omega
 have z:wr.rowIs nb 3 v (fun x=>.int .i64 (numOf (T.visN i 0 0) x)):=r.congr fun x hx=>by rw [if_pos hx]; rfl
 have bp:=hB
 clear r hB
 go_upto_region 13 with fail
 have dh:(wr.alloc (Obj.cells #[] 3)).heap.size=wr.heap.size+1:=by simp
 have an:Below wr.heap.size wr ((wr.alloc (Obj.cells #[] 3)).alloc (Obj.cells #[] 90)):=((Below.refl _ _).alloc (Nat.le_refl _) _).alloc (by simp) _
 have dy:=bp.size
 have bm:VisSt T i 0 0 nb v ((wr.alloc (Obj.cells #[] 3)).alloc (Obj.cells #[] 90)) wa.heap.size (.slice (some ⟨wr.heap.size,0,none⟩) 0 0) (.slice (some ⟨wr.heap.size+1,0,none⟩) 0 0) :=
  ⟨z.of_block (an.block _ z.lt),(zf1 (by omega) (zaw rfl)).alloc _,zf1 (by omega) (zaw (by omega)),by
   have:=z.lt
   simp [Value.ownBlock]
   omega⟩
 obtain ⟨w3,ce⟩:=exx ((wr.alloc (Obj.cells #[] 3)).alloc (Obj.cells #[] 90))
 rw [<-ce] at bm an ⊢
 have cx:=onS bp an
 have bt:=hid bm
 obtain ⟨q1,ck⟩:∃ x:Value,x=.slice (some ⟨wr.heap.size,0,none⟩) 0 0:=⟨_,rfl⟩
 obtain ⟨q2,cj⟩:∃ x:Value,x=.slice (some ⟨wr.heap.size+1,0,none⟩) 0 0:=⟨_,rfl⟩
 rw [<-ck,<-cj] at bt ⊢;clear ck cj ce bm an dh dy z bp
 obtain ⟨o5,cm,a1⟩:=F.out.ord
 obtain ⟨OA,oc,rfl⟩:=a1.shape
 have d2:=hid a1
 have ei:=hid cm
 obtain ⟨M,hM⟩:=exx ((T.W i).toNat)
 have e6:=HP.out.shape.wid (i:=i) (by omega)
 have fd:M<=65536:=by omega
 rw [<-hM] at d2 ⊢
 have aw:=hid hM
 clear a1 cm hM e6
 go_wp2
 go_loopg [8,9,10] M (fun gg nv ev uv wx=>∃ u:Nat,uv=.int .i64 (u:Nat)/\u<=M/\M<=u+gg/\Hid (VisSt T i u 0 nb v wx wa.heap.size nv ev)/\Below wa.heap.size wa wx)
 case atStart=>exact ⟨0,rfl,by omega,by omega,bt,cx⟩
 clear bt cx
 obtain ⟨gU,dp⟩:=exx gk
 subst dp
 obtain ⟨u,rfl,hu,f3,HV,hB⟩:=hrel
 have f4:(0:Int)<=(u:Int):=by omega
 by_cases hltu:u<M
 rotate_left
 ·have ac:¬ (u:Int)<(M:Int):=by omega
  obtain rfl:u=M:=by omega
  obtain ⟨e1,e2,e3,e4⟩:=HP.out.vis_end hlt
  rw [<-aw.out] at e1 e2 e3 e4
  obtain ⟨k1,k2,k3,k4⟩:=HV.out
  rw [e1] at k3;rw [e3] at k2
  have k3:=k3.congr (f':=edgeCell ((fun i p=>T.tri i ((T.vis i).getD p 0)) i)) fun p hp q _=>by unfold edgeCell; rw [e2 p hp]
  obtain ⟨s0,s1,⟨EV,s2,s3⟩,_⟩:=F.out.on hB
  obtain ⟨EA,eec,bo⟩:=k3.shape
  subst bo
  have y1:=s2.cell (i:=1) (by omega)
  rw [if_neg (by omega)] at y1
  have z1:=s2.frozen 1
  have ez:=hB.size
  have ca:=k3.mono (base':=w.heap.size+1) (by omega)
  have cb:=k2.mono (base':=w.heap.size+1) (by omega)
  have ct:=zaB db.out hB
  obtain ⟨EL,cs⟩:=exx (T.el i)
  have er:=hid cs
  obtain ⟨nv,di⟩:=exx u8
  subst di
  have y:=aly wr (Obj.cells #[Value.slice EA (T.el i) eec] 86)
  have cz:=hid (s3.on y)
  have bx:Hid (rb≠ob):=by show _≠_; rw [d3.out,c3.out]; omega
  have a4:=hid (ca.on y)
  have L:=hid (cb.on y)
  have bs:=hid (s1.on y)
  have J:=hid (s0.of_block (y.block rb s0.lt))
  have br:=hid (s2.of_block (y.block ob s2.lt))
  have X:=hid (zaB ct y)
  have HC:Hid ((wr.alloc (Obj.cells #[Value.slice EA (T.el i) eec] 86)).cell? ((⟨wr.heap.size,0,none⟩:Addr).add 0)=some (Value.slice EA (T.el i) eec)):=tbox (Below.refl _ _) rfl
  have HZ:Hid (w.heap.size+1<=(wr.alloc (Obj.cells #[Value.slice EA (T.el i) eec] 86)).heap.size):=zaY X.out
  have HL:Hid (i<=1048576):=by show _<=_; omega
  have ej:=hid e4
  obtain ⟨RR,hA,_⟩:=s3
  have c8:=hid (zad s2 hA (by decide))
  have c5:=hid (zad s0 hA (by decide))
  have ay:=hid (hA.on y)
  clear e1 e2 e3 e4 k1 k2 k3 k4 s0 s1 s2 y ca cb ct hB HV cs hA
  go_upto_region 26 with (first | (at_builtin; (refine zba rfl (.tmp 105) (.tmp 107) rfl cz.out rfl (ad:=⟨wr.heap.size,0,none⟩) (c:=1) rfl HC.out rfl a4.out HZ.out HL.out ?_); intro v7 w7 o1 o2; obtain ⟨A7,c7,dg⟩:=o1.shape; subst dg; have U:=br.out.of_block (o2.block ob br.out.lt fun e=>c8.out e.symm); have y7:=U.cell (i:=1) (by omega); rw [if_neg (by omega)] at y7; have z7:=U.frozen 1))
  have cw:=(X.out.grown o2 HZ.out fun q e=>(Own.lt ay.out q e).1).setCell (p:=⟨ob,1,none⟩) (by rw [d3.out]; show _<=w.heap.size+1+1+1+1; omega) (.slice A7 (i+1) c7)
  have b1:=bs.out.kept o2 (zaQ ay.out bs.out (by decide))
  have bf:=L.out.kept o2 (zaQ ay.out L.out (by decide))
  have ai:RenSt T (i+1) ob wb cap rb (w7.setCell ⟨ob,1,none⟩ (.slice A7 (i+1) c7)) (w.heap.size+1) nv:=by
   refine ⟨(J.out.of_block (o2.block rb J.out.lt fun e=>c5.out e.symm)).setOther (a:=⟨ob,1,none⟩) (by simpa using bx.out) (.slice A7 (i+1) c7),b1.setCell (zad U b1 (by decide)) (.slice A7 (i+1) c7),⟨.slice A7 (i+1) c7,(U.set 1 (.slice A7 (i+1) c7)).congr fun k hk=>?_,o1.setCell U (by decide) (by decide) (.slice A7 (i+1) c7)⟩,⟨_,ej.out,bf.setCell (zad U bf (by decide)) (.slice A7 (i+1) c7)⟩⟩
   by_cases e:k=0
   ·subst e; rw [if_neg (by omega),if_pos rfl,if_pos rfl]
   ·rw [if_pos (by omega),if_neg e]
  have bv:=hid ai
  have ey:=hid cw
  clear ai cw b1 bf o1 o2 U y7 z7 y1 z1 bs L J br X cz a4 HC HZ ay
  go_wp2
  go_roundg (gI - 1)
  case measure=>omega
  case rel=>exact ⟨i+1,by go_num,by omega,by omega,bv,ey.out⟩
 have ac:(u:Int)<(M:Int):=by omega
 have dr:=HP.out.shape.elb hlt
 obtain ⟨el,R⟩:=exx (T.el i)
 have a3:=hid R
 rw [<-R] at dr;clear R
 go_wp2
 go_loopg [8,9,11] el (fun gg nv ev jv wx=>∃ j:Nat,jv=.int .i64 (j:Nat)/\j<=el/\el<=j+gg/\Hid (VisSt T i u j nb v wx wa.heap.size nv ev)/\Below wa.heap.size wa wx)
 case atStart=>exact ⟨0,rfl,by omega,by omega,HV,hB⟩
 clear HV hB
 obtain ⟨j,rfl,hj,f7,HV,hB⟩:=hrel
 have f8:(0:Int)<=(j:Int):=by omega
 have cu:=zaB db.out hB
 obtain ⟨⟨p0,p1⟩,hW⟩:=HS.out _ cu
 obtain ⟨eb,eo,E,ec,dt,ds,x0,dv,fb,bl,du⟩:=(HR.out.on hW).sec hlt
 subst dt
 rw [<-a3.out] at x0 dv bl
 by_cases hltj:j<el
 rotate_left
 ·have ae:¬ (j:Int)<(el:Int):=by omega
  obtain rfl:j=el:=by omega
  go_wp2
  go_roundg (gU - 1)
  case measure=>omega
  refine ⟨u+1,by go_num,by omega,by omega,?_,hB⟩
  have h9:=HV.out
  rw [a3.out] at h9
  obtain ⟨k1,k2,k3,k4⟩:=h9
  rw [Trel.visN_next] at k1 k2;rw [Trel.visV_next,Trel.visE_next] at k3
  exact ⟨k1,k2,k3,k4⟩
 have ae:(j:Int)<(el:Int):=by omega
 obtain ⟨b9,o9,rfl,e0,y0,y1,y2⟩:=zcO bl hltj
 have C:j<T.el i:=by rw [<-a3.out]; exact hltj
 have ao:=HP.out.toL hlt C
 have au:=HP.out.frL hlt C
 obtain ⟨tn,b5⟩:=exx ((T.to i j).toNat)
 obtain ⟨fn,bi⟩:=exx ((T.fr i j).toNat)
 obtain ⟨lv,bg⟩:=exx (T.lb i j)
 rw [<-b5,<-HM.out] at ao;rw [<-bi,<-aw.out] at au;rw [<-ao.2] at y2;rw [<-au.2] at y0;rw [<-bg] at y1
 have a6:=ao.1
 have cg:(tn:Int)<(v:Int):=by omega
 have bj:=au.1
 have ho:=ei.out u (by rw [<-aw.out]; exact hltu)
 obtain ⟨ou,ar⟩:=exx (o5 u)
 obtain ⟨bO,oO,cO,b7,fc,dz,dx,dw,D⟩:=(d2.out.on hB).form (by omega)
 injection b7 with b7 _ hsO3
 subst b7 hsO3
 have xo:=D u hltu 0 (by omega)
 rw [Nat.mul_one,Nat.add_zero,<-ar] at xo
 have ag:T.nm i (T.fr i j).toNat=u↔fn=ou:=by
  rw [<-bi]
  constructor
  ·intro e
   rw [ar]
   refine HP.out.nm_inj (i:=i) (by omega) _ _ (by rw [<-aw.out]; exact bj) ho.1 ?_
   rw [e,ho.2]
  ·intro e
   rw [e,ar,ho.2]
 have V:=hid ag
 have bu:=hid b5
 have ep:=hid bg
 clear ao au ag b5 bi bg ho ar bl du D C
 go_upto_region 20 with fail
 obtain ⟨OB,aj⟩:=exx ((Obj.cells #[Value.int .i64 (fn:Nat),Value.int .i64 lv,Value.int .i64 (tn:Nat)] 90))
 rw [<-aj]
 have kb:=aly wr OB
 have c0:(wr.alloc OB).cell? ⟨wr.heap.size,0,none⟩=some (.int .i64 (fn:Nat)):=by subst aj; exact tbox (Below.refl _ _) rfl
 have c1:(wr.alloc OB).cell? ⟨wr.heap.size,1,none⟩=some (.int .i64 lv):=by subst aj; exact tbox (Below.refl _ _) rfl
 have c2:(wr.alloc OB).cell? ⟨wr.heap.size,2,none⟩=some (.int .i64 (tn:Nat)):=by subst aj; exact tbox (Below.refl _ _) rfl
 obtain ⟨w4,b3⟩:=exx (wr.alloc OB)
 have cr:wr.heap.size<w4.heap.size:=by rw [b3]; simp
 have d6:Hid (∀ q,u8.ownBlock=some q->q<wr.heap.size):=fun q e=>(HV.out.next.lt q e).2
 have aa:nb<wr.heap.size:=HV.out.row.lt
 obtain ⟨pb,cl⟩:=exx wr.heap.size
 rw [<-b3] at kb c0 c1 c2 ⊢
 have hV:=HV.out.on kb
 replace hB:=onS hB kb;replace xo:=cellS kb xo;rw [<-cl] at c0 c1 c2 cr d6 aa ⊢
 have d1:Hid (nb≠pb):=by show _≠_; omega
 have es:Hid (u9.ownBlock≠some pb):=fun e=>by have:=(HV.out.edges.lt _ e).2; omega
 clear HV cl b3 aj kb y0 y1 y2 p0 p1 hW x0 e0 ds cu aa
 by_cases heq:fn=ou
 rotate_left
 ·have ah:((fn:Int) != (ou:Int))=true:=by simp; omega
  have H:¬ T.nm i (T.fr i j).toNat=u:=fun e=>heq (V.out.1 e)
  have ea:=hid (Trel.visN_neg (T:=T) H)
  have e9:=hid (Trel.visV_neg (T:=T) H)
  have ee:=hid (Trel.visE_neg (T:=T) H)
  have e8:=hid hV
  have eu:=hid hB
  clear H hV hB
  go_wp2
  go_quiet (fail)
  go_wp2
  go_roundg (gk - 1)
  case measure=>omega
  refine ⟨j+1,by go_num,by omega,by omega,?_,zac eu.out _⟩
  obtain ⟨k1,k2,k3,k4⟩:=e8.out.on (zac (Below.refl _ _) nq)
  rw [<-ea.out] at k1 k2;rw [<-e9.out,<-ee.out] at k3
  exact ⟨k1,k2,k3,k4⟩
 have ah:((fn:Int) != (ou:Int))=false:=by simp [heq]
 go_wp2
 go_quiet (fail)
 go_upto_region 21 with fail
 obtain ⟨w5,b2⟩:=exx (w4.drewN nq)
 have a5:Below w4.heap.size w4 w5:=by rw [b2]; exact zac (Below.refl _ _) _
 rw [<-b2];replace hV:=hV.on a5;replace hB:=onS hB a5;replace c1:=cellS a5 c1;replace c2:=cellS a5 c2;clear b2 a5 ah c0 xo cr
 obtain ⟨r,l,g,Q⟩:=hV
 have s:=r.cell a6
 by_cases hmem:tn ∈ T.visN i u j
 focus
  have hN:T.visN i u (j+1)=T.visN i u j:=by rw [Trel.visN_pos (V.out.2 heq),<-bu.out,if_pos hmem]
  obtain ⟨q,hq⟩:∃ q,q=(T.visN i u j).idxOf tn:=⟨_,rfl⟩
  have N:q=(T.visN i u (j+1)).idxOf tn:=by rw [hN]; exact hq
  have a8:numOf (T.visN i u j) tn=(q:Nat):=by unfold numOf; rw [if_pos hmem,hq]
  rw [a8] at s
  have f5:¬ (q:Int)<0:=by omega
  rw [<-hN] at r l
  have g:=g.congr (f':=edgeCell (T.visE i u (j+1))) fun p hp q' _=>by unfold edgeCell; rw [Trel.visE_old (V.out.2 heq) hp]
  clear hq a8 hN hmem
  obtain ⟨w6,de⟩:=exx w5
  subst de
  go_wp2
 rotate_left
 focus
  have hN:T.visN i u (j+1)=T.visN i u j ++ [tn]:=by rw [Trel.visN_pos (V.out.2 heq),<-bu.out,if_neg hmem]
  have a8:numOf (T.visN i u j) tn = -1:=by unfold numOf; rw [if_neg hmem]
  rw [a8] at s
  obtain ⟨NA,nc,e5⟩:=l.shape
  subst e5
  have O:(Value.slice NA (T.visN i u j).length nc).ownBlock≠some pb:=fun e=>Nat.lt_irrefl _ (d6.out _ e)
  have G:=zi5 hmem
  obtain ⟨NL,ak⟩:=exx ((T.visN i u j).length)
  have N:NL=(T.visN i u (j+1)).idxOf tn:=by rw [hN,List.idxOf_append,if_neg hmem,ak]; simp
  have a9:(T.visN i u (j+1)).length=NL+1:=by rw [hN,ak]; simp
  have dk:NL<=65536:=by
   have h1:(T.visN i u j).length<=v:=by
    by_cases h:(T.visN i u j).length<=v
    ·exact h
    have dj:=T.visN_nodup i u j
    have b6:∀ x,x ∈ T.visN i u j->x ∈ List.range v:=fun x hx=>by
     rw [List.mem_range,HM.out]
     exact Trel.Proper.visN_lt HP.out hlt (by rw [<-a3.out]; omega) hx
    have:=(zbP dj b6 (by simp; omega)).length_eq
    simp at this
    omega
   omega
  have l:=l.congr (f':=fun k _=>.int .i64 ((T.visN i u (j+1)).getD k 0:Nat)) fun k hk _ _=>by
   rw [hN,List.getD_eq_getElem?_getD,List.getD_eq_getElem?_getD,List.getElem?_append_left hk]
  have I:(T.visN i u (j+1)).getD NL 0=tn:=by rw [hN,ak]; simp [List.getD_eq_getElem?_getD]
  rw [<-ak] at l G Q O ⊢
  have c4:=hid O
  clear O;rw [<-hN] at G
  have g:=g.congr (f':=edgeCell (T.visE i u (j+1))) fun p hp q' _=>by unfold edgeCell; rw [Trel.visE_old (V.out.2 heq) hp]
  have z0:=r.frozen tn
  have ek:=hid a9
  have eh:=hid N
  have eq:=hid I
  have am:=hid G
  have cq:((-1:Int)<0):=by omega
  clear a9 N I hN a8 ak hmem G
  have a0:=r.set tn (.int .i64 (NL:Nat))
  have bc:=l.setCell (a:=⟨nb,tn,none⟩) Q (.int .i64 (NL:Nat))
  have bk:=g.setCell (a:=⟨nb,tn,none⟩) (zad r g (by decide)) (.int .i64 (NL:Nat))
  have a2:=hB.setCell (p:=⟨nb,tn,none⟩) (by have:=d7.out; show _<=nb; omega) (.int .i64 (NL:Nat))
  have c1s:=zaa (p:=⟨nb,tn,none⟩) (u:=.int .i64 (NL:Nat)) c1 fun e=>d1.out (by exact e.symm)
  have c2s:=zaa (p:=⟨nb,tn,none⟩) (u:=.int .i64 (NL:Nat)) c2 fun e=>d1.out (by exact e.symm)
  obtain ⟨wS,b0⟩:=exx (w5.setCell ⟨nb,tn,none⟩ (.int .i64 (NL:Nat)))
  have cy:=hid b0
  rw [<-b0] at a0 bc bk a2 c1s c2s
  have al:=hid a0
  have d5:=hid bc
  have d9:=hid bk
  have ax:=hid a2
  have C1S:=hid c1s
  clear a0 bc bk a2 c1s r l g hB c1 b0
  go_upto_region 23 with fail
  rw [<-cy.out]
  have y:=aly wS (Obj.cells #[Value.int .i64 (tn:Nat)] 3)
  have L:=hid (d5.out.on y)
  have X:=hid (onS ax.out y)
  have a4:=hid (d9.out.on y)
  have J:=hid (al.out.of_block (y.block nb al.out.lt))
  have D1:=hid (cellS y C1S.out)
  have D2:=hid (cellS y c2s)
  have HZ:Hid (wa.heap.size<=(wS.alloc (Obj.cells #[Value.int .i64 (tn:Nat)] 3)).heap.size):=X.out.size
  have HC:Hid ((wS.alloc (Obj.cells #[Value.int .i64 (tn:Nat)] 3)).cell? ((⟨wS.heap.size,0,none⟩:Addr).add 0)=some (.int .i64 ((fun k=>(((T.visN i u (j+1)).getD k 0:Nat):Int)) NL))):=by
   show _=some (Value.int .i64 (((T.visN i u (j+1)).getD NL 0:Nat):Int))
   rw [eq.out]
   exact tbox (Below.refl _ _) rfl
  have c6:Hid (NL<=1048576):=by show _<=_; omega
  clear y
  go_upto_region 24 with (first | (at_builtin; (refine za3 rfl (.tmp 87) (.tmp 90) rfl (f:=fun k=>(((T.visN i u (j+1)).getD k 0:Nat):Int)) L.out rfl (ad:=⟨wS.heap.size,0,none⟩) (c:=1) rfl HC.out HZ.out c6.out ?_); intro v8 w6 o1 o2 o3))
  have l:=o1
  rw [<-ek.out] at l
  have hB:=X.out.grown o2 HZ.out fun q e=>(Own.lt L.out q e).1
  have g:=a4.out.kept o2 (zaQ L.out a4.out (by decide))
  have r:w6.rowIs nb 3 v (fun x=>.int .i64 (numOf (T.visN i u (j+1)) x)):=(J.out.of_block (o2.block nb J.out.lt fun e=>Q e.symm)).congr fun x _=>by
   show (if x=tn then _ else _)=_
   rw [am.out x]
   by_cases e:x=tn
   ·rw [if_pos e,if_pos e]
   ·rw [if_neg e,if_neg e]
  have s:w6.cell? ⟨nb,tn,none⟩=some (.int .i64 (NL:Nat)):=by
   have:=r.cell a6
   rw [am.out tn,if_pos rfl] at this
   exact this
  have b8:=c4.out
  have c1:=zaf D1.out o2 b8
  have c2:=zaf D2.out o2 b8
  have Q:v8.ownBlock≠some nb:=by
   rcases o3 with e | e
   ·rw [e]; exact Q
   rw [e]
   intro e2
   injection e2 with e2
   have:=J.out.lt
   omega
  obtain ⟨q,hq⟩:=exx NL
  have N:=eh.out
  rw [<-hq] at N s;clear o1 o2 o3 hq b8 HC HZ L X a4 J D1 D2 al d5 d9 ax C1S cy cq z0 c2s
 rotate_left
 all_goals
  have af:=Trel.visV_len (T:=T) (i:=i) (u:=u) (j:=j) (by rw [<-a3.out]; exact hj)
  rw [<-a3.out] at af
  have HL:Hid ((T.visV i u j).length<=1048576):=by show _<=_; omega
  have ed:=hid (congrArg List.length (Trel.visV_pos (T:=T) (i:=i) (V.out.2 heq)))
  have d8:=hid (Trel.visE_last (T:=T) (i:=i) (V.out.2 heq))
  rw [<-ep.out,<-bu.out,<-N] at d8
  have em:=hid Q
  have da:Hid (u9.ownBlock≠some pb):=es.out
  clear af Q N
  refine wp_region_held_drew (S:=fun w'=>w'.cell? ⟨pb,1,none⟩=some (.int .i64 lv)/\w'.cell? ⟨pb,2,none⟩=some (.int .i64 (tn:Nat))/\w'.cell? ⟨nb,tn,none⟩=some (.int .i64 (q:Nat))) (by kernel_rfl) ⟨cellS (Below.refl _ _).drew c1,cellS (Below.refl _ _).drew c2,cellS (Below.refl _ _).drew s⟩ (fun hHeld=>?_)
  obtain ⟨w7,hw,kb⟩:=dwx w6
  rw [<-hw] at hHeld ⊢;clear hw;replace r:=zab r kb;replace hB:=onS hB kb;replace c1:=cellS kb c1;replace c2:=cellS kb c2;replace s:=cellS kb s;replace l:=l.on kb;replace g:=g.on kb;clear kb
  refine tkq 0 (h:=tkq 1 (h:=tkq 2 (h:=tkq 3 (h:=tkq 4 (h:=tkq 5 (h:=tkq 6 (h:=tkq 7 (h:=tkq 8 (h:=tkq 9 (h:=?_))))))))))
  refine rdq 10 (h:=fun K hK=>?_)
  go_simp
  obtain ⟨w8,hw⟩:=exx (World.alloc w7 (Obj.cells #[Value.int .i64 (u:Nat),Value.int .i64 lv,Value.int .i64 (q:Nat)] 90))
  have kb:=alx hw
  have HC:Hid (∀ j',j'<3->w8.cell? ((⟨w7.heap.size,0,none⟩:Addr).add j')=some (edgeCell (T.visE i u (j+1)) (T.visV i u j).length j')):=fun j' hj'=>by
   unfold edgeCell
   rw [hw,d8.out]
   match j',hj' with
   | 0,_=>exact tbox (Below.refl _ _) rfl
   | 1,_=>exact tbox (Below.refl _ _) rfl
   | 2,_=>exact tbox (Below.refl _ _) rfl
  rw [<-hw];clear hw
  obtain ⟨xb,cc⟩:=exx w7.heap.size
  rw [<-cc] at HC ⊢;clear cc;replace r:=zab r kb;replace hB:=onS hB kb;replace c1:=cellS kb c1;replace c2:=cellS kb c2;replace s:=cellS kb s;replace l:=l.on kb;replace g:=g.on kb;clear kb
  refine bkq hK ⟨c1,c2,s⟩ (h:=fun hHeld=>?_)
  clear hK K
  refine rdq 11 (h:=fun K hK=>?_)
  refine zaZ (by rfl) (.tmp 92) (.tmp 102) (by rfl) g (by rfl) (ad:=⟨xb,0,none⟩) (c:=1) (by rfl) HC.out hB.size HL.out ?_
  intro v9 w9 o1 o2 o3
  have bd:u9.ownBlock≠some nb:=zad r g (by decide)
  replace r:=r.of_block (o2.block nb r.lt fun e=>bd e.symm)
  replace l:=l.kept o2 (zaQ g l (by decide))
  have cv:=hB.grown o2 hB.size fun q e=>(Own.lt g q e).1
  replace c1:=zaf c1 o2 da.out;replace c2:=zaf c2 o2 da.out;replace s:=zaf s o2 bd;clear hB g o2 o3 bd HC
  refine bkq hK ⟨c1,c2,s⟩ (h:=fun hHeld=>?_)
  clear hK K
  refine tkq 12 (h:=?_)
  refine wpAnyH_done (by kernel_rfl) ?_ _
  clear hHeld
  have eg:=hid r
  have en:=hid l
  have ex:=hid cv
  have et:=hid o1
  clear r l cv o1 c1 c2 s
  go_wp2
  go_roundg (gk - 1)
  case measure=>omega
  refine ⟨j+1,by go_num,by omega,by omega,⟨eg.out,en.out,?_,em.out⟩,ex.out⟩
  have h9:=et.out
  have h8:=ed.out
  rw [List.length_append,List.length_singleton] at h8;rw [h8]
  exact h9
def Says (p:Prop) (w:World) (e:Ending) (w':World):Prop:=∃ b:Bool,e=.returned (.bool b)/\(b=true↔p)/\Below w.heap.size w w'
theorem Says.yes {p:Prop} {w w':World} (h:p) (hb:Below w.heap.size w w'):Says p w (.returned (.bool true)) w':=⟨true,rfl,by simpa using h,hb⟩
theorem Says.no {p:Prop} {w w':World} (h:¬ p) (hb:Below w.heap.size w w'):Says p w (.returned (.bool false)) w':=⟨false,rfl,by simpa using h,hb⟩
theorem zib (A B:Option Addr) (n m c d:Nat) (f g:Nat->Int) (w:World) (ha:IntsR w w.heap.size A n f) (hb:IntsR w w.heap.size B m g) (hn:n<=140737488351232) (hm:m<=140737488351232) :
  Calls Tryz.prog 24 #[.slice A n c,.slice B m d] w (Says (EqRow n m f g) w):=by
 go_enter Tryz.func24, Tryz.ntmps24
 go_wp2_with fail
 refine (zeO A B n m c d f g w ha hb hn hm).mono ?_
 rintro e w1 ⟨r,rfl,hr,a⟩
 by_cases h0:r=0
 ·have hc:(r == 0)=true:=by simp [h0]
  go_wp2
  go_ret
  exact Says.yes (hr.1 h0) a
 have hc:(r == 0)=false:=by simp [h0]
 go_wp2
 go_ret
 exact Says.no (fun h=>h0 (hr.2 h)) a
theorem neqEdge (a0 a1 a2 b0 b1 b2:Int) (w:World):(binOp .neq 90 (.agg #[.int .i64 a0,.int .i64 a1,.int .i64 a2]) (.agg #[.int .i64 b0,.int .i64 b1,.int .i64 b2])).run Tryz.prog w=.ok (.bool (!decide (a0=b0/\a1=b1/\a2=b2))) w:=by
 have u3:=Tryz.underlying3
 have hS:Tryz.prog.underlying 90 = some (.struct (Tryz.prog.fieldsOf 90)):=by kernel_rfl
 have hp:Tryz.prog.stoodInHeld 90 = false:=by kernel_rfl
 rw [run_neq_struct,show (10000:Nat)=9999+1 from rfl,run_equalIn_agg w 9999 90 _ _ hS hp]
 simp only [Program.fieldsOf,Tryz.underlying90]
 go_simp
 by_cases h1:a0=b0 <;> by_cases h2:a1=b1 <;> by_cases h3:a2=b2 <;> simp [h1,h2,h3]
theorem guardEdge:Tryz.prog.eqGuardType Tryz.prog.depth 90 = false:=by kernel_rfl
def EqEdges (n m:Nat) (x y:Nat->Int × Int × Int):Prop:=n=m/\∀ i,i<n->x i=y i
theorem zej (A B:Option Addr) (n m c d:Nat) (x y:Nat->Int × Int × Int) (w:World) (ha:Rd w w.heap.size A n 3 (edgeCell x)) (hb:Rd w w.heap.size B m 3 (edgeCell y)) (hn:n<=140737488351232) :
  Calls Tryz.prog 94 #[.slice A n c,.slice B m d] w (Says (EqEdges n m x y) w):=by
 have HA:=hid ha
 have HB:=hid hb
 clear ha hb
 go_enter Tryz.func94, Tryz.ntmps94
 by_cases hnm:n=m
 rotate_left
 ·have hc:((n:Int) != (m:Int))=true:=by simp; omega
  go_wp2
  go_ret
  exact Says.no (fun h=>hnm h.1) (Below.refl _ _)
 subst hnm
 have hc:((n:Int) != (n:Int))=false:=by simp
 go_wp2
 go_loopg [13] n (fun gg iv wx=>∃ k:Nat,iv=.int .i64 (k:Nat)/\k<=n/\n<=k+gg/\(∀ i,i<k->x i=y i)/\Below w.heap.size w wx)
 case atStart=>exact ⟨0,rfl,by omega,by omega,fun i hi=>absurd hi (by omega),Below.refl _ _⟩
 obtain ⟨k,rfl,hk,p,l,hW⟩:=hrel
 have q:(0:Int)<=(k:Int):=by omega
 have o:=hid l
 clear l
 by_cases hlt:k<n
 rotate_left
 ·have g:¬ (k:Int)<(n:Int):=by omega
  go_wp2
  go_ret
  exact Says.yes ⟨rfl,fun i hi=>o.out i (by omega)⟩ hW
 have g:(k:Int)<(n:Int):=by omega
 obtain ⟨ab,ao,rfl,t,x0,x1,x2⟩:=Rd.at3 ((Rd.below HA.out hW (Nat.le_refl _)).mono hW.size) hlt
 obtain ⟨bb,bo,rfl,s,y0,y1,y2⟩:=Rd.at3 ((Rd.below HB.out hW (Nat.le_refl _)).mono hW.size) hlt
 change wr.cell? _=some (.int .i64 (x k).1) at x0
 change wr.cell? _=some (.int .i64 (x k).2.1) at x1
 change wr.cell? _=some (.int .i64 (x k).2.2) at x2
 change wr.cell? _=some (.int .i64 (y k).1) at y0
 change wr.cell? _=some (.int .i64 (y k).2.1) at y1
 change wr.cell? _=some (.int .i64 (y k).2.2) at y2
 have b:Hid (x k=y k↔(x k).1=(y k).1/\(x k).2.1=(y k).2.1/\(x k).2.2=(y k).2.2):=by
  show _↔_
  constructor
  ·intro e; rw [e]; exact ⟨rfl,rfl,rfl⟩
  ·rintro ⟨e1,e2,e3⟩
   exact Prod.ext e1 (Prod.ext e2 e3)
 generalize (x k).1=a0 at *
 generalize (x k).2.1=a1 at *
 generalize (x k).2.2=a2 at *
 generalize (y k).1=b0 at *
 generalize (y k).2.1=b1 at *
 generalize (y k).2.2=b2 at *
 have j:=fun W=>neqEdge a0 a1 a2 b0 b1 b2 W
 have r:=guardEdge
 by_cases h1:a0=b0/\a1=b1/\a2=b2
 ·have hq:=b.out.2 h1
  have HQ:=hid hq
  have a:decide (a0=b0/\a1=b1/\a2=b2)=true:=decide_eq_true h1
  rw [a] at j;clear hq b h1 a
  go_wp2
  go_quiet (fail)
  go_wp2
  go_roundg (gk - 1)
  case measure=>omega
  refine ⟨k+1,by go_num,by omega,by omega,fun i hi=>?_,zac hW _⟩
  by_cases e:i=k
  ·subst e; exact HQ.out
  ·exact o.out i (by omega)
 have hq:¬ x k=y k:=fun e=>h1 (b.out.1 e)
 have HQ:=hid hq
 have a:decide (a0=b0/\a1=b1/\a2=b2)=false:=decide_eq_false h1
 rw [a] at j;clear hq b h1 a
 go_wp2
 go_quiet (fail)
 go_wp2
 go_ret
 exact Says.no (fun h=>HQ.out (h.2 k hlt)) (zac hW _)
def Trel.ed (T:Trel) (i j:Nat):Int × Int × Int:=(T.fr i j,T.lb i j,T.to i j)
def EqSecs (T U:Trel):Prop:=T.n=U.n/\∀ i,i<T.n->EqEdges (T.el i) (U.el i) (T.ed i) (U.ed i)
def SameT (T U:Trel):Prop:=EqRow T.nw U.nw T.W U.W/\EqSecs T U
theorem Trel.Reads.sec' {T:Trel} {w:World} {A B:Option Addr} (h:T.Reads w A B) {i:Nat} (hi:i<T.n):∃ b off E c,B=some ⟨b,off,none⟩/\b<w.heap.size/\w.cell? ⟨b,off+i,none⟩=some (.slice E (T.el i) c)/\Rd w w.heap.size E (T.el i) 3 (edgeCell (T.ed i)):=by
 obtain ⟨b,off,E,c,e,h1,h2,_,_,h3,_⟩:=h.sec hi
 exact ⟨b,off,E,c,e,h1,h2,h3⟩
theorem zjD (T U:Trel) (A B A' B':Option Addr) (d d':Nat) (w:World) (hT:T.Reads w A B) (hU:U.Reads w A' B') :
  Calls Tryz.prog 93 #[.slice B T.n d,.slice B' U.n d',.func (.func 94) #[] #[]] w (Says (EqSecs T U) w):=by
 have HT:=hid hT
 have HU:=hid hU
 have hn:=hT.2.2.2.2.1
 have u:∀ args w,(callFunc 94 args).run Tryz.prog w=.ok (.enter 94 args) w:=enters_of Tryz.func94 (by kernel_rfl) rfl
 clear hT hU
 go_enter Tryz.func93, Tryz.ntmps93
 by_cases hnm:T.n=U.n
 rotate_left
 ·have hc:((T.n:Int) != (U.n:Int))=true:=by simp; omega
  go_wp2
  go_ret
  exact Says.no (fun h=>hnm h.1) (Below.refl _ _)
 have p:=hid hnm
 rw [<-hnm];clear hnm
 have hc:((T.n:Int) != (T.n:Int))=false:=by simp
 go_wp2
 go_loopg [17] T.n (fun gg iv wx=>∃ k:Nat,iv=.int .i64 (k:Nat)/\k<=T.n/\T.n<=k+gg/\(∀ i,i<k->EqEdges (T.el i) (U.el i) (T.ed i) (U.ed i))/\Below w.heap.size w wx)
 case atStart=>exact ⟨0,rfl,by omega,by omega,fun i hi=>absurd hi (by omega),Below.refl _ _⟩
 obtain ⟨k,rfl,hk,s,j,hW⟩:=hrel
 have t:(0:Int)<=(k:Int):=by omega
 have q:=hid j
 clear j
 by_cases hlt:k<T.n
 rotate_left
 ·have g:¬ (k:Int)<(T.n:Int):=by omega
  go_wp2
  go_ret
  exact Says.yes ⟨p.out,fun i hi=>q.out i (by omega)⟩ hW
 have g:(k:Int)<(T.n:Int):=by omega
 obtain ⟨ab,ao,E,ec,rfl,x,x0,x1⟩:=(HT.out.on hW).sec' hlt
 obtain ⟨bb,bo,F,fc,rfl,v,y0,y1⟩:=(HU.out.on hW).sec' (by rw [<-p.out]; exact hlt)
 have l:=HT.out.2.2.2.2.2 k hlt
 obtain ⟨el,c⟩:=exx (T.el k)
 obtain ⟨fl,a⟩:=exx (U.el k)
 have HE:=hid c
 have HF:=hid a
 rw [<-c] at x0 x1 l;rw [<-a] at y0 y1;clear c a
 go_wp2_with fail
 refine (zej E F el fl ec fc (T.ed k) (U.ed k) wr x1 y1 l).mono ?_
 rintro e w1 ⟨b,rfl,hb,m⟩
 have o:=onS hW m
 cases b
 ·go_wp2
  go_ret
  exact Says.no (fun h=>absurd (hb.2 (by rw [HE.out,HF.out]; exact h.2 k hlt)) (by decide)) o
 have r:Hid (EqEdges (T.el k) (U.el k) (T.ed k) (U.ed k)):=by rw [<-HE.out,<-HF.out]; exact hb.1 rfl
 clear hb m x0 x1 y0 y1
 go_wp2
 go_roundg (gk - 1)
 case measure=>omega
 refine ⟨k+1,by go_num,by omega,by omega,fun i hi=>?_,o⟩
 by_cases e:i=k
 ·subst e; exact r.out
 ·exact q.out i (by omega)
theorem zeZ (T U:Trel) (A B A' B':Option Addr) (c d c' d':Nat) (w:World) (hT:T.Reads w A B) (hU:U.Reads w A' B') :
  Calls Tryz.prog 34 #[.agg #[.slice A T.nw c,.slice B T.n d],.agg #[.slice A' U.nw c',.slice B' U.n d']] w (Says (SameT T U) w):=by
 obtain ⟨R1,y⟩:=exx ((Obj.cells #[.slice A T.nw c,.slice B T.n d] 53))
 obtain ⟨R2,x⟩:=exx ((Obj.cells #[.slice A' U.nw c',.slice B' U.n d'] 53))
 have C:Below (w.heap.size+2) ((w.alloc R1).alloc R2) ((w.alloc R1).alloc R2):=Below.refl _ _
 have HS:Hid (∀ w',Below (w.heap.size+2) ((w.alloc R1).alloc R2) w'->(w'.cell? ⟨w.heap.size,0,none⟩=some (.slice A T.nw c)/\w'.cell? ⟨w.heap.size,1,none⟩=some (.slice B T.n d)/\w'.cell? ⟨w.heap.size+1,0,none⟩=some (.slice A' U.nw c')/\w'.cell? ⟨w.heap.size+1,1,none⟩=some (.slice B' U.n d'))/\Below w.heap.size w w'):=fun w' hB=>by
  have k1:=zjP hB
  have k2:w'.rowIs (w.heap.size+1) 53 2 (fun i=>(#[Value.slice A' U.nw c',.slice B' U.n d']:Array Value).getD i undef):=by subst x; exact ze7 hB
  have R:=zaJ k1
  subst y
  exact ⟨⟨tbox k1 rfl,tbox k1 rfl,k2.cell (i:=0) (by omega),k2.cell (i:=1) (by omega)⟩,R⟩
 have HT:=hid hT
 have HU:=hid hU
 have hn:=hT.2.2.2.2.1
 have N:=hT.2.2.2.1
 have u:=hU.2.2.2.1
 clear hT hU
 obtain ⟨⟨p0,p1,p2,p3⟩,hW⟩:=HS.out _ C
 go_enter Tryz.func34, Tryz.ntmps34
 go_wp2_with fail
 rw [<-y,<-x]
 refine (zib A A' T.nw U.nw c c' T.W U.W _ (HT.out.on hW).1 (HU.out.on hW).1 N u).mono ?_
 rintro e w1 ⟨b,rfl,hb,H⟩
 have z:=C.trans (H.mono (by simp))
 have K:=hid hb
 clear hW p0 p1 p2 p3 C hb H y x
 obtain ⟨⟨p0,p1,p2,p3⟩,hW⟩:=HS.out _ z
 cases b
 ·go_wp2
  go_ret
  exact Says.no (fun h=>absurd (K.out.2 h.1) (by decide)) hW
 by_cases hnm:T.n=U.n
 rotate_left
 ·have hc:((T.n:Int) != (U.n:Int))=true:=by simp; omega
  go_wp2
  go_ret
  exact Says.no (fun h=>hnm h.2.1) hW
 have s:=hid hnm
 rw [<-hnm] at p3 ⊢;clear hnm
 have hc:((T.n:Int) != (T.n:Int))=false:=by simp
 go_wp2
 go_loopg [5] T.n (fun gg iv wx=>∃ i:Nat,iv=.int .i64 (i:Nat)/\i<=T.n/\T.n<=i+gg/\(∀ k,k<i->EqEdges (T.el k) (U.el k) (T.ed k) (U.ed k))/\Below (w.heap.size+2) ((w.alloc R1).alloc R2) wx)
 case atStart=>exact ⟨0,rfl,by omega,by omega,fun i hi=>absurd hi (by omega),z⟩
 clear p0 p1 p2 p3 hW z
 obtain ⟨gI,O⟩:=exx gk
 subst O
 obtain ⟨i,rfl,hi,a4,m,hB⟩:=hrel
 have a5:(0:Int)<=(i:Int):=by omega
 have L:=hid m
 clear m
 obtain ⟨⟨p0,p1,p2,p3⟩,hW⟩:=HS.out _ hB
 rw [<-s.out] at p3
 by_cases hlt:i<T.n
 rotate_left
 ·have v:¬ (i:Int)<(T.n:Int):=by omega
  go_wp2
  go_ret
  exact Says.yes ⟨K.out.1 (by first | rfl | trivial),s.out,fun k hk=>L.out k (by omega)⟩ hW
 have v:(i:Int)<(T.n:Int):=by omega
 obtain ⟨ab,ao,E,ec,rfl,I,x0,x1⟩:=HT.out.sec' hlt
 obtain ⟨bb,bo,F,fc,rfl,G,y0,y1⟩:=HU.out.sec' (by rw [<-s.out]; exact hlt)
 have P:=HT.out.2.2.2.2.2 i hlt
 obtain ⟨el,g⟩:=exx (T.el i)
 obtain ⟨fl,a⟩:=exx (U.el i)
 have HE:=hid g
 have HF:=hid a
 rw [<-g] at x0 x1 P;rw [<-a] at y0 y1
 have X:=hid x1
 have S:=hid y1
 have Y:=hid x0
 have V:=hid y0
 have xr:=(hW.cell (p:=⟨ab,ao+i,none⟩) I).trans x0
 have yr:=(hW.cell (p:=⟨bb,bo+i,none⟩) G).trans y0
 clear g a x0 x1 y0 y1
 by_cases hlen:el=fl
 rotate_left
 ·have Q:((el:Int) != (fl:Int))=true:=by simp; omega
  go_wp2
  go_quiet (fail)
  go_wp2
  go_ret
  exact Says.no (fun h=>hlen (by rw [HE.out,HF.out]; exact (h.2.2 i hlt).1)) (zac hW _)
 subst hlen
 have Q:((el:Int) != (el:Int))=false:=by simp
 go_wp2
 go_quiet (fail)
 have HB:=hid (zac hB nq)
 have J:=HB.out
 clear hB hW p0 p1 p2 p3 xr yr
 go_wp2
 go_loopg [6] el (fun gg jv wx=>∃ j:Nat,jv=.int .i64 (j:Nat)/\j<=el/\el<=j+gg/\(∀ k,k<j->T.ed i k=U.ed i k)/\Below (w.heap.size+2) ((w.alloc R1).alloc R2) wx)
 case atStart=>exact ⟨0,rfl,by omega,by omega,fun i hi=>absurd hi (by omega),J⟩
 clear J HB
 obtain ⟨j,rfl,hj,Z,m,hB⟩:=hrel
 have a3:(0:Int)<=(j:Int):=by omega
 have M:=hid m
 clear m
 obtain ⟨⟨p0,p1,p2,p3⟩,hW⟩:=HS.out _ hB
 rw [<-s.out] at p3
 have xr:=(hW.cell (p:=⟨ab,ao+i,none⟩) I).trans Y.out
 have yr:=(hW.cell (p:=⟨bb,bo+i,none⟩) G).trans V.out
 by_cases hltj:j<el
 rotate_left
 ·have l:¬ (j:Int)<(el:Int):=by omega
  go_wp2
  go_roundg (gI - 1)
  case measure=>omega
  refine ⟨i+1,by go_num,by omega,by omega,fun k hk=>?_,hB⟩
  by_cases e:k=i
  ·subst e; exact ⟨by rw [<-HE.out,<-HF.out],fun q hq=>M.out q (by rw [<-HE.out] at hq; omega)⟩
  ·exact L.out k (by omega)
 have l:(j:Int)<(el:Int):=by omega
 obtain ⟨cb,co,rfl,a8,x0,x1,x2⟩:=Rd.at3 ((Rd.below X.out hW (Nat.le_refl _)).mono hW.size) hltj
 obtain ⟨db,dof,rfl,a7,y0,y1,y2⟩:=Rd.at3 ((Rd.below S.out hW (Nat.le_refl _)).mono hW.size) hltj
 change wr.cell? _=some (.int .i64 (T.ed i j).1) at x0
 change wr.cell? _=some (.int .i64 (T.ed i j).2.1) at x1
 change wr.cell? _=some (.int .i64 (T.ed i j).2.2) at x2
 change wr.cell? _=some (.int .i64 (U.ed i j).1) at y0
 change wr.cell? _=some (.int .i64 (U.ed i j).2.1) at y1
 change wr.cell? _=some (.int .i64 (U.ed i j).2.2) at y2
 have r:Hid (T.ed i j=U.ed i j↔(T.ed i j).1=(U.ed i j).1/\(T.ed i j).2.1=(U.ed i j).2.1/\(T.ed i j).2.2=(U.ed i j).2.2):=by
  show _↔_
  constructor
  ·intro e; rw [e]; exact ⟨rfl,rfl,rfl⟩
  ·rintro ⟨e1,e2,e3⟩
   exact Prod.ext e1 (Prod.ext e2 e3)
 generalize (T.ed i j).1=a0 at *
 generalize (T.ed i j).2.1=a1 at *
 generalize (T.ed i j).2.2=a2 at *
 generalize (U.ed i j).1=b0 at *
 generalize (U.ed i j).2.1=b1 at *
 generalize (U.ed i j).2.2=b2 at *
 have D:=fun W=>neqEdge a0 a1 a2 b0 b1 b2 W
 have a6:=guardEdge
 by_cases h1:a0=b0/\a1=b1/\a2=b2
 ·have HQ:=hid (r.out.2 h1)
  have o:decide (a0=b0/\a1=b1/\a2=b2)=true:=decide_eq_true h1
  rw [o] at D;clear r h1 o
  go_wp2
  go_quiet (fail)
  go_wp2
  go_roundg (gk - 1)
  case measure=>omega
  refine ⟨j+1,by go_num,by omega,by omega,fun k hk=>?_,zac hB _⟩
  by_cases e:k=j
  ·subst e; exact HQ.out
  ·exact M.out k (by omega)
 have HQ:Hid (¬ T.ed i j=U.ed i j):=fun e=>h1 (r.out.1 e)
 have o:decide (a0=b0/\a1=b1/\a2=b2)=false:=decide_eq_false h1
 rw [o] at D;clear r h1 o
 go_wp2
 go_quiet (fail)
 go_wp2
 go_ret
 exact Says.no (fun h=>HQ.out ((h.2.2 i hlt).2 j (by rw [<-HE.out]; exact hltj))) (zac hW _)
open Go.ChangeShapes Go.WideShapes Go.ChangeAt
theorem zlg {P M N n k:Nat} {f:Nat->Int} {V:Nat->Nat->Int} {pv:Nat->Nat} {R:Nat->Nat->Nat} (hL:FieldLaws (P ^ M) (addF P M) (mulF P M fun i=>(f i).toNat)) (hSF:SpanF (P ^ M) n N pv R) (hV:∀ i,i<n->∀ j,j<N->natT V i j<P ^ M)
  (hSP:SameSp (P ^ M) (addF P M) (mulF P M fun i=>(f i).toNat) N n n (natT V) R) (hDI:∀ i j,i<j->j<n->lE (R i) N≠lE (R j) N) (hSI:SizeIn (P ^ M) n N pv R):¬ BigC (P:Int) (M:Int) k f (N:Int) n V:=by
 rintro ⟨P2,M2,N2,e1,e2,e3,pr,se,hp,hs,h3⟩
 obtain rfl:P=P2:=by omega
 obtain rfl:M=M2:=by omega
 obtain rfl:N=N2:=by omega
 exact h3 ((zh1 hL hSF hV hSP hDI hp hs).2 hSI)
theorem zkv {T U:Trel} {y z:Nat->Nat->Int × Int × Int} (hn:U.n=T.n) (hnw:U.nw=T.nw) (hT:T.nw=T.n+1) (hw:∀ i,i<=T.n->U.W i=T.W i) (he:∀ i,i<T.n->U.el i=T.el i) (hy:IsRen T y) (hz:IsRen T z):SameT (T.re y) (U.re z) :=
 ⟨⟨hnw.symm,fun i hi=>(hw i (by have hi:i<T.nw:=hi; omega)).symm⟩,hn.symm,fun i hi=>⟨(he i hi).symm,fun j hj=>SecRen.unique (hy i hi) (hz i hi) hj⟩⟩
theorem zcJ (P M:Int) (A:Option Addr) (k c:Nat) (f:Nat->Int) (N:Int) (TC:Option Addr) (n d:Nat) (ln:Nat->Nat) (V:Nat->Nat->Int) (w:World) (hr:IntsR w w.heap.size A k f) (h:IntRows w TC n ln V) (hkc:k<=c) :
  Calls Tryz.prog 9 #[.agg #[.int .i64 P,.int .i64 M,.slice A k c,.int .i64 N,.slice TC n d]] w fun e w'=>e=.returned (.bool true)/\Below w.heap.size w w':=by
 have HI:=hid hr
 have HT:=hid h
 clear hr h
 obtain ⟨w1,a5,hB,rf⟩:=zaE w (.int .i64 P) (.int .i64 M) (.slice A k c) (.int .i64 N) (.slice TC n d) 27
 go_enter Tryz.func9, Tryz.ntmps9
 go_upto_region 1 with fail
 rw [<-a5];clear a5
 obtain ⟨b0,Y⟩:=exx w.heap.size
 rw [<-Y] at rf;rw [<-Y];clear Y
 have l:Hid (∀ X,Below w1.heap.size w1 X->(X.cell? ⟨b0,0,none⟩=some (.int .i64 P)/\X.cell? ⟨b0,1,none⟩=some (.int .i64 M)/\X.cell? ⟨b0,2,none⟩=some (.slice A k c)/\X.cell? ⟨b0,3,none⟩=some (.int .i64 N)/\X.cell? ⟨b0,4,none⟩=some (.slice TC n d))):=hid fun X hx =>
  ⟨(zab rf hx).cell (i:=0) (by omega),(zab rf hx).cell (i:=1) (by omega),(zab rf hx).cell (i:=2) (by omega),(zab rf hx).cell (i:=3) (by omega),(zab rf hx).cell (i:=4) (by omega)⟩
 have HB:=hid hB
 clear hB rf
 obtain ⟨q0,q1,q2,q3,q4⟩:=l.out _ (Below.refl _ _)
 go_wp2_with fail
 refine (zgH P M A k c f N TC n d ln V w1 (HI.out.on HB.out) (HT.out.on HB.out)).mono ?_
 rintro e w2 ⟨kb,b,rfl,a6⟩
 have G:=hid a6
 have KB:=hid kb
 clear kb a6 q0 q1 q2 q3 q4
 cases b with
 | false =>
  go_wp2_with fail
  refine (zdJ _).mono ?_
  rintro e w3 ⟨rfl,kb⟩
  go_wp2
  go_ret
  exact ⟨rfl,onS HB.out (onS KB.out kb)⟩
 | true =>
  obtain ⟨q0,q1,q2,q3,q4⟩:=l.out _ KB.out
  go_wp2_with fail
  refine (zgG P M A k c f N TC n d ln V w2 (HI.out.on (onS HB.out KB.out)) (HT.out.on (onS HB.out KB.out))).mono ?_
  rintro e w4 j
  have kb:=j.1
  have s:∃ (GA HA:Option Addr) (gn gc hn hc:Nat) (ev:Int),e=.returned (.tuple #[.agg #[.slice GA gn gc,.slice HA hn hc],.int .i64 ev]):=by
   rcases j.2 with ⟨u,_,⟨_,h⟩ | ⟨_,P',M',N',_,_,_,pv,R,_,_,_,⟨_,h⟩ | ⟨_,T,y,A,B,c,d,_,_,_,_,h⟩⟩⟩ <;> exact ⟨_,_,_,_,_,_,_,h⟩
  obtain ⟨GA,HA,gn,gc,hn,hc,ev,rfl⟩:=s
  have HM:=hid j
  have K4:=hid (onS KB.out kb)
  clear kb j q0 q1 q2 q3 q4
  go_upto_region 4 with fail
  have rt:(w4.alloc (Obj.cells #[.slice GA gn gc,.slice HA hn hc] 53)).rowIs w4.heap.size 53 2 (matCell (.slice GA gn gc) (.slice HA hn hc)):=zai
  have kb:=aly w4 (Obj.cells #[.slice GA gn gc,.slice HA hn hc] 53)
  obtain ⟨w5,a0⟩:=exx (w4.alloc (Obj.cells #[.slice GA gn gc,.slice HA hn hc] 53))
  rw [<-a0] at rt kb ⊢;clear a0
  obtain ⟨b1,aa⟩:=exx w4.heap.size
  rw [<-aa] at rt ⊢;clear aa
  have ai:Hid (∀ X,Below w5.heap.size w5 X->X.cell? ⟨b1,0,none⟩=some (.slice GA gn gc)/\X.cell? ⟨b1,1,none⟩=some (.slice HA hn hc)):=hid fun X hx=>⟨(zab rt hx).cell (i:=0) (by omega),(zab rt hx).cell (i:=1) (by omega)⟩
  have K5:=hid kb
  replace KB:=hid (onS K4.out kb);clear rt kb K4
  obtain ⟨q0,q1,q2,q3,q4⟩:=l.out _ KB.out
  go_wp2_with fail
  refine (zeV P M A k c f N TC n d ln V w5 (HI.out.on (onS HB.out KB.out)) (HT.out.on (onS HB.out KB.out))).mono ?_
  rintro e w6 q
  obtain ⟨x,v,rfl,g⟩:=zkt HI.out HT.out HM.out q
  have am:v=ev:=by
   rcases g with ⟨_,he⟩ | ⟨h0,_,P',M',N',_,_,_,pv,R,_,_,_,_,T,y,A,B,c,d,_,_,_,_,he⟩
   ·simp at he; exact he.2.symm
   ·simp at he; rw [h0,he.2]
  subst am
  have K6:=hid q.1
  replace KB:=hid (onS KB.out q.1)
  have m:=hid g
  clear g q q0 q1 q2 q3 q4 HM
  have aw:(v != v)=false:=by simp
  go_wp2_with fail
  refine (zdJ _).mono ?_
  rintro e w7 ⟨rfl,kb⟩
  replace K6:=hid (onS K6.out kb);replace KB:=hid (onS KB.out kb);clear kb
  rcases m.out with ⟨h0,he⟩ | ⟨h0,L,P',M',N',rfl,rfl,rfl,pv,R,J,I,O,ae,T,y,WA,WB,wc,wd,p,D,C,E,he⟩
  ·have ax:(v != 0)=true:=by simpa using h0
   have W:((GA=none/\gn=0/\gc=0)/\HA=none/\hn=0/\hc=0):=by simpa using he
   obtain ⟨⟨rfl,rfl,rfl⟩,rfl,rfl,rfl⟩:=W
   obtain ⟨t0,t1⟩:=ai.out _ K6.out
   go_wp2
   go_ret
   exact ⟨rfl,onS HB.out KB.out⟩
  ·subst h0
   have W:((GA=WA/\gn=T.nw/\gc=wc)/\HA=WB/\hn=T.n/\hc=wd):=by simpa using he
   obtain ⟨⟨rfl,rfl,rfl⟩,rfl,rfl,rfl⟩:=W
   obtain ⟨P2,M2,N2,e1,e2,e3,hC⟩:=zbM HI.out HT.out L
   obtain rfl:P'=P2:=by omega
   obtain rfl:M'=M2:=by omega
   obtain rfl:N'=N2:=by omega
   have hL:=fieldLaws hC.fld
   have o:∀ x,x<P' ^ M'->negF P' M' x<P' ^ M'/\addF P' M' x (negF P' M' x)=0:=fun x _=>⟨zby (by have:=hC.fld.1.1; omega),zbq (by have:=hC.fld.1.1; omega)⟩
   have q:(P' ^ M') ^ n<=1024:=by
    rcases G.out (by simp) with h1 | h1 | h1
    ·exact absurd L h1
    ·simpa using h1
    ·exact absurd h1 (zlg hL J hC.lt I O ae)
   have HC:=hid hC
   have au:=hid L
   have ao:Hid (∀ a H,NullRel (P' ^ M') (addF P' M') (mulF P' M' fun i=>(f i).toNat) (negF P' M') n N' (natT V) a H->IsTr (P' ^ M') a (addF P' M') (mulF P' M' fun i=>(f i).toNat) H (T.re y) n):=hid fun a H hrel=>zlw hL o hC.rref hrel I J O p D C
   have ar:Hid (∀ r H St Tr,NullRel (P' ^ M') (addF P' M') (mulF P' M' fun i=>(f i).toNat) (negF P' M') n N' (natT V) r H->FsRel r ((P' ^ M') ^ n) (fun t i=>keyS r (syP P' M' (fun i=>(f i).toNat) (spE (addF P' M') (mulF P' M' fun i=>(f i).toNat) (natT V) (msgD (P' ^ M') n t) n) H i)) (fun t=>spE (addF P' M') (mulF P' M' fun i=>(f i).toNat) (natT V) (msgD (P' ^ M') n t) n) N' St Tr ->
     (fsT N' St Tr).Proper/\∀ z,IsRen (fsT N' St Tr) z->SameT (T.re y) ((fsT N' St Tr).re z)):=hid fun r H St Tr hrel hfs=>by
    obtain ⟨a1,a2,a3,a4⟩:=zlv hL o hC.rref hrel I J O p D hfs
    have ab:=p.nN
    exact ⟨a1,fun z hz=>zkv (U:=fsT N' St Tr) ab.symm (by show N'+1=T.nw; rw [p.nw]) (by rw [p.nw,ab]) (fun i hi=>a2 i (by omega)) (fun i hi=>a3 i (by omega)) C (a4 z hz)⟩
   have aq:Hid (T.re y).Proper:=hid (IsRen.proper D C)
   have aj:=hid (E.reads D C)
   have ac:(T.re y).n=N':=p.nN
   have ap:=hid ac
   have ay:((0:Int) != 0)=false:=by simp
   have av:((0:Int) == 0)=true:=by simp
   clear L J I O ae p D C E hC hL o e1 e2 e3 ac he m G
   go_upto_region 9 with fail
   have F:Hid (∀ X,Below w7.heap.size w7 X->(X.cell? ⟨b0,0,none⟩=some (.int .i64 (P':Nat))/\X.cell? ⟨b0,1,none⟩=some (.int .i64 (M':Nat))/\X.cell? ⟨b0,2,none⟩=some (.slice A k c)/\X.cell? ⟨b0,3,none⟩=some (.int .i64 (N':Nat))/\X.cell? ⟨b0,4,none⟩=some (.slice TC n d))/\X.cell? ⟨b1,0,none⟩=some (.slice GA T.nw gc)/\X.cell? ⟨b1,1,none⟩=some (.slice HA T.n hc)):=hid fun X hX=>⟨l.out _ (onS KB.out hX),ai.out _ (onS K6.out hX)⟩
   refine wp_region_held_drew (S:=fun X=>(X.cell? ⟨b0,0,none⟩=some (.int .i64 (P':Nat))/\X.cell? ⟨b0,1,none⟩=some (.int .i64 (M':Nat))/\X.cell? ⟨b0,2,none⟩=some (.slice A k c)/\X.cell? ⟨b0,3,none⟩=some (.int .i64 (N':Nat))/\X.cell? ⟨b0,4,none⟩=some (.slice TC n d))/\X.cell? ⟨b1,0,none⟩=some (.slice GA T.nw gc)/\X.cell? ⟨b1,1,none⟩=some (.slice HA T.n hc)) (by kernel_rfl) (F.out _ (Below.refl _ _).drew) (fun hHeld=>?_)
   obtain ⟨w8,hw,kb⟩:=dwx w7
   rw [<-hw] at hHeld ⊢;clear hw
   have K8:=hid kb
   clear kb
   refine tkq 0 (h:=tkq 1 (h:=?_))
   clear hHeld
   refine rdq 2 (h:=fun K hK=>?_)
   go_simp
   go_wp2_with fail
   refine (zjd P' M' (fun i=>(f i).toNat) A k c N' TC n d (natT V) w8 (HC.out.on (onS HB.out (onS KB.out K8.out))) q).mono ?_
   rintro e w9 ⟨kb,r,H,St,Tr,FA,FB,fc,fd,a8,a9,rfl,a7⟩
   obtain ⟨af,ad⟩:=ar.out r H St Tr a8 a9
   have al:=hid af
   have G:=hid ad
   have ak:=hid a7
   replace K8:=hid (onS K8.out kb);clear kb a8 a9 a7 af ad
   refine bkq hK (F.out _ K8.out) (h:=fun hHeld=>?_)
   clear hK K hHeld
   refine rdq 3 (h:=fun K hK=>?_)
   go_simp
   go_wp2_with fail
   refine (zia (fsT N' St Tr) FA FB fc fd w9 ak.out al.out).mono ?_
   rintro e w10 ⟨kb,z,QA,QB,qc,qd,rfl,hz,Z⟩
   have ah:=hid (Z.reads al.out hz)
   have ag:=hid (G.out z hz)
   replace K8:=hid (onS K8.out kb);clear kb hz Z G ak
   refine bkq hK (F.out _ K8.out) (h:=fun hHeld=>?_)
   clear hK K hHeld
   refine rdq 4 (h:=fun K hK=>?_)
   go_simp
   go_wp2_with fail
   refine (zeZ (T.re y) ((fsT N' St Tr).re z) GA HA QA QB gc hc qc qd w10 (aj.out.1.on (onS K5.out (onS K6.out K8.out))) ah.out.1).mono ?_
   rintro e w11 ⟨b,rfl,hb,kb⟩
   obtain rfl:=hb.2 ag.out
   replace K8:=hid (onS K8.out kb);clear kb hb ah ag
   refine bkq hK (F.out _ K8.out) (h:=fun hHeld=>?_)
   clear hK K
   refine tkq 5 (h:=tkq 6 (h:=tkq 7 (h:=?_)))
   clear hHeld
   refine rdq 8 (h:=fun K hK=>?_)
   go_simp
   go_wp2_with fail
   refine (zhL (P':Int) (M':Int) A k c f (N':Int) TC n d ln V (T.re y) GA HA gc hc w11 (HI.out.on (onS HB.out (onS KB.out K8.out))) (HT.out.on (onS HB.out (onS KB.out K8.out))) hkc (aj.out.1.on (onS K5.out (onS K6.out K8.out)))).mono ?_
   rintro e w12 ⟨v,rfl,hv,kb⟩
   obtain rfl:v=0:=by
    rcases hv with ⟨h1,h2⟩ | ⟨_,⟨h1,_⟩ | ⟨_,P2,M2,N2,e1,e2,e3,⟨h1,_⟩ | ⟨_,a,H2,an,_,Q⟩⟩⟩
    ·exact absurd (FirstErr.unique h2 au.out) h1
    ·exact absurd aq.out.E0 h1
    ·obtain rfl:N'=N2:=by omega
     exact absurd ap.out h1
    ·obtain rfl:P'=P2:=by omega
     obtain rfl:M'=M2:=by omega
     obtain rfl:N'=N2:=by omega
     exact Q.2 (ao.out a H2 an)
   replace K8:=hid (onS K8.out kb);clear kb hv
   refine bkq hK (F.out _ K8.out) (h:=fun hHeld=>?_)
   clear hK K
   refine tkq 9 (h:=tkq 10 (h:=tkq 11 (h:=?_)))
   refine wpAnyH_done (by kernel_rfl) ?_ _
   clear hHeld
   go_wp2
   go_ret
   exact ⟨rfl,onS HB.out (onS KB.out K8.out)⟩
theorem trellisMinimal_law {H:Type} {enc:TypeId × Value->H} {w:World} {cs:Array Value}
  (h:Sees enc Tryz.prog w 0 (fun _=>true) true 27 cs.toList) :
  Calls Tryz.prog 9 #[.agg cs] w fun e w'=>e=.returned (.bool true)/\Below w.heap.size w w':=by
 obtain ⟨cs⟩:=cs
 obtain ⟨P,M,A,k,c1,N,T1,n,d,f,ln,V,rfl,_,_,a,_,_,_,hr,ht⟩:=zi8 h
 exact zcJ P M A k c1 f N T1 n d ln V w hr ht a
end Go.Proofs.YtgekjfpapmlndaaGreat