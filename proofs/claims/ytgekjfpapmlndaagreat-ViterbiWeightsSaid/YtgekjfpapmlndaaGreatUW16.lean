/- Merged texts of a claim: EnumAll, HeldW, RangeW, MsgPl, WalkFrom, Walk1, CmpLex, Wt11, Has12, Rest10, Cost49, DecLaw, SameC, LeastPl, PwLev, PwSize, Wt23, ListW. -/
import Derived.Test.YtgekjfpapmlndaaGreatUW13
import Derived.Test.YtgekjfpapmlndaaGreatUW15
import Derived.Laws.CopyOwn
import Derived.Laws.EntriesVeiled
import Derived.Laws.ResultCell
import Derived.OrdersIn
import Derived.OrdersHeld
import Derived.RangeFuncIn
import Derived.RangeFuncRecord
import Derived.RangeFuncSeq
import Derived.RangeFuncLeaves
import Derived.TacticsIn
namespace Go.Proofs.YtgekjfpapmlndaaGreat
set_option maxRecDepth 100000
set_option maxHeartbeats 32000000
open KA KB KC KD KE KF
open Go.RowKit
theorem zg2 {α:Type} {L cs:List α} {i:Nat}:(splice L 0 cs)[i]?=if i<cs.length then cs[i]? else L[i]?:=by
 unfold splice
 simp only [List.take_zero,List.nil_append,Nat.zero_add]
 by_cases h1:i<cs.length
 ·rw [if_pos h1,List.getElem?_append_left h1]
 rw [if_neg h1,List.getElem?_append_right (by omega),List.getElem?_drop]
 congr 1
 omega
theorem zc5 {P:Program} (w:World) (dT sT ty elem:TypeId) (hu:P.underlying dT=some (.slice elem)) (hsz:(P.info? elem).map (·.size)=some 1)
  (g off:Nat) (sp:Option Addr) (dLen dCap sLen sCap:Nat) (cur:List Value) (t:TypeId) (hg:w.heap[g]?=some (.cells cur.toArray t (0,0))) (cs:List Value) (hn:cs.length=Nat.min sLen dLen)
  (hpos:0<cs.length->∃ ad,sp=some ad/\∀ j v,cs[j]?=some v->w.cell? (ad.add j)=some v)
  (hfit:off+cs.length<=cur.length) (h1:∀ v ∈ cs,v.oneCell'=true) (B:Nat) (w0:World) (hb:Below B w0 w) (hBg:B<=g) :
  ∃ r w',(Builtin.copy_ #[dT,sT] ty #[.slice (some ⟨g,off,none⟩) dLen dCap,.slice sp sLen sCap]).run P w=.ok r w'/\w'.heap[g]?=some (.cells (splice cur off cs).toArray t (0,0))/\Below B w0 w':=by
 by_cases h0:cs.length=0
 ·obtain rfl:cs=[]:=List.eq_nil_of_length_eq_zero h0
  exact ⟨_,w,run_copy_none (P:=P) w dT sT ty elem _ _ dLen dCap sLen sCap hu hsz (by simpa using hn.symm),by simpa [splice] using hg,hb⟩
 ·obtain ⟨ad,rfl,a⟩:=hpos (by omega)
  exact ⟨_,_,run_copy_row (P:=P) w dT sT ty elem g off dLen dCap ad sLen sCap cur.toArray t cs hu hsz hg hn a (by simpa using hfit) h1,by simpa [splice] using setRow_heap w g _ _ t _ hg,below_setRow hb hBg _⟩
theorem zeI {wz w:World} (ty:TypeId) {g m d c:Nat} {A:Option Addr} {x:Nat->Nat} (hm:m<=66) (hz:Below wz.heap.size wz w) (hg:wz.heap.size<=g)
  (hrow:w.rowIs g 69 m (fun _=>.slice none 0 0)) (hV:PolV wz (.slice A d c) x) :
  ∃ r w',(Builtin.copy_ #[64, 64] ty #[.slice (some ⟨g,0,none⟩) m m,.slice A d c]).run Tryz.prog w=.ok r w'/\NatOwn w' wz.heap.size (.slice (some ⟨g,0,none⟩) m m) m x/\Below wz.heap.size wz w':=by
 obtain ⟨hT,L,G,_,_⟩:=hV.tab
 obtain ⟨cur,K,H,l⟩:=hrow
 have o:(Tryz.prog.info? 69).map (·.size)=some 1:=by
  obtain ⟨i,hi,B⟩:=Option.map_eq_some_iff.1 Tryz.infoNat
  simp only [Prod.mk.injEq] at B
  rw [hi]
  simp [B.2.1]
 have hh:∀ i,∃ v:Value,i<d->(∃ b off,A=some ⟨b,off,none⟩/\b<wz.heap.size/\wz.cell? ⟨b,off+i,none⟩=some v)/\∃ A' c',v=.slice A' (dl (x i)) c'/\NatOk wz wz.heap.size A' (x i)/\dl (x i)<=c'/\c'<=maxLen:=fun i=>by
  by_cases hi:i<d
  ·obtain ⟨b,off,A',c',e,h1,h2,h3,h4,h5⟩:=hT i hi
   exact ⟨_,fun _=>⟨⟨b,off,e,h1,h2⟩,A',c',rfl,h5,h3,h4⟩⟩
  ·exact ⟨undef,fun h=>absurd h hi⟩
 have J:∃ F:Nat->Value,∀ i,i<d->(∃ b off,A=some ⟨b,off,none⟩/\b<wz.heap.size/\wz.cell? ⟨b,off+i,none⟩=some (F i))/\∃ A' c',F i=.slice A' (dl (x i)) c'/\NatOk wz wz.heap.size A' (x i)/\dl (x i)<=c'/\c'<=maxLen:=⟨fun i=>(hh i).choose,fun i=>(hh i).choose_spec⟩
 obtain ⟨F,hF⟩:=J
 obtain ⟨k,hk⟩:=exx (Nat.min d m)
 have O:k<=d:=by rw [hk]; exact Nat.min_le_left _ _
 have N:k<=m:=by rw [hk]; exact Nat.min_le_right _ _
 have a:((List.range k).map F).length=k:=by simp
 have n:∀ i,i<k->((List.range k).map F)[i]?=some (F i):=fun i hi=>by simp [hi]
 obtain ⟨r,w',s,C,E⟩:=zc5 (P:=Tryz.prog) w 64 64 ty 69 Tryz.underlying64 o g 0 A m m d c cur.toList 69 (by simpa using K) ((List.range k).map F) (by rw [a,hk]) (fun h0=>by
  rw [a] at h0
  obtain ⟨⟨b,off,e,hb,_⟩,_⟩:=hF 0 (by omega)
  refine ⟨⟨b,off,none⟩,e,fun j v hj=>?_⟩
  have I:j<k:=by
   have:=(List.getElem?_eq_some_iff.1 hj).1
   rwa [a] at this
  rw [n j I] at hj;replace hj:=Option.some.inj hj
  obtain ⟨⟨b2,off2,e2,_,M⟩,_⟩:=hF j (by omega)
  have e3:(⟨b,off,none⟩:Addr)=⟨b2,off2,none⟩:=Option.some.inj (e.symm.trans e2)
  have e4:b=b2:=congrArg Addr.block e3
  have e5:off=off2:=congrArg Addr.off e3
  subst e4 e5
  have y:(⟨b,off,none⟩:Addr).add j=⟨b,off+j,none⟩:=by unfold Addr.add; split <;> simp_all
  rw [y,<-hj,hz.cell (p:=⟨b,off+j,none⟩) hb]
  exact M) (by rw [a]; simp; omega) (fun v hv=>by
  obtain ⟨j,hj,rfl⟩:=List.mem_map.1 hv
  obtain ⟨_,A',c',e,_⟩:=hF j (by have:=List.mem_range.1 hj; omega)
  rw [e]
  rfl) wz.heap.size wz hz hg
 have D:∀ i,i<m->(splice cur.toList 0 ((List.range k).map F))[i]?=some (if i<k then F i else .slice none 0 0):=fun i hi=>by
  rw [zg2,a]
  by_cases h1:i<k
  ·rw [if_pos h1,if_pos h1,n i h1]
  ·rw [if_neg h1,if_neg h1]
   simpa using l i hi
 have f:(splice cur.toList 0 ((List.range k).map F)).length=m:=by
  rw [length_splice _ _ _ (by rw [a]; simp; omega)]
  simpa using H
 refine ⟨r,w',s,⟨fun i _=>if i<k then F i else .slice none 0 0,.inr ⟨g,0,m,_,rfl,hg,C,Nat.le_refl _,by unfold maxLen; omega,by simp [f],fun i hi j hj=>?_⟩,fun q hq=>?_,fun i hi=>?_⟩,E⟩
 ·obtain rfl:j=0:=by omega
  rw [Nat.mul_one,Nat.zero_add,Nat.add_zero]
  simpa using D i hi
 ·obtain rfl:g=q:=by simpa [Value.ownBlock] using hq
  refine zcy C fun u hu z e=>?_
  have hu:u ∈ splice cur.toList 0 ((List.range k).map F):=by simpa using hu
  obtain ⟨j,hj,e2⟩:=List.getElem_of_mem hu
  rw [f] at hj
  have h3:=D j hj
  rw [List.getElem?_eq_getElem (by omega),e2,e] at h3
  by_cases h1:j<k
  ·rw [if_pos h1] at h3
   obtain ⟨_,A',c',e4,_⟩:=hF j (by omega)
   rw [e4] at h3
   cases h3
  ·rw [if_neg h1] at h3
   cases h3
 by_cases h1:i<k
 ·obtain ⟨_,A',c',e4,n1,n2,n3⟩:=hF i (by omega)
  exact ⟨A',c',by show (if i<k then F i else _)=_; rw [if_pos h1]; exact e4,n1.on E,n2,n3⟩
 have hx:x i=0:=by
  have Q:k=min d m:=hk
  have h2:d<=i:=by omega
  exact G i h2
 exact ⟨none,0,by show (if i<k then F i else _)=_; rw [if_neg h1,hx,zaG],by rw [hx]; exact zcJ _ _ _,by rw [hx,zaG]; omega,by unfold maxLen; omega⟩
def EnumPost (T:Trel) (w:World) (e:Ending) (w':World):Prop :=
 Below w.heap.size w w' /\
 ((T.properE≠0/\e=.returned (.tuple #[.slice none 0 0,.int .i64 T.properE])) ∨
 (T.properE=0/\∃ A c,e=.returned (.tuple #[.slice A (T.n+1) c,.int .i64 0])/\NatOwn w' w.heap.size (.slice A (T.n+1) c) (T.n+1) (T.pw T.n 0)))
theorem Trel.shapeE_zero {T:Trel} (hp:T.properE=0):T.shapeE=0:=by
 cases Decidable.em (T.shapeE=0) with
 | inl h=>exact h
 | inr h=>exact absurd (Trel.properE_shape h ▸ hp) h
theorem zcc (T:Trel) (A B:Option Addr) (c d:Nat) (w:World) (h:T.Reads w A B) :
  Calls Tryz.prog 40 #[.agg #[.slice A T.nw c,.slice B T.n d]] w (EnumPost T w):=by
 obtain ⟨RB,y⟩:=exx ((Obj.cells #[.slice A T.nw c,.slice B T.n d] 53))
 have z:Below (w.heap.size+1) (w.alloc RB) (w.alloc RB):=Below.refl _ _
 have HS:Hid (∀ w',Below (w.heap.size+1) (w.alloc RB) w'->(w'.cell? ⟨w.heap.size,0,none⟩=some (.slice A T.nw c)/\w'.cell? ⟨w.heap.size,1,none⟩=some (.slice B T.n d))/\Below w.heap.size w w'):=fun w' hB=>by
  have aa:=zax hB
  subst y
  exact ⟨⟨tbox hB rfl,tbox hB rfl⟩,aa⟩
 obtain ⟨⟨p0,p1⟩,hW⟩:=HS.out _ z
 have HR:=hid h
 clear h
 go_enter Tryz.func40, Tryz.ntmps40
 go_wp2_with fail
 rw [<-y]
 refine (zcI T A B c d _ (HR.out.on hW)).mono ?_
 rintro e w1 ⟨rfl,kb⟩
 have q:=zap z kb
 clear hW p0 p1 kb z y
 obtain ⟨⟨p0,p1⟩,hW⟩:=HS.out _ q
 by_cases hp:T.properE=0
 rotate_left
 ·have a4:(T.properE != 0)=true:=by simpa using hp
  have HP:=hid hp
  obtain ⟨x,hx⟩:=exx T.properE
  have HX:=hid hx
  rw [<-hx] at a4 ⊢;clear hp hx
  go_wp2
  go_ret2
  exact ⟨hW,.inl ⟨HP.out,by rw [<-HX.out]; rfl⟩⟩
 have ad:=hid hp
 have HP:=hid (Trel.proper_of hp)
 have ac:=hid (Trel.shapeE_zero hp)
 have a5:=HP.out.shape.n64
 rw [hp];clear hp
 have a7:=zaV q
 go_wp2_with fail
 obtain ⟨OS,Q⟩:=exx ((Obj.cells #[] 141))
 rw [<-Q]
 have r:=aly w1 OS
 obtain ⟨w2,I⟩:=exx (w1.alloc OS)
 rw [<-I] at r ⊢
 have V:=zap q r
 obtain ⟨sb,J⟩:=exx w1.heap.size
 rw [<-J];clear I J r q Q p0 p1 hW a7
 refine (zeR 1 w2 (by omega)).mono ?_
 rintro e w3 ⟨A1,c1,rfl,g1,g2,g3,kb⟩
 have a:=zap V kb
 clear kb V
 obtain ⟨⟨p0,p1⟩,hW⟩:=HS.out _ a
 have a6:=zaV a
 have hO:=zcU (w:=w3) (n:=2) (x:=mono 1) (cs:=#[.slice none 0 0,.slice A1 (dl 1) c1]) (by omega) rfl (fun i hi=>by
  match i,hi with
  | 0,_=>exact ⟨none,0,by show some _=some (Value.slice none (dl 0) 0); rw [zaG]; rfl,by show NatOk _ _ _ 0; exact zcJ _ _ _,by show dl 0<=0; rw [zaG]; omega,by unfold maxLen; omega⟩
  | 1,_=>exact ⟨A1,c1,rfl,g3,g1,g2⟩)
 have s:PolV (w3.alloc (Obj.cells #[.slice none 0 0,.slice A1 (dl 1) c1] 69)) (.slice (some ⟨w3.heap.size,0,none⟩) 2 2) (mono 1):=⟨2,hO,by omega,fun t ht=>if_neg (by omega),fun D hD=>zec hD⟩
 go_upto_region 6 with fail
 obtain ⟨OA,R⟩:=exx ((Obj.cells #[.slice none 0 0,.slice A1 (dl 1) c1] 69))
 rw [<-R] at s ⊢
 have k3:=aly w3 OA
 have k4:Below (w3.alloc OA).heap.size (w3.alloc OA) ((w3.alloc OA).alloc (Obj.cells #[.slice (some ⟨w3.heap.size,0,none⟩) 2 2] 64)):=(Below.refl _ _).alloc (Nat.le_refl _) _
 have hz:((w3.alloc OA).alloc (Obj.cells #[.slice (some ⟨w3.heap.size,0,none⟩) 2 2] 64)).cell? ⟨w3.heap.size+1,0,none⟩=some (.slice (some ⟨w3.heap.size,0,none⟩) 2 2):=World.cell?_alloc_at _ _ _ _ (by simp)
 obtain ⟨w4,H⟩:∃ W,W=(w3.alloc OA).alloc (Obj.cells #[.slice (some ⟨w3.heap.size,0,none⟩) 2 2] 64):=⟨_,rfl⟩
 rw [<-H] at k4 hz ⊢
 have j:=s.on k4
 have kb:=onS k3 k4
 replace a:=zap a kb;replace p0:=cellS kb p0;replace p1:=cellS kb p1;replace hW:=onS hW kb
 obtain ⟨ZA,N⟩:∃ b:Option Addr,b=some ⟨w3.heap.size,0,none⟩:=⟨_,rfl⟩
 obtain ⟨zb,E⟩:=exx (w3.heap.size+1)
 rw [<-N] at hz j ⊢;rw [<-E] at hz ⊢;clear N E H R k3 k4 kb s hO g1 g2 g3 a6
 refine wp_region_held_drew (S:=fun w'=>w'.cell? ⟨w.heap.size,0,none⟩=some (.slice A T.nw c)/\w'.cell? ⟨w.heap.size,1,none⟩=some (.slice B T.n d)) (by kernel_rfl) ⟨cellS (Below.refl _ _).drew p0,cellS (Below.refl _ _).drew p1⟩ (fun hHeld=>?_)
 obtain ⟨w5,hw,kb⟩:=dwx w4
 rw [<-hw] at hHeld ⊢;clear hw;replace a:=zap a kb;replace hW:=onS hW kb;replace p0:=cellS kb p0;replace p1:=cellS kb p1;replace hz:=cellS kb hz;replace j:=j.on kb;clear kb
 refine tkq 0 (h:=tkq 1 (h:=tkq 2 (h:=?_)))
 refine rdq 3 (h:=fun K hK=>?_)
 go_simp
 refine bkq hK ⟨p0,p1⟩ (h:=fun hHeld=>?_)
 clear hK K
 refine rdq 4 (h:=fun K hK=>?_)
 go_simp
 go_wp2_with fail
 refine (zid T A B ZA c d 2 2 sb zb w5 (HR.out.on hW) HP.out.shape hz j).mono ?_
 rintro e w6 ⟨g1,F1,rfl,_,O,kb⟩
 replace a:=zap a kb;replace hW:=onS hW kb;replace p0:=cellS kb p0;replace p1:=cellS kb p1;replace hz:=cellS kb hz;replace j:=j.on kb;clear kb
 have hP:=O.rows
 clear O;clear hz j
 refine bkq hK ⟨p0,p1⟩ (h:=fun hHeld=>?_)
 clear hK K
 refine rdq 5 (h:=fun K hK=>?_)
 go_simp
 go_wp2_with fail
 refine (zeH T A B (some ⟨g1,0,none⟩) c d T.n w6 (HR.out.on hW) ac.out hP).mono ?_
 rintro e w7 ⟨g2,F2,rfl,_,p,kb⟩
 replace a:=zap a kb;replace hW:=onS hW kb;replace p0:=cellS kb p0;replace p1:=cellS kb p1;replace hP:=hP.on kb;clear kb
 refine bkq hK ⟨p0,p1⟩ (h:=fun hHeld=>?_)
 clear hK K
 refine tkq 6 (h:=tkq 7 (h:=tkq 8 (h:=tkq 9 (h:=tkq 10 (h:=?_)))))
 refine wpAnyH_done (by kernel_rfl) ?_ _
 clear hHeld;clear hP
 obtain ⟨w7,G⟩:=exx w7
 rw [<-G] at p a hW p0 p1 ⊢
 have a2:=HP.out.shape.nw
 have L:T.n<T.nw:=by omega
 have a3:(T.n:Int)<(T.nw:Int):=by omega
 have ah:(0:Int)<=(T.n:Int):=by omega
 have Y:=HP.out.wn
 obtain ⟨b0,o0,d0,V0,U,ai,a8,q0,u,_⟩:=p.at (v:=T.n) L (k:=0) (by show 0<(T.W T.n).toNat; omega)
 obtain ⟨VA,vn,vc,a9⟩:=u.isSlice
 subst a9
 have r0:=p.row.cell L
 rw [U] at r0
 have X:(T.W T.n).toNat=1:=by omega
 change w7.cell? ⟨g2,T.n,none⟩=some (.slice (some ⟨b0,o0,none⟩) (T.W T.n).toNat d0) at r0
 rw [X] at r0;rw [Nat.add_zero] at q0
 have M:=fun W=>zaf (P:=Tryz.prog) 64 69 _ 24 Tryz.underlying64 Tryz.infoNat rfl ((T.n:Int)+1) (by omega) (by omega) (by omega) W
 have a0:((T.n:Int)+1).toNat=T.n+1:=by omega
 simp only [a0] at M
 have Z:IntKind.i64.wrap ((T.n:Int)+1)=(T.n:Int)+1:=IntWalk.i64_in _ (by omega)
 clear G Y X U p a2
 go_upto_region 10 with fail
 have l:=World.rowIs_made w7 (.slice none 0 0) (T.n+1) 69
 have o:=aly w7 (Obj.cells (madeCells #[Value.slice none 0 0] (T.n+1)) 69)
 obtain ⟨w8,F⟩:=exx (w7.alloc (Obj.cells (madeCells #[Value.slice none 0 0] (T.n+1)) 69))
 rw [<-F] at l o ⊢;replace q0:=cellS o q0;replace r0:=cellS o r0;replace p1:=cellS o p1
 have C:=hid l
 have ag:=hid o
 have ab:=hid u
 have HW:=hid hW
 have aj:=hid a.size
 obtain ⟨r9,w9,a1,o1,o2⟩:=zeI (wz:=w7) (g:=w7.heap.size) (m:=T.n+1) 3 (by omega) ag.out (Nat.le_refl _) C.out ab.out
 have af:=hid o1
 have ae:=hid o2
 clear F l o u M hW a p0 o1 o2
 go_wp2
 go_ret2
 exact ⟨onS HW.out ae.out,.inr ⟨ad.out,_,_,rfl,af.out.monoB HW.out.size⟩⟩
theorem zaI {P:Program} {fn:Func} {p u:Tmp} {ty:TypeId} (h:fn.results=#[.cell p ty,.tmp u]) (tmps:Array Value) (w:World) (g:Nat) (t:TypeId) (cs:Array Value) (fr:Nat × Nat) (d:TypeDesc)
  (hp:tmps.getD p undef=.pointer (some ⟨g,0,none⟩)) (hg:w.heap[g]?=some (.cells cs t fr))
  (hu:P.underlying ty=some d) (hd:(match d with | .struct _ | .array _ _=>true | _=>false)=true) (hi:(P.info? ty).map (·.size)=some cs.size) :
  (results fn tmps).run P w=.ok (.tuple #[.agg cs,tmps.getD u undef]) w:=by
 rw [results_cell_tmp h,hp]
 simp [asAddr,Result.andThen,run_loadVar_row w g t ty cs fr d hg hu hd hi]
def firstPos (x:Nat->Nat):Nat->Nat->Nat
 | 0,k=>k
 | m+1,k=>if x k≠0 then k else firstPos x m (k+1)
def leastOf (x:Nat->Nat) (n:Nat):Nat:=firstPos x (n - 1) 1
theorem zcd {x:Nat->Nat}:∀ m k,(∀ i,k<=i->i<k+m->x i=0)->firstPos x m k=k+m:=by
 intro m
 induction m with
 | zero=>intro k _; rfl
 | succ m ih =>
  intro k h
  show (if x k≠0 then k else firstPos x m (k+1))=_
  rw [if_neg (by simpa using h k (Nat.le_refl _) (by omega)),ih (k+1) fun i h1 h2=>h i (by omega) (by omega)]
  omega
theorem zce {x:Nat->Nat} {j:Nat}:∀ m k,k<=j->j<k+m->x j≠0->(∀ i,k<=i->i<j->x i=0)->firstPos x m k=j:=by
 intro m
 induction m with
 | zero=>intro k h1 h2; omega
 | succ m ih =>
  intro k h1 h2 h3 h4
  show (if x k≠0 then k else firstPos x m (k+1))=_
  by_cases e:k=j
  ·subst e; rw [if_pos h3]
  ·rw [if_neg (by simpa using h4 k (Nat.le_refl _) (by omega))]
   exact ih (k+1) (by omega) (by omega) h3 fun i a b=>h4 i (by omega) b
def LightPost (T:Trel) (w:World) (e:Ending) (w':World):Prop :=
 Below w.heap.size w w' /\
 ((T.properE≠0/\e=.returned (.tuple #[.agg #[.int .i64 0,.slice none 0 0],.int .i64 T.properE])) ∨
 (T.properE=0/\leastOf (T.pw T.n 0) (T.n+1)=T.n+1/\e=.returned (.tuple #[.agg #[.int .i64 0,.slice none 0 0],.int .i64 11])) ∨
 (T.properE=0/\leastOf (T.pw T.n 0) (T.n+1)<T.n+1/\∃ A c,e=.returned (.tuple #[.agg #[.int .i64 (leastOf (T.pw T.n 0) (T.n+1):Nat),.slice A (dl (T.pw T.n 0 (leastOf (T.pw T.n 0) (T.n+1)))) c],.int .i64 0])/\NatOk w' w'.heap.size A (T.pw T.n 0 (leastOf (T.pw T.n 0) (T.n+1)))))
theorem zeJ (T:Trel) (A B:Option Addr) (c d:Nat) (w:World) (h:T.Reads w A B) :
  Calls Tryz.prog 44 #[.agg #[.slice A T.nw c,.slice B T.n d]] w (LightPost T w):=by
 obtain ⟨O1,N⟩:=exx ((Obj.cells #[.slice A T.nw c,.slice B T.n d] 53))
 have HR:=hid h
 clear h
 go_enter Tryz.func44, Tryz.ntmps44
 go_wp2_with fail
 rw [<-N]
 obtain ⟨O2,L⟩:=exx ((Obj.cells #[.int .i64 0,.slice none 0 0] 73))
 have G:Below w.heap.size w ((w.alloc O1).alloc O2):=zbx (Below.refl _ _)
 have a:((w.alloc O1).alloc O2).rowIs (w.heap.size+1) 73 2 (fun i=>if i=0 then .int .i64 0 else .slice none 0 0):=by
  subst L
  exact (zbT (Below.refl _ _)).congr fun i hi=>by
   match i,hi with
   | 0,_=>rfl
   | 1,_=>rfl
 rw [<-L]
 obtain ⟨W2,M⟩:∃ W,W=(w.alloc O1).alloc O2:=⟨_,rfl⟩
 rw [<-M] at G a ⊢
 have S:w.heap.size+1<W2.heap.size:=a.lt
 clear M N L
 refine (zcc T A B c d W2 (HR.out.on G)).mono ?_
 rintro e w1 ⟨kb,s⟩
 have F:=onS G kb
 replace a:=zab a kb
 obtain ⟨b,hb⟩:=exx (w.heap.size+1)
 have r:w.heap.size<=b:=by omega
 rw [<-hb] at a S ⊢
 have a0:=kb.size
 have v:(Tryz.prog.info? 73).map (·.size)=some 2:=by kernel_rfl
 have o:=hid v
 have z:∀ (v0 v1:Value) (W:World),Hid (W.rowIs b 73 2 (fun i=>if i=0 then v0 else v1)->W.heap[b]?=some (.cells #[v0,v1] 73 (0,0))):=fun v0 v1 W h=>by
  obtain ⟨cs,h1,h2,h3⟩:=h
  rw [h1]
  have e:cs=#[v0,v1]:=by
   apply Array.ext
   ·simpa using h2
   intro i hi hi2
   have h4:=h3 i (by omega)
   rw [Array.getElem?_eq_getElem hi] at h4;replace h4:=Option.some.inj h4;rw [h4]
   match i,(show i<2 by omega) with
   | 0,_=>rfl
   | 1,_=>rfl
  rw [e]
 have q:=hid z
 clear hb v z kb G
 rcases s with ⟨hp,rfl⟩ | ⟨hp,VA,vc,rfl,hv⟩
 ·have P:(T.properE != 0)=true:=by simpa using hp
  have HP:=hid hp
  obtain ⟨x,hx⟩:=exx T.properE
  have HX:=hid hx
  rw [<-hx] at P ⊢
  have q0:=a.cell (i:=0) (by omega)
  have q1:=a.cell (i:=1) (by omega)
  have z0:=a.frozen 0
  have z1:=a.frozen 1
  have l:=(a.set 0 (.int .i64 0)).set 1 (.slice none 0 0)
  have D:=hid (l.congr (g:=fun i=>if i=0 then .int .i64 0 else .slice none 0 0) fun i hi=>by
   match i,hi with
   | 0,_=>rfl
   | 1,_=>rfl)
  have E:=hid ((F.setCell (p:=⟨b,0,none⟩) r (.int .i64 0)).setCell (p:=⟨b,1,none⟩) r (.slice none 0 0))
  change w1.cell? ⟨b,0,none⟩=some (.int .i64 0) at q0
  change w1.cell? ⟨b,1,none⟩=some (.slice none 0 0) at q1
  clear hp hx a l F
  go_wp2
  try simp only [Exit.inBlock,Exit.then]
  refine bodyPost_ret (zaI rfl _ _ b 73 _ (0,0) _ rfl ((q.out _ _ _).out D.out) Tryz.underlying73 rfl o.out) rfl ?_
  exact ⟨E.out,.inl ⟨HP.out,by rw [<-HX.out]; rfl⟩⟩
 have O:=hid hp
 have HP:=hid (Trel.proper_of hp)
 have Q:=HP.out.shape.n64
 obtain ⟨_,_,e9,_,_,hT⟩:=hv.tab
 injection e9 with e9 _ e8
 subst e9 e8
 have HT:=hid hT
 obtain ⟨m,hm⟩:=exx (T.n+1)
 have HM:=hid hm
 have R:m<=65:=by omega
 have a1:1<=m:=by omega
 obtain ⟨x,hx⟩:=exx (T.pw T.n 0)
 have HX:=hid hx
 rw [<-hm] at HT ⊢;rw [<-hx] at HT
 have C:=hid a
 clear hp hm hx hv hT a
 go_wp2
 go_loopg [19] m (fun gg iv wx=>∃ k:Nat,iv=.int .i64 (k:Nat)/\k<=m/\m<=k+gg/\Hid (∀ i,1<=i->i<k->x i=0)/\Below w1.heap.size w1 wx)
 case atStart=>exact ⟨0,rfl,by omega,by omega,fun i _ h=>absurd h (by omega),Below.refl _ _⟩
 obtain ⟨k,rfl,hk,a2,HZ,hB⟩:=hrel
 have a3:(0:Int)<=(k:Int):=by omega
 by_cases hlt:k<m
 rotate_left
 ·have J:¬ (k:Int)<(m:Int):=by omega
  obtain rfl:k=m:=by omega
  have j:Hid (leastOf (T.pw T.n 0) (T.n+1)=T.n+1):=by
   rw [<-HX.out,<-HM.out]
   unfold leastOf
   show _=_
   rw [zcd (k - 1) 1 fun i h1 h2=>HZ.out i h1 (by omega)]
   omega
  have hr:=zab C.out hB
  have q0:=hr.cell (i:=0) (by omega)
  have q1:=hr.cell (i:=1) (by omega)
  have z0:=hr.frozen 0
  have z1:=hr.frozen 1
  have l:=(hr.set 0 (.int .i64 0)).set 1 (.slice none 0 0)
  have D:=hid (l.congr (g:=fun i=>if i=0 then .int .i64 0 else .slice none 0 0) fun i hi=>by
   match i,hi with
   | 0,_=>rfl
   | 1,_=>rfl)
  have E:=hid (((onS F hB).setCell (p:=⟨b,0,none⟩) r (.int .i64 0)).setCell (p:=⟨b,1,none⟩) r (.slice none 0 0))
  change wr.cell? ⟨b,0,none⟩=some (.int .i64 0) at q0
  change wr.cell? ⟨b,1,none⟩=some (.slice none 0 0) at q1
  have K:b<wr.heap.size:=hr.lt
  clear hr l
  go_wp2
  try simp only [Exit.inBlock,Exit.then]
  refine bodyPost_ret (zaI rfl _ _ b 73 _ (0,0) _ rfl ((q.out _ _ _).out D.out) Tryz.underlying73 rfl o.out) rfl ?_
  exact ⟨E.out,.inr (.inl ⟨O.out,j.out,rfl⟩)⟩
 have J:(k:Int)<(m:Int):=by omega
 obtain ⟨tb,to',A2,c2,rfl,Z,x0,x1,x2,x3⟩:=HT.out.on hB k hlt
 obtain ⟨y,hy⟩:=exx (x k)
 rw [<-hy] at x0 x1 x3
 have H:=hid hy
 clear hy
 by_cases hk1:0<k
 rotate_left
 ·obtain rfl:k=0:=by omega
  have U:(0:Int)<(m:Int):=by omega
  rw [Nat.add_zero] at x0;clear x3
  go_wp2
  go_roundg (gk - 1)
  case measure=>omega
  case rel=>exact ⟨1,by go_num,by omega,by omega,fun i h1 h2=>absurd h1 (by omega),hB⟩
 have V:(0:Int)<(k:Int):=by omega
 by_cases h0:y=0
 ·have e0:dl y=0:=zaZ.2 h0
  have X:Hid (∀ i,1<=i->i<k+1->x i=0):=fun i h1 h2=>by
   by_cases e:i=k
   ·subst e; rw [<-H.out]; exact h0
   ·exact HZ.out i h1 (by omega)
  rw [e0] at x0;clear h0
  go_wp2
  go_roundg (gk - 1)
  case measure=>omega
  case rel=>exact ⟨k+1,by go_num,by omega,by omega,X,hB⟩
 have e0:0<dl y:=by
  rcases Nat.eq_zero_or_pos (dl y) with h | h
  ·exact absurd (zaZ.1 h) h0
  ·exact h
 have e1:(0:Int)<(dl y:Int):=by omega
 have j:Hid (leastOf (T.pw T.n 0) (T.n+1)=k):=by
  rw [<-HX.out,<-HM.out]
  unfold leastOf
  exact hid (zce (m - 1) 1 hk1 (by omega) (by rw [<-H.out]; exact h0) HZ.out)
 have hr:=zab C.out hB
 have q0:=hr.cell (i:=0) (by omega)
 have q1:=hr.cell (i:=1) (by omega)
 have z0:=hr.frozen 0
 have z1:=hr.frozen 1
 have I:NoInt wr b:=zdD hr fun i _ u e=>by revert e; show (if i=0 then _ else _)=_->_; split <;> (intro e; cases e)
 have l:=(hr.set 0 (.int .i64 (k:Nat))).set 1 (.slice A2 (dl y) c2)
 have D:=hid (l.congr (g:=fun i=>if i=0 then .int .i64 (k:Nat) else .slice A2 (dl y) c2) fun i hi=>by
  match i,hi with
  | 0,_=>rfl
  | 1,_=>rfl)
 have E:=hid (((onS F hB).setCell (p:=⟨b,0,none⟩) r (.int .i64 (k:Nat))).setCell (p:=⟨b,1,none⟩) r (.slice A2 (dl y) c2))
 have Y:=hid (zaT (i:=1) (zaT (i:=0) x3 I (.int .i64 (k:Nat))) (zaD (b':=b) (i:=0) (u:=.int .i64 (k:Nat)) I (fun n e=>by cases e)) (.slice A2 (dl y) c2))
 change wr.cell? ⟨b,0,none⟩=some (.int .i64 0) at q0
 change wr.cell? ⟨b,1,none⟩=some (.slice none 0 0) at q1
 have K:b<wr.heap.size:=hr.lt
 clear h0 hr l x3 I
 go_wp2
 try simp only [Exit.inBlock,Exit.then]
 refine bodyPost_ret (zaI rfl _ _ b 73 _ (0,0) _ rfl ((q.out _ _ _).out D.out) Tryz.underlying73 rfl o.out) rfl ?_
 refine ⟨E.out,.inr (.inr ⟨O.out,?_,A2,c2,?_,?_⟩)⟩
 ·rw [j.out,<-HM.out]; exact hlt
 ·rw [j.out,<-HX.out,<-H.out]; rfl
 ·rw [j.out,<-HX.out,<-H.out]; exact Y.out
abbrev fw (ro:Option Nat):Fence:={ Fence.wide with round:=ro }
def noDefer (ops:Array Oper):Bool:=ops.all fun o=>match o.op with
 | .defer _=>false
 | _=>true
theorem zbP {ops:Array Oper} (h:noDefer ops=true) {i:Nat} {o:Oper} (hi:ops[i]?=some o):∀ c,o.op≠.defer c:=fun c e=>by
 unfold noDefer at h
 rw [Array.all_eq_true_iff_forall_mem] at h
 have:=h o (Array.mem_of_getElem? hi)
 rw [e] at this
 cases this
section
variable {ro:Option Nat} {n:Nat} {P:Program} {ops:Array Oper} {Q:Exit->Act->World->Prop} {md:Region.Mode} {S:World->Prop}
theorem zcV {k:Nat}:(fw ro).depth.isSome=true->1<=k:=fun h=>by cases h
theorem zdJ {o:Oper} {a:Act} {w:World} {K:Act->World->Prop} (hd:∀ c,o.op≠.defer c) (h:Oper.wp P o a w K Q):Oper.wpIn (fw ro) n P o a w K Q:=by
 unfold Oper.wp at h
 unfold Oper.wpIn
 refine ⟨fun _ _=>trivial,?_⟩
 rw [Oper.semAt_eq (fw ro).round _ o hd]
 generalize (execOp a.eval o).run P w=r at *
 cases r with
 | ok x w' =>
  cases x <;> simp only [Oper.upon,Oper.uponIn] at h ⊢
  case value=>exact h
  case skip=>exact h
  case defer=>exact h
  case enter f args=>exact ⟨zcV,show CallsIn Fence.wide _ P f args w' _ from callsIn_wide.2 h⟩
  case row row args=>exact ⟨zcV,fun c cs _=>let ⟨v,w',r,s⟩:=h c cs; ⟨v,w',r,stepsIn_wide.2 s⟩⟩
 | halt x w'=>cases x <;> simp only [Oper.upon,Oper.uponIn] at h ⊢ <;> exact h
theorem zcW {i:Nat} {o:Oper} {v:Value} {a:Act} (hn:noDefer ops=true) (hi:ops[i]?=some o) (hy:YieldsIf P ops S o v a)
  {K:Act->World->Prop} {w:World} (hS:S w) (h:K (a.put o.dst v) w):wpOpIn (fw ro) n P ops Q i K a w:=by
 unfold Go.wpOpIn
 simp only [hi]
 rcases hy with ⟨hw,hv⟩ | ⟨hw,rfl⟩
 ·simp only [hw,if_true]
  refine zdJ (zbP hn hi) ?_
  unfold Oper.wp
  rw [hv w hS]
  exact h
 ·simp only [hw,Bool.false_eq_true,if_false]; exact ⟨fun _ _=>trivial,h⟩
theorem zfV {j:Nat} {oi oj:Oper} {v:Value} (hn:noDefer ops=true) (hj:ops[j]?=some oj) (hap:oi.apart ops oj=true)
  (hsi:∀ cs b,oi.op≠.select cs b) (hsj:∀ cs b,oj.op≠.select cs b)
  (hQ:∀ c a w,Q (.panic c) (a.put oi.dst v) w->Q (.panic c) a w) {K:Act->World->Prop} {a:Act} {w:World}
  (hy:YieldsIf P ops S oi v a) (h:wpOpIn (fw ro) n P ops Q j K (a.put oi.dst v) w) :
  wpOpIn (fw ro) n P ops Q j (fun a' w'=>YieldsIf P ops S oi v a'/\K (a'.put oi.dst v) w') a w:=by
 obtain ⟨h1,h2,h3⟩:=Oper.apart_spec hap
 have g:∀ (a:Act),YieldsIf P ops S oi v a->∀ u,YieldsIf P ops S oi v (a.put oj.dst u):=fun a hy u =>
  hy.of_same (execOp_put oi hsi a oj.dst u h3) (wanted_put oi a oj.dst u h3)
 have i:∀ d,YieldsIf P ops S oi v { a with defers:=d :: a.defers }:=fun d=>hy.of_same rfl rfl
 have k:=zbP hn hj
 unfold wpOpIn at *
 simp only [hj] at *
 rw [wanted_put oj a oi.dst v h1,about_put oj w a oi.dst v h1] at h
 split
 rotate_left
 ·rename_i hw
  simp only [hw] at h
  exact ⟨h.1,g a hy _,by rw [<-Act.put_comm a v undef h2]; exact h.2⟩
 rename_i hw
 simp only [hw,if_true] at h
 unfold Oper.wpIn at *
 rw [about_put oj w a oi.dst v h1] at h
 refine ⟨h.1,?_⟩
 have h:=h.2
 rw [Oper.semAt_eq (fw ro).round _ oj k,execOp_put oj hsj a oi.dst v h1] at h;rw [Oper.semAt_eq (fw ro).round _ oj k]
 generalize (execOp a.eval oj).run P w=r at *
 cases r with
 | ok x w' =>
  cases x <;> simp only [Oper.uponIn] at h ⊢
  case value u=>exact ⟨g a hy u,by rw [<-Act.put_comm a v u h2]; exact h⟩
  case skip=>exact ⟨g a hy _,by rw [<-Act.put_comm a v undef h2]; exact h⟩
  case defer d =>
   refine ⟨g _ (i d) _,?_⟩
   rw [<-Act.put_comm _ v undef h2,<-Act.put_defers]
   exact h
  case enter f args =>
   refine ⟨h.1,CallsIn.mono h.2 fun e w'' he=>?_⟩
   cases e with
   | returned u=>exact ⟨g a hy u,by rw [<-Act.put_comm a v u h2]; exact he⟩
   | panicked c=>exact hQ _ _ _ he
   | outgrown=>exact he
  case row row args=>exact ⟨h.1,RowsIn.mono h.2 fun u w'' he=>⟨g a hy u,by rw [<-Act.put_comm a v u h2]; exact he⟩⟩
  case round l f tmps assign body =>
   refine ⟨h.1,RoundIn.mono h.2 fun e w'' he=>?_⟩
   cases e with
   | returned u=>exact ⟨g a hy u,by rw [<-Act.put_comm a v u h2]; exact he⟩
   | panicked c=>exact hQ _ _ _ he
   | outgrown=>exact he
 | halt x w' =>
  cases x <;> simp only [Oper.uponIn] at h ⊢
  case panic u=>exact hQ _ _ _ h
def wpAnyW (ro:Option Nat) (n:Nat) (P:Program) (md:Region.Mode) (ops:Array Oper) (Q:Exit->Act->World->Prop) (S:World->Prop):Nat->Array Bool->Act->World->Prop
 | 0,listed,a,w=>Region.ready md ops listed=[]/\Q .normal a w
 | fuel+1,listed,a,w =>
  (Region.ready md ops listed=[]->Q .normal a w) /\
  ∀ i ∈ Region.ready md ops listed,wpOpIn (fw ro) n P ops Q i (fun a' w'=>S w'/\wpAnyW ro n P md ops Q S fuel (listed.setIfInBounds i true) a' w') a w
theorem zcX:∀ (fuel:Nat) (listed:Array Bool) (a:Act) (w:World),wpAnyW ro n P md ops Q S fuel listed a w->wpAnyIn (fw ro) n P md ops Q fuel listed a w
 | 0,_,_,_,h=>h
 | fuel+1,_,_,_,h=>⟨h.1,fun i hi=>wpOpIn_mono (fun a' w' h'=>zcX fuel _ a' w' h'.2) (h.2 i hi)⟩
theorem zeK {i:Nat} {oi:Oper} {v:Value} (hn:noDefer ops=true) (hi:ops[i]?=some oi) (hsel:∀ (j:Nat) (o:Oper) cs b,ops[j]?=some o->o.op≠.select cs b)
  (hQ:∀ c a w,Q (.panic c) (a.put oi.dst v) w->Q (.panic c) a w) :
  ∀ (fuel:Nat) (listed:Array Bool) (a:Act) (w:World),
   (∀ j oj,ops[j]?=some oj->j≠i->listed.getD j true=false->(∀ e ∈ oj.after,Region.binds md e=true->e.on≠i)->oi.apart ops oj=true) ->
   i ∈ Region.ready md ops listed->YieldsIf P ops S oi v a->S w ->
   wpAnyW ro n P md ops Q S fuel (listed.setIfInBounds i true) (a.put oi.dst v) w->wpAnyW ro n P md ops Q S (fuel+1) listed a w:=by
 intro fuel
 induction fuel with
 | zero =>
  intro listed a w _ hr hy hS H
  refine ⟨fun h=>(by rw [h] at hr; cases hr),fun j hj=>?_⟩
  by_cases hji:j=i
  ·subst hji; exact zcW hn hi hy hS ⟨hS,H⟩
  ·have:=ready_mono hj hji
   rw [H.1] at this
   cases this
 | succ fuel ih =>
  intro listed a w hfree hr hy hS H
  refine ⟨fun h=>(by rw [h] at hr; cases hr),fun j hj=>?_⟩
  by_cases hji:j=i
  ·subst hji; exact zcW hn hi hy hS ⟨hS,H⟩
  ·have h1:=H.2 j (ready_mono hj hji)
   obtain ⟨f,oj,g,m⟩:=mem_ready.1 hj
   have l:∀ e ∈ oj.after,Region.binds md e=true->e.on≠i:=fun e he hb heq=>by
    have h1:=m e he hb
    have h0:=(mem_ready.1 hr).1
    rw [heq] at h1
    rcases Nat.lt_or_ge i listed.size with h' | h'
    ·simp [h'] at h0 h1; rw [h0] at h1; cases h1
    ·simp [Array.getElem?_eq_none h'] at h1
   have h2:=zfV hn g (hfree j oj g hji f l) (fun cs b=>hsel i oi cs b hi) (fun cs b=>hsel j oj cs b g) hQ hy h1
   have d:∀ k ok,ops[k]?=some ok->k≠i->(listed.setIfInBounds j true).getD k true=false ->
     (∀ e ∈ ok.after,Region.binds md e=true->e.on≠i)->oi.apart ops ok=true:=fun k ok hk hki hun hno=>by
    refine hfree k ok hk hki ?_ hno
    by_cases hjk:j=k
    ·subst hjk; exact f
    ·rw [getD_set_ne true hjk] at hun; exact hun
   refine wpOpIn_mono (fun a' w' h3=>⟨h3.2.1,ih (listed.setIfInBounds j true) a' w' d (ready_mono hr (Ne.symm hji)) h3.1 h3.2.1 ?_⟩) h2
   rw [Array.setIfInBounds_comm _ _ hji]
   exact h3.2.2
theorem zfW {i:Nat} {oi:Oper} {v:Value} {fuel:Nat} {listed:Array Bool} {a:Act} {w:World} (hn:noDefer ops=true) (hi:ops[i]?=some oi)
  (hs:Region.noSelect ops=true) (hf:Region.free md ops listed i=true) (hr:(Region.ready md ops listed).contains i=true)
  (hQ:∀ c a w,Q (.panic c) (a.put oi.dst v) w->Q (.panic c) a w) (hy:YieldsIf P ops S oi v a) (hS:S w)
  (h:wpAnyW ro n P md ops Q S fuel (listed.setIfInBounds i true) (a.put oi.dst v) w):wpAnyW ro n P md ops Q S (fuel+1) listed a w :=
 zeK hn hi (Region.noSelect_spec hs) hQ fuel listed a w (Region.free_spec hi hf) (by simpa using hr) hy hS h
theorem zdg {listed:Array Bool} {a:Act} {w:World} (hr:Region.ready md ops listed=[]) (h:Q .normal a w) :
  ∀ fuel,wpAnyW ro n P md ops Q S fuel listed a w
 | 0=>⟨hr,h⟩
 | _+1=>⟨fun _=>h,by rw [hr]; simp⟩
theorem zbl {id:Nat} {a:Act} {w:World} (hm:P.follows .mixedOrders=true) (hS:S w.drew)
  (h:S w.drew->wpAnyW ro n P .any ops Q S ops.size (Array.replicate ops.size false) a w.drew):(Code.region id ops true).wpIn (fw ro) n P Q a w :=
 wpIn_region_any hm (zcX _ _ _ _ (h hS))
theorem zc6 {id:Nat} {a:Act} {w:World} (hm:P.follows .mixedOrders=true) (hS:S w.drew)
  (h:S w.drew->wpAnyW none n P .any ops Q S ops.size (Array.replicate ops.size false) a w.drew):(Code.region id ops true).wp P Q a w :=
 (wpIn_wide (n:=n)).1 (zbl (ro:=none) hm hS h)
theorem tkw (i:Nat) {oi:Oper} {v:Value} {fuel:Nat} {listed l':Array Bool} {a a':Act} {w:World}
  (hi:ops[i]?=some oi:=by simp only [List.getElem?_toArray,List.getElem?_cons_succ,List.getElem?_cons_zero]; rfl)
  (hn:noDefer ops=true:=by kernel_rfl) (hs:Region.noSelect ops=true:=by kernel_rfl) (hf:Region.free md ops listed i=true:=by kernel_rfl) (hr:(Region.ready md ops listed).contains i=true:=by kernel_rfl)
  (hQ:∀ c a w,Q (.panic c) (a.put oi.dst v) w->Q (.panic c) a w:=by exact fun _ _ _ h=>h)
  (hw:Region.wanted oi (yielded ops a.tmps)=true:=by rfl)
  (hy:∀ w,S w->(execOp a.eval oi).run P w=.ok (.value v) w:=by (intro w hSw; (try dsimp only at hSw); go_simp); first | done | with_reducible rfl)
  (hS:S w:=by assumption)
  (ha:a.put oi.dst v=a':=by (try simp only [Act.put,List.setIfInBounds_toArray,List.set_cons_zero,List.set_cons_succ]); first | done | rfl)
  (hl:listed.setIfInBounds i true=l':=by (try simp only [List.setIfInBounds_toArray,List.set_cons_zero,List.set_cons_succ]); first | done | rfl)
  (h:wpAnyW ro n P md ops Q S fuel l' a' w):wpAnyW ro n P md ops Q S (fuel+1) listed a w:=by
 subst ha hl
 exact zfW hn hi hs hf hr hQ (Or.inl ⟨hw,hy⟩) hS h
theorem rdw (i:Nat) {o:Oper} {fuel:Nat} {listed l':Array Bool} {a:Act} {w:World}
  (hr:Region.ready md ops listed=[i]:=by kernel_rfl) (hn:noDefer ops=true:=by kernel_rfl)
  (ho:ops[i]?=some o:=by simp only [List.getElem?_toArray,List.getElem?_cons_succ,List.getElem?_cons_zero]; rfl)
  (hw:Region.wanted o (yielded ops a.tmps)=true:=by rfl)
  (hl:listed.setIfInBounds i true=l':=by (try simp only [List.setIfInBounds_toArray,List.set_cons_zero,List.set_cons_succ]); first | done | rfl)
  (h:∀ K':Act->World->Prop,Shut (∀ a w,S w->(S w->wpAnyW ro n P md ops Q S fuel l' a w)->K' a w)->Oper.wp P o a w K' Q) :
  wpAnyW ro n P md ops Q S (fuel+1) listed a w:=by
 subst hl
 refine ⟨fun h0=>absurd (hr ▸ h0) (by simp),fun j hj=>?_⟩
 rw [hr,List.mem_singleton] at hj
 subst hj
 unfold wpOpIn
 simp only [ho,hw,if_true]
 exact zdJ (zbP hn ho) (h _ (show Shut _ from fun a w hS hW=>⟨hS,hW hS⟩))
theorem bkw {K:Act->World->Prop} {fuel:Nat} {l:Array Bool} {a a':Act} {w:World} (hK:Shut (∀ a w,S w->(S w->wpAnyW ro n P md ops Q S fuel l a w)->K a w)) (hS:S w)
  (ha:a=a':=by (try simp only [Act.put,List.setIfInBounds_toArray,List.set_cons_zero,List.set_cons_succ]); first | done | rfl)
  (h:S w->wpAnyW ro n P md ops Q S fuel l a' w):K a w:=by
 subst ha
 exact hK.out _ _ hS h
theorem rdy (i:Nat) {o:Oper} {fuel:Nat} {listed l':Array Bool} {a:Act} {w:World} {l m:Nat} {args:Array Value} {R:Ending->World->Prop}
  (hr:Region.ready md ops listed=[i]:=by kernel_rfl) (hn:noDefer ops=true:=by kernel_rfl)
  (ho:ops[i]?=some o:=by simp only [List.getElem?_toArray,List.getElem?_cons_succ,List.getElem?_cons_zero]; rfl)
  (hw:Region.wanted o (yielded ops a.tmps)=true:=by rfl)
  (hl:listed.setIfInBounds i true=l':=by (try simp only [List.setIfInBounds_toArray,List.set_cons_zero,List.set_cons_succ]); first | done | rfl)
  (hy:YieldAt Fence.wide m P l args w R) (he:∀ r,(Instr.yield l args).run P w=r->(execOp a.eval o).run P w=r)
  (hR:∀ e w',R e w'->∃ v,e=.returned v/\S w'/\wpAnyW ro n P md ops Q S fuel l' (a.put o.dst v) w') :
  wpAnyW ro n P md ops Q S (fuel+1) listed a w:=by
 subst hl
 refine ⟨fun h0=>absurd (hr ▸ h0) (by simp),fun j hj=>?_⟩
 rw [hr,List.mem_singleton] at hj
 subst hj
 obtain ⟨fn,tmps,assign,body,h1,h2⟩:=hy
 unfold wpOpIn
 simp only [ho,hw,if_true]
 unfold Oper.wpIn
 refine ⟨fun _ _=>trivial,?_⟩
 rw [Oper.semAt_eq (fw ro).round _ o (zbP hn ho),he _ h1]
 refine ⟨zcV,?_⟩
 refine RoundIn.mono (R:=R) ⟨h2.1,fun c cs _=>h2.2 c cs (room_wide _)⟩ fun e w' hr=>?_
 obtain ⟨v,rfl,hS,hW⟩:=hR e w' hr
 exact ⟨hS,hW⟩
end
structure Stp (E:Nat->Prop) (W W':World):Prop where
 os:W'.os=W.os
 tape:W'.tape=W.tape
 output:W'.output=W.output
 size:W.heap.size<=W'.heap.size
 block:∀ b,b<W.heap.size->¬ E b->W'.heap[b]?=W.heap[b]?
section
variable {E E':Nat->Prop} {W W' W2:World}
theorem Stp.trans (h:Stp E W W') (k:Stp E W' W2):Stp E W W2 :=
 ⟨k.os.trans h.os,k.tape.trans h.tape,k.output.trans h.output,Nat.le_trans h.size k.size,fun b hb he=>(k.block b (Nat.lt_of_lt_of_le hb h.size) he).trans (h.block b hb he)⟩
theorem Stp.mono (h:Stp E W W') (hE:∀ b,E b->E' b):Stp E' W W':=⟨h.os,h.tape,h.output,h.size,fun b hb he=>h.block b hb fun h2=>he (hE b h2)⟩
theorem Stp.of_below {B:Nat} (h:Below B W W') (hE:∀ b,B<=b->E b):Stp E W W':=⟨h.os,h.tape,h.output,h.size,fun b _ he=>h.block b (Nat.lt_of_not_le fun h2=>he (hE b h2))⟩
theorem Stp.of_on (h:Below W.heap.size W W'):Stp E W W':=⟨h.os,h.tape,h.output,h.size,fun b hb _=>h.block b hb⟩
theorem Stp.below (h:Stp E W W') {B:Nat} (hB:B<=W.heap.size) (hE:∀ b,b<B->¬ E b):Below B W W':=⟨h.os,h.tape,h.output,h.size,fun b hb=>h.block b (by omega) (hE b hb)⟩
theorem Stp.setCell (p:Addr) (v:Value) (hp:E p.block):Stp E W (W.setCell p v):=⟨rfl,rfl,rfl,by simp,fun b _ he=>Below.heap_setCell W p v b fun e=>he (e ▸ hp)⟩
theorem Stp.putObj (l:Nat) (o:Obj) (hl:E l):Stp E W (W.putObj l o):=⟨rfl,rfl,rfl,by simp,fun b _ he=>World.putObj_heap_other fun e=>he (e ▸ hl)⟩
theorem Stp.cell (h:Stp E W W') {a:Addr} {v:Value} (hc:W.cell? a=some v) (he:¬ E a.block):W'.cell? a=some v:=by
 have:=h.block a.block (World.block_lt_of_cell? W a hc) he
 rw [<-hc]
 simp only [World.cell?,this]
theorem Stp.row (h:Stp E W W') {b n:Nat} {t:TypeId} {f:Nat->Value} (hr:W.rowIs b t n f) (he:¬ E b):W'.rowIs b t n f:=by
 obtain ⟨cs,h1,h2⟩:=hr
 exact ⟨cs,(h.block b (Array.getElem?_eq_some_iff.1 h1).1 he).trans h1,h2⟩
end
def SeqW (P:Program) (gf:Nat) (lb:Array Value) (N:Nat) (Arg:Nat->Nat->World->Array Value->Prop) (E:Nat->Prop) (W:World):Prop :=
 ∀ (l:Nat) (J:Nat->World->Prop) (W1:World),Below W.heap.size W W1->(∀ b,E b->b<W1.heap.size)->(∀ k X X',J k X->Below W1.heap.size X X'->J k X') ->
  (∀ k X args,k<N->J k X->Arg W1.heap.size k X args->YieldAt Fence.wide 0 P l args X fun e X'=>e=.returned (.bool true)/\J (k+1) X'/\Stp E X X') ->
  J 0 W1->Calls P gf (#[.func (.yield l) #[] #[]] ++ lb) W1 fun e X'=>(∃ v,e=.returned v)/\J N X'/\Stp E W1 X'
theorem zee {P:Program} {g:Operand} {ps:Array Tmp} {assign body:Code} {Q:Exit->Act->World->Prop} {a:Act} {w:World} {gf:Nat} {lb:Array Value} {N:Nat} {Arg:Nat->Nat->World->Array Value->Prop} {E0:Nat->Prop}
    (hg:a.eval g=.func (.func gf) #[] lb) (eg:∀ args w,(callFunc gf args).run P w=.ok (.enter gf args) w)
    (hit:SeqW P gf lb N Arg (fun b=>E0 b∨b=w.heap.size+1) w) (hps:∀ B k X args,Arg B k X args->args.size=ps.size)
    (I:Nat->World->Prop) (hI:∀ k X X',I k X->Stp (fun b=>w.heap.size<=b) X X'->I k X') (h0:I 0 w) (hE0:∀ b,E0 b->b<w.heap.size)
    (hround:∀ k X args,k<N->w.heap.size+1<X.heap.size->I k X->Arg (w.heap.size+2) k X args->∃ a₁:Act,
      (∀ K:Act->World->Prop,K a₁ X->assign.wpIn (fw (some (w.heap.size+1))) 0 P (Exit.then K (fun _ _ _=>False)) { tmps:=(ps.zip args).foldl (fun t (p,v)=>t.setIfInBounds p v) a.tmps,defers:=[] } X) /\
      ∀ X2,Stp (fun b=>b=w.heap.size+1) X X2->I k X2->body.wpIn (fw (some (w.heap.size+1))) 0 P (fun e _ X'=>e=.normal/\I (k+1) X'/\Stp E0 X2 X') a₁ X2)
    (hdone:∀ X,I N X->Stp (fun b=>E0 b∨w.heap.size<=b) w X->X.heap[w.heap.size]?=some (.deferred (some []))->Q .normal { a with defers:={ target:=.collected w.heap.size,args:=#[] } :: a.defers } X) :
    (Code.rangeFunc g ps assign body).wp P Q a w:=by
  refine (wpIn_wide (n:=1)).1 (wpIn_rangeFunc ?_)
  intro fn hfn
  rw [show Fence.wide.round=none from rfl]
  obtain ⟨rec,c⟩:∃ rec:LoopState->Option Code->Loop,rec=fun st pe=>{ state:=st,pending:=pe,fn,tmps:=a.tmps,params:=ps,assign,body,defers:=w.heap.size }:=⟨_,rfl⟩
  obtain ⟨W1,i⟩:∃ W1,(w.alloc (.deferred (some []))).alloc (.loop (rec .ready none))=W1:=⟨_,rfl⟩
  have C:W1.heap[w.heap.size+1]?=some (.loop (rec .ready none)):=by
    rw [<-i]; have:=World.alloc_heap_new (w.alloc (.deferred (some []))) (.loop (rec .ready none)); rwa [World.size_alloc] at this
  have D:W1.heap[w.heap.size]?=some (.deferred (some [])):=by
    rw [<-i]; exact (Below.heap_alloc _ _ _ (by simp)).trans (World.alloc_heap_new w _)
  have A:W1.heap.size=w.heap.size+2:=by rw [<-i]; simp
  have m:Below w.heap.size w W1:=by rw [<-i]; exact ((Below.refl _ w).alloc (Nat.le_refl _) _).alloc (by simp) _
  have E:I 0 W1:=hI 0 w W1 h0 (Stp.of_on m)
  refine ⟨w.heap.size+1,[{ target:=.collected w.heap.size,args:=#[] }],W1,{ target:=.fn (.func gf) lb,args:=#[.func (.yield (w.heap.size+1)) #[] #[]] },W1,gf,
    #[.func (.yield (w.heap.size+1)) #[] #[]] ++ lb,W1,?_,?_,?_,?_,(fun _=>Nat.le_refl _),?_⟩
  · rw [<-i,c]; exact run_enterLoop_outer _ _ _ _ _
  · simp only [resolve,hg]
    simp [go_sem]
  · exact fun _ _=>trivial
  · simp [invoke,go_sem,eg]
  refine callsIn_wide.2 ((hit (w.heap.size+1) (fun k X=>I k X/\X.heap[w.heap.size+1]?=some (.loop (rec .ready none))/\X.heap[w.heap.size]?=some (.deferred (some []))) W1 m
    (fun b hb => by rcases hb with hb | hb; · have := hE0 b hb; omega
                    · omega)
    (fun k X X' hj hb=>⟨hI k X X' hj.1 (Stp.of_below hb fun b h=>by omega),(hb.block _ (by omega)).trans hj.2.1,(hb.block _ (by omega)).trans hj.2.2⟩) ?_ ⟨E,C,D⟩).mono ?_)
  rotate_left
  · rintro e X ⟨⟨v,rfl⟩,⟨hi,hl,hd⟩,hs⟩
    have d:=run_endLoop (P:=P) hl (by rw [c]; simp)
    rw [c] at d
    refine ⟨none,_,d,hdone _ (hI _ _ _ hi (Stp.putObj _ _ (by show w.heap.size<=_; omega))) ?_ ((World.putObj_heap_other (by omega)).trans hd)⟩
    have k1:Stp (fun b=>E0 b∨w.heap.size<=b) w W1:=Stp.of_on m
    have k2:Stp (fun b=>E0 b∨w.heap.size<=b) W1 X:=hs.mono fun b h=>h.elim .inl fun e=>.inr (by omega)
    exact (k1.trans k2).trans (Stp.putObj _ _ (.inr (by omega)))
  rintro k X args hk ⟨hi,hl,hd⟩ f
  rw [A] at f
  have j:w.heap.size+1<X.heap.size:=(Array.getElem?_eq_some_iff.1 hl).1
  have hy:=run_yield (P:=P) (args:=args) hl (by rw [c]; exact hps _ _ _ _ f)
  rw [c] at hy
  obtain ⟨a₁,z,y⟩:=hround k X args hk j hi f
  refine ⟨fn,_,assign,body,hy,roundIn_of_wpIn (F:=Fence.wide) trivial (z _ ⟨_,run_beginRound hl (by rw [c]),?_⟩)⟩
  have s2:Stp (fun b=>b=w.heap.size+1) X (X.putObj (w.heap.size+1) (.loop { rec .ready none with state:=.busy })):=Stp.putObj _ _ rfl
  have q:(X.putObj (w.heap.size+1) (.loop { rec .ready none with state:=.busy })).heap[w.heap.size+1]?=some (.loop { rec .ready none with state:=.busy }):=World.putObj_heap_same j
  have x:=(s2.block w.heap.size (by omega) (by omega)).trans hd
  have s:=hI k _ _ hi (s2.mono fun b (e:b=_)=>show w.heap.size<=b by omega)
  refine wpIn_mono (y _ s2 s) ?_
  rintro e a3 X3 ⟨rfl,r,s3⟩
  have G:(X.putObj (w.heap.size+1) (.loop { rec .ready none with state:=.busy })).heap.size=X.heap.size:=by simp
  have o:=(s3.block (w.heap.size+1) (Nat.lt_of_lt_of_le j s2.size) (fun h=>by have:=hE0 _ h; omega)).trans q
  have u:=(s3.block w.heap.size (Nat.lt_of_lt_of_le (Nat.lt_of_succ_lt j) s2.size) (fun h=>by have:=hE0 _ h; omega)).trans x
  have l:=(Array.getElem?_eq_some_iff.1 o).1
  have d:=run_endRound (P:=P) none o
  refine ⟨_,_,d,rfl,⟨?_,?_,?_⟩,?_⟩
  · exact hI _ _ _ r (Stp.putObj _ _ (by show w.heap.size<=_; omega))
  · rw [c]
    exact World.putObj_heap_same l
  · exact (World.putObj_heap_other (by omega)).trans u
  · exact ((s2.mono fun b e=>.inr e).trans (s3.mono fun b e=>.inl e)).trans (Stp.putObj _ _ (.inr rfl))
theorem zeL {q n x i:Nat} (h:i<n):msgD q (n+1) x i=msgD q n (x / q) i:=by
 unfold msgD
 rw [show n+1 - 1 - i=(n - 1 - i)+1 by omega,zcu]
theorem zeM {q n x:Nat}:msgD q (n+1) x n=x % q:=by
 unfold msgD
 rw [show n+1 - 1 - n=0 by omega,zbH]
open Go.ChangeShapes Go.WideShapes Go.ChangeAt
def ArgW (q:Nat) (add mul:Nat->Nat->Nat) (n N:Nat) (V:Nat->Nat->Nat) (B k:Nat) (X:World) (args:Array Value):Prop :=
 ∃ A c,args=#[.int .i64 (k:Nat),.slice A N c]/\IntsR X X.heap.size A N (fun j=>((spE add mul V (msgD q n k) n j:Nat):Int))/\∀ a,A=some a->B<=a.block
theorem GFU.stp {E:Nat->Prop} {w w':World} {base g P M:Nat} {m:Nat->Nat} (h:GFU w base w.heap.size g P M m) (hs:Stp E w w') (hE:∀ b,base<=b->b<w.heap.size->¬ E b):GF w' w'.heap.size g P M m:=by
 obtain ⟨A,k,c,eb,eo,ec,lb,lo,lc,x,lg,h,h1,h2,h3,h4⟩:=h
 have d:∀ {ad:Option Addr} {n:Nat} {f:Nat->Int},IntsR w w.heap.size ad n f->(∀ a,ad=some a->base<=a.block)->IntsR w' w'.heap.size ad n f:=fun {ad n f} hr ha i hi=>by
  obtain ⟨q,o,e,hq,hc⟩:=hr i hi
  exact ⟨q,o,e,Nat.lt_of_lt_of_le hq hs.size,fun j hj=>hs.cell (hc j hj) (hE q (ha _ e) hq)⟩
 exact ⟨A,k,c,eb,eo,ec,lb,lo,lc,x,lg,h.ok,h.km,hs.row h.row (hE g h1 h.lt),Nat.lt_of_lt_of_le h.lt hs.size,d h.md h4,d h.ex (fun a e=>by injection e with e; subst e; exact h2),d h.lgr (fun a e=>by injection e with e; subst e; exact h3),h.x0,h.xq,h.gen,h.lgs⟩
theorem Own.stp {E:Nat->Prop} {w w':World} {base e s n:Nat} {v:Value} {f:Nat->Nat->Value} (h:Own w base e s v n f) (hs:Stp E w w') (hE:∀ b,base<=b->¬ E b):Own w' base e s v n f :=
 h.of_block fun k hk=>hs.block k (h.lt k hk).2 (hE k (h.lt k hk).1)
theorem zie {q i p a j:Nat} {add mul:Nat->Nat->Nat} {V:Nat->Nat->Nat} (ha:a<q):spE add mul V (msgD q (i+1) (p*q+a)) (i+1) j=add (spE add mul V (msgD q i p) i j) (mul a (V i j)):=by
 have h0:0<q:=by omega
 have e1:(p*q+a) / q=p:=by rw [Nat.mul_comm,Nat.mul_add_div h0,Nat.div_eq_of_lt ha,Nat.add_zero]
 have e2:(p*q+a) % q=a:=by rw [Nat.mul_comm,Nat.mul_add_mod,Nat.mod_eq_of_lt ha]
 show add (spE add mul V (msgD q (i+1) (p*q+a)) i j) (mul (msgD q (i+1) (p*q+a) i) (V i j))=_
 rw [zeM,e2,zdv i fun s hs=>⟨(zeL hs).trans (by rw [e1]),rfl⟩]
theorem zeN (P M:Nat) (m:Nat->Nat) (N n d:Nat) (TC:Option Addr) (V:Nat->Nat->Nat) (E:Nat->Prop) (B Z bc ab yb gb fb gf l:Nat) (Wz:World) (J:Nat->World->Prop)
  (hok:FieldOk P M m) (hN:1<=N/\N<=64) (hn:n<=64) (hqn:(P ^ M) ^ n<=65536) (hV:∀ i,i<n->∀ j,j<N->V i j<P ^ M)
  (hF:∀ W,Stp (fun b=>E b∨b=ab) Wz W->W.cell? ⟨bc,4,none⟩=some (.slice TC n d)/\W.cell? ⟨yb,0,none⟩=some (.func (.yield l) #[] #[])/\W.cell? ⟨gb,0,none⟩=some (.pointer (some ⟨gf,0,none⟩)) /\
   W.cell? ⟨fb,0,none⟩=some (.func (.func 173) #[] #[.pointer (some ⟨bc,0,none⟩),.pointer (some ⟨ab,0,none⟩),.pointer (some ⟨yb,0,none⟩),.pointer (some ⟨gb,0,none⟩),.pointer (some ⟨fb,0,none⟩)])/\GF W W.heap.size gf P M m/\MRows W TC n N V)
  (hZ:Wz.heap.size=Z) (hab:B<=ab/\ab<Z) (hE:∀ b,E b->b<B) (hJ:∀ k X X',J k X->Below B X X'->J k X')
  (hY:∀ k X args,k<(P ^ M) ^ n->J k X->ArgW (P ^ M) (addF P M) (mulF P M m) n N V B k X args->YieldAt Fence.wide 0 Tryz.prog l args X fun e X'=>e=.returned (.bool true)/\J (k+1) X'/\Stp E X X') :
  ∀ r i p, i + r = n → p < (P ^ M) ^ i → ∀ (W : World) (v : Value), Stp (fun b => E b ∨ b = ab) Wz W → W.rowIs ab 3 1 (fun _ => .int .i64 ((p * (P ^ M) ^ r : Nat) : Int)) → J (p * (P ^ M) ^ r) W →
   Own W Z 3 1 v N (fun j _=>.int .i64 ((spE (addF P M) (mulF P M m) V (msgD (P ^ M) i p) i j:Nat):Int)) ->
   Calls Tryz.prog 173 #[.int .i64 (i:Nat),v,.pointer (some ⟨bc,0,none⟩),.pointer (some ⟨ab,0,none⟩),.pointer (some ⟨yb,0,none⟩),.pointer (some ⟨gb,0,none⟩),.pointer (some ⟨fb,0,none⟩)] W fun e W' =>
    e=.returned (.bool true)/\Stp (fun b=>E b∨b=ab) W W'/\W'.rowIs ab 3 1 (fun _=>.int .i64 (((p+1)*(P ^ M) ^ r:Nat):Int))/\J ((p+1)*(P ^ M) ^ r) W':=by
 have hL:=fieldLaws hok
 have bj:=hL.two
 have Q:=hok.1.2.2.2
 have ck:=hid hok
 have HV:=hid hV
 have HF:=hid hF
 have HJ:=hid hJ
 have HY:=hid hY
 have HE:=hid hE
 have HL:=hid hL
 clear hok hV hF hJ hY hE hL
 obtain ⟨T,bp⟩:=hab
 obtain ⟨cj,ci⟩:=hN
 have bf:Hid (∀ b,Z<=b->¬ (E b∨b=ab)):=hid fun b hb h=>by
  rcases h with h | h
  ·have:=HE.out b h; omega
  ·omega
 have c2:Hid (∀ b,B<=b->¬ E b):=hid fun b hb h=>by have:=HE.out b h; omega
 intro r
 induction r with
 | zero =>
  intro i p hip hp W v hW hat hj hv
  obtain rfl:i=n:=by omega
  rw [Nat.pow_zero,Nat.mul_one] at hat hj;rw [Nat.pow_zero,Nat.mul_one]
  have bk:p<65536:=by omega
  obtain ⟨A,c,rfl⟩:=hv.shape
  have HW:=hid hW
  have a8:=hid hat
  have a7:=hid hj
  have HO:=hid hv
  have b4:B<=W.heap.size:=by have:=hW.size; omega
  obtain ⟨c4,cy,_,_,_,_⟩:=HF.out W hW
  have a0:=hat.cell (i:=0) (by omega)
  have z0:=hat.frozen 0
  have bn:((i:Int) == (i:Int))=true:=by simp
  have c7:IntKind.i64.wrap ((p:Int)+1)=(p:Int)+1:=IntWalk.i64_in _ (by omega)
  have c6:IntKind.i64.wrap (p:Int)=(p:Int):=IntWalk.i64_in _ (by omega)
  clear hW hat hj hv
  go_enter Tryz.func173, Tryz.ntmps173
  go_upto_region 3 with fail
  have s1:Stp (fun b=>E b∨b=ab) W (W.setCell ⟨ab,0,none⟩ (.int .i64 ((p:Int)+1))):=Stp.setCell _ _ (.inr rfl)
  have b1:Below B W (W.setCell ⟨ab,0,none⟩ (.int .i64 ((p:Int)+1))):=(Below.refl B W).setCell (p:=⟨ab,0,none⟩) T _
  have r1:=(a8.out.set 0 (.int .i64 ((p:Int)+1))).congr (g:=fun _=>.int .i64 ((p:Int)+1)) fun t ht=>if_pos (by omega)
  obtain ⟨W1,b5⟩:=exx (W.setCell ⟨ab,0,none⟩ (.int .i64 ((p:Int)+1)))
  rw [<-b5] at s1 b1 r1 ⊢;clear b5 c4 cy a0 z0
  have kd:Below W1.heap.size W1 (World.drew W1):=(Below.refl _ _).drew
  replace s1:=s1.trans (Stp.of_on kd);replace b1:=b1.trans (kd.mono (Nat.le_trans b4 b1.size));replace r1:=zab r1 kd
  have cy:=(HF.out _ (HW.out.trans s1)).2.1
  have a1:=r1.cell (i:=0) (by omega)
  refine zc6 (n:=0) (S:=fun X=>X.cell? ⟨yb,0,none⟩=some (.func (.yield l) #[] #[])/\X.cell? ⟨ab,0,none⟩=some (.int .i64 ((p:Int)+1))) (by kernel_rfl) ⟨cy,a1⟩ (fun hHeld=>?_)
  obtain ⟨W2,hw⟩:=exx (World.drew W1)
  rw [<-hw] at hHeld s1 b1 r1 cy a1 ⊢;clear hw kd
  have b6:=HO.out.stp s1 bf.out
  refine tkw 0 (h:=tkw 1 (h:=tkw 2 (h:=tkw 3 (h:=?_))))
  clear hHeld
  refine rdw 4 (h:=fun K hK=>?_)
  go_simp
  go_wp2_with fail
  refine (zaq A N c (fun j=>((spE (addF P M) (mulF P M m) V (msgD (P ^ M) i p) i j:Nat):Int)) W2 (b6.rd rfl) b6.capL.1 (by omega)).mono ?_
  rintro e W3 ⟨A3,c3,rfl,af,kb⟩
  replace s1:=s1.trans (Stp.of_on kb);replace b1:=b1.trans (kb.mono (Nat.le_trans b4 b1.size));replace r1:=zab r1 kb
  have bq:B<=W2.heap.size:=by have:=kb.size; have:=World.block_lt_of_cell? _ _ a1; simp at this; omega
  replace cy:=cellS kb cy;replace a1:=cellS kb a1
  refine bkw hK ⟨cy,a1⟩ (h:=fun hHeld=>?_)
  clear hK K
  refine rdy 5 (hy:=HY.out p W3 _ hp (HJ.out _ _ _ a7.out b1) ⟨A3,c3,rfl,af.rd rfl,fun a e=>by
   subst e
   exact Nat.le_trans bq (af.lt a.block rfl).1⟩) (he:=fun r hr=>by go_simp) (hR:=?_)
  rintro e W4 ⟨rfl,az,ad⟩
  have s4:=s1.trans (ad.mono fun b hb=>.inl hb)
  have am:=HF.out _ (HW.out.trans s4)
  have r4:=ad.row r1 (c2.out ab T)
  refine ⟨_,rfl,⟨am.2.1,r4.cell (i:=0) (by omega)⟩,?_⟩
  have I:W4.cell? ⟨yb,0,none⟩=some (.func (.yield l) #[] #[])/\W4.cell? ⟨ab,0,none⟩=some (.int .i64 ((p:Int)+1)):=⟨am.2.1,r4.cell (i:=0) (by omega)⟩
  have H4:=hid (And.intro s4 (And.intro r4 az))
  clear hHeld cy a1 s4 r4 az ad am af kb s1 b1 r1
  try simp only [Act.put,List.setIfInBounds_toArray,List.set_cons_zero,List.set_cons_succ]
  refine tkw 6 (h:=?_)
  refine zdg (by kernel_rfl) ?_ _
  clear I
  go_wp2
  go_ret
  exact ⟨rfl,H4.out.1,H4.out.2.1.congr fun _ _=>by push_cast; rfl,H4.out.2.2⟩
 | succ r ih =>
  intro i p hip hp W v hW hat hj hv
  have b0:i<n:=by omega
  obtain ⟨q,hq⟩:=exx (P ^ M)
  have HQ:=hid hq
  rw [<-hq] at bj Q
  have IH:=hid ih
  obtain ⟨A,c,rfl⟩:=hv.shape
  have HW:=hid hW
  have HO:=hid hv
  have a8:Hid (W.rowIs ab 3 1 (fun _=>.int .i64 (((p*q+0)*q ^ r:Nat):Int))):=hid (by rw [hq,Nat.add_zero,Nat.mul_assoc,<-Nat.pow_succ']; exact hat)
  have a7:Hid (J ((p*q+0)*q ^ r) W):=hid (by rw [hq,Nat.add_zero,Nat.mul_assoc,<-Nat.pow_succ']; exact hj)
  have HP:=hid hp
  have br:Z<=W.heap.size:=by have:=hW.size; omega
  obtain ⟨c4,_,cg,_,b2,_⟩:=HF.out W hW
  have bn:((i:Int) == (n:Int))=false:=by simp; omega
  have cc:(0:Int)<=(i:Int):=by omega
  have bm:(i:Int)<(n:Int):=by omega
  have c8:IntKind.i64.wrap ((i:Int)+1)=(i:Int)+1:=IntWalk.i64_in _ (by omega)
  have cd:∀ (x y:Value) (W:World),(callFunc 173 #[x,y,.pointer (some ⟨bc,0,none⟩),.pointer (some ⟨ab,0,none⟩),.pointer (some ⟨yb,0,none⟩),.pointer (some ⟨gb,0,none⟩),.pointer (some ⟨fb,0,none⟩)]).run Tryz.prog W=.ok (.enter 173 #[x,y,.pointer (some ⟨bc,0,none⟩),.pointer (some ⟨ab,0,none⟩),.pointer (some ⟨yb,0,none⟩),.pointer (some ⟨gb,0,none⟩),.pointer (some ⟨fb,0,none⟩)]) W:=fun _ _ _=>by kernel_rfl
  clear hW hat hj hv hq hp ih
  go_enter Tryz.func173, Tryz.ntmps173
  go_wp2_with fail
  refine (zco b2).mono ?_
  rintro e W0 ⟨he,kb⟩
  rw [<-HQ.out] at he
  subst he
  have ba:Hid (Stp (fun b=>E b∨b=ab) W W0):=hid (Stp.of_on kb)
  have bg:=hid (zab a8.out kb)
  have bd:=hid (HJ.out _ _ _ a7.out (kb.mono (by omega)))
  clear kb c4 cg b2 a8 a7
  go_wp2
  go_loopg [29] q (fun gg iv wx=>∃ a:Nat,iv=.int .i64 (a:Nat)/\a<=q/\q<=a+gg/\Hid (Stp (fun b=>E b∨b=ab) W wx)/\Hid (wx.rowIs ab 3 1 (fun _=>.int .i64 (((p*q+a)*q ^ r:Nat):Int)))/\Hid (J ((p*q+a)*q ^ r) wx))
  case atStart=>exact ⟨0,rfl,by omega,by omega,ba,bg,bd⟩
  case round =>
   clear ba bg bd
   obtain ⟨a,rfl,ha,ce,HS,HA,a6⟩:=hrel
   have ch:(0:Int)<=(a:Int):=by omega
   obtain ⟨gK,bo⟩:=exx gk
   subst bo
   obtain ⟨W3,bi⟩:=exx wr
   subst bi
   by_cases hlt:a<q
   ·have ah : (a : Int) < (q : Int) := by omega
    have ak:=HO.out.stp HS.out bf.out
    have aj:Z<=W3.heap.size:=Nat.le_trans br HS.out.size
    go_wp2_with fail
    refine (zaq A N c (fun j=>((spE (addF P M) (mulF P M m) V (msgD (P ^ M) i p) i j:Nat):Int)) W3 (ak.rd rfl) ak.capL.1 (by omega)).mono ?_
    rintro e W4 ⟨A4,c4,rfl,ae,kb⟩
    obtain ⟨x,hx⟩:∃ x:Nat->Nat,x=fun j=>spE (addF P M) (mulF P M m) V (msgD (P ^ M) i p) i j:=⟨_,rfl⟩
    obtain ⟨nb,no,nc,ao,ax,_,_,_,_⟩:=ae.form (by omega)
    injection ao with hA5 _ hA6
    subst hA5 hA6
    have HX:=hid hx
    have b7:Hid (∀ j,x j<q):=hid fun j=>by rw [hx,HQ.out]; exact zcw HL.out _ _ _
    have s:Hid (Own W4 W3.heap.size 3 1 (.slice (some ⟨nb,no,none⟩) N c4) N (fun t _=>.int .i64 ((if t<0 then addF P M (x t) (mulF P M m a (V i t)) else x t:Nat):Int))):=hid (ae.congr fun t _ _ _=>by rw [if_neg (by omega),hx])
    have K4:=hid kb
    clear ae kb ak hx
    obtain ⟨c4w,_,cgw,cfw,R,D⟩:=HF.out _ (HW.out.trans HS.out)
    have C:=hid R
    have CG3:=hid cgw
    have CF3:=hid cfw
    have c4x:=cellS K4.out c4w
    obtain ⟨rb,ro,RA,rc,bs,_,x0w,_,_,O,_⟩:=D i b0
    subst bs
    have x0:=cellS K4.out x0w
    have ap:Hid (IntsR W3 W3.heap.size RA N (fun j=>((V i j:Nat):Int))):=hid O
    clear D O x0w c4w cgw cfw R
    go_upto_region 9 with fail
    clear c4x x0
    go_loopg [40] N (fun gg jv wx=>∃ j:Nat,jv=.int .i64 (j:Nat)/\j<=N/\N<=j+gg/\Hid (Own wx W3.heap.size 3 1 (.slice (some ⟨nb,no,none⟩) N c4) N (fun t _=>.int .i64 ((if t<j then addF P M (x t) (mulF P M m a (V i t)) else x t:Nat):Int)))/\Hid (Below W3.heap.size W3 wx))
    case atStart=>exact ⟨0,rfl,by omega,by omega,s,K4⟩
    case round =>
     clear s K4
     obtain ⟨j,rfl,hj,ca,s,KX⟩:=hrel
     have cb:(0:Int)<=(j:Int):=by omega
     obtain ⟨W5,bh⟩:=exx wr
     subst bh
     by_cases hlj:j<N
     ·have ai:(j:Int)<(N:Int):=by omega
      obtain ⟨vb,vo,bt,_,v0⟩:=(ap.out.on KX.out).at hlj
      subst bt
      obtain ⟨vj,F⟩:=exx (V i j)
      replace v0:W5.cell? ⟨vb,vo+j,none⟩=some (.int .i64 ((V i j:Nat):Int)):=v0;rw [<-F] at v0
      have b8:=hid F
      have a4:vj<q:=by rw [F,HQ.out]; exact HV.out i b0 j hlj
      have o:Hid (∀ (wx:World) (y:Nat),y=addF P M (x j) (mulF P M m a (V i j))->Own wx W3.heap.size 3 1 (.slice (some ⟨nb,no,none⟩) N c4) N (fun t _=>.int .i64 ((if t=j then y else if t<j then addF P M (x t) (mulF P M m a (V i t)) else x t:Nat):Int))->Own wx W3.heap.size 3 1 (.slice (some ⟨nb,no,none⟩) N c4) N (fun t _=>.int .i64 ((if t<j+1 then addF P M (x t) (mulF P M m a (V i t)) else x t:Nat):Int))):=hid fun wx y hy h=>h.congr fun t _ _ _=>by
       by_cases e:t=j
       ·subst e; rw [if_pos rfl,if_pos (Nat.lt_succ_self _),hy]
       ·rw [if_neg e]
        by_cases e2:t<j
        ·rw [if_pos e2,if_pos (by omega)]
        ·rw [if_neg e2,if_neg (by omega)]
      have u:Hid (a=0∨vj=0->x j=addF P M (x j) (mulF P M m a (V i j))):=hid fun h=>by
       have h1:mulF P M m a (V i j)=0:=by
        rcases h with h | h
        ·rw [h,HL.out.mulComm 0 _ (by rw [<-HQ.out]; omega) (by rw [<-HQ.out,<-F]; exact a4)]
         exact HL.out.mulZero (by rw [<-HQ.out,<-F]; exact a4)
        ·rw [<-F,h]
         exact HL.out.mulZero (by rw [<-HQ.out]; exact hlt)
       rw [h1,HL.out.addZero (by rw [<-HQ.out]; exact b7.out j)]
      clear F
      by_cases hz:a=0∨vj=0
      ·have bz:=hid (o.out W5 (x j) (u.out hz) (s.out.congr fun t _ _ _=>by
        by_cases e:t=j
        ·subst e; rw [if_pos rfl,if_neg (Nat.lt_irrefl _)]
        ·rw [if_neg e]))
       clear s o u
       by_cases ha00:a=0
       focus
        have U:((a:Int) != 0)=false:=by simp; omega
       rotate_left
       focus
        have U:((a:Int) != 0)=true:=by simp; omega
        have a9:((vj:Int) != 0)=false:=by simp; omega
       rotate_left
       all_goals
        clear hz ha00
        go_wp2
        go_roundg (gk - 1)
        case measure=>omega
        case rel=>exact ⟨j+1,by go_num,by omega,by omega,bz,KX⟩
      ·have U:((a:Int) != 0)=true:=by simp; omega
       have a9:((vj:Int) != 0)=true:=by simp; omega
       clear hz u
       obtain ⟨nb2,no2,nc2,bu,_,bl,_,_,L⟩:=s.out.form (by omega)
       injection bu with hA3 _ ao
       injection hA3 with hA3
       injection hA3 with hA5 hA6
       subst ao hA5 hA6
       have nq:=L j hlj 0 (by omega)
       rw [Nat.mul_one,Nat.add_zero,if_neg (Nat.lt_irrefl _)] at nq
       have cg:=cellS KX.out CG3.out
       have b3:gb≠nb:=by have:=World.block_lt_of_cell? _ _ CG3.out; simp at this; omega
       obtain ⟨xj,a3⟩:=exx (x j)
       rw [<-a3] at nq
       have a5:=hid a3
       have ar:xj<q:=by rw [a3]; exact b7.out j
       clear L a3
       go_upto_region 12 with fail
       clear v0
       have kd:Below W5.heap.size W5 (World.drew W5):=(Below.refl _ _).drew
       replace cg:=cellS kd cg;replace nq:=cellS kd nq
       refine wp_region_held_drew (S:=fun X=>X.cell? ⟨gb,0,none⟩=some (.pointer (some ⟨gf,0,none⟩))) (by kernel_rfl) cg (fun hHeld=>?_)
       obtain ⟨W6,hw⟩:=exx (World.drew W5)
       rw [<-hw] at hHeld cg nq kd ⊢
       have K6:=hid kd
       clear hw kd
       refine tkq 0 (h:=tkq 1 (h:=tkq 2 (h:=tkq 3 (h:=tkq 4 (h:=tkq 5 (h:=tkq 7 (h:=tkq 8 (h:=tkq 9 (h:=?_)))))))))
       clear hHeld
       refine rdq2 6 10 (h:=fun K hK=>?_) (h2:=fun K hK=>?_)
       ·go_simp
        refine bkq hK cg (h:=fun hHeld=>?_)
        clear hK K hHeld
        refine rdq 10 (h:=fun K hK=>?_)
        go_simp
        go_wp2_with fail
        refine (zaL (a:Int) (vj:Int) (C.out.on (onS KX.out K6.out))).mono ?_
        rintro e W7 ⟨rfl,kb⟩
        rw [<-HQ.out,zaj hlt,zaj a4]
        obtain ⟨mv,w⟩:=exx (mulF P M m a vj)
        rw [<-w]
        have a2:=hid w
        have ag:mv<q:=by rw [w,HQ.out]; exact HL.out.mulLt _ _
        replace cg:=cellS kb cg;replace nq:=cellS kb nq
        have K7:=hid (onS K6.out kb)
        clear kb K6 w
        refine bkq hK cg (h:=fun hHeld=>?_)
        clear hK K hHeld
        refine rdq 11 (h:=fun K hK=>?_)
        go_simp
        go_wp2_with fail
        refine (zbf (xj:Int) (mv:Int) (C.out.on (onS KX.out K7.out))).mono ?_
        rintro e W8 ⟨rfl,kb⟩
        rw [<-HQ.out,zaj ar,zaj ag]
        obtain ⟨sv,G⟩:=exx (addF P M xj mv)
        rw [<-G]
        have Y:Hid (sv=addF P M (x j) (mulF P M m a (V i j))):=hid (by rw [G,a5.out,a2.out,b8.out])
        replace cg:=cellS kb cg
        have K8:=hid (onS K7.out kb)
        clear kb K7 G nq
        refine bkq hK cg (h:=fun hHeld=>?_)
        clear hK K
        refine tkq 12 (h:=?_)
        clear hHeld
        refine rdq 13 (h:=fun K hK=>?_)
        have z:=s.out.on K8.out
        have nq:W8.cell? ⟨nb,no+j,none⟩=some (.int .i64 (xj:Int)):=by
         obtain ⟨b9,o9,c9,h9,_,_,_,_,L⟩:=z.form (by omega)
         injection h9 with h9 _ _
         injection h9 with h9
         injection h9 with e5 e6
         subst e5 e6
         have:=L j hlj 0 (by omega)
         rw [Nat.mul_one,Nat.add_zero,if_neg (Nat.lt_irrefl _),<-a5.out] at this
         exact this
        have zf:W8.frozen? ⟨nb,no+j,none⟩=false:=z.frozen (no+j)
        have H:=z.set (a:=j) (b:=0) hlj (by omega) (.int .i64 ((sv:Nat):Int))
        rw [Nat.mul_one,Nat.add_zero] at H
        have aq:=hid (o.out _ sv Y.out (H.congr fun t _ k hk=>by
         obtain rfl:k=0:=by omega
         by_cases e:t=j
         ·subst e; rw [if_pos ⟨rfl,rfl⟩,if_pos rfl]
         ·rw [if_neg fun h=>e h.1,if_neg e]))
        have K9:=hid ((onS KX.out K8.out).setCell (p:=⟨nb,no+j,none⟩) ax (.int .i64 ((sv:Nat):Int)))
        clear z H
        go_simp
        clear zf nq
        refine bkq hK (zaa cg (by simpa using b3)) (h:=fun hHeld=>?_)
        clear hK K hHeld
        refine wpAnyH_done (by kernel_rfl) ?_ _
        clear s KX K8 o Y a2 cg
        go_wp2
        go_roundg (gk - 1)
        case measure=>omega
        case rel=>exact ⟨j+1,by go_num,by omega,by omega,aq,K9⟩
       go_simp
       go_wp2_with fail
       refine (zaL (a:Int) (vj:Int) (C.out.on (onS KX.out K6.out))).mono ?_
       rintro e W7 ⟨rfl,kb⟩
       rw [<-HQ.out,zaj hlt,zaj a4]
       obtain ⟨mv,w⟩:=exx (mulF P M m a vj)
       rw [<-w]
       have a2:=hid w
       have ag:mv<q:=by rw [w,HQ.out]; exact HL.out.mulLt _ _
       replace cg:=cellS kb cg;replace nq:=cellS kb nq
       have K7:=hid (onS K6.out kb)
       clear kb K6 w
       refine bkq hK cg (h:=fun hHeld=>?_)
       clear hK K hHeld
       refine rdq 6 (h:=fun K hK=>?_)
       go_simp
       refine bkq hK cg (h:=fun hHeld=>?_)
       clear hK K hHeld
       refine rdq 11 (h:=fun K hK=>?_)
       go_simp
       go_wp2_with fail
       refine (zbf (xj:Int) (mv:Int) (C.out.on (onS KX.out K7.out))).mono ?_
       rintro e W8 ⟨rfl,kb⟩
       rw [<-HQ.out,zaj ar,zaj ag]
       obtain ⟨sv,G⟩:=exx (addF P M xj mv)
       rw [<-G]
       have Y:Hid (sv=addF P M (x j) (mulF P M m a (V i j))):=hid (by rw [G,a5.out,a2.out,b8.out])
       replace cg:=cellS kb cg
       have K8:=hid (onS K7.out kb)
       clear kb K7 G nq
       refine bkq hK cg (h:=fun hHeld=>?_)
       clear hK K
       refine tkq 12 (h:=?_)
       clear hHeld
       refine rdq 13 (h:=fun K hK=>?_)
       have z:=s.out.on K8.out
       have nq:W8.cell? ⟨nb,no+j,none⟩=some (.int .i64 (xj:Int)):=by
        obtain ⟨b9,o9,c9,h9,_,_,_,_,L⟩:=z.form (by omega)
        injection h9 with h9 _ _
        injection h9 with h9
        injection h9 with e5 e6
        subst e5 e6
        have:=L j hlj 0 (by omega)
        rw [Nat.mul_one,Nat.add_zero,if_neg (Nat.lt_irrefl _),<-a5.out] at this
        exact this
       have zf:W8.frozen? ⟨nb,no+j,none⟩=false:=z.frozen (no+j)
       have H:=z.set (a:=j) (b:=0) hlj (by omega) (.int .i64 ((sv:Nat):Int))
       rw [Nat.mul_one,Nat.add_zero] at H
       have aq:=hid (o.out _ sv Y.out (H.congr fun t _ k hk=>by
        obtain rfl:k=0:=by omega
        by_cases e:t=j
        ·subst e; rw [if_pos ⟨rfl,rfl⟩,if_pos rfl]
        ·rw [if_neg fun h=>e h.1,if_neg e]))
       have K9:=hid ((onS KX.out K8.out).setCell (p:=⟨nb,no+j,none⟩) ax (.int .i64 ((sv:Nat):Int)))
       clear z H
       go_simp
       clear zf nq
       refine bkq hK (zaa cg (by simpa using b3)) (h:=fun hHeld=>?_)
       clear hK K hHeld
       refine wpAnyH_done (by kernel_rfl) ?_ _
       clear s KX K8 o Y a2 cg
       go_wp2
       go_roundg (gk - 1)
       case measure=>omega
       case rel=>exact ⟨j+1,by go_num,by omega,by omega,aq,K9⟩
     ·have ai:¬ (j:Int)<(N:Int):=by omega
      obtain rfl:N=j:=by omega
      have ac:Stp (fun b=>E b∨b=ab) W3 W5:=Stp.of_on KX.out
      have cf:=cellS KX.out CF3.out
      have bb:Hid (Own W5 Z 3 1 (.slice (some ⟨nb,no,none⟩) N c4) N (fun t _=>.int .i64 ((spE (addF P M) (mulF P M m) V (msgD q (i+1) (p*q+a)) (i+1) t:Nat):Int))):=hid ((s.out.mono aj).congr fun t ht _ _=>by
       rw [if_pos ht,zie hlt,HX.out,HQ.out])
      have aw:p*q+a<q ^ (i+1):=by
       have h1:=HP.out
       rw [<-HQ.out] at h1
       have h2:(p+1)*q<=q ^ i*q:=Nat.mul_le_mul_right q h1
       rw [Nat.pow_succ];rw [Nat.add_mul,Nat.one_mul] at h2
       omega
      have bx:=hid aw
      have ih2:=IH.out (i+1) (p*q+a) (by omega)
      rw [<-HQ.out] at ih2
      have be:=hid (ih2 bx.out W5 _ (HW.out.trans (HS.out.trans ac)) (zab HA.out KX.out) (HJ.out _ _ _ a6.out (KX.out.mono (by omega))) bb.out)
      have aa:=hid ac
      clear s ac aw ih2 bb
      go_wp2_with fail
      clear cf
      refine be.out.mono ?_
      rintro e W7 ⟨rfl,au,av,ay⟩
      have bv:=hid (HS.out.trans (aa.out.trans au))
      have bw:=hid av
      have c1:=hid ay
      clear au av ay be HS HA a6 KX
      go_wp2
      go_roundg (gK - 1)
      case measure=>omega
      case rel=>exact ⟨a+1,by go_num,by omega,by omega,bv,bw,c1⟩
   ·have ah:¬ (a:Int)<(q:Int):=by omega
    obtain rfl:q=a:=by omega
    have e1:p*q+q=(p+1)*q:=by rw [Nat.add_mul,Nat.one_mul]
    have an:=HA.out
    have al:=a6.out
    rw [e1,HQ.out,Nat.mul_assoc,<-Nat.pow_succ'] at an al
    have c5:=hid an
    have c0:=hid al
    clear an al HA a6 e1
    go_wp2
    go_ret
    exact ⟨rfl,HS.out,c5.out,c0.out⟩
theorem Stp.drop {E:Nat->Prop} {a:Nat} {W W1 W':World} (h1:Below W.heap.size W W1) (h2:Stp (fun b=>E b∨b=a) W1 W') (ha:W.heap.size<=a):Stp E W W' :=
 ⟨h2.os.trans h1.os,h2.tape.trans h1.tape,h2.output.trans h1.output,Nat.le_trans h1.size h2.size,fun b hb he=>(h2.block b (Nat.lt_of_lt_of_le hb h1.size) fun h=>h.elim he fun e=>by omega).trans (h1.block b hb)⟩
theorem CodeR.good {w:World} {P M k N n:Nat} {m:Nat->Nat} {A T:Option Addr} {V:Nat->Nat->Nat} (h:CodeR w P M m A k N T n V):GoodF (P:Int) (M:Int) k (fun i=>(m i:Int)):=by
 rcases h.errs with ⟨_,h9⟩ | ⟨hg,_⟩
 ·cases h9
 ·exact hg
theorem zfi (P M:Nat) (m:Nat->Nat) (A:Option Addr) (k c N:Nat) (TC:Option Addr) (n d:Nat) (V:Nat->Nat->Nat) (bc:Nat) (w0 W:World) (E:Nat->Prop) (hC:CodeR w0 P M m A k N TC n V)
  (hbx:W.rowIs bc 27 5 (codCell (.int .i64 (P:Nat)) (.int .i64 (M:Nat)) (.slice A k c) (.int .i64 (N:Nat)) (.slice TC n d))) (hbE:¬ E bc) (hE:∀ b,E b->w0.heap.size<=b) (hw:Below w0.heap.size w0 W) (hqn:(P ^ M) ^ n<=65536) :
  SeqW Tryz.prog 172 #[.pointer (some ⟨bc,0,none⟩)] ((P ^ M) ^ n) (ArgW (P ^ M) (addF P M) (mulF P M m) n N V) E W:=by
 intro l J W1 hb1 hEB hJ hY hj0
 have ea:#[Value.func (.yield l) #[] #[]] ++ #[Value.pointer (some ⟨bc,0,none⟩)]=#[.func (.yield l) #[] #[],.pointer (some ⟨bc,0,none⟩)]:=rfl
 rw [ea];clear ea
 have G:Below w0.heap.size w0 W1:=hw.trans (hb1.mono hw.size)
 have b3:=hw.size
 have b2:=hb1.size
 have b6:bc<W.heap.size:=hbx.lt
 have ae:=hid hbE
 have HE:=hid hE
 have u:=hid hEB
 have HJ:=hid hJ
 have HY:=hid hY
 have ap:=hid hj0
 have HC:=hid (hC.on G)
 have p:=hid (zab hbx hb1)
 have U:=hid hC
 have b5:∀ (x y p1 p2 p3 p4 p5:Value) (W:World),(callFunc 173 #[x,y,p1,p2,p3,p4,p5]).run Tryz.prog W=.ok (.enter 173 #[x,y,p1,p2,p3,p4,p5]) W:=fun _ _ _ _ _ _ _ _=>by kernel_rfl
 have al:=hC.ln1
 have a5:=hC.ln2
 have hn:n<=64:=Nat.le_trans hC.n_le a5
 have ai:=fun X=>zaf (P:=Tryz.prog) 22 3 _ 8 Tryz.underlying22 Tryz.infoInt rfl (N:Int) (by omega) (by omega) (by omega) X
 simp only [Int.toNat_natCast] at ai
 have ar:=hid G
 clear hE hEB hJ hY hj0 hbx hbE hw hb1 G hC
 have kb:=aly W1 (.cells #[.func (.yield l) #[] #[]] 204)
 have ry:(W1.alloc (.cells #[.func (.yield l) #[] #[]] 204)).rowIs W1.heap.size 204 1 (fun _=>.func (.yield l) #[] #[]):=World.rowIs_alloc W1 _ _ _ (fun i hi=>match i,hi with
  | 0,_=>rfl)
 obtain ⟨W2,H⟩:=exx (W1.alloc (.cells #[.func (.yield l) #[] #[]] 204))
 rw [<-H] at kb ry
 go_enter Tryz.func172, Tryz.ntmps172
 go_upto_region 1 with fail
 rw [<-H];clear H
 obtain ⟨yb,Y⟩:=exx W1.heap.size
 rw [<-Y] at ry ⊢
 have av:W1.heap.size<=yb:=by omega
 clear Y
 have o:Hid (∀ X,Below W1.heap.size W1 X->X.cell? ⟨bc,0,none⟩=some (.int .i64 (P:Nat))/\X.cell? ⟨bc,1,none⟩=some (.int .i64 (M:Nat))/\X.cell? ⟨bc,2,none⟩=some (.slice A k c)/\X.cell? ⟨bc,3,none⟩=some (.int .i64 (N:Nat))/\X.cell? ⟨bc,4,none⟩=some (.slice TC n d)):=hid fun X hx =>
  ⟨(zab p.out hx).cell (i:=0) (by omega),(zab p.out hx).cell (i:=1) (by omega),(zab p.out hx).cell (i:=2) (by omega),(zab p.out hx).cell (i:=3) (by omega),(zab p.out hx).cell (i:=4) (by omega)⟩
 have aa:=hid ry
 have K2:=hid kb
 clear kb ry
 obtain ⟨q0,q1,q2,q3,q4⟩:=o.out _ K2.out
 have B:=HC.out.on K2.out
 go_wp2_with fail
 refine (zbL (P:Int) (M:Int) A k c (fun i=>(m i:Int)) (N:Int) TC n d (fun _=>N) (fun i j=>(V i j:Int)) W2 B.ints B.rows).mono ?_
 rintro e W3 ⟨v,rfl,hv,kb⟩
 obtain rfl:v=0:=FirstErr.unique hv B.errs
 clear hv B q0 q1 q2 q3 q4
 have a6:=onS K2.out kb
 have s:=hid (zab aa.out kb)
 have K3:=hid a6
 clear kb a6 aa K2
 obtain ⟨q0,q1,q2,q3,q4⟩:=o.out _ K3.out
 have L:=HC.out.on K3.out
 go_wp2_with fail
 refine (zbw (P:Int) (M:Int) A k c (fun i=>(m i:Int)) W3 L.ints).mono ?_
 rintro e W4 ⟨kb,D⟩
 rcases D with ⟨ah,_⟩ | ⟨_,gf,P',M',ak,am,rfl,hg,F⟩
 ·exact absurd L.good ah
 obtain rfl:P=P':=by omega
 obtain rfl:M=M':=by omega
 have em:(fun i=>((m i:Nat):Int).toNat)=m:=funext fun i=>Int.toNat_natCast _
 rw [em] at F;clear em ak am q0 q1 q2 q3 q4
 have aq:=hid F
 have r:=hid (zab s.out kb)
 have K4:=hid (onS K3.out kb)
 have b1:=K3.out.size
 have b0:=kb.size
 clear kb F L K3 s
 go_upto_region 4 with fail
 have rg:(W4.alloc (Obj.cells #[.pointer (some ⟨gf,0,none⟩)] 91)).rowIs W4.heap.size 91 1 (fun _=>.pointer (some ⟨gf,0,none⟩)):=World.rowIs_alloc W4 _ _ _ (fun i hi=>match i,hi with
  | 0,_=>rfl)
 have kg:=aly W4 (Obj.cells #[.pointer (some ⟨gf,0,none⟩)] 91)
 have q:(W4.alloc (Obj.cells #[.pointer (some ⟨gf,0,none⟩)] 91)).heap.size=W4.heap.size+1:=by simp
 obtain ⟨W5,a4⟩:=exx (W4.alloc (Obj.cells #[.pointer (some ⟨gf,0,none⟩)] 91))
 rw [<-a4] at rg kg q ⊢;clear a4;rw [<-q]
 obtain ⟨gb,w⟩:=exx W4.heap.size
 rw [<-w] at rg q ⊢
 have ra:(W5.alloc (Obj.cells #[.int .i64 0] 3)).rowIs W5.heap.size 3 1 (fun _=>.int .i64 ((0:Nat):Int)):=World.rowIs_alloc W5 _ _ _ (fun i hi=>match i,hi with
  | 0,_=>rfl)
 have ka:=aly W5 (Obj.cells #[.int .i64 0] 3)
 have C:(W5.alloc (Obj.cells #[.int .i64 0] 3)).heap.size=W5.heap.size+1:=by simp
 obtain ⟨W6,a3⟩:=exx (W5.alloc (Obj.cells #[.int .i64 0] 3))
 rw [<-a3] at ra ka C ⊢;clear a3
 obtain ⟨ab,z⟩:=exx W5.heap.size
 rw [<-z] at ra ⊢
 have an:=hid q
 have ao:=hid C
 have ac:=hid w
 have af:=hid z
 clear q C w z
 go_upto_region 6 with fail
 have rf:(W6.alloc (Obj.cells #[.func (.func 173) #[] #[.pointer (some ⟨bc,0,none⟩),.pointer (some ⟨ab,0,none⟩),.pointer (some ⟨yb,0,none⟩),.pointer (some ⟨gb,0,none⟩),.pointer (some ⟨W6.heap.size,0,none⟩)]] 204)).rowIs W6.heap.size 204 1 (fun _=>.func (.func 173) #[] #[.pointer (some ⟨bc,0,none⟩),.pointer (some ⟨ab,0,none⟩),.pointer (some ⟨yb,0,none⟩),.pointer (some ⟨gb,0,none⟩),.pointer (some ⟨W6.heap.size,0,none⟩)]):=World.rowIs_alloc W6 _ _ _ (fun i hi=>match i,hi with
  | 0,_=>rfl)
 have kf:=aly W6 (Obj.cells #[.func (.func 173) #[] #[.pointer (some ⟨bc,0,none⟩),.pointer (some ⟨ab,0,none⟩),.pointer (some ⟨yb,0,none⟩),.pointer (some ⟨gb,0,none⟩),.pointer (some ⟨W6.heap.size,0,none⟩)]] 204)
 obtain ⟨W7,a2⟩:=exx (W6.alloc (Obj.cells #[.func (.func 173) #[] #[.pointer (some ⟨bc,0,none⟩),.pointer (some ⟨ab,0,none⟩),.pointer (some ⟨yb,0,none⟩),.pointer (some ⟨gb,0,none⟩),.pointer (some ⟨W6.heap.size,0,none⟩)]] 204))
 rw [<-a2] at rf kf ⊢;clear a2
 obtain ⟨fb,Z⟩:=exx W6.heap.size
 rw [<-Z] at rf ⊢
 have ax:=rf.lt
 have au:=r.out.lt
 have b4:=rg.lt
 have b7:=ra.lt
 have az:=kg.size
 have ay:=ka.size
 have ag:=kf.size
 have w:W4.heap.size<=gb:=by have:=ac.out; omega
 have z:W5.heap.size<=ab:=by have:=af.out; omega
 replace Z:W6.heap.size<=fb:=by omega
 have O:=hid (zab rg (onS ka kf))
 have R:=hid (zab ra kf)
 have Q:=hid rf
 have a9:=hid (onS (onS kg ka) kf)
 have I:=onS K4.out a9.out
 have kd:Below W7.heap.size W7 (World.drew W7):=(Below.refl _ _).drew
 have q3:=(o.out _ (onS I kd)).2.2.2.1
 have f0:=cellS kd (rf.cell (i:=0) (by omega))
 have K7:=hid I
 clear rf kf ka kg ra rg I ac af an ao
 refine wp_region_held_drew (S:=fun X=>X.cell? ⟨fb,0,none⟩=some (.func (.func 173) #[] #[.pointer (some ⟨bc,0,none⟩),.pointer (some ⟨ab,0,none⟩),.pointer (some ⟨yb,0,none⟩),.pointer (some ⟨gb,0,none⟩),.pointer (some ⟨fb,0,none⟩)])/\X.cell? ⟨bc,3,none⟩=some (.int .i64 (N:Nat))) (by kernel_rfl) ⟨f0,q3⟩ (fun hHeld=>?_)
 obtain ⟨W8,hw⟩:=exx (World.drew W7)
 rw [<-hw] at hHeld f0 q3 kd ⊢
 have KD:=hid kd
 have aw:=kd.size
 clear hw kd
 have hF:∀ W,Stp (fun b=>E b∨b=ab) W8 W->W.cell? ⟨bc,4,none⟩=some (.slice TC n d)/\W.cell? ⟨yb,0,none⟩=some (.func (.yield l) #[] #[])/\W.cell? ⟨gb,0,none⟩=some (.pointer (some ⟨gf,0,none⟩)) /\
   W.cell? ⟨fb,0,none⟩=some (.func (.func 173) #[] #[.pointer (some ⟨bc,0,none⟩),.pointer (some ⟨ab,0,none⟩),.pointer (some ⟨yb,0,none⟩),.pointer (some ⟨gb,0,none⟩),.pointer (some ⟨fb,0,none⟩)])/\GF W W.heap.size gf P M m/\MRows W TC n N V:=fun W hs=>by
  have a1:Below w0.heap.size w0 W8:=ar.out.trans ((onS K7.out KD.out).mono (by omega))
  have aj:Below w0.heap.size w0 W:=a1.trans (hs.below a1.size fun b hb he=>by
   rcases he with he | he
   ·have:=HE.out b he; omega
   ·omega)
  have a7:=onS a9.out KD.out
  refine ⟨?_,?_,?_,?_,?_,(U.out.on aj).rows⟩
  ·exact hs.cell ((zab p.out (onS K7.out KD.out)).cell (i:=4) (by omega)) fun he=>by
    rcases he with he | he
    ·exact ae.out he
    ·have he:bc=ab:=he
     omega
  ·exact hs.cell (cellS a7 (r.out.cell (i:=0) (by omega))) fun he=>by
    rcases he with he | he
    ·have he:E yb:=he
     have:=u.out yb he; omega
    ·have he:yb=ab:=he
     omega
  ·exact hs.cell (cellS KD.out (O.out.cell (i:=0) (by omega))) fun he=>by
    rcases he with he | he
    ·have he:E gb:=he
     have:=u.out gb he; omega
    ·have he:gb=ab:=he
     omega
  ·exact hs.cell (cellS KD.out (Q.out.cell (i:=0) (by omega))) fun he=>by
    rcases he with he | he
    ·have he:E fb:=he
     have:=u.out fb he; omega
    ·have he:fb=ab:=he
     omega
  ·exact aq.out.stp ((Stp.of_on a7).trans hs) fun b hb1 hb2 he=>by
    rcases he with he | he
    ·have:=u.out b he; omega
    ·omega
 have HF:=hid hF
 have Q3:=hid q3
 clear hF
 refine tkq 0 (h:=tkq 1 (h:=tkq 2 (h:=?_)))
 clear hHeld
 refine rdq 3 (h:=fun K hK=>?_)
 have ro:(W8.alloc (Obj.cells (madeCells #[Value.int .i64 0] N) 3)).rowIs W8.heap.size 3 N (fun _=>.int .i64 0):=World.rowIs_made W8 (.int .i64 0) N 3
 have ko:=aly W8 (Obj.cells (madeCells #[Value.int .i64 0] N) 3)
 go_simp
 obtain ⟨W9,hw⟩:=exx (W8.alloc (Obj.cells (madeCells #[Value.int .i64 0] N) 3))
 rw [<-hw] at ro ko ⊢;clear hw;replace f0:=cellS ko f0;replace q3:=cellS ko q3
 have a0:=zeN P M m N n d TC V E W1.heap.size W8.heap.size bc ab yb gb fb gf l W8 J U.out.fld ⟨al,a5⟩ hn hqn U.out.lt HF.out rfl ⟨by omega,by omega⟩ u.out HJ.out HY.out n 0 0 (by omega) (by rw [Nat.pow_zero]; omega) W9 (.slice (some ⟨W8.heap.size,0,none⟩) N N) (Stp.of_on ko) (by
  rw [Nat.zero_mul]
  exact zab R.out (onS KD.out ko)) (by
  rw [Nat.zero_mul]
  exact HJ.out _ _ _ ap.out (onS (onS K7.out KD.out) ko)) ((zbW ro (Nat.le_refl _) (by unfold maxLen; omega)).congr fun _ _ _ _=>rfl)
 have K9:=hid (onS (onS K7.out KD.out) ko)
 have KO:=hid ko
 have ad:=hid a0
 clear a0 ro ko
 refine bkq hK ⟨f0,q3⟩ (h:=fun hHeld=>?_)
 clear hK K hHeld
 refine rdq 4 (h:=fun K hK=>?_)
 go_simp
 go_wp2_with fail
 refine ad.out.mono ?_
 rintro e W10 ⟨rfl,a,_,g⟩
 rw [Nat.zero_add,Nat.one_mul] at g
 have a8:=HF.out W10 ((Stp.of_on KO.out).trans a)
 have T:Hid (J ((P ^ M) ^ n) W10/\Stp E W1 W10):=hid ⟨g,Stp.drop K9.out a (by omega)⟩
 have q10:=((Stp.of_on KO.out).trans a).cell Q3.out fun he=>by
  rcases he with he | he
  ·exact ae.out he
  ·have he:bc=ab:=he
   omega
 refine bkq hK ⟨a8.2.2.2.1,q10⟩ (h:=fun hHeld=>?_)
 clear hK K hHeld g a8 a q10 ad
 refine wpAnyH_done (by kernel_rfl) ?_ _
 go_wp2
 refine bodyPost_end (results_none rfl _ _ _) rfl ?_
 exact ⟨⟨_,rfl⟩,T.out⟩
theorem zfj {q:Nat} (hq:0<q):∀ {n s t:Nat},s<t->t<q ^ n->∃ i,i<n/\(∀ j,j<i->msgD q n s j=msgD q n t j)/\msgD q n s i<msgD q n t i
 | 0,s,t,h,ht=>by rw [Nat.pow_zero] at ht; omega
 | n + 1, s, t, h, ht => by
  have ht2:t / q<q ^ n:=Nat.div_lt_of_lt_mul (by rw [Nat.mul_comm,<-Nat.pow_succ]; exact ht)
  by_cases e:s / q=t / q
  ·refine ⟨n,by omega,fun j hj=>by rw [zeL hj,zeL hj,e],?_⟩
   rw [zeM,zeM]
   have h1:=Nat.div_add_mod s q
   have h2:=Nat.div_add_mod t q
   rw [e] at h1
   omega
  ·have hlt:s / q<t / q:=by
    have:=Nat.div_le_div_right (c:=q) (Nat.le_of_lt h)
    omega
   obtain ⟨i,h1,h2,h3⟩:=zfj hq hlt ht2
   exact ⟨i,by omega,fun j hj=>by rw [zeL (by omega),zeL (by omega)]; exact h2 j hj,by rw [zeL h1,zeL h1]; exact h3⟩
section
variable {q n N:Nat} {add mul:Nat->Nat->Nat} {V:Nat->Nat->Nat}
theorem zef (hL:FieldLaws q add mul) (hV:RrefN q n N V) {s t:Nat} (h:s<t) (ht:t<q ^ n) :
  LexLt (fun j=>((spE add mul V (msgD q n s) n j:Nat):Int)) (fun j=>((spE add mul V (msgD q n t) n j:Nat):Int)) N:=by
 have hq:0<q:=by have:=hL.two; omega
 obtain ⟨pv,hE⟩:=hV
 obtain ⟨i,hi,h1,h2⟩:=zfj hq h ht
 refine ⟨pv i,hE.pvlt i hi,fun j hj=>?_,?_⟩
 ·show ((spE add mul V (msgD q n s) n j:Nat):Int)=((spE add mul V (msgD q n t) n j:Nat):Int)
  rw [zcM n fun u hu=>?_]
  by_cases g:u<i
  ·rw [h1 u g]
  have a:V u j=0:=hE.lead u hu j (by
   by_cases e:u=i
   ·rw [e]; exact hj
   ·have:=hE.inc i u (by omega) hu
    omega)
  rw [a,hL.mulZero (zdU hq),hL.mulZero (zdU hq)]
 show ((spE add mul V (msgD q n s) n (pv i):Nat):Int)<((spE add mul V (msgD q n t) n (pv i):Nat):Int)
 rw [hE.spE_pv hL (fun _ _=>zdU hq) hi,hE.spE_pv hL (fun _ _=>zdU hq) hi]
 omega
theorem zjk {x:Nat->Nat} (hx:InSp q add mul n N V x):∃ t,t<q ^ n/\∀ j,j<N->x j=spE add mul V (msgD q n t) n j:=by
 obtain ⟨c,h1,h2⟩:=hx
 refine ⟨valN q (fun j=>c (n - 1 - j)) n,za4 fun i hi=>h1 _ (by omega),fun j hj=>?_⟩
 rw [h2 j hj]
 refine zcM n fun u hu=>?_
 unfold msgD
 rw [za1 (fun i hi=>h1 _ (by omega)) _ (by omega),show n - 1 - (n - 1 - u)=u by omega]
theorem zjV (hL:FieldLaws q add mul) (t:Nat):InSp q add mul n N V (fun j=>spE add mul V (msgD q n t) n j):=⟨msgD q n t,fun _ _=>zdU (by have:=hL.two; omega),fun _ _=>rfl⟩
end
def wtL (x:List Int):Nat:=x.countP fun a=>a != 0
def wtN (f:Nat->Nat):Nat->Nat
 | 0=>0
 | j+1=>wtN f j+if f j=0 then 0 else 1
def cntK (wt:Nat->Nat) (t:Nat):Nat->Nat
 | 0=>0
 | k+1=>cntK wt t k+if wt k=t then 1 else 0
theorem zeg (wt:Nat->Nat) (t:Nat):∀ k,cntK wt t k=(List.range k).countP fun x=>wt x == t
 | 0=>rfl
 | k+1=>by
  rw [List.range_succ,List.countP_append,<-zeg wt t k]
  show cntK wt t k+_=_
  by_cases e:wt k=t <;> simp [e]
theorem zg3 (wt:Nat->Nat) (t:Nat):∀ k,cntK wt t k<=k
 | 0=>Nat.le_refl _
 | k+1=>by
  have:=zg3 wt t k
  show cntK wt t k+_<=_
  split <;> omega
theorem zg4 (x:List Int) (a:Int):wtL (x ++ [a])=wtL x+if a=0 then 0 else 1:=by
 unfold wtL
 rw [List.countP_append]
 by_cases e:a=0 <;> simp [e]
theorem zfk (f:Nat->Nat):∀ n,wtL ((List.range n).map fun j=>((f j:Nat):Int))=wtN f n
 | 0=>rfl
 | n+1=>by
  rw [List.range_succ,List.map_append]
  show wtL (_ ++ [((f n:Nat):Int)])=_
  rw [zg4,zfk f n]
  show _=wtN f n+_
  by_cases e:f n=0
  ·rw [if_pos e,if_pos (by omega)]
  ·rw [if_neg e,if_neg (by omega)]
def endsW (l:List (List Int × Int)) (v t:Nat):Nat:=l.countP fun x=>x.2.toNat == v && wtL x.1 == t
theorem zg5 (l:List (List Int × Int)) (p:Nat->Nat) (d v t:Nat) (hp:∀ t,p t=endsW l v t):shiftP d p t=l.countP fun x=>x.2.toNat == v && wtL x.1+d == t:=by
 unfold shiftP
 by_cases h:d<=t
 ·rw [if_pos h,hp]
  unfold endsW
  congr 1
  funext x
  have:(wtL x.1 == t - d)=(wtL x.1+d == t):=by rw [Bool.eq_iff_iff,beq_iff_eq,beq_iff_eq]; omega
  rw [this]
 rw [if_neg h,eq_comm,List.countP_eq_zero]
 intro x _
 rw [Bool.and_eq_true,beq_iff_eq,beq_iff_eq]
 omega
theorem zg6 (T:Trel) (i u t:Nat) (prev:Nat->Nat->Nat) (l:List (List Int × Int)) (hl:∀ x,x ∈ l->0<=x.2) (hp:∀ v t,prev v t=endsW l v t):∀ m,(∀ j,j<m->0<=T.fr i j)->endsW (l.flatMap (T.ext i m)) u t=T.pwE prev i m u t:=by
 intro m
 induction m with
 | zero =>
  intro _
  have:l.flatMap (T.ext i 0)=[]:=by
   rw [List.flatMap_eq_nil_iff]
   intro x _
   simp [Trel.ext,Trel.outs]
  rw [this]
  rfl
 | succ m ih =>
  intro hm
  show _=T.pwE prev i m u t+if (T.to i m).toNat=u then shiftP (T.dg i m) (prev (T.fr i m).toNat) t else 0
  rw [<-ih fun j hj=>hm j (by omega),zg5 l _ (T.dg i m) (T.fr i m).toNat t (hp _)]
  have h0:=hm m (by omega)
  clear hp ih hm
  unfold endsW
  induction l with
  | nil=>simp
  | cons a l ih =>
   have ih:=ih fun x hx=>hl x (by simp [hx])
   have ha:=hl a (by simp)
   have hw:wtL (a.1 ++ [T.lb i m])=wtL a.1+T.dg i m:=zg4 _ _
   simp only [List.flatMap_cons,List.countP_append,ih,Trel.ext_succ,List.countP_cons]
   by_cases e:T.fr i m=a.2
   ·by_cases e2:(T.to i m).toNat=u
    ·simp [e,e2,hw]; omega
    ·simp [e,e2]
   ·have e3:¬ a.2.toNat=(T.fr i m).toNat:=by omega
    by_cases e2:(T.to i m).toNat=u
    ·simp [e,e2,e3]; omega
    ·simp [e,e2]
theorem Trel.pw_lev {T:Trel} (h:T.Proper):∀ i,i<=T.n->∀ u t,T.pw i u t=endsW (T.lev i) u t:=by
 intro i
 induction i with
 | zero =>
  intro _ u t
  show (if u=0 then mono 0 t else 0)=_
  unfold endsW Trel.lev mono
  have e1:wtL []=0:=rfl
  by_cases e:u=0
  ·subst e
   by_cases e2:t=0
   ·subst e2; rfl
   ·have:¬ 0=t:=fun h=>e2 h.symm
    simp [e1,e2,this]
  ·have:¬ 0=u:=fun h=>e h.symm
   simp [e,this]
 | succ i ih =>
  intro hi u t
  show T.pwE _ i (T.el i) u t=_
  exact (zg6 T i u t _ _ (fun x hx=>(Trel.lev_in h i (by omega) x hx).2.1) (ih (by omega)) _ fun j hj=>by
   have:=h.shape.ins i (by omega) j hj
   unfold Trel.inside at this
   omega).symm
theorem Trel.lev_apart {T:Trel} (h:T.Proper):∀ i,i<=T.n->(T.lev i).Pairwise fun x y=>x.1≠y.1:=by
 intro i
 induction i with
 | zero=>intro _; exact List.pairwise_singleton _ _
 | succ i ih =>
  intro hi
  show ((T.lev i).flatMap (T.ext i (T.el i))).Pairwise _
  rw [List.pairwise_flatMap]
  constructor
  ·intro x _
   unfold Trel.ext
   rw [List.pairwise_map]
   refine List.Pairwise.imp_of_mem (R:=fun a b=>a≠b) ?_ ((List.nodup_range (n:=T.el i)).filter _)
   intro a b ha hb hab e
   have ha:=Trel.outs_mem.1 ha
   have hb:=Trel.outs_mem.1 hb
   have e:=List.append_cancel_left e
   injection e with e _
   exact hab (Trel.edge_uniq (h.sec i (by omega)) ha.1 hb.1 (ha.2.trans hb.2.symm) e)
  ·refine (ih (by omega)).imp ?_
   intro x y hxy a ha b hb e
   unfold Trel.ext at ha hb
   rw [List.mem_map] at ha hb
   obtain ⟨p,_,rfl⟩:=ha
   obtain ⟨r,_,rfl⟩:=hb
   exact hxy (List.append_inj_left' e rfl)
def Trel.PathLv (T:Trel) (i:Nat) (y:Nat->Nat) (v:Nat):Prop :=
 ∃ nd:Nat->Nat,nd 0=0/\nd i=v/\∀ s,s<i->∃ j,j<T.el s/\T.fr s j=(nd s:Nat)/\T.lb s j=(y s:Nat)/\T.to s j=(nd (s+1):Nat)
theorem Trel.lev_to {T:Trel} {y:Nat->Nat}:∀ i v,T.PathLv i y v->((List.range i).map fun s=>((y s:Nat):Int),(v:Int)) ∈ T.lev i
 | 0,v,⟨nd,h0,hv,_⟩=>by
  obtain rfl:v=0:=by omega
  exact List.mem_singleton.2 rfl
 | i+1,v,⟨nd,h0,hv,h⟩=>by
  obtain ⟨j,hj,h1,h2,h3⟩:=h i (by omega)
  have ih:=Trel.lev_to i (nd i) ⟨nd,h0,rfl,fun s hs=>h s (by omega)⟩
  refine List.mem_flatMap.2 ⟨_,ih,List.mem_map.2 ⟨j,Trel.outs_mem.2 ⟨hj,h1⟩,?_⟩⟩
  rw [h2,h3,hv,List.range_succ,List.map_append]
  rfl
theorem Trel.lev_of {T:Trel} (h:T.Proper):∀ i,i<=T.n->∀ x,x ∈ T.lev i->∃ y v,x=((List.range i).map fun s=>((y s:Nat):Int),((v:Nat):Int))/\T.PathLv i y v:=by
 intro i
 induction i with
 | zero =>
  intro _ x hx
  obtain rfl:=List.mem_singleton.1 hx
  exact ⟨fun _=>0,0,rfl,fun _=>0,rfl,rfl,fun s hs=>by omega⟩
 | succ i ih =>
  intro hi x hx
  obtain ⟨z,hz,hx⟩:=List.mem_flatMap.1 hx
  obtain ⟨y,v,rfl,nd,h0,hv,hp⟩:=ih (by omega) z hz
  obtain ⟨j,hj,rfl⟩:=List.mem_map.1 hx
  obtain ⟨hj,hf⟩:=Trel.outs_mem.1 hj
  have hl:=(h.lbL (i:=i) (by omega) hj).2
  have ht:=(h.toL (i:=i) (by omega) hj).2
  refine ⟨fun s=>if s<i then y s else (T.lb i j).toNat,(T.to i j).toNat,?_,fun s=>if s<=i then nd s else (T.to i j).toNat,?_,?_,?_⟩
  ·rw [List.range_succ,List.map_append]
   refine Prod.ext ?_ ht.symm
   show List.map _ _ ++ [T.lb i j]=_ ++ [(((if i<i then y i else (T.lb i j).toNat):Nat):Int)]
   rw [if_neg (Nat.lt_irrefl _),hl]
   congr 1
   refine List.map_congr_left fun s hs=>?_
   show ((y s:Nat):Int)=((if s<i then y s else (T.lb i j).toNat:Nat):Int)
   rw [if_pos (List.mem_range.1 hs)]
  ·show (if 0<=i then nd 0 else _)=0
   rw [if_pos (Nat.zero_le _),h0]
  ·show (if i+1<=i then _ else _)=_
   rw [if_neg (by omega)]
  ·intro s hs
   by_cases e:s=i
   ·subst e
    refine ⟨j,hj,?_,?_,?_⟩
    ·show _=(((if s<=s then nd s else _):Nat):Int)
     rw [if_pos (Nat.le_refl _),hv]; exact hf
    ·show _=(((if s<s then y s else _):Nat):Int)
     rw [if_neg (Nat.lt_irrefl _)]; exact hl.symm
    ·show _=(((if s+1<=s then _ else _):Nat):Int)
     rw [if_neg (by omega)]; exact ht.symm
   ·obtain ⟨r,hr,h1,h2,h3⟩:=hp s (by omega)
    refine ⟨r,hr,?_,?_,?_⟩
    ·show _=(((if s<=i then nd s else _):Nat):Int)
     rw [if_pos (by omega)]; exact h1
    ·show _=(((if s<i then y s else _):Nat):Int)
     rw [if_pos (by omega)]; exact h2
    ·show _=(((if s+1<=i then _ else _):Nat):Int)
     rw [if_pos (by omega)]; exact h3
section
variable {q n N:Nat} {add mul:Nat->Nat->Nat} {V:Nat->Nat->Nat} {T:Trel}
def wtK (q:Nat) (add mul:Nat->Nat->Nat) (n N:Nat) (V:Nat->Nat->Nat) (k:Nat):Nat:=wtN (fun j=>spE add mul V (msgD q n k) n j) N
theorem zg7 (hL:FieldLaws q add mul) (hV:RrefN q n N V) (hP:T.Proper) (hN:T.n=N) (hW:∀ x,T.PathW x↔InSp q add mul n N V x) :
  List.Perm ((T.lev N).map (·.1)) ((List.range (q ^ n)).map fun k=>(List.range N).map fun j=>((spE add mul V (msgD q n k) n j:Nat):Int)):=by
 refine (List.perm_ext_iff_of_nodup ?_ ?_).2 fun a=>?_
 ·exact List.pairwise_map.2 (Trel.lev_apart hP N (by omega))
 ·refine List.pairwise_map.2 (List.Pairwise.imp_of_mem (R:=fun a b=>a<b) ?_ List.pairwise_lt_range)
  intro s t _ ht hst e
  obtain ⟨i,hi,_,c⟩:=zef hL hV hst (List.mem_range.1 ht)
  have:=List.map_inj_left.1 e i (List.mem_range.2 hi)
  dsimp only at c this
  omega
 rw [List.mem_map,List.mem_map]
 constructor
 ·rintro ⟨x,hx,rfl⟩
  obtain ⟨y,v,rfl,nd,h0,_,hp⟩:=Trel.lev_of hP N (by omega) x hx
  obtain ⟨t,ht,he⟩:=zjk ((hW y).1 ⟨nd,h0,by rw [hN]; exact hp⟩)
  exact ⟨t,List.mem_range.2 ht,List.map_congr_left fun j hj=>by rw [he j (List.mem_range.1 hj)]⟩
 rintro ⟨k,hk,rfl⟩
 obtain ⟨nd,h0,hp⟩:=(hW _).2 (zjV hL k)
 exact ⟨_,Trel.lev_to N _ ⟨nd,h0,rfl,by rw [<-hN]; exact hp⟩,rfl⟩
theorem zjl (hL:FieldLaws q add mul) (hV:RrefN q n N V) (hP:T.Proper) (hN:T.n=N) (hW:∀ x,T.PathW x↔InSp q add mul n N V x) (t:Nat):T.pw N 0 t=cntK (wtK q add mul n N V) t (q ^ n):=by
 rw [Trel.pw_lev hP N (by omega),zeg]
 have h1:endsW (T.lev N) 0 t=((T.lev N).map (·.1)).countP fun x=>wtL x == t:=by
  unfold endsW
  rw [List.countP_map]
  refine List.countP_congr fun x hx=>?_
  have h2:=Trel.lev_in hP N (by omega) x hx
  have h3:T.W N=1:=by rw [<-hN]; exact hP.wn
  have h4:x.2.toNat=0:=by omega
  simp [h4]
 rw [h1,(zg7 hL hV hP hN hW).countP_eq,List.countP_map]
 refine List.countP_congr fun k _=>?_
 show (wtL _ == t)=true↔_
 rw [zfk]
 rfl
end
theorem zeO {q B:Nat} {d:Nat->Nat}:∀ m,(∀ i,i<m->q ^ d i<=B)->powS q d m<=m*B
 | 0,_=>Nat.zero_le _
 | m+1,h=>by
  have h1:=zeO m fun i hi=>h i (by omega)
  have h2:=h m (by omega)
  have h3:powS q d (m+1)=powS q d m+q ^ d m:=rfl
  rw [h3,Nat.add_mul,Nat.one_mul]
  omega
section
variable {q n N:Nat} {add mul:Nat->Nat->Nat} {V:Nat->Nat->Nat} {pv:Nat->Nat} {R:Nat->Nat->Nat} {T:Trel}
theorem zg8 (hq:2<=q) (hqn:q ^ n<=1024) (h1:1<=N) (h2:N<=64):SizeIn q n N pv R:=by
 have top:∀ D:Nat->Bool,q ^ cntB D n<=1024:=fun D=>Nat.le_trans (Nat.pow_le_pow_right (by omega) (ziy D n)) hqn
 have e0:cntB (actA pv R N 0) n=0:=zbg (fun s=>zcP s) n
 have eN:cntB (actA pv R N N) n=0:=zbg (fun s=>zgK s) n
 constructor
 ·obtain ⟨m,rfl⟩:∃ m,N=m+1:=⟨N - 1,by omega⟩
  rw [zd7 (q:=q) (d:=fun i=>cntB (actA pv R (m+1) i) n) (m+1)]
  have h3:powS q (fun i=>cntB (actA pv R (m+1) (i+1)) n) (m+1)=powS q (fun i=>cntB (actA pv R (m+1) (i+1)) n) m+q ^ cntB (actA pv R (m+1) (m+1)) n:=rfl
  have h4:=zeO (q:=q) (B:=1024) (d:=fun i=>cntB (actA pv R (m+1) (i+1)) n) m fun i _=>top _
  rw [h3,eN,e0,Nat.pow_zero]
  have:m*1024<=63*1024:=Nat.mul_le_mul_right _ (by omega)
  omega
 have h4:=zeO (q:=q) (B:=1024) (d:=fun i=>cntB (actE pv R N i) n) N fun i _=>top _
 have:N*1024<=64*1024:=Nat.mul_le_mul_right _ h2
 omega
theorem zg9 (f:Nat->Nat):∀ n,wtN f n<=n
 | 0=>Nat.le_refl _
 | n+1=>by
  have:=zg9 f n
  show wtN f n+_<=_
  split <;> omega
theorem ziC {f:Nat->Nat}:∀ {n i:Nat},i<n->f i≠0->1<=wtN f n
 | 0,i,h,_=>by omega
 | n + 1, i, h, hi => by
  show 1<=wtN f n+_
  by_cases e:i=n
  ·subst e; rw [if_neg hi]; omega
  ·have:=ziC (n:=n) (i:=i) (by omega) hi
   omega
theorem zha {f:Nat->Nat}:∀ {n:Nat},(∀ i,i<n->f i=0)->wtN f n=0
 | 0,_=>rfl
 | n+1,h=>by
  show wtN f n+_=0
  rw [zha fun i hi=>h i (by omega),if_pos (h n (by omega))]
theorem zhb (hL:FieldLaws q add mul) (hV:RrefN q n N V):wtK q add mul n N V 0=0:=by
 have hq:0<q:=by have:=hL.two; omega
 refine zha fun j hj=>?_
 have h0:∀ u,msgD q n 0 u=0:=fun u=>by
  unfold msgD
  exact zbp _ _
 obtain ⟨pv,hE⟩:=hV
 have:∀ m,m<=n->spE add mul V (msgD q n 0) m j=0:=by
  intro m
  induction m with
  | zero=>intro _; rfl
  | succ m ih =>
   intro hm
   show add (spE add mul V (msgD q n 0) m j) (mul (msgD q n 0 m) (V m j))=0
   rw [ih (by omega),h0 m,hL.mulComm 0 _ hq (hE.lt m (by omega) j hj),hL.mulZero (hE.lt m (by omega) j hj),hL.addZero hq]
 exact this n (Nat.le_refl _)
theorem zjW (hL:FieldLaws q add mul) (hV:RrefN q n N V) {k:Nat} (h0:0<k) (hk:k<q ^ n):1<=wtK q add mul n N V k:=by
 obtain ⟨i,hi,_,a⟩:=zef hL hV h0 hk
 dsimp only at a
 exact ziC hi (by omega)
def minK (wt:Nat->Nat) (N:Nat):Nat->Nat
 | 0=>N+1
 | k+1=>if 0<k/\wt k<minK wt N k then wt k else minK wt N k
theorem zdK {wt:Nat->Nat} {N:Nat}:∀ k i,0<i->i<k->minK wt N k<=wt i
 | 0,i,_,h=>by omega
 | k + 1, i, h0, h => by
  show (if _ then _ else _)<=_
  by_cases e:i=k
  ·subst e; split <;> omega
  ·have:=zdK (wt:=wt) (N:=N) k i h0 (by omega)
   split <;> omega
theorem zhc {wt:Nat->Nat} {N:Nat}:∀ k,minK wt N k=N+1∨∃ i,0<i/\i<k/\wt i=minK wt N k
 | 0=>.inl rfl
 | k + 1 => by
  show (if 0<k/\wt k<minK wt N k then wt k else minK wt N k)=_∨∃ i,0<i/\i<k+1/\wt i=(if 0<k/\wt k<minK wt N k then wt k else minK wt N k)
  by_cases e:0<k/\wt k<minK wt N k
  ·rw [if_pos e]; exact .inr ⟨k,e.1,by omega,rfl⟩
  ·rw [if_neg e]
   rcases zhc (wt:=wt) (N:=N) k with h | ⟨i,h1,h2,h3⟩
   ·exact .inl h
   ·exact .inr ⟨i,h1,by omega,h3⟩
theorem zcY {wt:Nat->Nat} {t:Nat}:∀ k,cntK wt t k≠0↔∃ i,i<k/\wt i=t
 | 0=>⟨fun h=>absurd rfl h,fun ⟨i,h,_⟩=>by omega⟩
 | k + 1 => by
  show cntK wt t k+_≠0↔_
  constructor
  ·intro h
   by_cases e:wt k=t
   ·exact ⟨k,by omega,e⟩
   ·rw [if_neg e] at h
    obtain ⟨i,h1,h2⟩:=(zcY k).1 h
    exact ⟨i,by omega,h2⟩
  ·rintro ⟨i,h1,h2⟩
   by_cases e:i=k
   ·subst e; rw [if_pos h2]; omega
   ·have:=(zcY (wt:=wt) (t:=t) k).2 ⟨i,by omega,h2⟩
    omega
theorem zif (hL:FieldLaws q add mul) (hV:RrefN q n N V):leastOf (fun t=>cntK (wtK q add mul n N V) t (q ^ n)) (N+1)=minK (wtK q add mul n N V) N (q ^ n):=by
 unfold leastOf
 rw [Nat.add_sub_cancel]
 rcases zhc (wt:=wtK q add mul n N V) (N:=N) (q ^ n) with h | ⟨i,h0,hi,he⟩
 ·rw [h,zcd N 1 fun t ht1 ht2=>?_,Nat.add_comm]
  refine Decidable.byContradiction fun hne=>?_
  obtain ⟨i,hi,he⟩:=(zcY (q ^ n)).1 hne
  have h0:0<i:=by
   refine Nat.pos_of_ne_zero fun e=>?_
   subst e
   rw [zhb hL hV] at he
   omega
  have:=zdK (wt:=wtK q add mul n N V) (N:=N) (q ^ n) i h0 hi
  omega
 have hp:=zjW hL hV h0 hi
 have hn:=zg9 (fun j=>spE add mul V (msgD q n i) n j) N
 have hn:wtK q add mul n N V i<=N:=hn
 refine zce N 1 (by omega) (by omega) ((zcY (q ^ n)).2 ⟨i,hi,he⟩) fun t h1 h2=>?_
 refine Decidable.byContradiction fun hne=>?_
 obtain ⟨s,hs,a⟩:=(zcY (q ^ n)).1 hne
 have h0:0<s:=by
  refine Nat.pos_of_ne_zero fun e=>?_
  subst e
  rw [zhb hL hV] at a
  omega
 have:=zdK (wt:=wtK q add mul n N V) (N:=N) (q ^ n) s h0 hs
 omega
end
theorem zcZ (A:Option Addr) (n c:Nat) (x:Nat->Nat) (w:World) (h:IntsR w w.heap.size A n (fun j=>((x j:Nat):Int))) (hn:n<=1048576) :
  Calls Tryz.prog 109 #[.slice A n c] w fun e w'=>e=.returned (.int .i64 (wtN x n:Nat))/\Below w.heap.size w w':=by
 have HU:=hid h
 clear h
 go_enter Tryz.func109, Tryz.ntmps109
 go_upto_region 3 with fail
 go_loopg [3,8] n (fun gg nv iv wx=>∃ i:Nat,iv=.int .i64 (i:Nat)/\i<=n/\n<=i+gg/\nv=.int .i64 (wtN x i:Nat)/\Below w.heap.size w wx)
 case atStart=>exact ⟨0,rfl,by omega,by omega,rfl,Below.refl _ _⟩
 obtain ⟨i,rfl,hi,q,rfl,d⟩:=hrel
 have r:(0:Int)<=(i:Int):=by omega
 have HB:=hid d
 obtain ⟨w3,g⟩:=exx wr
 subst g
 clear d
 by_cases hin:i<n
 rotate_left
 ·have a:¬ (i:Int)<(n:Int):=by omega
  obtain rfl:i=n:=by omega
  go_wp2
  go_ret
  exact ⟨rfl,HB.out⟩
 have a:(i:Int)<(n:Int):=by omega
 obtain ⟨b,o,l,hb,x0⟩:=(HU.out.on HB.out).at hin
 subst l
 obtain ⟨s,hs⟩:=exx (wtN x i)
 have p:s<=n:=by rw [hs]; exact Nat.le_trans (zg9 x i) hi
 have HS:=hid hs
 rw [<-hs];clear hs
 have m:IntKind.i64.wrap ((s:Int)+1)=(s:Int)+1:=IntWalk.i64_in _ (by omega)
 by_cases h0:x i=0
 ·have H0:=hid h0
  rw [h0] at x0;clear h0
  go_wp2
  go_roundg (gk - 1)
  case measure=>omega
  case rel=>exact ⟨i+1,by go_num,by omega,by omega,by rw [HS.out]; show _=Value.int .i64 ((wtN x i+if x i=0 then 0 else 1:Nat):Int); rw [if_pos H0.out,Nat.add_zero],HB.out⟩
 have k:(((x i:Nat):Int) != 0)=true:=by simp; omega
 obtain ⟨v,hv⟩:=exx (x i)
 rw [<-hv] at x0 k
 have H0:=hid h0
 clear h0 hv
 go_wp2
 go_roundg (gk - 1)
 case measure=>omega
 case rel=>exact ⟨i+1,by go_num,by omega,by omega,by rw [HS.out]; show _=Value.int .i64 ((wtN x i+if x i=0 then 0 else 1:Nat):Int); rw [if_neg H0.out]; push_cast; rfl,HB.out⟩
theorem zhd (a:Value) (b:Value) (x:Value) (y:Value) (z:Value) (w:World) :
  Calls Tryz.prog 108 #[.agg #[a,b,x,y,z]] w fun e w'=>e=.returned (.func (.func 172) #[] #[.pointer (some ⟨w.heap.size,0,none⟩)])/\w'=w.alloc (.cells #[a,b,x,y,z] 27):=by
 go_enter Tryz.func108, Tryz.ntmps108
 go_wp2
 go_ret
 exact ⟨rfl,rfl⟩
theorem zfl (P M:Nat) (m:Nat->Nat) (A:Option Addr) (k c N:Nat) (TC:Option Addr) (n d:Nat) (V:Nat->Nat->Nat) (w:World) (hC:CodeR w P M m A k N TC n V) (hqn:(P ^ M) ^ n<=65536) :
  Calls Tryz.prog 107 #[.agg #[.int .i64 (P:Nat),.int .i64 (M:Nat),.slice A k c,.int .i64 (N:Nat),.slice TC n d]] w fun e w'=>e=.returned (.tuple #[.int .i64 ((P ^ M) ^ n:Nat),.int .i64 0])/\Below w.heap.size w w':=by
 have HC:=hid hC
 have z:=hC.ln2
 have hn:n<=64:=Nat.le_trans hC.n_le z
 clear hC
 obtain ⟨w1,s,hB,rf⟩:=zbe w (.int .i64 (P:Nat)) (.int .i64 (M:Nat)) (.slice A k c) (.int .i64 (N:Nat)) (.slice TC n d) 27
 go_enter Tryz.func107, Tryz.ntmps107
 go_upto_region 1 with fail
 rw [<-s];clear s
 obtain ⟨b0,q⟩:=exx w.heap.size
 rw [<-q] at rf;rw [<-q];clear q
 have a:Hid (∀ X,Below w1.heap.size w1 X->(X.cell? ⟨b0,0,none⟩=some (.int .i64 (P:Nat))/\X.cell? ⟨b0,1,none⟩=some (.int .i64 (M:Nat))/\X.cell? ⟨b0,2,none⟩=some (.slice A k c)/\X.cell? ⟨b0,3,none⟩=some (.int .i64 (N:Nat))/\X.cell? ⟨b0,4,none⟩=some (.slice TC n d))):=hid fun X hx =>
  ⟨(zab rf hx).cell (i:=0) (by omega),(zab rf hx).cell (i:=1) (by omega),(zab rf hx).cell (i:=2) (by omega),(zab rf hx).cell (i:=3) (by omega),(zab rf hx).cell (i:=4) (by omega)⟩
 have HB:=hid hB
 clear hB rf
 obtain ⟨q0,q1,q2,q3,q4⟩:=a.out _ (Below.refl _ _)
 have r:=HC.out.on HB.out
 go_wp2_with fail
 refine (zbw (P:Int) (M:Int) A k c (fun i=>(m i:Int)) w1 r.ints).mono ?_
 rintro e w2 ⟨kb,o⟩
 rcases o with ⟨u,_⟩ | ⟨_,gf,P',M',y,B,rfl,hg,p⟩
 ·exact absurd r.good u
 obtain rfl:P=P':=by omega
 obtain rfl:M=M':=by omega
 have em:(fun i=>((m i:Nat):Int).toNat)=m:=funext fun i=>Int.toNat_natCast _
 rw [em] at p
 have C:=hid p
 have K2:=hid kb
 clear em y B q0 q1 q2 q3 q4 p kb r
 obtain ⟨q0,q1,q2,q3,q4⟩:=a.out _ K2.out
 have l:=HC.out.on (onS HB.out K2.out)
 go_wp2_with fail
 refine (zbL (P:Int) (M:Int) A k c (fun i=>(m i:Int)) (N:Int) TC n d (fun _=>N) (fun i j=>(V i j:Int)) w2 l.ints l.rows).mono ?_
 rintro e w3 ⟨v,rfl,hv,kb⟩
 obtain rfl:v=0:=FirstErr.unique hv l.errs
 have K3:=hid kb
 clear hv l q0 q1 q2 q3 q4 kb
 obtain ⟨q0,q1,q2,q3,q4⟩:=a.out _ (onS K2.out K3.out)
 go_upto_region 7 with fail
 have b:=(C.out.stp (E:=fun _=>False) (Stp.of_on K3.out) (fun _ _ _ h=>h))
 have HG:=hid b
 have kd:Below w3.heap.size w3 (World.drew w3):=(Below.refl _ _).drew
 replace q4:=cellS kd q4;clear q0 q1 q2 q3 b
 refine wp_region_held_drew (S:=fun X=>X.cell? ⟨b0,4,none⟩=some (.slice TC n d)) (by kernel_rfl) q4 (fun hHeld=>?_)
 obtain ⟨w4,hw⟩:=exx (World.drew w3)
 rw [<-hw] at hHeld q4 kd ⊢
 have K4:=hid kd
 clear hw kd
 refine tkq 0 (h:=tkq 2 (h:=tkq 3 (h:=tkq 4 (h:=?_))))
 clear hHeld
 refine rdq 1 (h:=fun K hK=>?_)
 go_simp
 go_wp2_with fail
 refine (zco (HG.out.on K4.out)).mono ?_
 rintro e w5 ⟨rfl,kb⟩
 replace q4:=cellS kb q4
 have K5:=hid (onS K4.out kb)
 clear kb K4
 refine bkq hK q4 (h:=fun hHeld=>?_)
 clear hK K hHeld
 refine rdq 5 (h:=fun K hK=>?_)
 go_simp
 go_wp2_with fail
 refine (zit (P ^ M) n 65536 w5 (fieldLaws HC.out.fld).two (Nat.le_trans HC.out.fld.1.2.2.2 (by omega)) (by omega) (by omega) (by omega)).mono ?_
 rintro e w6 ⟨g,kb⟩
 obtain ⟨_,rfl⟩ | ⟨x,_⟩:=g
 rotate_left
 ·omega
 replace q4:=cellS kb q4
 have K6:=hid (onS K5.out kb)
 clear kb K5
 refine bkq hK q4 (h:=fun hHeld=>?_)
 clear hK K
 refine tkq 6 (h:=tkq 7 (h:=tkq 8 (h:=tkq 9 (h:=?_))))
 clear hHeld
 refine wpAnyH_done (by kernel_rfl) ?_ _
 go_wp2
 go_ret2
 exact ⟨rfl,onS HB.out (onS (onS K2.out K3.out) K6.out)⟩
section
variable {ro:Option Nat} {n:Nat} {P:Program} {ops:Array Oper} {Q:Exit->Act->World->Prop}
theorem zc0 (hQ:¬ LetsOut Q):∀ (l:List Oper) (a:Act) (w:World),(∀ o ∈ l,∀ c,o.op≠.defer c)->wpList P ops Q l a w->wpListIn (fw ro) n P ops Q l a w
 | [],_,_,_,h=>h
 | o :: l, a, w, hn, h => by
  unfold wpList at h
  unfold wpListIn
  split
  ·rename_i hw
   rw [if_pos hw] at h
   rcases h with h | ⟨_,h⟩
   ·exact zdJ (hn o (by simp)) (Oper.wp_mono (fun a w h=>zc0 hQ l a w (fun o ho=>hn o (by simp [ho])) h) h)
   ·exact absurd h hQ
  ·rename_i hw
   rw [if_neg hw] at h
   exact ⟨fun _ _=>trivial,zc0 hQ l _ _ (fun o ho=>hn o (by simp [ho])) h⟩
theorem zeP {l:List Oper} (h:noDefer l.toArray=true):∀ o ∈ l,∀ c,o.op≠.defer c:=fun o ho c e=>by
 unfold noDefer at h
 rw [Array.all_eq_true_iff_forall_mem] at h
 have:=h o (by simpa using ho)
 rw [e] at this
 cases this
theorem zaQ {id:Nat} {l:List Oper} {a:Act} {w:World} (hQ:¬ LetsOut Q) (hn:noDefer l.toArray=true) (h:wpList P l.toArray Q l a w):(Code.region id l.toArray false).wpIn (fw ro) n P Q a w :=
 wpIn_region_lit (zc0 hQ l a w (zeP hn) h)
end
end Go.Proofs.YtgekjfpapmlndaaGreat