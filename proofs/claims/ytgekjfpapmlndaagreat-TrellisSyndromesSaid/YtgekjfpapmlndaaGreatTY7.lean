/- Merged texts of a claim: AppCells, WtsAll, Word12, WordsAll, NatC, RatA, RatB, Rat13, RatC, PolyA, PAddAll, PMulAll, RefEval, PolyC, PatAll, UndAll, DualPl, NullCnt, Syn12, Tab55, RefRight, LeadMath, Nats, GfDot, GfChk, GfNew, DTab, MAdd. -/
import Derived.Test.YtgekjfpapmlndaaGreatTY6
import Derived.Deep.QuietTactic
import Derived.BigQuiet
import Derived.Deep.CutBlock
import Derived.Deep.DeepCutAuto
import Derived.Deep.LoopGhost
import Derived.StillTailTactics
import Derived.Deep.RegionHeld3
namespace Go.Proofs.YtgekjfpapmlndaaGreat
set_option maxRecDepth 100000
set_option maxHeartbeats 32000000
open KA KB KC KE KF
open Go.RowKit
def NoInt (w:World) (b:Nat):Prop:=∀ j n,w.cell? ⟨b,j,none⟩≠some (.int .u32 n)
theorem zjG {w:World} {g:Nat} {c:Array Value} {e:TypeId} {fr:Nat × Nat} (hg:w.heap[g]?=some (.cells c e fr)) (h:∀ u ∈ c.toList,∀ n,u≠.int .u32 n):NoInt w g:=fun j n hj=>by
 rw [cell_of_row w g j c e fr hg] at hj
 exact h _ (by rw [Array.mem_toList_iff]; exact Array.mem_of_getElem? hj) n rfl
theorem zfh {w:World} {g:Nat} {c:Array Value} {e:TypeId} {fr:Nat × Nat} (hg:w.heap[g]?=some (.cells c e fr)) (h:NoInt w g):∀ u ∈ c.toList,∀ n,u≠.int .u32 n:=fun u hu n e'=>by
 rw [Array.mem_toList_iff] at hu
 obtain ⟨j,hj,e2⟩:=Array.getElem_of_mem hu
 exact h j n (by rw [cell_of_row w g j c _ fr hg,Array.getElem?_eq_getElem hj,e2,e'])
theorem zdB {w w':World} {B n:Nat} {A:Option Addr} {f:Nat->Nat} {row:Option Nat} (h:Lims w B A n f) (hB:B<=w.heap.size) (hg:w.grownBy w' row) (hni:∀ g,row=some g->NoInt w g):Lims w' B A n f:=fun k hk=>by
 obtain ⟨b',o',e,h1,h2⟩:=h k hk
 refine ⟨b',o',e,h1,fun j hj=>?_⟩
 have hc:=h2 j hj
 rw [<-hc]
 have hne:row≠some b':=fun e=>hni b' e _ _ hc
 have:=hg.block b' (by omega) (fun e=>hne e.symm)
 simp only [World.cell?,this]
theorem zey {z:Array Value} {n:Nat} {u:Value} (h:u ∈ (Builtin.zeroCells z n).toList):u ∈ z.toList:=by
 simp only [Builtin.zeroCells,Array.toList_map,List.mem_map,Array.toList_range,List.mem_range] at h
 obtain ⟨k,hk,rfl⟩:=h
 have h0:0<z.size:=Nat.pos_of_ne_zero fun e=>by rw [e] at hk; simp at hk
 have h1:k % z.size<z.size:=Nat.mod_lt _ h0
 rw [getElem!_pos z _ h1]
 exact Array.getElem_mem_toList h1
section
variable {P:Program} (w:World)
theorem zc8 (Pv:Value->Prop) (base:Nat) (t ty e:TypeId) (i:TypeInfo) (z:Value) (s bytes:Nat) (ht:P.underlying t=some (.slice e)) (hi:P.info? e=some i) (hz:i.zero=some z)
  (hsize:i.size=s) (hby:i.bytes=bytes) (hs:0<s)
  (v:Value) (n:Nat) (f:Nat->Nat->Value) (hown:Own w base e s v n f)
  (a:Addr) (c:Nat) (hnews:∀ j,j<s->w.cell? (a.add j)=some (f n j)) (h1:∀ j,j<s->(f n j).oneCell'=true)
  (h63:n+1<=maxLen) (hbytes:(n+1)*bytes<=140737488355328)
  (hPz:∀ u ∈ z.cells.toList,Pv u) (hPf:∀ k j,k<=n->j<s->Pv (f k j)) (hPv:∀ g c e fr,v.ownBlock=some g->w.heap[g]?=some (.cells c e fr)->∀ u ∈ c.toList,Pv u) :
  ∃ v' w',(Builtin.append_ #[t,t] ty #[v,.slice (some a) 1 c]).run P w=.ok v' w'/\∀ g,v'.ownBlock=some g->∃ c e fr,w'.heap[g]?=some (.cells c e fr)/\∀ u ∈ c.toList,Pv u:=by
 subst hsize
 subst hby
 have p:n+1<=9223372036854775807:=by simp only [maxLen] at h63; omega
 have d:∀ j u,(elem i.size (f n))[j]?=some u->w.cell? (a.add j)=some u:=fun j u hu=>by
  have hj:j<i.size:=by have:=(List.getElem?_eq_some_iff.1 hu).1; rwa [zap] at this
  rw [zdL hj] at hu
  injection hu with hu
  subst hu
  exact hnews j hj
 have y:∀ u ∈ elem i.size (f n),u.oneCell'=true:=fun u hu=>by
  obtain ⟨j,hj,rfl⟩:=List.mem_map.1 hu
  exact h1 j (List.mem_range.1 hj)
 have x:∀ u ∈ elem i.size (f n),Pv u:=fun u hu=>by
  obtain ⟨j,hj,rfl⟩:=List.mem_map.1 hu
  exact hPf n j (Nat.le_refl _) (List.mem_range.1 hj)
 have D:∀ u ∈ flat i.size f n,Pv u:=fun u hu=>by
  obtain ⟨j,hj,rfl⟩:=List.mem_map.1 hu
  have hj:=List.mem_range.1 hj
  exact hPf _ _ (Nat.le_of_lt (Nat.div_lt_of_lt_mul (by rw [Nat.mul_comm]; exact hj))) (Nat.mod_lt _ hs)
 have m:=Src.ofSlice (P:=P) w (size:=i.size) (e':=e) ht a 1 c (elem i.size (f n)) (by rw [zap]; omega) d y
 have grown:∀ (A:Option Addr) (cap:Nat),cap<n+1->(Builtin.firstCells i.size n (.slice A n cap)).run P w.drew=.ok (flat i.size f n).toArray w.drew ->
   ∃ v' w',(Builtin.append_ #[t,t] ty #[.slice A n cap,.slice (some a) 1 c]).run P w=.ok v' w'/\∀ g,v'.ownBlock=some g->∃ c e fr,w'.heap[g]?=some (.cells c e fr)/\∀ u ∈ c.toList,Pv u:=by
  intro A cap h b
  have l:=run_append_grow_src (P:=P) w t t ty e i z ht hi hz A n cap (flat i.size f n) b (.slice (some a) 1 c) 1 (elem i.size (f n)) m h (by omega) (growslice_fits h hbytes)
  refine ⟨_,_,l,fun g hg=>?_⟩
  simp [Value.ownBlock] at hg
  subst hg
  refine ⟨_,e,_,heap_alloc_new w.drew _,fun u hu=>?_⟩
  simp only [Array.toList_append,List.mem_append] at hu
  rcases hu with (hu | hu) | hu
  ·exact D u hu
  ·exact x u hu
  ·exact hPz u (zey hu)
 rcases hown with ⟨rfl,rfl⟩ | ⟨g,o,cap,cur,rfl,hb,hg,E,F,C,q⟩
 ·exact grown none 0 (by omega) (by simp [Builtin.firstCells,flat])
 by_cases hroom:n+1<=cap
 ·have B:o+n*i.size+(elem i.size (f n)).length<=cur.size:=by
   rw [zap]
   have:(n+1)*i.size<=cap*i.size:=Nat.mul_le_mul_right i.size hroom
   rw [Nat.add_mul] at this; omega
  have l:=zbm (P:=P) w t ty e i ht hi g o n cap cur hg a c (elem i.size (f n)) (zap _ _) d y hroom B
  refine ⟨_,_,l,fun g' hg'=>?_⟩
  simp [Value.ownBlock] at hg'
  subst hg'
  refine ⟨_,e,_,zbi hg,fun u hu=>?_⟩
  have b:=hPv g cur e _ rfl hg
  simp only [List.mem_append] at hu
  rcases hu with (hu | hu) | hu
  ·exact b u (List.mem_of_mem_take hu)
  ·exact x u hu
  ·exact b u (List.mem_of_mem_drop hu)
 have h:cap=n:=by omega
 subst h
 have b:(Builtin.firstCells i.size cap (.slice (some ⟨g,o,none⟩) cap cap)).run P w.drew=.ok (flat i.size f cap).toArray w.drew:=by
  refine run_firstCells_some (P:=P) w.drew i.size cap ⟨g,o,none⟩ cap cap (flat i.size f cap) (zau _ _ _) fun j u hu=>?_
  have hj:j<cap*i.size:=by have:=(List.getElem?_eq_some_iff.1 hu).1; rwa [zau] at this
  have e1:j / i.size<cap:=Nat.div_lt_of_lt_mul (by rw [Nat.mul_comm]; exact hj)
  have e2:j % i.size<i.size:=Nat.mod_lt _ hs
  have e3:j / i.size*i.size+j % i.size=j:=Nat.div_add_mod' j i.size
  have:=zcY (f:=f) hs e1 e2
  rw [e3,hu] at this
  injection this with this
  subst this
  have:=q _ e1 _ e2
  have r:(⟨g,o,none⟩:Addr).add j=⟨g,o+j,none⟩:=by unfold Addr.add; split <;> simp_all
  rw [r]
  show w.cell? ⟨g,o+j,none⟩=_
  rw [cell_of_row w g _ cur e (0,0) hg,<-this]
  congr 1; omega
 exact grown (some ⟨g,o,none⟩) cap (by omega) b
end
def NatOwn (w:World) (base:Nat) (v:Value) (k:Nat) (x:Nat->Nat):Prop :=
 ∃ f:Nat->Nat->Value,Own w base 69 1 v k f/\(∀ g,v.ownBlock=some g->NoInt w g)/\∀ i,i<k->∃ A c,f i 0=.slice A (dl (x i)) c/\NatOk w w.heap.size A (x i)/\dl (x i)<=c/\c<=maxLen
theorem NatOwn.nil (w:World) (base:Nat) (x:Nat->Nat):NatOwn w base (.slice none 0 0) 0 x:=⟨fun _ _=>undef,.inl ⟨rfl,rfl⟩,fun g h=>by simp [Value.ownBlock] at h,fun i hi=>by omega⟩
theorem NatOwn.on {w w':World} {base k:Nat} {v:Value} {x:Nat->Nat} (h:NatOwn w base v k x) (hb:Below w.heap.size w w'):NatOwn w' base v k x:=by
 obtain ⟨f,h1,h2,h3⟩:=h
 refine ⟨f,h1.on hb,fun g hg j n hj=>?_,fun i hi=>?_⟩
 ·have a:=(h1.lt g hg).2
  exact h2 g hg j n (by rw [<-hb.cell (p:=⟨g,j,none⟩) a]; exact hj)
 ·obtain ⟨A,c,e0,n1,h4⟩:=h3 i hi
  exact ⟨A,c,e0,n1.on hb,h4⟩
theorem Tryz.infoNat:(Tryz.prog.info? 69).map (fun i=>(i.zero,i.size,i.bytes))=some (some (.slice none 0 0),1,24):=by kernel_rfl
theorem zd2 (w:World) (ty:TypeId) (base:Nat) (v:Value) (k:Nat) (x:Nat->Nat) (h:NatOwn w base v k x) (hbase:base<=w.heap.size) (hk:k<=1048576)
  (b c:Nat) (A:Option Addr) (d:Nat) (y:Nat) (hr:x k=y)
  (c0:w.cell? ⟨b,0,none⟩=some (.slice A (dl y) d)) (m1:NatOk w w.heap.size A y) (m3:dl y<=d) (m4:d<=maxLen) :
  ∃ v' w',(Builtin.append_ #[64, 64] ty #[v,.slice (some ⟨b,0,none⟩) 1 c]).run Tryz.prog w=.ok v' w'/\NatOwn w' base v' (k+1) x/\w.grownBy w' v.ownBlock/\(∀ g,v.ownBlock=some g->base<=g):=by
 subst hr
 obtain ⟨f,o,r,hf⟩:=h
 obtain ⟨i,hi,p⟩:=Option.map_eq_some_iff.1 Tryz.infoNat
 simp only [Prod.mk.injEq] at p
 obtain ⟨hz,hs,hb⟩:=p
 let f':Nat->Nat->Value:=fun i j=>if i<k then (if j<1 then f i 0 else undef) else .slice A (dl (x k)) d
 have a:Own w base 69 1 v k f':=o.congr fun i hi j hj=>by
  obtain rfl:j=0:=by omega
  simp [f',hi]
 have l:∀ j,j<1->w.cell? ((⟨b,0,none⟩:Addr).add j)=some (f' k j):=fun j hj=>by
  obtain rfl:j=0:=by omega
  have:(⟨b,0,none⟩:Addr).add 0=⟨b,0,none⟩:=by unfold Addr.add; split <;> simp_all
  rw [this]
  simpa [f'] using c0
 have h1:∀ j,j<1->(f' k j).oneCell'=true:=fun j hj=>by simp [f']; rfl
 obtain ⟨v1,w1,e1,o1,g1,a1,_⟩:=zbb (P:=Tryz.prog) w base 64 ty 69 i _ 1 24 Tryz.underlying64 hi hz hs hb rfl (by omega) v k f' a ⟨b,0,none⟩ c l h1 (by unfold maxLen; omega) (by omega) hbase
 obtain ⟨v2,w2,e2,m⟩:=zc8 (P:=Tryz.prog) w (fun u=>∀ n,u≠.int .u32 n) base 64 ty 69 i _ 1 24 Tryz.underlying64 hi hz hs hb (by omega) v k f' a ⟨b,0,none⟩ c l h1 (by unfold maxLen; omega) (by omega)
  (fun u hu n e=>by
   have hu:u ∈ [Value.slice none 0 0]:=hu
   rw [e] at hu; simp at hu)
  (fun i j hi hj n=>by
   obtain rfl:j=0:=by omega
   by_cases e:i<k
   ·obtain ⟨B,x,e0,_⟩:=hf i e
    simp [f',e,e0]
   ·simp [f',e])
  (fun g c' e' fr hg hh=>zfh hh (r g hg))
 rw [e1] at e2
 injection e2 with e2 e3
 subst e2 e3
 have nat:∀ A' y,NatOk w w.heap.size A' y->NatOk w1 w1.heap.size A' y:=fun A' y hx=>by
  have:=zdB hx (Nat.le_refl _) g1 (fun g hg=>r g hg)
  intro q hq
  obtain ⟨b',o',e,h1,h2⟩:=this q hq
  exact ⟨b',o',e,Nat.lt_of_lt_of_le h1 g1.size,h2⟩
 refine ⟨v1,w1,e1,⟨f',o1,fun g hg=>?_,fun i hi=>?_⟩,g1,fun g hg=>(o.lt g hg).1⟩
 ·obtain ⟨c',e',fr,hh,hu⟩:=m g hg
  exact zjG hh hu
 by_cases e:i<k
 ·obtain ⟨B,z,e0,n1,h4⟩:=hf i e
  exact ⟨B,z,by simp [f',e,e0],nat _ _ n1,h4⟩
 ·obtain rfl:i=k:=by omega
  exact ⟨A,d,by simp [f'],nat _ _ m1,m3,m4⟩
open Go.ChangeShapes Go.WideShapes Go.ChangeAt
theorem zjH {P M:Nat} {m:Nat->Nat} {V:Nat->Nat->Nat} {x:Nat->Nat} (hL:FieldLaws (P ^ M) (addF P M) (mulF P M m)) {i j:Nat} (hx:x i<P ^ M) (y:Nat) (hy:y=spE (addF P M) (mulF P M m) V x i j):atF P M m (x i) (fun _=>y) (V i) j=spE (addF P M) (mulF P M m) V x (i+1) j:=by
 have a:y<P ^ M:=by rw [hy]; exact za0 hL x i j
 unfold atF
 show _=addF P M (spE (addF P M) (mulF P M m) V x i j) (mulF P M m (x i) (V i j))
 rw [<-hy]
 split
 ·rename_i h
  rw [h,hL.mulZero hx,hL.addZero a]
 ·rfl
theorem zjI {P M:Nat} {m:Nat->Nat} {V:Nat->Nat->Nat} {x:Nat->Nat} (hL:FieldLaws (P ^ M) (addF P M) (mulF P M m)) {i j:Nat} (hx:x i=0) (hV:V i j<P ^ M):spE (addF P M) (mulF P M m) V x (i+1) j=spE (addF P M) (mulF P M m) V x i j:=by
 have h2:=hL.two
 show addF P M (spE (addF P M) (mulF P M m) V x i j) (mulF P M m (x i) (V i j))=_
 rw [hx,hL.mulComm 0 _ (by omega) hV,hL.mulZero hV,hL.addZero (za0 hL x i j)]
theorem zgj (P M:Nat) (A:Option Addr) (k c:Nat) (m:Nat->Nat) (X:Option Addr) (xc:Nat) (x:Nat->Nat) (T:Option Addr) (n d N:Nat) (V:Nat->Nat->Nat) (w:World) (hf:FieldOk P M m) (hm:ModOk w P M A m) (hkM:M=1∨k=M)
  (hx:IntsR w w.heap.size X n (fun i=>(x i:Nat))) (hxq:∀ i,i<n->x i<P ^ M) (h:MRows w T n N V) (hV:∀ i,i<n->∀ j,j<N->V i j<P ^ M) (hN2:N<=1048576) (hn:n<=1048576) :
  Calls Tryz.prog 64 #[.agg #[.int .i64 (P:Nat),.int .i64 (M:Nat),.slice A k c],.slice X n xc,.slice T n d,.int .i64 (N:Nat)] w (RowPost N (fun j=>.int .i64 (spE (addF P M) (mulF P M m) V x n j:Nat)) w):=by
 have Q:=hf.1
 have hL:=fieldLaws hf
 have HX:=hid hx
 have H:=hid hxq
 have HT:=hid h
 have HV:=hid hV
 clear hx hxq h hV
 obtain ⟨w0,y,hB,rf⟩:=zao w (.int .i64 (P:Nat)) (.int .i64 (M:Nat)) (.slice A k c) 24
 have C:=fun W=>zaf (P:=Tryz.prog) 22 3 _ 8 Tryz.underlying22 Tryz.infoInt rfl (N:Int) (by omega) (by omega) (by omega) W
 simp only [Int.toNat_natCast] at C
 go_enter Tryz.func64, Tryz.ntmps64
 go_upto_region 1 with fail
 rw [<-y];clear y
 go_upto_region 2 with fail
 have kb:=(Below.refl w0.heap.size w0).alloc (Nat.le_refl _) (Obj.cells (madeCells #[Value.int .i64 0] N) 3)
 have ra:=World.rowIs_made w0 (.int .i64 0) N 3
 have G:=rf.lt
 have D:=hB.size
 obtain ⟨w1,q⟩:=exx (w0.alloc (Obj.cells (madeCells #[Value.int .i64 0] N) 3))
 obtain ⟨g,hg⟩:=exx w0.heap.size
 rw [<-q] at kb ra ⊢;rw [<-hg] at ra G D ⊢;replace rf:=zaa rf kb;replace hB:=onS hB kb
 have o:Hid (w1.rowIs g 3 N (fun j=>.int .i64 (spE (addF P M) (mulF P M m) V x 0 j:Nat))):=ra.congr fun t _=>rfl
 clear kb q hg C G ra
 go_wp2
 go_loopg [9,10] n (fun gg ov iv wx=>∃ i g2:Nat,ov=.slice (some ⟨g2,0,none⟩) N N/\iv=.int .i64 (i:Nat)/\w.heap.size<=g2/\i<=n/\n<=i+gg/\Hid (wx.rowIs g2 3 N (fun j=>.int .i64 (spE (addF P M) (mulF P M m) V x i j:Nat)))/\wx.rowIs w.heap.size 24 3 (fldCell (.int .i64 (P:Nat)) (.int .i64 (M:Nat)) (.slice A k c))/\Below w.heap.size w wx)
 case atStart=>exact ⟨0,g,rfl,rfl,D,by omega,by omega,o,rf,hB⟩
 clear rf hB o
 obtain ⟨i,g2,rfl,rfl,F,hi,a1,o,rf,hB⟩:=hrel
 have a2:(0:Int)<=(i:Int):=by omega
 by_cases hlt:i<n
 rotate_left
 ·have u:¬ (i:Int)<(n:Int):=by omega
  have hd:decide ((i:Int)<(n:Int))=false:=by simp; omega
  obtain rfl:i=n:=by omega
  go_wp2
  go_ret
  exact ⟨g2,rfl,F,o.out,hB⟩
 have u:(i:Int)<(n:Int):=by omega
 have hd:decide ((i:Int)<(n:Int))=true:=by simpa using hlt
 obtain ⟨xb,xo,U,J,x0⟩:=HX.out.at hlt
 subst U
 replace x0:=(hB.cell (p:=⟨xb,xo+i,none⟩) J).trans x0
 obtain ⟨a,ha⟩:=exx (x i)
 rw [<-ha] at x0
 have R:a<P ^ M:=by rw [ha]; exact H.out i hlt
 have HA:=hid ha
 clear ha
 by_cases ha0:a=0
 ·have v:((a:Int) != 0)=false:=by simp [ha0]
  have s:=hid (o.out.congr (g:=fun j=>.int .i64 (spE (addF P M) (mulF P M m) V x (i+1) j:Nat)) fun j hj=>by rw [zjI hL (by rw [<-HA.out,ha0]) (HV.out i hlt j hj)])
  clear ha0
  go_wp2
  go_roundg (gk - 1)
  case measure=>omega
  case rel=>exact ⟨i+1,g2,rfl,by go_num,F,by omega,by omega,s,rf,hB⟩
 have v:((a:Int) != 0)=true:=by simp; omega
 obtain ⟨tb,to0,RA,rc,Y,L,t0,_,_,r,_⟩:=HT.out i hlt
 subst Y
 replace t0:=(hB.cell (p:=⟨tb,to0+i,none⟩) L).trans t0
 have b:=r.on hB
 have l:=rowInts (w:=wr) (n:=N) (f:=fun j=>spE (addF P M) (mulF P M m) V x i j) o.out
 clear r ha0
 have q0:=qc0 rf
 have q1:=qc1 rf
 have q2:=qc2 rf
 obtain ⟨w1,q⟩:=exx wr
 rw [<-q] at hB rf x0 t0 q0 q1 q2 b l ⊢;clear q o
 go_wp2
 refine wp_region_held_drew (S:=fun w'=>w'.cell? ⟨w.heap.size,0,none⟩=some (.int .i64 (P:Nat))/\w'.cell? ⟨w.heap.size,1,none⟩=some (.int .i64 (M:Nat))/\w'.cell? ⟨w.heap.size,2,none⟩=some (.slice A k c)/\w'.cell? ⟨xb,xo+i,none⟩=some (.int .i64 (a:Nat))/\w'.cell? ⟨tb,to0+i,none⟩=some (.slice RA N rc)) (by kernel_rfl) ⟨cellS (Below.refl _ _).drew q0,cellS (Below.refl _ _).drew q1,cellS (Below.refl _ _).drew q2,cellS (Below.refl _ _).drew x0,cellS (Below.refl _ _).drew t0⟩ (fun hHeld=>?_)
 obtain ⟨w2,hw,kb⟩:=dwx w1
 rw [<-hw] at hHeld ⊢;clear hw;replace rf:=zaa rf kb;replace hB:=onS hB kb;replace x0:=cellS kb x0;replace t0:=cellS kb t0;replace q0:=cellS kb q0;replace q1:=cellS kb q1;replace q2:=cellS kb q2;replace b:=b.on kb;replace l:=l.on kb;clear kb
 refine tkq 0 (h:=tkq 1 (h:=tkq 2 (h:=tkq 3 (h:=tkq 4 (h:=tkq 5 (h:=tkq 6 (h:=tkq 7 (h:=tkq 8 (h:=tkq 9 (h:=?_))))))))))
 refine rdq 10 (h:=fun K hK=>?_)
 go_simp
 go_wp2_with fail
 have a0:=hid hB.size
 refine (zdT P M A k c m a (some ⟨g2,0,none⟩) RA N N N rc (fun j=>spE (addF P M) (mulF P M m) V x i j) (V i) w2 Q (zaF hm hB) hkM R l (fun j _=>za0 hL x i j) b (HV.out i hlt) (Nat.le_refl _) hN2).mono ?_
 rintro e w3 ⟨g3,rfl,E,B,kb⟩
 replace rf:=zaa rf kb;replace hB:=onS hB kb;replace x0:=cellS kb x0;replace t0:=cellS kb t0;replace q0:=cellS kb q0;replace q1:=cellS kb q1;replace q2:=cellS kb q2;replace b:=b.on kb;replace l:=l.on kb;clear kb
 have s:=hid B
 have I:=hid E
 clear B E
 refine bkq hK ⟨q0,q1,q2,x0,t0⟩ (h:=fun hHeld=>?_)
 clear hK K
 refine tkq 11 (h:=?_)
 refine wpAnyH_done (by kernel_rfl) ?_ _
 clear hHeld
 have Z:=hid (s.out.congr (g:=fun j=>.int .i64 (spE (addF P M) (mulF P M m) V x (i+1) j:Nat)) fun j _=>by rw [HA.out]; exact congrArg (fun z:Nat=>Value.int .i64 (z:Int)) (zjH (V:=V) (j:=j) hL (H.out i hlt) _ rfl))
 have O:w.heap.size<=g3:=Nat.le_trans a0.out I.out
 clear q0 q1 q2 x0 t0 b l s I
 go_wp2
 go_roundg (gk - 1)
 case measure=>omega
 case rel=>exact ⟨i+1,g3,rfl,by go_num,O,by omega,by omega,Z,rf,hB⟩
def msgD (q n x t:Nat):Nat:=dig q x (n - 1 - t)
theorem zbH {q n x t:Nat} (hq:0<q):msgD q n x t<q:=zb7 hq x _
theorem zjJ (x P M:Nat) (m:Nat->Nat) (A:Option Addr) (k c N:Nat) (T:Option Addr) (n d:Nat) (V:Nat->Nat->Nat) (w:World) (h:CodeR w P M m A k N T n V) (hx:x<=1048576) :
  Calls Tryz.prog 66 #[.agg #[.int .i64 (P:Nat),.int .i64 (M:Nat),.slice A k c,.int .i64 (N:Nat),.slice T n d],.int .i64 (x:Nat)] w (RowPost N (fun j=>.int .i64 (spE (addF P M) (mulF P M m) V (msgD (P ^ M) n x) n j:Nat)) w):=by
 have HC:=hid h
 have hn:=h.n_le
 have hN:=h.ln2
 have af:=h.ln1
 have hL:=fieldLaws h.fld
 have I:=h.fld.1
 have C:=hid (zb6 I)
 have b:=I.2.2.2
 have J:=hL.two
 clear h
 obtain ⟨w1,E,hB,rf⟩:=zaG w (.int .i64 (P:Nat)) (.int .i64 (M:Nat)) (.slice A k c) (.int .i64 (N:Nat)) (.slice T n d) 27
 have G:=fun W=>zaf (P:=Tryz.prog) 22 3 _ 8 Tryz.underlying22 Tryz.infoInt rfl (n:Int) (by omega) (by omega) (by omega) W
 simp only [Int.toNat_natCast] at G
 go_enter Tryz.func66, Tryz.ntmps66
 go_upto_region 1 with fail
 rw [<-E];clear E
 have q0:=qc0 rf
 have q1:=qc1 rf
 have q2:=qc2 rf
 go_wp2_with fail
 refine (zbQ (P:Int) (M:Int) A k c w1).mono ?_
 rintro e w2 ⟨rfl,kb⟩
 rw [C.out];replace rf:=zaa rf kb;replace hB:=onS hB kb;clear kb q0 q1 q2
 obtain ⟨q,hQ⟩:=exx (P ^ M)
 rw [<-hQ]
 have HQ:=hid hQ
 rw [<-hQ] at J b;clear hQ
 have q4:=qc4 rf
 go_upto_region 3 with fail
 have row:=World.rowIs_made w2 (.int .i64 0) n 3
 have kb:=(Below.refl w2.heap.size w2).alloc (Nat.le_refl _) (Obj.cells (madeCells #[Value.int .i64 0] n) 3)
 obtain ⟨w3,D⟩:=exx (w2.alloc (Obj.cells (madeCells #[Value.int .i64 0] n) 3))
 obtain ⟨g,hg⟩:=exx w2.heap.size
 rw [<-D] at kb row ⊢;rw [<-hg] at row ⊢
 have R:w2.heap.size<=g:=by omega
 have Z:=hid rf
 have a5:=hid hB
 clear D hg q4 G rf hB
 have ab:(1:Int)<=(q:Int):=by omega
 have ac:¬ (q:Int)=0:=by omega
 have aa:(q:Int)<=256:=by omega
 go_wp2
 go_loopg [1,7] (n+1) (fun gg xv iv wx=>∃ j:Nat,iv=.int .i64 ((n:Int) - 1 - (j:Int))/\xv=.int .i64 (x / q ^ j:Nat)/\j<=n/\n+1<=j+gg/\wx.rowIs g 3 n (fun t=>.int .i64 (if n - 1 - t<j then (msgD q n x t:Nat) else 0:Int))/\Below w2.heap.size w2 wx)
 case atStart=>exact ⟨0,by simp,by simp,by omega,by omega,row.congr fun i _=>rfl,kb⟩
 clear row kb
 obtain ⟨j,rfl,rfl,hj,ad,row,kb⟩:=hrel
 have L:x / q ^ j<=x:=Nat.div_le_self _ _
 have o:x / q ^ (j+1)=x / q ^ j / q:=by rw [Nat.pow_succ,Nat.div_div_eq_div_mul]
 have B:dig q x j=x / q ^ j % q:=rfl
 obtain ⟨y,hy⟩:=exx (x / q ^ j)
 rw [<-hy] at L o B;rw [<-hy]
 have X:=hid o
 have a4:=hid B
 clear hy o B
 by_cases hlt:j<n
 rotate_left
 ·obtain rfl:j=n:=by omega
  have K:¬ ((j:Int) - 1 - (j:Int)) ≥ 0:=by omega
  have a:IntsR wr wr.heap.size (some ⟨g,0,none⟩) j (fun t=>((msgD q j x t:Nat):Int)):=rowInts (row.congr fun t ht=>by rw [if_pos (by omega)])
  have hB:=onS a5.out kb
  have rf:=zaa Z.out kb
  have q0:=qc0 rf
  have q1:=qc1 rf
  have q2:=qc2 rf
  have q3:=qc3 rf
  have q4:=qc4 rf
  have Y:=hid a
  have h1:=HC.out.on hB
  have a1:Hid (∀ i,i<j->msgD q j x i<P ^ M):=fun i _=>by rw [<-HQ.out]; exact zbH (by omega)
  clear row kb a
  go_wp2_with fail
  refine (zgj P M A k c m (some ⟨g,0,none⟩) j (msgD q j x) T j d N V wr h1.fld h1.mod h1.km Y.out a1.out h1.rows h1.lt (by omega) (by omega)).mono ?_
  rintro e w5 ⟨g5,rfl,H,F,kb⟩
  have S:w.heap.size<=g5:=Nat.le_trans hB.size H
  have U:=onS hB kb
  have a0:=hid F
  clear F kb hB rf q0 q1 q2 q3 q4 h1 H
  go_wp2
  go_ret
  exact ⟨g5,rfl,S,by rw [<-HQ.out]; exact a0.out,U⟩
 obtain ⟨i,hi⟩:=exx (n - 1 - j)
 have u:(n:Int) - 1 - (j:Int)=(i:Int):=by omega
 have Q:i<n:=by omega
 have O:(i:Int)<(n:Int):=by omega
 have ae:(0:Int)<=(i:Int):=by omega
 rw [u]
 have HI:=hid hi
 have a3:=hid u
 clear hi u
 have a9:(0:Int)<=(y:Int):=by omega
 have a8:(y:Int)<=1048576:=by omega
 have s:(y:Int) % (q:Int)=((y % q:Nat):Int):=by simp
 have v:(y:Int) / (q:Int)=((y / q:Nat):Int):=by simp
 obtain ⟨r,hr⟩:=exx (y % q)
 obtain ⟨z,hz⟩:=exx (y / q)
 rw [<-hr] at s;rw [<-hz] at v
 have a7:(0:Int)<=(z:Int):=by omega
 have a6:(z:Int)<=1048576:=by have:y / q<=y:=Nat.div_le_self _ _; omega
 have HR:=hid hr
 have HZ:=hid hz
 clear hr hz
 have c0:=row.cell Q
 have z0:=row.frozen i
 have l:Hid ((wr.setCell ⟨g,i,none⟩ (.int .i64 (r:Int))).rowIs g 3 n (fun t=>.int .i64 (if n - 1 - t<j+1 then (msgD q n x t:Nat) else 0:Int))):=(row.set i _).congr fun t ht=>by
  have:=HI.out
  by_cases e:t=i
  ·subst e
   rw [if_pos rfl,if_pos (by omega)]
   unfold msgD
   rw [show n - 1 - t=j by omega,a4.out,HR.out]
  rw [if_neg e]
  by_cases e2:n - 1 - t<j
  ·rw [if_pos e2,if_pos (by omega)]
  ·rw [if_neg e2,if_neg (by omega)]
 have a2:=hid (kb.setCell (p:=⟨g,i,none⟩) R (.int .i64 (r:Int)))
 clear row kb
 go_wp2
 go_roundg (gk - 1)
 case measure=>omega
 case rel=>exact ⟨j+1,by have:=a3.out; show Value.int .i64 ((i:Int) - 1)=_; rw [<-this]; go_num,by rw [X.out,HZ.out],by omega,by omega,l.out,a2.out⟩
def Words12Post (q:Nat) (add mul:Nat->Nat->Nat) (n N:Nat) (V:Nat->Nat->Nat) (w:World) (e:Ending) (w':World):Prop :=
 ∃ lv,e=.returned (.tuple #[lv,.int .i64 0])/\MTab w' w.heap.size lv (q ^ n) N (fun i=>spE add mul V (msgD q n i) n)/\Below w.heap.size w w'
theorem zgk (P M:Nat) (m:Nat->Nat) (A:Option Addr) (k c N:Nat) (T:Option Addr) (n d:Nat) (V:Nat->Nat->Nat) (w:World) (h:CodeR w P M m A k N T n V) (hsz:(P ^ M) ^ n<=65536) :
  Calls Tryz.prog 22 #[.agg #[.int .i64 (P:Nat),.int .i64 (M:Nat),.slice A k c,.int .i64 (N:Nat),.slice T n d]] w (Words12Post (P ^ M) (addF P M) (mulF P M m) n N V w):=by
 have HC:=hid h
 have hN:=h.ln2
 clear h
 obtain ⟨w1,p,hB,rf⟩:=zaG w (.int .i64 (P:Nat)) (.int .i64 (M:Nat)) (.slice A k c) (.int .i64 (N:Nat)) (.slice T n d) 27
 go_enter Tryz.func22, Tryz.ntmps22
 go_upto_region 1 with fail
 rw [<-p];clear p
 have q0:=qc0 rf
 have q1:=qc1 rf
 have q2:=qc2 rf
 have q3:=qc3 rf
 have q4:=qc4 rf
 go_wp2_with fail
 have h1:=HC.out.on hB
 refine (zex (P:Int) (M:Int) A k c _ (N:Int) T n d _ _ w1 h1.ints h1.rows).mono ?_
 rintro e w2 ⟨v,u,rfl,hu,r,F,kb⟩
 have y:u=0:=FirstErr.unique hu (FirstErr.app_all HC.out.errs (.inr ⟨by rw [Int.toNat_natCast,Int.toNat_natCast]; exact hsz,rfl⟩) (by simp [CodeErrs]))
 have hv:=r y
 rw [Int.toNat_natCast,Int.toNat_natCast] at hv
 subst y
 obtain ⟨S,hS⟩:∃ S,S=(P ^ M) ^ n:=⟨_,rfl⟩
 rw [<-hS] at hv hsz
 subst hv
 have H:=hid hS
 replace rf:=zaa rf kb;replace hB:=onS hB kb;clear kb q0 q1 q2 q3 q4 hu r F h1 hS
 have H0:=hid (MTab.nil w2 w.heap.size N (fun i=>spE (addF P M) (mulF P M m) V (msgD (P ^ M) n i) n))
 go_wp2
 obtain ⟨nv,B⟩:∃ x:Value,x=.slice none 0 0:=⟨_,rfl⟩
 rw [<-B] at H0 ⊢;clear B
 go_loopg [6,7] S (fun gg ov iv wx=>∃ i:Nat,iv=.int .i64 (i:Nat)/\i<=S/\S<=i+gg/\Hid (MTab wx w.heap.size ov i N (fun i=>spE (addF P M) (mulF P M m) V (msgD (P ^ M) n i) n))/\wx.rowIs w.heap.size 27 5 (codCell (.int .i64 (P:Nat)) (.int .i64 (M:Nat)) (.slice A k c) (.int .i64 (N:Nat)) (.slice T n d))/\Below w.heap.size w wx)
 case atStart=>exact ⟨0,rfl,by omega,by omega,H0,rf,hB⟩
 clear H0 rf hB
 obtain ⟨i,rfl,hi,O,HM,rf,hB⟩:=hrel
 have Q:(0:Int)<=(i:Int):=by omega
 by_cases hlt:i<S
 rotate_left
 ·have l:¬ (i:Int)<(S:Int):=by omega
  obtain rfl:i=S:=by omega
  go_wp2
  go_ret2
  exact ⟨_,rfl,by rw [<-H.out]; exact HM.out,hB⟩
 have l:(i:Int)<(S:Int):=by omega
 have q0:=qc0 rf
 have q1:=qc1 rf
 have q2:=qc2 rf
 have q3:=qc3 rf
 have q4:=qc4 rf
 have h1:=HC.out.on hB
 have s:∀ q,u6.ownBlock=some q->w.heap.size<=q:=fun q e=>(HM.out.choose_spec.1.lt q e).1
 have R:=hid s
 clear s
 go_wp2_with fail
 refine (zjJ i P M m A k c N T n d V wr h1 (by omega)).mono ?_
 rintro e w3 ⟨g,rfl,hg,hr,kb⟩
 have z:=zaI hr (show w.heap.size<=g by have:=hB.size; omega) (show N<=maxLen by unfold maxLen; omega)
 have b:=(Below.refl w3.heap.size w3).alloc (Nat.le_refl _) (Obj.cells #[Value.slice (some ⟨g,0,none⟩) N N] 22)
 have G:=hid (z.on b)
 have D:=hid ((HM.out.on kb).on b)
 have E:=hid (onS (onS hB kb) b)
 have a:=hid (zaa (zaa rf kb) b)
 have K:Hid ((w3.alloc (Obj.cells #[Value.slice (some ⟨g,0,none⟩) N N] 22)).cell? ((⟨w3.heap.size,0,none⟩:Addr).add 0)=some (.slice (some ⟨g,0,none⟩) N N)):=tbox2
 have C:=hid E.out.size
 have J:Hid (i<=1048576):=by show _<=_; omega
 clear hr z kb b hg q0 q1 q2 q3 q4 rf hB h1
 go_wp2_with (first | (at_builtin; (refine zaB rfl (.tmp 21) (.tmp 25) rfl D.out rfl (ad:=⟨w3.heap.size,0,none⟩) (c:=1) rfl K.out rfl G.out C.out J.out ?_); intro v9 w9 o1 o2 o3))
 have I:=hid (o1.congr (W':=fun i=>spE (addF P M) (mulF P M m) V (msgD (P ^ M) n i) n) fun u hu j _=>by
  by_cases e:u=i
  ·subst e; rw [if_pos rfl]
  ·rw [if_neg e])
 have L:=hid (E.out.grown o2 C.out o3)
 have o:=hid (a.out.of_block (o2.block _ a.out.lt fun e=>absurd (zay a.out D.out.choose_spec.1 (by decide)) (by rw [<-e]; simp)))
 clear o1 o2 o3
 go_wp2
 go_roundg (gk - 1)
 case measure=>omega
 case rel=>exact ⟨i+1,by go_num,by omega,by omega,I,o.out,L.out⟩
open Go
def rv (s:Bool) (x y:Nat):Rat:=mkRat (if s then -(x:Int) else x) y
theorem zfi {α:Type}:∀ {l m:List α},l.Nodup->(∀ x,x ∈ l->x ∈ m)->l.length<=m.length:=by
 classical
 intro l
 induction l with
 | nil=>intro m _ _; exact Nat.zero_le _
 | cons a l ih =>
  intro m h1 h2
  have ha:=h2 a (by simp)
  rw [List.nodup_cons] at h1
  have hl:=List.length_erase_of_mem ha
  have hp:=ih (m:=m.erase a) h1.2 fun x hx=>(List.mem_erase_of_ne (fun e:x=a=>h1.1 (by rw [<-e]; exact hx))).2 (h2 x (by simp [hx]))
  have b:=List.length_pos_of_mem ha
  simp only [List.length_cons]
  omega
theorem zaT {α β:Type} {f:α->β}:∀ {l:List α},l.Nodup->(∀ a,a ∈ l->∀ b,b ∈ l->f a=f b->a=b)->(l.map f).Nodup:=by
 intro l
 induction l with
 | nil=>intro _ _; exact List.nodup_nil
 | cons a l ih =>
  intro h hi
  rw [List.nodup_cons] at h;rw [List.map_cons,List.nodup_cons]
  refine ⟨fun hm=>?_,ih h.2 fun x hx y hy e=>hi x (by simp [hx]) y (by simp [hy]) e⟩
  obtain ⟨b,hb,e⟩:=List.mem_map.1 hm
  have:=hi b (by simp [hb]) a (by simp) e
  exact h.1 (by rw [<-this]; exact hb)
theorem zez {K:Type} {L:List K} (hn:L.Nodup):∀ n,(allW L n).Nodup
 | 0=>by simp [allW]
 | n + 1 => by
  have ih:=zez hn n
  show ((allW L n).flatMap fun w=>L.map fun a=>a :: w).Nodup
  revert ih
  generalize allW L n=l
  induction l with
  | nil=>intro _; simp
  | cons w l ihl =>
   intro h
   rw [List.nodup_cons] at h;rw [List.flatMap_cons,List.nodup_append]
   refine ⟨zaT hn fun a _ b _ e=>by injection e,ihl h.2,fun x hx y hy e=>?_⟩
   obtain ⟨a,_,rfl⟩:=List.mem_map.1 hx
   obtain ⟨w',hw',hy⟩:=List.mem_flatMap.1 hy
   obtain ⟨b,_,rfl⟩:=List.mem_map.1 hy
   injection e with _ e
   exact h.1 (by rw [e]; exact hw')
theorem zhg {K:Type} {L:List K} (hc:∀ a,a ∈ L):∀ n (x:List K),x.length=n->x ∈ allW L n
 | 0,x,h=>by rw [List.length_eq_zero_iff.1 h]; simp [allW]
 | n+1,[],h=>by simp at h
 | n+1,a :: x,h=>by
  show _ ∈ (allW L n).flatMap _
  exact List.mem_flatMap.2 ⟨x,zhg hc n x (by simpa using h),List.mem_map.2 ⟨a,hc a,rfl⟩⟩
theorem zja {q:Nat} (hq:0<q) {n x y:Nat} (hx:x<q ^ n) (hy:y<q ^ n) (h:∀ t,t<n->dig q x t=dig q y t):x=y:=zek hq hx hy h
theorem zk7 {q:Nat} {n:Nat} {c:Nat->Nat} (hc:∀ t,t<n->c t<q):∃ x,x<q ^ n/\∀ t,t<n->dig q x (n - 1 - t)=c t:=by
 refine ⟨valN q (fun t=>c (n - 1 - t)) n,zbh fun i hi=>hc _ (by omega),fun t ht=>?_⟩
 rw [za7 (fun i hi=>hc _ (by omega)) _ (by omega)]
 congr 1
 omega
section
variable {q n k:Nat} {add mul:Nat->Nat->Nat} {V:Nat->Nat->Nat}
theorem EchN.spE_pv (hL:FieldLaws q add mul) {a:Nat} {p:Nat->Nat} (h:EchN q n k k a p V) {c:Nat->Nat} (hc:∀ i,i<a->c i<q) {s:Nat} (hs:s<a):spE add mul V c a (p s)=c s:=by
 have d:=h.le
 have b:∀ t,t<=a->spE add mul V c t (p s)=if s<t then c s else 0:=by
  intro t
  induction t with
  | zero=>intro _; rfl
  | succ t ih =>
   intro ht
   show add (spE add mul V c t (p s)) (mul (c t) (V t (p s)))=_
   rw [ih (by omega)]
   by_cases e:t=s
   ·subst e
    rw [if_neg (by omega),if_pos (by omega),h.one t hs,hL.mulOne (hc t hs),hL.zeroAdd _ (hc t hs)]
   ·rw [h.zero s hs t (by omega) e,hL.mulZero (hc t (by omega))]
    by_cases e2:s<t
    ·rw [if_pos e2,if_pos (by omega),hL.addZero (hc s hs)]
    ·have:=hL.two
     rw [if_neg e2,if_neg (by omega),hL.addZero (by omega)]
 rw [b a (Nat.le_refl _),if_pos hs]
theorem zbC {neg:Nat->Nat} {p:Nat->Nat} {W:Nat->Nat->Nat} {c j:Nat}:∀ a,(∀ s,s<a->p s≠j)->nrow neg p W c a j=if j=c then 1 else 0
 | 0,_=>rfl
 | a+1,h=>by
  unfold nrow
  rw [if_neg (fun e=>h a (by omega) e.symm)]
  exact zbC a fun s hs=>h s (by omega)
theorem zfP {neg:Nat->Nat} {p:Nat->Nat} {W:Nat->Nat->Nat} {c s:Nat}:∀ a,(∀ t u,t<u->u<a->p t<p u)->s<a->nrow neg p W c a (p s)=neg (W s c)
 | 0,_,h=>absurd h (by omega)
 | a + 1, hi, hs => by
  unfold nrow
  by_cases e:s=a
  ·subst e; rw [if_pos rfl]
  ·have:=hi s a (by omega) (by omega)
   rw [if_neg (by omega)]
   exact zfP a (fun t u h1 h2=>hi t u h1 (by omega)) (by omega)
end
structure OnEl (q:Nat) (add mul:Nat->Nat->Nat) [Add (El q)] [Mul (El q)] [Neg (El q)] [Zero (El q)] [One (El q)]:Prop where
 fie:Fie (El q)
 ha:∀ x y:El q,(x+y).val=add x.val y.val
 hm:∀ x y:El q,(x*y).val=mul x.val y.val
 h0:(0:El q).val=0
 h1:(1:El q).val=1
section
variable {q n N a2:Nat} {add mul:Nat->Nat->Nat} {neg:Nat->Nat} {V W2:Nat->Nat->Nat} (hq:0<q) [iA:Add (El q)] [iM:Mul (El q)] [iN:Neg (El q)] [i0:Zero (El q)] [i1:One (El q)] (O:OnEl q add mul)
include O
theorem zfQ {m:Nat} {U:Nat->Nat->Nat} {x:List (El q)} (hx:Gen N m (fun i=>wordK q hq N (U i)) x):x=wordK q hq N (fun j=>(ent x j).val):=by
 refine zeu (zfg O.fie (N:=fun i j=>toEl q hq (U i j)) hx).1 (zbd hq N _) fun j hj=>?_
 rw [zcu hq,zbe hj]
 exact El.ext' (zak hq (ent x j).lt).symm
variable (hL:FieldLaws q add mul)
include hL
theorem zfj {m m':Nat} {U U':Nat->Nat->Nat} (hU:∀ i,i<m->∀ j,j<N->U i j<q) (hU':∀ i,i<m'->∀ j,j<N->U' i j<q) (e:SameSp q add mul N m m' U U') (x:List (El q)):Gen N m (fun i=>wordK q hq N (U i)) x↔Gen N m' (fun i=>wordK q hq N (U' i)) x:=by
 constructor
 ·intro hx
  have ex:=zfQ hq O hx
  rw [ex] at hx ⊢
  exact (zaJ hq O.fie hL O.ha O.hm O.h0 hU' fun j _=>(ent x j).lt).1 ((e _).1 ((zaJ hq O.fie hL O.ha O.hm O.h0 hU fun j _=>(ent x j).lt).2 hx))
 intro hx
 have ex:=zfQ hq O hx
 rw [ex] at hx ⊢
 exact (zaJ hq O.fie hL O.ha O.hm O.h0 hU fun j _=>(ent x j).lt).1 ((e _).2 ((zaJ hq O.fie hL O.ha O.hm O.h0 hU' fun j _=>(ent x j).lt).2 hx))
theorem NullRel.perp (hneg:∀ x,x<q->neg x<q/\add x (neg x)=0) (hV:∀ i,i<n->∀ j,j<N->V i j<q) (h:NullRel q add mul neg n N V a2 W2) (x:List (El q)) :
  perpW N (Gen N n fun i=>wordK q hq N (V i)) x↔Gen N a2 (fun i=>wordK q hq N (W2 i)) x:=by
 obtain ⟨a,p,W,f,fr,Nn,p2,hE,hR,hN,d,o⟩:=h
 obtain ⟨hs,m⟩:=hR.sp hL hV
 have t:=hE.le
 have r:=hL.two
 have c:∀ u,u<f->∀ j,j<N->Nn u j<q:=fun u hu j hj=>by
  rw [hN.row u hu j hj]
  have k:=hN.lt u hu
  rcases hN.cover j hj with ⟨s,hs,e⟩ | ⟨v,hv,e⟩
  ·rw [<-e,zfP a hE.inc hs]
   exact (hneg _ (m s (by omega) _ k)).1
  ·rw [zbC a fun s hs e2=>hN.ne v hv s hs (e2.trans e.symm)]
   split <;> omega
 obtain ⟨g,l⟩:=o.sp hL c
 have s1:=zfj hq O hL hV (hE.top.lt) (fun x=>(hs x).trans (hE.sp_top hL x)) x
 have s1':∀ x,Gen N n (fun i=>wordK q hq N (V i)) x↔Gen N a (fun i=>wordK q hq N (W i)) x:=zfj hq O hL hV (hE.top.lt) (fun x=>(hs x).trans (hE.sp_top hL x))
 have s2:=zfj hq O hL c (d.top.lt) (fun x=>(g x).trans (d.sp_top hL x)) x
 rw [<-s2]
 have hK:NullK N a p (fun i j=>toEl q hq (W i j)) f fr (fun i j=>toEl q hq (Nn i j)):=by
  refine ⟨hN.lt,hN.ne,hN.cover,fun u hu=>?_,fun u hu s hs=>?_,fun u hu v hv hne=>?_⟩
  ·rw [hN.row u hu _ (hN.lt u hu),zbC a (hN.ne u hu),if_pos rfl]
   exact El.ext' (by rw [zak hq (by omega),O.h1])
  ·rw [hN.row u hu _ (hE.pvlt s hs),zfP a hE.inc hs]
   obtain ⟨g1,g2⟩:=hneg _ (hE.lt s (by omega) _ (hN.lt u hu))
   refine O.fie.negOf (El.ext' ?_)
   rw [O.ha,zak hq (hE.lt s (by omega) _ (hN.lt u hu)),zak hq g1,g2,O.h0]
  have b:fr v≠fr u:=by
   rcases Nat.lt_or_gt_of_ne hne with h1 | h1
   ·have:=hN.inc v u h1 hu; omega
   ·have:=hN.inc u v h1 hv; omega
  refine ⟨b,?_⟩
  rw [hN.row u hu _ (hN.lt v hv),zbC a (hN.ne v hv),if_neg b]
  exact El.ext' (by rw [zak hq hq,O.h0])
 have:=NullK.perp O.fie (hE.toK hq O.h0 O.h1) hK x
 refine Iff.trans ?_ this
 constructor
 ·rintro ⟨g1,g2⟩; exact ⟨g1,fun y hy=>g2 y ((s1' y).2 hy)⟩
 ·rintro ⟨g1,g2⟩; exact ⟨g1,fun y hy=>g2 y ((s1' y).1 hy)⟩
end
section
variable {q n k:Nat} {add mul:Nat->Nat->Nat} {V:Nat->Nat->Nat}
theorem zd3 (hL:FieldLaws q add mul) {a s j:Nat} {c:Nat->Nat} (hc:∀ i,i<a->c i<q) (hs:s<a) (h1:V s j=1) (h0:∀ t,t<a->t≠s->V t j=0):spE add mul V c a j=c s:=by
 have b:∀ t,t<=a->spE add mul V c t j=if s<t then c s else 0:=by
  intro t
  induction t with
  | zero=>intro _; rfl
  | succ t ih =>
   intro ht
   show add (spE add mul V c t j) (mul (c t) (V t j))=_
   rw [ih (by omega)]
   by_cases e:t=s
   ·subst e
    rw [if_neg (by omega),if_pos (by omega),h1,hL.mulOne (hc t hs),hL.zeroAdd _ (hc t hs)]
   ·rw [h0 t (by omega) e,hL.mulZero (hc t (by omega))]
    by_cases e2:s<t
    ·rw [if_pos e2,if_pos (by omega),hL.addZero (hc s hs)]
    ·rw [if_neg e2,if_neg (by omega),hL.addZero (by have:=hL.two; omega)]
 rw [b a (Nat.le_refl _),if_pos hs]
theorem zkA (hL:FieldLaws q add mul) {U W:Nat->Nat->Nat} {f a N:Nat} {fr p:Nat->Nat} (hf:∀ u,u<f->fr u<N) (hp:∀ s,s<a->p s<N)
  (u1:∀ s,s<f->U s (fr s)=1) (u0:∀ s,s<f->∀ t,t<f->t≠s->U t (fr s)=0) (w1:∀ s,s<a->W s (p s)=1) (w0:∀ s,s<a->∀ t,t<a->t≠s->W t (p s)=0)
  (hS:SameSp q add mul N f a U W):f<=a:=by
 have hq:=hL.two
 have g:q ^ f<=q ^ a:=by
  refine pigeon (f:=fun i=>code q (fun s=>spE add mul U (msgD q f i) f (p s)) a) (fun i _=>zcD fun s _=>za0 hL _ _ _) fun i i' hi hi' e=>?_
  have e1:=zcX (fun s _=>za0 hL _ _ _) (fun s _=>za0 hL _ _ _) e
  have b:∀ i,InSp q add mul a N W (spE add mul U (msgD q f i) f):=fun i=>(hS _).1 ⟨msgD q f i,fun _ _=>zbH (by omega),fun _ _=>rfl⟩
  obtain ⟨c,hc,ec⟩:=b i
  obtain ⟨d,hd,ed⟩:=b i'
  have ecd:∀ s,s<a->c s=d s:=fun s hs=>by
   have:=e1 s hs
   rw [ec _ (hp s hs),ed _ (hp s hs),zd3 hL hc hs (w1 s hs) (w0 s hs),zd3 hL hd hs (w1 s hs) (w0 s hs)] at this
   exact this
  have em:∀ u,u<f->msgD q f i u=msgD q f i' u:=fun u hu=>by
   have h1:=zd3 (V:=U) hL (fun t _=>zbH (q:=q) (n:=f) (x:=i) (t:=t) (by omega)) hu (u1 u hu) (u0 u hu)
   have h2:=zd3 (V:=U) hL (fun t _=>zbH (q:=q) (n:=f) (x:=i') (t:=t) (by omega)) hu (u1 u hu) (u0 u hu)
   rw [<-h1,<-h2,ec _ (hf u hu),ed _ (hf u hu)]
   exact zbT a fun s hs=>⟨ecd s hs,rfl⟩
  refine zja (by omega) hi hi' fun t ht=>?_
  have:=em (f - 1 - t) (by omega)
  unfold msgD at this
  rwa [show f - 1 - (f - 1 - t)=t by omega] at this
 exact (Nat.pow_le_pow_iff_right hq).1 g
theorem NullRel.count {neg:Nat->Nat} {N a2:Nat} {W2:Nat->Nat->Nat} (hL:FieldLaws q add mul) (hneg:∀ x,x<q->neg x<q/\add x (neg x)=0) (hV:RrefN q n N V) (h:NullRel q add mul neg n N V a2 W2):n+a2=N:=by
 obtain ⟨pv,hv⟩:=hV
 obtain ⟨a,p,W,f,fr,Nn,p2,hE,hR,hN,b,o⟩:=h
 have hq:=hL.two
 have w:=hE.le
 obtain ⟨hs,m⟩:=hR.sp hL hv.lt
 have r:∀ u,u<f->∀ j,j<N->Nn u j<q:=fun u hu j hj=>by
  rw [hN.row u hu j hj]
  have k:=hN.lt u hu
  rcases hN.cover j hj with ⟨s,hs,e⟩ | ⟨v,hv,e⟩
  ·rw [<-e,zfP a hE.inc hs]
   exact (hneg _ (m s (by omega) _ k)).1
  ·rw [zbC a fun s hs e2=>hN.ne v hv s hs (e2.trans e.symm)]
   split <;> omega
 obtain ⟨c,-⟩:=o.sp hL r
 have ea:n=a:=(zcv hL hv hE.top fun x=>(hs x).trans (hE.sp_top hL x)).1
 have d:=b.le
 have u1:∀ s,s<f->Nn s (fr s)=1:=fun s hs=>by rw [hN.row s hs _ (hN.lt s hs),zbC a (hN.ne s hs),if_pos rfl]
 have u0:∀ s,s<f->∀ t,t<f->t≠s->Nn t (fr s)=0:=fun s hs t ht hne=>by
  rw [hN.row t ht _ (hN.lt s hs),zbC a (hN.ne s hs),if_neg]
  intro e
  rcases Nat.lt_or_gt_of_ne hne with h1 | h1
  ·have:=hN.inc t s h1 hs; omega
  ·have:=hN.inc s t h1 ht; omega
 have w0:∀ s,s<a2->∀ t,t<a2->t≠s->W2 t (p2 s)=0:=fun s hs t ht hne=>b.zero s hs t (by omega) hne
 have hS:SameSp q add mul N f a2 Nn W2:=fun x=>(c x).trans (b.sp_top hL x)
 have f1:f<=a2:=zkA hL hN.lt b.pvlt u1 u0 b.one w0 hS
 have f3:a+f<=N:=by
  refine pigeon (f:=fun i=>if i<a then p i else fr (i - a)) (fun i hi=>?_) fun i j hi hj e=>?_
  ·show (if i<a then p i else fr (i - a))<N
   split
   ·rename_i h; exact hE.pvlt i h
   ·exact hN.lt _ (by omega)
  have e':(if i<a then p i else fr (i - a))=(if j<a then p j else fr (j - a)):=e
  by_cases h1:i<a
  ·rw [if_pos h1] at e'
   by_cases h2:j<a
   ·rw [if_pos h2] at e'
    rcases Nat.lt_trichotomy i j with h3 | h3 | h3
    ·have:=hE.inc i j h3 h2; omega
    ·exact h3
    ·have:=hE.inc j i h3 h1; omega
   ·rw [if_neg h2] at e'
    exact absurd e' (hN.ne _ (by omega) _ h1)
  rw [if_neg h1] at e'
  by_cases h2:j<a
  ·rw [if_pos h2] at e'
   exact absurd e'.symm (hN.ne _ (by omega) _ h2)
  rw [if_neg h2] at e'
  rcases Nat.lt_trichotomy (i - a) (j - a) with h3 | h3 | h3
  ·have:=hN.inc _ _ h3 (by omega); omega
  ·omega
  ·have:=hN.inc _ _ h3 (by omega); omega
 have f4:N<=a+f:=by
  have l:∀ j,∃ i,j<N->i<a+f/\(if i<a then p i else fr (i - a))=j:=fun j=>by
   by_cases hj:j<N
   ·rcases hN.cover j hj with ⟨s,hs,e⟩ | ⟨u,hu,e⟩
    ·exact ⟨s,fun _=>⟨by omega,by rw [if_pos hs]; exact e⟩⟩
    ·exact ⟨a+u,fun _=>⟨by omega,by rw [if_neg (by omega),show a+u - a=u by omega]; exact e⟩⟩
   ·exact ⟨0,fun h=>absurd h hj⟩
  obtain ⟨g,hg⟩:=Classical.skolem.1 l
  refine pigeon (f:=g) (fun j hj=>(hg j hj).1) fun i j hi hj e=>?_
  have h1:=(hg i hi).2
  have h2:=(hg j hj).2
  rw [e] at h1
  omega
 omega
theorem NullRel.same {neg:Nat->Nat} {N a2 a3:Nat} {W2 W3:Nat->Nat->Nat} (hL:FieldLaws q add mul) (hneg:∀ x,x<q->neg x<q/\add x (neg x)=0) (hV:∀ i,i<n->∀ j,j<N->V i j<q) (h:NullRel q add mul neg n N V a2 W2) (h3:NullRel q add mul neg n N V a3 W3) :
  a2=a3/\∀ s,s<a2->∀ j,j<N->W2 s j=W3 s j:=by
 have hq:0<q:=by have:=hL.two; omega
 obtain ⟨iA,iM,iN,i0,i1,F,ha,hm,h0,h1⟩:=zg1 hL
 have O:OnEl q add mul:=⟨F,ha,hm,h0,h1⟩
 obtain ⟨p2,e2⟩:=h.rref
 obtain ⟨p3,e3⟩:=h3.rref
 have b:=fun x=>NullRel.perp (x:=x) hq O hL hneg hV h
 have a:=fun x=>NullRel.perp (x:=x) hq O hL hneg hV h3
 have hS:SameSp q add mul N a2 a3 W2 W3:=fun x=>by
  constructor
  ·intro hx
   have hl:∀ j,j<N->x j<q:=fun j hj=>hx.lt hL hj
   exact (zaJ hq F hL ha hm h0 e3.lt hl).2 ((a _).1 ((b _).2 ((zaJ hq F hL ha hm h0 e2.lt hl).1 hx)))
  intro hx
  have hl:∀ j,j<N->x j<q:=fun j hj=>hx.lt hL hj
  exact (zaJ hq F hL ha hm h0 e2.lt hl).2 ((b _).1 ((a _).2 ((zaJ hq F hL ha hm h0 e3.lt hl).1 hx)))
 obtain ⟨g1,-,g3⟩:=zcv hL e2 e3 hS
 exact ⟨g1,g3⟩
end
theorem zjb {α:Type} {f g:α->Rat}:∀ {l:List α},(∀ x,x ∈ l->f x<=g x)->sumM f l<=sumM g l
 | [],_=>Rat.le_refl
 | a :: l,h=>by
  have h1:=h a (by simp)
  have h2:=zjb (f:=f) (g:=g) (l:=l) fun x hx=>h x (by simp [hx])
  show f a+sumM f l<=g a+sumM g l
  grind
section
variable {P M g:Nat} {m:Nat->Nat} {w:World}
theorem zeA {q:Nat} {add mul:Nat->Nat->Nat} (hL:FieldLaws q add mul) (a b:Nat->Nat):∀ n,dotN add mul a b n<q
 | 0=>by have:=hL.two; show 0<q; omega
 | _+1=>hL.addLt _ _
theorem zgl (a n:Nat) (V:Option Addr) (d:Nat) (v:Nat->Nat) (h:GF w w.heap.size g P M m) (ha:a<P ^ M) (hv:IntsR w w.heap.size V n (fun i=>(v i:Nat))) (hvq:∀ i,i<n->v i<P ^ M) (hn:n<=1048576) :
  Calls Tryz.prog 253 #[.pointer (some ⟨g,0,none⟩),.int .i64 (a:Nat),.slice V n d] w (RowPost n (fun i=>.int .i64 (mulF P M m a (v i):Nat)) w):=by
 have hq:=h.ok.1.2.2.2
 have HG:=hid h
 have HV:=hid hv
 have s:=hid hvq
 have y:=hid (zan ha)
 clear h hv hvq
 have l:=fun W=>zaf (P:=Tryz.prog) 22 3 _ 8 Tryz.underlying22 Tryz.infoInt rfl (n:Int) (by omega) (by omega) (by omega) W
 simp only [Int.toNat_natCast] at l
 go_enter Tryz.func253, Tryz.ntmps253
 go_upto_region 2 with fail
 have hB:=(Below.refl w.heap.size w).alloc (Nat.le_refl _) (Obj.cells (madeCells #[Value.int .i64 0] n) 3)
 have ra:=World.rowIs_made w (.int .i64 0) n 3
 obtain ⟨w1,j⟩:=exx (w.alloc (Obj.cells (madeCells #[Value.int .i64 0] n) 3))
 obtain ⟨r,hr⟩:=exx w.heap.size
 rw [<-j] at hB ra ⊢;rw [<-hr] at ra ⊢
 have k:w.heap.size<=r:=by omega
 have F:=hid hr
 clear j hr l
 go_wp2
 go_loopg [15] n (fun gg iv wx=>∃ i:Nat,iv=.int .i64 (i:Nat)/\i<=n/\n<=i+gg/\wx.rowIs r 3 n (fun t=>.int .i64 ((if t<i then mulF P M m a (v t) else 0:Nat):Int))/\Below w.heap.size w wx)
 case atStart=>exact ⟨0,rfl,by omega,by omega,ra.congr fun t _=>by rw [if_neg (by omega)]; rfl,hB⟩
 clear ra hB
 obtain ⟨i,rfl,hi,D,ra,hB⟩:=hrel
 have E:(0:Int)<=(i:Int):=by omega
 by_cases hlt:i<n
 rotate_left
 ·obtain rfl:i=n:=by omega
  have c:¬ (i:Int)<(i:Int):=by omega
  have b:Hid (wr.rowIs r 3 i (fun t=>.int .i64 (mulF P M m a (v t):Nat))):=ra.congr fun t ht=>by rw [if_pos ht]
  clear ra
  go_wp2
  go_ret
  exact ⟨r,rfl,k,b.out,hB⟩
 have c:(i:Int)<(n:Int):=by omega
 obtain ⟨vb,vo,rfl,q,x0⟩:=HV.out.at hlt
 have C:vb≠r:=by omega
 replace x0:=(hB.cell (p:=⟨vb,vo+i,none⟩) q).trans x0
 obtain ⟨x,hx⟩:=exx (v i)
 have o:inV (P ^ M) (x:Nat)=x:=by rw [hx]; exact zan (s.out i hlt)
 rw [<-hx] at x0
 have HX:=hid hx
 have u:=hid o
 clear hx o
 have hG:=HG.out.at hB hB.size
 go_wp2_with fail
 refine (zaY (a:Int) (x:Int) hG).mono ?_
 rintro e w2 ⟨rfl,kb⟩
 rw [y.out,u.out];replace ra:=zaa ra kb;replace hB:=onS hB kb;clear kb hG x0
 obtain ⟨z,hz⟩:=exx (mulF P M m a x)
 rw [<-hz]
 have ra2:(w2.setCell ⟨r,i,none⟩ (.int .i64 (z:Int))).rowIs r 3 n (fun t=>.int .i64 ((if t<i+1 then mulF P M m a (v t) else 0:Nat):Int)):=(ra.set i _).congr fun t ht=>by
  by_cases e:t=i
  ·subst e
   rw [if_pos rfl,if_pos (by omega),hz,HX.out]
  rw [if_neg e]
  by_cases e2:t<i
  ·rw [if_pos e2,if_pos (by omega)]
  ·rw [if_neg e2,if_neg (by omega)]
 have RA:=hid ra2
 have B:Hid (Below w.heap.size w (w2.setCell ⟨r,i,none⟩ (.int .i64 (z:Int)))):=hB.setCell k _
 have c0:=ra.cell hlt
 have z0:=ra.frozen i
 clear hz ra2 ra hB
 go_wp2
 clear c0 z0
 go_roundg (gk - 1)
 case measure=>omega
 case rel=>exact ⟨i+1,by go_num,by omega,by omega,RA.out,B.out⟩
end
theorem zgm (P M:Int) (A:Option Addr) (k c:Nat) (f:Nat->Int) (w:World) (hr:IntsR w w.heap.size A k f) :
  Calls Tryz.prog 128 #[.agg #[.int .i64 P,.int .i64 M,.slice A k c]] w (CheckPost (GoodF P M k f) w):=by
 obtain ⟨w0,l,hB,rf⟩:=zao w (.int .i64 P) (.int .i64 M) (.slice A k c) 24
 go_enter Tryz.func128, Tryz.ntmps128
 go_upto_region 1 with fail
 rw [<-l];clear l
 have q0:=qc0 rf
 have q1:=qc1 rf
 have q2:=qc2 rf
 refine wp_region_held_drew (S:=fun w'=>w'.cell? ⟨w.heap.size,0,none⟩=some (.int .i64 P)/\w'.cell? ⟨w.heap.size,1,none⟩=some (.int .i64 M)/\w'.cell? ⟨w.heap.size,2,none⟩=some (.slice A k c)) (by kernel_rfl) ⟨cellS (Below.refl _ _).drew q0,cellS (Below.refl _ _).drew q1,cellS (Below.refl _ _).drew q2⟩ (fun hHeld=>?_)
 obtain ⟨w1,hw,kb⟩:=dwx w0
 rw [<-hw] at hHeld ⊢;clear hw;replace hB:=onS hB kb;replace rf:=zaa rf kb;clear kb q0 q1 q2
 refine tkq 0 (h:=rdq 1 (h:=fun K hK=>?_))
 go_simp
 go_wp2_with fail
 refine (zfM P M A k c f w1 (hr.on hB)).mono ?_
 rintro e w2 ⟨b,rfl,hb,kb⟩
 replace hB:=onS hB kb;replace rf:=zaa rf kb
 have g:=hid hb
 clear kb hb
 have q0:=qc0 rf
 have q1:=qc1 rf
 have q2:=qc2 rf
 cases b
 ·have a:Hid (¬ GoodF P M k f):=fun h=>by have:=g.out.2 h.shape; cases this
  refine bkq hK ⟨q0,q1,q2⟩ (h:=fun hHeld=>?_)
  clear hK K
  refine tkq 2 (h:=tkq 3 (h:=tkn 4 (h:=tkn 5 (h:=tkn 6 (h:=tkn 7 (h:=tkn 8 (h:=tkn 9 (h:=tkn 10 (h:=tkn 11 (h:=tkq 12 (h:=?_)))))))))))
  refine wpAnyH_done (by kernel_rfl) ?_ _
  clear hHeld
  go_wp2
  go_ret
  exact zaM a.out hB
 have hs:=g.out.1 rfl
 clear g
 obtain ⟨P,M,rfl,rfl,hf,m⟩:=hs.fld
 have HS:=hid hs
 have HF:=hid hf
 have r:Hid (M=1∨k=M):=m
 have p:=hid (zb6 hf)
 clear hs hf m
 refine bkq hK ⟨q0,q1,q2⟩ (h:=fun hHeld=>?_)
 clear hK K
 refine tkq 2 (h:=tkq 3 (h:=tkq 4 (h:=tkq 5 (h:=tkq 6 (h:=tkq 7 (h:=tkq 8 (h:=rdq 9 (h:=fun K hK=>?_))))))))
 go_simp
 go_wp2_with fail
 refine (zcp (P:Int) (M:Int) _).mono ?_
 rintro e w3 ⟨rfl,kb⟩
 rw [p.out];replace hB:=onS hB kb;replace rf:=zaa rf kb;clear kb q0 q1 q2
 refine bkq hK ⟨qc0 rf,qc1 rf,qc2 rf⟩ (h:=fun hHeld=>?_)
 clear hK K
 refine rdq 10 (h:=fun K hK=>?_)
 go_simp
 go_wp2_with fail
 refine (zcE P M A k c (fun i=>(f i).toNat) (P ^ M) w3 HF.out (HS.out.mod (hr.on hB)) r.out rfl).mono ?_
 rintro e w4 ⟨kb,hg⟩
 have HG:=hid hg
 replace hB:=onS hB kb;replace rf:=zaa rf kb;clear kb hg
 rcases HG.out with ⟨rfl,a⟩ | ⟨lv,x,rfl,o,j,n,hO⟩
 ·have a:Hid (¬ GoodF (P:Int) (M:Int) k f):=fun h=>by
   obtain ⟨x,h1,h2,h3⟩:=HS.out.good.1 h
   exact a x h1 h2 h3
  refine bkq hK ⟨qc0 rf,qc1 rf,qc2 rf⟩ (h:=fun hHeld=>?_)
  clear hK K
  have he:∀ w:World,(binOp .eql 22 (.slice none 0 0) (.slice none 0 0)).run Tryz.prog w=.ok (.bool true) w:=fun _=>rfl
  refine tkq 11 (h:=tkq 12 (h:=?_))
  refine wpAnyH_done (by kernel_rfl) ?_ _
  clear hHeld
  go_wp2
  go_ret
  exact zaM a.out hB
 have d:Hid (GoodF (P:Int) (M:Int) k f):=HS.out.good.2 ⟨x,o,j,n⟩
 have q:P ^ M - 1≠0:=by omega
 obtain ⟨lb,lo,lc,rfl,_⟩:=hO.form (by omega)
 obtain ⟨L,hL⟩:=exx (P ^ M - 1)
 rw [<-hL];clear q hO j hL n HG
 refine bkq hK ⟨qc0 rf,qc1 rf,qc2 rf⟩ (h:=fun hHeld=>?_)
 clear hK K
 have he:∀ w:World,(binOp .eql 22 (.slice (some ⟨lb,lo,none⟩) L lc) (.slice none 0 0)).run Tryz.prog w=.ok (.bool false) w:=fun _=>rfl
 refine tkq 11 (h:=tkq 12 (h:=?_))
 refine wpAnyH_done (by kernel_rfl) ?_ _
 clear hHeld
 go_wp2
 go_ret
 exact zco d.out hB
def lgP (p:Nat->Nat):Nat->Nat->Nat
 | 0,_=>0
 | n+1,t=>if t=p n then n else lgP p n t
theorem zkB {q:Nat} {p:Nat->Nat} {N i:Nat} (h:PwOk q p N):∀ n,n<=N->i<n->lgP p n (p i)=i
 | 0,_,hi=>by omega
 | n + 1, hn, hi => by
  show (if p i=p n then n else lgP p n (p i))=i
  by_cases e:i=n
  ·subst e; rw [if_pos rfl]
  ·rw [if_neg (h.inj i n (by omega) (by omega))]
   exact zkB h n (by omega) (by omega)
theorem zim {w:World} {a b c d e f:Value} {T:TypeId}:(w.alloc (.cells #[a,b,c,d,e,f] T)).rowIs w.heap.size T 6 (gfCell a b c d e f) :=
 ⟨_,zaA rfl,rfl,fun i hi=>by
  match i,hi with
  | 0,_=>rfl
  | 1,_=>rfl
  | 2,_=>rfl
  | 3,_=>rfl
  | 4,_=>rfl
  | 5,_=>rfl⟩
theorem zin {w:World} {base e s n:Nat} {v:Value} {f:Nat->Nat->Value} (h:Own w base e s v n f):v.ownBlock=none∨v.ownBlock≠some w.heap.size:=.inr fun e=>by have:=(h.lt _ e).2; omega
def GFU (w:World) (base B g P M:Nat) (m:Nat->Nat):Prop:=∃ A k c eb eo ec lb lo lc x lg,GFr w B g P M m A k c eb eo ec lb lo lc x lg/\base<=g/\base<=eb/\base<=lb/\∀ ad,A=some ad->base<=ad.block
theorem GFU.gf {w:World} {base B g P M:Nat} {m:Nat->Nat} (h:GFU w base B g P M m):GF w B g P M m:=by
 obtain ⟨A,k,c,eb,eo,ec,lb,lo,lc,x,lg,h,_⟩:=h
 exact ⟨A,k,c,eb,eo,ec,lb,lo,lc,x,lg,h⟩
theorem GFU.grown {w w':World} {base g P M b:Nat} {m:Nat->Nat} (h:GFU w base w.heap.size g P M m) (hg:w.grownBy w' (some b)) (hb:b<base):GFU w' base w'.heap.size g P M m:=by
 obtain ⟨A,k,c,eb,eo,ec,lb,lo,lc,x,lg,h,h1,h2,h3,h4⟩:=h
 have d:∀ {ad:Option Addr} {n:Nat} {f:Nat->Int},IntsR w w.heap.size ad n f->(∀ a,ad=some a->base<=a.block)->IntsR w' w'.heap.size ad n f:=fun {ad n f} hr ha i hi=>by
  obtain ⟨q,o,e,hq,hc⟩:=hr i hi
  refine ⟨q,o,e,Nat.lt_of_lt_of_le hq hg.size,fun j hj=>?_⟩
  have l:base<=q:=ha _ e
  exact (World.cell?_of_block (w:=w) (a:=⟨q,o+i*1+j,none⟩) (hg.block q hq (by intro e; injection e with e; omega))).trans (hc j hj)
 exact ⟨A,k,c,eb,eo,ec,lb,lo,lc,x,lg,⟨h.ok,h.km,h.row.of_block (hg.block g h.row.lt (by intro e; injection e with e; omega)),Nat.lt_of_lt_of_le h.lt hg.size,d h.md h4,d h.ex (fun a e=>by injection e with e; subst e; exact h2),d h.lgr (fun a e=>by injection e with e; subst e; exact h3),h.x0,h.xq,h.gen,h.lgs⟩,h1,h2,h3,h4⟩
def NewPost (P M:Int) (k:Nat) (f:Nat->Int) (w:World) (e:Ending) (w':World):Prop :=
 Below w.heap.size w w'/\((¬ GoodF P M k f/\e=.returned (.tuple #[.pointer none,.int .i64 1])) ∨
  (GoodF P M k f/\∃ g P' M',P=(P':Nat)/\M=(M':Nat)/\e=.returned (.tuple #[.pointer (some ⟨g,0,none⟩),.int .i64 0])/\w.heap.size<=g/\GFU w' w.heap.size w'.heap.size g P' M' (fun i=>(f i).toNat)))
theorem zcg (P M:Int) (A:Option Addr) (k c:Nat) (f:Nat->Int) (w:World) (hr:IntsR w w.heap.size A k f) :
  Calls Tryz.prog 74 #[.agg #[.int .i64 P,.int .i64 M,.slice A k c]] w (NewPost P M k f w):=by
 obtain ⟨w0,a5,hB,rf⟩:=zao w (.int .i64 P) (.int .i64 M) (.slice A k c) 24
 go_enter Tryz.func74, Tryz.ntmps74
 go_upto_region 1 with fail
 rw [<-a5];clear a5
 have q0:=qc0 rf
 have q1:=qc1 rf
 have q2:=qc2 rf
 go_wp2_with fail
 refine (zfM P M A k c f w0 (hr.on hB)).mono ?_
 rintro e w1 ⟨b,rfl,hb,kb⟩
 replace hB:=onS hB kb;replace rf:=zaa rf kb
 have a3:=hid hb
 clear kb hb q0 q1 q2
 cases b
 ·have F:Hid (¬ GoodF P M k f):=fun h=>by have:=a3.out.2 h.shape; cases this
  go_wp2
  go_ret2
  exact ⟨hB,.inl ⟨F.out,rfl⟩⟩
 have hs:=a3.out.1 rfl
 clear a3
 obtain ⟨P,M,rfl,rfl,hf,a9⟩:=hs.fld
 have ac:Hid ((M=1/\k=0)∨(2<=M/\k=M)):=by
  obtain ⟨P',M',h1,h2,_,_,h5⟩:=hs
  obtain rfl:M=M':=by omega
  rcases h5 with h | ⟨a,b,_⟩
  ·exact .inl h
  ·exact .inr ⟨a,b⟩
 have HS:=hid hs
 have HF:=hid hf
 have am:Hid (M=1∨k=M):=a9
 have af:=hf.2.2.2
 have aw:=hf.2.2.1
 have ar:k<=8:=by rcases ac.out with h | h <;> omega
 obtain ⟨Q,hQ⟩:=exx (P ^ M)
 have ah:Hid (ordV (P:Int) (M:Int)=(Q:Int)):=by show _=_; rw [zb6 hf,hQ]
 rw [<-hQ] at af
 have HQ:=hid hQ
 clear hs hf a9 hQ
 have q0:=qc0 rf
 have q1:=qc1 rf
 have q2:=qc2 rf
 go_wp2_with fail
 refine (zcp (P:Int) (M:Int) _).mono ?_
 rintro e w2 ⟨rfl,kb⟩
 rw [ah.out];replace hB:=onS hB kb;replace rf:=zaa rf kb;clear kb q0 q1 q2
 have q0:=qc0 rf
 have q1:=qc1 rf
 have q2:=qc2 rf
 go_wp2_with fail
 refine (zcE P M A k c (fun i=>(f i).toNat) Q w2 HF.out (HS.out.mod (hr.on hB)) am.out HQ.out).mono ?_
 rintro e w3 ⟨kb,hg⟩
 have HG:=hid hg
 have aa:=hB.size
 replace hB:=onS hB kb;replace rf:=zaa rf kb;clear kb hg q0 q1 q2
 rcases HG.out with ⟨rfl,F⟩ | ⟨lv,x,rfl,O,N,J,hO⟩
 ·have F:Hid (¬ GoodF (P:Int) (M:Int) k f):=fun h=>by
   obtain ⟨x,h1,h2,h3⟩:=HS.out.good.1 h
   exact F x h1 (by rw [HQ.out]; exact h2) (by rw [HQ.out]; exact h3)
  have he:∀ w:World,(binOp .eql 22 (.slice none 0 0) (.slice none 0 0)).run Tryz.prog w=.ok (.bool true) w:=fun _=>rfl
  go_wp2
  go_ret2
  exact ⟨hB,.inl ⟨F.out,rfl⟩⟩
 have z:Hid (GoodF (P:Int) (M:Int) k f):=HS.out.good.2 ⟨x,O,by rw [<-HQ.out]; exact N,by rw [<-HQ.out]; exact J⟩
 obtain ⟨lb,lo,lc,rfl,_⟩:=hO.form (by omega)
 obtain ⟨L,hL⟩:=exx (Q - 1)
 obtain ⟨p,hp⟩:=exx (pwG (mulF P M fun i=>(f i).toNat) x)
 have E:PwOk Q p L:=by rw [hL,hp]; exact J.1
 have ab:=hid E
 have an:=hid J
 have HL:=hid hL
 have aj:=hid hp
 rw [<-hL,<-hp] at hO;rw [<-hL]
 have ay:0<L:=by omega
 have ax:L+1=Q:=by omega
 have HX:Hid (1<=x/\x<Q):=⟨O,N⟩
 clear hL J HG E hp O N
 have he:∀ w:World,(binOp .eql 22 (.slice (some ⟨lb,lo,none⟩) L lc) (.slice none 0 0)).run Tryz.prog w=.ok (.bool false) w:=fun _=>rfl
 go_wp2
 clear he
 have d:=hO.mono aa
 clear hO aa
 have X:=hid hr
 obtain ⟨w1,a4⟩:=exx w3
 rw [<-a4] at d hB rf ⊢;clear a4 hr
 have q0:=qc0 rf
 have q1:=qc1 rf
 have q2:=qc2 rf
 have a7:=fun W=>zaf (P:=Tryz.prog) 22 3 _ 8 Tryz.underlying22 Tryz.infoInt rfl (Q:Int) (by omega) (by omega) (by omega) W
 simp only [Int.toNat_natCast] at a7
 go_cut [6] (fun v6 wx=>∃ gg A7 c7 gl,v6=.pointer (some ⟨gg,0,none⟩)/\w.heap.size<=gg/\wx.rowIs gg 182 6 (gfCell (.int .i64 (P:Nat)) (.int .i64 (M:Nat)) (.slice A7 k c7) (.int .i64 (Q:Nat)) (.slice (some ⟨lb,lo,none⟩) L lc) (.slice (some ⟨gl,0,none⟩) Q Q))/\wx.rowIs gl 3 Q (fun _=>.int .i64 0)/\Own wx w.heap.size 3 1 (.slice A7 k c7) k (fun j _=>.int .i64 (f j))/\((Value.slice A7 k c7).ownBlock=none∨(Value.slice A7 k c7).ownBlock≠some gl)/\lb≠gl/\Own wx w.heap.size 3 1 (.slice (some ⟨lb,lo,none⟩) L lc) L (fun i _=>.int .i64 (p i:Nat))/\w.heap.size<=gl/\Below w.heap.size w wx)
 case rest =>
  obtain ⟨gg,A7,c7,gl,rfl,I,rg,rl,a8,m,G,hO,r,hB⟩:=hcut
  clear d rf q0 q1 q2 a7
  have B:=hid a8
  have al:=hid m
  have ak:=hid G
  have v:=hid hO
  have u:=hid rg
  have H:gl≠gg:=fun e=>by
   obtain ⟨cs,h1,_⟩:=rl
   obtain ⟨cs',h2,_⟩:=rg
   rw [e,h2] at h1
   injection h1 with h1
   injection h1 with _ h1
   exact absurd h1 (by decide)
  have ao:=hid H
  have HB:=hid hB
  have s:=hid (rl.congr (g:=fun t=>.int .i64 (lgP p 0 t:Nat)) fun t _=>rfl)
  clear a8 m G hO rg H hB rl
  go_wp2
  go_loopg [39] L (fun g2 iv wx=>∃ i:Nat,iv=.int .i64 (i:Nat)/\i<=L/\L<=i+g2/\Hid (wx.rowIs gl 3 Q (fun t=>.int .i64 (lgP p i t:Nat)))/\Hid (wx.rowIs gg 182 6 (gfCell (.int .i64 (P:Nat)) (.int .i64 (M:Nat)) (.slice A7 k c7) (.int .i64 (Q:Nat)) (.slice (some ⟨lb,lo,none⟩) L lc) (.slice (some ⟨gl,0,none⟩) Q Q)))/\Hid (Own wx w.heap.size 3 1 (.slice A7 k c7) k (fun j _=>.int .i64 (f j)))/\Hid (Own wx w.heap.size 3 1 (.slice (some ⟨lb,lo,none⟩) L lc) L (fun i _=>.int .i64 (p i:Nat)))/\Hid (Below w.heap.size w wx))
  case atStart=>exact ⟨0,rfl,by omega,by omega,s,u,B,v,HB⟩
  clear s u B v HB
  obtain ⟨i,rfl,hi,au,s,u,B,v,HB⟩:=hrel
  have av:(0:Int)<=(i:Int):=by omega
  by_cases hlt:i<L
  ·have R:(i:Int)<(L:Int):=by omega
   have a6:=ab.out.lt i hlt
   have x0:=(show IntsR wr wr.heap.size (some ⟨lb,lo,none⟩) L (fun i=>((p i:Nat):Int)) from v.out.rd rfl).here hlt
   obtain ⟨y,hy⟩:=exx (p i)
   rw [<-hy] at x0 a6
   have aq:(y:Int)<(Q:Int):=by omega
   have g5:=qc5 u.out
   have y0:=s.out.cell (i:=y) a6
   have z0:=s.out.frozen y
   have Y:=hid ((s.out.set y (.int .i64 (i:Nat))).congr (g:=fun t=>.int .i64 (lgP p (i+1) t:Nat)) fun t _=>by
    show (if t=y then Value.int .i64 (i:Nat) else .int .i64 (lgP p i t:Nat))=.int .i64 ((if t=p i then i else lgP p i t:Nat):Int)
    rw [<-hy]
    split <;> rfl)
   have Z:=hid (u.out.setOther (a:=⟨gl,y,none⟩) (by simpa using fun e=>ao.out e.symm) (.int .i64 (i:Nat)))
   have a1:=hid (B.out.setCell (a:=⟨gl,y,none⟩) (fun e=>al.out.elim (fun h=>by rw [h] at e; cases e) fun h=>h e) (.int .i64 (i:Nat)))
   have a0:=hid (v.out.setCell (a:=⟨gl,y,none⟩) (fun e=>ak.out (by injection e)) (.int .i64 (i:Nat)))
   have ap:=hid (HB.out.setCell (p:=⟨gl,y,none⟩) (by show w.heap.size<=gl; exact r) (.int .i64 (i:Nat)))
   clear hy s u B v HB
   go_wp2
   go_roundg (gk - 1)
   case measure=>omega
   case rel=>exact ⟨i+1,by go_num,by omega,by omega,Y,Z,a1,a0,ap⟩
  obtain rfl:i=L:=by omega
  have R:¬ (i:Int)<(i:Int):=by omega
  have a2:Hid (GFU wr w.heap.size wr.heap.size gg P M (fun i=>(f i).toNat)):=by
   have ag:=aj.out
   subst ag
   have ae:=HQ.out
   subst ae
   have U:=HL.out
   have ai:=z.out.field.1
   refine ⟨A7,k,c7,lb,lo,lc,gl,0,P ^ M,x,lgP (pwG (mulF P M fun i=>(f i).toNat) x) i,⟨ai,ac.out,?_,u.out.lt,?_,?_,?_,HX.out.1,HX.out.2,an.out,fun t ht=>?_⟩,I,(v.out.lt lb rfl).1,r,fun ad e=>(B.out.lt ad.block (by rw [e]; rfl)).1⟩
   ·rw [<-U]; exact u.out
   ·refine IntsR.congr (show IntsR wr wr.heap.size A7 k f from B.out.rd rfl) fun t ht=>?_
    obtain ⟨P',M',h1,h2,h3,h4,h5⟩:=z.out
    obtain rfl:M=M':=by omega
    rcases h5 with ⟨_,e⟩ | ⟨_,e,h,_⟩
    ·omega
    ·have:=h t (by omega); show f t=((f t).toNat:Int); omega
   ·rw [<-U]; exact v.out.rd rfl
   ·exact zbl s.out
   ·rw [<-U] at ht
    exact zkB ab.out i (Nat.le_refl _) ht
  go_wp2
  go_ret2
  exact ⟨HB.out,.inr ⟨z.out,gg,P,M,rfl,rfl,rfl,I,a2.out⟩⟩
 refine wp_region_held_drew (S:=fun w'=>w'.cell? ⟨w.heap.size,0,none⟩=some (.int .i64 (P:Nat))/\w'.cell? ⟨w.heap.size,1,none⟩=some (.int .i64 (M:Nat))/\w'.cell? ⟨w.heap.size,2,none⟩=some (.slice A k c)) (by kernel_rfl) ⟨cellS (Below.refl _ _).drew (q0),cellS (Below.refl _ _).drew (q1),cellS (Below.refl _ _).drew (q2)⟩ (fun hHeld=>?_)
 obtain ⟨w2,hw,kb⟩:=dwx w1
 rw [<-hw] at hHeld ⊢;clear hw;replace rf:=zaa rf kb;replace hB:=onS hB kb;replace d:=d.on kb;replace q0:=cellS kb q0;replace q1:=cellS kb q1;replace q2:=cellS kb q2;clear kb
 refine tkq 0 (h:=tkq 1 (h:=tkq 2 (h:=tkq 3 (h:=tkq 5 (h:=tkq 6 (h:=tkq 9 (h:=tkq 10 (h:=tkq 11 (h:=?_)))))))))
 refine rdq2 4 12 (h:=fun K hK=>?_) (h2:=fun K hK=>?_)
 focus
  go_simp
  obtain ⟨w3,hw⟩:=exx (World.alloc w2 (Obj.cells #[] 3))
  have kb:=alx hw
  have n0:w3.rowIs w2.heap.size 3 0 (fun _=>undef):=by rw [hw]; exact ⟨_,zaA rfl,rfl,fun i hi=>absurd hi (by omega)⟩
  have q:w.heap.size<=w2.heap.size:=hB.size
  rw [<-hw];clear hw
  obtain ⟨b0,hb⟩:=exx w2.heap.size
  rw [<-hb] at n0 q ⊢;clear hb;replace rf:=zaa rf kb;replace hB:=onS hB kb;replace d:=d.on kb;replace q0:=cellS kb q0;replace q1:=cellS kb q1;replace q2:=cellS kb q2;clear kb
  refine bkq hK ⟨q0,q1,q2⟩ (h:=fun hHeld=>?_)
  clear hK K
  refine rdq2 7 12 (h:=fun K hK=>?_) (h2:=fun K hK=>?_)
  focus
   have l:=X.out.on hB
   refine zbA (by rfl) (.tmp 26) (.tmp 28) (by rfl) (b0:=b0) (base:=w.heap.size) (by rfl) n0 q (A:=A) (c:=c) (n:=k) (f:=f) (by rfl) l (by omega) ?_
   intro v7 w4 o kb hat7
   clear hat7 l n0 q;replace rf:=zaa rf kb;replace hB:=onS hB kb;replace d:=d.on kb;replace q0:=cellS kb q0;replace q1:=cellS kb q1;replace q2:=cellS kb q2;clear kb
   obtain ⟨A7,c7,D⟩:=Own.shape o
   subst D
   refine bkq hK ⟨q0,q1,q2⟩ (h:=fun hHeld=>?_)
   clear hK K
   refine tkq 8 (h:=?_)
   refine rdq 12 (h:=fun K hK=>?_)
   go_simp
   obtain ⟨w5,hw⟩:=exx (World.alloc w4 (Obj.cells (madeCells #[.int .i64 0] Q) 3))
   have kb:=alx hw
   have rl:w5.rowIs w4.heap.size 3 Q (fun _=>.int .i64 0):=by rw [hw]; exact World.rowIs_made w4 (.int .i64 0) Q 3
   have r:w.heap.size<=w4.heap.size:=hB.size
   have C:lb≠w4.heap.size:=by have:=(d.lt lb rfl).2; omega
   have m:(Value.slice A7 k c7).ownBlock=none∨(Value.slice A7 k c7).ownBlock≠some w4.heap.size:=zin o
   rw [<-hw];clear hw
   obtain ⟨gl,hb⟩:=exx w4.heap.size
   rw [<-hb] at rl r C m ⊢;clear hb;replace rf:=zaa rf kb;replace hB:=onS hB kb;replace d:=d.on kb;replace q0:=cellS kb q0;replace q1:=cellS kb q1;replace q2:=cellS kb q2;replace o:=o.on kb;clear kb
   refine bkq hK ⟨q0,q1,q2⟩ (h:=fun hHeld=>?_)
   clear hK K
   refine tkq 13 (h:=?_)
  rotate_left
  focus
   go_simp
   obtain ⟨w4,hw⟩:=exx (World.alloc w3 (Obj.cells (madeCells #[.int .i64 0] Q) 3))
   have kb:=alx hw
   have rl:w4.rowIs w3.heap.size 3 Q (fun _=>.int .i64 0):=by rw [hw]; exact World.rowIs_made w3 (.int .i64 0) Q 3
   have r:w.heap.size<=w3.heap.size:=hB.size
   have C:lb≠w3.heap.size:=by have:=(d.lt lb rfl).2; omega
   have V:b0≠w3.heap.size:=by have:=n0.lt; omega
   rw [<-hw];clear hw
   obtain ⟨gl,hb⟩:=exx w3.heap.size
   rw [<-hb] at rl r C V ⊢;clear hb;replace rf:=zaa rf kb;replace n0:=zaa n0 kb;replace hB:=onS hB kb;replace d:=d.on kb;replace q0:=cellS kb q0;replace q1:=cellS kb q1;replace q2:=cellS kb q2;clear kb
   refine bkq hK ⟨q0,q1,q2⟩ (h:=fun hHeld=>?_)
   clear hK K
   refine rdq 7 (h:=fun K hK=>?_)
   have l:=X.out.on hB
   have T:=rl.lt
   refine zbA (by rfl) (.tmp 26) (.tmp 28) (by rfl) (b0:=b0) (base:=w.heap.size) (by rfl) n0 q (A:=A) (c:=c) (n:=k) (f:=f) (by rfl) l (by omega) ?_
   intro v7 w5 o kb hat7
   have m:v7.ownBlock=none∨v7.ownBlock≠some gl:=.inr fun e=>by
    rcases hat7 with h | h <;> (rw [h] at e; injection e with e; omega)
   clear T;clear hat7 l n0 q;replace rf:=zaa rf kb;replace rl:=zaa rl kb;replace hB:=onS hB kb;replace d:=d.on kb;replace q0:=cellS kb q0;replace q1:=cellS kb q1;replace q2:=cellS kb q2;clear kb
   obtain ⟨A7,c7,D⟩:=Own.shape o
   subst D
   refine bkq hK ⟨q0,q1,q2⟩ (h:=fun hHeld=>?_)
   clear hK K
   refine tkq 8 (h:=tkq 13 (h:=?_))
  rotate_left
 rotate_left 2
 focus
  go_simp
  obtain ⟨w3,hw⟩:=exx (World.alloc w2 (Obj.cells (madeCells #[.int .i64 0] Q) 3))
  have kb:=alx hw
  have rl:w3.rowIs w2.heap.size 3 Q (fun _=>.int .i64 0):=by rw [hw]; exact World.rowIs_made w2 (.int .i64 0) Q 3
  have r:w.heap.size<=w2.heap.size:=hB.size
  have C:lb≠w2.heap.size:=by have:=(d.lt lb rfl).2; omega
  rw [<-hw];clear hw
  obtain ⟨gl,hb⟩:=exx w2.heap.size
  rw [<-hb] at rl r C ⊢;clear hb;replace rf:=zaa rf kb;replace hB:=onS hB kb;replace d:=d.on kb;replace q0:=cellS kb q0;replace q1:=cellS kb q1;replace q2:=cellS kb q2;clear kb
  refine bkq hK ⟨q0,q1,q2⟩ (h:=fun hHeld=>?_)
  clear hK K
  refine rdq 4 (h:=fun K hK=>?_)
  go_simp
  obtain ⟨w4,hw⟩:=exx (World.alloc w3 (Obj.cells #[] 3))
  have kb:=alx hw
  have n0:w4.rowIs w3.heap.size 3 0 (fun _=>undef):=by rw [hw]; exact ⟨_,zaA rfl,rfl,fun i hi=>absurd hi (by omega)⟩
  have q:w.heap.size<=w3.heap.size:=hB.size
  have V:w3.heap.size≠gl:=by have:=rl.lt; omega
  rw [<-hw];clear hw
  obtain ⟨b0,hb⟩:=exx w3.heap.size
  rw [<-hb] at n0 q V ⊢;clear hb;replace rf:=zaa rf kb;replace rl:=zaa rl kb;replace hB:=onS hB kb;replace d:=d.on kb;replace q0:=cellS kb q0;replace q1:=cellS kb q1;replace q2:=cellS kb q2;clear kb
  refine bkq hK ⟨q0,q1,q2⟩ (h:=fun hHeld=>?_)
  clear hK K
  refine rdq 7 (h:=fun K hK=>?_)
  have l:=X.out.on hB
  have T:=rl.lt
  refine zbA (by rfl) (.tmp 26) (.tmp 28) (by rfl) (b0:=b0) (base:=w.heap.size) (by rfl) n0 q (A:=A) (c:=c) (n:=k) (f:=f) (by rfl) l (by omega) ?_
  intro v7 w5 o kb hat7
  have m:v7.ownBlock=none∨v7.ownBlock≠some gl:=.inr fun e=>by
   rcases hat7 with h | h <;> (rw [h] at e; injection e with e; omega)
  clear T;clear hat7 l n0 q;replace rf:=zaa rf kb;replace rl:=zaa rl kb;replace hB:=onS hB kb;replace d:=d.on kb;replace q0:=cellS kb q0;replace q1:=cellS kb q1;replace q2:=cellS kb q2;clear kb
  obtain ⟨A7,c7,D⟩:=Own.shape o
  subst D
  refine bkq hK ⟨q0,q1,q2⟩ (h:=fun hHeld=>?_)
  clear hK K
  refine tkq 8 (h:=tkq 13 (h:=?_))
 rotate_left
 all_goals
  refine rdq 14 (h:=fun K hK=>?_)
  go_simp
  obtain ⟨w6,hw⟩:=exx (World.alloc w5 (Obj.cells #[.int .i64 (P:Nat),.int .i64 (M:Nat),.slice A7 k c7,.int .i64 (Q:Nat),.slice (some ⟨lb,lo,none⟩) L lc,.slice (some ⟨gl,0,none⟩) Q Q] 182))
  have kb:=alx hw
  have rg:w6.rowIs w5.heap.size 182 6 (gfCell (.int .i64 (P:Nat)) (.int .i64 (M:Nat)) (.slice A7 k c7) (.int .i64 (Q:Nat)) (.slice (some ⟨lb,lo,none⟩) L lc) (.slice (some ⟨gl,0,none⟩) Q Q)):=by rw [hw]; exact zim
  have I:w.heap.size<=w5.heap.size:=hB.size
  rw [<-hw];clear hw
  obtain ⟨gg,hb⟩:=exx w5.heap.size
  rw [<-hb] at rg I ⊢;clear hb;replace rf:=zaa rf kb;replace rl:=zaa rl kb;replace hB:=onS hB kb;replace d:=d.on kb;replace q0:=cellS kb q0;replace q1:=cellS kb q1;replace q2:=cellS kb q2;replace o:=o.on kb;clear kb
  refine bkq hK ⟨q0,q1,q2⟩ (h:=fun hHeld=>?_)
  clear hK K
  refine tkq 15 (h:=?_)
  refine wpAnyH_done (by kernel_rfl) ?_ _
  clear hHeld
  go_wp2
  go_meet
  exact ⟨gg,A7,c7,gl,rfl,I,rg,rl,o,m,C,d,r,hB⟩
structure RowAt where
 b:Nat
 o:Nat
 c:Nat
structure DTab (w:World) (base tb o n c k:Nat) (r:Nat->RowAt) (W:Nat->Nat->Nat):Prop where
 tab:Own w base 22 1 (.slice (some ⟨tb,o,none⟩) n c) n (fun i _=>.slice (some ⟨(r i).b,(r i).o,none⟩) k (r i).c)
 row:∀ i,i<n->Own w base 3 1 (.slice (some ⟨(r i).b,(r i).o,none⟩) k (r i).c) k (fun j _=>.int .i64 (W i j:Nat))
 apart:∀ i j,i<n->j<n->i≠j->(r i).b≠(r j).b
theorem zb3 {w w1 w2:World} {row:Option Nat} (h:w.grownBy w1 row) (hb:Below w1.heap.size w1 w2):w.grownBy w2 row :=
 ⟨hb.os.trans h.os,hb.tape.trans h.tape,hb.output.trans h.output,Nat.le_trans h.size hb.size,fun k hk hne=>(hb.block k (Nat.lt_of_lt_of_le hk h.size)).trans (h.block k hk hne)⟩
theorem zat {w w':World} {row:Option Nat} {p:Addr} {v:Value} (hg:w.grownBy w' row) (h:w.cell? p=some v) (hne:some p.block≠row):w'.cell? p=some v :=
 (World.cell?_of_block (w:=w) (hg.block p.block (World.block_lt_of_cell? w p h) hne)).trans h
section
variable {w w':World} {base tb o n c k i:Nat} {r:Nat->RowAt} {W W':Nat->Nat->Nat}
theorem DTab.on (h:DTab w base tb o n c k r W) (hb:Below w.heap.size w w'):DTab w' base tb o n c k r W:=⟨h.tab.on hb,fun i hi=>(h.row i hi).on hb,h.apart⟩
theorem DTab.congr (h:DTab w base tb o n c k r W) (e:∀ i,i<n->∀ j,j<k->W i j=W' i j):DTab w base tb o n c k r W':=⟨h.tab,fun i hi=>(h.row i hi).congr fun j hj _ _=>by rw [e i hi j hj],h.apart⟩
theorem DTab.cell (h:DTab w base tb o n c k r W) (hi:i<n):w.cell? ⟨tb,o+i,none⟩=some (.slice (some ⟨(r i).b,(r i).o,none⟩) k (r i).c):=by
 obtain ⟨b,off,e,_,h1⟩:=Rd.at1 (h.tab.rd rfl) hi
 injection e with e
 injection e with e1 e2
 subst e1 e2
 exact h1
theorem DTab.froz (h:DTab w base tb o n c k r W) (j:Nat):w.frozen? ⟨tb,j,none⟩=false:=h.tab.frozen j
theorem DTab.lt (h:DTab w base tb o n c k r W) (hi:i<n):base<=(r i).b/\(r i).b<w.heap.size:=(h.row i hi).lt _ rfl
theorem DTab.tlt (h:DTab w base tb o n c k r W):base<=tb/\tb<w.heap.size:=h.tab.lt _ rfl
theorem DTab.ne (h:DTab w base tb o n c k r W) (hi:i<n):(r i).b≠tb:=by
 rcases za4 h.tab (h.row i hi) (by decide) with h1 | h1
 ·cases h1
 ·exact fun e=>h1 (by show some _=some _; rw [e])
theorem DTab.rd (h:DTab w base tb o n c k r W) (hi:i<n):IntsR w w.heap.size (some ⟨(r i).b,(r i).o,none⟩) k (fun j=>((W i j:Nat):Int)):=(h.row i hi).rd rfl
theorem DTab.entry {j:Nat} (h:DTab w base tb o n c k r W) (hi:i<n) (hj:j<k):w.cell? ⟨(r i).b,(r i).o+j,none⟩=some (.int .i64 (W i j:Nat)):=(h.rd hi).here hj
theorem DTab.kept {row:Option Nat} (h:DTab w base tb o n c k r W) (hg:w.grownBy w' row) (h1:row≠some tb) (h2:∀ i,i<n->row≠some (r i).b):DTab w' base tb o n c k r W :=
 ⟨h.tab.kept hg (.inr fun e=>h1 e.symm),fun i hi=>(h.row i hi).kept hg (.inr fun e=>h2 i hi e.symm),h.apart⟩
theorem DTab.swap {a t:Nat} (h:DTab w base tb o n c k r W) (ha:a<n) (ht:t<n) :
  DTab ((w.setCell ⟨tb,o+a,none⟩ (.slice (some ⟨(r t).b,(r t).o,none⟩) k (r t).c)).setCell ⟨tb,o+t,none⟩ (.slice (some ⟨(r a).b,(r a).o,none⟩) k (r a).c)) base tb o n c k (fun u=>if u=t then r a else if u=a then r t else r u) (fun u=>if u=t then W a else if u=a then W t else W u):=by
 have h1:=h.tab.set ha (by omega:0<1) (.slice (some ⟨(r t).b,(r t).o,none⟩) k (r t).c)
 rw [Nat.mul_one,Nat.add_zero] at h1
 have h2:=h1.set ht (by omega:0<1) (.slice (some ⟨(r a).b,(r a).o,none⟩) k (r a).c)
 rw [Nat.mul_one,Nat.add_zero] at h2
 refine ⟨h2.congr fun u hu q hq=>?_,fun u hu=>?_,fun i j hi hj hne=>?_⟩
 ·obtain rfl:q=0:=by omega
  by_cases e1:u=t
  ·simp [e1]
  by_cases e2:u=a
  ·have e3:¬ a=t:=fun h=>e1 (e2.trans h)
   simp [e2,e3]
  ·simp [e1,e2]
 ·have d:∀ v,v<n->Own ((w.setCell ⟨tb,o+a,none⟩ (.slice (some ⟨(r t).b,(r t).o,none⟩) k (r t).c)).setCell ⟨tb,o+t,none⟩ (.slice (some ⟨(r a).b,(r a).o,none⟩) k (r a).c)) base 3 1 (.slice (some ⟨(r v).b,(r v).o,none⟩) k (r v).c) k (fun j _=>.int .i64 (W v j:Nat)):=fun v hv =>
   ((h.row v hv).setCell (fun e=>h.ne hv (by injection e)) _).setCell (fun e=>h.ne hv (by injection e)) _
  by_cases e1:u=t
  ·simp only [if_pos e1]; exact d a ha
  by_cases e2:u=a
  ·simp only [if_neg e1,if_pos e2]; exact d t ht
  ·simp only [if_neg e1,if_neg e2]; exact d u hu
 have ap:=h.apart
 show (if i=t then r a else if i=a then r t else r i).b≠(if j=t then r a else if j=a then r t else r j).b
 by_cases e1:i=t
 ·rw [if_pos e1]
  rw [if_neg (by omega)]
  by_cases e3:j=a
  ·rw [if_pos e3]; exact ap a t ha ht (by omega)
  ·rw [if_neg e3]; exact ap a j ha hj (by omega)
 rw [if_neg e1]
 by_cases e2:i=a
 ·rw [if_pos e2]
  by_cases e3:j=t
  ·rw [if_pos e3]; exact ap t a ht ha (by omega)
  ·rw [if_neg e3,if_neg (by omega)]; exact ap t j ht hj (by omega)
 rw [if_neg e2]
 by_cases e3:j=t
 ·rw [if_pos e3]; exact ap i a hi ha e2
 rw [if_neg e3]
 by_cases e4:j=a
 ·rw [if_pos e4]; exact ap i t hi ht e1
 ·rw [if_neg e4]; exact ap i j hi hj hne
theorem DTab.put {g go gc:Nat} {x:Nat->Nat} (h:DTab w base tb o n c k r W) (hi:i<n) (hr:Own w base 3 1 (.slice (some ⟨g,go,none⟩) k gc) k (fun j _=>.int .i64 (x j:Nat))) (hg:∀ u,u<n->u≠i->(r u).b≠g) :
  DTab (w.setCell ⟨tb,o+i,none⟩ (.slice (some ⟨g,go,none⟩) k gc)) base tb o n c k (fun u=>if u=i then ⟨g,go,gc⟩ else r u) (fun u=>if u=i then x else W u):=by
 have h1:=h.tab.set hi (by omega:0<1) (.slice (some ⟨g,go,none⟩) k gc)
 rw [Nat.mul_one,Nat.add_zero] at h1
 have d:g≠tb:=by
  rcases za4 h.tab hr (by decide) with h1 | h1
  ·cases h1
  ·exact fun e=>h1 (by show some _=some _; rw [e])
 refine ⟨h1.congr fun u hu q hq=>?_,fun u hu=>?_,fun a b ha hb hab=>?_⟩
 ·obtain rfl:q=0:=by omega
  by_cases e:u=i
  ·simp [e]
  ·simp [e]
 ·by_cases e:u=i
  ·simp only [if_pos e]
   exact hr.setCell (fun e=>d (by injection e)) _
  ·simp only [if_neg e]
   exact (h.row u hu).setCell (fun e=>h.ne hu (by injection e)) _
 show (if a=i then (⟨g,go,gc⟩:RowAt) else r a).b≠(if b=i then (⟨g,go,gc⟩:RowAt) else r b).b
 by_cases e1:a=i
 ·rw [if_pos e1,if_neg (by omega)]; exact fun e=>hg b hb (by omega) e.symm
 rw [if_neg e1]
 by_cases e2:b=i
 ·rw [if_pos e2]; exact hg a ha e1
 ·rw [if_neg e2]; exact h.apart a b ha hb hab
theorem DTab.rowed {x:Nat->Nat} (h:DTab w base tb o n c k r W) (hi:i<n) (hg:w.grownBy w' (some (r i).b)) (hr:Own w' base 3 1 (.slice (some ⟨(r i).b,(r i).o,none⟩) k (r i).c) k (fun j _=>.int .i64 (x j:Nat))) :
  DTab w' base tb o n c k r (fun u=>if u=i then x else W u) :=
 ⟨h.tab.kept hg (.inr fun e=>h.ne hi (by injection e with e; exact e.symm)),fun u hu=>by
  by_cases e:u=i
  ·subst e; simp only [if_pos]; exact hr
  ·simp only [if_neg e]
   exact (h.row u hu).kept hg (.inr fun e2=>h.apart u i hu hi e (by injection e2)),h.apart⟩
end
def RowedPost (w:World) (base vb vo vc k:Nat) (x:Nat->Nat) (e:Ending) (w':World):Prop :=
 e=.returned (.tuple #[])/\w.grownBy w' (some vb)/\Own w' base 3 1 (.slice (some ⟨vb,vo,none⟩) k vc) k (fun j _=>.int .i64 (x j:Nat))
theorem zjK (P M g base vb vo vc ub uo uc k a:Nat) (m:Nat->Nat) (x y:Nat->Nat) (w:World) (h:GF w base g P M m) (hbw:base<=w.heap.size)
  (hv:Own w base 3 1 (.slice (some ⟨vb,vo,none⟩) k vc) k (fun j _=>.int .i64 (x j:Nat))) (hu:IntsR w w.heap.size (some ⟨ub,uo,none⟩) k (fun j=>((y j:Nat):Int))) (hne:ub≠vb)
  (ha:a<P ^ M) (hx:∀ j,j<k->x j<P ^ M) (hy:∀ j,j<k->y j<P ^ M) (hk:k<=1048576) :
  Calls Tryz.prog 264 #[.pointer (some ⟨g,0,none⟩),.slice (some ⟨vb,vo,none⟩) k vc,.int .i64 (a:Nat),.slice (some ⟨ub,uo,none⟩) k uc] w (RowedPost w base vb vo vc k (fun j=>addF P M (x j) (mulF P M m a (y j)))):=by
 have hq:=h.ok.1.2.2.2
 have HL:=hid (fieldLaws h.ok)
 have H:=hv.lt _ rfl
 have HG:=hid h
 have HU:Hid (∀ j,j<k->w.cell? ⟨ub,uo+j,none⟩=some (.int .i64 (y j:Nat))):=fun j hj=>hu.here hj
 have HV:=hid (hv.congr (f':=fun j _=>.int .i64 ((if j<0 then addF P M (x j) (mulF P M m a (y j)) else x j:Nat):Int)) fun j _ _ _=>by rw [if_neg (by omega)])
 have HX:=hid hx
 have HY:=hid hy
 have F:=hid hne
 have C:=hid (zan ha)
 clear h hv hu hx hy hne
 go_enter Tryz.func264, Tryz.ntmps264
 go_wp2
 go_loopg [12] k (fun gg iv wx=>∃ j:Nat,iv=.int .i64 (j:Nat)/\j<=k/\k<=j+gg/\Hid (w.grownBy wx (some vb))/\Hid (Own wx base 3 1 (.slice (some ⟨vb,vo,none⟩) k vc) k (fun t _=>.int .i64 ((if t<j then addF P M (x t) (mulF P M m a (y t)) else x t:Nat):Int))))
 case atStart=>exact ⟨0,rfl,by omega,by omega,World.grownBy.refl _ _,HV⟩
 clear HV
 obtain ⟨j,rfl,hj,I,c,HV⟩:=hrel
 have J:(0:Int)<=(j:Int):=by omega
 by_cases hlt:j<k
 rotate_left
 ·obtain rfl:j=k:=by omega
  have o:¬ (j:Int)<(j:Int):=by omega
  have d:=hid (HV.out.congr (f':=fun t _=>.int .i64 ((addF P M (x t) (mulF P M m a (y t)):Nat):Int)) fun t ht _ _=>by rw [if_pos ht])
  go_wp2
  refine bodyPost_ret (results_none rfl _ _ _) rfl ?_
  exact ⟨rfl,c.out,d.out⟩
 have o:(j:Int)<(k:Int):=by omega
 have y0:=zat c.out (HU.out j hlt) (fun e=>F.out (by injection e))
 have x0:=(show IntsR wr wr.heap.size (some ⟨vb,vo,none⟩) k (fun t=>((if t<j then addF P M (x t) (mulF P M m a (y t)) else x t:Nat):Int)) from HV.out.rd rfl).here hlt
 rw [if_neg (by omega)] at x0
 have z0:=HV.out.frozen (vo+j)
 obtain ⟨yj,i⟩:=exx (y j)
 obtain ⟨xj,l⟩:=exx (x j)
 have D:yj<P ^ M:=by rw [i]; exact HY.out j hlt
 have r:xj<P ^ M:=by rw [l]; exact HX.out j hlt
 rw [<-i] at y0;rw [<-l] at x0
 have u:=hid i
 have v:=hid l
 have G:=hid (zan r)
 have z:=hid (zan D)
 clear i l
 by_cases hy0:yj=0
 ·have hd:((yj:Int) != 0)=false:=by simp [hy0]
  have d:=hid (HV.out.congr (f':=fun t _=>.int .i64 ((if t<j+1 then addF P M (x t) (mulF P M m a (y t)) else x t:Nat):Int)) fun t _ _ _=>by
   by_cases e:t=j
   ·subst e
    rw [if_neg (by omega),if_pos (by omega),<-u.out,<-v.out,hy0,HL.out.mulZero ha,HL.out.addZero r]
   by_cases e2:t<j
   ·rw [if_pos e2,if_pos (by omega)]
   ·rw [if_neg e2,if_neg (by omega)])
  clear hy0 x0 z0
  go_wp2
  go_roundg (gk - 1)
  case measure=>omega
  case rel=>exact ⟨j+1,by go_num,by omega,by omega,c,d⟩
 have hd:((yj:Int) != 0)=true:=by simp [hy0]
 have hB:Below base w wr:=by
  have:=c.out
  exact ⟨this.os,this.tape,this.output,this.size,fun q hq=>this.block q (by omega) (fun e=>by injection e with e; omega)⟩
 have hG:=HG.out.at hB (Nat.le_trans hbw c.out.size)
 obtain ⟨w1,E⟩:=exx wr
 subst E
 have hO:=HV.out
 clear hB hy0 HV
 go_wp2
 clear z0
 refine wp_region_held_drew (S:=fun _=>True) (by kernel_rfl) trivial (fun hHeld=>?_)
 obtain ⟨w2,hw,kb⟩:=dwx w1
 rw [<-hw];clear hw;replace hG:=hG.on kb;replace hO:=hO.on kb;replace x0:=cellS kb x0
 have b:=zb3 c.out kb
 clear kb
 refine tkq 0 (h:=tkq 1 (h:=tkq 2 (h:=tkq 3 (h:=tkq 4 (h:=tkq 5 (h:=tkq 7 (h:=tkq 8 (h:=tkq 9 (h:=?_)))))))))
 refine rdq2 6 10 (h:=fun K hK=>?_) (h2:=fun K hK=>?_)
 focus
  go_simp
  refine bkq hK trivial (h:=fun hHeld=>?_)
  clear hK K
  refine rdq 10 (h:=fun K hK=>?_)
  go_simp
  go_wp2_with fail
  refine (zaY (a:Int) (yj:Int) hG).mono ?_
  rintro e w3 ⟨rfl,kb⟩
  replace hG:=hG.on kb;replace hO:=hO.on kb;replace x0:=cellS kb x0;replace b:=zb3 b kb;clear kb;rw [C.out,z.out]
  obtain ⟨t,ht⟩:=exx (mulF P M m a yj)
  rw [<-ht]
  have HT:=hid ht
  have B:=hid (show inV (P ^ M) (t:Nat)=t from zan (by rw [ht]; exact HL.out.mulLt _ _))
  clear ht
 rotate_left
 focus
  go_simp
  go_wp2_with fail
  refine (zaY (a:Int) (yj:Int) hG).mono ?_
  rintro e w3 ⟨rfl,kb⟩
  replace hG:=hG.on kb;replace hO:=hO.on kb;replace x0:=cellS kb x0;replace b:=zb3 b kb;clear kb;rw [C.out,z.out]
  obtain ⟨t,ht⟩:=exx (mulF P M m a yj)
  rw [<-ht]
  have HT:=hid ht
  have B:=hid (show inV (P ^ M) (t:Nat)=t from zan (by rw [ht]; exact HL.out.mulLt _ _))
  clear ht
  refine bkq hK trivial (h:=fun hHeld=>?_)
  clear hK K
  refine rdq 6 (h:=fun K hK=>?_)
  go_simp
 rotate_left
 all_goals
  refine bkq hK trivial (h:=fun hHeld=>?_)
  clear hK K
  refine rdq 11 (h:=fun K hK=>?_)
  go_simp
  go_wp2_with fail
  refine (zbS (xj:Int) (t:Int) hG).mono ?_
  rintro e w4 ⟨rfl,kb⟩
  replace hG:=hG.on kb;replace hO:=hO.on kb;replace x0:=cellS kb x0;replace b:=zb3 b kb;clear kb;rw [G.out,B.out]
  obtain ⟨s,hs⟩:=exx (addF P M xj t)
  rw [<-hs]
  have HS:=hid hs
  clear hs
  refine bkq hK trivial (h:=fun hHeld=>?_)
  clear hK K
  refine tkq 12 (h:=?_)
  refine rdq 13 (h:=fun K hK=>?_)
  have z1:=hO.frozen (vo+j)
  go_simp
  clear z1
  have n:=hO.set hlt (by omega:0<1) (.int .i64 (s:Nat))
  rw [Nat.mul_one,Nat.add_zero] at n;replace b:=zax b (vo+j) (.int .i64 (s:Nat));clear hO x0
  obtain ⟨w5,hw⟩:=exx (World.setCell w4 ⟨vb,vo+j,none⟩ (.int .i64 (s:Nat)))
  rw [<-hw] at n b ⊢;clear hw
  have p:=hid b
  have d:=hid (n.congr (f':=fun t _=>.int .i64 ((if t<j+1 then addF P M (x t) (mulF P M m a (y t)) else x t:Nat):Int)) fun t _ q hq=>by
   obtain rfl:q=0:=by omega
   by_cases e:t=j
   ·subst e
    rw [if_pos ⟨rfl,rfl⟩,if_pos (by omega),HS.out,HT.out,v.out,u.out]
   rw [if_neg (fun h=>e h.1)]
   by_cases e2:t<j
   ·rw [if_pos e2,if_pos (by omega)]
   ·rw [if_neg e2,if_neg (by omega)])
  clear b n
  refine bkq hK trivial (h:=fun hHeld=>?_)
  clear hK K
  refine wpAnyH_done (by kernel_rfl) ?_ _
  clear hHeld
  go_wp2
  go_roundg (gk - 1)
  case measure=>omega
  case rel=>exact ⟨j+1,by go_num,by omega,by omega,p,d⟩
end Go.Proofs.YtgekjfpapmlndaaGreat