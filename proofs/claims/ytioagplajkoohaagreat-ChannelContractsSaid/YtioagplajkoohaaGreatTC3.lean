/- Merged texts of a claim: AppMany, Has12, RestPl, Rest10, ConRow, ConCode, ConSame, ConTab, ConRec, ConLaw, ConTop. -/
import Derived.Test.YtioagplajkoohaaGreatTF15
import Derived.Test.YtioagplajkoohaaGreatTC1
import Derived.Test.YtioagplajkoohaaGreatTC2
namespace Go.Proofs.YtioagplajkoohaaGreat
set_option maxRecDepth 100000
set_option maxHeartbeats 32000000
open Go.RowKit
section
variable {P:Program} (w:World)
theorem run_append_off_many (t ty e:TypeId) (i:TypeInfo) (ht:P.underlying t=some (.slice e)) (hi:P.info? e=some i)
  (g o sLen sCap:Nat) (cur:Array Value) (hg:w.heap[g]?=some (.cells cur e (0,0)))
  (x:Value) (m:Nat) (news:List Value) (hs:Src P i.size t x m news w) (hroom:sLen+m<=sCap) (hfit:o+sLen*i.size+news.length<=cur.size) :
  (Builtin.append_ #[t,t] ty #[.slice (some ⟨g,o,none⟩) sLen sCap,x]).run P w =
   .ok (.slice (some ⟨g,o,none⟩) (sLen+m) sCap) (w.setRow g (cur.toList.take (o+sLen*i.size) ++ news ++ cur.toList.drop (o+sLen*i.size+news.length)).toArray):=by
 have hst:=run_storeCells_at P g (o+sLen*i.size) e news 0 cur w hg (by simpa using hfit) hs.one
 simp only [Nat.add_zero] at hst
 simp [Builtin.append_,run_underlying ht,sizeOf,typeInfo,hi,hs.len,hroom,hs.cells,Addr.add_lit,hst]
theorem rd_src {t e:TypeId} (ht:P.underlying t=some (.slice e)) {A:Option Addr} {m c s:Nat} {f:Nat->Nat->Value} (hsrc:Rd w w.heap.size A m s f) (h1:∀ k,k<m->∀ j,j<s->(f k j).oneCell'=true) (hs:0<s):Src P s t (.slice A m c) m (flat s f m) w:=by
 cases A with
 | none =>
  have h0:m=0:=by
   rcases Nat.eq_zero_or_pos m with h0 | h0
   ·exact h0
   ·obtain ⟨b,off,e1,_⟩:=hsrc 0 h0
    cases e1
  subst h0
  rw [show flat s f 0=[] by simp [flat]]
  exact Src.ofNil w ht c
 | some a =>
  refine Src.ofSlice (P:=P) w (size:=s) (e':=e) ht a m c (flat s f m) (zal _ _ _) (fun j u hu=>?_) (fun u hu=>?_)
  ·have hj:j<m*s:=by have:=(List.getElem?_eq_some_iff.1 hu).1; rwa [zal] at this
   have e1:j / s<m:=Nat.div_lt_of_lt_mul (by rw [Nat.mul_comm]; exact hj)
   have e2:j % s<s:=Nat.mod_lt _ hs
   have e3:j / s*s+j % s=j:=Nat.div_add_mod' j s
   have:=zb9 (f:=f) hs e1 e2
   rw [e3,hu] at this
   injection this with this
   subst this
   obtain ⟨b',off',e',_,hc⟩:=hsrc _ e1
   injection e' with e'
   subst e'
   have:=hc _ e2
   have hadd:(⟨b',off',none⟩:Addr).add j=⟨b',off'+j,none⟩:=by unfold Addr.add; split <;> simp_all
   rw [hadd,<-this]
   congr 2; omega
  ·obtain ⟨j,hj,rfl⟩:=List.mem_map.1 hu
   rw [List.mem_range] at hj
   exact h1 _ (Nat.div_lt_of_lt_mul (by rw [Nat.mul_comm]; exact hj)) _ (Nat.mod_lt _ hs)
theorem own_src {base e s n:Nat} {v:Value} {f:Nat->Nat->Value} (h:Own w base e s v n f) (hs:0<s) {A:Option Addr} {cap:Nat} (hv:v=.slice A n cap):(Builtin.firstCells s n (.slice A n cap)).run P w.drew=.ok (flat s f n).toArray w.drew:=by
 rcases h with ⟨e1,rfl⟩ | ⟨g,o,cp,cur,e1,hb,hg,hnc,hcm,hfit,hcur⟩
 ·rw [hv] at e1
  injection e1 with e1 _ e2
  subst e1 e2
  simp [Builtin.firstCells,flat]
 ·rw [hv] at e1
  injection e1 with e1 _ e2
  subst e1 e2
  refine run_firstCells_some (P:=P) w.drew s n ⟨g,o,none⟩ n cap (flat s f n) (zal _ _ _) fun j u hu=>?_
  have hj:j<n*s:=by have:=(List.getElem?_eq_some_iff.1 hu).1; rwa [zal] at this
  have e1:j / s<n:=Nat.div_lt_of_lt_mul (by rw [Nat.mul_comm]; exact hj)
  have e2:j % s<s:=Nat.mod_lt _ hs
  have e3:j / s*s+j % s=j:=Nat.div_add_mod' j s
  have:=zb9 (f:=f) hs e1 e2
  rw [e3,hu] at this
  injection this with this
  subst this
  have:=hcur _ e1 _ e2
  have hadd:(⟨g,o,none⟩:Addr).add j=⟨g,o+j,none⟩:=by unfold Addr.add; split <;> simp_all
  rw [hadd]
  show w.cell? ⟨g,o+j,none⟩=_
  rw [cell_of_row w g _ cur e (0,0) hg,<-this]
  congr 1; omega
theorem flat_both {s n m:Nat} (hs:0<s) {f:Nat->Nat->Value} {k j:Nat} (hk:k<n+m) (hj:j<s):(flat s f n ++ flat s (fun i=>f (n+i)) m)[k*s+j]?=some (f k j):=by
 by_cases hkn:k<n
 ·rw [List.getElem?_append_left (by
   rw [zal]
   have:(k+1)*s<=n*s:=Nat.mul_le_mul_right s hkn
   rw [Nat.add_mul] at this; omega)]
  exact zb9 hs hkn hj
 ·obtain ⟨d,rfl⟩:∃ d,k=n+d:=⟨k - n,by omega⟩
  rw [List.getElem?_append_right (by rw [zal,Nat.add_mul]; omega),zal,show (n+d)*s+j - n*s=d*s+j by rw [Nat.add_mul]; omega]
  exact zb9 (f:=fun i=>f (n+i)) hs (by omega) hj
theorem run_append_many (base:Nat) (t ty e:TypeId) (i:TypeInfo) (z:Value) (s bytes:Nat) (ht:P.underlying t=some (.slice e)) (hi:P.info? e=some i) (hz:i.zero=some z)
  (hsize:i.size=s) (hby:i.bytes=bytes) (hzs:z.cells.size=s) (hs:0<s)
  (v:Value) (n:Nat) (f:Nat->Nat->Value) (hown:Own w base e s v n f)
  (A:Option Addr) (m c:Nat) (hsrc:Rd w w.heap.size A m s (fun k=>f (n+k))) (h1:∀ k,k<m->∀ j,j<s->(f (n+k) j).oneCell'=true)
  (h63:n+m<=maxLen) (hbytes:(n+m)*bytes<=140737488355328) (hbase:base<=w.heap.size) :
  ∃ v' w',(Builtin.append_ #[t,t] ty #[v,.slice A m c]).run P w=.ok v' w'/\Own w' base e s v' (n+m) f/\w.grownBy w' v.ownBlock/\(v'.ownBlock=v.ownBlock∨v'.ownBlock=some w.heap.size):=by
 subst hsize
 subst hby
 have hsmall:n+m<=9223372036854775807:=by simp only [maxLen] at h63; omega
 have hsr:=rd_src (P:=P) w (e:=e) ht (c:=c) hsrc h1 hs
 have hgr:∀ (A2:Option Addr) (cap:Nat),v=.slice A2 n cap->cap<n+m ->
   ∃ v' w',(Builtin.append_ #[t,t] ty #[v,.slice A m c]).run P w=.ok v' w'/\Own w' base e i.size v' (n+m) f/\w.grownBy w' v.ownBlock/\(v'.ownBlock=v.ownBlock∨v'.ownBlock=some w.heap.size):=by
  intro A2 cap hv hcap
  have hold:=own_src (P:=P) w hown hs hv
  have hrun:=run_append_grow_src (P:=P) w t t ty e i z ht hi hz A2 n cap (flat i.size f n) hold (.slice A m c) m (flat i.size (fun k=>f (n+k)) m) hsr hcap (by omega) (growslice_fits hcap hbytes)
  rw [hv]
  refine ⟨_,_,hrun,.inr ⟨w.heap.size,0,_,_,rfl,hbase,heap_alloc_new w.drew _,grownCap_ge w (n+m) cap e,grownCap_le_maxLen w (n+m) cap e h63,?_,fun k hk j hj=>?_⟩,⟨rfl,rfl,rfl,by simp,fun k hk _=>Below.heap_alloc w.drew _ k hk⟩,.inr rfl⟩
  ·have hge:=grownCap_ge w (n+m) cap e
   have e1:(grownCap w (n+m) cap e - (n+m))*i.size+(n+m)*i.size=grownCap w (n+m) cap e*i.size:=by rw [<-Nat.add_mul]; congr 1; omega
   simp [zal,size_zeroCells,hzs]
   rw [Nat.add_mul n m] at e1
   omega
  ·have hlt:k*i.size+j<(n+m)*i.size:=by
    have:(k+1)*i.size<=(n+m)*i.size:=Nat.mul_le_mul_right i.size (by omega)
    rw [Nat.add_mul] at this; omega
   have hlen:(flat i.size f n ++ flat i.size (fun k=>f (n+k)) m).length=(n+m)*i.size:=by rw [List.length_append,zal,zal,Nat.add_mul]
   rw [Nat.zero_add,Array.getElem?_append_left (by simpa [hlen] using hlt),List.getElem?_toArray]
   exact flat_both hs hk hj
 rcases id hown with ⟨e1,e2⟩ | ⟨g,o,cap,cur,e1,hb,hg,hnc,hcm,hfit,hcur⟩
 ·rcases Nat.eq_zero_or_pos m with h0 | h0
  ·subst h0 e1 e2
   refine ⟨_,_,zch (P:=P) w t ty e i ht hi A c,.inl ⟨rfl,rfl⟩,⟨rfl,rfl,rfl,Nat.le_refl _,fun _ _ _=>rfl⟩,.inl rfl⟩
  ·exact hgr none 0 (by rw [e1,e2]) (by omega)
 ·by_cases hroom:n+m<=cap
  ·have hlen:=zal i.size (fun k=>f (n+k)) m
   have hsz:o+n*i.size+(flat i.size (fun k=>f (n+k)) m).length<=cur.size:=by
    rw [hlen]
    have:(n+m)*i.size<=cap*i.size:=Nat.mul_le_mul_right i.size hroom
    rw [Nat.add_mul] at this; omega
   have hrun:=run_append_off_many (P:=P) w t ty e i ht hi g o n cap cur hg (.slice A m c) m _ hsr hroom hsz
   subst e1
   refine ⟨_,_,hrun,.inr ⟨g,o,cap,_,rfl,hb,zbI hg,hroom,hcm,?_,fun k hk j hj=>?_⟩,zdN w g _,.inl rfl⟩
   ·simp; omega
   ·have hto:(cur.toList.take (o+n*i.size)).length=o+n*i.size:=by simp; omega
    rw [List.getElem?_toArray]
    by_cases hkn:k<n
    ·have:(k+1)*i.size<=n*i.size:=Nat.mul_le_mul_right i.size hkn
     rw [Nat.add_mul] at this
     rw [List.append_assoc,List.getElem?_append_left (by omega),List.getElem?_take,if_pos (by omega),Array.getElem?_toList]
     exact hcur k hkn j hj
    ·obtain ⟨d,rfl⟩:∃ d,k=n+d:=⟨k - n,by omega⟩
     have hd:(d+1)*i.size<=m*i.size:=Nat.mul_le_mul_right i.size (by omega)
     rw [Nat.add_mul] at hd
     rw [List.append_assoc,List.getElem?_append_right (by rw [hto,Nat.add_mul]; omega),hto,show o+(n+d)*i.size+j - (o+n*i.size)=d*i.size+j by rw [Nat.add_mul]; omega,List.getElem?_append_left (by rw [hlen]; omega)]
     exact zb9 (f:=fun k=>f (n+k)) hs (by omega) hj
  ·exact hgr _ cap e1 (by omega)
end
theorem step_append_ints {w:World} {ops:Array Oper} {o:Oper} {a:Act} {K:Act->World->Prop} {Q:Exit->Act->World->Prop} {E:Prop} (hgd:o.guard=none) (sl x:Operand)
  (ho:o.op=.call { callee:=.builtin .append,args:=#[sl,x],argTypes:=#[22, 22] })
  {base n m:Nat} {v:Value} {p:Nat->Nat} (h:Own w base 3 1 v n (fun j _=>.int .i64 (p j:Nat))) (hv:a.eval sl=v) {A:Option Addr} {c:Nat} (hx:a.eval x=.slice A m c)
  (hsrc:IntsR w w.heap.size A m (fun k=>(p (n+k):Nat))) (hbase:base<=w.heap.size) (hN:n+m<=1048576)
  (K':∀ v' w',Own w' base 3 1 v' (n+m) (fun j _=>.int .i64 (p j:Nat))->w.grownBy w' v.ownBlock->(v'.ownBlock=v.ownBlock∨v'.ownBlock=some w.heap.size)->K (a.put o.dst v') w') :
  if Region.wanted o (yielded ops a.tmps)=true then Oper.wp Tryz.prog o a w K Q else E:=by
 have hw:Region.wanted o (yielded ops a.tmps)=true:=by simp [Region.wanted,hgd]
 rw [if_pos hw]
 obtain ⟨i0,qi0,qz0,qz1,qz2⟩:=info_parts Tryz.infoInt
 obtain ⟨v',w',hrun,h2,h3,h4⟩:=run_append_many (P:=Tryz.prog) w base 22 o.type 3 i0 _ 1 8 Tryz.underlying22 qi0 qz0 qz1 qz2 rfl (by omega) v n _ h A m c hsrc (fun _ _ _ _=>rfl) (by unfold maxLen; omega) (by omega) hbase
 unfold Oper.wp execOp
 simp only [ho,resolve,invoke,builtin,Sem.run_bind,Sem.run_pure,Result.andThen_ok,List.map_toArray,List.map_cons,List.map_nil,hv,hx,hrun]
 exact K' _ _ h2 h3 h4
theorem wpList_append_ints {w:World} {ops:Array Oper} {rest:List Oper} {o:Oper} {a:Act} {Q:Exit->Act->World->Prop} (hgd:o.guard=none) (sl x:Operand)
  (ho:o.op=.call { callee:=.builtin .append,args:=#[sl,x],argTypes:=#[22, 22] })
  {base n m:Nat} {v:Value} {p:Nat->Nat} (h:Own w base 3 1 v n (fun j _=>.int .i64 (p j:Nat))) (hv:a.eval sl=v) {A:Option Addr} {c:Nat} (hx:a.eval x=.slice A m c)
  (hsrc:IntsR w w.heap.size A m (fun k=>(p (n+k):Nat))) (hbase:base<=w.heap.size) (hN:n+m<=1048576)
  (h9:∀ v' w',Own w' base 3 1 v' (n+m) (fun j _=>.int .i64 (p j:Nat))->w.grownBy w' v.ownBlock->(v'.ownBlock=v.ownBlock∨v'.ownBlock=some w.heap.size)->wpList Tryz.prog ops Q rest (a.put o.dst v') w'):wpList Tryz.prog ops Q (o :: rest) a w:=by
 refine wpList_plain hgd fun K hK=>?_
 obtain ⟨i0,qi0,qz0,qz1,qz2⟩:=info_parts Tryz.infoInt
 obtain ⟨v',w',hrun,h2,h3,h4⟩:=run_append_many (P:=Tryz.prog) w base 22 o.type 3 i0 _ 1 8 Tryz.underlying22 qi0 qz0 qz1 qz2 rfl (by omega) v n _ h A m c hsrc (fun _ _ _ _=>rfl) (by unfold maxLen; omega) (by omega) hbase
 unfold Oper.wp execOp
 simp only [ho,resolve,invoke,builtin,Sem.run_bind,Sem.run_pure,Result.andThen_ok,List.map_toArray,List.map_cons,List.map_nil,hv,hx,hrun]
 exact hK _ _ (h9 v' w' h2 h3 h4)
theorem zero10_any (A:Option Addr) (n c:Nat) (f:Nat->Nat) (w:World) (h:IntsR w w.heap.size A n (fun i=>(f i:Nat))) (hn:n<=1048576) :
  Calls Tryz.prog 159 #[.slice A n c] w (IffPost (∀ i,i<n->f i=0) w):=by
 have HA:=hid h
 clear h
 go_enter Tryz.func159, Tryz.ntmps159
 go_wp2
 go_loopg [3] n (fun gg iv wx=>∃ k:Nat,iv=.int .i64 (k:Nat)/\k<=n/\n<=k+gg/\Hid (∀ i,i<k->f i=0)/\Below w.heap.size w wx)
 case atStart=>exact ⟨0,rfl,by omega,by omega,fun i hi=>absurd hi (by omega),Below.refl _ _⟩
 case round =>
  obtain ⟨k,rfl,hk,hkg,HEQ,hW⟩:=hrel
  have hk0:(0:Int)<=(k:Int):=by omega
  by_cases hlt:k<n
  ·have hlt':(k:Int)<(n:Int):=by omega
   obtain ⟨ab,ao,rfl,hab,x0⟩:=(HA.out.on hW).at hlt
   obtain ⟨x,hx⟩:∃ x,x=f k:=⟨_,rfl⟩
   simp only [<-hx] at x0
   have HX:=hid hx
   clear hx
   by_cases h1:x=0
   ·have h1':((x:Int) != 0)=false:=by simp [h1]
    have H1:=hid h1
    clear h1
    go_wp2
    go_roundg (gk - 1)
    case measure=>omega
    case rel =>
     refine ⟨k+1,by go_num,by omega,by omega,fun i hi=>?_,hW⟩
     by_cases e:i=k
     ·subst e; rw [<-HX.out]; exact H1.out
     ·exact HEQ.out i (by omega)
   ·have h1':((x:Int) != 0)=true:=by simp; omega
    have H1:=hid h1
    clear h1
    go_wp2
    go_ret
    exact zaC (fun h=>H1.out (by rw [HX.out]; exact h k hlt)) hW
  ·have hlt':¬ (k:Int)<(n:Int):=by omega
   obtain rfl:k=n:=by omega
   go_wp2
   go_ret
   exact zbm HEQ.out hW
theorem pivots10_any {q:Nat} (T:Option Addr) (n c N:Nat) (p:Nat->Nat) (V:Nat->Nat->Nat) (w:World) (h:MRows w T n N V) (hE:EchN q n N N n p V) (hN:N<=1048576) (hn:n<=1048576) :
  Calls Tryz.prog 219 #[.slice T n c] w fun e w'=>∃ lv,e=.returned lv/\Own w' w.heap.size 3 1 lv n (fun j _=>.int .i64 (p j:Nat))/\Below w.heap.size w w':=by
 have HM:=hid h
 have HE:=hid hE
 clear h hE
 go_enter Tryz.func219, Tryz.ntmps219
 go_wp2
 go_loopg [3,4] n (fun gg sv iv wx=>∃ i:Nat,iv=.int .i64 (i:Nat)/\i<=n/\n<=i+gg/\Own wx w.heap.size 3 1 sv i (fun j _=>.int .i64 (p j:Nat))/\Below w.heap.size w wx)
 case atStart=>exact ⟨0,rfl,by omega,by omega,Own.nil _ _ _ _ _,Below.refl _ _⟩
 case round =>
  obtain ⟨i,rfl,hi,hig,hO,hB⟩:=hrel
  have hi0:(0:Int)<=(i:Int):=by omega
  obtain ⟨SA,sc,hsv⟩:=hO.shape
  subst hsv
  by_cases hlt:i<n
  ·have hlt':(i:Int)<(n:Int):=by omega
   have hpN:=HE.out.pvlt i hlt
   have HL:=hid (HE.out.lead i hlt)
   have HONE:=hid (HE.out.one i hlt)
   obtain ⟨P0,hP0⟩:∃ x,x=p i:=⟨_,rfl⟩
   rw [<-hP0] at hpN HL HONE
   have HP0:=hid hP0
   clear hP0
   obtain ⟨tb,to0,RA,rc,rfl,htb,t0,h1,h2,hrow,_⟩:=(HM.out.on hB) i hlt
   have HROW:=hid hrow
   clear hrow
   have HO:=hid hO
   clear hO
   go_wp2
   obtain ⟨gO,hgO⟩:∃ g,g=gk:=⟨_,rfl⟩
   go_loopg [5] P0 (fun gg jv wx=>∃ j:Nat,jv=.int .i64 (j:Nat)/\j<=P0/\P0<=j+gg/\wx=wr)
   case atStart=>exact ⟨0,rfl,by omega,by omega,rfl⟩
   case round =>
    obtain ⟨j,rfl,hj,hjg,rfl⟩:=hrel
    have hj0:(0:Int)<=(j:Int):=by omega
    have hjN:(j:Int)<(N:Int):=by omega
    have hjn:j<N:=by omega
    obtain ⟨rb,ro,rfl,hrb,x0⟩:=HROW.out.at hjn
    obtain ⟨x,hx⟩:∃ x,x=V i j:=⟨_,rfl⟩
    simp only [<-hx] at x0
    have HX:=hid hx
    clear hx
    by_cases hlt2:j<P0
    ·have hz:x=0:=by rw [HX.out]; exact HL.out j hlt2
     have hz':((x:Int) == 0)=true:=by simp [hz]
     clear hz
     go_wp2
     go_roundg (gk - 1)
     case measure=>omega
     case rel=>exact ⟨j+1,by go_num,by omega,by omega,rfl⟩
    ·obtain rfl:j=P0:=by omega
     have hz:x=1:=by rw [HX.out]; exact HONE.out
     have hz':((x:Int) == 0)=false:=by simp [hz]
     clear hz
     go_upto_region 8 with fail
     have kb:=(Below.refl wr.heap.size wr).alloc (Nat.le_refl _) (Obj.cells #[Value.int .i64 (j:Nat)] 3)
     have HO8:=hid (HO.out.on kb)
     have HB8:=hid (onS hB kb)
     have HC8:Hid ((wr.alloc (Obj.cells #[Value.int .i64 (j:Nat)] 3)).cell? ((⟨wr.heap.size,0,none⟩:Addr).add 0)=some (.int .i64 (j:Nat))):=tbox2
     have HZ8:Hid (w.heap.size<=(wr.alloc (Obj.cells #[Value.int .i64 (j:Nat)] 3)).heap.size):=HB8.out.size
     have HLL:Hid (i<=1048576):=by show _<=_; omega
     clear kb
     go_upto_region 4 with (first | (at_builtin; (refine zaZ rfl (.tmp 31) (.tmp 33) rfl HO8.out rfl (ad:=⟨wr.heap.size,0,none⟩) (c:=1) rfl HC8.out HZ8.out HLL.out ?_); intro v9 w9 o1 o2 o3))
     have HO9:=hid (o1.congr (f':=fun i _=>.int .i64 (p i:Nat)) fun t _ _ _=>by
      by_cases e:t=i
      ·subst e; rw [if_pos rfl,HP0.out]
      ·rw [if_neg e])
     have HB9:=hid (HB8.out.grown o2 HZ8.out fun q e=>(HO8.out.lt _ e).1)
     clear o1 o2 o3 HO8 HB8 HC8 HZ8 hB HO
     go_wp2
     go_roundg (gO - 1)
     case measure=>omega
     case rel=>exact ⟨i+1,by go_num,by omega,by omega,HO9.out,HB9.out⟩
  ·have hlt':¬ (i:Int)<(n:Int):=by omega
   obtain rfl:i=n:=by omega
   have HO:=hid hO
   clear hO
   go_wp2
   go_ret
   exact ⟨_,rfl,HO.out,hB⟩
section
variable {q n k:Nat} {add mul:Nat->Nat->Nat} {V:Nat->Nat->Nat} {neg:Nat->Nat}
theorem add_cancel (hL:FieldLaws q add mul) {x y z:Nat} (hx:x<q) (hy:y<q) (hz:z<q) (h1:add x z=0) (h2:add y z=0):x=y:=by
 rw [<-hL.zeroAdd x hx,<-h2,hL.addAssoc y z x hy hz hx,hL.addComm z x,h1,hL.addComm,hL.zeroAdd y hy]
theorem add_four (hL:FieldLaws q add mul) {a b c d:Nat} (ha:a<q) (hb:b<q) (hc:c<q) (hd:d<q):add (add a b) (add c d)=add (add a c) (add b d):=by
 rw [hL.addAssoc a b _ ha hb (hL.addLt _ _),<-hL.addAssoc b c d hb hc hd,hL.addComm b c,hL.addAssoc c b d hc hb hd,<-hL.addAssoc a c _ ha hc (hL.addLt _ _)]
theorem spE_opp (hL:FieldLaws q add mul) (hn:∀ x,x<q->neg x<q/\add x (neg x)=0) {c:Nat->Nat} {j:Nat} (hV:∀ i,i<n->V i j<q) (hc:∀ i,i<n->c i<q):∀ t,t<=n->add (spE add mul V c t j) (spE add mul V (fun i=>neg (c i)) t j)=0
 | 0,_=>hL.zeroAdd 0 (by have:=hL.two; omega)
 | t+1,ht=>by
  have h1:=hV t (by omega)
  have h2:=hc t (by omega)
  have h3:=hn _ h2
  show add (add (spE add mul V c t j) (mul (c t) (V t j))) (add (spE add mul V (fun i=>neg (c i)) t j) (mul (neg (c t)) (V t j)))=0
  rw [add_four hL (zhW hL _ _ _) (hL.mulLt _ _) (zhW hL _ _ _) (hL.mulLt _ _),spE_opp hL hn hV hc t (by omega),hL.mulComm (c t) _ h2 h1,hL.mulComm (neg (c t)) _ h3.1 h1,<-hL.distrib _ _ _ h1 h2 h3.1,h3.2,hL.mulZero h1]
  exact hL.zeroAdd 0 (by have:=hL.two; omega)
theorem inSp_coef (hL:FieldLaws q add mul) {p:Nat->Nat} (hE:EchN q n k k n p V) {u:Nat->Nat} (hu:∀ j,j<k->u j<q):InSp q add mul n k V u↔∀ j,j<k->u j=spE add mul V (fun i=>u (p i)) n j:=by
 constructor
 ·rintro ⟨c,hc,hx⟩ j hj
  rw [hx j hj]
  refine zfF n fun i hi=>⟨?_,rfl⟩
  rw [hx _ (hE.pvlt i hi),hE.spE_pv hL hc hi]
 ·intro h
  exact ⟨fun i=>u (p i),fun i hi=>hu _ (hE.pvlt i hi),h⟩
end
def restF (P M:Nat) (m:Nat->Nat) (p:Nat->Nat) (V:Nat->Nat->Nat) (u:Nat->Nat):Nat->Nat->Nat
 | 0=>u
 | t+1=>atF P M m (negF P M (u (p t))) (restF P M m p V u t) (V t)
section
variable {P M n k:Nat} {m:Nat->Nat} {V:Nat->Nat->Nat} {p u:Nat->Nat}
theorem restF_lt (hL:FieldLaws (P ^ M) (addF P M) (mulF P M m)) (hu:∀ j,j<k->u j<P ^ M):∀ t j,j<k->restF P M m p V u t j<P ^ M
 | 0,j,hj=>hu j hj
 | t+1,j,hj=>by
  show atF _ _ _ _ _ _ _<_
  unfold atF
  split
  ·exact restF_lt hL hu t j hj
  ·exact hL.addLt _ _
theorem restF_val (hL:FieldLaws (P ^ M) (addF P M) (mulF P M m)) (hP:0<P) (hu:∀ j,j<k->u j<P ^ M) {j:Nat} (hj:j<k):∀ t,restF P M m p V u t j=addF P M (u j) (spE (addF P M) (mulF P M m) V (fun i=>negF P M (u (p i))) t j)
 | 0=>by
  show u j=addF P M (u j) 0
  rw [hL.addComm,hL.zeroAdd _ (hu j hj)]
 | t + 1 => by
  have hS:=zhW hL (V:=V) (fun i=>negF P M (u (p i))) t j
  show atF _ _ _ _ _ _ _=addF P M (u j) (addF P M (spE (addF P M) (mulF P M m) V (fun i=>negF P M (u (p i))) t j) (mulF P M m (negF P M (u (p t))) (V t j)))
  rw [<-hL.addAssoc _ _ _ (hu j hj) hS (hL.mulLt _ _),<-restF_val hL hP hu hj t]
  unfold atF
  split
  ·next h =>
   rw [h,hL.mulZero (zb6 hP),hL.addComm,hL.zeroAdd _ (restF_lt hL hu t j hj)]
  ·rfl
theorem rest_zero (hL:FieldLaws (P ^ M) (addF P M) (mulF P M m)) (hP:0<P) (hE:EchN (P ^ M) n k k n p V) (hu:∀ j,j<k->u j<P ^ M):(∀ j,j<k->restF P M m p V u n j=0)↔InSp (P ^ M) (addF P M) (mulF P M m) n k V u:=by
 rw [inSp_coef hL hE hu]
 have hop:∀ j,j<k->addF P M (spE (addF P M) (mulF P M m) V (fun i=>u (p i)) n j) (spE (addF P M) (mulF P M m) V (fun i=>negF P M (u (p i))) n j)=0:=fun j hj =>
  spE_opp hL (fun x _=>⟨zb6 hP,zbC hP⟩) (fun i hi=>hE.lt i hi j hj) (fun i hi=>hu _ (hE.pvlt i hi)) n (Nat.le_refl _)
 constructor
 ·intro h j hj
  have h1:=h j hj
  rw [restF_val hL hP hu hj] at h1
  exact add_cancel hL (hu j hj) (zhW hL _ _ _) (zhW hL _ _ _) h1 (hop j hj)
 ·intro h j hj
  rw [restF_val hL hP hu hj,h j hj]
  exact hop j hj
end
def IntsPost (N:Nat) (f:Nat->Nat) (w:World) (e:Ending) (w':World):Prop:=∃ A2 c2,e=.returned (.slice A2 N c2)/\IntsR w' w'.heap.size A2 N (fun j=>(f j:Nat))/\Below w.heap.size w w'
theorem rest10_any (P M:Nat) (m:Nat->Nat) (A:Option Addr) (k c N:Nat) (T:Option Addr) (n d:Nat) (V:Nat->Nat->Nat) (U:Option Addr) (uc:Nat) (u p:Nat->Nat) (w:World) (h:CodeR w P M m A k N T n V) (hE:EchN (P ^ M) n N N n p V) (hu:IntsR w w.heap.size U N (fun i=>(u i:Nat))) (huq:∀ i,i<N->u i<P ^ M) :
  Calls Tryz.prog 160 #[.agg #[.int .i64 (P:Nat),.int .i64 (M:Nat),.slice A k c],.slice T n d,.slice U N uc] w (IntsPost N (restF P M m p V u n) w):=by
 have HC:=hid h
 have HU:=hid hu
 have hN:=h.ln2
 have hfo:=h.fld.1
 have HF:=hid h.fld
 have HUQ:=hid huq
 have HE:=hid hE
 have hnN:n<=N:=hE.le_c
 obtain ⟨rv,hrv⟩:∃ r,r=restF P M m p V u:=⟨_,rfl⟩
 rw [<-hrv]
 have HRV:=hid hrv
 have HLT:Hid (∀ t j,j<N->rv t j<P ^ M):=fun t j hj=>by rw [HRV.out]; exact restF_lt (fieldLaws HF.out) HUQ.out t j hj
 clear h hu huq hE hrv
 have hB:Below w.heap.size w (w.alloc (.cells #[.int .i64 (P:Nat),.int .i64 (M:Nat),.slice A k c] 24)):=(Below.refl _ _).alloc (Nat.le_refl _) _
 have rf:=zaj (w:=w) (a:=.int .i64 (P:Nat)) (b:=.int .i64 (M:Nat)) (c:=.slice A k c) (T := 24)
 obtain ⟨w0,hw0⟩:∃ W,W=w.alloc (.cells #[.int .i64 (P:Nat),.int .i64 (M:Nat),.slice A k c] 24):=⟨_,rfl⟩
 rw [<-hw0] at hB rf
 go_enter Tryz.func160, Tryz.ntmps160
 go_upto_region 1 with fail
 rw [<-hw0]
 clear hw0
 go_wp2_with fail
 refine (pivots10_any T n d N p V w0 (HC.out.on hB).rows HE.out (by omega) (by omega)).mono ?_
 rintro e w1 ⟨lv,rfl,hO,kb⟩
 replace rf:=zaa rf kb
 have HO:=hid (hO.mono hB.size)
 replace hB:=onS hB kb
 clear kb hO
 have HPW:=hid (HO.out.shape)
 obtain ⟨PA,pc,hlv⟩:=HPW.out
 subst hlv
 clear HPW
 go_upto_region 2 with fail
 have kb:=(Below.refl w1.heap.size w1).alloc (Nat.le_refl _) (Obj.cells #[] 3)
 have HO8:=hid (HO.out.on kb)
 have HR8:=hid (zaa rf kb)
 have HB8:=hid (onS hB kb)
 have HN8:Hid (Own (w1.alloc (Obj.cells #[] 3)) w1.heap.size 3 1 (.slice (some ⟨w1.heap.size,0,none⟩) 0 0) 0 (fun j _=>.int .i64 (u j:Nat))):=Own.new (Nat.le_refl _) (Nat.le_refl _) (by unfold maxLen; omega) (by simp) (fun k hk=>absurd hk (by omega))
 have HU8:Hid (IntsR (w1.alloc (Obj.cells #[] 3)) (w1.alloc (Obj.cells #[] 3)).heap.size U N (fun j=>(u (0+j):Nat))):=((HU.out.on hB).on kb).congr fun j _=>by rw [Nat.zero_add]
 have HZ8:Hid (w1.heap.size<=(w1.alloc (Obj.cells #[] 3)).heap.size):=kb.size
 have HLL:Hid (0+N<=1048576):=by show _<=_; omega
 go_upto_region 3 with (first | (at_builtin; (refine wpList_append_ints rfl (.tmp 12) (.tmp 13) rfl HN8.out rfl (A:=U) (c:=uc) (m:=N) rfl HU8.out HZ8.out HLL.out ?_); intro v9 w9 o1 o2 o3))
 have HO9:=hid (HO8.out.kept o2 (.inr fun e=>absurd (HO.out.lt _ e).2 (Nat.lt_irrefl _)))
 have HB9:=hid (HB8.out.grown o2 HB8.out.size fun q e=>by have e1:w1.heap.size=q:=Option.some.inj e; have:=hB.size; omega)
 have HR9:=hid (HR8.out.of_block (o2.block _ HR8.out.lt fun e=>by have e1:w.heap.size=w1.heap.size:=Option.some.inj e; have:=rf.lt; omega))
 rw [Nat.zero_add] at o1
 obtain ⟨VA,vc,hv9⟩:=o1.shape
 subst hv9
 have HV9:Hid (IntsR w9 w9.heap.size VA N (fun j=>(rv 0 j:Nat))):=by
  show IntsR _ _ _ _ _
  rw [HRV.out]
  exact o1.rd rfl
 have hw9:w.heap.size<w9.heap.size:=HR9.out.lt
 clear o1 o2 o3 HN8 HU8 HZ8 HLL HO8 HR8 HB8 kb HO rf hB
 go_wp2
 go_loopg [8,9] n (fun gg sv iv wx=>∃ i:Nat,∃ SA sc,iv=.int .i64 (i:Nat)/\sv=.slice SA N sc/\i<=n/\n<=i+gg/\Hid (IntsR wx wx.heap.size SA N (fun j=>(rv i j:Nat)))/\Below w9.heap.size w9 wx)
 case atStart=>exact ⟨0,_,_,rfl,rfl,by omega,by omega,HV9,Below.refl _ _⟩
 case round =>
  obtain ⟨i,SA,sc,rfl,rfl,hi,hig,HV,hB⟩:=hrel
  have hi0:(0:Int)<=(i:Int):=by omega
  by_cases hlt:i<n
  ·have hlt':(i:Int)<(n:Int):=by omega
   obtain ⟨tb,to0,RA,rc,rfl,htb,t0,h1,h2,hrow,_⟩:=((HC.out.on HB9.out).on hB).rows i hlt
   have HROW:=hid hrow
   obtain ⟨pb,po,rfl,hpb,p0⟩:=((HO9.out.on hB).rd rfl).at1 hlt
   have hpN:=HE.out.pvlt i hlt
   obtain ⟨x,hx⟩:∃ x,x=p i:=⟨_,rfl⟩
   rw [<-hx] at hpN p0
   have HX:=hid hx
   obtain ⟨ub,uo,rfl,hub,u0⟩:=((HU.out.on HB9.out).on hB).at hpN
   have hyq:=HUQ.out x hpN
   obtain ⟨y,hy⟩:∃ y,y=u x:=⟨_,rfl⟩
   simp only [<-hy] at u0 hyq
   have HY:=hid hy
   have rf:=zaa HR9.out hB
   have q0:wr.cell? ⟨w.heap.size,0,none⟩=some (.int .i64 (P:Nat)):=rf.cell (i:=0) (by omega)
   have q1:wr.cell? ⟨w.heap.size,1,none⟩=some (.int .i64 (M:Nat)):=rf.cell (i:=1) (by omega)
   have q2:wr.cell? ⟨w.heap.size,2,none⟩=some (.slice A k c):=rf.cell (i:=2) (by omega)
   have hx0:(0:Int)<=(x:Int):=by omega
   have hxN:(x:Int)<(N:Int):=by omega
   obtain ⟨w4,hw4⟩:∃ X,X=wr:=⟨_,rfl⟩
   subst hw4
   clear hrow hx hy
   go_wp2
   refine wp_region_held_drew (S:=fun w'=>w'.cell? ⟨w.heap.size,0,none⟩=some (.int .i64 (P:Nat))/\w'.cell? ⟨w.heap.size,1,none⟩=some (.int .i64 (M:Nat))/\w'.cell? ⟨w.heap.size,2,none⟩=some (.slice A k c)/\w'.cell? ⟨tb,to0+i,none⟩=some (.slice RA N rc)/\w'.cell? ⟨pb,po+i,none⟩=some (.int .i64 (x:Nat))/\w'.cell? ⟨ub,uo+x,none⟩=some (.int .i64 (y:Nat))) (by kernel_rfl) ⟨cellS (Below.refl _ _).drew q0,cellS (Below.refl _ _).drew q1,cellS (Below.refl _ _).drew q2,cellS (Below.refl _ _).drew t0,cellS (Below.refl _ _).drew p0,cellS (Below.refl _ _).drew u0⟩ (fun hHeld=>?_)
   obtain ⟨w5,hw⟩:∃ W,W=World.drew w4:=⟨_,rfl⟩
   have kb:Below w4.heap.size w4 w5:=by rw [hw]; exact (Below.refl _ _).drew
   rw [<-hw] at hHeld ⊢
   clear hw
   replace rf:=zaa rf kb
   replace hB:=onS hB kb
   replace t0:=cellS kb t0
   replace p0:=cellS kb p0
   replace u0:=cellS kb u0
   replace HV:=hid (HV.out.on kb)
   replace HROW:=hid (HROW.out.on kb)
   clear kb q0 q1 q2
   refine tkq 0 (h:=tkq 1 (h:=tkq 2 (h:=tkq 3 (h:=tkq 4 (h:=tkq 5 (h:=tkq 6 (h:=tkq 7 (h:=tkq 8 (h:=tkq 9 (h:=tkq 11 (h:=tkq 12 (h:=tkq 13 (h:=tkq 14 (h:=?_))))))))))))))
   refine rdq 10 (h:=fun K hK=>?_)
   go_simp
   go_wp2_with fail
   refine (zdV P M A k c (y:Int) w5 hfo).mono ?_
   rintro e w6 ⟨rfl,kb⟩
   rw [zaS hyq]
   have hzq:negF P M y<P ^ M:=zb6 (by have:=hfo.1; omega)
   obtain ⟨z,hz⟩:∃ z,z=negF P M y:=⟨_,rfl⟩
   rw [<-hz] at hzq ⊢
   have HZ:=hid hz
   clear hz
   replace rf:=zaa rf kb
   replace hB:=onS hB kb
   replace t0:=cellS kb t0
   replace p0:=cellS kb p0
   replace u0:=cellS kb u0
   replace HV:=hid (HV.out.on kb)
   replace HROW:=hid (HROW.out.on kb)
   clear kb
   refine bkq hK ⟨rf.cell (i:=0) (by omega),rf.cell (i:=1) (by omega),rf.cell (i:=2) (by omega),t0,p0,u0⟩ (h:=fun hHeld=>?_)
   clear hK K
   refine rdq 15 (h:=fun K hK=>?_)
   go_simp
   go_wp2_with fail
   have hC6:=(HC.out.on HB9.out).on hB
   refine (zdY P M A k c m z SA RA N sc N rc (rv i) (V i) w6 hfo hC6.mod HC.out.km hzq HV.out (fun j hj=>HLT.out i j hj) HROW.out (fun j hj=>HC.out.lt i hlt j hj) (Nat.le_refl _) (by omega)).mono ?_
   rintro e w7 ⟨g,rfl,hg,hrg,kb⟩
   clear hC6
   have HV7:Hid (IntsR w7 w7.heap.size (some ⟨g,0,none⟩) N (fun j=>(rv (i+1) j:Nat))):=by
    have h3:=rowInts hrg
    have h4:∀ j,rv (i+1) j=atF P M m z (rv i) (V i) j:=fun j=>by rw [HRV.out,HZ.out,HY.out,HX.out]; rfl
    exact h3.congr fun j _=>by rw [h4]
   replace rf:=zaa rf kb
   replace hB:=onS hB kb
   replace t0:=cellS kb t0
   replace p0:=cellS kb p0
   replace u0:=cellS kb u0
   clear kb hg hrg HV HROW
   refine bkq hK ⟨rf.cell (i:=0) (by omega),rf.cell (i:=1) (by omega),rf.cell (i:=2) (by omega),t0,p0,u0⟩ (h:=fun hHeld=>?_)
   clear hK K
   refine tkq 16 (h:=?_)
   refine wpAnyH_done (by kernel_rfl) ?_ _
   clear hHeld rf t0 p0 u0
   go_wp2
   go_roundg (gk - 1)
   case measure=>omega
   case rel=>exact ⟨i+1,_,_,by go_num,rfl,by omega,by omega,HV7,hB⟩
  ·obtain rfl:i=n:=by omega
   have hlt':¬ (i:Int)<(i:Int):=by omega
   have hBB:=onS HB9.out hB
   go_wp2
   go_ret
   exact ⟨_,_,rfl,HV.out,hBB⟩
theorem in10_any (P M:Nat) (m:Nat->Nat) (A:Option Addr) (k c N:Nat) (T:Option Addr) (n d:Nat) (V:Nat->Nat->Nat) (U:Option Addr) (uc:Nat) (u:Nat->Nat) (w:World) (h:CodeR w P M m A k N T n V) (hu:IntsR w w.heap.size U N (fun i=>(u i:Nat))) (huq:∀ i,i<N->u i<P ^ M) :
  Calls Tryz.prog 84 #[.agg #[.int .i64 (P:Nat),.int .i64 (M:Nat),.slice A k c],.slice T n d,.slice U N uc] w (IffPost (InSp (P ^ M) (addF P M) (mulF P M m) n N V u) w):=by
 have HC:=hid h
 have HU:=hid hu
 have hN:=h.ln2
 have HUQ:=hid huq
 obtain ⟨p,hE⟩:=h.rref
 have HE:=hid hE
 have hRZ:=hid (rest_zero (fieldLaws h.fld) (by have:=h.fld.1.1; omega) hE huq)
 clear h hu huq hE
 have hB:Below w.heap.size w (w.alloc (.cells #[.int .i64 (P:Nat),.int .i64 (M:Nat),.slice A k c] 24)):=(Below.refl _ _).alloc (Nat.le_refl _) _
 have rf:=zaj (w:=w) (a:=.int .i64 (P:Nat)) (b:=.int .i64 (M:Nat)) (c:=.slice A k c) (T := 24)
 obtain ⟨w0,hw0⟩:∃ W,W=w.alloc (.cells #[.int .i64 (P:Nat),.int .i64 (M:Nat),.slice A k c] 24):=⟨_,rfl⟩
 rw [<-hw0] at hB rf
 go_enter Tryz.func84, Tryz.ntmps84
 go_upto_region 1 with fail
 rw [<-hw0]
 clear hw0
 have q0:w0.cell? ⟨w.heap.size,0,none⟩=some (.int .i64 (P:Nat)):=rf.cell (i:=0) (by omega)
 have q1:w0.cell? ⟨w.heap.size,1,none⟩=some (.int .i64 (M:Nat)):=rf.cell (i:=1) (by omega)
 have q2:w0.cell? ⟨w.heap.size,2,none⟩=some (.slice A k c):=rf.cell (i:=2) (by omega)
 go_wp2_with fail
 refine (rest10_any P M m A k c N T n d V U uc u p w0 (HC.out.on hB) HE.out (HU.out.on hB) HUQ.out).mono ?_
 rintro e w1 ⟨A2,c2,rfl,hr,kb⟩
 have HR:=hid hr
 replace hB:=onS hB kb
 clear kb hr q0 q1 q2 rf
 go_wp2_with fail
 refine (zero10_any A2 N c2 _ w1 HR.out (by omega)).mono ?_
 rintro e w2 ⟨v,rfl,hv,kb⟩
 have HV:=hid (hv.trans hRZ.out)
 replace hB:=onS hB kb
 clear kb hv HR
 go_wp2
 go_ret
 exact ⟨v,rfl,HV.out,hB⟩
def HasPost (P M:Nat) (m:Nat->Nat) (N n:Nat) (V:Nat->Nat->Nat) (l:Nat) (u:Nat->Int) (w:World) (e:Ending) (w':World):Prop :=
 Below w.heap.size w w'/\∃ (b:Bool) (v:Int),e=.returned (.tuple #[.bool b,.int .i64 v])/\FirstErr (WordErrs (P ^ M) N l u) v/\(v=0->(b=true↔InSp (P ^ M) (addF P M) (mulF P M m) n N V (fun i=>(u i).toNat)))/\(v≠0->b=false)
theorem has12_any (P M:Nat) (m:Nat->Nat) (A:Option Addr) (k c N:Nat) (T:Option Addr) (n d:Nat) (V:Nat->Nat->Nat) (U:Option Addr) (l uc:Nat) (u:Nat->Int) (w:World) (h:CodeR w P M m A k N T n V) (hu:IntsR w w.heap.size U l u) (hn:l<=9223372036854775807) :
  Calls Tryz.prog 22 #[.agg #[.int .i64 (P:Nat),.int .i64 (M:Nat),.slice A k c,.int .i64 (N:Nat),.slice T n d],.slice U l uc] w (HasPost P M m N n V l u w):=by
 have HC:=hid h
 have HU:=hid hu
 have hN:=h.ln2
 clear h hu
 have rf:=zbN (w:=w) (a:=.int .i64 (P:Nat)) (b:=.int .i64 (M:Nat)) (c:=.slice A k c) (d:=.int .i64 (N:Nat)) (e:=.slice T n d) (T := 27)
 have hB:Below w.heap.size w (w.alloc (.cells #[.int .i64 (P:Nat),.int .i64 (M:Nat),.slice A k c,.int .i64 (N:Nat),.slice T n d] 27)):=(Below.refl _ _).alloc (Nat.le_refl _) _
 obtain ⟨w1,hw1⟩:∃ W,W=w.alloc (.cells #[.int .i64 (P:Nat),.int .i64 (M:Nat),.slice A k c,.int .i64 (N:Nat),.slice T n d] 27):=⟨_,rfl⟩
 rw [<-hw1] at hB rf
 go_enter Tryz.func22, Tryz.ntmps22
 go_upto_region 1 with fail
 rw [<-hw1]
 clear hw1
 have q0:w1.cell? ⟨w.heap.size,0,none⟩=some (.int .i64 (P:Nat)):=rf.cell (i:=0) (by omega)
 have q1:w1.cell? ⟨w.heap.size,1,none⟩=some (.int .i64 (M:Nat)):=rf.cell (i:=1) (by omega)
 have q2:w1.cell? ⟨w.heap.size,2,none⟩=some (.slice A k c):=rf.cell (i:=2) (by omega)
 have q3:w1.cell? ⟨w.heap.size,3,none⟩=some (.int .i64 (N:Nat)):=rf.cell (i:=3) (by omega)
 have q4:w1.cell? ⟨w.heap.size,4,none⟩=some (.slice T n d):=rf.cell (i:=4) (by omega)
 go_wp2_with fail
 refine (word12_any P M m A k c N T n d V U l uc u w1 (HC.out.on hB) (HU.out.on hB) hn).mono ?_
 rintro e w2 ⟨v,rfl,hv,kb⟩
 have HV:=hid hv
 replace rf:=zaa rf kb
 replace hB:=onS hB kb
 clear kb hv q0 q1 q2 q3 q4
 by_cases hv0:v=0
 ·subst hv0
  have HLN:Hid (l=N/\AllIn (P ^ M) l u):=by
   rcases HV.out with ⟨_,h9⟩ | ⟨h1,⟨_,h9⟩ | ⟨h2,_⟩⟩
   ·cases h9
   ·cases h9
   ·exact ⟨h1,h2⟩
  have q0:w2.cell? ⟨w.heap.size,0,none⟩=some (.int .i64 (P:Nat)):=rf.cell (i:=0) (by omega)
  have q1:w2.cell? ⟨w.heap.size,1,none⟩=some (.int .i64 (M:Nat)):=rf.cell (i:=1) (by omega)
  have q2:w2.cell? ⟨w.heap.size,2,none⟩=some (.slice A k c):=rf.cell (i:=2) (by omega)
  have q4:w2.cell? ⟨w.heap.size,4,none⟩=some (.slice T n d):=rf.cell (i:=4) (by omega)
  have hln:=HLN.out.1
  subst hln
  go_wp2_with fail
  have hin:=HLN.out.2
  have huR:IntsR w2 w2.heap.size U l (fun i=>(((u i).toNat:Nat):Int)):=(HU.out.on hB).congr fun i hi=>by have:=(hin i hi).1; show u i=(((u i).toNat:Nat):Int); omega
  refine (in10_any P M m A k c l T n d V U uc (fun i=>(u i).toNat) w2 (HC.out.on hB) huR fun i hi=>by have:=hin i hi; omega).mono ?_
  rintro e w3 ⟨b,rfl,hb,kb⟩
  have HBB:=hid hb
  replace hB:=onS hB kb
  clear kb hb huR hin q0 q1 q2 q4 rf
  go_wp2
  go_ret2
  exact ⟨hB,b,0,rfl,HV.out,fun _=>HBB.out,fun h=>absurd rfl h⟩
 ·have hvn:(v != 0)=true:=by simpa using hv0
  have HV0:=hid hv0
  clear hv0 rf
  go_wp2
  go_ret2
  exact ⟨hB,false,v,rfl,HV.out,fun h=>absurd h HV0.out,fun _=>rfl⟩
open Go.ChangeShapes Go.WideShapes Go.ChangeAt
section
variable {w w':World} {base n k:Nat} {v:Value} {W W':Nat->Nat->Nat}
theorem step_append_mrow {ops:Array Oper} {o:Oper} {a:Act} {K:Act->World->Prop} {Q:Exit->Act->World->Prop} {E:Prop} (hgd:o.guard=none) (sl x:Operand)
  (ho:o.op=.call { callee:=.builtin .append,args:=#[sl,x],argTypes:=#[25, 25] })
  (h:MTab w base v n k W) (hv:a.eval sl=v) {ad:Addr} {c:Nat} {r:Value} {y:Nat->Nat} (hx:a.eval x=.slice (some ad) 1 c)
  (hcell:w.cell? (ad.add 0)=some r) (h1:r.oneCell'=true) (hrow:Own w base 3 1 r k (fun j _=>.int .i64 (y j:Nat))) (hbase:base<=w.heap.size) (hN:n<=1048576)
  (K':∀ v' w',MTab w' base v' (n+1) k (fun u=>if u=n then y else W u)->w.grownBy w' v.ownBlock->(∀ q,v.ownBlock=some q->base<=q)->K (a.put o.dst v') w') :
  if Region.wanted o (yielded ops a.tmps)=true then Oper.wp Tryz.prog o a w K Q else E:=by
 obtain ⟨R,hA,hB⟩:=h
 obtain ⟨i0,qi0,qz0,qz1,qz2⟩:=info_parts Tryz.infoInts
 have hown:Own w base 22 1 v n (fun i _=>if i=n then r else R i):=hA.congr fun i hi _ _=>by rw [if_neg (by omega)]
 refine step_append_one w hgd sl x _ ho base 22 i0 _ 1 24 Tryz.underlying25 qi0 qz0 qz1 qz2 rfl (by omega) v n _ hv hown ad c hx (fun j hj=>by
   obtain rfl:j=0:=by omega
   rw [if_pos rfl]
   exact hcell) (fun _ _=>by rw [if_pos rfl]; exact h1) (by unfold maxLen; omega) (by omega) hbase ?_
 intro v' w3 hown3 hg3 _
 have ne:(22 : Nat) ≠ 3 := by decide
 refine K' v' w3 ⟨fun i=>if i=n then r else R i,hown3,fun i hi=>?_⟩ hg3 (fun q e=>(hA.lt q e).1)
 show Own w3 base _ 1 (if i=n then r else R i) k _
 by_cases e:i=n
 ·rw [if_pos e]
  simp only [if_pos e]
  exact hrow.kept hg3 (zdt hA hrow ne)
 ·rw [if_neg e]
  simp only [if_neg e]
  exact (hB i (by omega)).kept hg3 (zdt hA (hB i (by omega)) ne)
end
theorem ints_pre {w:World} {B n m:Nat} {A:Option Addr} {f:Nat->Int} (h:IntsR w B A n f) (hm:m<=n):IntsR w B A m f:=fun i hi=>h i (by omega)
theorem ints_suf {w:World} {B n b o s:Nat} {f:Nat->Int} (h:IntsR w B (some ⟨b,o,none⟩) n f) (hs:s<=n):IntsR w B (some ⟨b,o+s,none⟩) (n - s) (fun j=>f (s+j)):=fun j hj=>by
 obtain ⟨b',o',e,hb,hc⟩:=h (s+j) (by omega)
 injection e with e
 injection e with e1 e2
 subst e1 e2
 refine ⟨b,o+s,rfl,hb,fun q hq=>?_⟩
 have h2:=hc q hq
 rw [show o+s+j*1+q=o+(s+j)*1+q by omega]
 exact h2
theorem ints_suf_if {w:World} {B n b o s c:Nat} {f:Nat->Int} (h:IntsR w B (some ⟨b,o,none⟩) n f) (hs:s<=n) (hc:n<=c):IntsR w B (if c=s then some ⟨b,o,none⟩ else some ⟨b,o+s,none⟩) (n - s) (fun j=>f (s+j)):=by
 split
 ·exact fun j hj=>absurd hj (by omega)
 ·exact ints_suf h hs
theorem make_code {P M k n' N:Nat} {m:Nat->Nat} {V':Nat->Nat->Nat} {w w':World} {e:Ending} (h:MakePost P M m k n' N V' w e w') (hf:FieldOk P M m) (hk:M=1/\k=0∨2<=M/\k=M/\∀ i,i<M->m i<P) (h1:1<=N) (h2:N<=64) (hV:∀ i,i<n'->∀ j,j<N->V' i j<P ^ M) :
  ∃ A c T a d W,e=.returned (.agg #[.int .i64 (P:Nat),.int .i64 (M:Nat),.slice A k c,.int .i64 (N:Nat),.slice T a d])/\CodeR w' P M m A k N T a W/\SameSp (P ^ M) (addF P M) (mulF P M m) N n' a V' W/\Below w.heap.size w w':=by
 obtain ⟨v,lv,a,p,W,he,hv,hl,hb,hE,hR⟩:=h
 obtain ⟨A,c,rfl⟩:=hv.shape
 obtain ⟨T,d,rfl⟩:=hl.shape
 have hL:=fieldLaws hf
 have hlt:∀ i,i<a->∀ j,j<N->W i j<P ^ M:=fun i hi=>hE.lt i (Nat.lt_of_lt_of_le hi hE.le)
 refine ⟨A,c,T,a,d,W,he,⟨hf,hv.rd rfl,hk,h1,h2,hl.rd hf.1.2.2.2 hlt,hlt,⟨p,hE.top⟩⟩,fun x=>?_,hb⟩
 exact ((hR.sp hL hV).1 x).trans (hE.sp_top hL x)
theorem clen_last {a:Nat->Rat} {n:Nat} (h:clen a (n+1)=n+1):a n≠0:=fun e=>by
 rw [zec e] at h
 have:=zeM a n
 omega
theorem canon_same {n m:Nat} {a b:Nat->Rat} (ha:clen a n=n) (hb:clen b m=m) (h:∀ x:Rat,evR a x n=evR b x m):n=m/\∀ i,i<n->a i=b i:=by
 have key:∀ i,i<n+m->cutR a n i=cutR b m i:=poly_same fun x=>by
  rw [ziF,Nat.add_comm n m,ziF]
  exact h x
 have h1:n=m:=by
  rcases Nat.lt_trichotomy n m with h1 | h1 | h1
  ·obtain ⟨k,rfl⟩:∃ k,m=k+1:=⟨m - 1,by omega⟩
   have h2:=key k (by omega)
   unfold cutR at h2
   rw [if_neg (by omega),if_pos (by omega)] at h2
   exact absurd h2.symm (clen_last hb)
  ·exact h1
  ·obtain ⟨k,rfl⟩:∃ k,n=k+1:=⟨n - 1,by omega⟩
   have h2:=key k (by omega)
   unfold cutR at h2
   rw [if_pos (by omega),if_neg (by omega)] at h2
   exact absurd h2 (clen_last ha)
 subst h1
 refine ⟨rfl,fun i hi=>?_⟩
 have h2:=key i (by omega)
 unfold cutR at h2
 rwa [if_pos hi,if_pos hi] at h2
theorem wtP_canon (q n:Nat) (xs:Nat->Nat):∀ k,clen (wtP q n xs k).2 (wtP q n xs k).1=(wtP q n xs k).1
 | 0=>rfl
 | k+1=>by
  unfold wtP
  split
  ·exact wtP_canon q n xs k
  ·exact clen_clen _ _
theorem evR_two (f:Nat->Rat) (x:Rat):evR f x 2=f 0+f 1*x:=by
 have p0:powR x 0=1:=rfl
 have p1:powR x 1=x:=by simp [powR]
 simp [evR,p0,p1]
 grind
theorem con_unit {n nb:Nat} {a b f:Nat->Rat} (ha:clen a n=n) (f0:f 0=1) (f1:f 1 = -1) (h:∀ p:Rat,evR a p n=(1 - p)*evR b p nb+0) :
  n=clen (mulP f 2 b nb) (2+nb)/\∀ i,i<n->a i=mulP f 2 b nb i :=
 canon_same ha (clen_clen _ _) fun x=>by
  rw [h x,zeb,zfh,evR_two,f0,f1]
  grind
theorem con_more {n nb nd l1 l2:Nat} {a b d f g:Nat->Rat} (ha:clen a n=n) (f0:f 0=1) (f1:f 1 = -1) (g0:g 0=0) (g1:g 1=1) (h1:l1=clen (mulP f 2 b nb) (2+nb)) (h2:l2=clen (mulP g 2 d nd) (2+nd))
  (h:∀ p:Rat,evR a p n=(1 - p)*evR b p nb+p*evR d p nd) :
  n=clen (sumP (mulP f 2 b nb) l1 (mulP g 2 d nd) l2) (max l1 l2)/\∀ i,i<n->a i=sumP (mulP f 2 b nb) l1 (mulP g 2 d nd) l2 i :=
 canon_same ha (clen_clen _ _) fun x=>by
  rw [h x,zeb,zjv,h1,h2,zeb,zeb,zfh,zfh,evR_two,evR_two,f0,f1,g0,g1]
  grind
section
variable {w:World} {base n k g m:Nat} {v:Value} {W:Nat->Nat->Nat}
theorem MTab.xlt (h:MTab w base v n k W) (hg:w.heap.size<=g):MTabX w base v n k W (.slice (some ⟨g,0,none⟩) m m):=by
 obtain ⟨R,h1,h2⟩:=h
 exact ⟨R,h1,fun i hi=>⟨h2 i hi,.inr fun e=>by
  have:=((h2 i hi).lt g e).2
  omega⟩⟩
theorem MTab.xge (h:MTab w base v n k W) (hg:g<base):MTabX w base v n k W (.slice (some ⟨g,0,none⟩) m m):=by
 obtain ⟨R,h1,h2⟩:=h
 exact ⟨R,h1,fun i hi=>⟨h2 i hi,.inr fun e=>by
  have:=((h2 i hi).lt g e).1
  omega⟩⟩
end
def MTabL (w:World) (base:Nat) (v:Value) (n k:Nat) (W:Nat->Nat->Nat) (g:Nat) (y:Nat->Nat):Prop :=
 ∃ R:Nat->Value,Own w base 22 1 v (n+1) (fun i _=>if i=n then .slice (some ⟨g,0,none⟩) k k else R i)/\(∀ i,i<n->Own w base 3 1 (R i) k (fun j _=>.int .i64 (W i j:Nat))/\(R i).ownBlock≠some g)/\base<=g/\w.rowIs g 3 k (fun j=>.int .i64 (y j:Nat))
section
variable {w w':World} {base n k g:Nat} {v:Value} {W:Nat->Nat->Nat} {y:Nat->Nat}
theorem MTabL.tab (h:MTabL w base v n k W g y) (hk:k<=maxLen):MTab w base v (n+1) k (fun u=>if u=n then y else W u):=by
 obtain ⟨R,h1,h2,h3,h4⟩:=h
 refine ⟨_,h1,fun i hi=>?_⟩
 by_cases e:i=n
 ·simp only [if_pos e]
  exact zbv h4 h3 hk
 ·simp only [if_neg e]
  exact (h2 i (by omega)).1
theorem MTabL.set (h:MTabL w base v n k W g y) (j x:Nat):MTabL (w.setCell ⟨g,j,none⟩ (.int .i64 (x:Nat))) base v n k W g (fun t=>if t=j then x else y t):=by
 obtain ⟨R,h1,h2,h3,h4⟩:=h
 have hne:v.ownBlock≠some g:=fun e=>(zcO h4 h1 (by decide)).elim (fun h=>by rw [h] at e; cases e) fun h=>h e
 refine ⟨R,h1.setCell hne _,fun i hi=>⟨(h2 i hi).1.setCell (h2 i hi).2 _,(h2 i hi).2⟩,h3,(h4.set j _).congr fun t _=>?_⟩
 show (if t=j then Value.int .i64 (x:Nat) else .int .i64 (y t:Nat))=.int .i64 ((if t=j then x else y t:Nat):Int)
 split <;> rfl
theorem MTabL.row {A:Option Addr} {c:Nat} (h:MTabL w base (.slice A (n+1) c) n k W g y):∃ b o,A=some ⟨b,o,none⟩/\w.cell? ⟨b,o+n,none⟩=some (.slice (some ⟨g,0,none⟩) k k):=by
 obtain ⟨R,h1,_,_,_⟩:=h
 obtain ⟨b,o,cap,e,_,_,_,_,hc⟩:=h1.form (by omega)
 injection e with e _ _
 subst e
 have g1:=hc n (by omega) 0 (by omega)
 rw [Nat.mul_one,Nat.add_zero,if_pos rfl] at g1
 exact ⟨b,o,rfl,g1⟩
theorem MTabL.at (h:MTabL w base v n k W g y) {j:Nat} (hj:j<k):w.cell? ⟨g,j,none⟩=some (.int .i64 (y j:Nat))/\w.frozen? ⟨g,j,none⟩=false/\base<=g:=by
 obtain ⟨_,_,_,h3,h4⟩:=h
 exact ⟨h4.cell hj,h4.frozen j,h3⟩
theorem MTabL.shape (h:MTabL w base v n k W g y):∃ A c,v=.slice A (n+1) c:=by
 obtain ⟨R,h1,_⟩:=h
 exact h1.shape
theorem step_append_mlast {ops:Array Oper} {o:Oper} {a:Act} {K:Act->World->Prop} {Q:Exit->Act->World->Prop} {E:Prop} (hgd:o.guard=none) (sl x:Operand)
  (ho:o.op=.call { callee:=.builtin .append,args:=#[sl,x],argTypes:=#[25, 25] })
  (h:MTabX w base v n k W (.slice (some ⟨g,0,none⟩) k k)) (hv:a.eval sl=v) {ad:Addr} {c:Nat} (hx:a.eval x=.slice (some ad) 1 c)
  (hcell:w.cell? (ad.add 0)=some (.slice (some ⟨g,0,none⟩) k k)) (hrow:w.rowIs g 3 k (fun j=>.int .i64 (y j:Nat))) (hg:base<=g) (hbase:base<=w.heap.size) (hN:n<=1048576)
  (K':∀ v' w',MTabL w' base v' n k W g y->w.grownBy w' v.ownBlock->(∀ q,v.ownBlock=some q->base<=q)->K (a.put o.dst v') w') :
  if Region.wanted o (yielded ops a.tmps)=true then Oper.wp Tryz.prog o a w K Q else E:=by
 obtain ⟨R,hA,hB⟩:=h
 obtain ⟨i0,qi0,qz0,qz1,qz2⟩:=info_parts Tryz.infoInts
 have hown:Own w base 22 1 v n (fun i _=>if i=n then .slice (some ⟨g,0,none⟩) k k else R i):=hA.congr fun i hi _ _=>by rw [if_neg (by omega)]
 refine step_append_one w hgd sl x _ ho base 22 i0 _ 1 24 Tryz.underlying25 qi0 qz0 qz1 qz2 rfl (by omega) v n _ hv hown ad c hx (fun j hj=>by
   obtain rfl:j=0:=by omega
   rw [if_pos rfl]
   exact hcell) (fun _ _=>by rw [if_pos rfl]; rfl) (by unfold maxLen; omega) (by omega) hbase ?_
 intro v' w3 hown3 hg3 _
 have ne:(22 : Nat) ≠ 3 := by decide
 refine K' v' w3 ⟨R,hown3,fun i hi=>⟨(hB i hi).1.kept hg3 (zdt hA (hB i hi).1 ne),?_⟩,hg,?_⟩ hg3 (fun q e=>(hA.lt q e).1)
 ·rcases (hB i hi).2 with e | e
  ·rw [e]; exact fun h=>by cases h
  ·exact e
 ·exact hrow.of_block (hg3.block _ hrow.lt fun e=>(zcO hrow hA (by decide)).elim (fun h=>by rw [h] at e; cases e) fun h=>h e.symm)
end
def RecP (P M:Nat) (m:Nat->Nat) (n:Nat) (V:Nat->Nat->Nat) (N:Nat) (w:World) (e:Ending) (w':World):Prop :=
 ∃ l p A' c',recPoly P M m n V N=(l,p)/\e=.returned (.tuple #[.slice A' l c',.int .i64 0])/\RatList w' w'.heap.size A' l p/\Below w.heap.size w w'
theorem recover_code (P M:Nat) (m:Nat->Nat) (A:Option Addr) (k c N:Nat) (T:Option Addr) (n d:Nat) (V:Nat->Nat->Nat) (w:World) (h:CodeR w P M m A k N T n V) (h16:N<=16) :
  Calls Tryz.prog 14 #[.agg #[.int .i64 (P:Nat),.int .i64 (M:Nat),.slice A k c,.int .i64 (N:Nat),.slice T n d]] w (RecP P M m n V N w):=by
 refine (zgm (P:Int) (M:Int) A k c (fun i=>(m i:Int)) (N:Int) T n d (fun _=>N) (fun i j=>(V i j:Int)) w h.ints h.rows).mono ?_
 rintro e w' ⟨kb,h1 | h1 | h1⟩
 ·obtain ⟨v,hv,hf,_⟩:=h1
  exact absurd (FirstErr.unique hf h.errs) hv
 ·obtain ⟨_,h2,_⟩:=h1
  omega
 ·obtain ⟨_,_,hh⟩:=h1
  obtain ⟨A',c',e1,e2⟩:=hh P M N rfl rfl rfl
  simp only [Int.toNat_natCast,natT_nat] at e1 e2
  exact ⟨_,_,A',c',rfl,e1,e2,kb⟩
section
variable {P M n N:Nat} {m:Nat->Nat} {V:Nat->Nat->Nat}
theorem recPoly_len:(recPoly P M m n V N).1<=N+2:=ziJ 2 N (recC P M m n V N) (N+1)
theorem recPoly_rsz (h16:N<=9):∀ i,i<(recPoly P M m n V N).1->rsz ((recPoly P M m n V N).2 i) 7000:=by
 have hdx:∀ k,k<=N->dl (recC P M m n V N k)<=8:=fun k _=>by
  have h1:recC P M m n V N k<=2 ^ N:=zhz _ _ k N 0 0 _
  have h2:2 ^ N<=2 ^ 16:=Nat.pow_le_pow_right (by omega) (by omega)
  have:=zjH (x:=recC P M m n V N k) (by omega)
  omega
 exact zg9 fun i=>(zkr (by omega) (by omega) (by omega) hdx (N+1) (Nat.le_refl _) i).mono (by omega)
theorem recPoly_pos (hL:FieldLaws (P ^ M) (addF P M) (mulF P M m)) (hV:RrefN (P ^ M) n N V):(recPoly P M m n V N).1≠0:=fun e=>by
 have h:=(zhF hL hV (p:=0) (p':=0) Rat.le_refl Rat.le_refl (by decide) (fun x=>evR (recPoly P M m n V N).2 x (recPoly P M m n V N).1) fun _=>rfl).2.2.2.2.1
 rw [e] at h
 exact absurd (show (0:Rat)=1 from h) (by decide)
theorem mulP_rsz {f:Nat->Rat} (hf:∀ i,i<2->rsz (f i) 7000) {b:Nat->Rat} {nb:Nat} (hb:∀ i,i<nb->rsz (b i) 7000) (i:Nat):rsz (mulP f 2 b nb i) 30000:=(zg3 (N:=7000) (a:=f) (b:=b) (m:=2) (m':=nb) hf hb 2 (Nat.le_refl _) i).mono (by omega)
end
theorem con_join {P M n N a ap a1 a2 nb nd na mb md:Nat} {m:Nat->Nat} {V Wp U1 W2 Vb Vd:Nat->Nat->Nat} {pa pb pd:Nat->Rat} {b:Bool} (hf:FieldOk P M m) (ha:a<N) (h9:N<=9) (hV:RrefN (P ^ M) n N V)
  (hp:NullRel (P ^ M) (addF P M) (mulF P M m) (negF P M) n N V ap Wp) (hU:RrefN (P ^ M) a1 N U1) (hs:SameSp (P ^ M) (addF P M) (mulF P M m) N (ap+1) a1 (addRow ap Wp fun j=>if j=a then 1 else 0) U1)
  (hd:NullRel (P ^ M) (addF P M) (mulF P M m) (negF P M) a1 N U1 a2 W2) (hVb:RrefN (P ^ M) nb (N - 1) Vb) (hVd:RrefN (P ^ M) nd (N - 1) Vd)
  (hsb:SameSp (P ^ M) (addF P M) (mulF P M m) (N - 1) a2 nb (fun i j=>W2 i (skipN a j)) Vb) (hsd:SameSp (P ^ M) (addF P M) (mulF P M m) (N - 1) n nd (fun i j=>V i (skipN a j)) Vd)
  (hb:b=true↔InSp (P ^ M) (addF P M) (mulF P M m) n N V (fun j=>if j=a then 1 else 0))
  (ea:recPoly P M m n V N=(na,pa)) (eb:recPoly P M m nb Vb (N - 1)=(mb,pb)) (ed:recPoly P M m nd Vd (N - 1)=(md,pd)) :
  (mb≠0/\na<=11/\mb<=11/\md<=11)/\Hid (∀ j,j<na->rsz (pa j) 7000)/\Hid (∀ j,j<mb->rsz (pb j) 7000)/\Hid (∀ j,j<md->rsz (pd j) 7000)/\Hid (clen pa na=na) /\
   Hid (∀ p:Rat,evR pa p na=(1 - p)*evR pb p mb+if b=true then 0 else p*evR pd p md):=by
 have hL:=fieldLaws hf
 have hP0:0<P:=by have:=hf.1.1; omega
 have fst:∀ {r:Nat × (Nat->Rat)} {l:Nat} {q:Nat->Rat},r=(l,q)->r.1=l/\r.2=q:=fun e=>by rw [e]; exact ⟨rfl,rfl⟩
 obtain ⟨ea1,ea2⟩:=fst ea
 obtain ⟨eb1,eb2⟩:=fst eb
 obtain ⟨ed1,ed2⟩:=fst ed
 refine ⟨⟨?_,?_,?_,?_⟩,hid ?_,hid ?_,hid ?_,hid ?_,hid fun p=>?_⟩
 ·rw [<-eb1]; exact recPoly_pos hL hVb
 ·have:=recPoly_len (P:=P) (M:=M) (m:=m) (n:=n) (V:=V) (N:=N); omega
 ·have:=recPoly_len (P:=P) (M:=M) (m:=m) (n:=nb) (V:=Vb) (N:=N - 1); omega
 ·have:=recPoly_len (P:=P) (M:=M) (m:=m) (n:=nd) (V:=Vd) (N:=N - 1); omega
 ·rw [<-ea1,<-ea2]; exact recPoly_rsz h9
 ·rw [<-eb1,<-eb2]; exact recPoly_rsz (by omega)
 ·rw [<-ed1,<-ed2]; exact recPoly_rsz (by omega)
 ·rw [<-ea1,<-ea2]; exact wtP_canon 2 N (recC P M m n V N) (N+1)
 ·have h:=con_vals hL ha hV hVb hVd (fun x hx=>inside_iff hL (fun x _=>⟨zb6 hP0,zbC hP0⟩) hV hp hU hs hd ha hx) hsb hsd p
  rw [ea1,ea2,eb1,eb2,ed1,ed2] at h
  rw [h]
  congr 1
  by_cases e:b=true
  ·rw [if_pos e,if_pos (hb.1 e)]
  ·rw [if_neg e,if_neg fun g=>e (hb.2 g)]
theorem channelContracts_any (P M:Int) (A:Option Addr) (k c:Nat) (f:Nat->Int) (N:Int) (T:Option Addr) (n d:Nat) (ln:Nat->Nat) (V:Nat->Nat->Int) (t:Int) (w:World) (hr:IntsR w w.heap.size A k f) (h:IntRows w T n ln V) :
  Calls Tryz.prog 4 #[.agg #[.int .i64 P,.int .i64 M,.slice A k c,.int .i64 N,.slice T n d],.int .i64 t] w fun e w'=>e=.returned (.bool true)/\Below w.heap.size w w':=by
 have HT:=hid h
 have HR:=hid hr
 clear h hr
 have rf:=zbN (w:=w) (a:=.int .i64 P) (b:=.int .i64 M) (c:=.slice A k c) (d:=.int .i64 N) (e:=.slice T n d) (T := 27)
 have hB:Below w.heap.size w (w.alloc (.cells #[.int .i64 P,.int .i64 M,.slice A k c,.int .i64 N,.slice T n d] 27)):=(Below.refl _ _).alloc (Nat.le_refl _) _
 obtain ⟨w1,hw1⟩:∃ W,W=w.alloc (.cells #[.int .i64 P,.int .i64 M,.slice A k c,.int .i64 N,.slice T n d] 27):=⟨_,rfl⟩
 rw [<-hw1] at hB rf
 go_enter Tryz.func4, Tryz.ntmps4
 go_upto_region 1 with fail
 rw [<-hw1]
 clear hw1
 have q0:w1.cell? ⟨w.heap.size,0,none⟩=some (.int .i64 P):=rf.cell (i:=0) (by omega)
 have q1:w1.cell? ⟨w.heap.size,1,none⟩=some (.int .i64 M):=rf.cell (i:=1) (by omega)
 have q2:w1.cell? ⟨w.heap.size,2,none⟩=some (.slice A k c):=rf.cell (i:=2) (by omega)
 have q3:w1.cell? ⟨w.heap.size,3,none⟩=some (.int .i64 N):=rf.cell (i:=3) (by omega)
 have q4:w1.cell? ⟨w.heap.size,4,none⟩=some (.slice T n d):=rf.cell (i:=4) (by omega)
 by_cases h9:N > 9
 ·have h9':decide (N > 9)=true:=by simpa using h9
  go_wp2
  go_ret
  exact ⟨rfl,hB⟩
 have h9':decide (N > 9)=false:=by simpa using h9
 by_cases h2:N<2
 ·have h2':decide (N<2)=true:=by simpa using h2
  go_wp2
  go_ret
  exact ⟨rfl,hB⟩
 have h2':decide (N<2)=false:=by simpa using h2
 by_cases ht0:t<0
 ·have ht0':decide (t<0)=true:=by simpa using ht0
  go_wp2
  go_ret
  exact ⟨rfl,hB⟩
 have ht0':decide (t<0)=false:=by simpa using ht0
 by_cases htN:t ≥ N
 ·have htN':decide (t ≥ N)=true:=by simpa using htN
  go_wp2
  go_ret
  exact ⟨rfl,hB⟩
 have htN':decide (t ≥ N)=false:=by simpa using htN
 go_wp2_with fail
 refine (zf7 P M A k c f N T n d ln V w1 (HR.out.on hB) (HT.out.on hB)).mono ?_
 rintro e w2 ⟨v,rfl,hv,kb⟩
 replace rf:=zaa rf kb
 replace hB:=onS hB kb
 clear kb q0 q1 q2 q3 q4
 by_cases hv0:v=0
 rotate_left
 ·have hvb:(v != 0)=true:=by simpa using hv0
  clear hv hv0
  go_wp2
  go_ret
  exact ⟨rfl,hB⟩
 have hvb:(v != 0)=false:=by simpa using hv0
 subst hv0
 obtain ⟨P',M',N',rfl,rfl,rfl,hC⟩:=zgJ HR.out HT.out hv
 obtain ⟨a,rfl⟩:∃ a:Nat,t=(a:Int):=⟨t.toNat,by omega⟩
 have HC:=hid hC
 have HV:=hid hv
 obtain ⟨m,hm⟩:∃ m,m=fun i=>(f i).toNat:=⟨_,rfl⟩
 obtain ⟨V',hV'⟩:∃ V',V'=natT V:=⟨_,rfl⟩
 rw [<-hm,<-hV'] at HC
 have HMm:=hid hm
 have HVV:=hid hV'
 have haN:a<N':=by omega
 have hN9:N'<=9:=by omega
 have hN2:2<=N':=by omega
 clear hC hv hm hV' h9 h9' h2 h2' ht0 ht0' htN htN'
 go_upto_region 5 with fail
 have hnN:n<=N':=HC.out.n_le
 obtain ⟨a1,ha1⟩:∃ x,x=a+1:=⟨_,rfl⟩
 have hw1:IntKind.i64.wrap ((a:Int)+1)=(a1:Int):=by rw [IntWalk.i64_in _ (by omega)]; omega
 have ha1N:a1<=N':=by omega
 have ha1N':(a1:Int)<=(N':Int):=by omega
 have ha10:(0:Int)<=(a1:Int):=by omega
 have ha00:(0:Int)<=(a:Int):=by omega
 have HA1:=hid ha1
 clear ha1
 have HRF:=hid rf
 have HB2:=hid hB
 have hkeep:Hid (∀ W,Below w2.heap.size w2 W->W.rowIs w.heap.size 27 5 (codCell (.int .i64 (P':Nat)) (.int .i64 (M':Nat)) (.slice A k c) (.int .i64 (N':Nat)) (.slice T n d))):=fun W hb=>zaa HRF.out hb
 clear rf hB hvb
 go_loopg [5,7] n (fun gg sv iv wx=>∃ i:Nat,iv=.int .i64 (i:Nat)/\i<=n/\n<=i+gg/\MTab wx w2.heap.size sv i (N' - 1) (fun i j=>V' i (skipN a j))/\Below w2.heap.size w2 wx)
 case atStart=>exact ⟨0,rfl,by omega,by omega,MTab.nil _ _ _ _,Below.refl _ _⟩
 case round =>
  obtain ⟨i,rfl,hi,hig,hM,hB⟩:=hrel
  have hi0:(0:Int)<=(i:Int):=by omega
  obtain ⟨SA,sc,hsv⟩:=hM.shape
  subst hsv
  have HM:=hid hM
  have HB:=hid hB
  have rf:=hkeep.out _ hB
  have q4:wr.cell? ⟨w.heap.size,4,none⟩=some (.slice T n d):=rf.cell (i:=4) (by omega)
  clear hM rf
  by_cases hlt:i<n
  ·have hlt':(i:Int)<(n:Int):=by omega
   obtain ⟨tb,to0,RA,rc,rfl,htb,t0w,h1,h2,hrow0,_⟩:=HC.out.rows i hlt
   have HT0:=hid t0w
   have t0:=cellS hB (cellS HB2.out t0w)
   have hrow:=(hrow0.on HB2.out).on hB
   clear hrow0 t0w
   obtain ⟨rb,ro,rfl,_,_⟩:=hrow.at haN
   have HROW:=hid hrow
   have h1:N'<=rc:=h1
   have hac:(a:Int)<=(rc:Int):=by clear h2; omega
   clear h2
   obtain ⟨w4,hw4⟩:∃ X,X=wr:=⟨_,rfl⟩
   subst hw4
   clear hrow hB
   go_wp2
   refine wp_region_held_drew (S:=fun w'=>w'.cell? ⟨w.heap.size,4,none⟩=some (.slice (some ⟨tb,to0,none⟩) n d)/\w'.cell? ⟨tb,to0+i,none⟩=some (.slice (some ⟨rb,ro,none⟩) N' rc)) (by kernel_rfl) ⟨cellS (Below.refl _ _).drew q4,cellS (Below.refl _ _).drew t0⟩ (fun hHeld=>?_)
   obtain ⟨w5,hw⟩:∃ W,W=World.drew w4:=⟨_,rfl⟩
   have kb:Below w4.heap.size w4 w5:=by rw [hw]; exact (Below.refl _ _).drew
   rw [<-hw] at hHeld ⊢
   clear hw
   refine tkq 0 (h:=tkq 2 (h:=tkq 3 (h:=tkq 4 (h:=tkq 5 (h:=tkq 6 (h:=tkq 7 (h:=?_)))))))
   refine tkq 8 (h:=?_)
   refine tkq 10 (h:=tkq 11 (h:=tkq 12 (h:=tkq 13 (h:=tkq 14 (h:=tkq 15 (h:=tkq 16 (h:=?_)))))))
   refine tkq 17 (h:=?_)
   obtain ⟨A2,hA2⟩:∃ x:Option Addr,x=if rc=a1 then some ⟨rb,ro,none⟩ else some ⟨rb,ro+a1,none⟩:=⟨_,rfl⟩
   rw [<-hA2]
   have HA2:=hid hA2
   clear hA2
   have HM5:=hid (HM.out.on kb)
   have HB5:=hid (onS HB.out kb)
   have HROW5:=hid (HROW.out.on kb)
   have q4':=cellS kb q4
   have t0':=cellS kb t0
   clear kb q4 t0 HM HB HROW
   refine rdq 1 (h:=fun K hK=>?_)
   go_simp
   obtain ⟨w6,hw⟩:∃ W,W=World.alloc w5 (Obj.cells #[] 3):=⟨_,rfl⟩
   have kb:Below w5.heap.size w5 w6:=by rw [hw]; exact (Below.refl _ _).alloc (Nat.le_refl _) _
   have HN:Hid (Own w6 w5.heap.size 3 1 (.slice (some ⟨w5.heap.size,0,none⟩) 0 0) 0 (fun j _=>.int .i64 (V' i (skipN a j):Nat))):=by rw [hw]; exact Own.new (Nat.le_refl _) (Nat.le_refl _) (by unfold maxLen; omega) (by simp) (fun k hk=>absurd hk (by omega))
   rw [<-hw]
   clear hw
   refine bkq hK ⟨cellS kb q4',cellS kb t0'⟩ (h:=fun hHeld=>?_)
   clear hK K hHeld
   have HS1:Hid (IntsR w6 w6.heap.size (some ⟨rb,ro,none⟩) a (fun j=>(V' i (skipN a (0+j)):Nat))):=(ints_pre (HROW5.out.on kb) (Nat.le_of_lt haN)).congr fun j hj=>by rw [Nat.zero_add,show skipN a j=j by unfold skipN; rw [if_pos hj]]
   refine rdq 9 (h:=fun K hK=>?_)
   refine step_append_ints rfl (.tmp 53) (.tmp 60) rfl HN.out rfl (A:=some ⟨rb,ro,none⟩) (c:=rc) (m:=a) rfl HS1.out kb.size (by omega) ?_
   intro v7 w7 o1 o2 o3
   have kb7:=kb.grown o2 kb.size (fun q e=>Nat.le_of_eq (Option.some.inj e))
   have HO7:=hid o1
   obtain ⟨XA,xc,hv7⟩:=o1.shape
   subst hv7
   refine bkq hK ⟨cellS kb7 q4',cellS kb7 t0'⟩ (h:=fun hHeld=>?_)
   clear hK K hHeld o1 o2 o3 kb HN HS1
   have HS2:Hid (IntsR w7 w7.heap.size A2 (N' - a1) (fun j=>(V' i (skipN a (0+a+j)):Nat))):=by
    show IntsR _ _ _ _ _
    rw [HA2.out]
    exact (ints_suf_if (HROW5.out.on kb7) ha1N h1).congr fun j hj=>by rw [show skipN a (0+a+j)=a1+j by unfold skipN; rw [if_neg (by omega),HA1.out]; omega]
   refine rdq 18 (h:=fun K hK=>?_)
   refine step_append_ints rfl (.tmp 61) (.tmp 69) rfl HO7.out rfl (A:=A2) (c:=rc - a1) (m:=N' - a1) rfl HS2.out kb7.size (by omega) ?_
   intro v8 w8 o1 o2 o3
   have kb8:=kb7.grown o2 kb7.size (fun q e=>(HO7.out.lt _ e).1)
   rw [show 0+a+(N' - a1)=N' - 1 by rw [HA1.out]; omega] at o1
   have HO8:=hid o1
   obtain ⟨YA,yc,hv8⟩:=o1.shape
   subst hv8
   refine bkq hK ⟨cellS kb8 q4',cellS kb8 t0'⟩ (h:=fun hHeld=>?_)
   clear hK K hHeld o1 o2 o3 kb7 HO7 HS2
   refine rdq 19 (h:=fun K hK=>?_)
   go_simp
   obtain ⟨w9,hw⟩:∃ W,W=World.alloc w8 (Obj.cells #[.slice YA (N' - 1) yc] 22):=⟨_,rfl⟩
   have kb:Below w8.heap.size w8 w9:=by rw [hw]; exact (Below.refl _ _).alloc (Nat.le_refl _) _
   have HC9:Hid (w9.cell? ((⟨w8.heap.size,0,none⟩:Addr).add 0)=some (.slice YA (N' - 1) yc)):=by rw [hw]; exact tbox2
   rw [<-hw]
   clear hw
   have kb9:=onS kb8 kb
   have HO9:=hid ((HO8.out.on kb).mono (show w2.heap.size<=w5.heap.size from HB5.out.size))
   refine bkq hK ⟨cellS kb9 q4',cellS kb9 t0'⟩ (h:=fun hHeld=>?_)
   clear hK K hHeld kb kb8 HO8
   have HM9:=hid (HM5.out.on kb9)
   have HB9:=hid (onS HB5.out kb9)
   refine rdq 20 (h:=fun K hK=>?_)
   refine step_append_mrow rfl (.tmp 52) (.tmp 71) rfl HM9.out rfl (ad:=⟨w8.heap.size,0,none⟩) (c:=1) rfl HC9.out rfl HO9.out HB9.out.size (by have:=HC.out.n_le; omega) ?_
   intro v10 w10 o1 o2 o3
   have HB10:=hid (HB9.out.grown o2 HB9.out.size o3)
   have HM10:=hid (o1.congr (W':=fun i j=>V' i (skipN a j)) fun u hu j _=>by
    by_cases e:u=i
    ·subst e; rw [if_pos rfl]
    ·rw [if_neg e])
   have rf10:=hkeep.out _ HB10.out
   have t10:=cellS HB10.out (cellS HB2.out HT0.out)
   obtain ⟨ZA,zc,hv10⟩:=HM10.out.shape
   subst hv10
   refine bkq hK ⟨rf10.cell (i:=4) (by omega),t10⟩ (h:=fun hHeld=>?_)
   clear hK K o1 o2 o3
   refine tkq 21 (h:=?_)
   refine wpAnyH_done (by kernel_rfl) ?_ _
   clear hHeld rf10 t10
   go_wp2
   go_roundg (gk - 1)
   case measure=>omega
   case rel=>exact ⟨i+1,by go_num,by omega,by omega,HM10.out,HB10.out⟩
  ·obtain rfl:i=n:=by omega
   have hlt':¬ (i:Int)<(i:Int):=by omega
   have hmk:=fun W=>zau (P:=Tryz.prog) 22 3 _ 8 Tryz.underlying22 Tryz.infoInt rfl (N':Int) (by omega) (by omega) (by omega) W
   simp only [Int.toNat_natCast] at hmk
   obtain ⟨w4,hw4⟩:∃ X,X=wr:=⟨_,rfl⟩
   subst hw4
   have r4:=hkeep.out _ hB
   go_upto_region 8 with fail
   clear q4
   go_cut [8] (fun v8 wx=>∃ (a2 g:Nat) (W2:Nat->Nat->Nat),MTabL wx w4.heap.size v8 a2 N' W2 g (fun _=>0)/\NullRel (P' ^ M') (addF P' M') (mulF P' M' m) (negF P' M') i N' V' a2 W2/\Below w4.heap.size w4 wx)
   case first =>
    have q0:w4.cell? ⟨w.heap.size,0,none⟩=some (.int .i64 (P':Nat)):=r4.cell (i:=0) (by omega)
    have q1:w4.cell? ⟨w.heap.size,1,none⟩=some (.int .i64 (M':Nat)):=r4.cell (i:=1) (by omega)
    have q2:w4.cell? ⟨w.heap.size,2,none⟩=some (.slice A k c):=r4.cell (i:=2) (by omega)
    have q3:w4.cell? ⟨w.heap.size,3,none⟩=some (.int .i64 (N':Nat)):=r4.cell (i:=3) (by omega)
    have q4:w4.cell? ⟨w.heap.size,4,none⟩=some (.slice T i d):=r4.cell (i:=4) (by omega)
    clear r4
    have kb:Below w4.heap.size w4 w4.drew:=(Below.refl _ _).drew
    refine wp_region_held_drew (S:=fun w'=>w'.cell? ⟨w.heap.size,0,none⟩=some (.int .i64 (P':Nat))/\w'.cell? ⟨w.heap.size,1,none⟩=some (.int .i64 (M':Nat))/\w'.cell? ⟨w.heap.size,2,none⟩=some (.slice A k c)/\w'.cell? ⟨w.heap.size,3,none⟩=some (.int .i64 (N':Nat))/\w'.cell? ⟨w.heap.size,4,none⟩=some (.slice T i d)) (by kernel_rfl) ⟨cellS kb q0,cellS kb q1,cellS kb q2,cellS kb q3,cellS kb q4⟩ (fun hHeld=>?_)
    obtain ⟨w5,hw⟩:∃ W,W=World.drew w4:=⟨_,rfl⟩
    have hs5:Hid (w5.heap.size=w4.heap.size):=by rw [hw]; exact hid rfl
    rw [<-hw] at kb hHeld ⊢
    clear hw
    have HM5:=hid (HM.out.on kb)
    have HB5:=hid (onS hB kb)
    have RF:=hkeep.out _ HB5.out
    have KB:=Below.refl w5.heap.size w5
    have HKB5:=hid kb
    clear kb hB HM HB q0 q1 q2 q3 q4
    refine tkq 0 (h:=tkq 2 (h:=tkq 3 (h:=?_)))
    refine rdq2 1 4 (h:=fun K hK=>?_) (h2:=fun K hK=>?_)
    focus
     go_simp
     go_wp2_with fail
     refine (parity_any P' M' m A k c N' T i d V' w5 (((HC.out.on HB2.out).on HB5.out).on KB)).mono ?_
     rintro e w6 ⟨lv,a2,W2,rfl,hM,kb,hrel⟩
     have HREL:=hid hrel
     obtain ⟨PA,pc,hlv⟩:=hM.shape
     subst hlv
     have HP:=hid (hM.mono KB.size)
     replace KB:=onS KB kb
     clear kb
     clear hM hrel
     refine bkq hK ⟨(zaa RF KB).cell (i:=0) (by omega),(zaa RF KB).cell (i:=1) (by omega),(zaa RF KB).cell (i:=2) (by omega),(zaa RF KB).cell (i:=3) (by omega),(zaa RF KB).cell (i:=4) (by omega)⟩ (h:=fun hHeld=>?_)
     clear hK K hHeld
     refine rdq 4 (h:=fun K hK=>?_)
     go_simp
     obtain ⟨w7,hw⟩:∃ W,W=World.alloc w6 (Obj.cells (madeCells #[Value.int .i64 0] N') 3):=⟨_,rfl⟩
     have kb:Below w6.heap.size w6 w7:=by rw [hw]; exact (Below.refl _ _).alloc (Nat.le_refl _) _
     have rz:World.rowIs w7 w6.heap.size 3 N' (fun _=>.int .i64 0):=by rw [hw]; exact World.rowIs_made _ (.int .i64 0) N' 3
     rw [<-hw]
     clear hw
     obtain ⟨g,hg⟩:∃ g,g=w6.heap.size:=⟨_,rfl⟩
     have hgB:w5.heap.size<=g:=by rw [hg]; exact KB.size
     rw [<-hg] at rz ⊢
     have HZ:=hid rz
     have HPX:=hid ((HP.out.xlt (m:=N') (Nat.le_of_eq hg.symm)).on kb)
     clear hg rz
     replace HP:=hid (HP.out.on kb)
     replace KB:=onS KB kb
     clear kb
     refine bkq hK ⟨(zaa RF KB).cell (i:=0) (by omega),(zaa RF KB).cell (i:=1) (by omega),(zaa RF KB).cell (i:=2) (by omega),(zaa RF KB).cell (i:=3) (by omega),(zaa RF KB).cell (i:=4) (by omega)⟩ (h:=fun hHeld=>?_)
     clear hK K hHeld
     refine rdq 5 (h:=fun K hK=>?_)
     go_simp
     obtain ⟨w8,hw⟩:∃ W,W=World.alloc w7 (Obj.cells #[.slice (some ⟨g,0,none⟩) N' N'] 22):=⟨_,rfl⟩
     have kb:Below w7.heap.size w7 w8:=by rw [hw]; exact (Below.refl _ _).alloc (Nat.le_refl _) _
     have hcb:World.cell? w8 ((⟨w7.heap.size,0,none⟩:Addr).add 0)=some (.slice (some ⟨g,0,none⟩) N' N'):=by rw [hw]; exact tbox2
     rw [<-hw]
     clear hw
     obtain ⟨b,hb⟩:∃ b,b=w7.heap.size:=⟨_,rfl⟩
     rw [<-hb] at hcb ⊢
     have HCB:=hid hcb
     clear hb hcb
     replace HPX:=hid (HPX.out.on kb)
     replace HP:=hid (HP.out.on kb)
     replace HZ:=hid (zaa HZ.out kb)
     replace KB:=onS KB kb
     clear kb
     refine bkq hK ⟨(zaa RF KB).cell (i:=0) (by omega),(zaa RF KB).cell (i:=1) (by omega),(zaa RF KB).cell (i:=2) (by omega),(zaa RF KB).cell (i:=3) (by omega),(zaa RF KB).cell (i:=4) (by omega)⟩ (h:=fun hHeld=>?_)
     clear hK K hHeld
    rotate_left
    focus
     go_simp
     obtain ⟨w6,hw⟩:∃ W,W=World.alloc w5 (Obj.cells (madeCells #[Value.int .i64 0] N') 3):=⟨_,rfl⟩
     have kb:Below w5.heap.size w5 w6:=by rw [hw]; exact (Below.refl _ _).alloc (Nat.le_refl _) _
     have rz:World.rowIs w6 w5.heap.size 3 N' (fun _=>.int .i64 0):=by rw [hw]; exact World.rowIs_made _ (.int .i64 0) N' 3
     rw [<-hw]
     clear hw
     obtain ⟨g,hg⟩:∃ g,g=w5.heap.size:=⟨_,rfl⟩
     have hgB:w5.heap.size<=g:=by rw [hg]; exact KB.size
     rw [<-hg] at rz ⊢
     have HZ:=hid rz
     clear hg rz
     replace KB:=onS KB kb
     clear kb
     refine bkq hK ⟨(zaa RF KB).cell (i:=0) (by omega),(zaa RF KB).cell (i:=1) (by omega),(zaa RF KB).cell (i:=2) (by omega),(zaa RF KB).cell (i:=3) (by omega),(zaa RF KB).cell (i:=4) (by omega)⟩ (h:=fun hHeld=>?_)
     clear hK K hHeld
     refine rdq2 1 5 (h:=fun K hK=>?_) (h2:=fun K hK=>?_)
     focus
      go_simp
      go_wp2_with fail
      refine (parity_any P' M' m A k c N' T i d V' w6 (((HC.out.on HB2.out).on HB5.out).on KB)).mono ?_
      rintro e w7 ⟨lv,a2,W2,rfl,hM,kb,hrel⟩
      have HREL:=hid hrel
      obtain ⟨PA,pc,hlv⟩:=hM.shape
      subst hlv
      have HP:=hid (hM.mono KB.size)
      have HPX:=hid ((hM.xge (m:=N') HZ.out.lt).mono KB.size)
      replace HZ:=hid (zaa HZ.out kb)
      replace KB:=onS KB kb
      clear kb
      clear hM hrel
      refine bkq hK ⟨(zaa RF KB).cell (i:=0) (by omega),(zaa RF KB).cell (i:=1) (by omega),(zaa RF KB).cell (i:=2) (by omega),(zaa RF KB).cell (i:=3) (by omega),(zaa RF KB).cell (i:=4) (by omega)⟩ (h:=fun hHeld=>?_)
      clear hK K hHeld
      refine rdq 5 (h:=fun K hK=>?_)
      go_simp
      obtain ⟨w8,hw⟩:∃ W,W=World.alloc w7 (Obj.cells #[.slice (some ⟨g,0,none⟩) N' N'] 22):=⟨_,rfl⟩
      have kb:Below w7.heap.size w7 w8:=by rw [hw]; exact (Below.refl _ _).alloc (Nat.le_refl _) _
      have hcb:World.cell? w8 ((⟨w7.heap.size,0,none⟩:Addr).add 0)=some (.slice (some ⟨g,0,none⟩) N' N'):=by rw [hw]; exact tbox2
      rw [<-hw]
      clear hw
      obtain ⟨b,hb⟩:∃ b,b=w7.heap.size:=⟨_,rfl⟩
      rw [<-hb] at hcb ⊢
      have HCB:=hid hcb
      clear hb hcb
      replace HPX:=hid (HPX.out.on kb)
      replace HZ:=hid (zaa HZ.out kb)
      replace HP:=hid (HP.out.on kb)
      replace KB:=onS KB kb
      clear kb
      refine bkq hK ⟨(zaa RF KB).cell (i:=0) (by omega),(zaa RF KB).cell (i:=1) (by omega),(zaa RF KB).cell (i:=2) (by omega),(zaa RF KB).cell (i:=3) (by omega),(zaa RF KB).cell (i:=4) (by omega)⟩ (h:=fun hHeld=>?_)
      clear hK K hHeld
     rotate_left
     focus
      go_simp
      obtain ⟨w7,hw⟩:∃ W,W=World.alloc w6 (Obj.cells #[.slice (some ⟨g,0,none⟩) N' N'] 22):=⟨_,rfl⟩
      have kb:Below w6.heap.size w6 w7:=by rw [hw]; exact (Below.refl _ _).alloc (Nat.le_refl _) _
      have hcb:World.cell? w7 ((⟨w6.heap.size,0,none⟩:Addr).add 0)=some (.slice (some ⟨g,0,none⟩) N' N'):=by rw [hw]; exact tbox2
      rw [<-hw]
      clear hw
      obtain ⟨b,hb⟩:∃ b,b=w6.heap.size:=⟨_,rfl⟩
      rw [<-hb] at hcb ⊢
      have HCB:=hid hcb
      clear hb hcb
      replace HZ:=hid (zaa HZ.out kb)
      replace KB:=onS KB kb
      clear kb
      refine bkq hK ⟨(zaa RF KB).cell (i:=0) (by omega),(zaa RF KB).cell (i:=1) (by omega),(zaa RF KB).cell (i:=2) (by omega),(zaa RF KB).cell (i:=3) (by omega),(zaa RF KB).cell (i:=4) (by omega)⟩ (h:=fun hHeld=>?_)
      clear hK K hHeld
      refine rdq 1 (h:=fun K hK=>?_)
      go_simp
      go_wp2_with fail
      refine (parity_any P' M' m A k c N' T i d V' w7 (((HC.out.on HB2.out).on HB5.out).on KB)).mono ?_
      rintro e w8 ⟨lv,a2,W2,rfl,hM,kb,hrel⟩
      have HREL:=hid hrel
      obtain ⟨PA,pc,hlv⟩:=hM.shape
      subst hlv
      have HP:=hid (hM.mono KB.size)
      have HPX:=hid ((hM.xge (m:=N') HZ.out.lt).mono KB.size)
      replace HZ:=hid (zaa HZ.out kb)
      replace HCB:=hid (cellS kb HCB.out)
      replace KB:=onS KB kb
      clear kb
      clear hM hrel
      refine bkq hK ⟨(zaa RF KB).cell (i:=0) (by omega),(zaa RF KB).cell (i:=1) (by omega),(zaa RF KB).cell (i:=2) (by omega),(zaa RF KB).cell (i:=3) (by omega),(zaa RF KB).cell (i:=4) (by omega)⟩ (h:=fun hHeld=>?_)
      clear hK K hHeld
     rotate_left
    all_goals
     have ha2:a2<=1048576:=by
      obtain ⟨p2,hE2⟩:=HREL.out.rref
      have:=hE2.le_c
      omega
     refine rdq 6 (h:=fun K hK=>?_)
     refine step_append_mlast rfl (.tmp 74) (.tmp 78) rfl HPX.out rfl (ad:=⟨b,0,none⟩) (c:=1) rfl HCB.out (y:=fun _=>0) (HZ.out.congr fun _ _=>rfl) hgB KB.size ha2 ?_
     intro v9 w9 o1 o2 o3
     have KB9:=KB.grown o2 KB.size o3
     have HL9:=hid o1
     refine bkq hK ⟨(zaa RF KB9).cell (i:=0) (by omega),(zaa RF KB9).cell (i:=1) (by omega),(zaa RF KB9).cell (i:=2) (by omega),(zaa RF KB9).cell (i:=3) (by omega),(zaa RF KB9).cell (i:=4) (by omega)⟩ (h:=fun hHeld=>?_)
     clear hK K o1 o2 o3 KB HZ HP HPX HCB hgB ha2
     refine tkq 7 (h:=?_)
     refine wpAnyH_done (by kernel_rfl) ?_ _
     clear hHeld
     obtain ⟨LA,lc,hl9⟩:=HL9.out.shape
     subst hl9
     go_wp2_with fail
     go_meet
     refine ⟨a2,g,W2,?_,HREL.out,onS HKB5.out KB9⟩
     rw [<-hs5.out]
     exact HL9.out
   case rest =>
    obtain ⟨a2,g,W2,hL9,hrel,KB9⟩:=hcut
    obtain ⟨w9,hw9⟩:∃ X,X=wc:=⟨_,rfl⟩
    subst hw9
    have HL9:=hid hL9
    have HREL:=hid hrel
    clear hL9 hrel hB r4
    obtain ⟨LA,lc,hl9⟩:=HL9.out.shape
    subst hl9
    obtain ⟨tb,tO,rfl,t0⟩:=HL9.out.row
    obtain ⟨z0,z1,_⟩:=HL9.out.at haN
    have ha2:a2<=64:=by
     obtain ⟨p2,hE2⟩:=HREL.out.rref
     have:=hE2.le_c
     omega
    have hln:wrap64 (a2:Int)=(a2:Int):=by
     unfold wrap64
     clear HV KB9 hw1
     omega
    have ha20:(0:Int)<=(a2:Int):=by omega
    have ha21:(a2:Int)<(a2:Int)+1:=by omega
    have haN9:(a:Int)<(N':Int):=by omega
    go_upto_region 10 with fail
    obtain ⟨wS,hwS⟩:∃ W,W=World.setCell w9 ⟨g,a,none⟩ (.int .i64 (1:Nat)):=⟨_,rfl⟩
    have HLS:=hid (HL9.out.set a 1)
    have KBS:=KB9.setCell (p:=⟨g,a,none⟩) (HL9.out.at haN).2.2 (.int .i64 (1:Nat))
    rw [<-hwS] at HLS KBS
    have HMS:=hid (HM.out.on KBS)
    have HBS:=hid (onS HB.out KBS)
    have HPT:=hid (show MTab wS w4.heap.size _ (a2+1) N' (addRow a2 W2 fun j=>if j=a then 1 else 0) from HLS.out.tab (by unfold maxLen; omega))
    first | rw [<-hwS] | (rw [Int.natCast_one] at hwS; rw [<-hwS])
    clear hwS HL9 HLS z0 z1 t0 hln HM HB KBS KB9
    have hq256:=HC.out.fld.1.2.2.2
    have hk8:=HC.out.k_le
    have HCS:=hid ((HC.out.on HB2.out).on HBS.out)
    have HLT:Hid (∀ u,u<a2+1->∀ j,j<N'->addRow a2 W2 (fun j=>if j=a then 1 else 0) u j<P' ^ M'):=by
     obtain ⟨p2,hE2⟩:=HREL.out.rref
     have h2q:=(fieldLaws HC.out.fld).two
     refine hid fun u hu j hj=>?_
     unfold addRow
     split
     ·show (if j=a then 1 else 0)<_
      split <;> omega
     ·exact hE2.lt u (by omega) j hj
    have HRDP:=hid (HPT.out.rd hq256 HLT.out)
    have rf:=hkeep.out _ HBS.out
    have q0:wS.cell? ⟨w.heap.size,0,none⟩=some (.int .i64 (P':Nat)):=rf.cell (i:=0) (by omega)
    have q1:wS.cell? ⟨w.heap.size,1,none⟩=some (.int .i64 (M':Nat)):=rf.cell (i:=1) (by omega)
    have q2:wS.cell? ⟨w.heap.size,2,none⟩=some (.slice A k c):=rf.cell (i:=2) (by omega)
    have q3:wS.cell? ⟨w.heap.size,3,none⟩=some (.int .i64 (N':Nat)):=rf.cell (i:=3) (by omega)
    have q4:wS.cell? ⟨w.heap.size,4,none⟩=some (.slice T i d):=rf.cell (i:=4) (by omega)
    go_wp2_with fail
    refine (make_any P' M' m A k c (some ⟨tb,tO,none⟩) (a2+1) lc N' (addRow a2 W2 (fun j=>if j=a then 1 else 0)) wS HCS.out.fld HCS.out.mod HCS.out.km HCS.out.ints hk8 HRDP.out HLT.out (by omega) (by omega) (by omega)).mono ?_
    rintro e w10 hmk2
    obtain ⟨A1,c1,T1,b1,d1,U1,rfl,hC1,hs1,kb⟩:=make_code hmk2 HC.out.fld HC.out.kM HC.out.ln1 HC.out.ln2 HLT.out
    have HC1:=hid hC1
    have HS1:=hid hs1
    replace rf:=zaa rf kb
    have HB10:=hid (onS HBS.out kb)
    have HMS10:=hid (HMS.out.on kb)
    clear q0 q1 q2 q3 q4 hC1 hs1 hmk2 kb HCS HRDP HPT HMS HBS
    go_wp2_with fail
    refine (dual12_any P' M' m A1 k c1 N' T1 b1 d1 U1 w10 HC1.out).mono ?_
    rintro e w11 ⟨v3,lv3,a3,W3,rfl,hv3,hM3,kb,hrel3⟩
    have HREL3:=hid hrel3
    obtain ⟨VA,vc,hsh⟩:=hv3.shape
    subst hsh
    obtain ⟨LB,lb,hlv⟩:=hM3.shape
    subst hlv
    have HM3:=hid hM3
    have HB11:=hid (onS HB10.out kb)
    have HMS11:=hid (HMS10.out.on kb)
    clear hv3 hM3 hrel3 kb rf HMS10 HB10
    go_upto_region 12 with fail
    have rf9:=zbN (w:=w11) (a:=.int .i64 (P':Nat)) (b:=.int .i64 (M':Nat)) (c:=.slice VA k vc) (d:=.int .i64 (N':Nat)) (e:=.slice LB a3 lb) (T := 27)
    have kb:Below w11.heap.size w11 (w11.alloc (.cells #[.int .i64 (P':Nat),.int .i64 (M':Nat),.slice VA k vc,.int .i64 (N':Nat),.slice LB a3 lb] 27)):=(Below.refl _ _).alloc (Nat.le_refl _) _
    obtain ⟨w12,hw12⟩:∃ W,W=w11.alloc (.cells #[.int .i64 (P':Nat),.int .i64 (M':Nat),.slice VA k vc,.int .i64 (N':Nat),.slice LB a3 lb] 27):=⟨_,rfl⟩
    rw [<-hw12] at rf9 kb ⊢
    clear hw12
    obtain ⟨g9,hg9⟩:∃ g,g=w11.heap.size:=⟨_,rfl⟩
    rw [<-hg9] at rf9 ⊢
    clear hg9
    have HLT3:Hid (∀ u,u<a3->∀ j,j<N'->W3 u j<P' ^ M'):=by
     obtain ⟨p3,hE3⟩:=HREL3.out.rref
     exact hid hE3.lt
    have HN3:Hid (a3<=N'):=by
     obtain ⟨p3,hE3⟩:=HREL3.out.rref
     exact hid hE3.le_c
    have hsN:a3<=N':=HN3.out
    have HR3:=hid ((HM3.out.on kb).rd hq256 HLT3.out)
    have HB12:=hid (onS HB11.out kb)
    have HMS12:=hid (HMS11.out.on kb)
    have HRF9:=hid rf9
    have hkeep9:Hid (∀ W,Below w12.heap.size w12 W->W.rowIs g9 27 5 (codCell (.int .i64 (P':Nat)) (.int .i64 (M':Nat)) (.slice VA k vc) (.int .i64 (N':Nat)) (.slice LB a3 lb))):=fun W hb=>zaa HRF9.out hb
    clear rf9 kb HM3 HMS11 HB11
    go_loopg [6,11] a3 (fun gg v6 iv wx=>∃ s:Nat,iv=.int .i64 (s:Nat)/\s<=a3/\a3<=s+gg/\MTab wx w12.heap.size v6 s (N' - 1) (fun i j=>W3 i (skipN a j))/\Below w12.heap.size w12 wx)
    case atStart=>exact ⟨0,rfl,by omega,by omega,MTab.nil _ _ _ _,Below.refl _ _⟩
    case round =>
     obtain ⟨s,rfl,hi,hig,hM,hB⟩:=hrel
     have hi0:(0:Int)<=(s:Int):=by omega
     obtain ⟨SB,sb,hsv⟩:=hM.shape
     subst hsv
     have HM:=hid hM
     have HB:=hid hB
     have rf9:=hkeep9.out _ hB
     have q4:wr.cell? ⟨g9,4,none⟩=some (.slice LB a3 lb):=rf9.cell (i:=4) (by omega)
     clear hM rf9
     by_cases hlt:s<a3
     ·have hlt':(s:Int)<(a3:Int):=by omega
      obtain ⟨ub,uo,RA,rc,rfl,htb,t0w,h1,h2,hrow0,_⟩:=HR3.out s hlt
      have HT0:=hid t0w
      have t0:=cellS hB t0w
      have hrow:=hrow0.on hB
      clear hrow0 t0w
      obtain ⟨rb,ro,rfl,_,_⟩:=hrow.at haN
      have HROW:=hid hrow
      have h1:N'<=rc:=h1
      have hac:(a:Int)<=(rc:Int):=by clear h2; omega
      clear h2
      obtain ⟨y4,hw4⟩:∃ X,X=wr:=⟨_,rfl⟩
      subst hw4
      clear hrow hB
      go_wp2
      refine wp_region_held_drew (S:=fun w'=>w'.cell? ⟨g9,4,none⟩=some (.slice (some ⟨ub,uo,none⟩) a3 lb)/\w'.cell? ⟨ub,uo+s,none⟩=some (.slice (some ⟨rb,ro,none⟩) N' rc)) (by kernel_rfl) ⟨cellS (Below.refl _ _).drew q4,cellS (Below.refl _ _).drew t0⟩ (fun hHeld=>?_)
      obtain ⟨y5,hw⟩:∃ W,W=World.drew y4:=⟨_,rfl⟩
      have kb:Below y4.heap.size y4 y5:=by rw [hw]; exact (Below.refl _ _).drew
      rw [<-hw] at hHeld ⊢
      clear hw
      refine tkq 0 (h:=tkq 2 (h:=tkq 3 (h:=tkq 4 (h:=tkq 5 (h:=tkq 6 (h:=tkq 7 (h:=?_)))))))
      refine tkq 8 (h:=?_)
      refine tkq 10 (h:=tkq 11 (h:=tkq 12 (h:=tkq 13 (h:=tkq 14 (h:=tkq 15 (h:=tkq 16 (h:=?_)))))))
      refine tkq 17 (h:=?_)
      obtain ⟨A2,hA2⟩:∃ x:Option Addr,x=if rc=a1 then some ⟨rb,ro,none⟩ else some ⟨rb,ro+a1,none⟩:=⟨_,rfl⟩
      rw [<-hA2]
      have HA2:=hid hA2
      clear hA2
      have HM5:=hid (HM.out.on kb)
      have HB5:=hid (onS HB.out kb)
      have HROW5:=hid (HROW.out.on kb)
      have q4':=cellS kb q4
      have t0':=cellS kb t0
      clear kb q4 t0 HM HB HROW
      refine rdq 1 (h:=fun K hK=>?_)
      go_simp
      obtain ⟨y6,hw⟩:∃ W,W=World.alloc y5 (Obj.cells #[] 3):=⟨_,rfl⟩
      have kb:Below y5.heap.size y5 y6:=by rw [hw]; exact (Below.refl _ _).alloc (Nat.le_refl _) _
      have HN:Hid (Own y6 y5.heap.size 3 1 (.slice (some ⟨y5.heap.size,0,none⟩) 0 0) 0 (fun j _=>.int .i64 (W3 s (skipN a j):Nat))):=by rw [hw]; exact Own.new (Nat.le_refl _) (Nat.le_refl _) (by unfold maxLen; omega) (by simp) (fun k hk=>absurd hk (by omega))
      rw [<-hw]
      clear hw
      refine bkq hK ⟨cellS kb q4',cellS kb t0'⟩ (h:=fun hHeld=>?_)
      clear hK K hHeld
      have HS1:Hid (IntsR y6 y6.heap.size (some ⟨rb,ro,none⟩) a (fun j=>(W3 s (skipN a (0+j)):Nat))):=(ints_pre (HROW5.out.on kb) (Nat.le_of_lt haN)).congr fun j hj=>by rw [Nat.zero_add,show skipN a j=j by unfold skipN; rw [if_pos hj]]
      refine rdq 9 (h:=fun K hK=>?_)
      refine step_append_ints rfl (.tmp 106) (.tmp 113) rfl HN.out rfl (A:=some ⟨rb,ro,none⟩) (c:=rc) (m:=a) rfl HS1.out kb.size (by omega) ?_
      intro v7 y7 o1 o2 o3
      have kb7:=kb.grown o2 kb.size (fun q e=>Nat.le_of_eq (Option.some.inj e))
      have HO7:=hid o1
      obtain ⟨XA,xc,hv7⟩:=o1.shape
      subst hv7
      refine bkq hK ⟨cellS kb7 q4',cellS kb7 t0'⟩ (h:=fun hHeld=>?_)
      clear hK K hHeld o1 o2 o3 kb HN HS1
      have HS2:Hid (IntsR y7 y7.heap.size A2 (N' - a1) (fun j=>(W3 s (skipN a (0+a+j)):Nat))):=by
       show IntsR _ _ _ _ _
       rw [HA2.out]
       exact (ints_suf_if (HROW5.out.on kb7) ha1N h1).congr fun j hj=>by rw [show skipN a (0+a+j)=a1+j by unfold skipN; rw [if_neg (by omega),HA1.out]; omega]
      refine rdq 18 (h:=fun K hK=>?_)
      refine step_append_ints rfl (.tmp 114) (.tmp 122) rfl HO7.out rfl (A:=A2) (c:=rc - a1) (m:=N' - a1) rfl HS2.out kb7.size (by omega) ?_
      intro v8 y8 o1 o2 o3
      have kb8:=kb7.grown o2 kb7.size (fun q e=>(HO7.out.lt _ e).1)
      rw [show 0+a+(N' - a1)=N' - 1 by rw [HA1.out]; omega] at o1
      have HO8:=hid o1
      obtain ⟨YA,yc,hv8⟩:=o1.shape
      subst hv8
      refine bkq hK ⟨cellS kb8 q4',cellS kb8 t0'⟩ (h:=fun hHeld=>?_)
      clear hK K hHeld o1 o2 o3 kb7 HO7 HS2
      refine rdq 19 (h:=fun K hK=>?_)
      go_simp
      obtain ⟨y9,hw⟩:∃ W,W=World.alloc y8 (Obj.cells #[.slice YA (N' - 1) yc] 22):=⟨_,rfl⟩
      have kb:Below y8.heap.size y8 y9:=by rw [hw]; exact (Below.refl _ _).alloc (Nat.le_refl _) _
      have HC9:Hid (y9.cell? ((⟨y8.heap.size,0,none⟩:Addr).add 0)=some (.slice YA (N' - 1) yc)):=by rw [hw]; exact tbox2
      rw [<-hw]
      clear hw
      have kb9:=onS kb8 kb
      have HO9:=hid ((HO8.out.on kb).mono (show w12.heap.size<=y5.heap.size from HB5.out.size))
      refine bkq hK ⟨cellS kb9 q4',cellS kb9 t0'⟩ (h:=fun hHeld=>?_)
      clear hK K hHeld kb kb8 HO8
      have HM9:=hid (HM5.out.on kb9)
      have HB9:=hid (onS HB5.out kb9)
      refine rdq 20 (h:=fun K hK=>?_)
      refine step_append_mrow rfl (.tmp 105) (.tmp 124) rfl HM9.out rfl (ad:=⟨y8.heap.size,0,none⟩) (c:=1) rfl HC9.out rfl HO9.out HB9.out.size (by have:=HN3.out; omega) ?_
      intro v10 y10 o1 o2 o3
      have HB10:=hid (HB9.out.grown o2 HB9.out.size o3)
      have HM10:=hid (o1.congr (W':=fun s j=>W3 s (skipN a j)) fun u hu j _=>by
       by_cases e:u=s
       ·subst e; rw [if_pos rfl]
       ·rw [if_neg e])
      have rf10:=hkeep9.out _ HB10.out
      have t10:=cellS HB10.out HT0.out
      obtain ⟨ZA,zc,hv10⟩:=HM10.out.shape
      subst hv10
      refine bkq hK ⟨rf10.cell (i:=4) (by omega),t10⟩ (h:=fun hHeld=>?_)
      clear hK K o1 o2 o3
      refine tkq 21 (h:=?_)
      refine wpAnyH_done (by kernel_rfl) ?_ _
      clear hHeld rf10 t10
      go_wp2
      go_roundg (gk - 1)
      case measure=>omega
      case rel=>exact ⟨s+1,by go_num,by omega,by omega,HM10.out,HB10.out⟩
     ·have hsa:s=a3:=by omega
      subst hsa
      obtain ⟨w13,hw13⟩:∃ X,X=wr:=⟨_,rfl⟩
      subst hw13
      have hlt':¬ (s:Int)<(s:Int):=by omega
      have HB13:=hid (onS HB12.out HB.out)
      have HML:=hid (HMS12.out.on HB.out)
      have rf:=hkeep.out _ HB13.out
      have p0:w13.cell? ⟨w.heap.size,0,none⟩=some (.int .i64 (P':Nat)):=rf.cell (i:=0) (by omega)
      have p1:w13.cell? ⟨w.heap.size,1,none⟩=some (.int .i64 (M':Nat)):=rf.cell (i:=1) (by omega)
      have p2:w13.cell? ⟨w.heap.size,2,none⟩=some (.slice A k c):=rf.cell (i:=2) (by omega)
      have p3:w13.cell? ⟨w.heap.size,3,none⟩=some (.int .i64 (N':Nat)):=rf.cell (i:=3) (by omega)
      have p4:w13.cell? ⟨w.heap.size,4,none⟩=some (.slice T i d):=rf.cell (i:=4) (by omega)
      go_upto_region 16 with fail
      have rz:World.rowIs (World.alloc w13 (Obj.cells (madeCells #[Value.int .i64 0] N') 3)) w13.heap.size 3 N' (fun _=>.int .i64 0):=World.rowIs_made _ (.int .i64 0) N' 3
      have kb:Below w13.heap.size w13 (World.alloc w13 (Obj.cells (madeCells #[Value.int .i64 0] N') 3)):=(Below.refl _ _).alloc (Nat.le_refl _) _
      obtain ⟨w14,hw14⟩:∃ W,W=World.alloc w13 (Obj.cells (madeCells #[Value.int .i64 0] N') 3):=⟨_,rfl⟩
      rw [<-hw14] at rz kb ⊢
      clear hw14
      obtain ⟨gw,hgw⟩:∃ g,g=w13.heap.size:=⟨_,rfl⟩
      have hgwB:w13.heap.size<=gw:=Nat.le_of_eq hgw.symm
      rw [<-hgw] at rz ⊢
      clear hgw
      have z0:w14.cell? ⟨gw,a,none⟩=some (.int .i64 0):=rz.cell haN
      have z1:w14.frozen? ⟨gw,a,none⟩=false:=rz.frozen a
      go_upto_region 17 with fail
      obtain ⟨w15,hw15⟩:∃ W,W=World.setCell w14 ⟨gw,a,none⟩ (.int .i64 (1:Nat)):=⟨_,rfl⟩
      have hr15:w15.rowIs gw 3 N' (fun j=>.int .i64 ((if j=a then 1 else 0:Nat):Int)):=by
       rw [hw15]
       refine (rz.set a _).congr fun j _=>?_
       show (if j=a then Value.int .i64 (1:Nat) else .int .i64 0)=.int .i64 ((if j=a then 1 else 0:Nat):Int)
       split <;> rfl
      have kb15:Below w13.heap.size w13 w15:=by rw [hw15]; exact kb.setCell (p:=⟨gw,a,none⟩) hgwB _
      first | rw [<-hw15] | (rw [Int.natCast_one] at hw15; rw [<-hw15])
      clear hw15 z0 z1 rz kb rf p0 p1 p2 p3 p4
      have HB15:=hid (onS HB13.out kb15)
      have HML15:=hid (HML.out.on kb15)
      have HMZ15:=hid (HM.out.on kb15)
      have HU:=hid (rowInts hr15)
      have HC15:=hid ((HC.out.on HB2.out).on HB15.out)
      have rf:=hkeep.out _ HB15.out
      have p0:w15.cell? ⟨w.heap.size,0,none⟩=some (.int .i64 (P':Nat)):=rf.cell (i:=0) (by omega)
      have p1:w15.cell? ⟨w.heap.size,1,none⟩=some (.int .i64 (M':Nat)):=rf.cell (i:=1) (by omega)
      have p2:w15.cell? ⟨w.heap.size,2,none⟩=some (.slice A k c):=rf.cell (i:=2) (by omega)
      have p3:w15.cell? ⟨w.heap.size,3,none⟩=some (.int .i64 (N':Nat)):=rf.cell (i:=3) (by omega)
      have p4:w15.cell? ⟨w.heap.size,4,none⟩=some (.slice T i d):=rf.cell (i:=4) (by omega)
      clear hr15 kb15 HML HM HB13
      go_wp2_with fail
      refine (has12_any P' M' m A k c N' T i d V' (some ⟨gw,0,none⟩) N' N' (fun j=>((if j=a then 1 else 0:Nat):Int)) w15 HC15.out HU.out (by omega)).mono ?_
      rintro e w16 ⟨kb,b,v,rfl,hv,hin,hno⟩
      have hv0:v=0:=FirstErr.zero_all (fun x hx=>by
       simp only [WordErrs,List.mem_cons,List.not_mem_nil,or_false] at hx
       rcases hx with rfl | rfl
       ·first | trivial | exact (rfl:N'=N')
       ·have h2q:=(fieldLaws HC.out.fld).two
        intro j hj
        show 0<=((if j=a then 1 else 0:Nat):Int)/\((if j=a then 1 else 0:Nat):Int)<((P' ^ M':Nat):Int)
        split <;> omega) hv
      subst hv0
      have hbu:=hin rfl
      simp only [Int.toNat_natCast] at hbu
      have HBU:=hid hbu
      clear hv hin hno hbu HU HC15
      have HB16:=hid (onS HB15.out kb)
      have HML16:=hid (HML15.out.on kb)
      have HMZ16:=hid (HMZ15.out.on kb)
      have HC16:=hid ((HC.out.on HB2.out).on HB16.out)
      replace rf:=zaa rf kb
      clear p0 p1 p2 p3 p4 kb HB15 HML15 HMZ15
      have p0:w16.cell? ⟨w.heap.size,0,none⟩=some (.int .i64 (P':Nat)):=rf.cell (i:=0) (by omega)
      have p1:w16.cell? ⟨w.heap.size,1,none⟩=some (.int .i64 (M':Nat)):=rf.cell (i:=1) (by omega)
      have p2:w16.cell? ⟨w.heap.size,2,none⟩=some (.slice A k c):=rf.cell (i:=2) (by omega)
      have p3:w16.cell? ⟨w.heap.size,3,none⟩=some (.int .i64 (N':Nat)):=rf.cell (i:=3) (by omega)
      have p4:w16.cell? ⟨w.heap.size,4,none⟩=some (.slice T i d):=rf.cell (i:=4) (by omega)
      go_wp2_with fail
      refine (recover_code P' M' m A k c N' T i d V' w16 HC16.out (by omega)).mono ?_
      rintro e w17 ⟨na,pa,Aa,ca,hra,rfl,hla,kb⟩
      have HRA:=hid hra
      have HLA:=hid hla
      have HB17:=hid (onS HB16.out kb)
      have HML17:=hid (HML16.out.on kb)
      have HMZ17:=hid (HMZ16.out.on kb)
      have HC17:=hid (HC16.out.on kb)
      replace rf:=zaa rf kb
      clear p0 p1 p2 p3 p4 kb HB16 HML16 HMZ16 hra hla HC16
      have p0:w17.cell? ⟨w.heap.size,0,none⟩=some (.int .i64 (P':Nat)):=rf.cell (i:=0) (by omega)
      have p1:w17.cell? ⟨w.heap.size,1,none⟩=some (.int .i64 (M':Nat)):=rf.cell (i:=1) (by omega)
      have p2:w17.cell? ⟨w.heap.size,2,none⟩=some (.slice A k c):=rf.cell (i:=2) (by omega)
      have p3:w17.cell? ⟨w.heap.size,3,none⟩=some (.int .i64 (N':Nat)):=rf.cell (i:=3) (by omega)
      have p4:w17.cell? ⟨w.heap.size,4,none⟩=some (.slice T i d):=rf.cell (i:=4) (by omega)
      have hN1:IntKind.i64.wrap ((N':Int) - 1)=((N' - 1:Nat):Int):=by rw [IntWalk.i64_in _ (by clear HBU; omega)]; omega
      have HLTZ:Hid (∀ u,u<s->∀ j,j<N' - 1->(fun u j=>W3 u (skipN a j)) u j<P' ^ M'):=hid fun u hu j hj=>HLT3.out u hu _ (skipN_lt hj)
      have HLTL:Hid (∀ u,u<i->∀ j,j<N' - 1->(fun u j=>V' u (skipN a j)) u j<P' ^ M'):=hid fun u hu j hj=>HC.out.lt u hu _ (skipN_lt hj)
      have HRZ:=hid (HMZ17.out.rd hq256 HLTZ.out)
      go_wp2_with fail
      refine (make_any P' M' m A k c SB s sb (N' - 1) (fun u j=>W3 u (skipN a j)) w17 HC17.out.fld HC17.out.mod HC17.out.km HC17.out.ints hk8 HRZ.out HLTZ.out (by omega) (by omega) (by have:=HN3.out; omega)).mono ?_
      rintro e w18 hmk2
      obtain ⟨A3,c3,T3,nz,d3,Uz,rfl,hCz,hsz,kb⟩:=make_code hmk2 HC.out.fld HC.out.kM (by omega) (by omega) HLTZ.out
      have HCZ:=hid hCz
      have HSZ:=hid hsz
      have HB18:=hid (onS HB17.out kb)
      have HML18:=hid (HML17.out.on kb)
      have HC18:=hid (HC17.out.on kb)
      replace HLA:=hid (HLA.out.on kb)
      replace rf:=zaa rf kb
      clear p0 p1 p2 p3 p4 kb HB17 HML17 HMZ17 HC17 HRZ HLTZ hmk2 hCz hsz
      go_wp2_with fail
      refine (recover_code P' M' m A3 k c3 (N' - 1) T3 nz d3 Uz w18 HCZ.out (by omega)).mono ?_
      rintro e w19 ⟨mb,pb,Ab,cb,hrb,rfl,hlb,kb⟩
      have HRB:=hid hrb
      have HLB:=hid hlb
      have HRZ:=hid HCZ.out.rref
      have HB19:=hid (onS HB18.out kb)
      have HML19:=hid (HML18.out.on kb)
      have HC19:=hid (HC18.out.on kb)
      replace HLA:=hid (HLA.out.on kb)
      replace rf:=zaa rf kb
      clear kb HB18 HML18 HC18 hrb hlb HCZ
      have p0:w19.cell? ⟨w.heap.size,0,none⟩=some (.int .i64 (P':Nat)):=rf.cell (i:=0) (by omega)
      have p1:w19.cell? ⟨w.heap.size,1,none⟩=some (.int .i64 (M':Nat)):=rf.cell (i:=1) (by omega)
      have p2:w19.cell? ⟨w.heap.size,2,none⟩=some (.slice A k c):=rf.cell (i:=2) (by omega)
      have p3:w19.cell? ⟨w.heap.size,3,none⟩=some (.int .i64 (N':Nat)):=rf.cell (i:=3) (by omega)
      have p4:w19.cell? ⟨w.heap.size,4,none⟩=some (.slice T i d):=rf.cell (i:=4) (by omega)
      have HRL:=hid (HML19.out.rd hq256 HLTL.out)
      go_wp2_with fail
      refine (make_any P' M' m A k c SA i sc (N' - 1) (fun u j=>V' u (skipN a j)) w19 HC19.out.fld HC19.out.mod HC19.out.km HC19.out.ints hk8 HRL.out HLTL.out (by omega) (by omega) (by omega)).mono ?_
      rintro e w20 hmk2
      obtain ⟨A4,c4,T4,nl,d4,Ul,rfl,hCl,hsl,kb⟩:=make_code hmk2 HC.out.fld HC.out.kM (by omega) (by omega) HLTL.out
      have HCL:=hid hCl
      have HSL:=hid hsl
      replace HLA:=hid (HLA.out.on kb)
      replace HLB:=hid (HLB.out.on kb)
      have HB20:=hid (onS HB19.out kb)
      clear p0 p1 p2 p3 p4 kb rf HB19 HML19 HC19 HRL HLTL hmk2 hCl hsl
      go_wp2_with fail
      refine (recover_code P' M' m A4 k c4 (N' - 1) T4 nl d4 Ul w20 HCL.out (by omega)).mono ?_
      rintro e w21 ⟨md,pd,Ad,cd,hrd,rfl,hld,kb⟩
      have HRD:=hid hrd
      have HLD:=hid hld
      have HRLr:=hid HCL.out.rref
      replace HLA:=hid (HLA.out.on kb)
      replace HLB:=hid (HLB.out.on kb)
      have HB21:=hid (onS HB20.out kb)
      clear kb HB20 hrd hld HCL
      obtain ⟨⟨hmb,hna,hmb2,hmd2⟩,hsa,hsb,hsd,hca,HVAL⟩:=con_join HC.out.fld haN hN9 HC.out.rref HREL.out HC1.out.rref HS1.out HREL3.out HRZ.out HRLr.out HSZ.out HSL.out HBU.out HRA.out HRB.out HRD.out
      have hmb':((mb:Int) == 0)=false:=by
       have h0:¬ (mb:Int)=0:=by omega
       simpa using h0
      clear HBU HREL HREL3 HS1 HSZ HSL HRA HRB HRD HRZ HRLr HC1 HLT HLT3 HR3 HRF9 hkeep9 HMS12 HB12 HN3 hsN hmb
      obtain ⟨r1,hr1⟩:∃ y:Rat,y=((1:Int):Rat):=⟨_,rfl⟩
      obtain ⟨r2,hr2⟩:∃ y:Rat,y=((-1:Int):Rat):=⟨_,rfl⟩
      obtain ⟨r0,hr0⟩:∃ y:Rat,y=((0:Int):Rat):=⟨_,rfl⟩
      have i1:∀ w,_:=fun w=>zbi 1 w (by omega) (by omega)
      have i2:∀ w,_:=fun w=>zbi (-1) w (by omega) (by omega)
      have i0:∀ w,_:=fun w=>zbi 0 w (by omega) (by omega)
      rw [<-hr1] at i1
      rw [<-hr2] at i2
      rw [<-hr0] at i0
      have s1:rsz r1 7000:=by rw [hr1]; exact (rsz_int (z:=1) (by decide)).mono (by omega)
      have s2:rsz r2 7000:=by rw [hr2]; exact (rsz_int (z := -1) (by decide)).mono (by omega)
      have s0:rsz r0 7000:=by rw [hr0]; exact (rsz_int (z:=0) (by decide)).mono (by omega)
      have HI1:=hid i1
      have HI2:=hid i2
      have HI0:=hid i0
      have HR1:=hid hr1
      have HR2:=hid hr2
      have HR0:=hid hr0
      clear i1 i2 i0 hr1 hr2 hr0
      have hpf:Hid (∀ j,j<2->rsz (pairR r1 r2 j) 7000):=hid fun j _=>by unfold pairR; split <;> assumption
      have hpg:Hid (∀ j,j<2->rsz (pairR r0 r1 j) 7000):=hid fun j _=>by unfold pairR; split <;> assumption
      go_wp2_with fail
      refine (HI1.out w21).mono ?_
      rintro e w22 ⟨A5a,c5a,B5a,e5a,rfl,n1,n2,n3,n4,n5,n6,kb⟩
      replace HLA:=hid (HLA.out.on kb)
      replace HLB:=hid (HLB.out.on kb)
      replace HLD:=hid (HLD.out.on kb)
      have HB22:=hid (onS HB21.out kb)
      clear kb HB21
      go_wp2_with fail
      refine (HI2.out w22).mono ?_
      rintro e w23 ⟨A6a,c6a,B6a,e6a,rfl,m1,m2,m3,m4,m5,m6,kb⟩
      replace HLA:=hid (HLA.out.on kb)
      replace HLB:=hid (HLB.out.on kb)
      replace HLD:=hid (HLD.out.on kb)
      replace n1:=n1.on kb
      replace n2:=n2.on kb
      have HB23:=hid (onS HB22.out kb)
      clear kb HB22
      go_wp2_with fail
      obtain ⟨w24,hw⟩:∃ W,W=World.alloc w23 (.cells #[.bool (rneg r1),.slice A5a (dl r1.num.natAbs) c5a,.slice B5a (dl r1.den) e5a,.bool (rneg r2),.slice A6a (dl r2.num.natAbs) c6a,.slice B6a (dl r2.den) e6a] 49):=⟨_,rfl⟩
      have kb:Below w23.heap.size w23 w24:=by rw [hw]; exact zab _ _
      have tb1:RatTab w24 w24.heap.size (some ⟨w23.heap.size,0,none⟩) 2 (pairR r1 r2) 7000:=RatTab.letter hw (zaE 49 (zaH n1 n2 n3 n4 n5 n6 s1) (zaH m1 m2 m3 m4 m5 m6 s2))
      rw [<-hw]
      clear hw
      replace HLA:=hid (HLA.out.on kb)
      replace HLB:=hid (HLB.out.on kb)
      replace HLD:=hid (HLD.out.on kb)
      have HB24:=hid (onS HB23.out kb)
      clear kb HB23 n1 n2 n3 n4 n5 n6 m1 m2 m3 m4 m5 m6
      refine (refPMul_any (some ⟨w23.heap.size,0,none⟩) Ab 2 2 mb cb 7000 28002 (pairR r1 r2) pb w24 tb1 (HLB.out.tab hsb.out) (by omega) (by omega) (by omega) (by omega) hpf hsb).mono ?_
      rintro e w25 ⟨AMa,cMa,rfl,_,_,hMa,kb⟩
      clear tb1
      replace HLA:=hid (HLA.out.on kb)
      replace HLB:=hid (HLB.out.on kb)
      replace HLD:=hid (HLD.out.on kb)
      have HB25:=hid (onS HB24.out kb)
      clear kb HB24
      obtain ⟨l1,hl1⟩:∃ l,l=clen (mulP (pairR r1 r2) 2 pb mb) (2+mb):=⟨_,rfl⟩
      rw [<-hl1] at hMa ⊢
      have Hl1:=hid hl1
      have HMa:=hid hMa
      have hl1b:l1<=13:=by
       have:=zeM (mulP (pairR r1 r2) 2 pb mb) (2+mb)
       omega
      clear hl1 hMa
      obtain hb | hb:=Bool.eq_false_or_eq_true b
      focus
       subst hb
       have hcu:=con_unit (f:=pairR r1 r2) hca.out HR1.out HR2.out fun p=>by
        have h:=HVAL.out p
        rwa [if_pos rfl] at h
       rw [<-Hl1.out] at hcu
       obtain ⟨hl,hpa⟩:=hcu
       subst hl
       have HSUM:Hid (RatList w25 w25.heap.size AMa na pa):=hid (HMa.out.congr fun j hj=>(hpa j hj).symm)
       clear hpa Hl1 HVAL
       go_wp2_with fail
       refine (lawSame_any Aa AMa na ca cMa 7000 pa w25 HLA.out HSUM.out (by omega) (by omega) hsa).mono ?_
       rintro e w26 ⟨rfl,kb⟩
       have hBe:=onS HB2.out (onS HB25.out kb)
       clear kb
       go_wp2
       go_ret
       exact ⟨rfl,hBe⟩
      rotate_left
      focus
       subst hb
       go_wp2_with fail
       refine (HI0.out w25).mono ?_
       rintro e w26 ⟨A5b,c5b,B5b,e5b,rfl,n1,n2,n3,n4,n5,n6,kb⟩
       replace HLA:=hid (HLA.out.on kb)
       replace HLD:=hid (HLD.out.on kb)
       replace HMa:=hid (HMa.out.on kb)
       have HB26:=hid (onS HB25.out kb)
       clear kb HB25
       go_wp2_with fail
       refine (HI1.out w26).mono ?_
       rintro e w27 ⟨A6b,c6b,B6b,e6b,rfl,m1,m2,m3,m4,m5,m6,kb⟩
       replace HLA:=hid (HLA.out.on kb)
       replace HLD:=hid (HLD.out.on kb)
       replace HMa:=hid (HMa.out.on kb)
       replace n1:=n1.on kb
       replace n2:=n2.on kb
       have HB27:=hid (onS HB26.out kb)
       clear kb HB26
       go_wp2_with fail
       obtain ⟨w28,hw⟩:∃ W,W=World.alloc w27 (.cells #[.bool (rneg r0),.slice A5b (dl r0.num.natAbs) c5b,.slice B5b (dl r0.den) e5b,.bool (rneg r1),.slice A6b (dl r1.num.natAbs) c6b,.slice B6b (dl r1.den) e6b] 49):=⟨_,rfl⟩
       have kb:Below w27.heap.size w27 w28:=by rw [hw]; exact zab _ _
       have tb1:RatTab w28 w28.heap.size (some ⟨w27.heap.size,0,none⟩) 2 (pairR r0 r1) 7000:=RatTab.letter hw (zaE 49 (zaH n1 n2 n3 n4 n5 n6 s0) (zaH m1 m2 m3 m4 m5 m6 s1))
       rw [<-hw]
       clear hw
       replace HLA:=hid (HLA.out.on kb)
       replace HLD:=hid (HLD.out.on kb)
       replace HMa:=hid (HMa.out.on kb)
       have HB28:=hid (onS HB27.out kb)
       clear kb HB27 n1 n2 n3 n4 n5 n6 m1 m2 m3 m4 m5 m6
       refine (refPMul_any (some ⟨w27.heap.size,0,none⟩) Ad 2 2 md cd 7000 28002 (pairR r0 r1) pd w28 tb1 (HLD.out.tab hsd.out) (by omega) (by omega) (by omega) (by omega) hpg hsd).mono ?_
       rintro e w29 ⟨AMb,cMb,rfl,_,_,hMb,kb⟩
       clear tb1
       replace HLA:=hid (HLA.out.on kb)
       replace HLD:=hid (HLD.out.on kb)
       replace HMa:=hid (HMa.out.on kb)
       have HB29:=hid (onS HB28.out kb)
       clear kb HB28
       obtain ⟨l2,hl2⟩:∃ l,l=clen (mulP (pairR r0 r1) 2 pd md) (2+md):=⟨_,rfl⟩
       rw [<-hl2] at hMb ⊢
       have Hl2:=hid hl2
       have HMb:=hid hMb
       have hl2b:l2<=13:=by
        have:=zeM (mulP (pairR r0 r1) 2 pd md) (2+md)
        omega
       clear hl2 hMb
       have hma:∀ j,j<l1->rsz (mulP (pairR r1 r2) 2 pb mb j) 30000:=fun j _=>mulP_rsz hpf.out hsb.out j
       have hmb3:∀ j,j<l2->rsz (mulP (pairR r0 r1) 2 pd md j) 30000:=fun j _=>mulP_rsz hpg.out hsd.out j
       go_wp2_with fail
       refine (refPAdd_any AMa AMb l1 cMa l2 cMb 30000 (mulP (pairR r1 r2) 2 pb mb) (mulP (pairR r0 r1) 2 pd md) w29 (HMa.out.tab hma) (HMb.out.tab hmb3) (by omega) (by omega) (by omega) (hid hma) (hid hmb3)).mono ?_
       rintro e w30 ⟨AS,cS,rfl,_,_,hS,kb⟩
       replace HLA:=hid (HLA.out.on kb)
       have HB30:=hid (onS HB29.out kb)
       clear kb HB29
       have hcm:=con_more (f:=pairR r1 r2) (g:=pairR r0 r1) hca.out HR1.out HR2.out HR0.out HR1.out Hl1.out Hl2.out fun p=>by
        have h:=HVAL.out p
        rwa [if_neg (by decide)] at h
       obtain ⟨hl,hpa⟩:=hcm
       rw [<-hl] at hS ⊢
       have HSUM:Hid (RatList w30 w30.heap.size AS na pa):=hid (hS.congr fun j hj=>(hpa j hj).symm)
       clear hpa Hl1 Hl2 HVAL hS hl hma hmb3
       go_wp2_with fail
       refine (lawSame_any Aa AS na ca cS 7000 pa w30 HLA.out HSUM.out (by omega) (by omega) hsa).mono ?_
       rintro e w31 ⟨rfl,kb⟩
       have hBe:=onS HB2.out (onS HB30.out kb)
       clear kb
       go_wp2
       go_ret
       exact ⟨rfl,hBe⟩
      rotate_left
theorem channelContracts_law {H:Type} {enc:TypeId × Value->H} {w:World} {cs:Array Value} {t:Int}
  (h:Sees enc Tryz.prog w 0 (fun _=>true) true 27 cs.toList) (_h2:(Lit.int .i64 t).wf=true) :
  Calls Tryz.prog 4 #[.agg cs,.int .i64 t] w fun e w'=>e=.returned (.bool true)/\Below w.heap.size w w':=by
 obtain ⟨cs⟩:=cs
 obtain ⟨P,M,A,k,c1,N,T1,n,d,f,ln,V,rfl,_,_,hkc,_,_,_,hr,ht⟩:=zie h
 exact channelContracts_any P M A k c1 f N T1 n d ln V t w hr ht
end Go.Proofs.YtioagplajkoohaaGreat