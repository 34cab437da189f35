/- Merged texts of a claim: Own, Copy, NatLow, NatLo2, FldQ, Gf1. -/
import Derived.Test.YtgekjfpapmlndaaGreatTY1
import Derived.Deep.AppendSrc
import Derived.Maps.AppendAt
import Derived.Deep.LoopGhost
import Derived.IntWalk
import Derived.Deep.DeepCutAuto
import Derived.Test.YtgekjfpapmlndaaGreatRows
import Derived.WalkKit
import Derived.Laws.Bits64b
import Derived.Shelf.Small.Bits
import Derived.Deep.QuietTactic
import Derived.BigQuiet
namespace Go.Proofs.YtgekjfpapmlndaaGreat
set_option maxRecDepth 100000
set_option maxHeartbeats 32000000
open KB KE
open Go.RowKit
def Own (w:World) (base:Nat) (e:TypeId) (s:Nat) (v:Value) (n:Nat) (f:Nat->Nat->Value):Prop :=
 (v=.slice none 0 0/\n=0) ∨
 ∃ g o cap cur,v=.slice (some ⟨g,o,none⟩) n cap/\base<=g/\w.heap[g]?=some (.cells cur e (0,0))/\n<=cap/\cap<=maxLen/\o+cap*s<=cur.size/\∀ i,i<n->∀ j,j<s->cur[o+i*s+j]?=some (f i j)
section
variable {w w':World} {base e s n:Nat} {v:Value} {f f':Nat->Nat->Value}
theorem Own.nil (w:World) (base e s:Nat) (f:Nat->Nat->Value):Own w base e s (.slice none 0 0) 0 f:=.inl ⟨rfl,rfl⟩
theorem Own.congr (h:Own w base e s v n f) (hf:∀ i,i<n->∀ j,j<s->f i j=f' i j):Own w base e s v n f':=by
 rcases h with h | ⟨g,o,cap,cur,h1,h2,h3,h4,h5,h6,h7⟩
 ·exact .inl h
 ·exact .inr ⟨g,o,cap,cur,h1,h2,h3,h4,h5,h6,fun i hi j hj=>by rw [h7 i hi j hj,hf i hi j hj]⟩
theorem Own.mono {base':Nat} (h:Own w base e s v n f) (hb:base'<=base):Own w base' e s v n f:=by
 rcases h with h | ⟨g,o,cap,cur,h1,h2,h3⟩
 ·exact .inl h
 ·exact .inr ⟨g,o,cap,cur,h1,by omega,h3⟩
theorem Own.lt (h:Own w base e s v n f):∀ k,v.ownBlock=some k->base<=k/\k<w.heap.size:=by
 intro k hk
 rcases h with ⟨rfl,_⟩ | ⟨g,o,cap,cur,rfl,hb,hg,_⟩
 ·simp [Value.ownBlock] at hk
 simp [Value.ownBlock] at hk
 subst hk
 exact ⟨hb,(Array.getElem?_eq_some_iff.1 hg).1⟩
theorem Own.of_block (h:Own w base e s v n f) (hb:∀ k,v.ownBlock=some k->w'.heap[k]?=w.heap[k]?):Own w' base e s v n f:=by
 rcases h with h | ⟨g,o,cap,cur,rfl,h2,h3,h4⟩
 ·exact .inl h
 ·exact .inr ⟨g,o,cap,cur,rfl,h2,(hb g rfl).trans h3,h4⟩
theorem Own.kept {row:Option Nat} (h:Own w base e s v n f) (hg:w.grownBy w' row) (hne:v.ownBlock=none∨v.ownBlock≠row):Own w' base e s v n f :=
 h.of_block fun k hk=>hg.block k (h.lt k hk).2 (by rcases hne with h0 | h0 <;> rw [hk] at h0; cases h0; exact h0)
theorem Own.below {B:Nat} (h:Own w base e s v n f) (hb:Below B w w') (hB:∀ k,v.ownBlock=some k->k<B):Own w' base e s v n f:=h.of_block fun k hk=>hb.block k (hB k hk)
theorem Own.on (h:Own w base e s v n f) (hb:Below w.heap.size w w'):Own w' base e s v n f:=h.below hb fun k hk=>(h.lt k hk).2
theorem Own.alloc (h:Own w base e s v n f) (o:Obj):Own (w.alloc o) base e s v n f:=h.of_block fun k hk=>Below.heap_alloc w o k (h.lt k hk).2
theorem Own.drew (h:Own w base e s v n f):Own w.drew base e s v n f:=h
theorem Own.setCell (h:Own w base e s v n f) {a:Addr} (ha:v.ownBlock≠some a.block) (u:Value):Own (w.setCell a u) base e s v n f :=
 h.of_block fun k hk=>Below.heap_setCell w a u k (fun e=>ha (by rw [hk,e]))
theorem Own.shape (h:Own w base e s v n f):∃ A c,v=.slice A n c:=by
 rcases h with ⟨rfl,rfl⟩ | ⟨g,o,cap,cur,rfl,_⟩
 ·exact ⟨_,_,rfl⟩
 ·exact ⟨_,_,rfl⟩
theorem Own.form (h:Own w base e s v n f) (hn:0<n):∃ g o cap,v=.slice (some ⟨g,o,none⟩) n cap/\base<=g/\g<w.heap.size/\n<=cap/\cap<=maxLen/\∀ i,i<n->∀ j,j<s->w.cell? ⟨g,o+i*s+j,none⟩=some (f i j):=by
 rcases h with ⟨rfl,rfl⟩ | ⟨g,o,cap,cur,rfl,hb,hg,hc,hm,_,h7⟩
 ·omega
 ·exact ⟨g,o,cap,rfl,hb,(Array.getElem?_eq_some_iff.1 hg).1,hc,hm,fun i hi j hj=>by rw [cell_of_row w g _ cur e (0,0) hg]; exact h7 i hi j hj⟩
theorem Own.frozen {g o c:Nat} (h:Own w base e s (.slice (some ⟨g,o,none⟩) n c) n f) (k:Nat):w.frozen? ⟨g,k,none⟩=false:=by
 rcases h with ⟨h,_⟩ | ⟨g',o',cap,cur,h1,_,hg,_⟩
 ·cases h
 injection h1 with h1
 injection h1 with h1
 injection h1 with h1
 subst h1
 exact frozen_of_row w g k cur e hg
theorem Own.rd (h:Own w base e s v n f) {A:Option Addr} {c:Nat} (hv:v=.slice A n c):Rd w w.heap.size A n s f:=by
 intro i hi
 obtain ⟨g,o,cap,h1,_,a,_,_,hc⟩:=h.form (by omega)
 rw [hv] at h1
 injection h1 with h1
 exact ⟨g,o,h1,a,fun j hj=>hc i hi j hj⟩
end
theorem zbi {w:World} {g:Nat} {cur cs:Array Value} {e:TypeId} {fr:Nat × Nat} (h:w.heap[g]?=some (.cells cur e fr)):(w.setRow g cs).heap[g]?=some (.cells cs e fr):=by
 simp [World.setRow,Array.getElem?_modify,h]
theorem zcK {w:World} {g k:Nat} {cs:Array Value} (h:k≠g):(w.setRow g cs).heap[k]?=w.heap[k]?:=by
 simp only [World.setRow,Array.getElem?_modify]
 rw [if_neg (fun e=>h e.symm)]
theorem zcb (w:World) (g:Nat) (cs:Array Value):w.grownBy (w.setRow g cs) (some g) :=
 ⟨rfl,rfl,rfl,by simp,fun k _ hne=>zcK (fun e=>hne (by rw [e]))⟩
def elem (s:Nat) (u:Nat->Value):List Value:=(List.range s).map u
theorem zap (s:Nat) (u:Nat->Value):(elem s u).length=s:=by simp [elem]
theorem zdL {s:Nat} {u:Nat->Value} {j:Nat} (hj:j<s):(elem s u)[j]?=some (u j):=by simp [elem,hj]
def flat (s:Nat) (f:Nat->Nat->Value) (n:Nat):List Value:=(List.range (n*s)).map fun k=>f (k / s) (k % s)
theorem zau (s:Nat) (f:Nat->Nat->Value) (n:Nat):(flat s f n).length=n*s:=by simp [flat]
theorem zcY {s:Nat} (hs:0<s) {f:Nat->Nat->Value} {n i j:Nat} (hi:i<n) (hj:j<s):(flat s f n)[i*s+j]?=some (f i j):=by
 have a:i*s+j<n*s:=by
  have:(i+1)*s<=n*s:=Nat.mul_le_mul_right s hi
  rw [Nat.add_mul] at this; omega
 simp only [flat,List.getElem?_map]
 rw [List.getElem?_range a]
 simp only [Option.map_some]
 rw [show (i*s+j) / s=i by rw [Nat.mul_comm,Nat.mul_add_div hs,Nat.div_eq_of_lt hj,Nat.add_zero],show (i*s+j) % s=j by rw [Nat.mul_comm,Nat.mul_add_mod,Nat.mod_eq_of_lt hj]]
section
variable {P:Program} (w:World)
theorem zbm (t ty e:TypeId) (i:TypeInfo) (ht:P.underlying t=some (.slice e)) (hi:P.info? e=some i)
  (g o sLen sCap:Nat) (cur:Array Value) (hg:w.heap[g]?=some (.cells cur e (0,0)))
  (a:Addr) (c:Nat) (news:List Value) (hl:news.length=i.size) (hnews:∀ j u,news[j]?=some u->w.cell? (a.add j)=some u) (h1:∀ u ∈ news,u.oneCell'=true)
  (hroom:sLen+1<=sCap) (hfit:o+sLen*i.size+news.length<=cur.size) :
  (Builtin.append_ #[t,t] ty #[.slice (some ⟨g,o,none⟩) sLen sCap,.slice (some a) 1 c]).run P w =
   .ok (.slice (some ⟨g,o,none⟩) (sLen+1) sCap) (w.setRow g (cur.toList.take (o+sLen*i.size) ++ news ++ cur.toList.drop (o+sLen*i.size+news.length)).toArray):=by
 have hf:=run_firstCells_some (P:=P) w i.size 1 a 1 c news (by omega) hnews
 have b:=run_storeCells_at P g (o+sLen*i.size) e news 0 cur w hg (by simpa using hfit) h1
 simp only [Nat.add_zero] at b
 simp [Builtin.append_,run_underlying ht,sizeOf,typeInfo,hi,Builtin.lenOf,hroom,hf,Addr.add_lit,b]
theorem zbb (base:Nat) (t ty e:TypeId) (i:TypeInfo) (z:Value) (s bytes:Nat) (ht:P.underlying t=some (.slice e)) (hi:P.info? e=some i) (hz:i.zero=some z)
  (hsize:i.size=s) (hby:i.bytes=bytes) (hzs:z.cells.size=s) (hs:0<s)
  (v:Value) (n:Nat) (f:Nat->Nat->Value) (hown:Own w base e s v n f)
  (a:Addr) (c:Nat) (hnews:∀ j,j<s->w.cell? (a.add j)=some (f n j)) (h1:∀ j,j<s->(f n j).oneCell'=true)
  (h63:n+1<=maxLen) (hbytes:(n+1)*bytes<=140737488355328) (hbase:base<=w.heap.size) :
  ∃ v' w',(Builtin.append_ #[t,t] ty #[v,.slice (some a) 1 c]).run P w=.ok v' w'/\Own w' base e s v' (n+1) f/\w.grownBy w' v.ownBlock/\(v'.ownBlock=v.ownBlock∨v'.ownBlock=some w.heap.size)/\∃ g o cap,v'=.slice (some ⟨g,o,none⟩) (n+1) cap:=by
 subst hsize
 subst hby
 have r:n+1<=9223372036854775807:=by simp only [maxLen] at h63; omega
 have b:∀ j u,(elem i.size (f n))[j]?=some u->w.cell? (a.add j)=some u:=fun j u hu=>by
  have hj:j<i.size:=by have:=(List.getElem?_eq_some_iff.1 hu).1; rwa [zap] at this
  rw [zdL hj] at hu
  injection hu with hu
  subst hu
  exact hnews j hj
 have B:∀ u ∈ elem i.size (f n),u.oneCell'=true:=fun u hu=>by
  obtain ⟨j,hj,rfl⟩:=List.mem_map.1 hu
  exact h1 j (List.mem_range.1 hj)
 have q:=Src.ofSlice (P:=P) w (size:=i.size) (e':=e) ht a 1 c (elem i.size (f n)) (by rw [zap]; omega) b B
 have grown:∀ (A:Option Addr) (cap:Nat),cap<n+1->(Builtin.firstCells i.size n (.slice A n cap)).run P w.drew=.ok (flat i.size f n).toArray w.drew->∀ row:Option Nat,
   ∃ v' w',(Builtin.append_ #[t,t] ty #[.slice A n cap,.slice (some a) 1 c]).run P w=.ok v' w'/\Own w' base e i.size v' (n+1) f/\w.grownBy w' row/\v'.ownBlock=some w.heap.size/\∃ g o cap,v'=.slice (some ⟨g,o,none⟩) (n+1) cap:=by
  intro A cap d l row
  have h:=run_append_grow_src (P:=P) w t t ty e i z ht hi hz A n cap (flat i.size f n) l (.slice (some a) 1 c) 1 (elem i.size (f n)) q d (by omega) (growslice_fits d hbytes)
  refine ⟨_,_,h,.inr ⟨w.heap.size,0,_,_,rfl,hbase,heap_alloc_new w.drew _,grownCap_ge w (n+1) cap e,grownCap_le_maxLen w (n+1) cap e h63,?_,fun k hk j hj=>?_⟩,⟨rfl,rfl,rfl,by simp,fun k hk _=>Below.heap_alloc w.drew _ k hk⟩,rfl,_,_,_,rfl⟩
  ·have H:=grownCap_ge w (n+1) cap e
   have e1:(grownCap w (n+1) cap e - (n+1))*i.size+(n+1)*i.size=grownCap w (n+1) cap e*i.size:=by rw [<-Nat.add_mul]; congr 1; omega
   simp [zau,zap,size_zeroCells,hzs]
   rw [Nat.add_mul] at e1
   omega
  ·have D:k*i.size+j<(n+1)*i.size:=by
    have:(k+1)*i.size<=(n+1)*i.size:=Nat.mul_le_mul_right i.size (by omega)
    rw [Nat.add_mul] at this; omega
   have x:(flat i.size f n ++ elem i.size (f n)).length=(n+1)*i.size:=by rw [List.length_append,zau,zap,Nat.add_mul]; omega
   rw [Nat.zero_add,Array.getElem?_append_left (by simpa [x] using D)]
   rw [List.getElem?_toArray]
   by_cases hkn:k<n
   ·rw [List.getElem?_append_left (by
     rw [zau]
     have:(k+1)*i.size<=n*i.size:=Nat.mul_le_mul_right i.size hkn
     rw [Nat.add_mul] at this; omega)]
    exact zcY hs hkn hj
   ·obtain rfl:k=n:=by omega
    rw [List.getElem?_append_right (by rw [zau]; omega),zau,show k*i.size+j - k*i.size=j by omega]
    exact zdL hj
 rcases hown with ⟨rfl,rfl⟩ | ⟨g,o,cap,cur,rfl,hb,hg,G,F,E,m⟩
 ·obtain ⟨v',w',h2,h3,h4,h5,h6⟩:=grown none 0 (by omega) (by simp [Builtin.firstCells,flat]) (Value.ownBlock (.slice none 0 0))
  exact ⟨v',w',h2,h3,h4,.inr h5,h6⟩
 by_cases hroom:n+1<=cap
 ·have p:o+n*i.size+(elem i.size (f n)).length<=cur.size:=by
   rw [zap]
   have:(n+1)*i.size<=cap*i.size:=Nat.mul_le_mul_right i.size hroom
   rw [Nat.add_mul] at this; omega
  have h:=zbm (P:=P) w t ty e i ht hi g o n cap cur hg a c (elem i.size (f n)) (zap _ _) b B hroom p
  refine ⟨_,_,h,.inr ⟨g,o,cap,_,rfl,hb,zbi hg,hroom,F,?_,fun k hk j hj=>?_⟩,zcb w g _,.inl rfl,_,_,_,rfl⟩
  ·rw [zap] at p
   simp [zap]; omega
  rw [zap] at p
  have C:(cur.toList.take (o+n*i.size)).length=o+n*i.size:=by simp; omega
  rw [List.getElem?_toArray]
  by_cases hkn:k<n
  ·have:(k+1)*i.size<=n*i.size:=Nat.mul_le_mul_right i.size hkn
   rw [Nat.add_mul] at this
   rw [List.append_assoc,List.getElem?_append_left (by omega),List.getElem?_take,if_pos (by omega)]
   rw [Array.getElem?_toList]
   exact m k hkn j hj
  obtain rfl:k=n:=by omega
  rw [List.append_assoc,List.getElem?_append_right (by omega),C,show o+k*i.size+j - (o+k*i.size)=j by omega,List.getElem?_append_left (by rw [zap]; omega)]
  exact zdL hj
 have d:cap=n:=by omega
 subst d
 have l:(Builtin.firstCells i.size cap (.slice (some ⟨g,o,none⟩) cap cap)).run P w.drew=.ok (flat i.size f cap).toArray w.drew:=by
  refine run_firstCells_some (P:=P) w.drew i.size cap ⟨g,o,none⟩ cap cap (flat i.size f cap) (zau _ _ _) fun j u hu=>?_
  have hj:j<cap*i.size:=by have:=(List.getElem?_eq_some_iff.1 hu).1; rwa [zau] at this
  have e1:j / i.size<cap:=Nat.div_lt_of_lt_mul (by rw [Nat.mul_comm]; exact hj)
  have e2:j % i.size<i.size:=Nat.mod_lt _ hs
  have e3:j / i.size*i.size+j % i.size=j:=Nat.div_add_mod' j i.size
  have:=zcY (f:=f) hs e1 e2
  rw [e3,hu] at this
  injection this with this
  subst this
  have:=m _ e1 _ e2
  have y:(⟨g,o,none⟩:Addr).add j=⟨g,o+j,none⟩:=by unfold Addr.add; split <;> simp_all
  rw [y]
  show w.cell? ⟨g,o+j,none⟩=_
  rw [cell_of_row w g _ cur e (0,0) hg,<-this]
  congr 1; omega
 obtain ⟨v',w',h2,h3,h4,h5,h6⟩:=grown (some ⟨g,o,none⟩) cap (by omega) l (Value.ownBlock (.slice (some ⟨g,o,none⟩) cap cap))
 exact ⟨v',w',h2,h3,h4,.inr h5,h6⟩
theorem zah {ops:Array Oper} {rest:List Oper} {o:Oper} {a:Act} {Q:Exit->Act->World->Prop} (hgd:o.guard=none) (sl x:Operand) (t:TypeId)
  (ho:o.op=.call { callee:=.builtin .append,args:=#[sl,x],argTypes:=#[t,t] })
  (base:Nat) (e:TypeId) (i:TypeInfo) (z:Value) (s bytes:Nat) (ht:P.underlying t=some (.slice e)) (hi:P.info? e=some i) (hz:i.zero=some z)
  (hsize:i.size=s) (hby:i.bytes=bytes) (hzs:z.cells.size=s) (hs:0<s)
  (v:Value) (n:Nat) (f:Nat->Nat->Value) (hv:a.eval sl=v) (hown:Own w base e s v n f)
  (ad:Addr) (c:Nat) (hx:a.eval x=.slice (some ad) 1 c) (hnews:∀ j,j<s->w.cell? (ad.add j)=some (f n j)) (h1:∀ j,j<s->(f n j).oneCell'=true)
  (h63:n+1<=maxLen) (hbytes:(n+1)*bytes<=140737488355328) (hbase:base<=w.heap.size)
  (h:∀ v' w',Own w' base e s v' (n+1) f->w.grownBy w' v.ownBlock->(v'.ownBlock=v.ownBlock∨v'.ownBlock=some w.heap.size)->wpList P ops Q rest (a.put o.dst v') w'):wpList P ops Q (o :: rest) a w:=by
 refine wpList_plain hgd fun K hK=>?_
 obtain ⟨v',w',b,h2,h3,h4,_⟩:=zbb (P:=P) w base t o.type e i z s bytes ht hi hz hsize hby hzs hs v n f hown ad c hnews h1 h63 hbytes hbase
 unfold Oper.wp execOp
 simp only [ho,resolve,invoke,builtin,Sem.run_bind,Sem.run_pure,Result.andThen_ok,List.map_toArray,List.map_cons,List.map_nil,hv,hx,b]
 exact hK _ _ (h v' w' h2 h3 h4)
theorem zbX {ops:Array Oper} {o:Oper} {a:Act} {K:Act->World->Prop} {Q:Exit->Act->World->Prop} {E:Prop} (hgd:o.guard=none) (sl x:Operand) (t:TypeId)
  (ho:o.op=.call { callee:=.builtin .append,args:=#[sl,x],argTypes:=#[t,t] })
  (base:Nat) (e:TypeId) (i:TypeInfo) (z:Value) (s bytes:Nat) (ht:P.underlying t=some (.slice e)) (hi:P.info? e=some i) (hz:i.zero=some z)
  (hsize:i.size=s) (hby:i.bytes=bytes) (hzs:z.cells.size=s) (hs:0<s)
  (v:Value) (n:Nat) (f:Nat->Nat->Value) (hv:a.eval sl=v) (hown:Own w base e s v n f)
  (ad:Addr) (c:Nat) (hx:a.eval x=.slice (some ad) 1 c) (hnews:∀ j,j<s->w.cell? (ad.add j)=some (f n j)) (h1:∀ j,j<s->(f n j).oneCell'=true)
  (h63:n+1<=maxLen) (hbytes:(n+1)*bytes<=140737488355328) (hbase:base<=w.heap.size)
  (h:∀ v' w',Own w' base e s v' (n+1) f->w.grownBy w' v.ownBlock->(v'.ownBlock=v.ownBlock∨v'.ownBlock=some w.heap.size)->K (a.put o.dst v') w') :
  if Region.wanted o (yielded ops a.tmps)=true then Oper.wp P o a w K Q else E:=by
 have hw:Region.wanted o (yielded ops a.tmps)=true:=by simp [Region.wanted,hgd]
 rw [if_pos hw]
 obtain ⟨v',w',b,h2,h3,h4,_⟩:=zbb (P:=P) w base t o.type e i z s bytes ht hi hz hsize hby hzs hs v n f hown ad c hnews h1 h63 hbytes hbase
 unfold Oper.wp execOp
 simp only [ho,resolve,invoke,builtin,Sem.run_bind,Sem.run_pure,Result.andThen_ok,List.map_toArray,List.map_cons,List.map_nil,hv,hx,b]
 exact h v' w' h2 h3 h4
end
section
variable {P:Program} (w:World)
theorem zaR (t ty e:TypeId) (i:TypeInfo) (ht:P.underlying t=some (.slice e)) (hi:P.info? e=some i) (b0 o0:Nat) (A:Option Addr) (c:Nat) :
  (Builtin.append_ #[t,t] ty #[.slice (some ⟨b0,o0,none⟩) 0 0,.slice A 0 c]).run P w=.ok (.slice (some ⟨b0,o0,none⟩) 0 0) w:=by
 have hs:Src P i.size t (.slice A 0 c) 0 [] w:=by
  cases A with
  | none=>exact Src.ofNil w ht c
  | some a=>exact Src.ofSlice w (e':=e) ht a 0 c [] (by simp) (fun j u h=>by simp at h) (fun u h=>by cases h)
 have h:=run_append_room_src (P:=P) w t t ty e i ht hi b0 o0 0 0 (.slice A 0 c) 0 [] hs (Nat.le_refl _) (fun j hj=>by simp at hj) (fun j hj=>by simp at hj)
 rw [h]
 rfl
theorem zbj (t ty e:TypeId) (i:TypeInfo) (z:Value) (s bytes:Nat) (ht:P.underlying t=some (.slice e)) (hi:P.info? e=some i) (hz:i.zero=some z)
  (hsize:i.size=s) (hby:i.bytes=bytes) (hzs:z.cells.size=s) (hs:0<s) (A0:Option Addr)
  (A:Option Addr) (m c:Nat) (f:Nat->Nat->Value) (hsrc:Rd w w.heap.size A m s f) (hm:0<m) (h1:∀ k,k<m->∀ j,j<s->(f k j).oneCell'=true)
  (h63:m<=maxLen) (hbytes:m*bytes<=140737488355328) :
  ∃ cap cur,(Builtin.append_ #[t,t] ty #[.slice A0 0 0,.slice A m c]).run P w=.ok (.slice (some ⟨w.heap.size,0,none⟩) m cap) (w.drew.alloc (.cells cur e)) /\
   m<=cap/\cap<=maxLen/\cap*s<=cur.size/\∀ k,k<m->∀ j,j<s->cur[k*s+j]?=some (f k j):=by
 subst hsize
 subst hby
 obtain ⟨b,off,rfl,hb,_⟩:=hsrc 0 hm
 have d:∀ j u,(flat i.size f m)[j]?=some u->w.cell? ((⟨b,off,none⟩:Addr).add j)=some u:=fun j u hu=>by
  have hj:j<m*i.size:=by have:=(List.getElem?_eq_some_iff.1 hu).1; rwa [zau] at this
  have e1:j / i.size<m:=Nat.div_lt_of_lt_mul (by rw [Nat.mul_comm]; exact hj)
  have e2:j % i.size<i.size:=Nat.mod_lt _ hs
  have e3:j / i.size*i.size+j % i.size=j:=Nat.div_add_mod' j i.size
  have:=zcY (f:=f) hs e1 e2
  rw [e3,hu] at this
  injection this with this
  subst this
  obtain ⟨b',off',e',_,hc⟩:=hsrc _ e1
  injection e' with e'
  injection e' with e' e''
  subst e' e''
  have:=hc _ e2
  have h:(⟨b,off,none⟩:Addr).add j=⟨b,off+j,none⟩:=by unfold Addr.add; split <;> simp_all
  rw [h,<-this]
  congr 2; omega
 have l:=Src.ofSlice (P:=P) w (size:=i.size) (e':=e) ht ⟨b,off,none⟩ m c (flat i.size f m) (zau _ _ _) d (fun u hu=>by
  obtain ⟨j,hj,rfl⟩:=List.mem_map.1 hu
  rw [List.mem_range] at hj
  exact h1 _ (Nat.div_lt_of_lt_mul (by rw [Nat.mul_comm]; exact hj)) _ (Nat.mod_lt _ hs))
 have g:0+m<=9223372036854775807:=by simp only [maxLen] at h63; omega
 have a:=run_append_grow_src (P:=P) w t t ty e i z ht hi hz A0 0 0 [] (by cases A0 <;> simp [Builtin.firstCells,loadCells,loadCellsFrom]) (.slice (some ⟨b,off,none⟩) m c) m (flat i.size f m) l (by omega) (by omega) (growslice_fits (by omega) (by simpa using hbytes))
 simp only [Nat.zero_add,List.nil_append] at a
 refine ⟨_,_,a,grownCap_ge w m 0 e,grownCap_le_maxLen w m 0 e h63,?_,fun k hk j hj=>?_⟩
 ·have o:=grownCap_ge w m 0 e
  have e1:(grownCap w m 0 e - m)*i.size+m*i.size=grownCap w m 0 e*i.size:=by rw [<-Nat.add_mul]; congr 1; omega
  simp [zau,size_zeroCells,hzs]
  omega
 have n:k*i.size+j<m*i.size:=by
  have:(k+1)*i.size<=m*i.size:=Nat.mul_le_mul_right i.size (by omega)
  rw [Nat.add_mul] at this; omega
 rw [Array.getElem?_append_left (by simpa [zau] using n),List.getElem?_toArray]
 exact zcY hs hk hj
end
theorem Own.new {w:World} {base:Nat} {e:TypeId} {s m cap:Nat} {cur:Array Value} {f:Nat->Nat->Value} (hb:base<=w.heap.size) (h1:m<=cap) (h2:cap<=maxLen) (h3:cap*s<=cur.size) (h4:∀ k,k<m->∀ j,j<s->cur[k*s+j]?=some (f k j)) :
  Own (w.alloc (.cells cur e)) base e s (.slice (some ⟨w.heap.size,0,none⟩) m cap) m f :=
 .inr ⟨w.heap.size,0,cap,cur,rfl,hb,heap_alloc_new w _,h1,h2,by omega,fun i hi j hj=>by rw [Nat.zero_add]; exact h4 i hi j hj⟩
theorem Own.set {w:World} {base:Nat} {e:TypeId} {s n g o c:Nat} {f:Nat->Nat->Value} (h:Own w base e s (.slice (some ⟨g,o,none⟩) n c) n f) {a b:Nat} (ha:a<n) (hb:b<s) (u:Value) :
  Own (w.setCell ⟨g,o+a*s+b,none⟩ u) base e s (.slice (some ⟨g,o,none⟩) n c) n (fun i j=>if i=a/\j=b then u else f i j):=by
 rcases h with ⟨h,_⟩ | ⟨g',o',cap,cur,h1,h2,hg,hc,hm,h6,h7⟩
 ·cases h
 injection h1 with h1 _ h1'
 injection h1 with h1
 injection h1 with h1 h1''
 subst h1 h1' h1''
 have l:(a+1)*s<=n*s:=Nat.mul_le_mul_right s ha
 have k:n*s<=c*s:=Nat.mul_le_mul_right s hc
 rw [Nat.add_mul] at l
 have m:o+a*s+b<cur.size:=by omega
 refine .inr ⟨g,o,c,cur.setIfInBounds (o+a*s+b) u,rfl,h2,?_,hc,hm,by simpa using h6,fun i hi j hj=>?_⟩
 ·simp [World.setCell,Array.getElem?_modify,hg]
 by_cases e:i=a/\j=b
 ·obtain ⟨rfl,rfl⟩:=e
  simp [m]
 simp only [if_neg e]
 have d:o+a*s+b≠o+i*s+j:=fun e2=>by
  rcases Nat.lt_trichotomy i a with h | h | h
  ·have:(i+1)*s<=a*s:=Nat.mul_le_mul_right s h
   rw [Nat.add_mul] at this; omega
  ·subst h; exact e ⟨rfl,by omega⟩
  ·have:(a+1)*s<=i*s:=Nat.mul_le_mul_right s h
   rw [Nat.add_mul] at this; omega
 rw [Array.getElem?_setIfInBounds_ne d]
 exact h7 i hi j hj
def nv (f:Nat->Nat):Nat->Nat
 | 0=>0
 | k+1=>nv f k+f k*4294967296 ^ k
def dg (x i:Nat):Nat:=x / 4294967296 ^ i % 4294967296
def dl (x:Nat):Nat:=if h:x=0 then 0 else dl (x / 4294967296)+1
termination_by x
decreasing_by exact Nat.div_lt_self (by omega) (by omega)
theorem zk4 (n:Nat):0<4294967296 ^ n:=Nat.pow_pos (by omega)
theorem zgG {f g:Nat->Nat} {n:Nat} (h:∀ i,i<n->f i=g i):nv f n=nv g n:=by
 induction n with
 | zero=>rfl
 | succ n ih=>simp only [nv]; rw [ih fun i hi=>h i (by omega),h n (by omega)]
theorem zko {f:Nat->Nat} {n:Nat} (h:∀ i,i<n->f i<4294967296):nv f n<4294967296 ^ n:=by
 induction n with
 | zero=>simp [nv]
 | succ n ih =>
  have h1:=ih fun i hi=>h i (by omega)
  have h2:=h n (by omega)
  have h3:(f n+1)*4294967296 ^ n<=4294967296*4294967296 ^ n:=Nat.mul_le_mul_right _ h2
  simp only [nv,Nat.pow_succ]
  grind
theorem ze2 {f:Nat->Nat} {n m:Nat} (hnm:n<=m) (h:∀ i,n<=i->i<m->f i=0):nv f m=nv f n:=by
  induction m with
  | zero => have : n = 0 := by omega
            rw [this]
  | succ m ih =>
    by_cases e:n=m+1
    · rw [e]
    · simp only [nv]
      rw [ih (by omega) fun i h1 h2=>h i h1 (by omega),h m (by omega) (by omega)]
      omega
theorem zkp {f:Nat->Nat} {n:Nat} (h:∀ i,i<n->f i=0):nv f n=0:=ze2 (Nat.zero_le n) fun i _ hi=>h i hi
theorem zkq (f:Nat->Nat) (n:Nat):nv f (n+1)=f 0+4294967296*nv (fun i=>f (i+1)) n:=by
 induction n with
 | zero=>simp [nv]
 | succ n ih =>
  have h1:nv f (n+1+1)=nv f (n+1)+f (n+1)*4294967296 ^ (n+1):=rfl
  have h2:nv (fun i=>f (i+1)) (n+1)=nv (fun i=>f (i+1)) n+f (n+1)*4294967296 ^ n:=rfl
  rw [h1,h2,ih,Nat.pow_succ]
  grind
theorem zlh {f:Nat->Nat} {n k:Nat} (hk:k<n) (h:f k≠0):4294967296 ^ k<=nv f n:=by
 induction n with
 | zero=>omega
 | succ n ih =>
  simp only [nv]
  by_cases e:k=n
  ·subst e
   have:1*4294967296 ^ k<=f k*4294967296 ^ k:=Nat.mul_le_mul_right _ (by omega)
   omega
  ·have:=ih (by omega)
   omega
theorem zli (x i:Nat):dg x i<4294967296:=Nat.mod_lt _ (by omega)
theorem zgH (x i:Nat):dg x (i+1)=dg (x / 4294967296) i:=by
 unfold dg
 rw [Nat.pow_succ,Nat.mul_comm,Nat.div_div_eq_div_mul]
theorem zdM (x:Nat):dg x 0=x % 4294967296:=by simp [dg]
theorem zcc:dl 0=0:=by unfold dl; simp
theorem zgI {x:Nat} (h:x≠0):dl x=dl (x / 4294967296)+1:=by rw [dl]; simp [h]
theorem zi5 (x:Nat):nv (dg x) (dl x)=x:=by
 induction x using Nat.strongRecOn with
 | _ x ih =>
  by_cases h:x=0
  ·subst h; rw [zcc]; rfl
  ·rw [zgI h,zkq,zdM]
   have:=ih (x / 4294967296) (Nat.div_lt_self (by omega) (by omega))
   rw [show (fun i=>dg x (i+1))=dg (x / 4294967296) from funext fun i=>zgH x i,this]
   exact Nat.mod_add_div x 4294967296
theorem zkr {x:Nat} (h:x≠0):dg x (dl x - 1)≠0:=by
 induction x using Nat.strongRecOn with
 | _ x ih =>
  rw [zgI h,Nat.add_sub_cancel]
  by_cases h1:x / 4294967296=0
  ·rw [h1,zcc,zdM]
   have:=Nat.mod_add_div x 4294967296
   rw [h1] at this
   omega
  ·have h2:=ih (x / 4294967296) (Nat.div_lt_self (by omega) (by omega)) h1
   have h3:=zgI h1
   rw [h3,Nat.add_sub_cancel] at h2;rw [h3,zgH]
   exact h2
theorem zgJ {x:Nat}:dl x=0↔x=0:=by
 constructor
 ·intro h
  rcases Nat.eq_zero_or_pos x with h0 | h0
  ·exact h0
  ·rw [zgI (by omega)] at h; omega
 ·intro h; rw [h]; exact zcc
theorem zfD (x:Nat):x<4294967296 ^ dl x:=by
 have:=zko (f:=dg x) (n:=dl x) fun i _=>zli x i
 rwa [zi5] at this
theorem zh6 {x:Nat} (h:x≠0):4294967296 ^ (dl x - 1)<=x:=by
 have h1:dl x≠0:=fun e=>h (zgJ.1 e)
 have:=zlh (f:=dg x) (n:=dl x) (k:=dl x - 1) (by omega) (zkr h)
 rwa [zi5] at this
theorem zj9 {x n:Nat} (h:x<4294967296 ^ n):dl x<=n:=by
 by_cases h0:x=0
 ·rw [h0,zcc]; omega
 have h1:=zh6 h0
 have h2:4294967296 ^ (dl x - 1)<4294967296 ^ n:=by omega
 have:=(Nat.pow_lt_pow_iff_right (a:=4294967296) (by omega)).1 h2
 omega
theorem zll {f:Nat->Nat} {n:Nat} (h:∀ i,i<n->f i<4294967296):∀ i,i<n->dg (nv f n) i=f i:=by
 induction n generalizing f with
 | zero=>intro i hi; omega
 | succ n ih =>
  intro i hi
  rw [zkq]
  have h0:=h 0 (by omega)
  cases i with
  | zero =>
   rw [zdM,Nat.add_mul_mod_self_left,Nat.mod_eq_of_lt h0]
  | succ i =>
   rw [zgH,Nat.add_mul_div_left _ _ (by omega),Nat.div_eq_of_lt h0,Nat.zero_add]
   exact ih (f:=fun i=>f (i+1)) (fun i hi=>h (i+1) (by omega)) i (by omega)
theorem zlj {f:Nat->Nat} {n m:Nat} (hnm:n<=m) (h:∀ i,i<m->f i<4294967296) (hz:∀ i,n<=i->i<m->f i=0) (hl:n=0∨f (n - 1)≠0):dl (nv f m)=n/\∀ i,i<n->dg (nv f m) i=f i:=by
 have hv:=ze2 hnm hz
 rw [hv]
 refine ⟨?_,zll fun i hi=>h i (by omega)⟩
 have h1:=zj9 (zko (f:=f) (n:=n) fun i hi=>h i (by omega))
 rcases hl with h0 | h0
 ·omega
 rcases Nat.eq_zero_or_pos n with e | e
 ·omega
 have h2:=zlh (f:=f) (n:=n) (k:=n - 1) (by omega) h0
 have h3:=zfD (nv f n)
 have h4:4294967296 ^ (n - 1)<4294967296 ^ dl (nv f n):=by omega
 have:=(Nat.pow_lt_pow_iff_right (a:=4294967296) (by omega)).1 h4
 omega
theorem zks {x y:Nat} (h:x<=y):dl x<=dl y:=zj9 (Nat.lt_of_le_of_lt h (zfD y))
def upd (f:Nat->Nat) (k v:Nat):Nat->Nat:=fun i=>if i=k then v else f i
theorem ze3 (f:Nat->Nat) (k v:Nat):upd f k v k=v:=by simp [upd]
theorem zcM {f:Nat->Nat} {k v i:Nat} (h:i≠k):upd f k v i=f i:=by simp [upd,h]
theorem zdN {f:Nat->Nat} {k v n:Nat} (h:n<=k):nv (upd f k v) n=nv f n:=zgG fun i hi=>zcM (by omega)
theorem zkt {f:Nat->Nat} {k v n:Nat} (h:k<n):nv (upd f k v) n+f k*4294967296 ^ k=nv f n+v*4294967296 ^ k:=by
 induction n with
 | zero=>omega
 | succ n ih =>
  simp only [nv]
  by_cases e:k=n
  ·subst e
   rw [zdN (Nat.le_refl _),ze3]
   omega
  ·rw [zcM (by omega)]
   have:=ih (by omega)
   omega
theorem zgK (s P:Nat) (n:Nat):(s % 4294967296)*4294967296 ^ n*P+(s / 4294967296)*4294967296 ^ (n+1)*P=s*4294967296 ^ n*P:=by
 have h:=Nat.mod_add_div s 4294967296
 have h2:s*4294967296 ^ n*P=(s % 4294967296+4294967296*(s / 4294967296))*4294967296 ^ n*P:=by rw [h]
 rw [h2,Nat.pow_succ]
 grind
theorem zdy (s:Nat) (n:Nat):(s % 4294967296)*4294967296 ^ n+(s / 4294967296)*4294967296 ^ (n+1)=s*4294967296 ^ n:=by
 have:=zgK s 1 n
 simpa using this
def hv (f:Nat->Nat) (i n:Nat):Nat:=nv (fun j=>f (i+j)) (n - i)
def Lims (w:World) (B:Nat) (A:Option Addr) (n:Nat) (f:Nat->Nat):Prop:=Rd w B A n 1 (fun i _=>.int .u32 (f i:Nat))
def NatOk (w:World) (B:Nat) (A:Option Addr) (x:Nat):Prop:=Lims w B A (dl x) (dg x)
section
variable {w w':World} {B B' n i:Nat} {A:Option Addr} {f:Nat->Nat} {x:Nat}
theorem Lims.at (h:Lims w B A n f) (hi:i<n):∃ b off,A=some ⟨b,off,none⟩/\b<B/\w.cell? ⟨b,off+i,none⟩=some (.int .u32 (f i:Nat)):=Rd.at1 h hi
theorem Lims.on (h:Lims w w.heap.size A n f) (hb:Below w.heap.size w w'):Lims w' w'.heap.size A n f:=(Rd.below h hb (Nat.le_refl _)).mono hb.size
theorem NatOk.on (h:NatOk w w.heap.size A x) (hb:Below w.heap.size w w'):NatOk w' w'.heap.size A x:=Lims.on h hb
end
theorem zdO {w:World} {b n:Nat} {t:TypeId} {f:Nat->Nat} (h:w.rowIs b t n (fun i=>.int .u32 (f i:Nat))):Lims w w.heap.size (some ⟨b,0,none⟩) n f:=zbl h
def NatPost (x:Nat) (w:World) (e:Ending) (w':World):Prop :=
 ∃ A c,e=.returned (.slice A (dl x) c)/\dl x<=c/\c<=maxLen/\NatOk w' w'.heap.size A x/\Below w.heap.size w w'
theorem zcd {P:Program} (w:World) (t ty e:TypeId) (i:TypeInfo) (ht:P.underlying t=some (.slice e)) (hi:P.info? e=some i) (A:Option Addr) (c:Nat) :
  (Builtin.append_ #[t,t] ty #[.slice none 0 0,.slice A 0 c]).run P w=.ok (.slice none 0 0) w:=by
 cases A with
 | none=>simp [Builtin.append_,run_underlying ht,sizeOf,typeInfo,hi,Builtin.lenOf,Builtin.firstCells]
 | some a=>simp [Builtin.append_,run_underlying ht,sizeOf,typeInfo,hi,Builtin.lenOf,Builtin.firstCells,loadCells,loadCellsFrom]
section
variable {P:Program} {w:World}
theorem zbK {ops:Array Oper} {rest:List Oper} {o:Oper} {a:Act} {Q:Exit->Act->World->Prop} (hgd:o.guard=none) (sl x:Operand) (t:TypeId)
  (ho:o.op=.call { callee:=.builtin .append,args:=#[sl,x],argTypes:=#[t,t] })
  (e:TypeId) (i:TypeInfo) (ht:P.underlying t=some (.slice e)) (hi:P.info? e=some i) (hv:a.eval sl=.slice none 0 0)
  (A:Option Addr) (c:Nat) (hx:a.eval x=.slice A 0 c)
  (h:wpList P ops Q rest (a.put o.dst (.slice none 0 0)) w):wpList P ops Q (o :: rest) a w:=by
 refine wpList_plain hgd fun K hK=>?_
 have b:=zcd (P:=P) w t o.type e i ht hi A c
 unfold Oper.wp execOp
 simp only [ho,resolve,invoke,builtin,Sem.run_bind,Sem.run_pure,Result.andThen_ok,List.map_toArray,List.map_cons,List.map_nil,hv,hx,b]
 exact hK _ _ h
theorem zal {ops:Array Oper} {rest:List Oper} {o:Oper} {a:Act} {Q:Exit->Act->World->Prop} (hgd:o.guard=none) (sl x:Operand) (t:TypeId)
  (ho:o.op=.call { callee:=.builtin .append,args:=#[sl,x],argTypes:=#[t,t] })
  (e:TypeId) (i:TypeInfo) (z:Value) (s bytes:Nat) (ht:P.underlying t=some (.slice e)) (hi:P.info? e=some i) (hz:i.zero=some z)
  (hsize:i.size=s) (hby:i.bytes=bytes) (hzs:z.cells.size=s) (hs:0<s) (A0:Option Addr) (hv:a.eval sl=.slice A0 0 0)
  (A:Option Addr) (m c:Nat) (f:Nat->Nat->Value) (hx:a.eval x=.slice A m c) (hsrc:Rd w w.heap.size A m s f) (hm:0<m) (h1:∀ k,k<m->∀ j,j<s->(f k j).oneCell'=true)
  (h63:m<=maxLen) (hbytes:m*bytes<=140737488355328)
  (h:∀ cap cur,m<=cap->cap<=maxLen->cap*s<=cur.size->(∀ k,k<m->∀ j,j<s->cur[k*s+j]?=some (f k j))->wpList P ops Q rest (a.put o.dst (.slice (some ⟨w.heap.size,0,none⟩) m cap)) (w.drew.alloc (.cells cur e))) :
  wpList P ops Q (o :: rest) a w:=by
 refine wpList_plain hgd fun K hK=>?_
 obtain ⟨cap,cur,b,h2,h3,h4,h5⟩:=zbj (P:=P) w t o.type e i z s bytes ht hi hz hsize hby hzs hs A0 A m c f hsrc hm h1 h63 hbytes
 unfold Oper.wp execOp
 simp only [ho,resolve,invoke,builtin,Sem.run_bind,Sem.run_pure,Result.andThen_ok,List.map_toArray,List.map_cons,List.map_nil,hv,hx,b]
 exact hK _ _ (h cap cur h2 h3 h4 h5)
end
theorem Tryz.infoU32:(Tryz.prog.info? 109).map (fun i=>(i.zero,i.size,i.bytes))=some (some (.int .u32 0),1,4):=by kernel_rfl
theorem zcN (A:Option Addr) (n c:Nat) (f:Nat->Nat) (w:World) (h:Lims w w.heap.size A n f) (hf:Hid (∀ i,i<n->f i<4294967296)) (hc:n<=c) (hm:c<=maxLen) :
  Calls Tryz.prog 176 #[.slice A n c] w fun e w'=>e=.returned (.slice A (dl (nv f n)) (dl (nv f n)))/\NatOk w w.heap.size A (nv f n)/\w=w':=by
 have q:c<=9223372036854775807:=by unfold maxLen at hm; omega
 go_enter Tryz.func176, Tryz.ntmps176
 go_wp2
 go_loopg [3] n (fun g kv wx=>∃ k:Nat,k<=n/\k<=g/\kv=.int .i64 (k:Nat)/\Hid (∀ i,k<=i->i<n->f i=0)/\w=wx)
 case atStart=>exact ⟨n,by omega,by omega,rfl,hid fun i h1 h2=>absurd h1 (by omega),rfl⟩
 obtain ⟨k,hk,r,rfl,hz,rfl⟩:=hrel
 by_cases h0:0<k
 rotate_left
 ·obtain rfl:k=0:=by omega
  obtain ⟨d1,d2⟩:=zlj (f:=f) hk hf.out hz.out (.inl rfl)
  have D1:=hid d1
  have hR:NatOk w w.heap.size A (nv f n):=by
   unfold NatOk Lims
   rw [d1]
   exact fun i hi=>absurd hi (by omega)
  clear d1 d2
  cases A with
  | none =>
   go_wp2
   go_ret
   exact ⟨by rw [D1.out]; rfl,hR,rfl⟩
  | some a =>
   go_wp2
   go_ret
   exact ⟨by rw [D1.out]; rfl,hR,rfl⟩
 obtain ⟨b,o,rfl,hb,e0⟩:=h.at (i:=k - 1) (by omega)
 have s:(0:Int)<(k:Int):=by omega
 have m:((k:Int) - 1).toNat=k - 1:=by omega
 by_cases hz0:f (k - 1)=0
 ·rw [hz0] at e0
  have HN:Hid (∀ i,k - 1<=i->i<n->f i=0):=fun i h1 h2=>by
   by_cases e:i=k - 1
   ·rw [e]; exact hz0
   ·exact hz.out i (by omega) h2
  clear hz0
  go_wp2
  go_roundg (gk - 1)
  case measure=>omega
  case rel=>exact ⟨k - 1,by omega,by omega,by congr 1; omega,HN,rfl⟩
 obtain ⟨d1,d2⟩:=zlj (f:=f) hk hf.out hz.out (.inr hz0)
 obtain ⟨v,hv⟩:∃ v:Int,v=(f (k - 1):Nat):=⟨_,rfl⟩
 rw [<-hv] at e0
 have p:(v == 0)=false:=by simp; omega
 have D1:=hid d1
 have hR:NatOk w w.heap.size (some ⟨b,o,none⟩) (nv f n):=by
  unfold NatOk Lims
  rw [d1]
  exact fun i hi=>by
   obtain ⟨b',o',e,l,d⟩:=h i (by omega)
   exact ⟨b',o',e,l,fun j hj=>by show _=some (Value.int .u32 (dg (nv f n) i:Nat)); rw [d2 i hi]; exact d j hj⟩
 clear hv d1 d2 hz0
 go_wp2
 go_ret
 exact ⟨by rw [D1.out]; rfl,hR,rfl⟩
theorem zgL (A:Option Addr) (n c:Nat) (f:Nat->Nat) (w:World) (h:Lims w w.heap.size A n f) (hf:Hid (∀ i,i<n->f i<4294967296)) (hc:n<=c) (hm:c<=maxLen) (hn:n<=1073741824) :
  Calls Tryz.prog 169 #[.slice A n c] w (NatPost (nv f n) w):=by
 obtain ⟨i0,qi0,qz0,qz1,qz2⟩:=info_parts Tryz.infoU32
 have hl:dl (nv f n)<=n:=zj9 (zko hf.out)
 obtain ⟨x,hx⟩:∃ x,nv f n=x:=⟨_,rfl⟩
 have HX:=hid hx
 rw [hx] at hl ⊢;clear hx
 go_enter Tryz.func169, Tryz.ntmps169
 go_wp2_with fail
 refine (zcN A n c f w h hf hc hm).mono ?_
 rintro e w1 ⟨rfl,hR,rfl⟩
 rw [HX.out] at hR ⊢
 rcases Nat.eq_zero_or_pos (dl x) with h0 | h0
 ·have H0:=hid h0
  rw [h0];clear h0
  go_wp2_with (first | (at_builtin; (refine zbK rfl (.const (.slice none 0 0)) (.tmp 4) _ rfl 109 i0 Tryz.underlying69 qi0 rfl A 0 rfl ?_)))
  go_ret
  exact ⟨none,0,by rw [H0.out]; rfl,by have:=H0.out; omega,by unfold maxLen; omega,fun i hi=>absurd hi (by have:=H0.out; omega),Below.refl _ _⟩
 have n3:Hid (dl x<=maxLen):=by show _<=_; unfold maxLen; omega
 have n4:Hid (dl x*4<=140737488355328):=by show _<=_; omega
 go_wp2_with (first | (at_builtin; (refine zal rfl (.const (.slice none 0 0)) (.tmp 4) _ rfl 109 i0 _ 1 4 Tryz.underlying69 qi0 qz0 qz1 qz2 rfl (by omega) none rfl A (dl x) (dl x) (fun i _=>.int .u32 (dg x i:Nat)) rfl hR h0 (fun _ _ _ _=>rfl) n3.out n4.out ?_); intro cap cur k1 k2 k3 k4))
 go_ret
 have hO:=Own.new (w:=w) (base:=w.heap.size) (e := 109) (Nat.le_refl _) k1 k2 k3 k4
 exact ⟨_,cap,rfl,k1,k2,hO.drew.rd rfl,(((Below.refl _ _).alloc (Nat.le_refl _) _).drew)⟩
def two (x:Nat) (i:Nat):Nat:=if i=0 then x % 4294967296 else x / 4294967296
theorem zk5 (x:Nat):nv (two x) 2=x:=by
 simp only [nv,two]
 have:=Nat.mod_add_div x 4294967296
 simp
 omega
theorem zdP (x:Nat) (w:World) (hx:x<18446744073709551616) :
  Calls Tryz.prog 102 #[.int .u64 (x:Nat)] w (NatPost x w):=by
 have hL:Lims (w.alloc (Obj.cells #[Value.int .u32 ((x:Int) % 4294967296),Value.int .u32 ((x:Int) / 4294967296)] 109)) (w.alloc (Obj.cells #[Value.int .u32 ((x:Int) % 4294967296),Value.int .u32 ((x:Int) / 4294967296)] 109)).heap.size (some ⟨w.heap.size,0,none⟩) 2 (two x):=by
  refine zdO (t := 109) ⟨_,heap_alloc_new _ _,rfl,fun i hi=>?_⟩
  match i,hi with
  | 0,_=>simp [two]
  | 1,_=>simp [two]
 have H2:Hid (∀ i,i<2->two x i<4294967296):=fun i hi=>by
  unfold two
  split <;> omega
 go_enter Tryz.func102, Tryz.ntmps102
 go_wp2_with fail
 refine (zgL _ 2 2 (two x) _ hL H2 (Nat.le_refl _) (by unfold maxLen; omega) (by omega)).mono ?_
 rintro e w2 ⟨A,c,rfl,g1,g2,g3,g4⟩
 rw [zk5] at g1 g3 ⊢
 have hB:=onS ((Below.refl _ _).alloc (Nat.le_refl _) _) g4
 clear g4 hL
 go_wp2
 go_ret
 exact ⟨A,c,rfl,g1,g2,g3,hB⟩
def padded (g:Nat->Nat) (m:Nat) (i:Nat):Nat:=if i<m then g i else 0
theorem zh7 (g:Nat->Nat) {m n:Nat} (h:m<=n):nv (padded g m) n=nv g m:=by
 rw [ze2 h fun i h1 _=>by unfold padded; rw [if_neg (by omega)]]
 exact zgG fun i hi=>by unfold padded; rw [if_pos hi]
theorem zkX {g:Nat->Nat} {m:Nat} (h:∀ i,i<m->g i<4294967296) (i:Nat):padded g m i<4294967296:=by
 unfold padded
 split
 ·exact h i ‹_›
 ·omega
theorem zjr (A A2:Option Addr) (n c n2 c2:Nat) (f f2:Nat->Nat) (w:World) (h:Lims w w.heap.size A n f) (h2:Lims w w.heap.size A2 n2 f2) (hf:Hid (∀ i,i<n->f i<4294967296)) (hf2:Hid (∀ i,i<n2->f2 i<4294967296)) (hn:n<=536870912) (hn2:n2<=536870912) :
  Calls Tryz.prog 291 #[.slice A n c,.slice A2 n2 c2] w (NatPost (nv f n+nv f2 n2) w):=by
 have E:=fun (x:Int) (h0:0<=x) (h1:x<=1073741824) W=>zaf (P:=Tryz.prog) 69 109 _ 4 Tryz.underlying69 Tryz.infoU32 rfl x h0 (by omega) (by omega) W
 go_enter Tryz.func291, Tryz.ntmps291
 go_upto_if 13 with fail
 go_cut [0,1] (fun v0 v1 wx=>∃ B m d,∃ g:Nat->Nat,∃ B2 m2 d2,∃ g2:Nat->Nat,v0=.slice B m d/\v1=.slice B2 m2 d2/\m2<=m/\m<=536870912/\Lims w w.heap.size B m g/\Lims w w.heap.size B2 m2 g2/\Hid (∀ i,i<m->g i<4294967296)/\Hid (∀ i,i<m2->g2 i<4294967296)/\Hid (nv f n+nv f2 n2=nv g m+nv g2 m2)/\w=wx)
 case first =>
  by_cases hlt:n<n2
  ·go_wp2
   go_meet
   exact ⟨A2,n2,c2,f2,A,n,c,f,rfl,rfl,by omega,hn2,h2,h,hf2,hf,Nat.add_comm _ _,rfl⟩
  go_wp2
  go_meet
  exact ⟨A,n,c,f,A2,n2,c2,f2,rfl,rfl,by omega,hn,h,h2,hf,hf2,rfl,rfl⟩
 obtain ⟨B,m,d,g,B2,m2,d2,g2,rfl,rfl,hm,J,hg,H,G,D,u,rfl⟩:=hcut
 clear h h2 hf hf2
 have z:=fun W=>E ((m:Int)+1) (by omega) (by omega) W
 have e1:((m:Int)+1).toNat=m+1:=by omega
 have l:=World.rowIs_made w (.int .u32 0) (m+1) 109
 clear E
 go_wp2
 go_loopg [22,6] m (fun gg iv cv wx=>∃ k cc:Nat,∃ o:Nat->Nat,iv=.int .i64 (k:Nat)/\cv=.int .u64 (cc:Nat)/\k<=m/\m<=k+gg/\cc<=1/\Below w.heap.size w wx/\wx.rowIs w.heap.size 109 (m+1) (fun i=>.int .u32 (o i:Nat))/\Hid (∀ i,o i<4294967296)/\Hid (nv o k+cc*4294967296 ^ k=nv g k+nv (padded g2 m2) k))
 case atStart=>exact ⟨0,0,fun _=>0,rfl,rfl,by omega,by omega,by omega,(Below.refl _ _).alloc (Nat.le_refl _) _,l,hid fun _=>by show 0<_; omega,hid rfl⟩
 clear l z
 obtain ⟨k,cc,o,rfl,rfl,hk,K,M,hB,a,HO,HV⟩:=hrel
 have hz:=a.lt
 by_cases hlt:k<m
 rotate_left
 ·obtain rfl:k=m:=by omega
  have y0:=a.cell (i:=k) (by omega)
  have z0:=a.frozen k
  have e2:(k:Int)<(k:Int)+1:=by omega
  have HS:Hid (nv f n+nv f2 n2=nv (upd o k cc) (k+1)):=by
   show _=_
   simp only [nv]
   rw [zdN (Nat.le_refl _),ze3,HV.out,zh7 g2 hm,u.out]
  have j:(wr.setCell ⟨w.heap.size,k,none⟩ (.int .u32 (cc:Nat))).rowIs w.heap.size 109 (k+1) (fun i=>.int .u32 (upd o k cc i:Nat)):=by
   refine (a.set k _).congr fun i _=>?_
   unfold upd
   by_cases e:i=k
   ·rw [if_pos e,if_pos e]
   ·rw [if_neg e,if_neg e]
  have p:Hid (∀ i,i<k+1->upd o k cc i<4294967296):=fun i _=>by
   unfold upd
   split
   ·omega
   ·exact HO.out i
  have I:Below w.heap.size w (wr.setCell ⟨w.heap.size,k,none⟩ (.int .u32 (cc:Nat))):=hB.setCell (Nat.le_refl _) _
  go_wp2_with fail
  refine (zcN (some ⟨w.heap.size,0,none⟩) (k+1) (k+1) (upd o k cc) _ (zdO j) p (Nat.le_refl _) (by unfold maxLen; omega)).mono ?_
  rintro e w1 ⟨rfl,hR,rfl⟩
  rw [<-HS.out] at hR ⊢
  have L:dl (nv f n+nv f2 n2)<=k+1:=by rw [HS.out]; exact zj9 (zko p.out)
  clear a j hB HV HO y0 z0
  go_wp2
  go_ret
  exact ⟨_,_,rfl,Nat.le_refl _,by unfold maxLen; omega,hR,I⟩
 obtain ⟨b,o1,rfl,hb,e0⟩:=(hg.on hB).at hlt
 have q1:=G.out k hlt
 have y0:=a.cell (i:=k) (by omega)
 have z0:=a.frozen k
 have F:(k:Int)<(m:Int):=by omega
 have q:∀ t:Nat,t=padded g2 m2 k->Hid (nv (upd o k ((g k+cc+t) % 4294967296)) (k+1)+(g k+cc+t) / 4294967296*4294967296 ^ (k+1)=nv g (k+1)+nv (padded g2 m2) (k+1)):=fun t ht=>by
  show _=_
  simp only [nv]
  rw [zdN (Nat.le_refl _),ze3]
  have hv:=HV.out
  have hc:=zdy (g k+cc+t) k
  rw [<-ht]
  grind
 have r:∀ s:Nat,∀ v:Int,v=((s % 4294967296:Nat):Int)->Hid ((wr.setCell ⟨w.heap.size,k,none⟩ (.int .u32 v)).rowIs w.heap.size 109 (m+1) (fun i=>.int .u32 (upd o k (s % 4294967296) i:Nat))):=fun s v hv=>by
  refine (a.set k _).congr fun i _=>?_
  unfold upd
  by_cases e:i=k
  ·rw [if_pos e,if_pos e,hv]
  ·rw [if_neg e,if_neg e]
 have p:∀ s:Nat,Hid (∀ i,upd o k (s % 4294967296) i<4294967296):=fun s i=>by
  unfold upd
  split
  ·omega
  ·exact HO.out i
 by_cases hlt2:k<m2
 ·obtain ⟨b2,o2,rfl,N,e2⟩:=(H.on hB).at hlt2
  have q2:=D.out k hlt2
  have C:(k:Int)<(m2:Int):=by omega
  obtain ⟨x,hx⟩:=exx (g k)
  obtain ⟨y,hy⟩:=exx (g2 k)
  have K1:=q y (by rw [hy]; unfold padded; rw [if_pos hlt2])
  have K2:=hid (r (x+cc+y) (((x:Int)+cc+y) % 4294967296) (by omega))
  have K3:=p (x+cc+y)
  rw [<-hx] at e0 q1 K1;rw [<-hy] at e2 q2;clear q r p hx hy
  go_wp2
  go_roundg (gk - 1)
  case measure=>omega
  case rel=>exact ⟨k+1,(x+cc+y) / 4294967296,_,by go_num,by congr 1 <;> omega,by omega,by omega,by omega,hB.setCell (Nat.le_refl _) _,K2.out,K3,K1⟩
 have C:¬ (k:Int)<(m2:Int):=by omega
 obtain ⟨x,hx⟩:=exx (g k)
 have K1:=q 0 (by unfold padded; rw [if_neg hlt2])
 have K2:=hid (r (x+cc+0) (((x:Int)+cc) % 4294967296) (by omega))
 have K3:=p (x+cc+0)
 rw [<-hx] at e0 q1 K1;clear q r p hx
 go_wp2
 go_roundg (gk - 1)
 case measure=>omega
 case rel=>exact ⟨k+1,(x+cc+0) / 4294967296,_,by go_num,by congr 1 <;> omega,by omega,by omega,by omega,hB.setCell (Nat.le_refl _) _,K2.out,K3,K1⟩
def NatTab (w:World) (B:Nat) (T:Option Addr) (m:Nat) (x:Nat->Nat):Prop :=
 ∀ v,v<m->∃ b off A c,T=some ⟨b,off,none⟩/\b<B/\w.cell? ⟨b,off+v,none⟩=some (.slice A (dl (x v)) c)/\dl (x v)<=c/\c<=maxLen/\NatOk w B A (x v)
theorem NatTab.on {w w':World} {T:Option Addr} {m:Nat} {x:Nat->Nat} (h:NatTab w w.heap.size T m x) (hb:Below w.heap.size w w'):NatTab w' w'.heap.size T m x:=fun v hv=>by
 obtain ⟨b,off,A,c,e,h1,h2,h3,h4,h5⟩:=h v hv
 have:=hb.size
 exact ⟨b,off,A,c,e,by omega,by rw [hb.cell (by simp; omega)]; exact h2,h3,h4,h5.on hb⟩
def sumN (x:Nat->Nat):Nat->Nat
 | 0=>0
 | k+1=>sumN x k+x k
theorem zf8 (x:Nat):Hid (∀ i,i<dl x->dg x i<4294967296):=fun i _=>zli x i
theorem zjs (A A2:Option Addr) (c c2 x y:Nat) (w:World) (h:NatOk w w.heap.size A x) (h2:NatOk w w.heap.size A2 y) (hn:dl x<=536870912) (hn2:dl y<=536870912) :
  Calls Tryz.prog 291 #[.slice A (dl x) c,.slice A2 (dl y) c2] w (NatPost (x+y) w):=by
 have:=zjr A A2 (dl x) c (dl y) c2 (dg x) (dg y) w h h2 (zf8 x) (zf8 y) hn hn2
 rwa [zi5,zi5] at this
theorem zfE (A:Option Addr) (c x:Nat) (w:World) (h:NatOk w w.heap.size A x) (hc:dl x<=c) (hm:c<=maxLen) :
  Calls Tryz.prog 176 #[.slice A (dl x) c] w fun e w'=>e=.returned (.slice A (dl x) (dl x))/\w=w':=by
 refine (zcN A (dl x) c (dg x) w h (zf8 x) hc hm).mono ?_
 rintro e w' ⟨he,_,hw⟩
 rw [zi5] at he
 exact ⟨he,hw⟩
theorem zgM (A:Option Addr) (c x:Nat) (w:World) (h:NatOk w w.heap.size A x) (hc:dl x<=c) (hm:c<=maxLen) (hn:dl x<=1073741824) :
  Calls Tryz.prog 169 #[.slice A (dl x) c] w (NatPost x w):=by
 have:=zgL A (dl x) c (dg x) w h (zf8 x) hc hm hn
 rwa [zi5] at this
theorem zgN (T:Option Addr) (m c:Nat) (x:Nat->Nat) (w:World) (h:NatTab w w.heap.size T m x) (hm:m<=1048576) (hs:Hid (∀ k,k<=m->dl (sumN x k)<=536870912)) (hx:Hid (∀ k,k<m->dl (x k)<=536870912)) :
  Calls Tryz.prog 288 #[.slice T m c] w (NatPost (sumN x m) w):=by
 go_enter Tryz.func288, Tryz.ntmps288
 go_wp2
 go_loopg [8,3] m (fun g iv sv wx=>∃ k:Nat,∃ A c,iv=.int .i64 (k:Nat)/\sv=.slice A (dl (sumN x k)) c/\k<=m/\m<=k+g/\dl (sumN x k)<=c/\c<=maxLen/\NatOk wx wx.heap.size A (sumN x k)/\Below w.heap.size w wx)
 case atStart=>exact ⟨0,none,0,rfl,by simp [sumN,zcc],by omega,by omega,by simp [sumN,zcc],by omega,fun i hi=>absurd hi (by simp [sumN,zcc]),Below.refl _ _⟩
 obtain ⟨k,A,cA,rfl,rfl,hk,p,hc,n,hA,hB⟩:=hrel
 by_cases hlt:k<m
 ·obtain ⟨b,off,B,cB,rfl,hb,e0,o,a,d⟩:=(h.on hB) k hlt
  have l:(k:Int)<(m:Int):=by omega
  have H1:=hs.out k hk
  have H2:=hx.out k hlt
  go_wp2_with fail
  refine (zfE B cB (x k) wr d o a).mono ?_
  rintro e w1 ⟨rfl,rfl⟩
  go_wp2_with fail
  refine (zjs A B cA (dl (x k)) (sumN x k) (x k) wr hA d H1 H2).mono ?_
  rintro e w1 ⟨A',c',rfl,g1,g2,g3,g4⟩
  have j:=onS hB g4
  clear g4 hA hB d e0
  go_wp2
  go_roundg (gk - 1)
  case measure=>omega
  case rel=>exact ⟨k+1,A',c',by go_num,rfl,by omega,by omega,g1,g2,g3,j⟩
 obtain rfl:k=m:=by omega
 have H1:=hs.out k (Nat.le_refl _)
 go_wp2_with fail
 refine (zgM A cA (sumN x k) wr hA hc n (by omega)).mono ?_
 rintro e w1 ⟨A',c',rfl,g1,g2,g3,g4⟩
 have j:=onS hB g4
 clear g4
 go_wp2
 go_ret
 exact ⟨A',c',rfl,g1,g2,g3,j⟩
theorem zgO {x y:Nat} (hx:x<4294967296) (hy:y<4294967296):x*y<=18446744065119617025:=by
 have:x*y<=4294967295*4294967295:=Nat.mul_le_mul (by omega) (by omega)
 omega
theorem zgP {o g:Nat->Nat} {N k j x cc y:Nat} {v:Nat} (hkj:k+j<N) (hv:nv o N+cc*4294967296 ^ (k+j)=v+x*nv g j*4294967296 ^ k) (hy:y=g j) :
  nv (upd o (k+j) ((x*y+o (k+j)+cc) % 4294967296)) N+(x*y+o (k+j)+cc) / 4294967296*4294967296 ^ (k+(j+1))=v+x*nv g (j+1)*4294967296 ^ k:=by
 have h1:=zkt (f:=o) (v:=(x*y+o (k+j)+cc) % 4294967296) hkj
 have h2:=zdy (x*y+o (k+j)+cc) (k+j)
 have h3:(4294967296:Nat) ^ (k+j)=4294967296 ^ k*4294967296 ^ j:=Nat.pow_add _ _ _
 simp only [nv]
 rw [show k+(j+1)=k+j+1 by omega,<-hy]
 generalize (x*y+o (k+j)+cc) % 4294967296=r at *
 generalize (x*y+o (k+j)+cc) / 4294967296*4294967296 ^ (k+j+1)=q at *
 generalize nv (upd o (k+j) r) N=u at *
 grind
theorem zh8 (A A2:Option Addr) (n c m c2:Nat) (f g:Nat->Nat) (w:World) (h:Lims w w.heap.size A n f) (h2:Lims w w.heap.size A2 m g) (hf:Hid (∀ i,i<n->f i<4294967296)) (hg:Hid (∀ i,i<m->g i<4294967296)) (hn:n<=536870912) (hm:m<=536870912) :
  Calls Tryz.prog 177 #[.slice A n c,.slice A2 m c2] w (NatPost (nv f n*nv g m) w):=by
 have z:=fun W=>zaf (P:=Tryz.prog) 69 109 _ 4 Tryz.underlying69 Tryz.infoU32 rfl ((n:Int)+(m:Int)) (by omega) (by omega) (by omega) W
 have e1:((n:Int)+(m:Int)).toNat=n+m:=by omega
 have d:=World.rowIs_made w (.int .u32 0) (n+m) 109
 go_enter Tryz.func177, Tryz.ntmps177
 go_wp2
 go_loopg [20] n (fun gg iv wx=>∃ k:Nat,∃ o:Nat->Nat,iv=.int .i64 (k:Nat)/\k<=n/\n<=k+gg/\Below w.heap.size w wx/\wx.rowIs w.heap.size 109 (n+m) (fun i=>.int .u32 (o i:Nat))/\Hid (∀ i,o i<4294967296)/\Hid (∀ i,k+m<=i->o i=0)/\Hid (nv o (n+m)=nv f k*nv g m))
 case atStart=>exact ⟨0,fun _=>0,rfl,by omega,by omega,(Below.refl _ _).alloc (Nat.le_refl _) _,d,hid fun _=>by show 0<_; omega,hid fun _ _=>rfl,hid (by rw [zkp fun _ _=>rfl]; simp [nv])⟩
 clear d z e1
 obtain ⟨k,o,rfl,hk,D,hB,a,HO,HZ,HV⟩:=hrel
 by_cases hlt:k<n
 rotate_left
 ·obtain rfl:k=n:=by omega
  have q:Hid (∀ i,i<k+m->o i<4294967296):=fun i _=>HO.out i
  go_wp2_with fail
  refine (zcN (some ⟨w.heap.size,0,none⟩) (k+m) (k+m) o wr (zdO a) q (Nat.le_refl _) (by unfold maxLen; omega)).mono ?_
  rintro e w1 ⟨rfl,hR,rfl⟩
  rw [HV.out] at hR ⊢
  have F:dl (nv f k*nv g m)<=k+m:=by rw [<-HV.out]; exact zj9 (zko q.out)
  clear a HO HZ
  go_wp2
  go_ret
  exact ⟨_,_,rfl,Nat.le_refl _,by unfold maxLen; omega,hR,hB⟩
 obtain ⟨b,o1,rfl,hb,e0⟩:=(h.on hB).at hlt
 have q1:=hf.out k hlt
 have B:(k:Int)<(n:Int):=by omega
 obtain ⟨x,hx⟩:=exx (f k)
 rw [<-hx] at e0 q1
 have HX:=hid hx
 obtain ⟨wo,rfl⟩:∃ wo:World,wo=wr:=⟨_,rfl⟩
 obtain ⟨K,rfl⟩:∃ K:Nat,K=gk:=⟨_,rfl⟩
 clear hx
 go_wp2
 go_loopg [27,8] m (fun gg jv cv wx=>∃ j cc:Nat,∃ o':Nat->Nat,jv=.int .i64 (j:Nat)/\cv=.int .u64 (cc:Nat)/\j<=m/\m<=j+gg/\cc<4294967296/\Below w.heap.size w wx/\wx.rowIs w.heap.size 109 (n+m) (fun i=>.int .u32 (o' i:Nat))/\Hid (∀ i,o' i<4294967296)/\Hid (∀ i,k+m<=i->o' i=0)/\Hid (nv o' (n+m)+cc*4294967296 ^ (k+j)=nv o (n+m)+x*nv g j*4294967296 ^ k))
 case atStart=>exact ⟨0,0,o,rfl,rfl,by omega,by omega,by omega,hB,a,HO,HZ,hid (by simp [nv])⟩
 clear hB a e0
 obtain ⟨j,cc,o',rfl,rfl,hj,E,G,hB,a,p,l,s⟩:=hrel
 have hz:=a.lt
 by_cases hjlt:j<m
 ·obtain ⟨b2,o2,rfl,H,e2⟩:=(h2.on hB).at hjlt
  have q2:=hg.out j hjlt
  have r:(j:Int)<(m:Int):=by omega
  have y0:=a.cell (i:=k+j) (by omega)
  have z0:=a.frozen (k+j)
  have q3:=p.out (k+j)
  have C:((k:Int)+(j:Int)).toNat=k+j:=by omega
  obtain ⟨y,hy⟩:=exx (g j)
  obtain ⟨u,hu⟩:=exx (o' (k+j))
  rw [<-hy] at e2 q2
  have K1:=hid (zgP (y:=y) (show k+j<n+m by omega) s.out hy)
  rw [<-hu] at y0 q3 K1
  have p0:(0:Int)<=(x:Int)*(y:Int):=by rw [<-Int.natCast_mul]; omega
  have p1:(x:Int)*(y:Int)<=18446744065119617025:=by rw [<-Int.natCast_mul]; have:=zgO q1 q2; omega
  have p2:(x:Int)*(y:Int)=((x*y:Nat):Int):=by rw [Int.natCast_mul]
  have p3:=zgO q1 q2
  have K2:Hid ((wr.setCell ⟨w.heap.size,k+j,none⟩ (.int .u32 (((x:Int)*y+u+cc) % 4294967296))).rowIs w.heap.size 109 (n+m) (fun i=>.int .u32 (upd o' (k+j) ((x*y+u+cc) % 4294967296) i:Nat))):=by
   refine (a.set (k+j) _).congr fun i _=>?_
   unfold upd
   by_cases e:i=k+j
   ·rw [if_pos e,if_pos e]; congr 1 <;> omega
   ·rw [if_neg e,if_neg e]
  have K3:Hid (∀ i,upd o' (k+j) ((x*y+u+cc) % 4294967296) i<4294967296):=fun i=>by
   unfold upd
   split
   ·omega
   ·exact p.out i
  have K4:Hid (∀ i,k+m<=i->upd o' (k+j) ((x*y+u+cc) % 4294967296) i=0):=fun i hi=>by
   rw [zcM (by omega)]; exact l.out i hi
  have K5:Hid ((((x:Int)*y+u+cc) / 4294967296)=(((x*y+u+cc) / 4294967296:Nat):Int)):=by show _=_; omega
  have K6:Hid ((x*y+u+cc) / 4294967296<4294967296):=by show _<_; omega
  clear hy hu p2 a
  go_wp2
  go_roundg (gk - 1)
  case measure=>omega
  case rel=>exact ⟨j+1,(x*y+u+cc) / 4294967296,_,by go_num,by rw [<-K5.out],by omega,by omega,K6.out,hB.setCell (Nat.le_refl _) _,K2.out,K3,K4,K1⟩
 obtain rfl:j=m:=by omega
 have y0:=a.cell (i:=k+j) (by omega)
 have z0:=a.frozen (k+j)
 have C:((k:Int)+(j:Int)).toNat=k+j:=by omega
 have K1:Hid (nv (upd o' (k+j) cc) (n+j)=nv f (k+1)*nv g j):=by
  have h1:=zkt (f:=o') (v:=cc) (show k+j<n+j by omega)
  rw [l.out (k+j) (Nat.le_refl _)] at h1
  have h3:=s.out
  rw [HV.out,HX.out] at h3
  show _=_
  simp only [nv]
  grind
 have K2:Hid ((wr.setCell ⟨w.heap.size,k+j,none⟩ (.int .u32 (cc:Nat))).rowIs w.heap.size 109 (n+j) (fun i=>.int .u32 (upd o' (k+j) cc i:Nat))):=by
  refine (a.set (k+j) _).congr fun i _=>?_
  unfold upd
  by_cases e:i=k+j
  ·rw [if_pos e,if_pos e]
  ·rw [if_neg e,if_neg e]
 have K3:Hid (∀ i,upd o' (k+j) cc i<4294967296):=fun i=>by
  unfold upd
  split
  ·omega
  ·exact p.out i
 have K4:Hid (∀ i,k+1+j<=i->upd o' (k+j) cc i=0):=fun i hi=>by
  rw [zcM (by omega)]; exact l.out i (by omega)
 clear a
 go_wp2
 go_roundg (K - 1)
 case measure=>omega
 case rel=>exact ⟨k+1,_,by go_num,by omega,by omega,hB.setCell (Nat.le_refl _) _,K2.out,K3,K4,K1⟩
theorem zh9 (A A2:Option Addr) (c c2 x y:Nat) (w:World) (h:NatOk w w.heap.size A x) (h2:NatOk w w.heap.size A2 y) (hn:dl x<=536870912) (hn2:dl y<=536870912) :
  Calls Tryz.prog 177 #[.slice A (dl x) c,.slice A2 (dl y) c2] w (NatPost (x*y) w):=by
 have:=zh8 A A2 (dl x) c (dl y) c2 (dg x) (dg y) w h h2 (zf8 x) (zf8 y) hn hn2
 rwa [zi5,zi5] at this
theorem zcZ {x:Nat} (h:0<x) (h1:x<4294967296):dl x=1:=by
 rw [zgI (by omega),Nat.div_eq_of_lt h1,zcc]
theorem zjt {x:Nat} (h1:x<4294967296):dg x 0=x:=by rw [zdM,Nat.mod_eq_of_lt h1]
theorem zfF {w:World} {x:Nat} (T:TypeId) (h:0<x) (h1:x<4294967296):NatOk (w.alloc (Obj.cells #[Value.int .u32 (x:Nat)] T)) (w.alloc (Obj.cells #[Value.int .u32 (x:Nat)] T)).heap.size (some ⟨w.heap.size,0,none⟩) x:=by
 refine zdO (t:=T) ⟨_,heap_alloc_new _ _,by rw [zcZ h h1]; rfl,fun i hi=>?_⟩
 rw [zcZ h h1] at hi
 obtain rfl:i=0:=by omega
 show _=some (Value.int .u32 (dg x 0:Nat))
 rw [zjt h1]
 rfl
def prodN (x:Nat->Nat):Nat->Nat
 | 0=>1
 | k+1=>prodN x k*x k
theorem zgQ (T:Option Addr) (m c:Nat) (x:Nat->Nat) (w:World) (h:NatTab w w.heap.size T m x) (hm:m<=1048576) (hs:Hid (∀ k,k<=m->dl (prodN x k)<=536870912)) (hx:Hid (∀ k,k<m->dl (x k)<=536870912)) :
  Calls Tryz.prog 290 #[.slice T m c] w (NatPost (prodN x m) w):=by
 have d1:Hid (dl (prodN x 0)=1):=zcZ (by show 0<1; omega) (by show 1<_; omega)
 have a:=zfF (w:=w) 109 (x:=1) (by omega) (by omega)
 go_enter Tryz.func290, Tryz.ntmps290
 go_wp2
 go_loopg [9,3] m (fun g iv sv wx=>∃ k:Nat,∃ A c,iv=.int .i64 (k:Nat)/\sv=.slice A (dl (prodN x k)) c/\k<=m/\m<=k+g/\dl (prodN x k)<=c/\c<=maxLen/\NatOk wx wx.heap.size A (prodN x k)/\Below w.heap.size w wx)
 case atStart=>exact ⟨0,_,1,rfl,by rw [d1.out],by omega,by omega,by rw [d1.out]; omega,by unfold maxLen; omega,a,(Below.refl _ _).alloc (Nat.le_refl _) _⟩
 clear a
 obtain ⟨k,A,cA,rfl,rfl,hk,p,hc,n,hA,hB⟩:=hrel
 by_cases hlt:k<m
 ·obtain ⟨b,off,B,cB,rfl,hb,e0,o,d,i⟩:=(h.on hB) k hlt
  have l:(k:Int)<(m:Int):=by omega
  have H1:=hs.out k hk
  have H2:=hx.out k hlt
  go_wp2_with fail
  refine (zfE B cB (x k) wr i o d).mono ?_
  rintro e w1 ⟨rfl,rfl⟩
  go_wp2_with fail
  refine (zh9 A B cA (dl (x k)) (prodN x k) (x k) wr hA i H1 H2).mono ?_
  rintro e w1 ⟨A',c',rfl,g1,g2,g3,g4⟩
  have j:=onS hB g4
  clear g4 hA hB i e0
  go_wp2
  go_roundg (gk - 1)
  case measure=>omega
  case rel=>exact ⟨k+1,A',c',by go_num,rfl,by omega,by omega,g1,g2,g3,j⟩
 obtain rfl:k=m:=by omega
 have H1:=hs.out k (Nat.le_refl _)
 go_wp2_with fail
 refine (zgM A cA (prodN x k) wr hA hc n (by omega)).mono ?_
 rintro e w1 ⟨A',c',rfl,g1,g2,g3,g4⟩
 have j:=onS hB g4
 clear g4
 go_wp2
 go_ret
 exact ⟨A',c',rfl,g1,g2,g3,j⟩
open Go.Shelf
section
variable {P:Program} {w:World}
theorem zaE {ops:Array Oper} {rest:List Oper} {o:Oper} {a:Act} {Q:Exit->Act->World->Prop} (hgd:o.guard=none) (sl x:Operand) (t:TypeId)
  (ho:o.op=.call { callee:=.builtin .append,args:=#[sl,x],argTypes:=#[t,t] })
  (e:TypeId) (i:TypeInfo) (ht:P.underlying t=some (.slice e)) (hi:P.info? e=some i) (b0 o0:Nat) (hv:a.eval sl=.slice (some ⟨b0,o0,none⟩) 0 0)
  (A:Option Addr) (c:Nat) (hx:a.eval x=.slice A 0 c)
  (h:wpList P ops Q rest (a.put o.dst (.slice (some ⟨b0,o0,none⟩) 0 0)) w):wpList P ops Q (o :: rest) a w:=by
 refine wpList_plain hgd fun K hK=>?_
 have b:=zaR (P:=P) w t o.type e i ht hi b0 o0 A c
 unfold Oper.wp execOp
 simp only [ho,resolve,invoke,builtin,Sem.run_bind,Sem.run_pure,Result.andThen_ok,List.map_toArray,List.map_cons,List.map_nil,hv,hx,b]
 exact hK _ _ h
end
theorem zf9 (A A2:Option Addr) (c c2 x:Nat) (w:World) (h:NatOk w w.heap.size A x) (h2:NatOk w w.heap.size A2 x) (hn:dl x<=1073741824) :
  Calls Tryz.prog 42 #[.slice A (dl x) c,.slice A2 (dl x) c2] w fun e w'=>e=.returned (.bool true)/\Below w.heap.size w w':=by
 obtain ⟨n,a⟩:∃ n,n=dl x:=⟨_,rfl⟩
 have HN:=hid a
 rw [<-a] at hn ⊢;clear a
 go_enter Tryz.func42, Tryz.ntmps42
 go_wp2
 go_loopg [5] n (fun gg iv wx=>∃ k:Nat,iv=.int .i64 (k:Nat)/\k<=n/\n<=k+gg/\Below w.heap.size w wx)
 case atStart=>exact ⟨0,rfl,by omega,by omega,Below.refl _ _⟩
 obtain ⟨k,rfl,hk,g,hB⟩:=hrel
 by_cases hlt:k<n
 ·obtain ⟨b,o,rfl,hb,e0⟩:=Lims.at (h.on hB) (i:=k) (by rw [<-HN.out]; exact hlt)
  obtain ⟨b2,o2,rfl,l,e2⟩:=Lims.at (h2.on hB) (i:=k) (by rw [<-HN.out]; exact hlt)
  have d:(k:Int)<(n:Int):=by omega
  have j:(0:Int)<=(k:Int):=by omega
  go_wp2
  go_quiet (fail)
  go_wp2
  go_roundg (gk - 1)
  case measure=>omega
  case rel=>exact ⟨k+1,by go_num,by omega,by omega,zac hB _⟩
 obtain rfl:k=n:=by omega
 go_wp2
 go_ret
 exact ⟨rfl,hB⟩
def IffPost (p:Prop) (w:World) (e:Ending) (w':World):Prop:=∃ v:Bool,e=.returned (.bool v)/\(v=true↔p)/\Below w.heap.size w w'
theorem zbc {p:Prop} {w w':World} (h:p) (hB:Below w.heap.size w w'):IffPost p w (.returned (.bool true)) w':=⟨true,rfl,⟨fun _=>h,fun _=>rfl⟩,hB⟩
theorem zav {p:Prop} {w w':World} (h:¬ p) (hB:Below w.heap.size w w'):IffPost p w (.returned (.bool false)) w':=⟨false,rfl,⟨(fun h=>by cases h),fun h'=>absurd h' h⟩,hB⟩
def OwnI (w:World) (base g o n c:Nat) (r:Nat->Nat):Prop:=Own w base 3 1 (.slice (some ⟨g,o,none⟩) n c) n (fun t _=>.int .i64 (r t:Nat))
theorem OwnI.cell {w:World} {base g o n c i:Nat} {r:Nat->Nat} (h:OwnI w base g o n c r) (hi:i<n):w.cell? ⟨g,o+i,none⟩=some (.int .i64 (r i:Nat)):=by
 obtain ⟨g',o',cap',hv,_,_,_,_,hc⟩:=Own.form h (by omega)
 injection hv with hv
 injection hv with hv
 injection hv with h1 h2
 subst h1 h2
 simpa using hc i hi 0 (by omega)
theorem OwnI.set {w:World} {base g o n c i:Nat} {r:Nat->Nat} (h:OwnI w base g o n c r) (hi:i<n) (z:Nat):OwnI (w.setCell ⟨g,o+i,none⟩ (.int .i64 (z:Int))) base g o n c (fun t=>if t=i then z else r t):=by
 have:=Own.set h hi (show 0<1 by omega) (.int .i64 (z:Int))
 rw [Nat.mul_one,Nat.add_zero] at this
 refine Own.congr this fun t ht j hj=>?_
 show _=Value.int .i64 ((if t=i then z else r t:Nat):Int)
 by_cases e:t=i
 ·rw [if_pos ⟨e,by omega⟩,if_pos e]
 ·rw [if_neg (fun c=>e c.1),if_neg e]
theorem OwnI.congr {w:World} {base g o n c:Nat} {r r':Nat->Nat} (h:OwnI w base g o n c r) (e:∀ i,i<n->r i=r' i):OwnI w base g o n c r':=Own.congr h fun i hi _ _=>by rw [e i hi]
theorem OwnI.drew {w:World} {base g o n c:Nat} {r:Nat->Nat} (h:OwnI w base g o n c r):OwnI w.drew base g o n c r:=h
theorem OwnI.fr {w:World} {base g o n c:Nat} {r:Nat->Nat} (h:OwnI w base g o n c r) (k:Nat):w.frozen? ⟨g,k,none⟩=false:=Own.frozen h k
theorem zga (P M d:Nat) (A L:Option Addr) (c cl:Nat) (m low:Nat->Nat) (w:World) (hP2:2<=P) (hP:P<=256) (hd1:1<=d) (hdM:d<=M) (hM8:M<=8)
  (hm:IntsR w w.heap.size A M (fun i=>(m i:Nat))) (hml:Hid (∀ i,i<M->m i<P)) (hl:IntsR w w.heap.size L d (fun i=>(low i:Nat))) (hll:Hid (∀ i,i<d->low i<P)) :
  Calls Tryz.prog 189 #[.slice L d cl,.slice A M c,.int .i64 (P:Nat)] w (IffPost (DivB P M m d low) w):=by
 obtain ⟨i0,qi0,qz0,qz1,qz2⟩:=info_parts Tryz.infoInt
 have n3:Hid (M<=maxLen):=by show _<=_; unfold maxLen; omega
 have n4:Hid (M*8<=140737488355328):=by show _<=_; omega
 have n5:Hid (M+1<=maxLen):=by show _<=_; unfold maxLen; omega
 have n6:Hid ((M+1)*8<=140737488355328):=by show _<=_; omega
 have ah:0<M:=by omega
 have T:IntsR w w.heap.size A M (fun i=>(modR M m i:Nat)):=hm.congr fun i hi=>by unfold modR; rw [if_pos hi]
 have O:Hid (∀ t,modR M m t<P):=fun t=>by
  show modR M m t<P
  unfold modR
  split
  ·exact hml.out t (by assumption)
  ·omega
 go_enter Tryz.func189, Tryz.ntmps189
 have N:Hid (∀ o1,Rd (w.alloc o1) (w.alloc o1).heap.size A M 1 (fun i _=>.int .i64 (modR M m i:Nat))):=fun o1=>(Rd.alloc T (Nat.le_refl _) o1).mono (by simp)
 go_upto_region 3 with (first | (at_builtin; (refine zal rfl (.tmp 15) (.tmp 16) _ rfl 3 i0 _ 1 8 Tryz.underlying22 qi0 qz0 qz1 qz2 rfl (by omega) _ rfl A M c (fun i _=>.int .i64 (modR M m i:Nat)) rfl (N.out _) ah (fun _ _ _ _=>rfl) n3.out n4.out ?_); intro cap cur k1 k2 k3 k4))
 have a1:=Own.new (w:=w.alloc (Obj.cells #[] 3)) (base:=w.heap.size) (e := 3) (by simp) k1 k2 k3 k4
 have a5:=((Below.refl w.heap.size w).alloc (Nat.le_refl _) (Obj.cells #[] 3)).alloc (by simp) (Obj.cells cur 3)
 obtain ⟨w1,r⟩:∃ W,W=((w.alloc (Obj.cells #[] 3)).alloc (Obj.cells cur 3)).drew:=⟨_,rfl⟩
 obtain ⟨g1,J⟩:=exx (w.heap.size+1)
 have k:Below w.heap.size w w1:=by rw [r]; exact a5.drew
 have b:Own w1 w.heap.size 3 1 (.slice (some ⟨g1,0,none⟩) M cap) M (fun i _=>.int .i64 (modR M m i:Nat)):=by rw [r,J]; simpa using a1.drew
 try simp only [World.alloc_drew]
 rw [<-r,<-J];clear a1 a5 r J k1 k2 k3 k4
 have l:=k.size
 have N1:Hid (∀ j,j<1->(w1.alloc (Obj.cells #[Value.int IntKind.i64 1] 3)).cell? ((⟨w1.heap.size,0,none⟩:Addr).add j)=some (.int .i64 (modR M m M:Nat))):=fun j hj=>by
  obtain rfl:j=0:=by omega
  unfold modR
  rw [if_neg (by omega)]
  exact World.cell?_alloc_at _ _ _ _ rfl
 go_upto_region 4 with (first | (at_builtin; (refine zah _ rfl (.tmp 18) (.tmp 19) _ rfl w.heap.size 3 i0 _ 1 8 Tryz.underlying22 qi0 qz0 qz1 qz2 rfl (by omega) _ M (fun i _=>.int .i64 (modR M m i:Nat)) rfl (b.alloc _) ⟨w1.heap.size,0,none⟩ 1 rfl N1.out (fun _ _=>rfl) n5.out n6.out (by simp; omega) ?_); intro v' w3 hown3 hg3 hat3))
 have a3:Below w.heap.size w w3:=(k.alloc (by omega) _).grown hg3 (by simp; omega) (fun q e=>(b.lt q e).1)
 obtain ⟨g,o,cp,rfl,V,_⟩:=hown3.form (by omega)
 have hO:OwnI w3 w.heap.size g o (M+1) cp (dOut P d low M (modR M m) 0):=hown3
 clear hown3 hg3 hat3 b k N1 N T l n3 n4 n5 n6 qi0 qz0 qz1 qz2
 have b4:(1:Int)<=(M:Int):=by omega
 have ag:(M:Int)<=8:=by omega
 have aw:(1:Int)<=(d:Int):=by omega
 have ac:(d:Int)<=(M:Int):=by omega
 go_wp2
 go_loopg [9,10,11] (M+1 - d) (fun gg iv _ _ wx=>∃ s:Nat,iv=.int .i64 ((M:Int) - (s:Int))/\s<=M+1 - d/\M+1 - d<=s+gg/\OwnI wx w.heap.size g o (M+1) cp (dOut P d low M (modR M m) s)/\Below w.heap.size w wx)
 case atStart=>exact ⟨0,by go_num,by omega,by omega,hO,a3⟩
 clear hO a3
 obtain ⟨s,rfl,hs,a7,hO,hB⟩:=hrel
 by_cases l:s<M+1 - d
 rotate_left
 ·obtain ⟨S,hS⟩:∃ S,S=M+1 - d:=⟨_,rfl⟩
  obtain rfl:s=S:=by omega
  have av:¬ (d:Int)<=(M:Int) - (s:Int):=by omega
  have K:Hid (DivB P M m d low↔∀ t,t<M+1->dOut P d low M (modR M m) s t=0):=by rw [hS]; exact Iff.rfl
  have n:∀ t,dOut P d low M (modR M m) s t<P:=zfB (by omega) O.out s
  obtain ⟨R0,a⟩:=exx (dOut P d low M (modR M m) s)
  rw [<-a] at hO K n
  have v:=hid n
  clear a n hS hs a7 l
  go_wp2
  go_loopg [12] (M+1) (fun gg iv wx=>∃ i:Nat,iv=.int .i64 (i:Nat)/\i<=M+1/\M+1<=i+gg/\(∀ t,t<i->R0 t=0)/\OwnI wx w.heap.size g o (M+1) cp R0/\Below w.heap.size w wx)
  case atStart=>exact ⟨0,rfl,by omega,by omega,fun t ht=>by omega,hO,hB⟩
  clear hO hB
  obtain ⟨i,rfl,hi,ar,hz,hO,hB⟩:=hrel
  have HZ:=hid hz
  clear hz
  have au:(0:Int)<=(i:Int):=by omega
  by_cases l:i<M+1
  rotate_left
  ·obtain ⟨L1,b5⟩:∃ S,S=M+1:=⟨_,rfl⟩
   have B:¬ (i:Int)<(M:Int)+1:=by omega
   have y:Hid (DivB P M m d low):=K.out.2 fun t ht=>HZ.out t (by omega)
   clear hO
   go_wp2
   go_ret
   exact zbc y.out hB
  have B:(i:Int)<(M:Int)+1:=by omega
  have cc:=hO.cell l
  have X:=v.out i
  obtain ⟨x,hx⟩:=exx (R0 i)
  rw [<-hx] at cc X
  have HX:=hid hx
  clear hx
  by_cases h0:x=0
  ·subst h0
   have u:Hid (∀ t,t<i+1->R0 t=0):=fun t ht=>by
    by_cases e:t=i
    ·rw [e]; exact HX.out.symm
    ·exact HZ.out t (by omega)
   go_wp2
   go_roundg (gk - 1)
   case measure=>omega
   case rel=>exact ⟨i+1,by go_num,by omega,by omega,u.out,hO,hB⟩
  have hb:((x:Int) != 0)=true:=by simp; omega
  have a8:Hid (¬ DivB P M m d low):=fun h=>h0 (HX.out.trans (K.out.1 h i l))
  have b3:=hid hO
  clear hO
  go_wp2
  go_ret
  exact zav a8.out hB
 obtain ⟨I,hI⟩:=exx (M - s)
 have H:(M:Int) - (s:Int)=(I:Int):=by omega
 rw [H]
 have b7:d<=I:=by omega
 have ai:(d:Int)<=(I:Int):=by omega
 have b8:I<=M:=by omega
 have b9:(I:Int)<=8:=by omega
 have bb:(0:Int)<=(I:Int):=by omega
 have ba:(I:Int)<(M:Int)+1:=by omega
 have HI:=hid hI
 have am:=hid H
 clear hI H
 obtain ⟨R0,a⟩:=exx (dOut P d low M (modR M m) s)
 have n:∀ t,R0 t<P:=by rw [a]; exact zfB (by omega) O.out s
 rw [<-a] at hO
 have ak:=hid a
 have v:=hid n
 clear a n
 obtain ⟨C,hC⟩:=exx (R0 I)
 have be:C<P:=by rw [hC]; exact v.out I
 have cI:wr.cell? ⟨g,o+I,none⟩=some (.int .i64 (C:Nat)):=by rw [hC]; exact hO.cell (by omega)
 have HC:=hid hC
 clear hC
 go_wp2
 clear cI
 obtain ⟨gI,rfl⟩:∃ gK:Nat,gK=gk:=⟨_,rfl⟩
 go_loopg [11] d (fun gg jv wx=>∃ j:Nat,jv=.int .i64 (j:Nat)/\j<=d/\d<=j+gg/\OwnI wx w.heap.size g o (M+1) cp (dIn P d low I C R0 j)/\Below w.heap.size w wx)
 case atStart=>exact ⟨0,rfl,by omega,by omega,hO,hB⟩
 clear hO hB
 obtain ⟨j,rfl,hj,ap,hO,hB⟩:=hrel
 have aq:(0:Int)<=(j:Int):=by omega
 by_cases hlj:j<d
 rotate_left
 ·obtain rfl:d=j:=by omega
  have F:¬ (d:Int)<(d:Int):=by omega
  have zc:=hO.fr (o+I)
  have ci:=hO.cell (i:=I) (by omega)
  have al:Hid (OwnI (wr.setCell ⟨g,o+I,none⟩ (.int .i64 0)) w.heap.size g o (M+1) cp (dOut P d low M (modR M m) (s+1))):=(hO.set (show I<M+1 by omega) 0).congr fun t ht=>by
   show _=(if t=M - s then 0 else dIn P d low (M - s) (dOut P d low M (modR M m) s (M - s)) (dOut P d low M (modR M m) s) d t)
   rw [<-HI.out,<-ak.out,<-HC.out]
  have an:Hid (Below w.heap.size w (wr.setCell ⟨g,o+I,none⟩ (.int .i64 0))):=hB.setCell V _
  clear hO hB
  go_wp2
  go_roundg (gI - 1)
  case measure=>omega
  case rel=>exact ⟨s+1,by have:=am.out; go_num,by omega,by omega,al.out,an.out⟩
 have F:(j:Int)<(d:Int):=by omega
 obtain ⟨Z,hZ⟩:=exx (I - d)
 obtain ⟨Q,hQ⟩:=exx (I - d+j)
 have Y:Q<M+1:=by omega
 have b6:(I:Int) - (d:Int)=(Z:Int):=by omega
 have ae:Z<=16:=by omega
 have ad:=zkj (P:=P) (d:=d) (low:=low) (i:=I) (c:=C) (by omega) v.out j Q
 have ab:=hll.out j hlj
 obtain ⟨mb,mo,rfl,ao,U⟩:=hl.at hlj
 have cm:=cellS hB U
 have cc:=hO.cell Y
 have zc:=hO.fr (o+Q)
 have u:∀ t,dIn P d low I C R0 (j+1) t=if t=Q then (dIn P d low I C R0 j Q+(P - C)*low j) % P else dIn P d low I C R0 j t:=fun t=>by rw [hQ]; rfl
 obtain ⟨R,hR⟩:∃ R,R=(dIn P d low I C R0 j Q+(P - C)*low j) % P:=⟨_,rfl⟩
 have X:R<P:=by rw [hR]; exact Nat.mod_lt _ (by omega)
 have a0:OwnI (wr.setCell ⟨g,o+Q,none⟩ (.int .i64 (R:Int))) w.heap.size g o (M+1) cp (dIn P d low I C R0 (j+1)):=(hO.set Y R).congr fun t ht=>by
  rw [u t,<-hR]
 have a4:Below w.heap.size w (wr.setCell ⟨g,o+Q,none⟩ (.int .i64 (R:Int))):=hB.setCell V _
 have HO:=hid a0
 have HB:=hid a4
 clear a0 a4
 obtain ⟨D,hD⟩:=exx (dIn P d low I C R0 j Q)
 obtain ⟨G,hG⟩:=exx (low j)
 rw [<-hD] at cc ad hR;rw [<-hG] at cm ab hR
 obtain ⟨E,hE⟩:=exx (P - C)
 rw [<-hE] at hR
 have b1:(P:Int) - (C:Int)=(E:Int):=by omega
 have aj:E*G<=256*256:=Nat.mul_le_mul (by omega) (by omega)
 obtain ⟨Hh,hH⟩:=exx (E*G)
 rw [<-hH] at hR aj
 have a9:(Z:Int)+(j:Int)=(Q:Int):=by omega
 have z:(E:Int)*(G:Int)=(Hh:Int):=by rw [hH]; simp
 have a2:E<=256:=by omega
 clear hD hE hG hH u hO hB hQ hZ U
 have ay:(0:Int)<=(Q:Int):=by omega
 have ax:(Q:Int)<(M:Int)+1:=by omega
 have b2:¬ (P:Int)=0:=by omega
 have az:(2:Int)<=(P:Int):=by omega
 have af:(0:Int)<=(R:Int):=by omega
 have N:(R:Int)<=256:=by omega
 have bd:(0:Int)<=(D:Int):=by omega
 have bc:(0:Int)<=(Hh:Int):=by omega
 have p:(0:Int)<=(D:Int)+(Hh:Int):=by omega
 have b0:¬ P=0:=by omega
 have w1:IntKind.i64.wrap (Q:Int)=(Q:Int):=IntWalk.i64_in _ (by omega)
 have w2:IntKind.i64.wrap (Hh:Int)=(Hh:Int):=IntWalk.i64_in _ (by omega)
 have w3:IntKind.i64.wrap ((D:Int)+(Hh:Int))=(D:Int)+(Hh:Int):=IntWalk.i64_in _ (by omega)
 have w4:IntKind.i64.wrap (R:Int)=(R:Int):=IntWalk.i64_in _ (by omega)
 have w5:IntKind.i64.wrap (Z:Int)=(Z:Int):=IntWalk.i64_in _ (by omega)
 have w6:IntKind.i64.wrap (E:Int)=(E:Int):=IntWalk.i64_in _ (by omega)
 have a6:((D:Int)+(Hh:Int)).tmod (P:Int)=(R:Int):=by rw [Int.tmod_eq_emod_of_nonneg p,hR]; simp
 have aa:((D:Int)+(Hh:Int)) % (P:Int)=(R:Int):=by rw [hR]; simp
 clear hR
 go_wp2
 go_still_tail 25,(by kernel_rfl)
 change wpList _ _ _ _ _ wr.drew
 go_wp2
 clear w1 w2 w3 w4 w5 w6 a6 aa a9 z
 go_roundg (gk - 1)
 case measure=>omega
 case rel=>exact ⟨j+1,by go_num,by omega,by omega,HO.out.drew,HB.out.drew⟩
theorem zdn (P M:Nat) (A:Option Addr) (c:Nat) (m:Nat->Nat) (w:World) (hP2:2<=P) (hP:P<=256) (hM2:2<=M) (hM8:M<=8) (hq:P ^ M<=256)
  (hm:IntsR w w.heap.size A M (fun i=>(m i:Nat))) (hml:Hid (∀ i,i<M->m i<P)) :
  Calls Tryz.prog 134 #[.slice A M c,.int .i64 (P:Nat)] w (IffPost (IrrB P M m) w):=by
 go_enter Tryz.func134, Tryz.ntmps134
 go_wp2
 go_loopg [5,6] M (fun gg cv dv wx=>∃ d:Nat,dv=.int .i64 (d:Nat)/\cv=.int .i64 (P ^ (d - 1):Nat)/\1<=d/\2*d<=M+2/\M+1<=d+gg/\(∀ d',1<=d'->d'<d->∀ v,v<P ^ d'->¬ DivB P M m d' (dig P v))/\Below w.heap.size w wx)
 case atStart=>exact ⟨1,rfl,rfl,by omega,by omega,by omega,fun d' h1 h2=>by omega,Below.refl _ _⟩
 obtain ⟨d,rfl,rfl,t,H,G,r,hB⟩:=hrel
 have y:=hid r
 clear r
 by_cases hlt:2*d<=M
 rotate_left
 ·have n:¬ 2*(d:Int)<=(M:Int):=by omega
  have o:Hid (IrrB P M m):=fun d' h1 h2 v hv=>y.out d' h1 (by omega) v hv
  clear hlt
  go_wp2
  go_ret
  exact zbc o.out hB
 have n:2*(d:Int)<=(M:Int):=by omega
 have C:P ^ d<=256:=Nat.le_trans (Nat.pow_le_pow_right (by omega) (by omega)) hq
 have j:P ^ (d - 1)*P=P ^ d:=by rw [<-Nat.pow_succ]; congr 1; omega
 have B:P ^ (d - 1)<=256:=Nat.le_trans (Nat.pow_le_pow_right (by omega) (by omega)) hq
 obtain ⟨Q,hQ⟩:=exx (P ^ (d - 1))
 obtain ⟨R,hR⟩:=exx (P ^ d)
 rw [<-hQ] at j B;rw [<-hR] at j C;rw [<-hQ]
 have a:(Q:Int)*(P:Int)=(R:Int):=by rw [<-j]; simp
 have z:IntKind.i64.wrap ((Q:Int)*(P:Int))=(R:Int):=by rw [a]; exact IntWalk.i64_in _ (by omega)
 have E:IntKind.i64.wrap (R:Int)=(R:Int):=IntWalk.i64_in _ (by omega)
 have HR:=hid hR
 clear hQ hR j
 go_wp2
 obtain ⟨gI,rfl⟩:∃ gK:Nat,gK=gk:=⟨_,rfl⟩
 clear z a
 go_loopg [7] R (fun gg vv wx=>∃ v:Nat,vv=.int .i64 (v:Nat)/\v<=R/\R<=v+gg/\(∀ v',v'<v->¬ DivB P M m d (dig P v'))/\Below w.heap.size w wx)
 case atStart=>exact ⟨0,rfl,by omega,by omega,fun v' h=>by omega,hB⟩
 clear hB
 obtain ⟨v,rfl,hv,F,q,hB⟩:=hrel
 have x:=hid q
 clear q
 by_cases hlv:v<R
 rotate_left
 ·obtain rfl:v=R:=by omega
  have l:¬ (v:Int)<(v:Int):=by omega
  have k:Hid (∀ d',1<=d'->d'<d+1->∀ v',v'<P ^ d'->¬ DivB P M m d' (dig P v')):=fun d' h1 h2 v' h3=>by
   by_cases e:d'=d
   ·subst e
    exact x.out v' (by rw [HR.out]; exact h3)
   ·exact y.out d' h1 (by omega) v' h3
  go_wp2
  go_roundg (gI - 1)
  case measure=>omega
  case rel=>exact ⟨d+1,by go_num,by rw [HR.out]; simp,by omega,by omega,by omega,k.out,hB⟩
 have l:(v:Int)<(R:Int):=by omega
 go_wp2_with fail
 refine (zeg v P d _ (by omega) (by omega) (by omega) (by omega)).mono ?_
 rintro e w1 ⟨rfl,rd,kb⟩
 have p:=onS hB kb
 have g:IntsR w1 w1.heap.size (some ⟨wr.heap.size,0,none⟩) d (fun i=>(dig P v i:Nat)):=zbl rd
 have s:Hid (∀ i,i<d->dig P v i<P):=fun i _=>zb7 (by omega) v i
 clear kb rd
 go_wp2_with fail
 refine (zga P M d A _ c d m (dig P v) w1 hP2 hP t (by omega) hM8 (hm.on p) hml g s).mono ?_
 rintro e w2 ⟨b,rfl,hb,kb⟩
 have u:=onS p kb
 clear kb g s hB p
 have HB:=hid hb
 clear hb
 cases b
 ·have k:Hid (∀ v',v'<v+1->¬ DivB P M m d (dig P v')):=fun v' h h2=>by
   by_cases e:v'=v
   ·have:=HB.out.2 (e ▸ h2)
    cases this
   ·exact x.out v' (by omega) h2
  go_wp2
  go_roundg (gk - 1)
  case measure=>omega
  case rel=>exact ⟨v+1,by go_num,by omega,by omega,k.out,u⟩
 have D:Hid (¬ IrrB P M m):=fun h=>h d t hlt v (by rw [<-HR.out]; exact hlv) (HB.out.1 rfl)
 go_wp2
 go_ret
 exact zav D.out u
def GoodF (P M:Int) (k:Nat) (f:Nat->Int):Prop :=
 ∃ P' M':Nat,P=P'/\M=M'/\FldOk P' M'/\PrimeB P'/\((M'=1/\k=0)∨(2<=M'/\k=M'/\(∀ i,i<M'->0<=f i/\f i<P')/\IrrB P' M' (fun i=>(f i).toNat)))
theorem GoodF.field {P M:Nat} {k:Nat} {f:Nat->Int} (h:GoodF (P:Int) (M:Int) k f):FieldOk P M (fun i=>(f i).toNat)/\(M=1∨k=M):=by
 obtain ⟨P',M',h1,h2,h3,h4,h5⟩:=h
 obtain rfl:P=P':=by omega
 obtain rfl:M=M':=by omega
 rcases h5 with ⟨e,_⟩ | ⟨e1,e2,e3,e4⟩
 ·exact ⟨⟨h3,h4,.inl e,fun d h1 h2=>by omega⟩,.inl e⟩
 ·exact ⟨⟨h3,h4,.inr fun t ht=>by have:=e3 t ht; show (f t).toNat<P; omega,e4⟩,.inr e2⟩
theorem GoodF.mod {P M:Nat} {k:Nat} {f:Nat->Int} {w:World} {A:Option Addr} (h:GoodF (P:Int) (M:Int) k f) (hr:IntsR w w.heap.size A k f):ModOk w P M A (fun i=>(f i).toNat):=by
 obtain ⟨P',M',h1,h2,h3,h4,h5⟩:=h
 obtain rfl:P=P':=by omega
 obtain rfl:M=M':=by omega
 rcases h5 with ⟨e,_⟩ | ⟨e1,rfl,e3,e4⟩
 ·exact .inl e
 ·exact .inr ⟨hr.congr fun i hi=>by have:=e3 i hi; show f i=((f i).toNat:Int); omega,fun i hi=>by have:=e3 i hi; show (f i).toNat<P; omega⟩
def CheckPost (p:Prop) (w:World) (e:Ending) (w':World):Prop:=∃ v:Int,e=.returned (.int .i64 v)/\((v=0/\p)∨(v=1/\¬ p))/\Below w.heap.size w w'
theorem zco {p:Prop} {w w':World} (h:p) (hB:Below w.heap.size w w'):CheckPost p w (.returned (.int .i64 0)) w':=⟨0,rfl,.inl ⟨rfl,h⟩,hB⟩
theorem zaM {p:Prop} {w w':World} (h:¬ p) (hB:Below w.heap.size w w'):CheckPost p w (.returned (.int .i64 1)) w':=⟨1,rfl,.inr ⟨rfl,h⟩,hB⟩
theorem zdz (P M:Int) (A:Option Addr) (k c:Nat) (f:Nat->Int) (w:World) (hr:IntsR w w.heap.size A k f) :
  Calls Tryz.prog 69 #[.agg #[.int .i64 P,.int .i64 M,.slice A k c]] w (CheckPost (GoodF P M k f) w):=by
 obtain ⟨w0,m,hB,rf⟩:=zao w (.int .i64 P) (.int .i64 M) (.slice A k c) 24
 go_enter Tryz.func69, Tryz.ntmps69
 go_upto_region 1 with fail
 rw [<-m];clear m
 have q0:=qc0 rf
 have q1:=qc1 rf
 have q2:=qc2 rf
 go_wp2_with fail
 refine (zbQ P M A k c _).mono ?_
 rintro e w1 ⟨rfl,kb⟩
 replace rf:=zaa rf kb;replace hB:=onS hB kb;clear kb q0 q1 q2
 by_cases h0:ordV P M=0
 ·have a:Hid (¬ GoodF P M k f):=by
   rintro ⟨P',M',rfl,rfl,h3,_⟩
   rw [zb6 h3] at h0
   have:=Nat.pow_pos (n:=M') (show 0<P' by have:=h3.1; omega)
   omega
  rw [h0];clear h0 rf
  go_wp2
  go_ret
  exact zaM a.out hB
 obtain ⟨P,M,rfl,rfl,hf⟩:=ziX h0
 obtain ⟨v,hv⟩:=exx (ordV (P:Int) (M:Int))
 rw [<-hv] at h0;rw [<-hv]
 have u:(v == 0)=false:=by simpa using h0
 have E:=hf.1
 have r:=hf.P_le
 have J:=hf.2.1
 have F:=hf.2.2.1
 have hq:=hf.2.2.2
 have HF:=hid hf
 clear hv hf
 have q0:=qc0 rf
 have q1:=qc1 rf
 have q2:=qc2 rf
 go_wp2_with fail
 refine (zhY P _ r).mono ?_
 rintro e w2 ⟨b,rfl,hb,rfl⟩
 have l:=hid hb
 clear hb h0 u
 cases b
 ·have a:Hid (¬ GoodF (P:Int) (M:Int) k f):=by
   rintro ⟨P',M',e1,e2,h3,h4,_⟩
   obtain rfl:P=P':=by omega
   have:=l.out.2 h4
   cases this
  go_wp2
  go_ret
  exact zaM a.out hB
 have hp:Hid (PrimeB P):=l.out.1 rfl
 clear l
 by_cases hM:M=1
 ·subst hM
  by_cases hk0:k=0
  ·subst hk0
   have d:Hid (GoodF (P:Int) ((1:Nat):Int) 0 f):=⟨P,1,rfl,rfl,HF.out,hp.out,.inl ⟨rfl,rfl⟩⟩
   go_wp2
   go_ret
   exact zco d.out hB
  have C:((k:Int) != 0)=true:=by simp; omega
  have a:Hid (¬ GoodF (P:Int) ((1:Nat):Int) k f):=by
   rintro ⟨P',M',e1,e2,h3,h4,⟨e3,e4⟩ | ⟨e3,_⟩⟩
   ·exact hk0 e4
   ·omega
  go_wp2
  go_ret
  exact zaM a.out hB
 have G:((M:Int) == 1)=false:=by simp; omega
 by_cases hkM:k=M
 rotate_left
 ·have B:((k:Int) != (M:Int))=true:=by simp; omega
  have a:Hid (¬ GoodF (P:Int) (M:Int) k f):=by
   rintro ⟨P',M',e1,e2,h3,h4,⟨e3,e4⟩ | ⟨e3,e4,_⟩⟩
   ·omega
   ·omega
  go_wp2
  go_ret
  exact zaM a.out hB
 subst hkM
 have z:((k:Int) != (k:Int))=false:=by simp
 have q:2<=k:=by omega
 go_wp2
 clear q0 q1 q2 G z
 go_loopg [3] k (fun gg iv wx=>∃ i:Nat,iv=.int .i64 (i:Nat)/\i<=k/\k<=i+gg/\(∀ i',i'<i->0<=f i'/\f i'<P)/\wx.rowIs w.heap.size 24 3 (fldCell (.int .i64 (P:Nat)) (.int .i64 (k:Nat)) (.slice A k c))/\Below w.heap.size w wx)
 case atStart=>exact ⟨0,rfl,by omega,by omega,fun i' h=>by omega,rf,hB⟩
 clear rf hB
 obtain ⟨i,rfl,hi,H,hg,rf,hB⟩:=hrel
 have HG:=hid hg
 clear hg
 have I:(0:Int)<=(i:Int):=by omega
 have q0:=qc0 rf
 have q1:=qc1 rf
 have q2:=qc2 rf
 by_cases hlt:i<k
 rotate_left
 ·obtain rfl:i=k:=by omega
  have j:¬ (i:Int)<(i:Int):=by omega
  have g:IntsR wr wr.heap.size A i (fun t=>((f t).toNat:Nat)):=(hr.on hB).congr fun t ht=>by have:=HG.out t ht; omega
  have p:Hid (∀ t,t<i->(f t).toNat<P):=fun t ht=>by have:=HG.out t ht; omega
  go_wp2_with fail
  refine (zdn P i A c _ wr E r q F hq g p).mono ?_
  rintro e w2 ⟨b,rfl,hb,kb⟩
  replace hB:=onS hB kb
  have s:=hid hb
  clear kb q0 q1 q2 g p hb rf
  cases b
  ·have a:Hid (¬ GoodF (P:Int) (i:Int) i f):=by
    rintro ⟨P',M',e1,e2,h3,h4,⟨e3,e4⟩ | ⟨e3,e4,e5,e6⟩⟩
    ·omega
    obtain rfl:P=P':=by omega
    subst e4
    have:=s.out.2 e6
    cases this
   go_wp2
   go_ret
   exact zaM a.out hB
  have d:Hid (GoodF (P:Int) (i:Int) i f):=⟨P,i,rfl,rfl,HF.out,hp.out,.inr ⟨q,rfl,HG.out,s.out.1 rfl⟩⟩
  go_wp2
  go_ret
  exact zco d.out hB
 have j:(i:Int)<(k:Int):=by omega
 obtain ⟨b,o,rfl,hb,e0⟩:=(hr.on hB).at hlt
 obtain ⟨x,hx⟩:=exx (f i)
 rw [<-hx] at e0
 have HX:=hid hx
 clear hx
 have a:Hid (x<0∨(P:Int)<=x->¬ GoodF (P:Int) (k:Int) k f):=by
  rintro hc ⟨P',M',e1,e2,h3,h4,⟨e3,e4⟩ | ⟨e3,e4,e5,_⟩⟩
  ·omega
  have:=e5 i (by omega)
  rw [<-HX.out] at this
  omega
 by_cases hx0:x<0
 ·have hd:decide (x<0)=true:=by simpa using hx0
  go_wp2
  go_quiet (fail)
  go_wp2
  go_ret
  exact zaM (a.out (.inl hx0)) (zac hB _)
 have hd:decide (x<0)=false:=by simpa using hx0
 by_cases hxP:(P:Int)<=x
 ·have D:decide ((P:Int)<=x)=true:=by simpa using hxP
  go_wp2
  go_quiet (fail)
  go_wp2
  go_ret
  exact zaM (a.out (.inr hxP)) (zac hB _)
 have D:decide ((P:Int)<=x)=false:=by simpa using hxP
 have y:Hid (∀ i',i'<i+1->0<=f i'/\f i'<P):=fun i' h=>by
  by_cases e:i'=i
  ·rw [e,<-HX.out]; omega
  ·exact HG.out i' (by omega)
 clear a
 go_wp2
 go_quiet (fail)
 go_wp2
 go_roundg (gk - 1)
 case measure=>omega
 case rel=>exact ⟨i+1,by go_num,by omega,by omega,y.out,zbu rf _,zac hB _⟩
def negF (P M x:Nat):Nat:=valN P (fun i=>(P - dig P x i) % P) M
theorem zbv {P M x:Nat} (hP:0<P):negF P M x<P ^ M:=zbh fun _ _=>Nat.mod_lt _ hP
theorem zbn {P M x:Nat} (hP:0<P):addF P M x (negF P M x)=0:=by
 have a:addF P M x (negF P M x)<P ^ M:=zbh fun _ _=>Nat.mod_lt _ hP
 refine zek hP a (Nat.pow_pos hP) fun j hj=>?_
 unfold addF
 rw [za7 (fun i _=>Nat.mod_lt _ hP) j hj]
 unfold negF
 rw [za7 (fun i _=>Nat.mod_lt _ hP) j hj]
 have h0:dig P 0 j=0:=by unfold dig; simp
 rw [h0]
 have h1:=zb7 hP x j
 obtain ⟨d,hd⟩:=exx (dig P x j)
 rw [<-hd] at h1 ⊢
 rcases Nat.eq_zero_or_pos d with h2 | h2
 ·subst h2; simp
 ·rw [Nat.mod_eq_of_lt (show P - d<P by omega),show d+(P - d)=P by omega,Nat.mod_self]
theorem zaF {w w':World} {P M:Nat} {A:Option Addr} {m:Nat->Nat} (h:ModOk w P M A m) (hb:Below w.heap.size w w'):ModOk w' P M A m:=by
 rcases h with h | ⟨h1,h2⟩
 ·exact .inl h
 ·exact .inr ⟨h1.on hb,h2⟩
theorem zcO (P M:Nat) (A:Option Addr) (k c:Nat) (x:Int) (w:World) (hf:FldOk P M) :
  Calls Tryz.prog 184 #[.agg #[.int .i64 (P:Nat),.int .i64 (M:Nat),.slice A k c],.int .i64 x] w fun e w'=>e=.returned (.int .i64 (negF P M (inV (P ^ M) x):Nat))/\Below w.heap.size w w':=by
 have C:=hf.1
 have hP:=hf.P_le
 have E:=hf.2.2.1
 have hq:=hf.2.2.2
 obtain ⟨w0,h,hB,rf⟩:=zao w (.int .i64 (P:Nat)) (.int .i64 (M:Nat)) (.slice A k c) 24
 go_enter Tryz.func184, Tryz.ntmps184
 go_upto_region 1 with fail
 rw [<-h];clear h
 have h:=rf.lt
 have q0:=qc0 rf
 have q1:=qc1 rf
 have q2:=qc2 rf
 go_wp2_with fail
 refine (zbg P M A k c x _ hf).mono ?_
 rintro e w1 ⟨ga,rfl,z,ra,kb⟩
 replace rf:=zaa rf kb
 have q:=hB.size
 replace hB:=onS hB kb;clear kb q0 q1 q2
 obtain ⟨X,hX⟩:=exx (inV (P ^ M) x)
 rw [<-hX] at ra
 have HX:=hid hX
 clear hX
 have n:w.heap.size≠ga:=by omega
 have o:w.heap.size<=ga:=by omega
 clear z q h
 go_wp2
 go_loopg [6] M (fun gg iv wx=>∃ i:Nat,iv=.int .i64 (i:Nat)/\i<=M/\M<=i+gg/\wx.rowIs ga 3 M (fun t=>.int .i64 (if t<i then ((P - dig P X t) % P:Nat) else (dig P X t:Nat):Nat))/\wx.rowIs w.heap.size 24 3 (fldCell (.int .i64 (P:Nat)) (.int .i64 (M:Nat)) (.slice A k c))/\Below w.heap.size w wx)
 case atStart=>exact ⟨0,rfl,by omega,by omega,ra.congr fun t _=>rfl,rf,hB⟩
 clear ra rf hB
 obtain ⟨i,rfl,hi,F,ra,rf,hB⟩:=hrel
 have G:(0:Int)<=(i:Int):=by omega
 by_cases hlt:i<M
 rotate_left
 ·obtain rfl:M=i:=by omega
  have m:¬ (M:Int)<(M:Int):=by omega
  have hr:wr.rowIs ga 3 M (fun t=>.int .i64 ((P - dig P X t) % P:Nat)):=ra.congr fun t ht=>by rw [if_pos ht]
  have g:=rowInts hr
  have j:Hid (valN P (fun t=>(P - dig P X t) % P) M=negF P M (inV (P ^ M) x)):=by rw [HX.out]; rfl
  have l:Hid (∀ t,t<M->(P - dig P X t) % P<P):=fun t _=>Nat.mod_lt _ (by omega)
  clear ra hr
  have q0:=qc0 rf
  have q1:=qc1 rf
  have q2:=qc2 rf
  go_wp2_with fail
  refine (zcn P M A k c (some ⟨ga,0,none⟩) M M _ _ C hP g l hq E).mono ?_
  rintro e w3 ⟨rfl,kb⟩
  replace hB:=onS hB kb;clear kb q0 q1 q2 rf;rw [j.out]
  obtain ⟨R,hR⟩:=exx (negF P M (inV (P ^ M) x))
  rw [<-hR]
  have HR:=hid hR
  clear hR g
  go_wp2
  go_ret
  exact ⟨by rw [HR.out]; rfl,hB⟩
 have m:(i:Int)<(M:Int):=by omega
 have B:=zb7 (p:=P) (by omega) X i
 have ca:wr.cell? ⟨ga,i,none⟩=some (.int .i64 (dig P X i:Nat)):=by have:=ra.cell hlt; simpa using this
 have q0:=qc0 rf
 have za:=ra.frozen i
 obtain ⟨R,hR⟩:∃ R,R=(P - dig P X i) % P:=⟨_,rfl⟩
 have H:R<P:=by rw [hR]; exact Nat.mod_lt _ (by omega)
 have ra2:(wr.setCell ⟨ga,i,none⟩ (.int .i64 (R:Int))).rowIs ga 3 M (fun t=>.int .i64 (if t<i+1 then ((P - dig P X t) % P:Nat) else (dig P X t:Nat):Nat)):=(ra.set i _).congr fun t ht=>by
  by_cases e:t=i
  ·subst e
   rw [if_pos rfl,if_pos (by omega),hR]
  rw [if_neg e]
  by_cases e2:t<i
  ·rw [if_pos e2,if_pos (by omega)]
  ·rw [if_neg e2,if_neg (by omega)]
 have rf2:=rf.setOther (a:=⟨ga,i,none⟩) (by simpa using n) (.int .i64 (R:Int))
 have s:Below w.heap.size w (wr.setCell ⟨ga,i,none⟩ (.int .i64 (R:Int))):=hB.setCell o _
 have RA:=hid ra2
 have RF:=hid rf2
 have HB:=hid s
 obtain ⟨D,hD⟩:=exx (dig P X i)
 rw [<-hD] at ca B hR;clear ra2 rf2 s hD ra rf hB
 have J:¬ (P:Int)=0:=by omega
 have I:¬ P=0:=by omega
 have d:(0:Int)<=(P:Int) - (D:Int):=by omega
 have b:((P:Int) - (D:Int))=((P - D:Nat):Int):=by omega
 have r:((P:Int) - (D:Int)) % (P:Int)=(R:Int):=by rw [hR,b]; rfl
 have y:((P:Int) - (D:Int)).tmod (P:Int)=(R:Int):=by rw [Int.tmod_eq_emod_of_nonneg d]; exact r
 have u:IntKind.i64.wrap ((P:Int) - (D:Int))=(P:Int) - (D:Int):=IntWalk.i64_in _ (by omega)
 have v:IntKind.i64.wrap (R:Int)=(R:Int):=IntWalk.i64_in _ (by omega)
 clear hR b
 go_wp2
 go_still_tail 13,(by kernel_rfl)
 change wpList _ _ _ _ _ wr.drew
 go_wp2
 clear y u v r
 go_roundg (gk - 1)
 case measure=>omega
 case rel=>exact ⟨i+1,by go_num,by omega,by omega,RA.out,RF.out,HB.out.drew⟩
def InvPost (q:Nat) (mul:Nat->Nat->Nat) (x:Nat) (w:World) (e:Ending) (w':World):Prop :=
 ∃ y:Nat,e=.returned (.int .i64 (y:Nat))/\Below w.heap.size w w'/\y<q/\((∃ z,1<=z/\z<q/\mul x z=1)->mul x y=1)
theorem zdQ (P M:Nat) (A:Option Addr) (k c:Nat) (m:Nat->Nat) (x:Int) (w:World) (hf:FldOk P M) (hm:ModOk w P M A m) (hkM:M=1∨k=M) :
  Calls Tryz.prog 226 #[.agg #[.int .i64 (P:Nat),.int .i64 (M:Nat),.slice A k c],.int .i64 x] w (InvPost (P ^ M) (mulF P M m) (inV (P ^ M) x) w):=by
 have y:=hf.1
 have hq:=hf.2.2.2
 have l:0<P ^ M:=Nat.pow_pos (by omega)
 obtain ⟨w0,j,hB,rf⟩:=zao w (.int .i64 (P:Nat)) (.int .i64 (M:Nat)) (.slice A k c) 24
 obtain ⟨q,b⟩:=exx (P ^ M)
 have HQ:=hid b
 have a:ordV (P:Int) (M:Int)=(q:Nat):=by
  unfold ordV
  rw [if_pos ⟨by omega,by have:=hf.2.1; omega,by have:=hf.2.2.1; omega,by simpa using hq⟩,b]
  simp
 rw [<-b] at hq l ⊢
 have h:=hid a
 obtain ⟨X,hX⟩:=exx (inV q x)
 rw [<-hX]
 have HX:=hid hX
 clear hX a b
 go_enter Tryz.func226, Tryz.ntmps226
 go_upto_region 1 with fail
 rw [<-j];clear j
 go_wp2
 go_loopg [5] q (fun gg iv wx=>∃ i:Nat,iv=.int .i64 (i:Nat)/\1<=i/\i<=q/\q<=i+gg/\(∀ z,1<=z->z<i->mulF P M m X z≠1)/\wx.rowIs w.heap.size 24 3 (fldCell (.int .i64 (P:Nat)) (.int .i64 (M:Nat)) (.slice A k c))/\Below w.heap.size w wx)
 case atStart=>exact ⟨1,rfl,by omega,by omega,by omega,fun z h1 h2=>absurd h2 (by omega),rf,hB⟩
 clear rf hB
 obtain ⟨i,rfl,u,hi,s,n,rf,hB⟩:=hrel
 have v:(0:Int)<=(i:Int):=by omega
 have p:=hid n
 clear n
 have q0:=qc0 rf
 have q1:=qc1 rf
 have q2:=qc2 rf
 go_wp2_with fail
 refine (zbQ (P:Int) (M:Int) A k c wr).mono ?_
 rintro e w1 ⟨rfl,kb⟩
 rw [h.out];replace rf:=zaa rf kb;replace hB:=onS hB kb;clear kb q0 q1 q2
 have q0:=qc0 rf
 have q1:=qc1 rf
 have q2:=qc2 rf
 by_cases hlt:i<q
 rotate_left
 ·have d:¬ (i:Int)<(q:Int):=by omega
  go_wp2
  go_ret
  refine ⟨0,rfl,hB,l,fun ⟨z,h1,h2,h3⟩=>absurd h3 (p.out z h1 (by omega))⟩
 have d:(i:Int)<(q:Int):=by omega
 go_wp2_with fail
 refine (zdG P M A k c m x (i:Nat) w1 hf (zaF hm hB) hkM).mono ?_
 rintro e w2 ⟨rfl,kb⟩
 rw [<-HQ.out,<-HX.out]
 have o:inV q (i:Nat)=i:=by unfold inV; rw [if_pos ⟨by omega,by omega⟩]; omega
 rw [o];replace rf:=zaa rf kb;replace hB:=onS hB kb;clear kb q0 q1 q2 o
 obtain ⟨r,hr⟩:=exx (mulF P M m X i)
 rw [<-hr]
 have HR:=hid hr
 clear hr
 by_cases h1:r=1
 ·have hc:((r:Int) == 1)=true:=by simp [h1]
  have g:Hid (mulF P M m X i=1):=by rw [<-HR.out]; exact h1
  clear h1
  go_wp2
  go_ret
  exact ⟨i,rfl,hB,hlt,fun _=>g.out⟩
 have hc:((r:Int) == 1)=false:=by simp; omega
 have g:Hid (mulF P M m X i≠1):=by rw [<-HR.out]; exact h1
 clear h1
 go_wp2
 go_roundg (gk - 1)
 case measure=>omega
 refine ⟨i+1,by go_num,by omega,by omega,by omega,fun z hz1 hz2=>?_,rf,hB⟩
 by_cases e:z=i
 ·subst e; exact g.out
 ·exact p.out z hz1 (by omega)
theorem zju {P M:Int} (h:256<P):ordV P M=0:=by
 unfold ordV
 split
 ·rename_i h2
  exfalso
  obtain ⟨h3,h4,_,h5⟩:=h2
  have h6:=Nat.pow_le_pow_right (n:=P.toNat) (show 0<P.toNat by omega) (show 1<=M.toNat by omega)
  rw [Nat.pow_one] at h6
  omega
 ·rfl
theorem zcp (P M:Int) (w:World):Calls Tryz.prog 146 #[.int .i64 P,.int .i64 M] w (OrderPost P M w):=by
 by_cases h1:P<2
 ·have hz:=hid (zdw (P:=P) (M:=M) (.inl h1))
  go_enter Tryz.func146, Tryz.ntmps146
  go_wp2
  go_ret
  exact zaH hz.out (Below.refl _ _)
 by_cases h2:P > 256
 ·have hz:=hid (zju (P:=P) (M:=M) h2)
  go_enter Tryz.func146, Tryz.ntmps146
  go_wp2
  go_ret
  exact zaH hz.out (Below.refl _ _)
 by_cases h3:M<1
 ·have hz:=hid (zdw (P:=P) (M:=M) (.inr (.inl h3)))
  go_enter Tryz.func146, Tryz.ntmps146
  go_wp2
  go_ret
  exact zaH hz.out (Below.refl _ _)
 by_cases h4:M > 8
 ·have hz:=hid (zdw (P:=P) (M:=M) (.inr (.inr h4)))
  go_enter Tryz.func146, Tryz.ntmps146
  go_wp2
  go_ret
  exact zaH hz.out (Below.refl _ _)
 obtain ⟨p,rfl⟩:∃ p:Nat,P=p:=⟨P.toNat,by omega⟩
 obtain ⟨m,rfl⟩:∃ m:Nat,M=m:=⟨M.toNat,by omega⟩
 have a:Hid (∀ v:Nat,(p ^ m<=256->v=p ^ m)->(256<p ^ m->v=0)->ordV (p:Int) (m:Int)=(v:Int)):=fun v hv1 hv2=>by
  unfold ordV
  rw [Int.toNat_natCast,Int.toNat_natCast]
  by_cases h:p ^ m<=256
  ·rw [if_pos ⟨by omega,by omega,by omega,h⟩,hv1 h]
  ·rw [if_neg (fun hh=>h hh.2.2.2),hv2 (by omega)]; rfl
 have l:(0:Int)<=(m:Int):=by omega
 go_enter Tryz.func146, Tryz.ntmps146
 go_wp2
 go_loopg [5,21] m (fun gg qv iv wx=>∃ i y:Nat,qv=.int .i64 (y:Nat)/\iv=.int .i64 (i:Nat)/\i<=m/\m<=i+gg/\Hid (y=p ^ i)/\y<=256/\wx=w)
 case atStart=>exact ⟨0,1,rfl,rfl,by omega,by omega,rfl,by omega,rfl⟩
 obtain ⟨i,y,rfl,rfl,hi,o,HY,hy,d⟩:=hrel
 subst d
 by_cases hlt:i<m
 rotate_left
 ·have c:¬ (i:Int)<(m:Int):=by omega
  obtain rfl:i=m:=by omega
  have b:=hid (a.out y (fun _=>HY.out) (fun h=>by have:=HY.out; omega))
  go_wp2
  go_ret
  exact ⟨by rw [b.out]; rfl,Below.refl _ _⟩
 have c:(i:Int)<(m:Int):=by omega
 obtain ⟨z,hz⟩:=exx (y*p)
 have j:(y:Int)*(p:Int)=(z:Int):=by rw [hz]; simp
 have k:z<=65536:=by rw [hz]; exact Nat.mul_le_mul (show y<=256 by omega) (show p<=256 by omega)
 have HZ:Hid (z=p ^ (i+1)):=by show _=_; rw [hz,HY.out,Nat.pow_succ]
 clear hz
 by_cases hb:z > 256
 ·have g:(z:Int) > 256:=by omega
  have e:=hid (a.out 0 (fun h=>by
   have h5:=Nat.pow_le_pow_right (n:=p) (by omega) (show i+1<=m by omega)
   rw [<-HZ.out] at h5
   omega) (fun _=>rfl))
  go_wp2
  go_ret
  exact ⟨by rw [e.out]; rfl,Below.refl _ _⟩
 have g:¬ (z:Int) > 256:=by omega
 go_wp2
 go_roundg (gk - 1)
 case measure=>omega
 case rel=>exact ⟨i+1,z,rfl,by go_num,by omega,by omega,HZ,by omega,rfl⟩
theorem zdR {n d:Nat} (hd:n<d*d) (h:∀ e,2<=e->e<d->n % e≠0):PrimeB n:=by
 intro e h1 h2 h3
 obtain ⟨f,hf⟩:=Nat.dvd_of_mod_eq_zero h3
 have a:2<=f:=by
  rcases (show f=0∨f=1∨2<=f by omega) with e0 | e0 | e0
  ·subst e0; omega
  ·subst e0; omega
  ·exact e0
 by_cases he:e<d
 ·exact h e h1 he h3
 by_cases hfd:f<d
 ·exact h f a hfd (by rw [hf]; exact Nat.mul_mod_left e f)
 ·have:=Nat.mul_le_mul (show d<=e by omega) (show d<=f by omega)
  omega
theorem zgb (P:Nat) (w:World) (hP2:2<=P) (hP:P<=256) :
  Calls Tryz.prog 198 #[.int .i64 (P:Nat)] w (PrimePost P w):=by
 have l:(P:Int) ≥ 2:=by omega
 have g:(2:Int)<=(P:Int):=by omega
 go_enter Tryz.func198, Tryz.ntmps198
 go_wp2
 go_loopg [3] 20 (fun gg iv wx=>∃ d:Nat,iv=.int .i64 (d:Nat)/\2<=d/\d<=17/\20<=d+gg/\Hid (∀ d',2<=d'->d'<d->P % d'≠0)/\wx=w)
 case atStart=>exact ⟨2,rfl,by omega,by omega,by omega,fun d' h1 h2=>absurd h1 (by omega),rfl⟩
 obtain ⟨d,rfl,h2,hd,s,HG,i⟩:=hrel
 subst i
 have t:(2:Int)<=(d:Int):=by omega
 have u:¬ (d:Int)=0:=by omega
 have q:(d:Int)<=17:=by omega
 obtain ⟨z,hz⟩:=exx (d*d)
 have o:(d:Int)*(d:Int)=(z:Int):=by rw [hz]; simp
 have p:z<=289:=by rw [hz]; exact Nat.mul_le_mul hd hd
 have HZ:=hid hz
 clear hz
 by_cases hlt:z<=P
 rotate_left
 ·have b:¬ (z:Int)<=(P:Int):=by omega
  have c:=hid (zdR (n:=P) (d:=d) (by have:=HZ.out; omega) HG.out)
  go_wp2
  go_ret
  exact ⟨true,rfl,⟨fun _=>c.out,fun _=>rfl⟩,rfl⟩
 have b:(z:Int)<=(P:Int):=by omega
 have a:(P:Int) % (d:Int)=((P % d:Nat):Int):=by simp
 obtain ⟨r,hr⟩:=exx (P % d)
 rw [<-hr] at a
 have HR:=hid hr
 clear hr
 have k:d<=16:=Classical.byContradiction fun hn=>by
  obtain rfl:d=17:=by omega
  have:=HZ.out
  omega
 by_cases h0:r=0
 ·subst h0
  have m:Hid (¬ PrimeB P):=fun h=>h d h2 (by
   have:=HZ.out
   have h5:2*d<=d*d:=Nat.mul_le_mul_right d h2
   omega) HR.out.symm
  go_wp2
  go_ret
  exact ⟨false,rfl,⟨(fun h=>by cases h),fun h=>absurd h m.out⟩,rfl⟩
 have hb:((r:Int) == 0)=false:=by simp; omega
 have j:Hid (∀ d',2<=d'->d'<d+1->P % d'≠0):=fun d' e1 e2=>by
  by_cases e:d'=d
  ·rw [e,<-HR.out]; exact h0
  ·exact HG.out d' e1 (by omega)
 go_wp2
 go_roundg (gk - 1)
 case measure=>omega
 case rel=>exact ⟨d+1,by go_num,by omega,by omega,by omega,j,rfl⟩
theorem zc0 (x p n:Nat) (w:World) (hx:x<=1048576) (hp:1<=p) (hp2:p<=256) (hn:n<=64) :
  Calls Tryz.prog 227 #[.int .i64 (x:Nat),.int .i64 (p:Nat),.int .i64 (n:Nat)] w (RowPost n (fun i=>.int .i64 (dig p x i:Nat)) w):=by
 have o:=fun W=>zaf (P:=Tryz.prog) 22 3 _ 8 Tryz.underlying22 Tryz.infoInt rfl (n:Int) (by omega) (by omega) (by omega) W
 simp only [Int.toNat_natCast] at o
 have row:=World.rowIs_made w (.int .i64 0) n 3
 have hB:=aly w (.cells (madeCells #[.int .i64 0] n) 3)
 have H:(1:Int)<=(p:Int):=by omega
 have I:¬ (p:Int)=0:=by omega
 have G:(p:Int)<=256:=by omega
 go_enter Tryz.func227, Tryz.ntmps227
 go_wp2
 obtain ⟨w1,b⟩:=exx (w.alloc (.cells (madeCells #[.int .i64 0] n) 3))
 obtain ⟨g,hg⟩:=exx w.heap.size
 rw [<-b,<-hg];rw [<-b] at hB row;rw [<-hg] at row
 have q:w.heap.size<=g:=by omega
 clear b hg o
 go_loopg [0,8,13] n (fun gg xv _ iv wx=>∃ i:Nat,iv=.int .i64 (i:Nat)/\xv=.int .i64 (x / p ^ i:Nat)/\i<=n/\n<=i+gg/\wx.rowIs g 3 n (fun j=>.int .i64 (if j<i then (dig p x j:Nat) else 0:Int))/\Below w.heap.size w wx)
 case atStart=>exact ⟨0,rfl,by simp,by omega,by omega,row.congr fun i _=>rfl,hB⟩
 clear row hB
 obtain ⟨i,rfl,rfl,hi,J,row,hB⟩:=hrel
 have K:(0:Int)<=(i:Int):=by omega
 have s:x / p ^ i<=x:=Nat.div_le_self _ _
 have c:x / p ^ (i+1)=x / p ^ i / p:=by rw [Nat.pow_succ,Nat.div_div_eq_div_mul]
 have m:dig p x i=x / p ^ i % p:=rfl
 obtain ⟨y,hy⟩:=exx (x / p ^ i)
 rw [<-hy] at s c m;rw [<-hy]
 have u:=hid c
 have v:=hid m
 clear hy c m
 by_cases hlt:i<n
 rotate_left
 ·obtain rfl:i=n:=by omega
  have k:¬ (i:Int)<(i:Int):=by omega
  have d:Hid (wr.rowIs g 3 i (fun j=>.int .i64 (dig p x j:Nat))):=row.congr fun j hj=>by rw [if_pos hj]
  clear row
  go_wp2
  go_ret
  exact ⟨g,rfl,q,d.out,hB⟩
 have k:(i:Int)<(n:Int):=by omega
 have F:(0:Int)<=(y:Int):=by omega
 have E:(y:Int)<=1048576:=by omega
 have h:(y:Int) % (p:Int)=((y % p:Nat):Int):=by simp
 have l:(y:Int) / (p:Int)=((y / p:Nat):Int):=by simp
 obtain ⟨r,hr⟩:=exx (y % p)
 obtain ⟨z,hz⟩:=exx (y / p)
 rw [<-hr] at h;rw [<-hz] at l
 have D:(0:Int)<=(z:Int):=by omega
 have C:(z:Int)<=1048576:=by have:y / p<=y:=Nat.div_le_self _ _; omega
 have HR:=hid hr
 have HZ:=hid hz
 clear hr hz
 have c0:=row.cell hlt
 have z0:=row.frozen i
 have a:Hid ((wr.setCell ⟨g,i,none⟩ (.int .i64 (r:Int))).rowIs g 3 n (fun j=>.int .i64 (if j<i+1 then (dig p x j:Nat) else 0:Int))):=(row.set i _).congr fun j hj=>by
  by_cases e:j=i
  ·subst e
   rw [if_pos rfl,if_pos (by omega),v.out,HR.out]
  rw [if_neg e]
  by_cases e2:j<i
  ·rw [if_pos e2,if_pos (by omega)]
  ·rw [if_neg e2,if_neg (by omega)]
 have B:Hid (Below w.heap.size w (wr.setCell ⟨g,i,none⟩ (.int .i64 (r:Int)))):=hB.setCell q _
 clear row hB
 go_wp2
 go_roundg (gk - 1)
 case measure=>omega
 case rel=>exact ⟨i+1,by go_num,by rw [u.out,HZ.out],by omega,by omega,a.out,B.out⟩
theorem zgc (P:Nat) (T:Option Addr) (n d:Nat) (f:Nat->Nat) (w:World) (hP2:2<=P) (hP:P<=256) (h:IntsR w w.heap.size T n (fun i=>(f i:Nat))) (hd:Hid (∀ i,i<n->f i<P)) (hn:P ^ n<=256) (hn8:n<=8) :
  Calls Tryz.prog 228 #[.slice T n d,.int .i64 (P:Nat)] w fun e w'=>e=.returned (.int .i64 (valN P f n:Nat))/\Below w.heap.size w w':=by
 have hT:=hid h
 clear h
 go_enter Tryz.func228, Tryz.ntmps228
 go_wp2
 go_loopg [5,6] n (fun gg xv iv wx=>∃ j:Nat,iv=.int .i64 ((n:Int) - 1 - (j:Nat))/\xv=.int .i64 (valN P (fun i=>f (n - j+i)) j:Nat)/\j<=n/\n<=j+gg/\Below w.heap.size w wx)
 case atStart=>exact ⟨0,by go_num,rfl,by omega,by omega,Below.refl _ _⟩
 obtain ⟨j,rfl,rfl,hj,E,hB⟩:=hrel
 have g:=zbh (p:=P) (n:=j) (f:=fun i=>f (n - j+i)) (fun i hi=>hd.out _ (by omega))
 have C:P ^ j<=P ^ n:=Nat.pow_le_pow_right (by omega) hj
 by_cases hlt:j<n
 rotate_left
 ·obtain rfl:j=n:=by omega
  have m:¬ (0:Int)<=(j:Int) - 1 - (j:Int):=by omega
  have r:¬ (j:Int)<=(j:Int) - 1:=by omega
  have hv:valN P (fun i=>f (j - j+i)) j=valN P f j:=zaX fun i _=>by rw [show j - j+i=i by omega]
  rw [hv] at g ⊢
  obtain ⟨V,hV⟩:=exx (valN P f j)
  rw [<-hV] at g ⊢
  have HV:=hid hV
  clear hV hv
  go_wp2
  go_ret
  exact ⟨by rw [HV.out]; rfl,hB⟩
 have m:(0:Int)<=(n:Int) - 1 - (j:Int):=by omega
 obtain ⟨i,hi⟩:∃ i:Nat,i=n - 1 - j:=⟨_,rfl⟩
 have k:(n:Int) - 1 - (j:Int)=(i:Int):=by omega
 have l:i<n:=by omega
 have q:(i:Int)<(n:Int):=by omega
 have F:(0:Int)<=(i:Int):=by omega
 rw [k]
 obtain ⟨b,o,rfl,hb,e0⟩:=(hT.out.on hB).at l
 have s:=hd.out i l
 have c:valN P (fun t=>f (n - (j+1)+t)) (j+1)=f i+P*valN P (fun t=>f (n - j+t)) j:=by
  show f (n - (j+1)+0)+P*valN P (fun t=>f (n - (j+1)+(t+1))) j=_
  rw [show n - (j+1)+0=i by omega]
  congr 2
  exact zaX fun t _=>by rw [show n - (j+1)+(t+1)=n - j+t by omega]
 obtain ⟨V,hV⟩:=exx (valN P (fun t=>f (n - j+t)) j)
 obtain ⟨D,hD⟩:=exx (f i)
 rw [<-hV] at g c;rw [<-hD] at e0 s c;rw [<-hV]
 have v:=hid c
 have x:=hid k
 clear hV hD c hi k m
 have H:(0:Int)<=(V:Int):=by omega
 have G:(V:Int)<=256:=by omega
 have J:(0:Int)<=(D:Int):=by omega
 have I:(D:Int)<=256:=by omega
 have u:V*P<=256*256:=Nat.mul_le_mul (by omega) hP
 have a:(V:Int)*(P:Int)=((V*P:Nat):Int):=by simp
 obtain ⟨R,hR⟩:=exx (V*P)
 rw [<-hR] at u a
 have HR:=hid hR
 clear hR
 have B:IntKind.i64.wrap ((V:Int)*(P:Int))=(R:Int):=by rw [a]; exact IntWalk.i64_in _ (by omega)
 have z:IntKind.i64.wrap ((R:Int)+(D:Int))=(R:Int)+(D:Int):=IntWalk.i64_in _ (by omega)
 have y:IntKind.i64.wrap (R:Int)=(R:Int):=IntWalk.i64_in _ (by omega)
 go_wp2
 go_roundg (gk - 1)
 case measure=>omega
 case rel=>exact ⟨j+1,by have:=x.out; go_num,by rw [v.out,Nat.mul_comm P V,<-HR.out]; go_num,by omega,by omega,hB⟩
end Go.Proofs.YtgekjfpapmlndaaGreat