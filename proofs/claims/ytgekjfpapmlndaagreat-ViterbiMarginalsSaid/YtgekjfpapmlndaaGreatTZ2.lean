/- Merged texts of a claim: Own, Copy, NatLow, NatLo2, FldQ, Gf1, Gf2. -/
import Derived.Test.YtgekjfpapmlndaaGreatTZ1
import Derived.Deep.AppendSrc
import Derived.Maps.AppendAt
import Derived.Deep.LoopGhost
import Derived.IntWalk
import Derived.Deep.DeepCutAuto
import Derived.Test.YtgekjfpapmlndaaGreatRows
import Derived.WalkKit
import Derived.Laws.Bits64b
import Derived.Shelf.Small.Bits
import Derived.Deep.QuietTactic
import Derived.BigQuiet
import Derived.Laws.CopyOwn
namespace Go.Proofs.YtgekjfpapmlndaaGreat
set_option maxRecDepth 100000
set_option maxHeartbeats 32000000
open KB KE
open Go.RowKit
def Own (w:World) (base:Nat) (e:TypeId) (s:Nat) (v:Value) (n:Nat) (f:Nat->Nat->Value):Prop :=
 (v=.slice none 0 0/\n=0) ∨
 ∃ g o cap cur,v=.slice (some ⟨g,o,none⟩) n cap/\base<=g/\w.heap[g]?=some (.cells cur e (0,0))/\n<=cap/\cap<=maxLen/\o+cap*s<=cur.size/\∀ i,i<n->∀ j,j<s->cur[o+i*s+j]?=some (f i j)
section
variable {w w':World} {base e s n:Nat} {v:Value} {f f':Nat->Nat->Value}
theorem Own.nil (w:World) (base e s:Nat) (f:Nat->Nat->Value):Own w base e s (.slice none 0 0) 0 f:=.inl ⟨rfl,rfl⟩
theorem Own.congr (h:Own w base e s v n f) (hf:∀ i,i<n->∀ j,j<s->f i j=f' i j):Own w base e s v n f':=by
 rcases h with h | ⟨g,o,cap,cur,h1,h2,h3,h4,h5,h6,h7⟩
 ·exact .inl h
 ·exact .inr ⟨g,o,cap,cur,h1,h2,h3,h4,h5,h6,fun i hi j hj=>by rw [h7 i hi j hj,hf i hi j hj]⟩
theorem Own.mono {base':Nat} (h:Own w base e s v n f) (hb:base'<=base):Own w base' e s v n f:=by
 rcases h with h | ⟨g,o,cap,cur,h1,h2,h3⟩
 ·exact .inl h
 ·exact .inr ⟨g,o,cap,cur,h1,by omega,h3⟩
theorem Own.lt (h:Own w base e s v n f):∀ k,v.ownBlock=some k->base<=k/\k<w.heap.size:=by
 intro k hk
 rcases h with ⟨rfl,_⟩ | ⟨g,o,cap,cur,rfl,hb,hg,_⟩
 ·simp [Value.ownBlock] at hk
 simp [Value.ownBlock] at hk
 subst hk
 exact ⟨hb,(Array.getElem?_eq_some_iff.1 hg).1⟩
theorem Own.of_block (h:Own w base e s v n f) (hb:∀ k,v.ownBlock=some k->w'.heap[k]?=w.heap[k]?):Own w' base e s v n f:=by
 rcases h with h | ⟨g,o,cap,cur,rfl,h2,h3,h4⟩
 ·exact .inl h
 ·exact .inr ⟨g,o,cap,cur,rfl,h2,(hb g rfl).trans h3,h4⟩
theorem Own.kept {row:Option Nat} (h:Own w base e s v n f) (hg:w.grownBy w' row) (hne:v.ownBlock=none∨v.ownBlock≠row):Own w' base e s v n f :=
 h.of_block fun k hk=>hg.block k (h.lt k hk).2 (by rcases hne with h0 | h0 <;> rw [hk] at h0; cases h0; exact h0)
theorem Own.below {B:Nat} (h:Own w base e s v n f) (hb:Below B w w') (hB:∀ k,v.ownBlock=some k->k<B):Own w' base e s v n f:=h.of_block fun k hk=>hb.block k (hB k hk)
theorem Own.on (h:Own w base e s v n f) (hb:Below w.heap.size w w'):Own w' base e s v n f:=h.below hb fun k hk=>(h.lt k hk).2
theorem Own.alloc (h:Own w base e s v n f) (o:Obj):Own (w.alloc o) base e s v n f:=h.of_block fun k hk=>Below.heap_alloc w o k (h.lt k hk).2
theorem Own.drew (h:Own w base e s v n f):Own w.drew base e s v n f:=h
theorem Own.setCell (h:Own w base e s v n f) {a:Addr} (ha:v.ownBlock≠some a.block) (u:Value):Own (w.setCell a u) base e s v n f :=
 h.of_block fun k hk=>Below.heap_setCell w a u k (fun e=>ha (by rw [hk,e]))
theorem Own.shape (h:Own w base e s v n f):∃ A c,v=.slice A n c:=by
 rcases h with ⟨rfl,rfl⟩ | ⟨g,o,cap,cur,rfl,_⟩
 ·exact ⟨_,_,rfl⟩
 ·exact ⟨_,_,rfl⟩
theorem Own.len_le (h:Own w base e s v n f):n<=maxLen:=by
 rcases h with ⟨rfl,rfl⟩ | ⟨g,o,cap,cur,rfl,_,_,h4,h5,_⟩
 ·exact Nat.zero_le _
 ·omega
theorem Own.form (h:Own w base e s v n f) (hn:0<n):∃ g o cap,v=.slice (some ⟨g,o,none⟩) n cap/\base<=g/\g<w.heap.size/\n<=cap/\cap<=maxLen/\∀ i,i<n->∀ j,j<s->w.cell? ⟨g,o+i*s+j,none⟩=some (f i j):=by
 rcases h with ⟨rfl,rfl⟩ | ⟨g,o,cap,cur,rfl,hb,hg,hc,hm,_,h7⟩
 ·omega
 ·exact ⟨g,o,cap,rfl,hb,(Array.getElem?_eq_some_iff.1 hg).1,hc,hm,fun i hi j hj=>by rw [cell_of_row w g _ cur e (0,0) hg]; exact h7 i hi j hj⟩
theorem Own.frozen {g o c:Nat} (h:Own w base e s (.slice (some ⟨g,o,none⟩) n c) n f) (k:Nat):w.frozen? ⟨g,k,none⟩=false:=by
 rcases h with ⟨h,_⟩ | ⟨g',o',cap,cur,h1,_,hg,_⟩
 ·cases h
 injection h1 with h1
 injection h1 with h1
 injection h1 with h1
 subst h1
 exact frozen_of_row w g k cur e hg
theorem Own.rd (h:Own w base e s v n f) {A:Option Addr} {c:Nat} (hv:v=.slice A n c):Rd w w.heap.size A n s f:=by
 intro i hi
 obtain ⟨g,o,cap,h1,_,a,_,_,hc⟩:=h.form (by omega)
 rw [hv] at h1
 injection h1 with h1
 exact ⟨g,o,h1,a,fun j hj=>hc i hi j hj⟩
end
theorem zcl {w:World} {g:Nat} {cur cs:Array Value} {e:TypeId} {fr:Nat × Nat} (h:w.heap[g]?=some (.cells cur e fr)):(w.setRow g cs).heap[g]?=some (.cells cs e fr):=by
 simp [World.setRow,Array.getElem?_modify,h]
theorem zb8 {w:World} {g k:Nat} {cs:Array Value} (h:k≠g):(w.setRow g cs).heap[k]?=w.heap[k]?:=by
 simp only [World.setRow,Array.getElem?_modify]
 rw [if_neg (fun e=>h e.symm)]
theorem zcW (w:World) (g:Nat) (cs:Array Value):w.grownBy (w.setRow g cs) (some g) :=
 ⟨rfl,rfl,rfl,by simp,fun k _ hne=>zb8 (fun e=>hne (by rw [e]))⟩
def elem (s:Nat) (u:Nat->Value):List Value:=(List.range s).map u
theorem zav (s:Nat) (u:Nat->Value):(elem s u).length=s:=by simp [elem]
theorem zdX {s:Nat} {u:Nat->Value} {j:Nat} (hj:j<s):(elem s u)[j]?=some (u j):=by simp [elem,hj]
def flat (s:Nat) (f:Nat->Nat->Value) (n:Nat):List Value:=(List.range (n*s)).map fun k=>f (k / s) (k % s)
theorem zar (s:Nat) (f:Nat->Nat->Value) (n:Nat):(flat s f n).length=n*s:=by simp [flat]
theorem zcX {s:Nat} (hs:0<s) {f:Nat->Nat->Value} {n i j:Nat} (hi:i<n) (hj:j<s):(flat s f n)[i*s+j]?=some (f i j):=by
 have a:i*s+j<n*s:=by
  have:(i+1)*s<=n*s:=Nat.mul_le_mul_right s hi
  rw [Nat.add_mul] at this; omega
 simp only [flat,List.getElem?_map]
 rw [List.getElem?_range a]
 simp only [Option.map_some]
 rw [show (i*s+j) / s=i by rw [Nat.mul_comm,Nat.mul_add_div hs,Nat.div_eq_of_lt hj,Nat.add_zero],show (i*s+j) % s=j by rw [Nat.mul_comm,Nat.mul_add_mod,Nat.mod_eq_of_lt hj]]
section
variable {P:Program} (w:World)
theorem zbG (t ty e:TypeId) (i:TypeInfo) (ht:P.underlying t=some (.slice e)) (hi:P.info? e=some i)
  (g o sLen sCap:Nat) (cur:Array Value) (hg:w.heap[g]?=some (.cells cur e (0,0)))
  (a:Addr) (c:Nat) (news:List Value) (hl:news.length=i.size) (hnews:∀ j u,news[j]?=some u->w.cell? (a.add j)=some u) (h1:∀ u ∈ news,u.oneCell'=true)
  (hroom:sLen+1<=sCap) (hfit:o+sLen*i.size+news.length<=cur.size) :
  (Builtin.append_ #[t,t] ty #[.slice (some ⟨g,o,none⟩) sLen sCap,.slice (some a) 1 c]).run P w =
   .ok (.slice (some ⟨g,o,none⟩) (sLen+1) sCap) (w.setRow g (cur.toList.take (o+sLen*i.size) ++ news ++ cur.toList.drop (o+sLen*i.size+news.length)).toArray):=by
 have hf:=run_firstCells_some (P:=P) w i.size 1 a 1 c news (by omega) hnews
 have b:=run_storeCells_at P g (o+sLen*i.size) e news 0 cur w hg (by simpa using hfit) h1
 simp only [Nat.add_zero] at b
 simp [Builtin.append_,run_underlying ht,sizeOf,typeInfo,hi,Builtin.lenOf,hroom,hf,Addr.add_lit,b]
theorem zbH (base:Nat) (t ty e:TypeId) (i:TypeInfo) (z:Value) (s bytes:Nat) (ht:P.underlying t=some (.slice e)) (hi:P.info? e=some i) (hz:i.zero=some z)
  (hsize:i.size=s) (hby:i.bytes=bytes) (hzs:z.cells.size=s) (hs:0<s)
  (v:Value) (n:Nat) (f:Nat->Nat->Value) (hown:Own w base e s v n f)
  (a:Addr) (c:Nat) (hnews:∀ j,j<s->w.cell? (a.add j)=some (f n j)) (h1:∀ j,j<s->(f n j).oneCell'=true)
  (h63:n+1<=maxLen) (hbytes:(n+1)*bytes<=140737488355328) (hbase:base<=w.heap.size) :
  ∃ v' w',(Builtin.append_ #[t,t] ty #[v,.slice (some a) 1 c]).run P w=.ok v' w'/\Own w' base e s v' (n+1) f/\w.grownBy w' v.ownBlock/\(v'.ownBlock=v.ownBlock∨v'.ownBlock=some w.heap.size)/\∃ g o cap,v'=.slice (some ⟨g,o,none⟩) (n+1) cap:=by
 subst hsize
 subst hby
 have r:n+1<=9223372036854775807:=by simp only [maxLen] at h63; omega
 have b:∀ j u,(elem i.size (f n))[j]?=some u->w.cell? (a.add j)=some u:=fun j u hu=>by
  have hj:j<i.size:=by have:=(List.getElem?_eq_some_iff.1 hu).1; rwa [zav] at this
  rw [zdX hj] at hu
  injection hu with hu
  subst hu
  exact hnews j hj
 have B:∀ u ∈ elem i.size (f n),u.oneCell'=true:=fun u hu=>by
  obtain ⟨j,hj,rfl⟩:=List.mem_map.1 hu
  exact h1 j (List.mem_range.1 hj)
 have q:=Src.ofSlice (P:=P) w (size:=i.size) (e':=e) ht a 1 c (elem i.size (f n)) (by rw [zav]; omega) b B
 have grown:∀ (A:Option Addr) (cap:Nat),cap<n+1->(Builtin.firstCells i.size n (.slice A n cap)).run P w.drew=.ok (flat i.size f n).toArray w.drew->∀ row:Option Nat,
   ∃ v' w',(Builtin.append_ #[t,t] ty #[.slice A n cap,.slice (some a) 1 c]).run P w=.ok v' w'/\Own w' base e i.size v' (n+1) f/\w.grownBy w' row/\v'.ownBlock=some w.heap.size/\∃ g o cap,v'=.slice (some ⟨g,o,none⟩) (n+1) cap:=by
  intro A cap d l row
  have h:=run_append_grow_src (P:=P) w t t ty e i z ht hi hz A n cap (flat i.size f n) l (.slice (some a) 1 c) 1 (elem i.size (f n)) q d (by omega) (growslice_fits d hbytes)
  refine ⟨_,_,h,.inr ⟨w.heap.size,0,_,_,rfl,hbase,heap_alloc_new w.drew _,grownCap_ge w (n+1) cap e,grownCap_le_maxLen w (n+1) cap e h63,?_,fun k hk j hj=>?_⟩,⟨rfl,rfl,rfl,by simp,fun k hk _=>Below.heap_alloc w.drew _ k hk⟩,rfl,_,_,_,rfl⟩
  ·have H:=grownCap_ge w (n+1) cap e
   have e1:(grownCap w (n+1) cap e - (n+1))*i.size+(n+1)*i.size=grownCap w (n+1) cap e*i.size:=by rw [<-Nat.add_mul]; congr 1; omega
   simp [zar,zav,size_zeroCells,hzs]
   rw [Nat.add_mul] at e1
   omega
  ·have D:k*i.size+j<(n+1)*i.size:=by
    have:(k+1)*i.size<=(n+1)*i.size:=Nat.mul_le_mul_right i.size (by omega)
    rw [Nat.add_mul] at this; omega
   have x:(flat i.size f n ++ elem i.size (f n)).length=(n+1)*i.size:=by rw [List.length_append,zar,zav,Nat.add_mul]; omega
   rw [Nat.zero_add,Array.getElem?_append_left (by simpa [x] using D)]
   rw [List.getElem?_toArray]
   by_cases hkn:k<n
   ·rw [List.getElem?_append_left (by
     rw [zar]
     have:(k+1)*i.size<=n*i.size:=Nat.mul_le_mul_right i.size hkn
     rw [Nat.add_mul] at this; omega)]
    exact zcX hs hkn hj
   ·obtain rfl:k=n:=by omega
    rw [List.getElem?_append_right (by rw [zar]; omega),zar,show k*i.size+j - k*i.size=j by omega]
    exact zdX hj
 rcases hown with ⟨rfl,rfl⟩ | ⟨g,o,cap,cur,rfl,hb,hg,G,F,E,m⟩
 ·obtain ⟨v',w',h2,h3,h4,h5,h6⟩:=grown none 0 (by omega) (by simp [Builtin.firstCells,flat]) (Value.ownBlock (.slice none 0 0))
  exact ⟨v',w',h2,h3,h4,.inr h5,h6⟩
 by_cases hroom:n+1<=cap
 ·have p:o+n*i.size+(elem i.size (f n)).length<=cur.size:=by
   rw [zav]
   have:(n+1)*i.size<=cap*i.size:=Nat.mul_le_mul_right i.size hroom
   rw [Nat.add_mul] at this; omega
  have h:=zbG (P:=P) w t ty e i ht hi g o n cap cur hg a c (elem i.size (f n)) (zav _ _) b B hroom p
  refine ⟨_,_,h,.inr ⟨g,o,cap,_,rfl,hb,zcl hg,hroom,F,?_,fun k hk j hj=>?_⟩,zcW w g _,.inl rfl,_,_,_,rfl⟩
  ·rw [zav] at p
   simp [zav]; omega
  rw [zav] at p
  have C:(cur.toList.take (o+n*i.size)).length=o+n*i.size:=by simp; omega
  rw [List.getElem?_toArray]
  by_cases hkn:k<n
  ·have:(k+1)*i.size<=n*i.size:=Nat.mul_le_mul_right i.size hkn
   rw [Nat.add_mul] at this
   rw [List.append_assoc,List.getElem?_append_left (by omega),List.getElem?_take,if_pos (by omega)]
   rw [Array.getElem?_toList]
   exact m k hkn j hj
  obtain rfl:k=n:=by omega
  rw [List.append_assoc,List.getElem?_append_right (by omega),C,show o+k*i.size+j - (o+k*i.size)=j by omega,List.getElem?_append_left (by rw [zav]; omega)]
  exact zdX hj
 have d:cap=n:=by omega
 subst d
 have l:(Builtin.firstCells i.size cap (.slice (some ⟨g,o,none⟩) cap cap)).run P w.drew=.ok (flat i.size f cap).toArray w.drew:=by
  refine run_firstCells_some (P:=P) w.drew i.size cap ⟨g,o,none⟩ cap cap (flat i.size f cap) (zar _ _ _) fun j u hu=>?_
  have hj:j<cap*i.size:=by have:=(List.getElem?_eq_some_iff.1 hu).1; rwa [zar] at this
  have e1:j / i.size<cap:=Nat.div_lt_of_lt_mul (by rw [Nat.mul_comm]; exact hj)
  have e2:j % i.size<i.size:=Nat.mod_lt _ hs
  have e3:j / i.size*i.size+j % i.size=j:=Nat.div_add_mod' j i.size
  have:=zcX (f:=f) hs e1 e2
  rw [e3,hu] at this
  injection this with this
  subst this
  have:=m _ e1 _ e2
  have y:(⟨g,o,none⟩:Addr).add j=⟨g,o+j,none⟩:=by unfold Addr.add; split <;> simp_all
  rw [y]
  show w.cell? ⟨g,o+j,none⟩=_
  rw [cell_of_row w g _ cur e (0,0) hg,<-this]
  congr 1; omega
 obtain ⟨v',w',h2,h3,h4,h5,h6⟩:=grown (some ⟨g,o,none⟩) cap (by omega) l (Value.ownBlock (.slice (some ⟨g,o,none⟩) cap cap))
 exact ⟨v',w',h2,h3,h4,.inr h5,h6⟩
theorem zag {ops:Array Oper} {rest:List Oper} {o:Oper} {a:Act} {Q:Exit->Act->World->Prop} (hgd:o.guard=none) (sl x:Operand) (t:TypeId)
  (ho:o.op=.call { callee:=.builtin .append,args:=#[sl,x],argTypes:=#[t,t] })
  (base:Nat) (e:TypeId) (i:TypeInfo) (z:Value) (s bytes:Nat) (ht:P.underlying t=some (.slice e)) (hi:P.info? e=some i) (hz:i.zero=some z)
  (hsize:i.size=s) (hby:i.bytes=bytes) (hzs:z.cells.size=s) (hs:0<s)
  (v:Value) (n:Nat) (f:Nat->Nat->Value) (hv:a.eval sl=v) (hown:Own w base e s v n f)
  (ad:Addr) (c:Nat) (hx:a.eval x=.slice (some ad) 1 c) (hnews:∀ j,j<s->w.cell? (ad.add j)=some (f n j)) (h1:∀ j,j<s->(f n j).oneCell'=true)
  (h63:n+1<=maxLen) (hbytes:(n+1)*bytes<=140737488355328) (hbase:base<=w.heap.size)
  (h:∀ v' w',Own w' base e s v' (n+1) f->w.grownBy w' v.ownBlock->(v'.ownBlock=v.ownBlock∨v'.ownBlock=some w.heap.size)->wpList P ops Q rest (a.put o.dst v') w'):wpList P ops Q (o :: rest) a w:=by
 refine wpList_plain hgd fun K hK=>?_
 obtain ⟨v',w',b,h2,h3,h4,_⟩:=zbH (P:=P) w base t o.type e i z s bytes ht hi hz hsize hby hzs hs v n f hown ad c hnews h1 h63 hbytes hbase
 unfold Oper.wp execOp
 simp only [ho,resolve,invoke,builtin,Sem.run_bind,Sem.run_pure,Result.andThen_ok,List.map_toArray,List.map_cons,List.map_nil,hv,hx,b]
 exact hK _ _ (h v' w' h2 h3 h4)
theorem zbz {ops:Array Oper} {o:Oper} {a:Act} {K:Act->World->Prop} {Q:Exit->Act->World->Prop} {E:Prop} (hgd:o.guard=none) (sl x:Operand) (t:TypeId)
  (ho:o.op=.call { callee:=.builtin .append,args:=#[sl,x],argTypes:=#[t,t] })
  (base:Nat) (e:TypeId) (i:TypeInfo) (z:Value) (s bytes:Nat) (ht:P.underlying t=some (.slice e)) (hi:P.info? e=some i) (hz:i.zero=some z)
  (hsize:i.size=s) (hby:i.bytes=bytes) (hzs:z.cells.size=s) (hs:0<s)
  (v:Value) (n:Nat) (f:Nat->Nat->Value) (hv:a.eval sl=v) (hown:Own w base e s v n f)
  (ad:Addr) (c:Nat) (hx:a.eval x=.slice (some ad) 1 c) (hnews:∀ j,j<s->w.cell? (ad.add j)=some (f n j)) (h1:∀ j,j<s->(f n j).oneCell'=true)
  (h63:n+1<=maxLen) (hbytes:(n+1)*bytes<=140737488355328) (hbase:base<=w.heap.size)
  (h:∀ v' w',Own w' base e s v' (n+1) f->w.grownBy w' v.ownBlock->(v'.ownBlock=v.ownBlock∨v'.ownBlock=some w.heap.size)->K (a.put o.dst v') w') :
  if Region.wanted o (yielded ops a.tmps)=true then Oper.wp P o a w K Q else E:=by
 have hw:Region.wanted o (yielded ops a.tmps)=true:=by simp [Region.wanted,hgd]
 rw [if_pos hw]
 obtain ⟨v',w',b,h2,h3,h4,_⟩:=zbH (P:=P) w base t o.type e i z s bytes ht hi hz hsize hby hzs hs v n f hown ad c hnews h1 h63 hbytes hbase
 unfold Oper.wp execOp
 simp only [ho,resolve,invoke,builtin,Sem.run_bind,Sem.run_pure,Result.andThen_ok,List.map_toArray,List.map_cons,List.map_nil,hv,hx,b]
 exact h v' w' h2 h3 h4
end
section
variable {P:Program} (w:World)
theorem zaH (t ty e:TypeId) (i:TypeInfo) (ht:P.underlying t=some (.slice e)) (hi:P.info? e=some i) (b0 o0:Nat) (A:Option Addr) (c:Nat) :
  (Builtin.append_ #[t,t] ty #[.slice (some ⟨b0,o0,none⟩) 0 0,.slice A 0 c]).run P w=.ok (.slice (some ⟨b0,o0,none⟩) 0 0) w:=by
 have hs:Src P i.size t (.slice A 0 c) 0 [] w:=by
  cases A with
  | none=>exact Src.ofNil w ht c
  | some a=>exact Src.ofSlice w (e':=e) ht a 0 c [] (by simp) (fun j u h=>by simp at h) (fun u h=>by cases h)
 have h:=run_append_room_src (P:=P) w t t ty e i ht hi b0 o0 0 0 (.slice A 0 c) 0 [] hs (Nat.le_refl _) (fun j hj=>by simp at hj) (fun j hj=>by simp at hj)
 rw [h]
 rfl
theorem zaY (t ty e:TypeId) (i:TypeInfo) (z:Value) (s bytes:Nat) (ht:P.underlying t=some (.slice e)) (hi:P.info? e=some i) (hz:i.zero=some z)
  (hsize:i.size=s) (hby:i.bytes=bytes) (hzs:z.cells.size=s) (hs:0<s) (A0:Option Addr)
  (A:Option Addr) (m c:Nat) (f:Nat->Nat->Value) (hsrc:Rd w w.heap.size A m s f) (hm:0<m) (h1:∀ k,k<m->∀ j,j<s->(f k j).oneCell'=true)
  (h63:m<=maxLen) (hbytes:m*bytes<=140737488355328) :
  ∃ cap cur,(Builtin.append_ #[t,t] ty #[.slice A0 0 0,.slice A m c]).run P w=.ok (.slice (some ⟨w.heap.size,0,none⟩) m cap) (w.drew.alloc (.cells cur e)) /\
   m<=cap/\cap<=maxLen/\cap*s<=cur.size/\∀ k,k<m->∀ j,j<s->cur[k*s+j]?=some (f k j):=by
 subst hsize
 subst hby
 obtain ⟨b,off,rfl,hb,_⟩:=hsrc 0 hm
 have d:∀ j u,(flat i.size f m)[j]?=some u->w.cell? ((⟨b,off,none⟩:Addr).add j)=some u:=fun j u hu=>by
  have hj:j<m*i.size:=by have:=(List.getElem?_eq_some_iff.1 hu).1; rwa [zar] at this
  have e1:j / i.size<m:=Nat.div_lt_of_lt_mul (by rw [Nat.mul_comm]; exact hj)
  have e2:j % i.size<i.size:=Nat.mod_lt _ hs
  have e3:j / i.size*i.size+j % i.size=j:=Nat.div_add_mod' j i.size
  have:=zcX (f:=f) hs e1 e2
  rw [e3,hu] at this
  injection this with this
  subst this
  obtain ⟨b',off',e',_,hc⟩:=hsrc _ e1
  injection e' with e'
  injection e' with e' e''
  subst e' e''
  have:=hc _ e2
  have h:(⟨b,off,none⟩:Addr).add j=⟨b,off+j,none⟩:=by unfold Addr.add; split <;> simp_all
  rw [h,<-this]
  congr 2; omega
 have l:=Src.ofSlice (P:=P) w (size:=i.size) (e':=e) ht ⟨b,off,none⟩ m c (flat i.size f m) (zar _ _ _) d (fun u hu=>by
  obtain ⟨j,hj,rfl⟩:=List.mem_map.1 hu
  rw [List.mem_range] at hj
  exact h1 _ (Nat.div_lt_of_lt_mul (by rw [Nat.mul_comm]; exact hj)) _ (Nat.mod_lt _ hs))
 have g:0+m<=9223372036854775807:=by simp only [maxLen] at h63; omega
 have a:=run_append_grow_src (P:=P) w t t ty e i z ht hi hz A0 0 0 [] (by cases A0 <;> simp [Builtin.firstCells,loadCells,loadCellsFrom]) (.slice (some ⟨b,off,none⟩) m c) m (flat i.size f m) l (by omega) (by omega) (growslice_fits (by omega) (by simpa using hbytes))
 simp only [Nat.zero_add,List.nil_append] at a
 refine ⟨_,_,a,grownCap_ge w m 0 e,grownCap_le_maxLen w m 0 e h63,?_,fun k hk j hj=>?_⟩
 ·have o:=grownCap_ge w m 0 e
  have e1:(grownCap w m 0 e - m)*i.size+m*i.size=grownCap w m 0 e*i.size:=by rw [<-Nat.add_mul]; congr 1; omega
  simp [zar,size_zeroCells,hzs]
  omega
 have n:k*i.size+j<m*i.size:=by
  have:(k+1)*i.size<=m*i.size:=Nat.mul_le_mul_right i.size (by omega)
  rw [Nat.add_mul] at this; omega
 rw [Array.getElem?_append_left (by simpa [zar] using n),List.getElem?_toArray]
 exact zcX hs hk hj
end
theorem Own.new {w:World} {base:Nat} {e:TypeId} {s m cap:Nat} {cur:Array Value} {f:Nat->Nat->Value} (hb:base<=w.heap.size) (h1:m<=cap) (h2:cap<=maxLen) (h3:cap*s<=cur.size) (h4:∀ k,k<m->∀ j,j<s->cur[k*s+j]?=some (f k j)) :
  Own (w.alloc (.cells cur e)) base e s (.slice (some ⟨w.heap.size,0,none⟩) m cap) m f :=
 .inr ⟨w.heap.size,0,cap,cur,rfl,hb,heap_alloc_new w _,h1,h2,by omega,fun i hi j hj=>by rw [Nat.zero_add]; exact h4 i hi j hj⟩
theorem Own.set {w:World} {base:Nat} {e:TypeId} {s n g o c:Nat} {f:Nat->Nat->Value} (h:Own w base e s (.slice (some ⟨g,o,none⟩) n c) n f) {a b:Nat} (ha:a<n) (hb:b<s) (u:Value) :
  Own (w.setCell ⟨g,o+a*s+b,none⟩ u) base e s (.slice (some ⟨g,o,none⟩) n c) n (fun i j=>if i=a/\j=b then u else f i j):=by
 rcases h with ⟨h,_⟩ | ⟨g',o',cap,cur,h1,h2,hg,hc,hm,h6,h7⟩
 ·cases h
 injection h1 with h1 _ h1'
 injection h1 with h1
 injection h1 with h1 h1''
 subst h1 h1' h1''
 have l:(a+1)*s<=n*s:=Nat.mul_le_mul_right s ha
 have k:n*s<=c*s:=Nat.mul_le_mul_right s hc
 rw [Nat.add_mul] at l
 have m:o+a*s+b<cur.size:=by omega
 refine .inr ⟨g,o,c,cur.setIfInBounds (o+a*s+b) u,rfl,h2,?_,hc,hm,by simpa using h6,fun i hi j hj=>?_⟩
 ·simp [World.setCell,Array.getElem?_modify,hg]
 by_cases e:i=a/\j=b
 ·obtain ⟨rfl,rfl⟩:=e
  simp [m]
 simp only [if_neg e]
 have d:o+a*s+b≠o+i*s+j:=fun e2=>by
  rcases Nat.lt_trichotomy i a with h | h | h
  ·have:(i+1)*s<=a*s:=Nat.mul_le_mul_right s h
   rw [Nat.add_mul] at this; omega
  ·subst h; exact e ⟨rfl,by omega⟩
  ·have:(a+1)*s<=i*s:=Nat.mul_le_mul_right s h
   rw [Nat.add_mul] at this; omega
 rw [Array.getElem?_setIfInBounds_ne d]
 exact h7 i hi j hj
def nv (f:Nat->Nat):Nat->Nat
 | 0=>0
 | k+1=>nv f k+f k*4294967296 ^ k
def hv (f:Nat->Nat) (i n:Nat):Nat:=nv (fun j=>f (i+j)) (n - i)
section
variable {P:Program} {w:World}
theorem zax {ops:Array Oper} {rest:List Oper} {o:Oper} {a:Act} {Q:Exit->Act->World->Prop} (hgd:o.guard=none) (sl x:Operand) (t:TypeId)
  (ho:o.op=.call { callee:=.builtin .append,args:=#[sl,x],argTypes:=#[t,t] })
  (e:TypeId) (i:TypeInfo) (z:Value) (s bytes:Nat) (ht:P.underlying t=some (.slice e)) (hi:P.info? e=some i) (hz:i.zero=some z)
  (hsize:i.size=s) (hby:i.bytes=bytes) (hzs:z.cells.size=s) (hs:0<s) (A0:Option Addr) (hv:a.eval sl=.slice A0 0 0)
  (A:Option Addr) (m c:Nat) (f:Nat->Nat->Value) (hx:a.eval x=.slice A m c) (hsrc:Rd w w.heap.size A m s f) (hm:0<m) (h1:∀ k,k<m->∀ j,j<s->(f k j).oneCell'=true)
  (h63:m<=maxLen) (hbytes:m*bytes<=140737488355328)
  (h:∀ cap cur,m<=cap->cap<=maxLen->cap*s<=cur.size->(∀ k,k<m->∀ j,j<s->cur[k*s+j]?=some (f k j))->wpList P ops Q rest (a.put o.dst (.slice (some ⟨w.heap.size,0,none⟩) m cap)) (w.drew.alloc (.cells cur e))) :
  wpList P ops Q (o :: rest) a w:=by
 refine wpList_plain hgd fun K hK=>?_
 obtain ⟨cap,cur,b,h2,h3,h4,h5⟩:=zaY (P:=P) w t o.type e i z s bytes ht hi hz hsize hby hzs hs A0 A m c f hsrc hm h1 h63 hbytes
 unfold Oper.wp execOp
 simp only [ho,resolve,invoke,builtin,Sem.run_bind,Sem.run_pure,Result.andThen_ok,List.map_toArray,List.map_cons,List.map_nil,hv,hx,b]
 exact hK _ _ (h cap cur h2 h3 h4 h5)
end
def two (x:Nat) (i:Nat):Nat:=if i=0 then x % 4294967296 else x / 4294967296
open Go.Shelf
section
variable {P:Program} {w:World}
theorem zbm {ops:Array Oper} {rest:List Oper} {o:Oper} {a:Act} {Q:Exit->Act->World->Prop} (hgd:o.guard=none) (sl x:Operand) (t:TypeId)
  (ho:o.op=.call { callee:=.builtin .append,args:=#[sl,x],argTypes:=#[t,t] })
  (e:TypeId) (i:TypeInfo) (ht:P.underlying t=some (.slice e)) (hi:P.info? e=some i) (b0 o0:Nat) (hv:a.eval sl=.slice (some ⟨b0,o0,none⟩) 0 0)
  (A:Option Addr) (c:Nat) (hx:a.eval x=.slice A 0 c)
  (h:wpList P ops Q rest (a.put o.dst (.slice (some ⟨b0,o0,none⟩) 0 0)) w):wpList P ops Q (o :: rest) a w:=by
 refine wpList_plain hgd fun K hK=>?_
 have b:=zaH (P:=P) w t o.type e i ht hi b0 o0 A c
 unfold Oper.wp execOp
 simp only [ho,resolve,invoke,builtin,Sem.run_bind,Sem.run_pure,Result.andThen_ok,List.map_toArray,List.map_cons,List.map_nil,hv,hx,b]
 exact hK _ _ h
end
def IffPost (p:Prop) (w:World) (e:Ending) (w':World):Prop:=∃ v:Bool,e=.returned (.bool v)/\(v=true↔p)/\Below w.heap.size w w'
theorem za4 {p:Prop} {w w':World} (h:p) (hB:Below w.heap.size w w'):IffPost p w (.returned (.bool true)) w':=⟨true,rfl,⟨fun _=>h,fun _=>rfl⟩,hB⟩
theorem zap {p:Prop} {w w':World} (h:¬ p) (hB:Below w.heap.size w w'):IffPost p w (.returned (.bool false)) w':=⟨false,rfl,⟨(fun h=>by cases h),fun h'=>absurd h' h⟩,hB⟩
def OwnI (w:World) (base g o n c:Nat) (r:Nat->Nat):Prop:=Own w base 3 1 (.slice (some ⟨g,o,none⟩) n c) n (fun t _=>.int .i64 (r t:Nat))
theorem OwnI.cell {w:World} {base g o n c i:Nat} {r:Nat->Nat} (h:OwnI w base g o n c r) (hi:i<n):w.cell? ⟨g,o+i,none⟩=some (.int .i64 (r i:Nat)):=by
 obtain ⟨g',o',cap',hv,_,_,_,_,hc⟩:=Own.form h (by omega)
 injection hv with hv
 injection hv with hv
 injection hv with h1 h2
 subst h1 h2
 simpa using hc i hi 0 (by omega)
theorem OwnI.set {w:World} {base g o n c i:Nat} {r:Nat->Nat} (h:OwnI w base g o n c r) (hi:i<n) (z:Nat):OwnI (w.setCell ⟨g,o+i,none⟩ (.int .i64 (z:Int))) base g o n c (fun t=>if t=i then z else r t):=by
 have:=Own.set h hi (show 0<1 by omega) (.int .i64 (z:Int))
 rw [Nat.mul_one,Nat.add_zero] at this
 refine Own.congr this fun t ht j hj=>?_
 show _=Value.int .i64 ((if t=i then z else r t:Nat):Int)
 by_cases e:t=i
 ·rw [if_pos ⟨e,by omega⟩,if_pos e]
 ·rw [if_neg (fun c=>e c.1),if_neg e]
theorem OwnI.congr {w:World} {base g o n c:Nat} {r r':Nat->Nat} (h:OwnI w base g o n c r) (e:∀ i,i<n->r i=r' i):OwnI w base g o n c r':=Own.congr h fun i hi _ _=>by rw [e i hi]
theorem OwnI.drew {w:World} {base g o n c:Nat} {r:Nat->Nat} (h:OwnI w base g o n c r):OwnI w.drew base g o n c r:=h
theorem OwnI.fr {w:World} {base g o n c:Nat} {r:Nat->Nat} (h:OwnI w base g o n c r) (k:Nat):w.frozen? ⟨g,k,none⟩=false:=Own.frozen h k
theorem zeN (P M d:Nat) (A L:Option Addr) (c cl:Nat) (m low:Nat->Nat) (w:World) (hP2:2<=P) (hP:P<=256) (hd1:1<=d) (hdM:d<=M) (hM8:M<=8)
  (hm:IntsR w w.heap.size A M (fun i=>(m i:Nat))) (hml:Hid (∀ i,i<M->m i<P)) (hl:IntsR w w.heap.size L d (fun i=>(low i:Nat))) (hll:Hid (∀ i,i<d->low i<P)) :
  Calls Tryz.prog 189 #[.slice L d cl,.slice A M c,.int .i64 (P:Nat)] w (IffPost (DivB P M m d low) w):=by
 obtain ⟨i0,qi0,qz0,qz1,qz2⟩:=info_parts Tryz.infoInt
 have n3:Hid (M<=maxLen):=by show _<=_; unfold maxLen; omega
 have n4:Hid (M*8<=140737488355328):=by show _<=_; omega
 have n5:Hid (M+1<=maxLen):=by show _<=_; unfold maxLen; omega
 have n6:Hid ((M+1)*8<=140737488355328):=by show _<=_; omega
 have ah:0<M:=by omega
 have T:IntsR w w.heap.size A M (fun i=>(modR M m i:Nat)):=hm.congr fun i hi=>by unfold modR; rw [if_pos hi]
 have O:Hid (∀ t,modR M m t<P):=fun t=>by
  show modR M m t<P
  unfold modR
  split
  ·exact hml.out t (by assumption)
  ·omega
 go_enter Tryz.func189, Tryz.ntmps189
 have N:Hid (∀ o1,Rd (w.alloc o1) (w.alloc o1).heap.size A M 1 (fun i _=>.int .i64 (modR M m i:Nat))):=fun o1=>(Rd.alloc T (Nat.le_refl _) o1).mono (by simp)
 go_upto_region 3 with (first | (at_builtin; (refine zax rfl (.tmp 15) (.tmp 16) _ rfl 3 i0 _ 1 8 Tryz.underlying22 qi0 qz0 qz1 qz2 rfl (by omega) _ rfl A M c (fun i _=>.int .i64 (modR M m i:Nat)) rfl (N.out _) ah (fun _ _ _ _=>rfl) n3.out n4.out ?_); intro cap cur k1 k2 k3 k4))
 have a1:=Own.new (w:=w.alloc (Obj.cells #[] 3)) (base:=w.heap.size) (e := 3) (by simp) k1 k2 k3 k4
 have a5:=((Below.refl w.heap.size w).alloc (Nat.le_refl _) (Obj.cells #[] 3)).alloc (by simp) (Obj.cells cur 3)
 obtain ⟨w1,r⟩:∃ W,W=((w.alloc (Obj.cells #[] 3)).alloc (Obj.cells cur 3)).drew:=⟨_,rfl⟩
 obtain ⟨g1,J⟩:=exx (w.heap.size+1)
 have k:Below w.heap.size w w1:=by rw [r]; exact a5.drew
 have b:Own w1 w.heap.size 3 1 (.slice (some ⟨g1,0,none⟩) M cap) M (fun i _=>.int .i64 (modR M m i:Nat)):=by rw [r,J]; simpa using a1.drew
 try simp only [World.alloc_drew]
 rw [<-r,<-J];clear a1 a5 r J k1 k2 k3 k4
 have l:=k.size
 have N1:Hid (∀ j,j<1->(w1.alloc (Obj.cells #[Value.int IntKind.i64 1] 3)).cell? ((⟨w1.heap.size,0,none⟩:Addr).add j)=some (.int .i64 (modR M m M:Nat))):=fun j hj=>by
  obtain rfl:j=0:=by omega
  unfold modR
  rw [if_neg (by omega)]
  exact World.cell?_alloc_at _ _ _ _ rfl
 go_upto_region 4 with (first | (at_builtin; (refine zag _ rfl (.tmp 18) (.tmp 19) _ rfl w.heap.size 3 i0 _ 1 8 Tryz.underlying22 qi0 qz0 qz1 qz2 rfl (by omega) _ M (fun i _=>.int .i64 (modR M m i:Nat)) rfl (b.alloc _) ⟨w1.heap.size,0,none⟩ 1 rfl N1.out (fun _ _=>rfl) n5.out n6.out (by simp; omega) ?_); intro v' w3 hown3 hg3 hat3))
 have a3:Below w.heap.size w w3:=(k.alloc (by omega) _).grown hg3 (by simp; omega) (fun q e=>(b.lt q e).1)
 obtain ⟨g,o,cp,rfl,V,_⟩:=hown3.form (by omega)
 have hO:OwnI w3 w.heap.size g o (M+1) cp (dOut P d low M (modR M m) 0):=hown3
 clear hown3 hg3 hat3 b k N1 N T l n3 n4 n5 n6 qi0 qz0 qz1 qz2
 have b4:(1:Int)<=(M:Int):=by omega
 have ag:(M:Int)<=8:=by omega
 have aw:(1:Int)<=(d:Int):=by omega
 have ac:(d:Int)<=(M:Int):=by omega
 go_wp2
 go_loopg [9,10,11] (M+1 - d) (fun gg iv _ _ wx=>∃ s:Nat,iv=.int .i64 ((M:Int) - (s:Int))/\s<=M+1 - d/\M+1 - d<=s+gg/\OwnI wx w.heap.size g o (M+1) cp (dOut P d low M (modR M m) s)/\Below w.heap.size w wx)
 case atStart=>exact ⟨0,by go_num,by omega,by omega,hO,a3⟩
 clear hO a3
 obtain ⟨s,rfl,hs,a7,hO,hB⟩:=hrel
 by_cases l:s<M+1 - d
 rotate_left
 ·obtain ⟨S,hS⟩:∃ S,S=M+1 - d:=⟨_,rfl⟩
  obtain rfl:s=S:=by omega
  have av:¬ (d:Int)<=(M:Int) - (s:Int):=by omega
  have K:Hid (DivB P M m d low↔∀ t,t<M+1->dOut P d low M (modR M m) s t=0):=by rw [hS]; exact Iff.rfl
  have n:∀ t,dOut P d low M (modR M m) s t<P:=zep (by omega) O.out s
  obtain ⟨R0,a⟩:=exx (dOut P d low M (modR M m) s)
  rw [<-a] at hO K n
  have v:=hid n
  clear a n hS hs a7 l
  go_wp2
  go_loopg [12] (M+1) (fun gg iv wx=>∃ i:Nat,iv=.int .i64 (i:Nat)/\i<=M+1/\M+1<=i+gg/\(∀ t,t<i->R0 t=0)/\OwnI wx w.heap.size g o (M+1) cp R0/\Below w.heap.size w wx)
  case atStart=>exact ⟨0,rfl,by omega,by omega,fun t ht=>by omega,hO,hB⟩
  clear hO hB
  obtain ⟨i,rfl,hi,ar,hz,hO,hB⟩:=hrel
  have HZ:=hid hz
  clear hz
  have au:(0:Int)<=(i:Int):=by omega
  by_cases l:i<M+1
  rotate_left
  ·obtain ⟨L1,b5⟩:∃ S,S=M+1:=⟨_,rfl⟩
   have B:¬ (i:Int)<(M:Int)+1:=by omega
   have y:Hid (DivB P M m d low):=K.out.2 fun t ht=>HZ.out t (by omega)
   clear hO
   go_wp2
   go_ret
   exact za4 y.out hB
  have B:(i:Int)<(M:Int)+1:=by omega
  have cc:=hO.cell l
  have X:=v.out i
  obtain ⟨x,hx⟩:=exx (R0 i)
  rw [<-hx] at cc X
  have HX:=hid hx
  clear hx
  by_cases h0:x=0
  ·subst h0
   have u:Hid (∀ t,t<i+1->R0 t=0):=fun t ht=>by
    by_cases e:t=i
    ·rw [e]; exact HX.out.symm
    ·exact HZ.out t (by omega)
   go_wp2
   go_roundg (gk - 1)
   case measure=>omega
   case rel=>exact ⟨i+1,by go_num,by omega,by omega,u.out,hO,hB⟩
  have hb:((x:Int) != 0)=true:=by simp; omega
  have a8:Hid (¬ DivB P M m d low):=fun h=>h0 (HX.out.trans (K.out.1 h i l))
  have b3:=hid hO
  clear hO
  go_wp2
  go_ret
  exact zap a8.out hB
 obtain ⟨I,hI⟩:=exx (M - s)
 have H:(M:Int) - (s:Int)=(I:Int):=by omega
 rw [H]
 have b7:d<=I:=by omega
 have ai:(d:Int)<=(I:Int):=by omega
 have b8:I<=M:=by omega
 have b9:(I:Int)<=8:=by omega
 have bb:(0:Int)<=(I:Int):=by omega
 have ba:(I:Int)<(M:Int)+1:=by omega
 have HI:=hid hI
 have am:=hid H
 clear hI H
 obtain ⟨R0,a⟩:=exx (dOut P d low M (modR M m) s)
 have n:∀ t,R0 t<P:=by rw [a]; exact zep (by omega) O.out s
 rw [<-a] at hO
 have ak:=hid a
 have v:=hid n
 clear a n
 obtain ⟨C,hC⟩:=exx (R0 I)
 have be:C<P:=by rw [hC]; exact v.out I
 have cI:wr.cell? ⟨g,o+I,none⟩=some (.int .i64 (C:Nat)):=by rw [hC]; exact hO.cell (by omega)
 have HC:=hid hC
 clear hC
 go_wp2
 clear cI
 obtain ⟨gI,rfl⟩:∃ gK:Nat,gK=gk:=⟨_,rfl⟩
 go_loopg [11] d (fun gg jv wx=>∃ j:Nat,jv=.int .i64 (j:Nat)/\j<=d/\d<=j+gg/\OwnI wx w.heap.size g o (M+1) cp (dIn P d low I C R0 j)/\Below w.heap.size w wx)
 case atStart=>exact ⟨0,rfl,by omega,by omega,hO,hB⟩
 clear hO hB
 obtain ⟨j,rfl,hj,ap,hO,hB⟩:=hrel
 have aq:(0:Int)<=(j:Int):=by omega
 by_cases hlj:j<d
 rotate_left
 ·obtain rfl:d=j:=by omega
  have F:¬ (d:Int)<(d:Int):=by omega
  have zc:=hO.fr (o+I)
  have ci:=hO.cell (i:=I) (by omega)
  have al:Hid (OwnI (wr.setCell ⟨g,o+I,none⟩ (.int .i64 0)) w.heap.size g o (M+1) cp (dOut P d low M (modR M m) (s+1))):=(hO.set (show I<M+1 by omega) 0).congr fun t ht=>by
   show _=(if t=M - s then 0 else dIn P d low (M - s) (dOut P d low M (modR M m) s (M - s)) (dOut P d low M (modR M m) s) d t)
   rw [<-HI.out,<-ak.out,<-HC.out]
  have an:Hid (Below w.heap.size w (wr.setCell ⟨g,o+I,none⟩ (.int .i64 0))):=hB.setCell V _
  clear hO hB
  go_wp2
  go_roundg (gI - 1)
  case measure=>omega
  case rel=>exact ⟨s+1,by have:=am.out; go_num,by omega,by omega,al.out,an.out⟩
 have F:(j:Int)<(d:Int):=by omega
 obtain ⟨Z,hZ⟩:=exx (I - d)
 obtain ⟨Q,hQ⟩:=exx (I - d+j)
 have Y:Q<M+1:=by omega
 have b6:(I:Int) - (d:Int)=(Z:Int):=by omega
 have ae:Z<=16:=by omega
 have ad:=zh2 (P:=P) (d:=d) (low:=low) (i:=I) (c:=C) (by omega) v.out j Q
 have ab:=hll.out j hlj
 obtain ⟨mb,mo,rfl,ao,U⟩:=hl.at hlj
 have cm:=cellS hB U
 have cc:=hO.cell Y
 have zc:=hO.fr (o+Q)
 have u:∀ t,dIn P d low I C R0 (j+1) t=if t=Q then (dIn P d low I C R0 j Q+(P - C)*low j) % P else dIn P d low I C R0 j t:=fun t=>by rw [hQ]; rfl
 obtain ⟨R,hR⟩:∃ R,R=(dIn P d low I C R0 j Q+(P - C)*low j) % P:=⟨_,rfl⟩
 have X:R<P:=by rw [hR]; exact Nat.mod_lt _ (by omega)
 have a0:OwnI (wr.setCell ⟨g,o+Q,none⟩ (.int .i64 (R:Int))) w.heap.size g o (M+1) cp (dIn P d low I C R0 (j+1)):=(hO.set Y R).congr fun t ht=>by
  rw [u t,<-hR]
 have a4:Below w.heap.size w (wr.setCell ⟨g,o+Q,none⟩ (.int .i64 (R:Int))):=hB.setCell V _
 have HO:=hid a0
 have HB:=hid a4
 clear a0 a4
 obtain ⟨D,hD⟩:=exx (dIn P d low I C R0 j Q)
 obtain ⟨G,hG⟩:=exx (low j)
 rw [<-hD] at cc ad hR;rw [<-hG] at cm ab hR
 obtain ⟨E,hE⟩:=exx (P - C)
 rw [<-hE] at hR
 have b1:(P:Int) - (C:Int)=(E:Int):=by omega
 have aj:E*G<=256*256:=Nat.mul_le_mul (by omega) (by omega)
 obtain ⟨Hh,hH⟩:=exx (E*G)
 rw [<-hH] at hR aj
 have a9:(Z:Int)+(j:Int)=(Q:Int):=by omega
 have z:(E:Int)*(G:Int)=(Hh:Int):=by rw [hH]; simp
 have a2:E<=256:=by omega
 clear hD hE hG hH u hO hB hQ hZ U
 have ay:(0:Int)<=(Q:Int):=by omega
 have ax:(Q:Int)<(M:Int)+1:=by omega
 have b2:¬ (P:Int)=0:=by omega
 have az:(2:Int)<=(P:Int):=by omega
 have af:(0:Int)<=(R:Int):=by omega
 have N:(R:Int)<=256:=by omega
 have bd:(0:Int)<=(D:Int):=by omega
 have bc:(0:Int)<=(Hh:Int):=by omega
 have p:(0:Int)<=(D:Int)+(Hh:Int):=by omega
 have b0:¬ P=0:=by omega
 have w1:IntKind.i64.wrap (Q:Int)=(Q:Int):=IntWalk.i64_in _ (by omega)
 have w2:IntKind.i64.wrap (Hh:Int)=(Hh:Int):=IntWalk.i64_in _ (by omega)
 have w3:IntKind.i64.wrap ((D:Int)+(Hh:Int))=(D:Int)+(Hh:Int):=IntWalk.i64_in _ (by omega)
 have w4:IntKind.i64.wrap (R:Int)=(R:Int):=IntWalk.i64_in _ (by omega)
 have w5:IntKind.i64.wrap (Z:Int)=(Z:Int):=IntWalk.i64_in _ (by omega)
 have w6:IntKind.i64.wrap (E:Int)=(E:Int):=IntWalk.i64_in _ (by omega)
 have a6:((D:Int)+(Hh:Int)).tmod (P:Int)=(R:Int):=by rw [Int.tmod_eq_emod_of_nonneg p,hR]; simp
 have aa:((D:Int)+(Hh:Int)) % (P:Int)=(R:Int):=by rw [hR]; simp
 clear hR
 go_wp2
 go_still_tail 25,(by kernel_rfl)
 change wpList _ _ _ _ _ wr.drew
 go_wp2
 clear w1 w2 w3 w4 w5 w6 a6 aa a9 z
 go_roundg (gk - 1)
 case measure=>omega
 case rel=>exact ⟨j+1,by go_num,by omega,by omega,HO.out.drew,HB.out.drew⟩
theorem zcD (P M:Nat) (A:Option Addr) (c:Nat) (m:Nat->Nat) (w:World) (hP2:2<=P) (hP:P<=256) (hM2:2<=M) (hM8:M<=8) (hq:P ^ M<=256)
  (hm:IntsR w w.heap.size A M (fun i=>(m i:Nat))) (hml:Hid (∀ i,i<M->m i<P)) :
  Calls Tryz.prog 134 #[.slice A M c,.int .i64 (P:Nat)] w (IffPost (IrrB P M m) w):=by
 go_enter Tryz.func134, Tryz.ntmps134
 go_wp2
 go_loopg [5,6] M (fun gg cv dv wx=>∃ d:Nat,dv=.int .i64 (d:Nat)/\cv=.int .i64 (P ^ (d - 1):Nat)/\1<=d/\2*d<=M+2/\M+1<=d+gg/\(∀ d',1<=d'->d'<d->∀ v,v<P ^ d'->¬ DivB P M m d' (dig P v))/\Below w.heap.size w wx)
 case atStart=>exact ⟨1,rfl,rfl,by omega,by omega,by omega,fun d' h1 h2=>by omega,Below.refl _ _⟩
 obtain ⟨d,rfl,rfl,t,H,G,r,hB⟩:=hrel
 have y:=hid r
 clear r
 by_cases hlt:2*d<=M
 rotate_left
 ·have n:¬ 2*(d:Int)<=(M:Int):=by omega
  have o:Hid (IrrB P M m):=fun d' h1 h2 v hv=>y.out d' h1 (by omega) v hv
  clear hlt
  go_wp2
  go_ret
  exact za4 o.out hB
 have n:2*(d:Int)<=(M:Int):=by omega
 have C:P ^ d<=256:=Nat.le_trans (Nat.pow_le_pow_right (by omega) (by omega)) hq
 have j:P ^ (d - 1)*P=P ^ d:=by rw [<-Nat.pow_succ]; congr 1; omega
 have B:P ^ (d - 1)<=256:=Nat.le_trans (Nat.pow_le_pow_right (by omega) (by omega)) hq
 obtain ⟨Q,hQ⟩:=exx (P ^ (d - 1))
 obtain ⟨R,hR⟩:=exx (P ^ d)
 rw [<-hQ] at j B;rw [<-hR] at j C;rw [<-hQ]
 have a:(Q:Int)*(P:Int)=(R:Int):=by rw [<-j]; simp
 have z:IntKind.i64.wrap ((Q:Int)*(P:Int))=(R:Int):=by rw [a]; exact IntWalk.i64_in _ (by omega)
 have E:IntKind.i64.wrap (R:Int)=(R:Int):=IntWalk.i64_in _ (by omega)
 have HR:=hid hR
 clear hQ hR j
 go_wp2
 obtain ⟨gI,rfl⟩:∃ gK:Nat,gK=gk:=⟨_,rfl⟩
 clear z a
 go_loopg [7] R (fun gg vv wx=>∃ v:Nat,vv=.int .i64 (v:Nat)/\v<=R/\R<=v+gg/\(∀ v',v'<v->¬ DivB P M m d (dig P v'))/\Below w.heap.size w wx)
 case atStart=>exact ⟨0,rfl,by omega,by omega,fun v' h=>by omega,hB⟩
 clear hB
 obtain ⟨v,rfl,hv,F,q,hB⟩:=hrel
 have x:=hid q
 clear q
 by_cases hlv:v<R
 rotate_left
 ·obtain rfl:v=R:=by omega
  have l:¬ (v:Int)<(v:Int):=by omega
  have k:Hid (∀ d',1<=d'->d'<d+1->∀ v',v'<P ^ d'->¬ DivB P M m d' (dig P v')):=fun d' h1 h2 v' h3=>by
   by_cases e:d'=d
   ·subst e
    exact x.out v' (by rw [HR.out]; exact h3)
   ·exact y.out d' h1 (by omega) v' h3
  go_wp2
  go_roundg (gI - 1)
  case measure=>omega
  case rel=>exact ⟨d+1,by go_num,by rw [HR.out]; simp,by omega,by omega,by omega,k.out,hB⟩
 have l:(v:Int)<(R:Int):=by omega
 go_wp2_with fail
 refine (zdl v P d _ (by omega) (by omega) (by omega) (by omega)).mono ?_
 rintro e w1 ⟨rfl,rd,kb⟩
 have p:=onS hB kb
 have g:IntsR w1 w1.heap.size (some ⟨wr.heap.size,0,none⟩) d (fun i=>(dig P v i:Nat)):=zbd rd
 have s:Hid (∀ i,i<d->dig P v i<P):=fun i _=>zbD (by omega) v i
 clear kb rd
 go_wp2_with fail
 refine (zeN P M d A _ c d m (dig P v) w1 hP2 hP t (by omega) hM8 (hm.on p) hml g s).mono ?_
 rintro e w2 ⟨b,rfl,hb,kb⟩
 have u:=onS p kb
 clear kb g s hB p
 have HB:=hid hb
 clear hb
 cases b
 ·have k:Hid (∀ v',v'<v+1->¬ DivB P M m d (dig P v')):=fun v' h h2=>by
   by_cases e:v'=v
   ·have:=HB.out.2 (e ▸ h2)
    cases this
   ·exact x.out v' (by omega) h2
  go_wp2
  go_roundg (gk - 1)
  case measure=>omega
  case rel=>exact ⟨v+1,by go_num,by omega,by omega,k.out,u⟩
 have D:Hid (¬ IrrB P M m):=fun h=>h d t hlt v (by rw [<-HR.out]; exact hlv) (HB.out.1 rfl)
 go_wp2
 go_ret
 exact zap D.out u
def GoodF (P M:Int) (k:Nat) (f:Nat->Int):Prop :=
 ∃ P' M':Nat,P=P'/\M=M'/\FldOk P' M'/\PrimeB P'/\((M'=1/\k=0)∨(2<=M'/\k=M'/\(∀ i,i<M'->0<=f i/\f i<P')/\IrrB P' M' (fun i=>(f i).toNat)))
theorem GoodF.field {P M:Nat} {k:Nat} {f:Nat->Int} (h:GoodF (P:Int) (M:Int) k f):FieldOk P M (fun i=>(f i).toNat)/\(M=1∨k=M):=by
 obtain ⟨P',M',h1,h2,h3,h4,h5⟩:=h
 obtain rfl:P=P':=by omega
 obtain rfl:M=M':=by omega
 rcases h5 with ⟨e,_⟩ | ⟨e1,e2,e3,e4⟩
 ·exact ⟨⟨h3,h4,.inl e,fun d h1 h2=>by omega⟩,.inl e⟩
 ·exact ⟨⟨h3,h4,.inr fun t ht=>by have:=e3 t ht; show (f t).toNat<P; omega,e4⟩,.inr e2⟩
theorem GoodF.mod {P M:Nat} {k:Nat} {f:Nat->Int} {w:World} {A:Option Addr} (h:GoodF (P:Int) (M:Int) k f) (hr:IntsR w w.heap.size A k f):ModOk w P M A (fun i=>(f i).toNat):=by
 obtain ⟨P',M',h1,h2,h3,h4,h5⟩:=h
 obtain rfl:P=P':=by omega
 obtain rfl:M=M':=by omega
 rcases h5 with ⟨e,_⟩ | ⟨e1,rfl,e3,e4⟩
 ·exact .inl e
 ·exact .inr ⟨hr.congr fun i hi=>by have:=e3 i hi; show f i=((f i).toNat:Int); omega,fun i hi=>by have:=e3 i hi; show (f i).toNat<P; omega⟩
def CheckPost (p:Prop) (w:World) (e:Ending) (w':World):Prop:=∃ v:Int,e=.returned (.int .i64 v)/\((v=0/\p)∨(v=1/\¬ p))/\Below w.heap.size w w'
theorem zbQ {p:Prop} {w w':World} (h:p) (hB:Below w.heap.size w w'):CheckPost p w (.returned (.int .i64 0)) w':=⟨0,rfl,.inl ⟨rfl,h⟩,hB⟩
theorem zaD {p:Prop} {w w':World} (h:¬ p) (hB:Below w.heap.size w w'):CheckPost p w (.returned (.int .i64 1)) w':=⟨1,rfl,.inr ⟨rfl,h⟩,hB⟩
theorem zcM (P M:Int) (A:Option Addr) (k c:Nat) (f:Nat->Int) (w:World) (hr:IntsR w w.heap.size A k f) :
  Calls Tryz.prog 69 #[.agg #[.int .i64 P,.int .i64 M,.slice A k c]] w (CheckPost (GoodF P M k f) w):=by
 obtain ⟨w0,m,hB,rf⟩:=zaj w (.int .i64 P) (.int .i64 M) (.slice A k c) 24
 go_enter Tryz.func69, Tryz.ntmps69
 go_upto_region 1 with fail
 rw [<-m];clear m
 have q0:=qc0 rf
 have q1:=qc1 rf
 have q2:=qc2 rf
 go_wp2_with fail
 refine (za2 P M A k c _).mono ?_
 rintro e w1 ⟨rfl,kb⟩
 replace rf:=zab rf kb;replace hB:=onS hB kb;clear kb q0 q1 q2
 by_cases h0:ordV P M=0
 ·have a:Hid (¬ GoodF P M k f):=by
   rintro ⟨P',M',rfl,rfl,h3,_⟩
   rw [zbo h3] at h0
   have:=Nat.pow_pos (n:=M') (show 0<P' by have:=h3.1; omega)
   omega
  rw [h0];clear h0 rf
  go_wp2
  go_ret
  exact zaD a.out hB
 obtain ⟨P,M,rfl,rfl,hf⟩:=zgW h0
 obtain ⟨v,hv⟩:=exx (ordV (P:Int) (M:Int))
 rw [<-hv] at h0;rw [<-hv]
 have u:(v == 0)=false:=by simpa using h0
 have E:=hf.1
 have r:=hf.P_le
 have J:=hf.2.1
 have F:=hf.2.2.1
 have hq:=hf.2.2.2
 have HF:=hid hf
 clear hv hf
 have q0:=qc0 rf
 have q1:=qc1 rf
 have q2:=qc2 rf
 go_wp2_with fail
 refine (zf8 P _ r).mono ?_
 rintro e w2 ⟨b,rfl,hb,rfl⟩
 have l:=hid hb
 clear hb h0 u
 cases b
 ·have a:Hid (¬ GoodF (P:Int) (M:Int) k f):=by
   rintro ⟨P',M',e1,e2,h3,h4,_⟩
   obtain rfl:P=P':=by omega
   have:=l.out.2 h4
   cases this
  go_wp2
  go_ret
  exact zaD a.out hB
 have hp:Hid (PrimeB P):=l.out.1 rfl
 clear l
 by_cases hM:M=1
 ·subst hM
  by_cases hk0:k=0
  ·subst hk0
   have d:Hid (GoodF (P:Int) ((1:Nat):Int) 0 f):=⟨P,1,rfl,rfl,HF.out,hp.out,.inl ⟨rfl,rfl⟩⟩
   go_wp2
   go_ret
   exact zbQ d.out hB
  have C:((k:Int) != 0)=true:=by simp; omega
  have a:Hid (¬ GoodF (P:Int) ((1:Nat):Int) k f):=by
   rintro ⟨P',M',e1,e2,h3,h4,⟨e3,e4⟩ | ⟨e3,_⟩⟩
   ·exact hk0 e4
   ·omega
  go_wp2
  go_ret
  exact zaD a.out hB
 have G:((M:Int) == 1)=false:=by simp; omega
 by_cases hkM:k=M
 rotate_left
 ·have B:((k:Int) != (M:Int))=true:=by simp; omega
  have a:Hid (¬ GoodF (P:Int) (M:Int) k f):=by
   rintro ⟨P',M',e1,e2,h3,h4,⟨e3,e4⟩ | ⟨e3,e4,_⟩⟩
   ·omega
   ·omega
  go_wp2
  go_ret
  exact zaD a.out hB
 subst hkM
 have z:((k:Int) != (k:Int))=false:=by simp
 have q:2<=k:=by omega
 go_wp2
 clear q0 q1 q2 G z
 go_loopg [3] k (fun gg iv wx=>∃ i:Nat,iv=.int .i64 (i:Nat)/\i<=k/\k<=i+gg/\(∀ i',i'<i->0<=f i'/\f i'<P)/\wx.rowIs w.heap.size 24 3 (fldCell (.int .i64 (P:Nat)) (.int .i64 (k:Nat)) (.slice A k c))/\Below w.heap.size w wx)
 case atStart=>exact ⟨0,rfl,by omega,by omega,fun i' h=>by omega,rf,hB⟩
 clear rf hB
 obtain ⟨i,rfl,hi,H,hg,rf,hB⟩:=hrel
 have HG:=hid hg
 clear hg
 have I:(0:Int)<=(i:Int):=by omega
 have q0:=qc0 rf
 have q1:=qc1 rf
 have q2:=qc2 rf
 by_cases hlt:i<k
 rotate_left
 ·obtain rfl:i=k:=by omega
  have j:¬ (i:Int)<(i:Int):=by omega
  have g:IntsR wr wr.heap.size A i (fun t=>((f t).toNat:Nat)):=(hr.on hB).congr fun t ht=>by have:=HG.out t ht; omega
  have p:Hid (∀ t,t<i->(f t).toNat<P):=fun t ht=>by have:=HG.out t ht; omega
  go_wp2_with fail
  refine (zcD P i A c _ wr E r q F hq g p).mono ?_
  rintro e w2 ⟨b,rfl,hb,kb⟩
  replace hB:=onS hB kb
  have s:=hid hb
  clear kb q0 q1 q2 g p hb rf
  cases b
  ·have a:Hid (¬ GoodF (P:Int) (i:Int) i f):=by
    rintro ⟨P',M',e1,e2,h3,h4,⟨e3,e4⟩ | ⟨e3,e4,e5,e6⟩⟩
    ·omega
    obtain rfl:P=P':=by omega
    subst e4
    have:=s.out.2 e6
    cases this
   go_wp2
   go_ret
   exact zaD a.out hB
  have d:Hid (GoodF (P:Int) (i:Int) i f):=⟨P,i,rfl,rfl,HF.out,hp.out,.inr ⟨q,rfl,HG.out,s.out.1 rfl⟩⟩
  go_wp2
  go_ret
  exact zbQ d.out hB
 have j:(i:Int)<(k:Int):=by omega
 obtain ⟨b,o,rfl,hb,e0⟩:=(hr.on hB).at hlt
 obtain ⟨x,hx⟩:=exx (f i)
 rw [<-hx] at e0
 have HX:=hid hx
 clear hx
 have a:Hid (x<0∨(P:Int)<=x->¬ GoodF (P:Int) (k:Int) k f):=by
  rintro hc ⟨P',M',e1,e2,h3,h4,⟨e3,e4⟩ | ⟨e3,e4,e5,_⟩⟩
  ·omega
  have:=e5 i (by omega)
  rw [<-HX.out] at this
  omega
 by_cases hx0:x<0
 ·have hd:decide (x<0)=true:=by simpa using hx0
  go_wp2
  go_quiet (fail)
  go_wp2
  go_ret
  exact zaD (a.out (.inl hx0)) (zad hB _)
 have hd:decide (x<0)=false:=by simpa using hx0
 by_cases hxP:(P:Int)<=x
 ·have D:decide ((P:Int)<=x)=true:=by simpa using hxP
  go_wp2
  go_quiet (fail)
  go_wp2
  go_ret
  exact zaD (a.out (.inr hxP)) (zad hB _)
 have D:decide ((P:Int)<=x)=false:=by simpa using hxP
 have y:Hid (∀ i',i'<i+1->0<=f i'/\f i'<P):=fun i' h=>by
  by_cases e:i'=i
  ·rw [e,<-HX.out]; omega
  ·exact HG.out i' (by omega)
 clear a
 go_wp2
 go_quiet (fail)
 go_wp2
 go_roundg (gk - 1)
 case measure=>omega
 case rel=>exact ⟨i+1,by go_num,by omega,by omega,y.out,za8 rf _,zad hB _⟩
def negF (P M x:Nat):Nat:=valN P (fun i=>(P - dig P x i) % P) M
theorem zb2 {P M x:Nat} (hP:0<P):negF P M x<P ^ M:=za3 fun _ _=>Nat.mod_lt _ hP
theorem zbI {P M x:Nat} (hP:0<P):addF P M x (negF P M x)=0:=by
 have a:addF P M x (negF P M x)<P ^ M:=za3 fun _ _=>Nat.mod_lt _ hP
 refine zdp hP a (Nat.pow_pos hP) fun j hj=>?_
 unfold addF
 rw [zaX (fun i _=>Nat.mod_lt _ hP) j hj]
 unfold negF
 rw [zaX (fun i _=>Nat.mod_lt _ hP) j hj]
 have h0:dig P 0 j=0:=by unfold dig; simp
 rw [h0]
 have h1:=zbD hP x j
 obtain ⟨d,hd⟩:=exx (dig P x j)
 rw [<-hd] at h1 ⊢
 rcases Nat.eq_zero_or_pos d with h2 | h2
 ·subst h2; simp
 ·rw [Nat.mod_eq_of_lt (show P - d<P by omega),show d+(P - d)=P by omega,Nat.mod_self]
theorem zaL {w w':World} {P M:Nat} {A:Option Addr} {m:Nat->Nat} (h:ModOk w P M A m) (hb:Below w.heap.size w w'):ModOk w' P M A m:=by
 rcases h with h | ⟨h1,h2⟩
 ·exact .inl h
 ·exact .inr ⟨h1.on hb,h2⟩
theorem zcY (P M:Nat) (A:Option Addr) (k c:Nat) (x:Int) (w:World) (hf:FldOk P M) :
  Calls Tryz.prog 184 #[.agg #[.int .i64 (P:Nat),.int .i64 (M:Nat),.slice A k c],.int .i64 x] w fun e w'=>e=.returned (.int .i64 (negF P M (inV (P ^ M) x):Nat))/\Below w.heap.size w w':=by
 have C:=hf.1
 have hP:=hf.P_le
 have E:=hf.2.2.1
 have hq:=hf.2.2.2
 obtain ⟨w0,h,hB,rf⟩:=zaj w (.int .i64 (P:Nat)) (.int .i64 (M:Nat)) (.slice A k c) 24
 go_enter Tryz.func184, Tryz.ntmps184
 go_upto_region 1 with fail
 rw [<-h];clear h
 have h:=rf.lt
 have q0:=qc0 rf
 have q1:=qc1 rf
 have q2:=qc2 rf
 go_wp2_with fail
 refine (zaW P M A k c x _ hf).mono ?_
 rintro e w1 ⟨ga,rfl,z,ra,kb⟩
 replace rf:=zab rf kb
 have q:=hB.size
 replace hB:=onS hB kb;clear kb q0 q1 q2
 obtain ⟨X,hX⟩:=exx (inV (P ^ M) x)
 rw [<-hX] at ra
 have HX:=hid hX
 clear hX
 have n:w.heap.size≠ga:=by omega
 have o:w.heap.size<=ga:=by omega
 clear z q h
 go_wp2
 go_loopg [6] M (fun gg iv wx=>∃ i:Nat,iv=.int .i64 (i:Nat)/\i<=M/\M<=i+gg/\wx.rowIs ga 3 M (fun t=>.int .i64 (if t<i then ((P - dig P X t) % P:Nat) else (dig P X t:Nat):Nat))/\wx.rowIs w.heap.size 24 3 (fldCell (.int .i64 (P:Nat)) (.int .i64 (M:Nat)) (.slice A k c))/\Below w.heap.size w wx)
 case atStart=>exact ⟨0,rfl,by omega,by omega,ra.congr fun t _=>rfl,rf,hB⟩
 clear ra rf hB
 obtain ⟨i,rfl,hi,F,ra,rf,hB⟩:=hrel
 have G:(0:Int)<=(i:Int):=by omega
 by_cases hlt:i<M
 rotate_left
 ·obtain rfl:M=i:=by omega
  have m:¬ (M:Int)<(M:Int):=by omega
  have hr:wr.rowIs ga 3 M (fun t=>.int .i64 ((P - dig P X t) % P:Nat)):=ra.congr fun t ht=>by rw [if_pos ht]
  have g:=rowInts hr
  have j:Hid (valN P (fun t=>(P - dig P X t) % P) M=negF P M (inV (P ^ M) x)):=by rw [HX.out]; rfl
  have l:Hid (∀ t,t<M->(P - dig P X t) % P<P):=fun t _=>Nat.mod_lt _ (by omega)
  clear ra hr
  have q0:=qc0 rf
  have q1:=qc1 rf
  have q2:=qc2 rf
  go_wp2_with fail
  refine (zbP P M A k c (some ⟨ga,0,none⟩) M M _ _ C hP g l hq E).mono ?_
  rintro e w3 ⟨rfl,kb⟩
  replace hB:=onS hB kb;clear kb q0 q1 q2 rf;rw [j.out]
  obtain ⟨R,hR⟩:=exx (negF P M (inV (P ^ M) x))
  rw [<-hR]
  have HR:=hid hR
  clear hR g
  go_wp2
  go_ret
  exact ⟨by rw [HR.out]; rfl,hB⟩
 have m:(i:Int)<(M:Int):=by omega
 have B:=zbD (p:=P) (by omega) X i
 have ca:wr.cell? ⟨ga,i,none⟩=some (.int .i64 (dig P X i:Nat)):=by have:=ra.cell hlt; simpa using this
 have q0:=qc0 rf
 have za:=ra.frozen i
 obtain ⟨R,hR⟩:∃ R,R=(P - dig P X i) % P:=⟨_,rfl⟩
 have H:R<P:=by rw [hR]; exact Nat.mod_lt _ (by omega)
 have ra2:(wr.setCell ⟨ga,i,none⟩ (.int .i64 (R:Int))).rowIs ga 3 M (fun t=>.int .i64 (if t<i+1 then ((P - dig P X t) % P:Nat) else (dig P X t:Nat):Nat)):=(ra.set i _).congr fun t ht=>by
  by_cases e:t=i
  ·subst e
   rw [if_pos rfl,if_pos (by omega),hR]
  rw [if_neg e]
  by_cases e2:t<i
  ·rw [if_pos e2,if_pos (by omega)]
  ·rw [if_neg e2,if_neg (by omega)]
 have rf2:=rf.setOther (a:=⟨ga,i,none⟩) (by simpa using n) (.int .i64 (R:Int))
 have s:Below w.heap.size w (wr.setCell ⟨ga,i,none⟩ (.int .i64 (R:Int))):=hB.setCell o _
 have RA:=hid ra2
 have RF:=hid rf2
 have HB:=hid s
 obtain ⟨D,hD⟩:=exx (dig P X i)
 rw [<-hD] at ca B hR;clear ra2 rf2 s hD ra rf hB
 have J:¬ (P:Int)=0:=by omega
 have I:¬ P=0:=by omega
 have d:(0:Int)<=(P:Int) - (D:Int):=by omega
 have b:((P:Int) - (D:Int))=((P - D:Nat):Int):=by omega
 have r:((P:Int) - (D:Int)) % (P:Int)=(R:Int):=by rw [hR,b]; rfl
 have y:((P:Int) - (D:Int)).tmod (P:Int)=(R:Int):=by rw [Int.tmod_eq_emod_of_nonneg d]; exact r
 have u:IntKind.i64.wrap ((P:Int) - (D:Int))=(P:Int) - (D:Int):=IntWalk.i64_in _ (by omega)
 have v:IntKind.i64.wrap (R:Int)=(R:Int):=IntWalk.i64_in _ (by omega)
 clear hR b
 go_wp2
 go_still_tail 13,(by kernel_rfl)
 change wpList _ _ _ _ _ wr.drew
 go_wp2
 clear y u v r
 go_roundg (gk - 1)
 case measure=>omega
 case rel=>exact ⟨i+1,by go_num,by omega,by omega,RA.out,RF.out,HB.out.drew⟩
def InvPost (q:Nat) (mul:Nat->Nat->Nat) (x:Nat) (w:World) (e:Ending) (w':World):Prop :=
 ∃ y:Nat,e=.returned (.int .i64 (y:Nat))/\Below w.heap.size w w'/\y<q/\((∃ z,1<=z/\z<q/\mul x z=1)->mul x y=1)
theorem zcZ (P M:Nat) (A:Option Addr) (k c:Nat) (m:Nat->Nat) (x:Int) (w:World) (hf:FldOk P M) (hm:ModOk w P M A m) (hkM:M=1∨k=M) :
  Calls Tryz.prog 226 #[.agg #[.int .i64 (P:Nat),.int .i64 (M:Nat),.slice A k c],.int .i64 x] w (InvPost (P ^ M) (mulF P M m) (inV (P ^ M) x) w):=by
 have y:=hf.1
 have hq:=hf.2.2.2
 have l:0<P ^ M:=Nat.pow_pos (by omega)
 obtain ⟨w0,j,hB,rf⟩:=zaj w (.int .i64 (P:Nat)) (.int .i64 (M:Nat)) (.slice A k c) 24
 obtain ⟨q,b⟩:=exx (P ^ M)
 have HQ:=hid b
 have a:ordV (P:Int) (M:Int)=(q:Nat):=by
  unfold ordV
  rw [if_pos ⟨by omega,by have:=hf.2.1; omega,by have:=hf.2.2.1; omega,by simpa using hq⟩,b]
  simp
 rw [<-b] at hq l ⊢
 have h:=hid a
 obtain ⟨X,hX⟩:=exx (inV q x)
 rw [<-hX]
 have HX:=hid hX
 clear hX a b
 go_enter Tryz.func226, Tryz.ntmps226
 go_upto_region 1 with fail
 rw [<-j];clear j
 go_wp2
 go_loopg [5] q (fun gg iv wx=>∃ i:Nat,iv=.int .i64 (i:Nat)/\1<=i/\i<=q/\q<=i+gg/\(∀ z,1<=z->z<i->mulF P M m X z≠1)/\wx.rowIs w.heap.size 24 3 (fldCell (.int .i64 (P:Nat)) (.int .i64 (M:Nat)) (.slice A k c))/\Below w.heap.size w wx)
 case atStart=>exact ⟨1,rfl,by omega,by omega,by omega,fun z h1 h2=>absurd h2 (by omega),rf,hB⟩
 clear rf hB
 obtain ⟨i,rfl,u,hi,s,n,rf,hB⟩:=hrel
 have v:(0:Int)<=(i:Int):=by omega
 have p:=hid n
 clear n
 have q0:=qc0 rf
 have q1:=qc1 rf
 have q2:=qc2 rf
 go_wp2_with fail
 refine (za2 (P:Int) (M:Int) A k c wr).mono ?_
 rintro e w1 ⟨rfl,kb⟩
 rw [h.out];replace rf:=zab rf kb;replace hB:=onS hB kb;clear kb q0 q1 q2
 have q0:=qc0 rf
 have q1:=qc1 rf
 have q2:=qc2 rf
 by_cases hlt:i<q
 rotate_left
 ·have d:¬ (i:Int)<(q:Int):=by omega
  go_wp2
  go_ret
  refine ⟨0,rfl,hB,l,fun ⟨z,h1,h2,h3⟩=>absurd h3 (p.out z h1 (by omega))⟩
 have d:(i:Int)<(q:Int):=by omega
 go_wp2_with fail
 refine (zcQ P M A k c m x (i:Nat) w1 hf (zaL hm hB) hkM).mono ?_
 rintro e w2 ⟨rfl,kb⟩
 rw [<-HQ.out,<-HX.out]
 have o:inV q (i:Nat)=i:=by unfold inV; rw [if_pos ⟨by omega,by omega⟩]; omega
 rw [o];replace rf:=zab rf kb;replace hB:=onS hB kb;clear kb q0 q1 q2 o
 obtain ⟨r,hr⟩:=exx (mulF P M m X i)
 rw [<-hr]
 have HR:=hid hr
 clear hr
 by_cases h1:r=1
 ·have hc:((r:Int) == 1)=true:=by simp [h1]
  have g:Hid (mulF P M m X i=1):=by rw [<-HR.out]; exact h1
  clear h1
  go_wp2
  go_ret
  exact ⟨i,rfl,hB,hlt,fun _=>g.out⟩
 have hc:((r:Int) == 1)=false:=by simp; omega
 have g:Hid (mulF P M m X i≠1):=by rw [<-HR.out]; exact h1
 clear h1
 go_wp2
 go_roundg (gk - 1)
 case measure=>omega
 refine ⟨i+1,by go_num,by omega,by omega,by omega,fun z hz1 hz2=>?_,rf,hB⟩
 by_cases e:z=i
 ·subst e; exact g.out
 ·exact p.out z hz1 (by omega)
theorem zhh {P M:Int} (h:256<P):ordV P M=0:=by
 unfold ordV
 split
 ·rename_i h2
  exfalso
  obtain ⟨h3,h4,_,h5⟩:=h2
  have h6:=Nat.pow_le_pow_right (n:=P.toNat) (show 0<P.toNat by omega) (show 1<=M.toNat by omega)
  rw [Nat.pow_one] at h6
  omega
 ·rfl
theorem zbR (P M:Int) (w:World):Calls Tryz.prog 146 #[.int .i64 P,.int .i64 M] w (OrderPost P M w):=by
 by_cases h1:P<2
 ·have hz:=hid (zcK (P:=P) (M:=M) (.inl h1))
  go_enter Tryz.func146, Tryz.ntmps146
  go_wp2
  go_ret
  exact zaz hz.out (Below.refl _ _)
 by_cases h2:P > 256
 ·have hz:=hid (zhh (P:=P) (M:=M) h2)
  go_enter Tryz.func146, Tryz.ntmps146
  go_wp2
  go_ret
  exact zaz hz.out (Below.refl _ _)
 by_cases h3:M<1
 ·have hz:=hid (zcK (P:=P) (M:=M) (.inr (.inl h3)))
  go_enter Tryz.func146, Tryz.ntmps146
  go_wp2
  go_ret
  exact zaz hz.out (Below.refl _ _)
 by_cases h4:M > 8
 ·have hz:=hid (zcK (P:=P) (M:=M) (.inr (.inr h4)))
  go_enter Tryz.func146, Tryz.ntmps146
  go_wp2
  go_ret
  exact zaz hz.out (Below.refl _ _)
 obtain ⟨p,rfl⟩:∃ p:Nat,P=p:=⟨P.toNat,by omega⟩
 obtain ⟨m,rfl⟩:∃ m:Nat,M=m:=⟨M.toNat,by omega⟩
 have a:Hid (∀ v:Nat,(p ^ m<=256->v=p ^ m)->(256<p ^ m->v=0)->ordV (p:Int) (m:Int)=(v:Int)):=fun v hv1 hv2=>by
  unfold ordV
  rw [Int.toNat_natCast,Int.toNat_natCast]
  by_cases h:p ^ m<=256
  ·rw [if_pos ⟨by omega,by omega,by omega,h⟩,hv1 h]
  ·rw [if_neg (fun hh=>h hh.2.2.2),hv2 (by omega)]; rfl
 have l:(0:Int)<=(m:Int):=by omega
 go_enter Tryz.func146, Tryz.ntmps146
 go_wp2
 go_loopg [5,21] m (fun gg qv iv wx=>∃ i y:Nat,qv=.int .i64 (y:Nat)/\iv=.int .i64 (i:Nat)/\i<=m/\m<=i+gg/\Hid (y=p ^ i)/\y<=256/\wx=w)
 case atStart=>exact ⟨0,1,rfl,rfl,by omega,by omega,rfl,by omega,rfl⟩
 obtain ⟨i,y,rfl,rfl,hi,o,HY,hy,d⟩:=hrel
 subst d
 by_cases hlt:i<m
 rotate_left
 ·have c:¬ (i:Int)<(m:Int):=by omega
  obtain rfl:i=m:=by omega
  have b:=hid (a.out y (fun _=>HY.out) (fun h=>by have:=HY.out; omega))
  go_wp2
  go_ret
  exact ⟨by rw [b.out]; rfl,Below.refl _ _⟩
 have c:(i:Int)<(m:Int):=by omega
 obtain ⟨z,hz⟩:=exx (y*p)
 have j:(y:Int)*(p:Int)=(z:Int):=by rw [hz]; simp
 have k:z<=65536:=by rw [hz]; exact Nat.mul_le_mul (show y<=256 by omega) (show p<=256 by omega)
 have HZ:Hid (z=p ^ (i+1)):=by show _=_; rw [hz,HY.out,Nat.pow_succ]
 clear hz
 by_cases hb:z > 256
 ·have g:(z:Int) > 256:=by omega
  have e:=hid (a.out 0 (fun h=>by
   have h5:=Nat.pow_le_pow_right (n:=p) (by omega) (show i+1<=m by omega)
   rw [<-HZ.out] at h5
   omega) (fun _=>rfl))
  go_wp2
  go_ret
  exact ⟨by rw [e.out]; rfl,Below.refl _ _⟩
 have g:¬ (z:Int) > 256:=by omega
 go_wp2
 go_roundg (gk - 1)
 case measure=>omega
 case rel=>exact ⟨i+1,z,rfl,by go_num,by omega,by omega,HZ,by omega,rfl⟩
theorem zc0 {n d:Nat} (hd:n<d*d) (h:∀ e,2<=e->e<d->n % e≠0):PrimeB n:=by
 intro e h1 h2 h3
 obtain ⟨f,hf⟩:=Nat.dvd_of_mod_eq_zero h3
 have a:2<=f:=by
  rcases (show f=0∨f=1∨2<=f by omega) with e0 | e0 | e0
  ·subst e0; omega
  ·subst e0; omega
  ·exact e0
 by_cases he:e<d
 ·exact h e h1 he h3
 by_cases hfd:f<d
 ·exact h f a hfd (by rw [hf]; exact Nat.mul_mod_left e f)
 ·have:=Nat.mul_le_mul (show d<=e by omega) (show d<=f by omega)
  omega
theorem zeO (P:Nat) (w:World) (hP2:2<=P) (hP:P<=256) :
  Calls Tryz.prog 198 #[.int .i64 (P:Nat)] w (PrimePost P w):=by
 have l:(P:Int) ≥ 2:=by omega
 have g:(2:Int)<=(P:Int):=by omega
 go_enter Tryz.func198, Tryz.ntmps198
 go_wp2
 go_loopg [3] 20 (fun gg iv wx=>∃ d:Nat,iv=.int .i64 (d:Nat)/\2<=d/\d<=17/\20<=d+gg/\Hid (∀ d',2<=d'->d'<d->P % d'≠0)/\wx=w)
 case atStart=>exact ⟨2,rfl,by omega,by omega,by omega,fun d' h1 h2=>absurd h1 (by omega),rfl⟩
 obtain ⟨d,rfl,h2,hd,s,HG,i⟩:=hrel
 subst i
 have t:(2:Int)<=(d:Int):=by omega
 have u:¬ (d:Int)=0:=by omega
 have q:(d:Int)<=17:=by omega
 obtain ⟨z,hz⟩:=exx (d*d)
 have o:(d:Int)*(d:Int)=(z:Int):=by rw [hz]; simp
 have p:z<=289:=by rw [hz]; exact Nat.mul_le_mul hd hd
 have HZ:=hid hz
 clear hz
 by_cases hlt:z<=P
 rotate_left
 ·have b:¬ (z:Int)<=(P:Int):=by omega
  have c:=hid (zc0 (n:=P) (d:=d) (by have:=HZ.out; omega) HG.out)
  go_wp2
  go_ret
  exact ⟨true,rfl,⟨fun _=>c.out,fun _=>rfl⟩,rfl⟩
 have b:(z:Int)<=(P:Int):=by omega
 have a:(P:Int) % (d:Int)=((P % d:Nat):Int):=by simp
 obtain ⟨r,hr⟩:=exx (P % d)
 rw [<-hr] at a
 have HR:=hid hr
 clear hr
 have k:d<=16:=Classical.byContradiction fun hn=>by
  obtain rfl:d=17:=by omega
  have:=HZ.out
  omega
 by_cases h0:r=0
 ·subst h0
  have m:Hid (¬ PrimeB P):=fun h=>h d h2 (by
   have:=HZ.out
   have h5:2*d<=d*d:=Nat.mul_le_mul_right d h2
   omega) HR.out.symm
  go_wp2
  go_ret
  exact ⟨false,rfl,⟨(fun h=>by cases h),fun h=>absurd h m.out⟩,rfl⟩
 have hb:((r:Int) == 0)=false:=by simp; omega
 have j:Hid (∀ d',2<=d'->d'<d+1->P % d'≠0):=fun d' e1 e2=>by
  by_cases e:d'=d
  ·rw [e,<-HR.out]; exact h0
  ·exact HG.out d' e1 (by omega)
 go_wp2
 go_roundg (gk - 1)
 case measure=>omega
 case rel=>exact ⟨d+1,by go_num,by omega,by omega,by omega,j,rfl⟩
theorem zcm (x p n:Nat) (w:World) (hx:x<=1048576) (hp:1<=p) (hp2:p<=256) (hn:n<=64) :
  Calls Tryz.prog 227 #[.int .i64 (x:Nat),.int .i64 (p:Nat),.int .i64 (n:Nat)] w (RowPost n (fun i=>.int .i64 (dig p x i:Nat)) w):=by
 have o:=fun W=>zaf (P:=Tryz.prog) 22 3 _ 8 Tryz.underlying22 Tryz.infoInt rfl (n:Int) (by omega) (by omega) (by omega) W
 simp only [Int.toNat_natCast] at o
 have row:=World.rowIs_made w (.int .i64 0) n 3
 have hB:=aly w (.cells (madeCells #[.int .i64 0] n) 3)
 have H:(1:Int)<=(p:Int):=by omega
 have I:¬ (p:Int)=0:=by omega
 have G:(p:Int)<=256:=by omega
 go_enter Tryz.func227, Tryz.ntmps227
 go_wp2
 obtain ⟨w1,b⟩:=exx (w.alloc (.cells (madeCells #[.int .i64 0] n) 3))
 obtain ⟨g,hg⟩:=exx w.heap.size
 rw [<-b,<-hg];rw [<-b] at hB row;rw [<-hg] at row
 have q:w.heap.size<=g:=by omega
 clear b hg o
 go_loopg [0,8,13] n (fun gg xv _ iv wx=>∃ i:Nat,iv=.int .i64 (i:Nat)/\xv=.int .i64 (x / p ^ i:Nat)/\i<=n/\n<=i+gg/\wx.rowIs g 3 n (fun j=>.int .i64 (if j<i then (dig p x j:Nat) else 0:Int))/\Below w.heap.size w wx)
 case atStart=>exact ⟨0,rfl,by simp,by omega,by omega,row.congr fun i _=>rfl,hB⟩
 clear row hB
 obtain ⟨i,rfl,rfl,hi,J,row,hB⟩:=hrel
 have K:(0:Int)<=(i:Int):=by omega
 have s:x / p ^ i<=x:=Nat.div_le_self _ _
 have c:x / p ^ (i+1)=x / p ^ i / p:=by rw [Nat.pow_succ,Nat.div_div_eq_div_mul]
 have m:dig p x i=x / p ^ i % p:=rfl
 obtain ⟨y,hy⟩:=exx (x / p ^ i)
 rw [<-hy] at s c m;rw [<-hy]
 have u:=hid c
 have v:=hid m
 clear hy c m
 by_cases hlt:i<n
 rotate_left
 ·obtain rfl:i=n:=by omega
  have k:¬ (i:Int)<(i:Int):=by omega
  have d:Hid (wr.rowIs g 3 i (fun j=>.int .i64 (dig p x j:Nat))):=row.congr fun j hj=>by rw [if_pos hj]
  clear row
  go_wp2
  go_ret
  exact ⟨g,rfl,q,d.out,hB⟩
 have k:(i:Int)<(n:Int):=by omega
 have F:(0:Int)<=(y:Int):=by omega
 have E:(y:Int)<=1048576:=by omega
 have h:(y:Int) % (p:Int)=((y % p:Nat):Int):=by simp
 have l:(y:Int) / (p:Int)=((y / p:Nat):Int):=by simp
 obtain ⟨r,hr⟩:=exx (y % p)
 obtain ⟨z,hz⟩:=exx (y / p)
 rw [<-hr] at h;rw [<-hz] at l
 have D:(0:Int)<=(z:Int):=by omega
 have C:(z:Int)<=1048576:=by have:y / p<=y:=Nat.div_le_self _ _; omega
 have HR:=hid hr
 have HZ:=hid hz
 clear hr hz
 have c0:=row.cell hlt
 have z0:=row.frozen i
 have a:Hid ((wr.setCell ⟨g,i,none⟩ (.int .i64 (r:Int))).rowIs g 3 n (fun j=>.int .i64 (if j<i+1 then (dig p x j:Nat) else 0:Int))):=(row.set i _).congr fun j hj=>by
  by_cases e:j=i
  ·subst e
   rw [if_pos rfl,if_pos (by omega),v.out,HR.out]
  rw [if_neg e]
  by_cases e2:j<i
  ·rw [if_pos e2,if_pos (by omega)]
  ·rw [if_neg e2,if_neg (by omega)]
 have B:Hid (Below w.heap.size w (wr.setCell ⟨g,i,none⟩ (.int .i64 (r:Int)))):=hB.setCell q _
 clear row hB
 go_wp2
 go_roundg (gk - 1)
 case measure=>omega
 case rel=>exact ⟨i+1,by go_num,by rw [u.out,HZ.out],by omega,by omega,a.out,B.out⟩
theorem zeP (P:Nat) (T:Option Addr) (n d:Nat) (f:Nat->Nat) (w:World) (hP2:2<=P) (hP:P<=256) (h:IntsR w w.heap.size T n (fun i=>(f i:Nat))) (hd:Hid (∀ i,i<n->f i<P)) (hn:P ^ n<=256) (hn8:n<=8) :
  Calls Tryz.prog 228 #[.slice T n d,.int .i64 (P:Nat)] w fun e w'=>e=.returned (.int .i64 (valN P f n:Nat))/\Below w.heap.size w w':=by
 have hT:=hid h
 clear h
 go_enter Tryz.func228, Tryz.ntmps228
 go_wp2
 go_loopg [5,6] n (fun gg xv iv wx=>∃ j:Nat,iv=.int .i64 ((n:Int) - 1 - (j:Nat))/\xv=.int .i64 (valN P (fun i=>f (n - j+i)) j:Nat)/\j<=n/\n<=j+gg/\Below w.heap.size w wx)
 case atStart=>exact ⟨0,by go_num,rfl,by omega,by omega,Below.refl _ _⟩
 obtain ⟨j,rfl,rfl,hj,E,hB⟩:=hrel
 have g:=za3 (p:=P) (n:=j) (f:=fun i=>f (n - j+i)) (fun i hi=>hd.out _ (by omega))
 have C:P ^ j<=P ^ n:=Nat.pow_le_pow_right (by omega) hj
 by_cases hlt:j<n
 rotate_left
 ·obtain rfl:j=n:=by omega
  have m:¬ (0:Int)<=(j:Int) - 1 - (j:Int):=by omega
  have r:¬ (j:Int)<=(j:Int) - 1:=by omega
  have hv:valN P (fun i=>f (j - j+i)) j=valN P f j:=zaK fun i _=>by rw [show j - j+i=i by omega]
  rw [hv] at g ⊢
  obtain ⟨V,hV⟩:=exx (valN P f j)
  rw [<-hV] at g ⊢
  have HV:=hid hV
  clear hV hv
  go_wp2
  go_ret
  exact ⟨by rw [HV.out]; rfl,hB⟩
 have m:(0:Int)<=(n:Int) - 1 - (j:Int):=by omega
 obtain ⟨i,hi⟩:∃ i:Nat,i=n - 1 - j:=⟨_,rfl⟩
 have k:(n:Int) - 1 - (j:Int)=(i:Int):=by omega
 have l:i<n:=by omega
 have q:(i:Int)<(n:Int):=by omega
 have F:(0:Int)<=(i:Int):=by omega
 rw [k]
 obtain ⟨b,o,rfl,hb,e0⟩:=(hT.out.on hB).at l
 have s:=hd.out i l
 have c:valN P (fun t=>f (n - (j+1)+t)) (j+1)=f i+P*valN P (fun t=>f (n - j+t)) j:=by
  show f (n - (j+1)+0)+P*valN P (fun t=>f (n - (j+1)+(t+1))) j=_
  rw [show n - (j+1)+0=i by omega]
  congr 2
  exact zaK fun t _=>by rw [show n - (j+1)+(t+1)=n - j+t by omega]
 obtain ⟨V,hV⟩:=exx (valN P (fun t=>f (n - j+t)) j)
 obtain ⟨D,hD⟩:=exx (f i)
 rw [<-hV] at g c;rw [<-hD] at e0 s c;rw [<-hV]
 have v:=hid c
 have x:=hid k
 clear hV hD c hi k m
 have H:(0:Int)<=(V:Int):=by omega
 have G:(V:Int)<=256:=by omega
 have J:(0:Int)<=(D:Int):=by omega
 have I:(D:Int)<=256:=by omega
 have u:V*P<=256*256:=Nat.mul_le_mul (by omega) hP
 have a:(V:Int)*(P:Int)=((V*P:Nat):Int):=by simp
 obtain ⟨R,hR⟩:=exx (V*P)
 rw [<-hR] at u a
 have HR:=hid hR
 clear hR
 have B:IntKind.i64.wrap ((V:Int)*(P:Int))=(R:Int):=by rw [a]; exact IntWalk.i64_in _ (by omega)
 have z:IntKind.i64.wrap ((R:Int)+(D:Int))=(R:Int)+(D:Int):=IntWalk.i64_in _ (by omega)
 have y:IntKind.i64.wrap (R:Int)=(R:Int):=IntWalk.i64_in _ (by omega)
 go_wp2
 go_roundg (gk - 1)
 case measure=>omega
 case rel=>exact ⟨j+1,by have:=x.out; go_num,by rw [v.out,Nat.mul_comm P V,<-HR.out]; go_num,by omega,by omega,hB⟩
def hStep (P M:Nat) (m:Nat->Nat) (a:Nat->Nat) (bi:Nat) (o:Nat->Nat) (j:Nat):Nat:=((if j=0 then 0 else o (j - 1))+(P - o (M - 1))*(if 1<M then m j else 0)+bi*a j) % P
def hOut (P M:Nat) (m a b:Nat->Nat):Nat->Nat->Nat
 | 0=>fun _=>0
 | s+1=>hStep P M m a (b (M - 1 - s)) (hOut P M m a b s)
theorem zdq {P M:Nat} {m a b:Nat->Nat} (hP:0<P):∀ s j,hOut P M m a b s j<P
 | 0,_=>hP
 | _+1,_=>Nat.mod_lt _ hP
theorem zg4 {P M:Nat} {m a b:Nat->Nat} (hP:0<P):∀ s,s<=M->∀ j,j<M->cg P (hOut P M m a b s j) (sig s fun t=>(b (M - s+t):Int)*sig M fun i=>(a i:Int)*pwX M m (i+t) j)
 | 0,_,_,_=>zah _
 | s + 1, hs, j, hj => by
  have ih:=fun j' (hj':j'<M)=>zg4 (m:=m) (a:=a) (b:=b) hP s (by omega) j' hj'
  have hlt:=zdq (M:=M) (m:=m) (a:=a) (b:=b) hP s (M - 1)
  obtain ⟨o,ho⟩:=exx (hOut P M m a b s)
  rw [<-ho] at ih hlt
  have e1:hOut P M m a b (s+1) j=((if j=0 then 0 else o (j - 1))+(P - o (M - 1))*(if 1<M then m j else 0)+b (M - 1 - s)*a j) % P:=by rw [ho]; rfl
  rw [e1]
  refine (zdo _).trans ?_
  have e2:sig (s+1) (fun t=>(b (M - (s+1)+t):Int)*sig M fun i=>(a i:Int)*pwX M m (i+t) j)=(b (M - 1 - s):Int)*a j+sig s (fun t=>(b (M - s+t):Int)*sig M fun i=>(a i:Int)*pwX M m (i+t+1) j):=by
   rw [show s+1=1+s by omega,zgc 1 s]
   congr 1
   ·show (0:Int)+(b (M - (1+s)):Int)*sig M (fun i=>(a i:Int)*pwX M m i j)=_
    rw [zby hj fun i hi hne=>by rw [zbk hi,if_neg (by omega)]; omega,zbk hj,if_pos rfl,show M - (1+s)=M - 1 - s by omega,Int.mul_one,Int.zero_add]
   ·refine zae fun t _=>?_
    rw [show M - (1+s)+(1+t)=M - s+t by omega]
    congr 1
    exact zae fun i _=>by rw [show i+(1+t)=i+t+1 by omega]
  rw [e2]
  have e3:sig s (fun t=>(b (M - s+t):Int)*sig M fun i=>(a i:Int)*pwX M m (i+t+1) j)=(if j=0 then 0 else sig s fun t=>(b (M - s+t):Int)*sig M fun i=>(a i:Int)*pwX M m (i+t) (j - 1)) - m j*sig s (fun t=>(b (M - s+t):Int)*sig M fun i=>(a i:Int)*pwX M m (i+t) (M - 1)):=by
   rw [<-zcj]
   by_cases e:j=0
   ·rw [if_pos e]
    have:(0:Int)=sig s fun _=>0:=(za6 s).symm
    rw [this,<-zem]
    refine zae fun t _=>?_
    have h1:sig M (fun i=>(a i:Int)*pwX M m (i+t+1) j) = - (m j*sig M fun i=>(a i:Int)*pwX M m (i+t) (M - 1)):=by
     rw [<-zcj,<-zgX]
     refine zae fun i _=>?_
     show (a i:Int)*(if j<M then (if j=0 then 0 else pwX M m (i+t) (j - 1)) - m j*pwX M m (i+t) (M - 1) else 0)=_
     rw [if_pos hj,if_pos e]
     grind
    rw [h1]
    grind
   ·rw [if_neg e,<-zem]
    refine zae fun t _=>?_
    have h1:sig M (fun i=>(a i:Int)*pwX M m (i+t+1) j)=sig M (fun i=>(a i:Int)*pwX M m (i+t) (j - 1)) - m j*sig M fun i=>(a i:Int)*pwX M m (i+t) (M - 1):=by
     rw [<-zcj,<-zem]
     refine zae fun i _=>?_
     show (a i:Int)*(if j<M then (if j=0 then 0 else pwX M m (i+t) (j - 1)) - m j*pwX M m (i+t) (M - 1) else 0)=_
     rw [if_pos hj,if_neg e]
     grind
    rw [h1]
    grind
  rw [e3]
  have c1:cg P (((if j=0 then 0 else o (j - 1):Nat):Int)) (if j=0 then 0 else sig s fun t=>(b (M - s+t):Int)*sig M fun i=>(a i:Int)*pwX M m (i+t) (j - 1)):=by
   by_cases e:j=0
   ·rw [if_pos e,if_pos e]; exact zah _
   ·rw [if_neg e,if_neg e]; exact ih (j - 1) (by omega)
  have c2:cg P ((((P - o (M - 1))*(if 1<M then m j else 0):Nat):Int)) (- (m j*sig s fun t=>(b (M - s+t):Int)*sig M fun i=>(a i:Int)*pwX M m (i+t) (M - 1))):=by
   by_cases e:1<M
   ·rw [if_pos e]
    have h1:cg P (((P - o (M - 1))*m j:Nat):Int) (- (m j*(o (M - 1):Int))):=⟨m j,by rw [Int.natCast_mul,Int.natCast_sub (Nat.le_of_lt hlt)]; grind⟩
    exact h1.trans ((Go.Proofs.YtgekjfpapmlndaaGreat.cg.mulL _ (ih (M - 1) (by omega))).neg)
   ·rw [if_neg e,Nat.mul_zero]
    obtain rfl:s=0:=by omega
    exact zbx (by show (0:Int) = -(m j*0); omega)
  rw [Int.natCast_add,Int.natCast_add,Int.natCast_mul (b (M - 1 - s))]
  refine ((c1.add c2).add (zah _)).trans (zbx ?_)
  omega
theorem zhi {P M:Nat} {m:Nat->Nat} (hP:0<P) (hM:1<=M) (x y:Nat):valN P (hOut P M m (dig P x) (dig P y) M) M=mulF P M m x y:=by
 refine zbl hP (za3 fun i _=>zdq hP M i) (zaO hP x y) fun j hj=>?_
 have h1:dgt P (valN P (hOut P M m (dig P x) (dig P y) M) M) j=((hOut P M m (dig P x) (dig P y) M j:Nat):Int):=by
  unfold dgt
  rw [zaX (fun i _=>zdq hP M i) j hj]
 rw [h1]
 refine (zg4 hP M (Nat.le_refl _) j hj).trans (Go.Proofs.YtgekjfpapmlndaaGreat.cg.trans (zbx ?_) (zcV hP hM x y hj).symm)
 rw [zaQ]
 unfold mulI
 refine zae fun t _=>?_
 rw [show M - M+t=t by omega]
 unfold dgt
 congr 1
 exact zae fun i _=>by rw [Nat.add_comm i t]
theorem drewSet {B:Nat} {a w:World} {p:Addr} {v:Value} (h:Below B a (w.setCell p v)):Below B a (w.drew.setCell p v):=⟨h.os,h.tape,h.output,h.size,h.block⟩
theorem zgg {w':World} {g M L:Nat} {t:TypeId} {F:Nat->Value} {cs:Array Value} (h1:cs.size=M) (h2:∀ i,i<M->cs[i]?=some (F i)) (hM:L+1=M) (h:w'.heap[g]?=some (.cells (splice cs.toList 1 ((List.range L).map F)).toArray t (0,0))):w'.rowIs g t M (fun j=>if j=0 then F 0 else F (j - 1)):=by
 have hl:(splice cs.toList 1 ((List.range L).map F)).length=M:=by rw [length_splice _ _ _ (by simp; omega)]; simpa using h1
 refine ⟨_,h,by simpa using hl,fun i hi=>?_⟩
 rw [List.getElem?_toArray]
 unfold splice
 have a:cs.toList.length=M:=by simpa using h1
 show _=some (if i=0 then F 0 else F (i - 1))
 by_cases e:i=0
 ·subst e
  rw [if_pos rfl,List.getElem?_append_left (by rw [List.length_take]; omega),List.getElem?_take_of_lt (by omega),Array.getElem?_toList]
  exact h2 0 hi
 ·rw [if_neg e,List.getElem?_append_right (by rw [List.length_take]; omega),List.length_take,show i - min 1 cs.toList.length=i - 1 by omega,List.getElem?_append_left (by simp; omega)]
  simp [show i - 1<L by omega]
theorem zcn (P M:Nat) (A:Option Addr) (k c:Nat) (m:Nat->Nat) (x y:Nat) (w:World) (hf:FldOk P M) (hm:ModOk w P M A m) (hkM:M=1∨k=M) (hx:x<P ^ M) (hy:y<P ^ M) :
  Calls Tryz.prog 200 #[.agg #[.int .i64 (P:Nat),.int .i64 (M:Nat),.slice A k c],.int .i64 (x:Nat),.int .i64 (y:Nat)] w fun e w'=>e=.returned (.int .i64 (mulF P M m x y:Nat))/\Below w.heap.size w w':=by
 have hq:=hf.2.2.2
 have bn:=hf.1
 have a7:=hf.P_le
 have bq:=hf.2.1
 have bo:=hf.2.2.1
 have ao:1<=P:=by omega
 have u:0<P:=by omega
 have b3:x<=1048576:=by omega
 have b2:y<=1048576:=by omega
 have ap:M<=64:=by omega
 have ax:=hid (zhi (m:=m) u bq x y)
 have HQ:=hid hq
 clear hq hx hy
 obtain ⟨w1,D,hB,rf⟩:=zaj w (.int .i64 (P:Nat)) (.int .i64 (M:Nat)) (.slice A k c) 24
 have am:=fun W=>zaf (P:=Tryz.prog) 22 3 _ 8 Tryz.underlying22 Tryz.infoInt rfl (M:Int) (by omega) (by omega) (by omega) W
 simp only [Int.toNat_natCast] at am
 go_enter Tryz.func200, Tryz.ntmps200
 go_upto_region 1 with fail
 rw [<-D];clear D
 refine wp_region_held_drew (S:=fun w'=>w'.cell? ⟨w.heap.size,0,none⟩=some (.int .i64 (P:Nat))/\w'.cell? ⟨w.heap.size,1,none⟩=some (.int .i64 (M:Nat))) (by kernel_rfl) ⟨cellS (Below.refl _ _).drew (rf.cell (i:=0) (by omega)),cellS (Below.refl _ _).drew (rf.cell (i:=1) (by omega))⟩ (fun hHeld=>?_)
 obtain ⟨w2,hw,kb⟩:=dwx w1
 rw [<-hw] at hHeld ⊢;clear hw;replace rf:=zab rf kb;replace hB:=onS hB kb;clear kb
 refine tkq 0 (h:=tkq 1 (h:=tkq 2 (h:=tkq 3 (h:=tkq 4 (h:=tkq 6 (h:=tkq 7 (h:=tkq 8 (h:=tkq 9 (h:=tkq 10 (h:=?_))))))))))
 refine rdq 5 (h:=fun K hK=>?_)
 go_simp
 go_wp2_with fail
 refine (zcm x P M w2 b3 ao a7 ap).mono ?_
 rintro e w3 ⟨ga,rfl,cj,ra,kb⟩
 replace rf:=zab rf kb;replace hB:=onS hB kb;clear kb
 refine bkq hK ⟨qc0 rf,qc1 rf⟩ (h:=fun hHeld=>?_)
 clear hK K
 refine rdq 11 (h:=fun K hK=>?_)
 have ch:=hB.size
 go_simp
 go_wp2_with fail
 refine (zcm y P M w3 b2 ao a7 ap).mono ?_
 rintro e w4 ⟨gb,rfl,ci,rb,kb⟩
 replace rf:=zab rf kb;replace ra:=zab ra kb;replace hB:=onS hB kb;clear kb
 refine bkq hK ⟨qc0 rf,qc1 rf⟩ (h:=fun hHeld=>?_)
 clear hK K
 refine tkq 12 (h:=tkq 13 (h:=?_))
 refine wpAnyH_done (by kernel_rfl) ?_ _
 clear hHeld
 obtain ⟨wA,ah⟩:=exx w4
 rw [<-ah] at rf hB ra rb ⊢;clear ah
 have q1:=qc1 rf
 go_upto_region 3 with fail
 have row:=World.rowIs_made wA (.int .i64 0) M 3
 have kb:=(Below.refl wA.heap.size wA).alloc (Nat.le_refl _) (Obj.cells (madeCells #[Value.int .i64 0] M) 3)
 obtain ⟨wB,ag⟩:=exx (wA.alloc (Obj.cells (madeCells #[Value.int .i64 0] M) 3))
 obtain ⟨g,hg⟩:=exx wA.heap.size
 rw [<-ag] at kb row ⊢;rw [<-hg] at row ⊢
 have Y:wA.heap.size<=g:=by omega
 have cg:w.heap.size≠g:=by have:=rf.lt; omega
 have G:=hid rf
 have bz:=hid ra
 have bx:=hid rb
 have b1:=hid hB
 clear ag hg q1 am rf ra rb hB
 have q1:wB.cell? ⟨w.heap.size,1,none⟩=some (.int .i64 (M:Nat)):=cellS kb (G.out.cell (i:=1) (by omega))
 have I:(Tryz.prog.info? 3).map (·.size)=some 1:=by
  obtain ⟨i,hi,H⟩:=Option.map_eq_some_iff.1 Tryz.infoInt
  simp only [Prod.mk.injEq] at H
  rw [hi]
  simp [H.2.1]
 have ab:=hid I
 clear I
 obtain ⟨L,hL⟩:=exx (M - 1)
 have br:(M:Int) - 1=(L:Int):=by omega
 have bt:L<M:=by omega
 have bs:(L:Int)<(M:Int):=by omega
 have HL:=hid hL
 clear hL
 have b:=hid (row.congr (g:=fun j=>.int .i64 (hOut P M m (dig P x) (dig P y) 0 j:Nat)) fun _ _=>rfl)
 have C:=hid kb
 clear row
 go_wp2
 clear q1
 go_loopg [10,11,12,13] (M+1) (fun gg iv _ _ _ wx=>∃ s:Nat,iv=.int .i64 ((M:Int) - 1 - (s:Int))/\s<=M/\M+1<=s+gg/\Hid (wx.rowIs g 3 M (fun j=>.int .i64 (hOut P M m (dig P x) (dig P y) s j:Nat)))/\Hid (Below wA.heap.size wA wx))
 case atStart=>exact ⟨0,by rw [<-br]; simp,by omega,by omega,b,C⟩
 clear b C kb
 obtain ⟨s,rfl,hs,b8,b,C⟩:=hrel
 by_cases hlt:s<M
 rotate_left
 ·have bb:¬ ((M:Int) - 1 - (s:Int)) ≥ 0:=by omega
  obtain rfl:s=M:=by omega
  have ai:=rowInts (f:=hOut P s m (dig P x) (dig P y) s) b.out
  have bw:=hid ai
  have c4:Hid (∀ i,i<s->hOut P s m (dig P x) (dig P y) s i<P):=fun i _=>zdq u s i
  have ar:=onS b1.out C.out
  have q0:wr.cell? ⟨w.heap.size,0,none⟩=some (.int .i64 (P:Nat)):=cellS C.out (G.out.cell (i:=0) (by omega))
  clear ai b
  go_wp2_with fail
  refine (zeP P (some ⟨g,0,none⟩) s s _ wr bn a7 bw.out c4 (HQ.out) bo).mono ?_
  rintro e w9 ⟨rfl,kb⟩
  rw [ax.out]
  have bu:=onS ar kb
  clear kb q0 ar
  obtain ⟨V,hV⟩:=exx (mulF P s m x y)
  rw [<-hV]
  have bv:=hid hV
  clear hV ax
  go_wp2
  go_ret
  exact ⟨by rw [bv.out]; rfl,bu⟩
 obtain ⟨i,hi⟩:=exx (M - 1 - s)
 have a5:(M:Int) - 1 - (s:Int)=(i:Int):=by omega
 have bg:i<M:=by omega
 have bf:(i:Int)<(M:Int):=by omega
 have cf:(0:Int)<=(i:Int):=by omega
 rw [a5]
 have HI:=hid hi
 have c6:=hid a5
 clear hi a5
 obtain ⟨gO,bh⟩:=exx gk
 rw [<-bh] at b8
 obtain ⟨o,ho⟩:=exx (hOut P M m (dig P x) (dig P y) s)
 have aj:∀ j,o j<P:=fun j=>by rw [ho]; exact zdq u s j
 have row:=b.out
 rw [<-ho] at row
 have q:hOut P M m (dig P x) (dig P y) (s+1)=hStep P M m (dig P x) (dig P y i) o:=by rw [ho,HI.out]; rfl
 have c0:=hid q
 have av:=hid aj
 clear ho q b aj
 obtain ⟨tp,U⟩:=exx (o L)
 have t0:=row.cell bt
 rw [<-U] at t0
 have b6:tp<P:=by rw [U]; exact av.out L
 have au:=hid U
 clear U
 have c8:IntKind.i64.wrap (L:Int)=(L:Int):=IntWalk.i64_in _ (by omega)
 have co:(0:Int)<=(L:Int):=by omega
 have cn:(L:Int)<=(M:Int):=by omega
 have bp:(1:Int)<=(M:Int):=by omega
 obtain ⟨dp,bi⟩:∃ dp:Option Addr,(if M=1 then some ⟨g,0,none⟩ else some ⟨g,1,none⟩:Option Addr)=dp:=⟨_,rfl⟩
 have c7:Hid (0<L->dp=some ⟨g,1,none⟩):=fun h=>by rw [<-bi,if_neg (by have:=HL.out; omega)]
 have cl:M - 1=L:=HL.out.symm
 have q1:wr.cell? ⟨w.heap.size,1,none⟩=some (.int .i64 (M:Nat)):=cellS C.out (G.out.cell (i:=1) (by omega))
 obtain ⟨w1,D⟩:=exx wr
 rw [<-D] at C row t0 q1 ⊢;clear D
 go_wp2
 refine wp_region_held_drew (S:=fun w'=>w'.cell? ⟨w.heap.size,1,none⟩=some (.int .i64 (M:Nat))) (by kernel_rfl) (cellS (Below.refl _ _).drew (q1)) (fun hHeld=>?_)
 obtain ⟨w2,hw,kb⟩:=dwx w1
 rw [<-hw] at hHeld ⊢;clear hw;replace row:=zab row kb;replace q1:=cellS kb q1
 have ae:=hid (onS C.out kb)
 clear kb
 refine tkq 0 (h:=tkq 1 (h:=tkq 2 (h:=tkq 3 (h:=tkq 4 (h:=tkq 5 (h:=tkq 6 (h:=?_)))))))
 refine rdq 7 (h:=fun K hK=>?_)
 have row2:=row
 obtain ⟨cs,c1,c2,c3⟩:=row
 have aw:Hid (w2.heap[g]?=some (.cells cs.toList.toArray 3 (0,0))):=by show _=_; simpa using c1
 have J:Hid (0<((List.range L).map fun t=>Value.int .i64 (o t:Nat)).length->dp=some ⟨g,1,none⟩/\∃ ad,(some ⟨g,0,none⟩:Option Addr)=some ad/\∀ j v,((List.range L).map fun t=>Value.int .i64 (o t:Nat))[j]?=some v->w2.cell? (ad.add j)=some v):=fun h=>by
  refine ⟨c7.out (by simpa using h),⟨g,0,none⟩,rfl,fun j v hv=>?_⟩
  rw [List.getElem?_map] at hv
  obtain ⟨t,ht,e⟩:=Option.map_eq_some_iff.1 hv
  obtain ⟨h1,h2⟩:=List.getElem?_eq_some_iff.1 ht
  rw [List.getElem_range] at h2
  subst h2 e
  rw [zb1,Nat.zero_add]
  exact row2.cell (by simp at h1; omega)
 have O:Hid (((List.range L).map fun t=>Value.int .i64 (o t:Nat)).length=Nat.min L L):=by show _=_; simp
 have Q:Hid (1+((List.range L).map fun t=>Value.int .i64 (o t:Nat)).length<=cs.toList.length):=by show _<=_; simp; omega
 have N:Hid (∀ v ∈ (List.range L).map fun t=>Value.int .i64 (o t:Nat),v.oneCell'=true):=fun v hv=>by
  obtain ⟨t,_,rfl⟩:=List.mem_map.1 hv
  rfl
 refine step_copy_splice (cur:=cs.toList) (cs:=(List.range L).map fun t=>Value.int .i64 (o t:Nat)) (B:=wA.heap.size) (w0:=wA) (by rfl) (.tmp 43) (.tmp 48) 22 22 (by rfl) 3 Tryz.underlying22 ab.out dp (some ⟨g,0,none⟩) L L L M (by rfl) (by rfl) g 1 3 aw.out O.out J.out Q.out N.out ae.out Y ?_
 intro w3 hg3 hb3
 have row:=zgg (F:=fun t=>.int .i64 (o t:Nat)) c2 (fun i hi=>c3 i hi) (show L+1=M by omega) hg3.out
 clear hg3 row2 c1 c2 c3 aw J O Q N
 have q19:w3.cell? ⟨w.heap.size,1,none⟩=some (.int .i64 (M:Nat)):=cellS hb3 (G.out.cell (i:=1) (by omega))
 clear q1
 have q1:=q19
 clear q19
 refine bkq hK q1 (h:=fun hHeld=>?_)
 clear hK K
 refine wpAnyH_done (by kernel_rfl) ?_ _
 clear hHeld
 obtain ⟨w4,T⟩:=exx w3
 rw [<-T] at row hb3 ⊢;clear T
 have y0:=row.cell (i:=0) (by omega)
 have z0:=row.frozen 0
 have d:=hid ((row.set 0 (.int .i64 0)).congr (g:=fun j=>.int .i64 (if j=0 then 0 else o (j - 1):Nat)) fun j _=>by
  by_cases e:j=0
  ·subst e; rfl
  ·rw [if_neg e,if_neg e,if_neg e])
 have af:=hid (hb3.setCell (p:=⟨g,0,none⟩) Y (.int .i64 0))
 clear row hb3 q1
 have cm:(0:Int)<(M:Int):=by omega
 go_wp2
 clear y0 z0
 obtain ⟨w5,R⟩:=exx (w4.setCell ⟨g,0,none⟩ (.int .i64 0))
 rw [<-R] at d af ⊢;clear R
 have a:=hid (d.out.congr (g:=fun t=>.int .i64 (if t<0 then hStep P M m (dig P x) (dig P y i) o t else if t=0 then 0 else o (t - 1):Nat)) fun _ _=>rfl)
 clear d
 go_loopg [12,13,54] M (fun gg _ _ jv wx=>∃ j:Nat,jv=.int .i64 (j:Nat)/\j<=M/\M<=j+gg/\Hid (wx.rowIs g 3 M (fun t=>.int .i64 (if t<j then hStep P M m (dig P x) (dig P y i) o t else if t=0 then 0 else o (t - 1):Nat)))/\Hid (Below wA.heap.size wA wx))
 case atStart=>exact ⟨0,rfl,by omega,by omega,a,af⟩
 clear a af
 obtain ⟨j,rfl,hj,cd,a,l⟩:=hrel
 by_cases hjl:j<M
 rotate_left
 ·have a4:¬ (j:Int)<(M:Int):=by omega
  obtain rfl:j=M:=by omega
  have a2:=hid (a.out.congr (g:=fun t=>.int .i64 (hOut P j m (dig P x) (dig P y) (s+1) t:Nat)) fun t ht=>by rw [if_pos ht,c0.out])
  clear a
  go_wp2
  go_roundg (gO - 1)
  case measure=>omega
  case rel=>exact ⟨s+1,by have:=c6.out; go_num,by omega,by omega,a2,l⟩
 have a4:(j:Int)<(M:Int):=by omega
 have ce:(0:Int)<=(j:Int):=by omega
 have e0:=a.out.cell hjl
 rw [if_neg (by omega)] at e0
 have z0:=a.out.frozen j
 obtain ⟨v,hv⟩:∃ v,v=if j=0 then 0 else o (j - 1):=⟨_,rfl⟩
 rw [<-hv] at e0
 have ca:v<P:=by
  rw [hv]
  split
  ·exact u
  ·exact av.out _
 have f0:wr.cell? ⟨ga,j,none⟩=some (.int .i64 (dig P x j:Nat)):=cellS l.out (bz.out.cell hjl)
 have f1:wr.cell? ⟨gb,i,none⟩=some (.int .i64 (dig P y i:Nat)):=cellS l.out (bx.out.cell bg)
 obtain ⟨da,a0⟩:=exx (dig P x j)
 obtain ⟨db,Z⟩:=exx (dig P y i)
 rw [<-a0] at f0;rw [<-Z] at f1
 have bk:da<P:=by rw [a0]; exact zbD u _ _
 have bj:db<P:=by rw [Z]; exact zbD u _ _
 have q0:wr.cell? ⟨w.heap.size,0,none⟩=some (.int .i64 (P:Nat)):=cellS l.out (G.out.cell (i:=0) (by omega))
 have q1:wr.cell? ⟨w.heap.size,1,none⟩=some (.int .i64 (M:Nat)):=cellS l.out (G.out.cell (i:=1) (by omega))
 have q2:wr.cell? ⟨w.heap.size,2,none⟩=some (.slice A k c):=cellS l.out (G.out.cell (i:=2) (by omega))
 have HV:=hid hv
 have az:=hid a0
 have ay:=hid Z
 clear hv a0 Z
 by_cases hM2:1<M
 focus
  have a9:(M:Int) > 1:=by omega
  rcases hm with hm | ⟨ak,al⟩
  ·omega
  obtain rfl:M=k:=(hkM.resolve_left (by omega)).symm
  obtain ⟨mb,mo,hA,bc,f2⟩:=ak.at hjl
  subst hA
  obtain ⟨lo,X⟩:=exx (m j)
  rw [<-X] at f2
  have be:lo<P:=by rw [X]; exact al j hjl
  have c5:=hid X
  have f29:=((onS b1.out l.out).cell (p:=⟨mb,mo+j,none⟩) bc).trans f2
  clear X f2 ak al
  obtain ⟨z,hz⟩:=exx (v+(P - tp)*lo+db*da)
  obtain ⟨r,hr⟩:=exx (z % P)
  have ba:r<P:=by rw [hr]; exact Nat.mod_lt _ u
  have ac:Hid (r=hStep P M m (dig P x) (dig P y i) o j):=by
   show _=_
   rw [hr,hz,HV.out,az.out,ay.out,au.out,HL.out,c5.out]
   unfold hStep
   rw [if_pos hM2]
  obtain ⟨R2,n⟩:=exx (db*da)
  have a6:R2<=256*256:=by rw [n]; exact Nat.mul_le_mul (by omega) (by omega)
  have bd:(db:Int)*(da:Int)=(R2:Int):=by rw [n]; simp
  obtain ⟨D1,aq⟩:=exx (P - tp)
  have aa:D1<=256:=by omega
  have ck:(P:Int) - (tp:Int)=(D1:Int):=by omega
  obtain ⟨R1,a1⟩:=exx (D1*lo)
  have bl:R1<=256*256:=by rw [a1]; exact Nat.mul_le_mul aa (by omega)
  have cc:(D1:Int)*(lo:Int)=(R1:Int):=by rw [a1]; simp
  obtain ⟨S1,an⟩:=exx (v+R1)
  have cb:(v:Int)+(R1:Int)=(S1:Int):=by omega
  have D:IntKind.i64.wrap (D1:Int)=(D1:Int):=IntWalk.i64_in _ (by omega)
  have c9:IntKind.i64.wrap (R1:Int)=(R1:Int):=IntWalk.i64_in _ (by omega)
  have b5:IntKind.i64.wrap (S1:Int)=(S1:Int):=IntWalk.i64_in _ (by omega)
  have H:z=S1+R2:=by rw [hz,an,a1,aq,n]
  have b9:(S1:Int)+(R2:Int)=(z:Int):=by omega
  have T:IntKind.i64.wrap (R2:Int)=(R2:Int):=IntWalk.i64_in _ (by omega)
  have R:IntKind.i64.wrap (z:Int)=(z:Int):=IntWalk.i64_in _ (by omega)
  have b4:IntKind.i64.wrap (r:Int)=(r:Int):=IntWalk.i64_in _ (by omega)
  have E:(z:Int) % (P:Int)=(r:Int):=by rw [hr]; simp
  have a3:(0:Int)<=(z:Int):=by omega
  have a8:¬ (P:Int)=0:=by omega
  have bm:¬ P=0:=by omega
  have b7:(z:Int).tmod (P:Int)=(r:Int):=by rw [Int.tmod_eq_emod_of_nonneg a3,E]
  have a2:=hid ((a.out.set j (.int .i64 (r:Nat))).congr (g:=fun t=>.int .i64 (if t<j+1 then hStep P M m (dig P x) (dig P y i) o t else if t=0 then 0 else o (t - 1):Nat)) fun t _=>by
   by_cases e:t=j
   ·subst e; rw [if_pos rfl,if_pos (by omega),ac.out]
   rw [if_neg e]
   by_cases e2:t<j
   ·rw [if_pos e2,if_pos (show t<j+1 by omega)]
   ·rw [if_neg e2,if_neg (show ¬ t<j+1 by omega)])
  have b0:=hid (l.out.setCell (p:=⟨g,j,none⟩) Y (.int .i64 (r:Nat)))
  clear hz hr n H a l aq a1 an
 rotate_left
 focus
  have a9:¬ (M:Int) > 1:=by omega
  obtain ⟨z,hz⟩:=exx (v+(P - tp)*0+db*da)
  obtain ⟨r,hr⟩:=exx (z % P)
  have ba:r<P:=by rw [hr]; exact Nat.mod_lt _ u
  have ac:Hid (r=hStep P M m (dig P x) (dig P y i) o j):=by
   show _=_
   rw [hr,hz,HV.out,az.out,ay.out,au.out,HL.out]
   unfold hStep
   rw [if_neg (show ¬ 1<M by omega)]
  obtain ⟨R2,n⟩:=exx (db*da)
  have a6:R2<=256*256:=by rw [n]; exact Nat.mul_le_mul (by omega) (by omega)
  have bd:(db:Int)*(da:Int)=(R2:Int):=by rw [n]; simp
  have b5:IntKind.i64.wrap (v:Int)=(v:Int):=IntWalk.i64_in _ (by omega)
  have D:IntKind.i64.wrap ((P:Int) - (tp:Int))=(P:Int) - (tp:Int):=IntWalk.i64_in _ (by omega)
  have H:z=v+R2:=by rw [hz,n,Nat.mul_zero,Nat.add_zero]
  have b9:(v:Int)+(R2:Int)=(z:Int):=by omega
  have T:IntKind.i64.wrap (R2:Int)=(R2:Int):=IntWalk.i64_in _ (by omega)
  have R:IntKind.i64.wrap (z:Int)=(z:Int):=IntWalk.i64_in _ (by omega)
  have b4:IntKind.i64.wrap (r:Int)=(r:Int):=IntWalk.i64_in _ (by omega)
  have E:(z:Int) % (P:Int)=(r:Int):=by rw [hr]; simp
  have a3:(0:Int)<=(z:Int):=by omega
  have a8:¬ (P:Int)=0:=by omega
  have bm:¬ P=0:=by omega
  have b7:(z:Int).tmod (P:Int)=(r:Int):=by rw [Int.tmod_eq_emod_of_nonneg a3,E]
  have a2:=hid ((a.out.set j (.int .i64 (r:Nat))).congr (g:=fun t=>.int .i64 (if t<j+1 then hStep P M m (dig P x) (dig P y i) o t else if t=0 then 0 else o (t - 1):Nat)) fun t _=>by
   by_cases e:t=j
   ·subst e; rw [if_pos rfl,if_pos (by omega),ac.out]
   rw [if_neg e]
   by_cases e2:t<j
   ·rw [if_pos e2,if_pos (show t<j+1 by omega)]
   ·rw [if_neg e2,if_neg (show ¬ t<j+1 by omega)])
  have b0:=hid (l.out.setCell (p:=⟨g,j,none⟩) Y (.int .i64 (r:Nat)))
  clear hz hr n H a l 
 rotate_left
 all_goals
  go_wp2
  go_still_tail 27,(by kernel_rfl)
  change wpList _ _ _ _ _ wr.drew
  go_wp2
  go_roundg (gk - 1)
  case measure=>omega
  case rel=>exact ⟨j+1,by go_num,by omega,by omega,hid (show World.rowIs _ _ _ _ _ from a2.out),hid (drewSet b0.out)⟩
end Go.Proofs.YtgekjfpapmlndaaGreat