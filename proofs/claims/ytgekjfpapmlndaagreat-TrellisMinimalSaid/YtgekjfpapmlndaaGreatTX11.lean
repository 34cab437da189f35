/- Merged texts of a claim: NumTab, MinPlus, SeesW, Trel, Shape, Less, Counting, NumRows, IntTab, Valued. -/
import Derived.Test.YtgekjfpapmlndaaGreatTX7
import Derived.SizedLaws
namespace Go.Proofs.YtgekjfpapmlndaaGreat
set_option maxRecDepth 100000
set_option maxHeartbeats 32000000
open KA KB KC KE
open Go.RowKit
theorem zfX {w:World} {b n:Nat} {t:TypeId} {f:Nat->Value} (h:w.rowIs b t n f) (hf:∀ i,i<n->∀ u,f i≠.int .u32 u):NoInt w b:=fun j u hj=>by
 obtain ⟨cur,hg,hsz,hc⟩:=h
 rw [cell_of_row w b j cur t (0,0) hg] at hj
 have hlt:j<n:=by
  have:=(Array.getElem?_eq_some_iff.1 hj).1
  omega
 have:=hc j hlt
 rw [hj] at this
 injection this with this
 exact hf j hlt u this.symm
theorem zfq {w:World} {B n b i:Nat} {A:Option Addr} {f:Nat->Nat} (h:Lims w B A n f) (hni:NoInt w b) (u:Value):Lims (w.setCell ⟨b,i,none⟩ u) B A n f:=fun k hk=>by
 obtain ⟨b',o',e,h1,h2⟩:=h k hk
 refine ⟨b',o',e,h1,fun j hj=>?_⟩
 have hc:=h2 j hj
 exact zaa hc fun e=>hni _ _ (by rw [<-show b'=b from e]; exact hc)
theorem zaT {w:World} {b i x:Nat} {A:Option Addr} (h:NatOk w w.heap.size A x) (hni:NoInt w b) (u:Value):NatOk (w.setCell ⟨b,i,none⟩ u) (w.setCell ⟨b,i,none⟩ u).heap.size A x:=by
 have:=zfq (i:=i) h hni u
 simpa [NatOk] using this
theorem zbs {w:World} {b i b':Nat} {u:Value} (h:NoInt w b) (hu:∀ n,u≠.int .u32 n):NoInt (w.setCell ⟨b',i,none⟩ u) b:=fun j n hj=>by
 by_cases e:(⟨b,j,none⟩:Addr)=⟨b',i,none⟩
 rotate_left
 ·exact h j n (by rwa [World.cell?_setCell_other w ⟨b',i,none⟩ ⟨b,j,none⟩ u (fun h=>e h.symm)] at hj)
 injection e with e1 e2
 subst e1 e2
 cases hc:w.cell? ⟨b,j,none⟩ with
 | none =>
  have:(w.setCell ⟨b,j,none⟩ u).cell? ⟨b,j,none⟩=none:=by
   revert hc
   unfold World.cell? World.setCell
   intro hc
   simp only [Option.isSome_none,Bool.false_eq_true,if_false] at hc ⊢
   split at hc
   ·rename_i c e fr hb
    have hb:w.heap[b]?=some (.cells c e fr):=hb
    have a:(w.heap.modify b fun
      | .cells c e fr=>.cells (c.setIfInBounds j u) e fr
      | o=>o)[b]?=some (.cells (c.setIfInBounds j u) e fr):=by
     rw [Array.getElem?_modify]; simp [hb]
    simp only [Array.getElem?_eq_none_iff] at hc
    simp [Array.getElem?_modify,hb]
    omega
   ·rename_i hne
    cases ho:w.heap[b]? with
    | none=>simp [Array.getElem?_modify,ho]
    | some o =>
     cases o with
     | cells c e fr=>exact absurd ho (hne _ _ _)
     | _=>simp [Array.getElem?_modify,ho]
  rw [this] at hj
  cases hj
 | some v =>
  rw [zcT hc] at hj
  injection hj with hj
  exact hu _ hj
def upd2 (x:Nat->Nat->Nat) (v k y:Nat):Nat->Nat->Nat:=fun u j=>if u=v/\j=k then y else x u j
theorem zhE (x:Nat->Nat->Nat) (v k y:Nat):upd2 x v k y v k=y:=if_pos ⟨rfl,rfl⟩
theorem zhF {x:Nat->Nat->Nat} {v k y u j:Nat} (h:¬ (u=v/\j=k)):upd2 x v k y u j=x u j:=if_neg h
structure NumTab (w:World) (g base m:Nat) (F:Nat->Value) (n:Nat->Nat) (x:Nat->Nat->Nat):Prop where
 row:w.rowIs g 64 m F
 own:∀ v,v<m->NatOwn w base (F v) (n v) (x v)
 apart:∀ v u,v<m->u<m->v≠u->(F v).ownBlock=none∨(F v).ownBlock≠(F u).ownBlock
section
variable {w w':World} {g base m:Nat} {F:Nat->Value} {n n':Nat->Nat} {x x':Nat->Nat->Nat}
theorem NatOwn.congr {v:Value} {k:Nat} {y y':Nat->Nat} (h:NatOwn w base v k y) (e:∀ i,i<k->y i=y' i):NatOwn w base v k y':=by
 obtain ⟨f,h1,h2,h3⟩:=h
 exact ⟨f,h1,h2,fun i hi=>by rw [<-e i hi]; exact h3 i hi⟩
theorem NatOwn.lt {v:Value} {k:Nat} {y:Nat->Nat} (h:NatOwn w base v k y):∀ b,v.ownBlock=some b->base<=b/\b<w.heap.size:=by
 obtain ⟨f,h1,_⟩:=h
 exact h1.lt
theorem NatOwn.isSlice {v:Value} {k:Nat} {y:Nat->Nat} (h:NatOwn w base v k y):∃ A c,v=.slice A k c:=by
 obtain ⟨f,h1,_⟩:=h
 exact h1.shape
theorem NumTab.on (h:NumTab w g base m F n x) (hb:Below w.heap.size w w'):NumTab w' g base m F n x:=⟨rowIs_on_ h.row hb,fun v hv=>(h.own v hv).on hb,h.apart⟩
where rowIs_on_ {w w':World} {b:Nat} {t:TypeId} {n:Nat} {f:Nat->Value} (h:w.rowIs b t n f) (hb:Below w.heap.size w w'):w'.rowIs b t n f:=h.of_block (hb.block b h.lt)
theorem NumTab.congr (h:NumTab w g base m F n x) (e1:∀ v,v<m->n v=n' v) (e2:∀ v,v<m->∀ k,k<n v->x v k=x' v k):NumTab w g base m F n' x' :=
 ⟨h.row,fun v hv=>by rw [<-e1 v hv]; exact (h.own v hv).congr (e2 v hv),h.apart⟩
theorem NumTab.at (h:NumTab w g base m F n x) {v k:Nat} (hv:v<m) (hk:k<n v):∃ b o d A c,F v=.slice (some ⟨b,o,none⟩) (n v) d/\base<=b/\b<w.heap.size/\w.cell? ⟨b,o+k,none⟩=some (.slice A (dl (x v k)) c) /\
  dl (x v k)<=c/\c<=maxLen/\NatOk w w.heap.size A (x v k)/\w.frozen? ⟨b,o+k,none⟩=false/\NoInt w b:=by
 obtain ⟨f,h1,h2,h3⟩:=h.own v hv
 obtain ⟨b,o,d,e,hb,hl,_,_,hc⟩:=h1.form (by omega)
 obtain ⟨A,c,e0,n1,n2,n3⟩:=h3 k hk
 have a:=hc k hk 0 (by omega)
 rw [Nat.mul_one,Nat.add_zero,e0] at a
 refine ⟨b,o,d,A,c,e,hb,hl,a,n2,n3,n1,?_,h2 b (by rw [e]; rfl)⟩
 rw [e] at h1
 exact h1.frozen (o+k)
theorem NumTab.set (h:NumTab w g base m F n x) (hgb:g<base) {v k b o d:Nat} (hv:v<m) (hk:k<n v) (hF:F v=.slice (some ⟨b,o,none⟩) (n v) d) {A:Option Addr} {c y:Nat} (hy:NatOk w w.heap.size A y) (h1:dl y<=c) (h2:c<=maxLen) :
  NumTab (w.setCell ⟨b,o+k,none⟩ (.slice A (dl y) c)) g base m F n (upd2 x v k y):=by
 have l:(F v).ownBlock=some b:=by rw [hF]; rfl
 have s:=(h.own v hv).lt b l
 have j:NoInt w b:=by
  obtain ⟨f,_,k2,_⟩:=h.own v hv
  exact k2 b l
 have p:∀ u:Int,(Value.slice A (dl y) c)≠.int .u32 u:=fun u e=>by cases e
 refine ⟨h.row.setOther (by simp; omega) _,fun u hu=>?_,h.apart⟩
 by_cases e:u=v
 ·subst e
  obtain ⟨f,k1,k2,k3⟩:=h.own u hu
  rw [hF] at k1 ⊢
  have ks:=k1.set (a:=k) (b:=0) hk (by omega) (.slice A (dl y) c)
  rw [Nat.mul_one,Nat.add_zero] at ks
  refine ⟨_,ks,fun q hq=>?_,fun i hi=>?_⟩
  ·obtain rfl:b=q:=by simpa [Value.ownBlock] using hq
   exact zbs j p
  by_cases ei:i=k
  ·subst ei
   exact ⟨A,c,by rw [zhE,if_pos ⟨rfl,rfl⟩],by rw [zhE]; exact zaT hy j _,by rw [zhE]; exact h1,h2⟩
  obtain ⟨A',c',e0,n1,n2,n3⟩:=k3 i hi
  have eo:upd2 x u k y u i=x u i:=zhF fun hh=>ei hh.2
  exact ⟨A',c',by rw [eo,if_neg fun hh=>ei hh.1]; exact e0,by rw [eo]; exact zaT n1 j _,by rw [eo]; exact n2,n3⟩
 obtain ⟨f,k1,k2,k3⟩:=h.own u hu
 have r:(F u).ownBlock≠some b:=fun hh=>by
  rcases h.apart u v hu hv e with h0 | h0
  ·rw [h0] at hh; cases hh
  ·rw [l] at h0; exact h0 hh
 refine ⟨f,k1.setCell r _,fun q hq=>zbs (k2 q hq) p,fun i hi=>?_⟩
 obtain ⟨A',c',e0,n1,n2,n3⟩:=k3 i hi
 have eo:upd2 x v k y u i=x u i:=zhF fun hh=>e hh.1
 exact ⟨A',c',by rw [eo]; exact e0,by rw [eo]; exact zaT n1 j _,by rw [eo]; exact n2,n3⟩
theorem zgw {row:Option Nat} {A:Option Addr} {y:Nat} (h:NatOk w w.heap.size A y) (hg:w.grownBy w' row) (hni:∀ q,row=some q->NoInt w q):NatOk w' w'.heap.size A y:=fun q hq=>by
 obtain ⟨b',o',e,h1,h2⟩:=zcB h (Nat.le_refl _) hg hni q hq
 exact ⟨b',o',e,Nat.lt_of_lt_of_le h1 hg.size,h2⟩
theorem NumTab.put (h:NumTab w g base m F n x) (hgb:g<base) {v:Nat} (hv:v<m) {v':Value} {k':Nat} {y:Nat->Nat} (hown:NatOwn w' base v' k' y) (hg:w.grownBy w' (F v).ownBlock) (hat:v'.ownBlock=(F v).ownBlock∨v'.ownBlock=some w.heap.size) :
  NumTab (w'.setCell ⟨g,v,none⟩ v') g base m (fun u=>if u=v then v' else F u) (fun u=>if u=v then k' else n u) (fun u=>if u=v then y else x u):=by
 obtain ⟨fv,f1,f2,f3⟩:=h.own v hv
 have f:∀ u,u<m->∀ k,(F u).ownBlock=some k->base<=k/\k<w.heap.size:=fun u hu=>(h.own u hu).lt
 have B:g<w.heap.size:=h.row.lt
 have o:w'.rowIs g 64 m F:=h.row.of_block (hg.block g B (fun e=>by have:=(f v hv g e.symm).1; omega))
 have d:NoInt w' g:=zfX o fun i hi u e=>by
  obtain ⟨A,c,hs⟩:=(h.own i hi).isSlice
  rw [hs] at e
  cases e
 have s:∀ q,(F v).ownBlock=some q->NoInt w q:=f2
 have p:∃ A c,v'=.slice A k' c:=hown.isSlice
 have l:∀ u:Int,v'≠.int .u32 u:=fun u e=>by
  obtain ⟨A,c,hs⟩:=p
  rw [hs] at e
  cases e
 refine ⟨?_,fun u hu=>?_,fun a b ha hb hab=>?_⟩
 ·exact (o.set v v').congr fun u _=>by split <;> rfl
 ·by_cases e:u=v
  ·subst e
   simp only [if_true]
   obtain ⟨f',k1,k2,k3⟩:=hown
   refine ⟨f',k1.setCell (fun e=>by have:=(k1.lt _ e).1; simp at this; omega) _,fun q hq=>zbs (k2 q hq) l,fun i hi=>?_⟩
   obtain ⟨A,c,e0,n1,n2,n3⟩:=k3 i hi
   exact ⟨A,c,e0,zaT n1 d _,n2,n3⟩
  simp only [if_neg e]
  obtain ⟨f',k1,k2,k3⟩:=h.own u hu
  have hk:=k1.kept hg (h.apart u v hu hv e)
  refine ⟨f',hk.setCell (fun e=>by have:=(hk.lt _ e).1; simp at this; omega) _,fun q hq=>zbs (fun j z hz=>?_) l,fun i hi=>?_⟩
  ·have r:=(k1.lt q hq).2
   have C:=hg.block q r (fun e2=>by
    rcases h.apart u v hu hv e with h0 | h0
    ·rw [h0] at hq; cases hq
    ·exact h0 (hq.trans e2))
   refine k2 q hq j z ?_
   rw [<-hz]
   simp only [World.cell?,C]
  ·obtain ⟨A,c,e0,n1,n2,n3⟩:=k3 i hi
   exact ⟨A,c,e0,zaT (zgw n1 hg s) d _,n2,n3⟩
 by_cases ea:a=v
 ·have eb:¬ b=v:=fun e=>hab (by rw [ea,e])
  simp only [if_pos ea,if_neg eb]
  subst ea
  rcases hat with h1 | h1
  ·rw [h1]; exact h.apart a b ha hb hab
  right
  rw [h1]
  intro e2
  have:=(f b hb _ e2.symm).2
  omega
 simp only [if_neg ea]
 by_cases eb:b=v
 rotate_left
 ·simp only [if_neg eb]; exact h.apart a b ha hb hab
 simp only [if_pos eb]
 subst eb
 rcases hat with h1 | h1
 ·rw [h1]; exact h.apart a b ha hb hab
 rw [h1]
 cases hfa:(F a).ownBlock with
 | none=>exact .inl rfl
 | some k =>
  right
  intro e2
  injection e2 with e2
  have:=(f a ha k hfa).2
  omega
end
theorem zdw (w:World) (ty:TypeId) (base:Nat) (v:Value) (k:Nat) (x:Nat->Nat) (h:NatOwn w base v k x) (hbase:base<=w.heap.size) (hk:k<=1048576)
  (b c:Nat) (A:Option Addr) (d:Nat) (c0:w.cell? ⟨b,0,none⟩=some (.slice A (dl (x k)) d)) (m1:NatOk w w.heap.size A (x k)) (m3:dl (x k)<=d) (m4:d<=maxLen) :
  ∃ v' w',(Builtin.append_ #[64, 64] ty #[v,.slice (some ⟨b,0,none⟩) 1 c]).run Tryz.prog w=.ok v' w'/\NatOwn w' base v' (k+1) x/\w.grownBy w' v.ownBlock/\(v'.ownBlock=v.ownBlock∨v'.ownBlock=some w.heap.size):=by
 obtain ⟨v',w',a,h2,h3,_⟩:=zd1 w ty base v k x h hbase hk b c A d (x k) rfl c0 m1 m3 m4
 refine ⟨v',w',a,h2,h3,?_⟩
 obtain ⟨f,l,n,hf⟩:=h
 obtain ⟨i,hi,m⟩:=Option.map_eq_some_iff.1 Tryz.infoNat
 simp only [Prod.mk.injEq] at m
 obtain ⟨hz,hs,hb⟩:=m
 let f':Nat->Nat->Value:=fun i j=>if i<k then (if j<1 then f i 0 else undef) else .slice A (dl (x k)) d
 have e:Own w base 69 1 v k f':=l.congr fun i hi j hj=>by
  obtain rfl:j=0:=by omega
  simp [f',hi]
 have g:∀ j,j<1->w.cell? ((⟨b,0,none⟩:Addr).add j)=some (f' k j):=fun j hj=>by
  obtain rfl:j=0:=by omega
  have:(⟨b,0,none⟩:Addr).add 0=⟨b,0,none⟩:=by unfold Addr.add; split <;> simp_all
  rw [this]
  simpa [f'] using c0
 have h1:∀ j,j<1->(f' k j).oneCell'=true:=fun j hj=>by simp [f']; rfl
 obtain ⟨v1,w1,e1,_,_,a1,_⟩:=zbc (P:=Tryz.prog) w base 64 ty 69 i _ 1 24 Tryz.underlying64 hi hz hs hb rfl (by omega) v k f' e ⟨b,0,none⟩ c g h1 (by unfold maxLen; omega) (by omega) hbase
 rw [a] at e1
 injection e1 with e1 e2
 subst e1
 exact a1
theorem zdl {ops:Array Oper} {o:Oper} {a:Act} {w:World} {K:Act->World->Prop} {Q:Exit->Act->World->Prop} {E:Prop} (hgd:o.guard=none) (sl y:Operand)
  (ho:o.op=.call { callee:=.builtin .append,args:=#[sl,y],argTypes:=#[64, 64] })
  (base:Nat) (v:Value) (k:Nat) (x:Nat->Nat) (hv:a.eval sl=v) (h:NatOwn w base v k x) (hbase:base<=w.heap.size) (hk:k<=1048576)
  (b c:Nat) (hy:a.eval y=.slice (some ⟨b,0,none⟩) 1 c) (A:Option Addr) (d:Nat) (c0:w.cell? ⟨b,0,none⟩=some (.slice A (dl (x k)) d)) (m1:NatOk w w.heap.size A (x k)) (m3:dl (x k)<=d) (m4:d<=maxLen)
  (hK:∀ v' w',NatOwn w' base v' (k+1) x->w.grownBy w' v.ownBlock->(v'.ownBlock=v.ownBlock∨v'.ownBlock=some w.heap.size)->K (a.put o.dst v') w') :
  if Region.wanted o (yielded ops a.tmps)=true then Oper.wp Tryz.prog o a w K Q else E:=by
 have hw:Region.wanted o (yielded ops a.tmps)=true:=by simp [Region.wanted,hgd]
 rw [if_pos hw]
 obtain ⟨v',w',e,h2,h3,h4⟩:=zdw w o.type base v k x h hbase hk b c A d c0 m1 m3 m4
 unfold Oper.wp execOp
 simp only [ho,resolve,invoke,builtin,Sem.run_bind,Sem.run_pure,Result.andThen_ok,List.map_toArray,List.map_cons,List.map_nil,hv,hy,e]
 exact hK v' w' h2 h3 h4
open Go.ChangeShapes Go.WideShapes Go.ChangeAt
structure Trel where
 nw:Nat
 W:Nat->Int
 n:Nat
 el:Nat->Nat
 fr:Nat->Nat->Int
 lb:Nat->Nat->Int
 «to»:Nat->Nat->Int
def Trel.edge (T:Trel) (i j k:Nat):Value:=if k=0 then .int .i64 (T.fr i j) else if k=1 then .int .i64 (T.lb i j) else .int .i64 (T.to i j)
def InI64 (x:Int):Prop := -9223372036854775808<=x/\x<=9223372036854775807
def Trel.Secs (T:Trel) (w:World) (B:Option Addr):Prop :=
 ∀ i,i<T.n->∃ b off E c,B=some ⟨b,off,none⟩/\b<w.heap.size/\w.cell? ⟨b,off+i,none⟩=some (.slice E (T.el i) c)/\T.el i<=c/\c<=maxLen/\Rd w w.heap.size E (T.el i) 3 (T.edge i) /\
  ∀ j,j<T.el i->InI64 (T.fr i j)/\InI64 (T.lb i j)/\InI64 (T.to i j)
def Trel.Reads (T:Trel) (w:World) (A B:Option Addr):Prop :=
 IntsR w w.heap.size A T.nw T.W/\(∀ i,i<T.nw->InI64 (T.W i))/\T.Secs w B/\T.nw<=140737488351232/\T.n<=140737488351232/\∀ i,i<T.n->T.el i<=140737488351232
section
variable {T:Trel} {w w':World} {A B:Option Addr}
theorem Trel.Secs.on (h:T.Secs w B) (hb:Below w.heap.size w w'):T.Secs w' B:=fun i hi=>by
 obtain ⟨b,off,E,c,e,h1,h2,h3,h4,h5,h6⟩:=h i hi
 exact ⟨b,off,E,c,e,Nat.lt_of_lt_of_le h1 hb.size,(hb.cell (p:=⟨b,_,none⟩) h1).trans h2,h3,h4,(Rd.below h5 hb (Nat.le_refl _)).mono hb.size,h6⟩
theorem Trel.Reads.on (h:T.Reads w A B) (hb:Below w.heap.size w w'):T.Reads w' A B:=⟨h.1.on hb,h.2.1,h.2.2.1.on hb,h.2.2.2⟩
theorem Trel.Reads.width (h:T.Reads w A B) {i:Nat} (hi:i<T.nw):∃ b off,A=some ⟨b,off,none⟩/\b<w.heap.size/\w.cell? ⟨b,off+i,none⟩=some (.int .i64 (T.W i))/\InI64 (T.W i):=by
 obtain ⟨b,off,e,h1,h2⟩:=h.1.at hi
 exact ⟨b,off,e,h1,h2,h.2.1 i hi⟩
theorem Trel.Reads.sec (h:T.Reads w A B) {i:Nat} (hi:i<T.n):∃ b off E c,B=some ⟨b,off,none⟩/\b<w.heap.size/\w.cell? ⟨b,off+i,none⟩=some (.slice E (T.el i) c)/\T.el i<=c/\c<=maxLen/\Rd w w.heap.size E (T.el i) 3 (T.edge i) /\
  ∀ j,j<T.el i->InI64 (T.fr i j)/\InI64 (T.lb i j)/\InI64 (T.to i j):=h.2.2.1 i hi
theorem zcO {E:Option Addr} {i j m:Nat} (h:Rd w w.heap.size E m 3 (T.edge i)) (hj:j<m) :
  ∃ b off,E=some ⟨b,off,none⟩/\b<w.heap.size/\w.cell? ⟨b,off+j*3,none⟩=some (.int .i64 (T.fr i j))/\w.cell? ⟨b,off+j*3+1,none⟩=some (.int .i64 (T.lb i j))/\w.cell? ⟨b,off+j*3+2,none⟩=some (.int .i64 (T.to i j)):=Rd.at3 h hj
end
def Trel.sumW (T:Trel):Nat->Int
 | 0=>0
 | k+1=>T.sumW k+T.W k
def Trel.sumE (T:Trel):Nat->Nat
 | 0=>0
 | k+1=>T.sumE k+T.el k
def Trel.inside (T:Trel) (i j:Nat):Prop:=0<=T.fr i j/\T.fr i j<T.W i/\0<=T.to i j/\T.to i j<T.W (i+1)
instance (T:Trel) (i j:Nat):Decidable (T.inside i j):=by unfold Trel.inside; exact inferInstance
def Trel.shapeE (T:Trel):Int :=
 if 64<T.n∨T.nw≠T.n+1 then 3
 else if ¬ ∀ i,i<T.nw->1<=T.W i then 6
 else if 65536<T.sumW T.nw then 8
 else if 262144<T.sumE T.n then 8
 else if ¬ ∀ i,i<T.n->∀ j,j<T.el i->T.inside i j then 6
 else 0
structure Trel.Shape (T:Trel):Prop where
 n64:T.n<=64
 nw:T.nw=T.n+1
 w1:∀ i,i<=T.n->1<=T.W i
 sW:T.sumW (T.n+1)<=65536
 sE:T.sumE T.n<=262144
 ins:∀ i,i<T.n->∀ j,j<T.el i->T.inside i j
theorem Trel.shape_of {T:Trel} (h:T.shapeE=0):T.Shape:=by
 unfold Trel.shapeE at h
 by_cases h1:64<T.n∨T.nw≠T.n+1
 ·rw [if_pos h1] at h; omega
 rw [if_neg h1] at h
 by_cases h2:∀ i,i<T.nw->1<=T.W i
 rotate_left
 ·rw [if_pos h2] at h; omega
 rw [if_neg (by simpa using h2)] at h
 by_cases h3:65536<T.sumW T.nw
 ·rw [if_pos h3] at h; omega
 rw [if_neg h3] at h
 by_cases h4:262144<T.sumE T.n
 ·rw [if_pos h4] at h; omega
 rw [if_neg h4] at h
 by_cases h5:∀ i,i<T.n->∀ j,j<T.el i->T.inside i j
 ·have a:T.nw=T.n+1:=by omega
  exact ⟨by omega,a,fun i hi=>h2 i (by omega),by rw [<-a]; omega,by omega,h5⟩
 ·rw [if_pos h5] at h; omega
theorem Trel.sumW_mono {T:Trel} {m:Nat} (h:∀ i,i<m->1<=T.W i):∀ k d,k+d<=m->T.sumW k+d<=T.sumW (k+d):=by
 intro k d
 induction d with
 | zero=>intro _; simp
 | succ d ih =>
  intro hk
  have h1:=ih (by omega)
  have h2:=h (k+d) (by omega)
  show T.sumW k+((d+1:Nat):Int)<=T.sumW (k+d)+T.W (k+d)
  omega
theorem Trel.sumE_mono {T:Trel}:∀ k d,T.sumE k<=T.sumE (k+d):=by
 intro k d
 induction d with
 | zero=>exact Nat.le_refl _
 | succ d ih=>exact Nat.le_trans ih (Nat.le_add_right _ _)
theorem Trel.Shape.wid {T:Trel} (h:T.Shape) {i:Nat} (hi:i<=T.n):1<=T.W i/\T.W i<=65536:=by
 have h1:=h.w1 i hi
 have h2:=Trel.sumW_mono (m:=T.n+1) (fun i hi=>h.w1 i (by omega)) 0 i (by omega)
 have h3:=Trel.sumW_mono (m:=T.n+1) (fun i hi=>h.w1 i (by omega)) (i+1) (T.n - i) (by omega)
 rw [show i+1+(T.n - i)=T.n+1 by omega] at h3
 have h4:=h.sW
 have h5:T.sumW (i+1)=T.sumW i+T.W i:=rfl
 simp [Trel.sumW] at h2
 omega
theorem Trel.Shape.elb {T:Trel} (h:T.Shape) {i:Nat} (hi:i<T.n):T.el i<=262144:=by
 have h3:=Trel.sumE_mono (T:=T) (i+1) (T.n - (i+1))
 rw [show i+1+(T.n - (i+1))=T.n by omega] at h3
 have h4:=h.sE
 have h5:T.sumE (i+1)=T.sumE i+T.el i:=rfl
 omega
theorem tbox {w wr:World} {cs:Array Value} {X:TypeId} (h:Below (w.heap.size+1) (w.alloc (.cells cs X)) wr) {i:Nat} {v:Value} (hi:cs[i]?=some v):wr.cell? ⟨w.heap.size,i,none⟩=some v:=by
 rw [h.cell (by simp),World.cell?_alloc_at _ _ _ _ rfl]
 exact hi
theorem zaJ {w wr:World} {o:Obj} (h:Below (w.heap.size+1) (w.alloc o) wr):Below w.heap.size w wr:=((Below.refl _ _).alloc (Nat.le_refl _) _).trans (h.mono (by omega))
theorem zaY {w wr:World} {o:Obj} (h:Below (w.heap.size+1) (w.alloc o) wr):w.heap.size<wr.heap.size:=by have:=h.size; simp at this; omega
theorem zaB {w wr w':World} {o:Obj} (h:Below (w.heap.size+1) (w.alloc o) wr) (hb:Below wr.heap.size wr w'):Below (w.heap.size+1) (w.alloc o) w':=h.trans (hb.mono (zaY h))
section
variable (T:Trel)
theorem Trel.shapeE_w (hs:¬ (64<T.n∨T.nw≠T.n+1)) {k:Nat} (hk:k<T.nw) (h:T.W k<1):T.shapeE=6:=by
 unfold Trel.shapeE
 rw [if_neg hs,if_pos fun h1=>by have:=h1 k hk; omega]
variable (hs:¬ (64<T.n∨T.nw≠T.n+1)) (h1:∀ i,i<T.nw->1<=T.W i)
include hs h1
theorem Trel.shapeE_big {k:Nat} (hk:k<=T.nw) (h:65536<T.sumW k):T.shapeE=8:=by
 have h2:=Trel.sumW_mono h1 k (T.nw - k) (by omega)
 rw [show k+(T.nw - k)=T.nw by omega] at h2
 unfold Trel.shapeE
 rw [if_neg hs,if_neg (by simpa using h1),if_pos (by omega)]
variable (h2:T.sumW T.nw<=65536)
include h2
theorem Trel.shapeE_bigE {k:Nat} (hk:k<=T.n) (h:262144<T.sumE k):T.shapeE=8:=by
 have h3:=Trel.sumE_mono (T:=T) k (T.n - k)
 rw [show k+(T.n - k)=T.n by omega] at h3
 unfold Trel.shapeE
 rw [if_neg hs,if_neg (by simpa using h1),if_neg (by omega),if_pos (by omega)]
variable (h3:T.sumE T.n<=262144)
include h3
theorem Trel.shapeE_in {i j:Nat} (hi:i<T.n) (hj:j<T.el i) (h:¬ T.inside i j):T.shapeE=6:=by
 unfold Trel.shapeE
 rw [if_neg hs,if_neg (by simpa using h1),if_neg (by omega),if_neg (by omega),if_pos fun h4=>h (h4 i hi j hj)]
theorem Trel.shapeE_ok (h:∀ i,i<T.n->∀ j,j<T.el i->T.inside i j):T.shapeE=0:=by
 unfold Trel.shapeE
 rw [if_neg hs,if_neg (by simpa using h1),if_neg (by omega),if_neg (by omega),if_neg fun h4=>h4 h]
end
theorem zeL (T:Trel) (A B:Option Addr) (c d:Nat) (w:World) (h:T.Reads w A B) :
  Calls Tryz.prog 161 #[.agg #[.slice A T.nw c,.slice B T.n d]] w fun e w'=>e=.returned (.int .i64 T.shapeE)/\Below w.heap.size w w':=by
 obtain ⟨RB,M⟩:=exx ((Obj.cells #[.slice A T.nw c,.slice B T.n d] 53))
 have a4:Below (w.heap.size+1) (w.alloc RB) (w.alloc RB):=Below.refl _ _
 have HS:Hid (∀ w',Below (w.heap.size+1) (w.alloc RB) w'->(w'.cell? ⟨w.heap.size,0,none⟩=some (.slice A T.nw c)/\w'.cell? ⟨w.heap.size,1,none⟩=some (.slice B T.n d))/\Below w.heap.size w w'):=fun w' hB=>by
  have ai:=zaJ hB
  subst M
  exact ⟨⟨tbox hB rfl,tbox hB rfl⟩,ai⟩
 obtain ⟨⟨p0,p1⟩,hW⟩:=HS.out _ a4
 have an:=h.2.2.2
 by_cases hs:64<T.n∨T.nw≠T.n+1
 ·have hE:Hid (T.shapeE=3):=by show _=_; unfold Trel.shapeE; rw [if_pos hs]
  go_enter Tryz.func161, Tryz.ntmps161
  by_cases aj:64<T.n
  ·have N:(T.n:Int) > 64:=by omega
   clear hs
   go_wp2_with fail
   rw [<-M]
   go_wp2
   go_ret
   exact ⟨zan hE.out.symm,hW⟩
  have N:¬ (T.n:Int) > 64:=by omega
  have ae:((T.nw:Int) != (T.n:Int)+1)=true:=by simp; omega
  clear hs
  go_wp2_with fail
  rw [<-M]
  go_wp2
  go_ret
  exact ⟨zan hE.out.symm,hW⟩
 have aj:T.n<=64:=by omega
 have Z:T.nw=T.n+1:=by omega
 have O:=hid hs
 have V:=hid Z
 have N:¬ (T.n:Int) > 64:=by omega
 have ae:((T.nw:Int) != (T.n:Int)+1)=false:=by simp; omega
 have ad:((T.nw:Int) == (T.n:Int)+1)=true:=by simp; omega
 clear hs Z
 go_enter Tryz.func161, Tryz.ntmps161
 go_wp2_with fail
 rw [<-M]
 have HR:=hid h
 clear h M
 go_wp2
 go_loopg [4,32] T.nw (fun gg xv iv wx=>∃ k:Nat,iv=.int .i64 (k:Nat)/\k<=T.nw/\T.nw<=k+gg/\(∀ i,i<k->1<=T.W i)/\Below (w.heap.size+1) (w.alloc RB) wx)
 case atStart=>exact ⟨0,rfl,by omega,by omega,fun i hi=>absurd hi (by omega),a4⟩
 obtain ⟨k,rfl,hk,F,l,hB⟩:=hrel
 have G:(0:Int)<=(k:Int):=by omega
 have HB:=hid hB
 have z:=zaY hB
 clear hW p0 p1 hB
 obtain ⟨⟨p0,p1⟩,hW⟩:=HS.out _ HB.out
 have s:=hid l
 clear l
 by_cases hlt:k<T.nw
 ·have a:(k:Int)<(T.nw:Int):=by omega
  obtain ⟨b,o,rfl,hb,x0,ac,ab⟩:=(HR.out.on hW).width hlt
  by_cases h1:T.W k<1
  ·have hE:=hid (T.shapeE_w O.out hlt h1)
   go_wp2
   go_ret
   exact ⟨zan hE.out.symm,hW⟩
  have HA:Hid (∀ i,i<k+1->1<=T.W i):=fun i hi=>by
   by_cases e:i=k
   ·subst e; omega
   ·exact s.out i (by omega)
  go_wp2
  go_roundg (gk - 1)
  case measure=>omega
  case rel=>exact ⟨k+1,by go_num,by omega,by omega,HA.out,HB.out⟩
 have a:¬ (k:Int)<(T.nw:Int):=by omega
 have HA:Hid (∀ i,i<T.nw->1<=T.W i):=fun i hi=>s.out i (by omega)
 have p:(k:Int)=(T.nw:Int):=by omega
 go_wp2
 go_loopg [5,8,42] T.nw (fun gg sv xv iv wx=>∃ k:Nat,iv=.int .i64 (k:Nat)/\k<=T.nw/\T.nw<=k+gg/\sv=.int .i64 (T.sumW k)/\T.sumW k<=65536/\Below (w.heap.size+1) (w.alloc RB) wx)
 case atStart=>exact ⟨0,rfl,by omega,by omega,rfl,by simp [Trel.sumW],HB.out⟩
 clear hW p0 p1 hlt a p z HB s hk G F
 obtain ⟨k2,rfl,hk,F,rfl,D,hB⟩:=hrel
 have G:(0:Int)<=(k2:Int):=by omega
 have HB:=hid hB
 have z:=zaY hB
 clear hB
 obtain ⟨⟨p0,p1⟩,hW⟩:=HS.out _ HB.out
 have Q:=Trel.sumW_mono (m:=T.nw) HA.out 0 k2 (by omega)
 simp only [Trel.sumW,Nat.zero_add] at Q
 have r:Hid (T.sumW (k2+1)=T.sumW k2+T.W k2):=rfl
 obtain ⟨sm,C⟩:=exx (T.sumW k2)
 rw [<-C] at Q D r;rw [<-C];clear C
 by_cases hlt:k2<T.nw
 ·have a:(k2:Int)<(T.nw:Int):=by omega
  obtain ⟨b,o,rfl,hb,x0,ac,ab⟩:=(HR.out.on hW).width hlt
  by_cases h1:T.W k2 > 65536 - sm
  ·have hE:=hid (T.shapeE_big O.out HA.out (k:=k2+1) (by omega) (by rw [r.out]; omega))
   go_wp2
   go_ret
   exact ⟨zan hE.out.symm,hW⟩
  go_wp2
  go_roundg (gk - 1)
  case measure=>omega
  case rel=>exact ⟨k2+1,by go_num,by omega,by omega,by rw [r.out],by rw [r.out]; omega,HB.out⟩
 have a:¬ (k2:Int)<(T.nw:Int):=by omega
 have p:k2=T.nw:=by omega
 have U:Hid (T.sumW T.nw<=65536):=by
  show _<=_
  rw [<-p]
  have:=r.out
  have e:T.sumW (k2+1)=T.sumW k2+T.W k2:=rfl
  omega
 clear p
 go_wp2
 go_loopg [6,10,57] T.n (fun gg sv xv iv wx=>∃ k:Nat,iv=.int .i64 (k:Nat)/\k<=T.n/\T.n<=k+gg/\sv=.int .i64 (T.sumE k:Nat)/\T.sumE k<=262144/\Below (w.heap.size+1) (w.alloc RB) wx)
 case atStart=>exact ⟨0,rfl,by omega,by omega,rfl,by simp [Trel.sumE],HB.out⟩
 clear hW p0 p1 hlt a z HB hk G F Q D r
 obtain ⟨k3,rfl,hk,F,rfl,D,hB⟩:=hrel
 have G:(0:Int)<=(k3:Int):=by omega
 have HB:=hid hB
 have z:=zaY hB
 clear hB
 obtain ⟨⟨p0,p1⟩,hW⟩:=HS.out _ HB.out
 have r:Hid (T.sumE (k3+1)=T.sumE k3+T.el k3):=rfl
 obtain ⟨sm,C⟩:=exx (T.sumE k3)
 have a5:=hid C
 rw [<-C] at D r;rw [<-C];clear C
 by_cases hlt:k3<T.n
 ·have a:(k3:Int)<(T.n:Int):=by omega
  obtain ⟨b,o,E,ec,rfl,hb,x0,a3,R,L,K⟩:=(HR.out.on hW).sec hlt
  unfold maxLen at R
  have J:=HR.out.2.2.2.2.2 k3 hlt
  obtain ⟨el,a2⟩:=exx (T.el k3)
  rw [<-a2] at x0 a3 r J;clear L K a2
  by_cases h1:sm+el > 262144
  ·have hE:=hid (T.shapeE_bigE O.out HA.out U.out (k:=k3+1) (by omega) (by rw [r.out]; omega))
   have ak:(sm:Int)+(el:Int) > 262144:=by omega
   go_wp2
   go_ret
   exact ⟨zan hE.out.symm,hW⟩
  have ak:¬ (sm:Int)+(el:Int) > 262144:=by omega
  go_wp2
  go_roundg (gk - 1)
  case measure=>omega
  case rel=>exact ⟨k3+1,by go_num,by omega,by omega,by rw [r.out]; go_num,by rw [r.out]; omega,HB.out⟩
 have a:¬ (k3:Int)<(T.n:Int):=by omega
 have p:k3=T.n:=by omega
 have a6:Hid (T.sumE T.n<=262144):=by
  show _<=_
  rw [<-p,<-a5.out]
  exact D
 clear p
 go_wp2
 go_loopg [11,12,71] T.n (fun gg xv yv iv wx=>∃ k:Nat,iv=.int .i64 (k:Nat)/\k<=T.n/\T.n<=k+gg/\(∀ i,i<k->∀ j,j<T.el i->T.inside i j)/\Below (w.heap.size+1) (w.alloc RB) wx)
 case atStart=>exact ⟨0,rfl,by omega,by omega,fun i hi=>absurd hi (by omega),HB.out⟩
 clear hW p0 p1 hlt a z HB hk G F D r a5
 obtain ⟨gK,ah⟩:=exx gk
 subst ah
 obtain ⟨k4,rfl,hk,F,l,hB⟩:=hrel
 have G:(0:Int)<=(k4:Int):=by omega
 have HB:=hid hB
 have z:=zaY hB
 clear hB
 obtain ⟨⟨p0,p1⟩,hW⟩:=HS.out _ HB.out
 have s:=hid l
 clear l
 by_cases hlt:k4<T.n
 rotate_left
 ·have a:¬ (k4:Int)<(T.n:Int):=by omega
  have hE:=hid (T.shapeE_ok O.out HA.out U.out a6.out fun i hi=>s.out i (by omega))
  go_wp2
  go_ret
  exact ⟨zan hE.out.symm,hW⟩
 have a:(k4:Int)<(T.n:Int):=by omega
 obtain ⟨b,o,E,ec,rfl,hb,x0,a3,R,L,K⟩:=(HR.out.on hW).sec hlt
 unfold maxLen at R
 have al:=hid x0
 go_wp2
 go_loopg [78] (T.el k4) (fun gg jv wx=>∃ j:Nat,jv=.int .i64 (j:Nat)/\j<=T.el k4/\T.el k4<=j+gg/\(∀ i,i<j->T.inside k4 i)/\Below (w.heap.size+1) (w.alloc RB) wx/\Below wr.heap.size wr wx)
 case atStart=>exact ⟨0,rfl,by omega,by omega,fun i hi=>absurd hi (by omega),HB.out,Below.refl _ _⟩
 clear hW p0 p1 z x0
 obtain ⟨j,rfl,hj,ap,l,hB,S⟩:=hrel
 have aq:(0:Int)<=(j:Int):=by omega
 have x0:=cellS S al.out
 have P:=hid S
 have X:=hid hB
 have z:=zaY hB
 clear hB S
 obtain ⟨⟨p0,p1⟩,hW⟩:=HS.out _ X.out
 have g:=hid l
 clear l
 by_cases hltj:j<T.el k4
 rotate_left
 ·have I:¬ (j:Int)<(T.el k4:Int):=by omega
  have HN:Hid (∀ i,i<k4+1->∀ j,j<T.el i->T.inside i j):=fun i hi=>by
   by_cases e:i=k4
   ·subst e; exact fun q hq=>g.out q (by omega)
   ·exact s.out i (by omega)
  clear L K
  go_wp2
  go_roundg (gK - 1)
  case measure=>omega
  case rel=>exact ⟨k4+1,by go_num,by omega,by omega,HN.out,X.out⟩
 have I:(j:Int)<(T.el k4:Int):=by omega
 obtain ⟨eb,eo,rfl,ar,e0,e1,e2⟩:=zcO ((Rd.below L P.out (Nat.le_refl _)).mono P.out.size) hltj
 obtain ⟨wb,wo,hA,am,y0,aa,a9⟩:=(HR.out.on hW).width (i:=k4) (by have:=V.out; omega)
 obtain ⟨_,_,H,_,y1,a8,a7⟩:=(HR.out.on hW).width (i:=k4+1) (by have:=V.out; omega)
 rw [hA] at H
 injection H with H; injection H with H hA3; subst H hA3
 subst hA
 have ao:k4+1<T.nw:=by have:=V.out; omega
 have ag:(k4:Int)+1<(T.nw:Int):=by omega
 have af:(k4:Int)<(T.nw:Int):=by omega
 obtain ⟨⟨i1,i2⟩,_,⟨i3,i4⟩⟩:=K j hltj
 have x:Hid (T.inside k4 j↔0<=T.fr k4 j/\T.fr k4 j<T.W k4/\0<=T.to k4 j/\T.to k4 j<T.W (k4+1)):=Iff.rfl
 have y:Hid (¬ T.inside k4 j->T.shapeE=6):=fun hb=>T.shapeE_in O.out HA.out U.out a6.out hlt hltj hb
 obtain ⟨fr,a1⟩:=exx (T.fr k4 j)
 obtain ⟨tq,Y⟩:=exx (T.to k4 j)
 obtain ⟨lb,a0⟩:=exx (T.lb k4 j)
 obtain ⟨u,hu⟩:=exx (T.W k4)
 obtain ⟨v,hv⟩:=exx (T.W (k4+1))
 rw [<-a1] at e0 x i1 i2;rw [<-a0] at e1;rw [<-Y] at e2 x i3 i4;rw [<-hu] at y0 x aa a9;rw [<-hv] at y1 x a8 a7;clear a1 Y a0 hu hv L K
 by_cases h1:fr<0
 ·clear g
  have b1:decide (fr<0)=true:=by simp; omega
  go_wp2
  go_quiet (fail)
  go_wp2
  go_ret
  exact ⟨zan (y.out fun hi=>by have:=x.out.1 hi; omega).symm,zac (hW.alloc (by omega) _) _⟩
 have b1:decide (fr<0)=false:=by simp; omega
 by_cases h2:fr ≥ u
 ·clear g
  have b2:decide (fr ≥ u)=true:=by simp; omega
  have b3:decide (u<=fr)=true:=by simp; omega
  go_wp2
  go_quiet (fail)
  go_wp2
  go_ret
  exact ⟨zan (y.out fun hi=>by have:=x.out.1 hi; omega).symm,zac (hW.alloc (by omega) _) _⟩
 have b2:decide (fr ≥ u)=false:=by simp; omega
 have b3:decide (u<=fr)=false:=by simp; omega
 by_cases h3:tq<0
 ·clear g
  have b4:decide (tq<0)=true:=by simp; omega
  go_wp2
  go_quiet (fail)
  go_wp2
  go_ret
  exact ⟨zan (y.out fun hi=>by have:=x.out.1 hi; omega).symm,zac (hW.alloc (by omega) _) _⟩
 have b4:decide (tq<0)=false:=by simp; omega
 by_cases h4:tq ≥ v
 ·clear g
  have b5:decide (tq ≥ v)=true:=by simp; omega
  have b6:decide (v<=tq)=true:=by simp; omega
  go_wp2
  go_quiet (fail)
  go_wp2
  go_ret
  exact ⟨zan (y.out fun hi=>by have:=x.out.1 hi; omega).symm,zac (hW.alloc (by omega) _) _⟩
 have b5:decide (tq ≥ v)=false:=by simp; omega
 have b6:decide (v<=tq)=false:=by simp; omega
 have HN:Hid (∀ i,i<j+1->T.inside k4 i):=fun i hi=>by
  by_cases e:i=j
  ·subst e; exact x.out.2 (by omega)
  ·exact g.out i (by omega)
 go_wp2
 go_quiet (fail)
 go_wp2
 go_roundg (gk - 1)
 case measure=>omega
 case rel=>exact ⟨j+1,by go_num,by omega,by omega,HN.out,zac (X.out.alloc (by omega) _) _,zac (P.out.alloc P.out.size _) _⟩
def cmpI (a b:Int):Int:=if a<b then -1 else if b<a then 1 else 0
theorem zjy (a b:Int) (w:World):Calls Tryz.prog 157 #[.int .i64 a,.int .i64 b] w fun e w'=>e=.returned (.int .i64 (cmpI a b))/\Below w.heap.size w w':=by
 have g:(a != a)=false:=by simp
 have c:(b != b)=false:=by simp
 by_cases h1:a<b
 ·have hE:Hid (cmpI a b = -1):=if_pos h1
  go_enter Tryz.func157, Tryz.ntmps157
  go_wp2
  go_ret
  exact ⟨zan hE.out.symm,Below.refl _ _⟩
 by_cases h2:b<a
 ·have hE:Hid (cmpI a b=1):=by show _=_; unfold cmpI; rw [if_neg h1,if_pos h2]
  have d:a > b:=h2
  go_enter Tryz.func157, Tryz.ntmps157
  go_wp2
  go_ret
  exact ⟨zan hE.out.symm,Below.refl _ _⟩
 have hE:Hid (cmpI a b=0):=by show _=_; unfold cmpI; rw [if_neg h1,if_neg h2]
 have d:¬ a > b:=h2
 go_enter Tryz.func157, Tryz.ntmps157
 go_wp2
 go_ret
 exact ⟨zan hE.out.symm,Below.refl _ _⟩
def orV (x y:Int):Int:=if x=0 then y else x
theorem ziO (A:Option Addr) (c:Nat) (f:Nat->Int) (w:World) (h:IntsR w w.heap.size A 2 f) :
  Calls Tryz.prog 203 #[.slice A 2 c] w fun e w'=>e=.returned (.int .i64 (orV (f 0) (f 1)))/\Below w.heap.size w w':=by
 obtain ⟨b,o,rfl,hb,x0⟩:=h.at (i:=0) (by omega)
 obtain ⟨_,_,e1,_,x1⟩:=h.at (i:=1) (by omega)
 injection e1 with e1; injection e1 with e1 e2; subst e1 e2
 obtain ⟨x,hx⟩:=exx (f 0)
 obtain ⟨y,hy⟩:=exx (f 1)
 rw [<-hx] at x0 ⊢;rw [<-hy] at x1 ⊢;clear hx hy h
 go_enter Tryz.func203, Tryz.ntmps203
 go_wp2
 go_loopg [5,8] 2 (fun gg ev iv wx=>∃ k:Nat,iv=.int .i64 (k:Nat)/\k<=2/\2<=k+gg/\(1<=k->x=0)/\(2<=k->y=0)/\Below w.heap.size w wx)
 case atStart=>exact ⟨0,rfl,by omega,by omega,fun h=>absurd h (by omega),fun h=>absurd h (by omega),Below.refl _ _⟩
 obtain ⟨k,rfl,hk,j,h1,h2,hB⟩:=hrel
 replace x0:=cellS hB x0;replace x1:=cellS hB x1
 have H1:=hid h1
 have H2:=hid h2
 clear h1 h2
 by_cases hk2:k=2
 ·have g:¬ (k:Int)<2:=by omega
  have hE:Hid (orV x y=0):=by
   show _=_
   unfold orV
   rw [if_pos (H1.out (by omega)),H2.out (by omega)]
  clear hk2
  go_wp2
  go_ret
  exact ⟨zan hE.out.symm,hB⟩
 have g:(k:Int)<2:=by omega
 have l:(0:Int)<=(k:Int):=by omega
 by_cases hk1:k=0
 ·have xk:wr.cell? ⟨b,o+k,none⟩=some (.int .i64 x):=by rw [hk1]; exact x0
  by_cases hx:x=0
  ·have d:(x != 0)=false:=by simp [hx]
   have a:(x == 0)=true:=by simp [hx]
   have HX:=hid hx
   have HK:=hid hk1
   clear hx x0 x1 hk1 hk2
   go_wp2
   go_roundg (gk - 1)
   case measure=>omega
   case rel=>exact ⟨k+1,by go_num,by omega,by omega,fun _=>HX.out,fun h=>absurd h (by have:=HK.out; omega),hB⟩
  have d:(x != 0)=true:=by simp [hx]
  have a:(x == 0)=false:=by simp [hx]
  have hE:Hid (orV x y=x):=if_neg hx
  clear hx x0 x1 hk1 hk2
  go_wp2
  go_ret
  exact ⟨zan hE.out.symm,hB⟩
 have xk:wr.cell? ⟨b,o+k,none⟩=some (.int .i64 y):=by rw [show k=1 by omega]; exact x1
 have hx:x=0:=H1.out (by omega)
 by_cases hy:y=0
 ·have d:(y != 0)=false:=by simp [hy]
  have a:(y == 0)=true:=by simp [hy]
  have HX:=hid hx
  have HY:=hid hy
  clear hx hy x0 x1 hk1 hk2
  go_wp2
  go_roundg (gk - 1)
  case measure=>omega
  case rel=>exact ⟨k+1,by go_num,by omega,by omega,fun _=>HX.out,fun _=>HY.out,hB⟩
 have d:(y != 0)=true:=by simp [hy]
 have a:(y == 0)=false:=by simp [hy]
 have hE:Hid (orV x y=y):=if_pos hx
 clear hx hy x0 x1 hk1 hk2
 go_wp2
 go_ret
 exact ⟨zan hE.out.symm,hB⟩
def lessV (f l f' l':Int):Int:=orV (cmpI f f') (cmpI l l')
theorem zcn {f l f' l':Int}:lessV f l f' l'<0↔f<f'∨f=f'/\l<l':=by
 unfold lessV orV cmpI
 split <;> split <;> (try split) <;> (try split) <;> omega
theorem zkc (f l t f' l' t':Int) (w:World) :
  Calls Tryz.prog 151 #[.agg #[.int .i64 f,.int .i64 l,.int .i64 t],.agg #[.int .i64 f',.int .i64 l',.int .i64 t']] w fun e w'=>e=.returned (.int .i64 (lessV f l f' l'))/\Below w.heap.size w w':=by
 go_enter Tryz.func151, Tryz.ntmps151
 go_upto_region 1 with fail
 obtain ⟨B1,c⟩:=exx ((Obj.cells #[.int .i64 f,.int .i64 l,.int .i64 t] 90))
 obtain ⟨B2,b⟩:=exx ((Obj.cells #[.int .i64 f',.int .i64 l',.int .i64 t'] 90))
 rw [<-c,<-b]
 have a:Below (w.heap.size+1) (w.alloc B1) ((w.alloc B1).alloc B2):=(Below.refl _ _).alloc (by simp) _
 have hW:=zaJ a
 have p0:((w.alloc B1).alloc B2).cell? ⟨w.heap.size,0,none⟩=some (.int .i64 f):=by subst c; exact tbox a rfl
 have p1:((w.alloc B1).alloc B2).cell? ⟨w.heap.size,1,none⟩=some (.int .i64 l):=by subst c; exact tbox a rfl
 have p2:((w.alloc B1).alloc B2).cell? ⟨w.heap.size+1,0,none⟩=some (.int .i64 f'):=by subst b; simp
 have p3:((w.alloc B1).alloc B2).cell? ⟨w.heap.size+1,1,none⟩=some (.int .i64 l'):=by subst b; simp
 obtain ⟨w1,d⟩:∃ W,W=(w.alloc B1).alloc B2:=⟨_,rfl⟩
 rw [<-d] at hW p0 p1 p2 p3 ⊢;clear a d c b
 refine wp_region_held_drew (S:=fun w'=>w'.cell? ⟨w.heap.size,0,none⟩=some (.int .i64 f)/\w'.cell? ⟨w.heap.size,1,none⟩=some (.int .i64 l)/\w'.cell? ⟨w.heap.size+1,0,none⟩=some (.int .i64 f')/\w'.cell? ⟨w.heap.size+1,1,none⟩=some (.int .i64 l')) (by kernel_rfl) ⟨cellS (Below.refl _ _).drew p0,cellS (Below.refl _ _).drew p1,cellS (Below.refl _ _).drew p2,cellS (Below.refl _ _).drew p3⟩ (fun hHeld=>?_)
 obtain ⟨w2,hw,kb⟩:=dwx w1
 rw [<-hw] at hHeld ⊢;clear hw;replace hW:=onS hW kb;replace p0:=cellS kb p0;replace p1:=cellS kb p1;replace p2:=cellS kb p2;replace p3:=cellS kb p3;clear kb
 refine tkq 0 (h:=tkq 1 (h:=tkq 2 (h:=tkq 3 (h:=tkq 5 (h:=tkq 6 (h:=tkq 7 (h:=tkq 8 (h:=?_))))))))
 refine rdq 4 (h:=fun K hK=>?_)
 go_simp
 go_wp2_with fail
 refine (zjy f f' w2).mono ?_
 rintro e w3 ⟨rfl,kb⟩
 replace hW:=onS hW kb;replace p0:=cellS kb p0;replace p1:=cellS kb p1;replace p2:=cellS kb p2;replace p3:=cellS kb p3;clear kb
 refine bkq hK ⟨p0,p1,p2,p3⟩ (h:=fun hHeld=>?_)
 clear hK K
 refine rdq 9 (h:=fun K hK=>?_)
 go_simp
 go_wp2_with fail
 refine (zjy l l' w3).mono ?_
 rintro e w4 ⟨rfl,kb⟩
 replace hW:=onS hW kb;replace p0:=cellS kb p0;replace p1:=cellS kb p1;replace p2:=cellS kb p2;replace p3:=cellS kb p3;clear kb
 refine bkq hK ⟨p0,p1,p2,p3⟩ (h:=fun hHeld=>?_)
 clear hK K
 refine rdq 10 (h:=fun K hK=>?_)
 go_simp
 obtain ⟨w5,hw⟩:=exx (World.alloc w4 (Obj.cells #[.int .i64 (cmpI f f'),.int .i64 (cmpI l l')] 3))
 have kb:=alx hw
 have hi:IntsR w5 w5.heap.size (some ⟨w4.heap.size,0,none⟩) 2 (fun i=>if i=0 then cmpI f f' else cmpI l l'):=by
  rw [hw]
  intro i hi
  refine ⟨_,0,rfl,by simp,fun j hj=>?_⟩
  obtain rfl:j=0:=by omega
  match i,hi with
  | 0,_=>simp
  | 1,_=>simp
 rw [<-hw];clear hw
 obtain ⟨nb,g⟩:=exx w4.heap.size
 rw [<-g] at hi ⊢;clear g;replace hW:=onS hW kb;replace p0:=cellS kb p0;replace p1:=cellS kb p1;replace p2:=cellS kb p2;replace p3:=cellS kb p3;clear kb
 refine bkq hK ⟨p0,p1,p2,p3⟩ (h:=fun hHeld=>?_)
 clear hK K
 refine rdq 11 (h:=fun K hK=>?_)
 go_simp
 go_wp2_with fail
 refine ((show Calls _ _ _ _ (fun e w'=>e=.returned (.int .i64 (lessV f l f' l'))/\Below w5.heap.size w5 w') from ziO (some ⟨nb,0,none⟩) 2 _ w5 hi)).mono ?_
 rintro e w6 ⟨rfl,kb⟩
 replace hW:=onS hW kb;replace p0:=cellS kb p0;replace p1:=cellS kb p1;replace p2:=cellS kb p2;replace p3:=cellS kb p3;replace hi:=hi.on kb;clear kb
 refine bkq hK ⟨p0,p1,p2,p3⟩ (h:=fun hHeld=>?_)
 clear hK K
 refine tkq 12 (h:=?_)
 refine wpAnyH_done (by kernel_rfl) ?_ _
 clear hHeld
 go_wp2_with fail
 go_ret
 exact ⟨rfl,hW⟩
theorem zdm (A:Option Addr) (n c:Nat) (f:Nat->Bool) (v:Bool) (w:World) (h:Rd w w.heap.size A n 1 (fun i _=>.bool (f i))) (hn:n<=1048576) :
  Calls Tryz.prog 162 #[.slice A n c,.bool v] w fun e w'=>(∃ r:Bool,e=.returned (.bool r)/\(r=true↔∃ i,i<n/\f i=v))/\Below w.heap.size w w':=by
 have j:Calls Tryz.prog 212 #[.slice A n c,.bool v] w fun e w'=>(∃ r:Int,e=.returned (.int .i64 r)/\(0<=r↔∃ i,i<n/\f i=v))/\Below w.heap.size w w':=by
  go_enter Tryz.func212, Tryz.ntmps212
  go_wp2
  go_loopg [5,8] n (fun gg ev iv wx=>∃ k:Nat,iv=.int .i64 (k:Nat)/\k<=n/\n<=k+gg/\(∀ i,i<k->f i≠v)/\Below w.heap.size w wx)
  case atStart=>exact ⟨0,rfl,by omega,by omega,fun i hi=>absurd hi (by omega),Below.refl _ _⟩
  obtain ⟨k,rfl,hk,u,a,hB⟩:=hrel
  have p:(0:Int)<=(k:Int):=by omega
  have d:=hid a
  clear a
  by_cases hlt:k<n
  rotate_left
  ·have g:¬ (k:Int)<(n:Int):=by omega
   have l:Hid (¬ ∃ i,i<n/\f i=v):=fun ⟨i,hi,e⟩=>d.out i (by omega) e
   go_wp2
   go_ret
   exact ⟨⟨_,rfl,fun h=>absurd h (by omega),fun h=>absurd h l.out⟩,hB⟩
  have g:(k:Int)<(n:Int):=by omega
  obtain ⟨b,o,rfl,hb,x0⟩:=Rd.at1 ((Rd.below h hB (Nat.le_refl _)).mono hB.size) hlt
  obtain ⟨y,hy⟩:=exx (f k)
  rw [<-hy] at x0
  have HY:=hid hy
  clear hy
  by_cases he:v=y
  ·have s:(v == y)=true:=by simp [he]
   have q:Hid (∃ i,i<n/\f i=v):=⟨k,hlt,by rw [he,HY.out]⟩
   clear he
   go_wp2
   go_ret
   exact ⟨⟨_,rfl,fun _=>q.out,fun _=>p⟩,hB⟩
  have s:(v == y)=false:=by simp [he]
  have m:Hid (∀ i,i<k+1->f i≠v):=fun i hi=>by
   by_cases e:i=k
   ·subst e; rw [<-HY.out]; exact fun h=>he h.symm
   ·exact d.out i (by omega)
  clear he
  go_wp2
  go_roundg (gk - 1)
  case measure=>omega
  case rel=>exact ⟨k+1,by go_num,by omega,by omega,m.out,hB⟩
 go_enter Tryz.func162, Tryz.ntmps162
 go_wp2_with fail
 refine j.mono ?_
 rintro e w1 ⟨⟨r,rfl,hr⟩,hB⟩
 have HR:=hid hr
 clear hr
 by_cases h0:0<=r
 ·have t:decide (r ≥ 0)=true:=by simpa using h0
  have hE:=hid (HR.out.1 h0)
  go_wp2
  go_ret
  exact ⟨⟨_,rfl,by simpa using hE.out⟩,hB⟩
 have t:decide (r ≥ 0)=false:=by simp; omega
 have hE:Hid (¬ ∃ i,i<n/\f i=v):=fun h=>h0 (HR.out.2 h)
 go_wp2
 go_ret
 refine ⟨⟨_,rfl,?_⟩,hB⟩
 simp only [Bool.false_eq_true,false_iff]
 exact hE.out
theorem zkd (w:World):Calls Tryz.prog 297 #[.agg #[]] w (NatPost 1 w):=by
 go_enter Tryz.func297, Tryz.ntmps297
 go_wp2_with fail
 refine (zcW 1 _ (by omega)).mono ?_
 rintro e w1 ⟨A,c,rfl,h1,h2,h3,h4⟩
 have hB:=onS ((Below.refl _ _).alloc (Nat.le_refl _) _) h4
 clear h4
 go_wp2
 go_ret
 exact ⟨A,c,rfl,h1,h2,h3,hB⟩
theorem zfY (w:World):Calls Tryz.prog 298 #[.agg #[]] w (NatPost 0 w):=by
 go_enter Tryz.func298, Tryz.ntmps298
 go_wp2_with fail
 refine (zcW 0 _ (by omega)).mono ?_
 rintro e w1 ⟨A,c,rfl,h1,h2,h3,h4⟩
 have hB:=onS ((Below.refl _ _).alloc (Nat.le_refl _) _) h4
 clear h4
 go_wp2
 go_ret
 exact ⟨A,c,rfl,h1,h2,h3,hB⟩
theorem zeM {w:World} {A A2:Option Addr} {c c2 x y:Nat} {T:TypeId} (h:NatOk w w.heap.size A x) (h2:NatOk w w.heap.size A2 y) (hc:dl x<=c) (hm:c<=maxLen) (hc2:dl y<=c2) (hm2:c2<=maxLen) :
  NatTab (w.alloc (Obj.cells #[Value.slice A (dl x) c,Value.slice A2 (dl y) c2] T)) (w.alloc (Obj.cells #[Value.slice A (dl x) c,Value.slice A2 (dl y) c2] T)).heap.size (some ⟨w.heap.size,0,none⟩) 2 (fun i=>if i=0 then x else y):=fun i hi=>by
 have hb:=aly w (Obj.cells #[Value.slice A (dl x) c,Value.slice A2 (dl y) c2] T)
 match i,hi with
 | 0,_=>exact ⟨w.heap.size,0,A,c,rfl,by simp,by simp,hc,hm,h.on hb⟩
 | 1,_=>exact ⟨w.heap.size,0,A2,c2,rfl,by simp,by simp,hc2,hm2,h2.on hb⟩
theorem zke (A A2:Option Addr) (c c2 x y:Nat) (w:World) (h:NatOk w w.heap.size A x) (h2:NatOk w w.heap.size A2 y) (hc:dl x<=c) (hm:c<=maxLen) (hc2:dl y<=c2) (hm2:c2<=maxLen) (hs:dl x<=1048576) (hs2:dl y<=1048576) (hs3:dl (x+y)<=1048577) :
  Calls Tryz.prog 295 #[.agg #[],.slice A (dl x) c,.slice A2 (dl y) c2] w (NatPost (x+y) w):=by
 have b:=aly w (Obj.cells #[] 175)
 have hT:=zeM (T := 69) (h.on b) (h2.on b) hc hm hc2 hm2
 have g:=onS b ((Below.refl _ _).alloc (Nat.le_refl _) (Obj.cells #[Value.slice A (dl x) c,Value.slice A2 (dl y) c2] 69))
 go_enter Tryz.func295, Tryz.ntmps295
 go_wp2_with fail
 obtain ⟨X,hX⟩:=exx (w.alloc (Obj.cells #[] 175))
 have j:X.heap.size=w.heap.size+1:=by rw [hX]; simp
 rw [<-hX] at hT g ⊢;rw [<-j];clear hX j b
 refine (zgN _ 2 2 (fun i=>if i=0 then x else y) _ hT (by omega) (fun k hk=>?_) (fun k hk=>?_)).mono ?_
 ·match k,hk with
  | 0,_=>simp [sumN,zbo]
  | 1,_=>simp [sumN]; omega
  | 2,_=>simp [sumN]; omega
 ·match k,hk with
  | 0,_=>simp; omega
  | 1,_=>simp; omega
 rintro e w1 ⟨B,d,rfl,k1,k2,k3,k4⟩
 have hB:=onS g k4
 have a:sumN (fun i=>if i=0 then x else y) 2=x+y:=by simp [sumN]
 rw [a] at k1 k3 ⊢;clear k4 a hT g
 go_wp2
 go_ret
 exact ⟨B,d,rfl,k1,k2,k3,hB⟩
theorem zhG (A A2:Option Addr) (c c2 x y:Nat) (w:World) (h:NatOk w w.heap.size A x) (h2:NatOk w w.heap.size A2 y) (hc:dl x<=c) (hm:c<=maxLen) (hc2:dl y<=c2) (hm2:c2<=maxLen) (hs:dl x<=1048576) (hs2:dl y<=1048576) (hs3:dl (x*y)<=2097152) :
  Calls Tryz.prog 296 #[.agg #[],.slice A (dl x) c,.slice A2 (dl y) c2] w (NatPost (x*y) w):=by
 have b:=aly w (Obj.cells #[] 175)
 have hT:=zeM (T := 69) (h.on b) (h2.on b) hc hm hc2 hm2
 have g:=onS b ((Below.refl _ _).alloc (Nat.le_refl _) (Obj.cells #[Value.slice A (dl x) c,Value.slice A2 (dl y) c2] 69))
 go_enter Tryz.func296, Tryz.ntmps296
 go_wp2_with fail
 obtain ⟨X,hX⟩:=exx (w.alloc (Obj.cells #[] 175))
 have j:X.heap.size=w.heap.size+1:=by rw [hX]; simp
 rw [<-hX] at hT g ⊢;rw [<-j];clear hX j b
 refine (zgQ _ 2 2 (fun i=>if i=0 then x else y) _ hT (by omega) (fun k hk=>?_) (fun k hk=>?_)).mono ?_
 ·match k,hk with
  | 0,_=>show dl 1<=_; rw [zcs (by omega) (by omega)]; omega
  | 1,_=>simp [prodN]; omega
  | 2,_=>simp [prodN]; omega
 ·match k,hk with
  | 0,_=>simp; omega
  | 1,_=>simp; omega
 rintro e w1 ⟨B,d,rfl,k1,k2,k3,k4⟩
 have hB:=onS g k4
 have a:prodN (fun i=>if i=0 then x else y) 2=x*y:=by simp [prodN]
 rw [a] at k1 k3 ⊢;clear k4 a hT g
 go_wp2
 go_ret
 exact ⟨B,d,rfl,k1,k2,k3,hB⟩
theorem Tryz.infoNats:(Tryz.prog.info? 64).map (fun i=>(i.zero,i.size,i.bytes))=some (some (.slice none 0 0),1,24):=by kernel_rfl
theorem zaf {w w':World} {g k:Nat} {v:Value} {row:Option Nat} (h:w.cell? ⟨g,k,none⟩=some v) (hg:w.grownBy w' row) (hne:row≠some g):w'.cell? ⟨g,k,none⟩=some v:=by
 have hl:=World.block_lt_of_cell? _ _ h
 have hb:=hg.block g hl (fun e=>hne e.symm)
 rw [<-h]
 simp only [World.cell?,hb]
theorem zfZ {w wr:World} {o1 o2:Obj} (h:Below (w.heap.size+2) ((w.alloc o1).alloc o2) wr):Below w.heap.size w wr:=(((Below.refl w.heap.size w).alloc (Nat.le_refl _) o1).alloc (by simp) o2).trans (h.mono (by omega))
theorem zk2 {w wr:World} {o1 o2:Obj} (h:Below (w.heap.size+2) ((w.alloc o1).alloc o2) wr):w.heap.size+2<=wr.heap.size:=by have:=h.size; simp at this; omega
theorem zk3 {w wr w':World} {o1 o2:Obj} (h:Below (w.heap.size+2) ((w.alloc o1).alloc o2) wr) (hb:Below wr.heap.size wr w'):Below (w.heap.size+2) ((w.alloc o1).alloc o2) w':=h.trans (hb.mono (zk2 h))
theorem zbt {b:Nat} {w W Y:World} (h:Below b w W) (hl:b<=W.heap.size) (kb:Below W.heap.size W Y):Below b w Y:=h.trans (kb.mono hl)
theorem zfr {w:World} {g base m:Nat} {x:Nat->Nat->Nat} (h:w.rowIs g 64 m (fun _=>.slice none 0 0)):NumTab w g base m (fun _=>.slice none 0 0) (fun _=>0) x :=
 ⟨h,fun _ _=>NatOwn.nil _ _ _,fun _ _ _ _ _=>.inl rfl⟩
def TabPost (T:Trel) (x:Nat->Nat->Nat) (w:World) (e:Ending) (w':World):Prop :=
 ∃ g F,e=.returned (.slice (some ⟨g,0,none⟩) T.nw T.nw)/\w.heap.size<=g/\NumTab w' g (g+1) T.nw F (fun v=>(T.W v).toNat) x/\Below w.heap.size w w'
theorem ziP (T:Trel) (A B:Option Addr) (c d:Nat) (w:World) (h:T.Reads w A B) (hs:T.Shape) :
  Calls Tryz.prog 194 #[.agg #[],.agg #[.slice A T.nw c,.slice B T.n d]] w (TabPost T (fun _ _=>0) w):=by
 obtain ⟨O1,U⟩:=exx ((Obj.cells #[] 175))
 obtain ⟨O2,G⟩:=exx ((Obj.cells #[.slice A T.nw c,.slice B T.n d] 53))
 have u:Below (w.heap.size+2) ((w.alloc O1).alloc O2) ((w.alloc O1).alloc O2):=Below.refl _ _
 have HS:Hid (∀ w',Below (w.heap.size+2) ((w.alloc O1).alloc O2) w'->(w'.cell? ⟨w.heap.size+1,0,none⟩=some (.slice A T.nw c)/\w'.cell? ⟨w.heap.size+1,1,none⟩=some (.slice B T.n d))/\Below w.heap.size w w'):=fun w' hB=>by
  have ad:=zfZ hB
  subst G
  have hr:=ze7 hB
  exact ⟨⟨hr.cell (i:=0) (by simp),hr.cell (i:=1) (by simp)⟩,ad⟩
 obtain ⟨⟨p0,p1⟩,hW⟩:=HS.out _ u
 have a4:=hs.n64
 have a3:=hs.nw
 have L:=fun W=>zag (P:=Tryz.prog) 148 64 _ 24 Tryz.underlying148 Tryz.infoNats rfl (T.nw:Int) (by omega) (by omega) (by omega) W
 simp only [Int.toNat_natCast] at L
 have HR:=hid h
 have X:=hid hs
 have J:T.nw<=65:=by omega
 clear h hs a3
 go_enter Tryz.func194, Tryz.ntmps194
 go_wp2_with fail
 rw [<-U,<-G]
 go_upto_region 2 with fail
 obtain ⟨W2,s⟩:∃ W,W=(w.alloc O1).alloc O2:=⟨_,rfl⟩
 have b:W2.heap.size=w.heap.size+2:=by rw [s]; simp
 have Y:Hid (∀ w',Below (w.heap.size+2) W2 w'->(w'.cell? ⟨w.heap.size+1,0,none⟩=some (.slice A T.nw c)/\w'.cell? ⟨w.heap.size+1,1,none⟩=some (.slice B T.n d))/\Below w.heap.size w w'):=by rw [s]; exact HS
 rw [<-s] at u ⊢
 obtain ⟨g,hg⟩:=exx (w.heap.size+1+1)
 have N:g=W2.heap.size:=by omega
 have r:=World.rowIs_made W2 (.slice none 0 0) T.nw 64
 have H:=zbt u (Nat.le_of_eq b.symm) ((Below.refl W2.heap.size W2).alloc (Nat.le_refl _) (Obj.cells (madeCells #[Value.slice none 0 0] T.nw) 64))
 have C:w.heap.size+2<(W2.alloc (Obj.cells (madeCells #[Value.slice none 0 0] T.nw) 64)).heap.size:=by simp; omega
 obtain ⟨W3,O⟩:=exx (W2.alloc (Obj.cells (madeCells #[Value.slice none 0 0] T.nw) 64))
 rw [<-N] at r;rw [<-O] at r H C ⊢;rw [<-hg]
 have Q:NumTab W3 g (g+1) T.nw (fun _=>.slice none 0 0) (fun v=>if v<0 then (T.W v).toNat else 0) (fun _ _=>0):=(zfr r).congr (fun v _=>(if_neg (by omega)).symm) (fun v _ k hk=>rfl)
 have a9:w.heap.size+2<=g:=by omega
 clear O N hg r s HS u L U G b
 go_loopg [15] T.nw (fun gg iv wx=>∃ (k:Nat) (F:Nat->Value),iv=.int .i64 (k:Nat)/\k<=T.nw/\T.nw<=k+gg/\NumTab wx g (g+1) T.nw F (fun v=>if v<k then (T.W v).toNat else 0) (fun _ _=>0)/\Below (w.heap.size+2) W2 wx/\w.heap.size+2<wx.heap.size)
 case atStart=>exact ⟨0,_,rfl,by omega,by omega,Q,H,C⟩
 clear hW p0 p1 Q H C
 obtain ⟨gK,a8⟩:=exx gk
 subst a8
 obtain ⟨k,F,rfl,hk,ah,hT,hB,hl⟩:=hrel
 obtain ⟨wk,a1⟩:=exx wr
 subst a1
 have ai:(0:Int)<=(k:Int):=by omega
 obtain ⟨⟨p0,p1⟩,hW⟩:=Y.out _ hB
 by_cases hlt:k<T.nw
 rotate_left
 ·have z:¬ (k:Int)<(T.nw:Int):=by omega
  have aa:Hid (NumTab wk g (g+1) T.nw F (fun v=>(T.W v).toNat) (fun _ _=>0)):=hT.congr (fun v hv=>if_pos (by omega)) (fun v _ q hq=>rfl)
  clear hT
  go_wp2
  go_ret
  exact ⟨g,F,rfl,by omega,aa.out,hW⟩
 have z:(k:Int)<(T.nw:Int):=by omega
 obtain ⟨wb,wo,rfl,ag,y0,a0,Z⟩:=(HR.out.on hW).width hlt
 have x:=X.out.wid (i:=k) (by have:=X.out.nw; omega)
 obtain ⟨n1,y⟩:∃ n:Nat,(n:Int)=T.W k:=⟨(T.W k).toNat,by omega⟩
 rw [<-y] at y0 x
 have ae:=hid y
 clear y a0 Z
 have R:NumTab wk g (g+1) T.nw F (fun v=>if v<k then (T.W v).toNat else if v=k then 0 else 0) (fun _ _=>0):=hT.congr (fun v _=>by split <;> simp) (fun v _ q hq=>rfl)
 clear hT
 go_wp2
 go_loopg [21] n1 (fun gg jv wx=>∃ (j:Nat) (F:Nat->Value),jv=.int .i64 (j:Nat)/\j<=n1/\n1<=j+gg/\NumTab wx g (g+1) T.nw F (fun v=>if v<k then (T.W v).toNat else if v=k then j else 0) (fun _ _=>0)/\Below (w.heap.size+2) W2 wx/\w.heap.size+2<wx.heap.size)
 case atStart=>exact ⟨0,F,rfl,by omega,by omega,R,hB,hl⟩
 clear hW p0 p1 R hB hl y0
 obtain ⟨j,F2,rfl,hj,aj,hT,hB,hl⟩:=hrel
 have ak:(0:Int)<=(j:Int):=by omega
 obtain ⟨⟨p0,p1⟩,hW⟩:=Y.out _ hB
 by_cases hltj:j<n1
 rotate_left
 ·have l:¬ (j:Int)<(n1:Int):=by omega
  have M:j=n1:=by omega
  have ab:Hid (NumTab wr g (g+1) T.nw F2 (fun v=>if v<k+1 then (T.W v).toNat else 0) (fun _ _=>0)):=hT.congr (fun v _=>by
   by_cases e:v<k
   ·rw [if_pos e,if_pos (by omega)]
   rw [if_neg e]
   by_cases e2:v=k
   ·subst e2
    rw [if_pos rfl,if_pos (by omega),M]
    have:=ae.out
    omega
   ·rw [if_neg e2,if_neg (by omega)]) (fun v _ q hq=>rfl)
  have HB:=hid hB
  clear hT hB M
  go_wp2
  go_roundg (gK - 1)
  case measure=>omega
  case rel=>exact ⟨k+1,F2,by go_num,by omega,by omega,ab.out,HB.out,hl⟩
 have l:(j:Int)<(n1:Int):=by omega
 obtain ⟨fk,E⟩:=exx (F2 k)
 have q0:wr.cell? ⟨g,k,none⟩=some fk:=by rw [E]; exact hT.row.cell hlt
 have I:=hid E
 clear E p0 p1 hW
 rename World=>w50
 go_upto_region 7 with fail
 refine wp_region_held_drew (S:=fun _=>True) (by kernel_rfl) trivial (fun hHeld=>?_)
 obtain ⟨w51,hw,kb⟩:=dwx w50
 rw [<-hw];clear hw;replace hB:=zbt hB (Nat.le_of_lt hl) kb;replace hl:=Nat.lt_of_lt_of_le hl kb.size;replace hT:=hT.on kb;replace q0:=cellS kb q0;clear kb
 refine tkq 0 (h:=tkq 1 (h:=tkq 2 (h:=tkq 3 (h:=tkq 4 (h:=tkq 6 (h:=tkq 7 (h:=?_)))))))
 refine rdq2 5 8 (h:=fun K hK=>?_) (h2:=fun K hK=>?_)
 focus
  go_simp
  refine bkq hK trivial (h:=fun hHeld=>?_)
  clear hK K
  refine rdq 8 (h:=fun K hK=>?_)
  go_simp
  go_wp2_with fail
  refine (zfY w51).mono ?_
  rintro e w52 ⟨A0,c0,rfl,z1,z2,z3,kb⟩
  replace hB:=zbt hB (Nat.le_of_lt hl) kb;replace hl:=Nat.lt_of_lt_of_le hl kb.size;replace hT:=hT.on kb;replace q0:=cellS kb q0;clear kb
  refine bkq hK trivial (h:=fun hHeld=>?_)
  clear hK K
  refine rdq 9 (h:=fun K hK=>?_)
  go_simp
  obtain ⟨w53,hw⟩:=exx (World.alloc w52 (Obj.cells #[Value.slice A0 (dl 0) c0] 69))
  have kb:=alx hw
  have n1c:w53.cell? ⟨w52.heap.size,0,none⟩=some (.slice A0 (dl 0) c0):=by rw [hw]; simp
  rw [<-hw];clear hw
  obtain ⟨nb,a⟩:=exx w52.heap.size
  rw [<-a] at n1c ⊢;clear a;replace hB:=zbt hB (Nat.le_of_lt hl) kb;replace hl:=Nat.lt_of_lt_of_le hl kb.size;replace hT:=hT.on kb;replace q0:=cellS kb q0;replace z3:=z3.on kb;clear kb
 rotate_left
 focus
  go_simp
  go_wp2_with fail
  refine (zfY w51).mono ?_
  rintro e w52 ⟨A0,c0,rfl,z1,z2,z3,kb⟩
  replace hB:=zbt hB (Nat.le_of_lt hl) kb;replace hl:=Nat.lt_of_lt_of_le hl kb.size;replace hT:=hT.on kb;replace q0:=cellS kb q0;clear kb
  refine bkq hK trivial (h:=fun hHeld=>?_)
  clear hK K
  refine rdq2 5 9 (h:=fun K hK=>?_) (h2:=fun K hK=>?_)
  focus
   go_simp
   refine bkq hK trivial (h:=fun hHeld=>?_)
   clear hK K
   refine rdq 9 (h:=fun K hK=>?_)
   go_simp
   obtain ⟨w53,hw⟩:=exx (World.alloc w52 (Obj.cells #[Value.slice A0 (dl 0) c0] 69))
   have kb:=alx hw
   have n1c:w53.cell? ⟨w52.heap.size,0,none⟩=some (.slice A0 (dl 0) c0):=by rw [hw]; simp
   rw [<-hw];clear hw
   obtain ⟨nb,a⟩:=exx w52.heap.size
   rw [<-a] at n1c ⊢;clear a;replace hB:=zbt hB (Nat.le_of_lt hl) kb;replace hl:=Nat.lt_of_lt_of_le hl kb.size;replace hT:=hT.on kb;replace q0:=cellS kb q0;replace z3:=z3.on kb;clear kb
  rotate_left
  focus
   go_simp
   obtain ⟨w53,hw⟩:=exx (World.alloc w52 (Obj.cells #[Value.slice A0 (dl 0) c0] 69))
   have kb:=alx hw
   have n1c:w53.cell? ⟨w52.heap.size,0,none⟩=some (.slice A0 (dl 0) c0):=by rw [hw]; simp
   rw [<-hw];clear hw
   obtain ⟨nb,a⟩:=exx w52.heap.size
   rw [<-a] at n1c ⊢;clear a;replace hB:=zbt hB (Nat.le_of_lt hl) kb;replace hl:=Nat.lt_of_lt_of_le hl kb.size;replace hT:=hT.on kb;replace q0:=cellS kb q0;replace z3:=z3.on kb;clear kb
   refine bkq hK trivial (h:=fun hHeld=>?_)
   clear hK K
   refine rdq 5 (h:=fun K hK=>?_)
   go_simp
  rotate_left
 rotate_left 2
 all_goals
  refine bkq hK trivial (h:=fun hHeld=>?_)
  clear hK K
  refine rdq 10 (h:=fun K hK=>?_)
  have o:NatOwn w53 (g+1) fk j (fun _=>0):=by
   have:=hT.own k hlt
   rw [if_neg (Nat.lt_irrefl k),if_pos rfl,<-I.out] at this
   exact this
  have a7:g+1<=w53.heap.size:=hT.row.lt
  have af:=hT.row.frozen k
  refine zdl (by rfl) (.tmp 28) (.tmp 32) (by rfl) (g+1) fk j (fun _=>0) (by rfl) o a7 (by omega) nb 1 (by rfl) A0 c0 n1c z3 z1 z2 ?_
  intro v9 w9 o1 o2 o3
  obtain ⟨A9,c9,a2⟩:=o1.isSlice
  subst a2
  have D:∀ q,fk.ownBlock=some q->g+1<=q:=fun q e=>(o.lt q e).1
  have q9:w9.cell? ⟨g,k,none⟩=some fk:=zaf q0 o2 fun e=>by have:=D g e; omega
  have z9:w9.frozen? ⟨g,k,none⟩=false:=by
   have:=(hT.row.of_block (o2.block g hT.row.lt fun e=>by have:=D g e.symm; omega)).frozen k
   exact this
  have V:Below (w.heap.size+2) W2 w9:=hB.grown o2 (Nat.le_of_lt hl) fun q e=>by have:=D q e; omega
  have a6:w.heap.size+2<w9.heap.size:=Nat.lt_of_lt_of_le hl o2.size
  have m:=hid (hT.put (by omega) hlt o1 (by rw [<-I.out]; exact o2) (by rw [<-I.out]; exact o3))
  refine bkq hK trivial (h:=fun hHeld=>?_)
  clear hK K
  refine tkq 11 (h:=?_)
  refine rdq 12 (h:=fun K hK=>?_)
  go_simp
  refine bkq hK trivial (h:=fun hHeld=>?_)
  clear hK K
  refine wpAnyH_done (by kernel_rfl) ?_ _
  clear hHeld
  have hN:=m.out.congr (n':=fun v=>if v<k then (T.W v).toNat else if v=k then j+1 else 0) (x':=fun _ _=>0) (fun v _=>by
    by_cases e:v=k
    ·subst e; simp
    ·simp [e]) (fun v _ q hq=>by split <;> rfl)
  have HN:=hid hN
  have ac:=V.setCell (p:=⟨g,k,none⟩) a9 (.slice A9 (j+1) c9)
  have a5:w.heap.size+2<(w9.setCell ⟨g,k,none⟩ (.slice A9 (j+1) c9)).heap.size:=by simp; exact a6
  clear m hN q9 z9 V
  go_wp2
  go_roundg (gk - 1)
  case measure=>omega
  case rel=>exact ⟨j+1,_,by go_num,by omega,by omega,HN.out,ac,a5⟩
def updI (x:Nat->Nat->Int) (v k:Nat) (y:Int):Nat->Nat->Int:=fun u j=>if u=v/\j=k then y else x u j
theorem zk4 (x:Nat->Nat->Int) (v k:Nat) (y:Int):updI x v k y v k=y:=if_pos ⟨rfl,rfl⟩
theorem zhH {x:Nat->Nat->Int} {v k u j:Nat} {y:Int} (h:¬ (u=v/\j=k)):updI x v k y u j=x u j:=if_neg h
def IntTab (w:World) (g base m:Nat) (F:Nat->Value) (n:Nat->Nat) (x:Nat->Nat->Int):Prop :=
 TabOwn w g base 22 3 1 m F n (fun v i _=>.int .i64 (x v i))
section
variable {w w':World} {g base m:Nat} {F:Nat->Value} {n n':Nat->Nat} {x x':Nat->Nat->Int}
theorem IntTab.on (h:IntTab w g base m F n x) (hb:Below w.heap.size w w'):IntTab w' g base m F n x:=⟨zab h.row hb,fun v hv=>(h.own v hv).on hb,h.apart⟩
theorem IntTab.congr (h:IntTab w g base m F n x) (e1:∀ v,v<m->n v=n' v) (e2:∀ v,v<m->∀ k,k<n v->x v k=x' v k):IntTab w g base m F n' x' :=
 ⟨h.row,fun v hv=>by
  rw [<-e1 v hv]
  exact (h.own v hv).congr fun i hi j _=>by
   show Value.int .i64 (x v i)=.int .i64 (x' v i)
   rw [e2 v hv i hi],h.apart⟩
theorem IntTab.at (h:IntTab w g base m F n x) {v k:Nat} (hv:v<m) (hk:k<n v):∃ b o d,F v=.slice (some ⟨b,o,none⟩) (n v) d/\base<=b/\b<w.heap.size/\w.cell? ⟨b,o+k,none⟩=some (.int .i64 (x v k))/\w.frozen? ⟨b,o+k,none⟩=false:=by
 have h1:=h.own v hv
 obtain ⟨b,o,d,e,hb,hl,_,_,hc⟩:=h1.form (by omega)
 have a:=hc k hk 0 (by omega)
 rw [Nat.mul_one,Nat.add_zero] at a
 refine ⟨b,o,d,e,hb,hl,a,?_⟩
 rw [e] at h1
 exact h1.frozen (o+k)
theorem IntTab.set (h:IntTab w g base m F n x) (hgb:g<base) {v k b o d:Nat} {y:Int} (hv:v<m) (hk:k<n v) (hF:F v=.slice (some ⟨b,o,none⟩) (n v) d) :
  IntTab (w.setCell ⟨b,o+k,none⟩ (.int .i64 y)) g base m F n (updI x v k y):=by
 have c:(F v).ownBlock=some b:=by rw [hF]; rfl
 have l:=(h.own v hv).lt b c
 refine ⟨h.row.setOther (by simp; omega) _,fun u hu=>?_,h.apart⟩
 by_cases e:u=v
 ·subst e
  have k1:=h.own u hu
  rw [hF] at k1 ⊢
  have ks:=k1.set (a:=k) (b:=0) hk (by omega) (.int .i64 y)
  rw [Nat.mul_one,Nat.add_zero] at ks
  exact ks.congr fun i _ j hj=>by
   obtain rfl:j=0:=by omega
   show (if i=k/\0=0 then _ else _)=Value.int .i64 (updI x u k y u i)
   unfold updI
   by_cases ei:i=k
   ·rw [if_pos ⟨ei,rfl⟩,if_pos ⟨rfl,ei⟩]
   ·rw [if_neg fun hh=>ei hh.1,if_neg fun hh=>ei hh.2]
 have k1:=h.own u hu
 have f:(F u).ownBlock≠some b:=fun hh=>by
  rcases h.apart u v hu hv e with h0 | h0
  ·rw [h0] at hh; cases hh
  ·rw [c] at h0; exact h0 hh
 exact (k1.setCell (a:=⟨b,o+k,none⟩) f _).congr fun i _ j _=>by
  show Value.int .i64 (x u i)=.int .i64 (updI x v k y u i)
  rw [zhH fun hh=>e hh.1]
theorem IntTab.rows (h:IntTab w g base m F n x) (hx:∀ v,v<m->∀ k,k<n v -> -9223372036854775808<=x v k/\x v k<=9223372036854775807):IntRows w (some ⟨g,0,none⟩) m n x:=fun i hi=>by
 have h1:=h.own i hi
 obtain ⟨A,c,e⟩:=h1.shape
 have hc:=h.row.cell hi
 rw [e] at h1 hc
 exact ⟨g,0,A,c,rfl,h.row.lt,by rw [Nat.zero_add]; exact hc,h1.capL.1,h1.capL.2,h1.rd rfl,fun j hj=>hx i hi j hj⟩
end
theorem zfs {w:World} {g base m:Nat} {x:Nat->Nat->Int} (h:w.rowIs g 22 m (fun _=>.slice none 0 0)):IntTab w g base m (fun _=>.slice none 0 0) (fun _=>0) x :=
 ⟨h,fun _ _=>Own.nil _ _ _ _ _,fun _ _ _ _ _=>.inl rfl⟩
theorem zdx {ops:Array Oper} {o:Oper} {a:Act} {w:World} {K:Act->World->Prop} {Q:Exit->Act->World->Prop} {E:Prop} (hgd:o.guard=none) (sl y:Operand)
  (ho:o.op=.call { callee:=.builtin .append,args:=#[sl,y],argTypes:=#[22, 22] })
  (base:Nat) (v:Value) (k:Nat) (x:Nat->Int) (hv:a.eval sl=v) (h:Own w base 3 1 v k (fun i _=>.int .i64 (x i))) (hbase:base<=w.heap.size) (hk:k<=1048576)
  (b c:Nat) (hy:a.eval y=.slice (some ⟨b,0,none⟩) 1 c) (c0:w.cell? ⟨b,0,none⟩=some (.int .i64 (x k)))
  (hK:∀ v' w',Own w' base 3 1 v' (k+1) (fun i _=>.int .i64 (x i))->w.grownBy w' v.ownBlock->(v'.ownBlock=v.ownBlock∨v'.ownBlock=some w.heap.size)->K (a.put o.dst v') w') :
  if Region.wanted o (yielded ops a.tmps)=true then Oper.wp Tryz.prog o a w K Q else E:=by
 obtain ⟨i0,qi0,qz0,qz1,qz2⟩:=info_parts Tryz.infoInt
 exact zb0 w hgd sl y _ ho base 3 i0 _ 1 8 Tryz.underlying22 qi0 qz0 qz1 qz2 rfl (by omega) v k _ hv h ⟨b,0,none⟩ c hy (fun j hj=>by
   obtain rfl:j=0:=by omega
   exact c0) (fun _ _=>rfl) (by unfold maxLen; omega) (by omega) hbase hK
def VTab (w:World) (V:Option Addr) (m:Nat) (ln:Nat->Nat) (y:Nat->Nat->Nat):Prop :=
 ∀ i,i<m->∃ b off R rc,V=some ⟨b,off,none⟩/\b<w.heap.size/\w.cell? ⟨b,off+i,none⟩=some (.slice R (ln i) rc)/\NatTab w w.heap.size R (ln i) (y i)
theorem VTab.on {w w':World} {V:Option Addr} {m:Nat} {ln:Nat->Nat} {y:Nat->Nat->Nat} (h:VTab w V m ln y) (hb:Below w.heap.size w w'):VTab w' V m ln y:=fun i hi=>by
 obtain ⟨b,off,R,rc,e,h1,h2,h3⟩:=h i hi
 exact ⟨b,off,R,rc,e,Nat.lt_of_lt_of_le h1 hb.size,(hb.cell (p:=⟨b,_,none⟩) h1).trans h2,h3.on hb⟩
def Trel.fwdE (T:Trel) (y:Nat->Nat->Nat) (prev:Nat->Nat) (i:Nat):Nat->Nat->Nat
 | 0,_=>0
 | j+1,v=>T.fwdE y prev i j v+if (T.to i j).toNat=v then prev (T.fr i j).toNat*y i j else 0
def Trel.fwd (T:Trel) (y:Nat->Nat->Nat):Nat->Nat->Nat
 | 0,v=>if v=0 then 1 else 0
 | i+1,v=>T.fwdE y (T.fwd y i) i (T.el i) v
theorem Trel.fwdE_le {T:Trel} {y:Nat->Nat->Nat} {prev:Nat->Nat} {i M:Nat} (hp:∀ v,prev v<=M):∀ j,(∀ q,q<j->y i q<=1)->∀ v,T.fwdE y prev i j v<=j*M:=by
 intro j
 induction j with
 | zero=>intro _ v; simp [Trel.fwdE]
 | succ j ih =>
  intro hy v
  have h1:=ih (fun q hq=>hy q (by omega)) v
  have h2:prev (T.fr i j).toNat*y i j<=M*1:=Nat.mul_le_mul (hp _) (hy j (by omega))
  show _+(if _ then _ else 0)<=(j+1)*M
  rw [Nat.add_mul]
  obtain ⟨z,hz⟩:=exx (prev (T.fr i j).toNat*y i j)
  rw [<-hz] at h2 ⊢
  obtain ⟨a,ha⟩:=exx (T.fwdE y prev i j v)
  rw [<-ha] at h1 ⊢
  split <;> omega
theorem Trel.fwd_le {T:Trel} (hs:T.Shape) {y:Nat->Nat->Nat} (hy:∀ i,i<T.n->∀ j,j<T.el i->y i j<=1):∀ i,i<=T.n->∀ v,T.fwd y i v<=262144 ^ i:=by
 intro i
 induction i with
 | zero=>intro _ v; show (if v=0 then 1 else 0)<=_; split <;> simp
 | succ i ih =>
  intro hi v
  have h1:=Trel.fwdE_le (T:=T) (y:=y) (i:=i) (ih (by omega)) (T.el i) (hy i (by omega)) v
  have h2:=hs.elb (i:=i) (by omega)
  show T.fwdE y (T.fwd y i) i (T.el i) v<=_
  rw [Nat.pow_succ,Nat.mul_comm]
  exact Nat.le_trans h1 (Nat.mul_le_mul_right _ h2)
theorem zhI {x i:Nat} (hi:i<=64) (h:x<=262144 ^ i):dl x<=37:=by
 refine zje ?_
 have h1:(262144:Nat) ^ i<=262144 ^ 64:=Nat.pow_le_pow_right (by omega) hi
 have h2:(262144:Nat) ^ 64<4294967296 ^ 37:=by decide +kernel
 omega
theorem Trel.fwd_dl {T:Trel} (hs:T.Shape) {y:Nat->Nat->Nat} (hy:∀ i,i<T.n->∀ j,j<T.el i->y i j<=1) {i:Nat} (hi:i<=T.n) (v:Nat):dl (T.fwd y i v)<=37 :=
 zhI (Nat.le_trans hi hs.n64) (Trel.fwd_le hs hy i hi v)
theorem Trel.fwdE_dl {T:Trel} (hs:T.Shape) {y:Nat->Nat->Nat} (hy:∀ i,i<T.n->∀ j,j<T.el i->y i j<=1) {i j:Nat} (hi:i<T.n) (hj:j<=T.el i) (v:Nat):dl (T.fwdE y (T.fwd y i) i j v)<=37:=by
 have h1:=Trel.fwdE_le (T:=T) (y:=y) (i:=i) (Trel.fwd_le hs hy i (by omega)) j (fun q hq=>hy i hi q (by omega)) v
 have h2:=hs.elb (i:=i) hi
 have h3:j*262144 ^ i<=262144*262144 ^ i:=Nat.mul_le_mul_right _ (by omega)
 refine zhI (i:=i+1) (by have:=hs.n64; omega) ?_
 rw [Nat.pow_succ,Nat.mul_comm (262144 ^ i)]
 exact Nat.le_trans h1 h3
theorem zgx (T:Trel) (A B V:Option Addr) (c d vc:Nat) (y:Nat->Nat->Nat) (w:World) (h:T.Reads w A B) (hs:T.shapeE=0) (hv:VTab w V T.n T.el y) :
  Calls Tryz.prog 193 #[.agg #[.slice A T.nw c,.slice B T.n d],.slice V T.n vc] w fun e w'=>e=.returned (.int .i64 0)/\Below w.heap.size w w':=by
 obtain ⟨RB,i⟩:=exx ((Obj.cells #[.slice A T.nw c,.slice B T.n d] 53))
 have j:Below (w.heap.size+1) (w.alloc RB) (w.alloc RB):=Below.refl _ _
 have HS:Hid (∀ w',Below (w.heap.size+1) (w.alloc RB) w'->(w'.cell? ⟨w.heap.size,0,none⟩=some (.slice A T.nw c)/\w'.cell? ⟨w.heap.size,1,none⟩=some (.slice B T.n d))/\Below w.heap.size w w'):=fun w' hB=>by
  have p:=zaJ hB
  subst i
  exact ⟨⟨tbox hB rfl,tbox hB rfl⟩,p⟩
 obtain ⟨⟨p0,p1⟩,hW⟩:=HS.out _ j
 go_enter Tryz.func193, Tryz.ntmps193
 go_wp2_with fail
 rw [<-i]
 refine (zeL T A B c d _ (h.on hW)).mono ?_
 rintro e w1 ⟨rfl,hb⟩
 have m:=zaB j hb
 rw [hs]
 have HR:=hid h
 have HV:=hid hv
 have l:=(Trel.shape_of hs).n64
 clear hW p0 p1 hb j i h hv hs
 obtain ⟨⟨p0,p1⟩,hW⟩:=HS.out _ m
 go_wp2
 go_loopg [22] T.n (fun gg iv wx=>∃ k:Nat,iv=.int .i64 (k:Nat)/\k<=T.n/\T.n<=k+gg/\Below w1.heap.size w1 wx)
 case atStart=>exact ⟨0,rfl,by omega,by omega,Below.refl _ _⟩
 obtain ⟨k,rfl,hk,r,hb⟩:=hrel
 have s:(0:Int)<=(k:Int):=by omega
 replace p0:=cellS hb p0;replace p1:=cellS hb p1
 have g:=onS hW hb
 clear hW
 by_cases hlt:k<T.n
 ·have a:(k:Int)<(T.n:Int):=by omega
  obtain ⟨b,o,E,ec,rfl,_,x0,_,_,_,_⟩:=(HR.out.on g).sec hlt
  obtain ⟨vb,vo,R,rc,rfl,_,x1,_⟩:=(HV.out.on g) k hlt
  have q:((T.el k:Int) != (T.el k:Int))=false:=by simp
  go_wp2
  go_roundg (gk - 1)
  case measure=>omega
  case rel=>exact ⟨k+1,by go_num,by omega,by omega,hb⟩
 have a:¬ (k:Int)<(T.n:Int):=by omega
 go_wp2
 go_ret
 exact ⟨rfl,g⟩
end Go.Proofs.YtgekjfpapmlndaaGreat