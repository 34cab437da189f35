/- Merged texts of a claim: NumTab, SeesW, Trel, Shape, Less, Counting, NumRows, Valued. -/
import Derived.Test.YtgekjfpapmlndaaGreatTM1
import Derived.Test.YtgekjfpapmlndaaGreatTM3
import Derived.Test.YtgekjfpapmlndaaGreatTM6
import Derived.SizedLaws
namespace Go.Proofs.YtgekjfpapmlndaaGreat
set_option maxRecDepth 100000
set_option maxHeartbeats 32000000
open KA KB KC KE KF
open Go.RowKit
theorem zeW {w:World} {b n:Nat} {t:TypeId} {f:Nat->Value} (h:w.rowIs b t n f) (hf:∀ i,i<n->∀ u,f i≠.int .u32 u):NoInt w b:=fun j u hj=>by
 obtain ⟨cur,hg,hsz,hc⟩:=h
 rw [cell_of_row w b j cur t (0,0) hg] at hj
 have hlt:j<n:=by
  have:=(Array.getElem?_eq_some_iff.1 hj).1
  omega
 have:=hc j hlt
 rw [hj] at this
 injection this with this
 exact hf j hlt u this.symm
theorem zen {w:World} {B n b i:Nat} {A:Option Addr} {f:Nat->Nat} (h:Lims w B A n f) (hni:NoInt w b) (u:Value):Lims (w.setCell ⟨b,i,none⟩ u) B A n f:=fun k hk=>by
 obtain ⟨b',o',e,h1,h2⟩:=h k hk
 refine ⟨b',o',e,h1,fun j hj=>?_⟩
 have hc:=h2 j hj
 exact zaa hc fun e=>hni _ _ (by rw [<-show b'=b from e]; exact hc)
theorem zaJ {w:World} {b i x:Nat} {A:Option Addr} (h:NatOk w w.heap.size A x) (hni:NoInt w b) (u:Value):NatOk (w.setCell ⟨b,i,none⟩ u) (w.setCell ⟨b,i,none⟩ u).heap.size A x:=by
 have:=zen (i:=i) h hni u
 simpa [NatOk] using this
theorem za7 {w:World} {b i b':Nat} {u:Value} (h:NoInt w b) (hu:∀ n,u≠.int .u32 n):NoInt (w.setCell ⟨b',i,none⟩ u) b:=fun j n hj=>by
 by_cases e:(⟨b,j,none⟩:Addr)=⟨b',i,none⟩
 ·injection e with e1 e2
  subst e1 e2
  cases hc:w.cell? ⟨b,j,none⟩ with
  | none =>
   have:(w.setCell ⟨b,j,none⟩ u).cell? ⟨b,j,none⟩=none:=by
    revert hc
    unfold World.cell? World.setCell
    intro hc
    simp only [Option.isSome_none,Bool.false_eq_true,if_false] at hc ⊢
    split at hc
    ·rename_i c e fr hb
     have hb:w.heap[b]?=some (.cells c e fr):=hb
     have hb2:(w.heap.modify b fun
       | .cells c e fr=>.cells (c.setIfInBounds j u) e fr
       | o=>o)[b]?=some (.cells (c.setIfInBounds j u) e fr):=by
      rw [Array.getElem?_modify]; simp [hb]
     simp only [Array.getElem?_eq_none_iff] at hc
     simp [Array.getElem?_modify,hb]
     omega
    ·rename_i hne
     cases ho:w.heap[b]? with
     | none=>simp [Array.getElem?_modify,ho]
     | some o =>
      cases o with
      | cells c e fr=>exact absurd ho (hne _ _ _)
      | _=>simp [Array.getElem?_modify,ho]
   rw [this] at hj
   cases hj
  | some v =>
   rw [zci hc] at hj
   injection hj with hj
   exact hu _ hj
 ·exact h j n (by rwa [World.cell?_setCell_other w ⟨b',i,none⟩ ⟨b,j,none⟩ u (fun h=>e h.symm)] at hj)
def upd2 (x:Nat->Nat->Nat) (v k y:Nat):Nat->Nat->Nat:=fun u j=>if u=v/\j=k then y else x u j
theorem zgx (x:Nat->Nat->Nat) (v k y:Nat):upd2 x v k y v k=y:=if_pos ⟨rfl,rfl⟩
theorem zgy {x:Nat->Nat->Nat} {v k y u j:Nat} (h:¬ (u=v/\j=k)):upd2 x v k y u j=x u j:=if_neg h
structure NumTab (w:World) (g base m:Nat) (F:Nat->Value) (n:Nat->Nat) (x:Nat->Nat->Nat):Prop where
 row:w.rowIs g 64 m F
 own:∀ v,v<m->NatOwn w base (F v) (n v) (x v)
 apart:∀ v u,v<m->u<m->v≠u->(F v).ownBlock=none∨(F v).ownBlock≠(F u).ownBlock
section
variable {w w':World} {g base m:Nat} {F:Nat->Value} {n n':Nat->Nat} {x x':Nat->Nat->Nat}
theorem NatOwn.congr {v:Value} {k:Nat} {y y':Nat->Nat} (h:NatOwn w base v k y) (e:∀ i,i<k->y i=y' i):NatOwn w base v k y':=by
 obtain ⟨f,h1,h2,h3⟩:=h
 exact ⟨f,h1,h2,fun i hi=>by rw [<-e i hi]; exact h3 i hi⟩
theorem NatOwn.lt {v:Value} {k:Nat} {y:Nat->Nat} (h:NatOwn w base v k y):∀ b,v.ownBlock=some b->base<=b/\b<w.heap.size:=by
 obtain ⟨f,h1,_⟩:=h
 exact h1.lt
theorem NatOwn.isSlice {v:Value} {k:Nat} {y:Nat->Nat} (h:NatOwn w base v k y):∃ A c,v=.slice A k c:=by
 obtain ⟨f,h1,_⟩:=h
 exact h1.shape
theorem NumTab.on (h:NumTab w g base m F n x) (hb:Below w.heap.size w w'):NumTab w' g base m F n x:=⟨rowIs_on_ h.row hb,fun v hv=>(h.own v hv).on hb,h.apart⟩
where rowIs_on_ {w w':World} {b:Nat} {t:TypeId} {n:Nat} {f:Nat->Value} (h:w.rowIs b t n f) (hb:Below w.heap.size w w'):w'.rowIs b t n f:=h.of_block (hb.block b h.lt)
theorem NumTab.congr (h:NumTab w g base m F n x) (e1:∀ v,v<m->n v=n' v) (e2:∀ v,v<m->∀ k,k<n v->x v k=x' v k):NumTab w g base m F n' x' :=
 ⟨h.row,fun v hv=>by rw [<-e1 v hv]; exact (h.own v hv).congr (e2 v hv),h.apart⟩
theorem NumTab.at (h:NumTab w g base m F n x) {v k:Nat} (hv:v<m) (hk:k<n v):∃ b o d A c,F v=.slice (some ⟨b,o,none⟩) (n v) d/\base<=b/\b<w.heap.size/\w.cell? ⟨b,o+k,none⟩=some (.slice A (dl (x v k)) c) /\
  dl (x v k)<=c/\c<=maxLen/\NatOk w w.heap.size A (x v k)/\w.frozen? ⟨b,o+k,none⟩=false/\NoInt w b:=by
 obtain ⟨f,h1,h2,h3⟩:=h.own v hv
 obtain ⟨b,o,d,e,hb,hl,_,_,hc⟩:=h1.form (by omega)
 obtain ⟨A,c,e0,n1,n2,n3⟩:=h3 k hk
 have hc0:=hc k hk 0 (by omega)
 rw [Nat.mul_one,Nat.add_zero,e0] at hc0
 refine ⟨b,o,d,A,c,e,hb,hl,hc0,n2,n3,n1,?_,h2 b (by rw [e]; rfl)⟩
 rw [e] at h1
 exact h1.frozen (o+k)
theorem NumTab.set (h:NumTab w g base m F n x) (hgb:g<base) {v k b o d:Nat} (hv:v<m) (hk:k<n v) (hF:F v=.slice (some ⟨b,o,none⟩) (n v) d) {A:Option Addr} {c y:Nat} (hy:NatOk w w.heap.size A y) (h1:dl y<=c) (h2:c<=maxLen) :
  NumTab (w.setCell ⟨b,o+k,none⟩ (.slice A (dl y) c)) g base m F n (upd2 x v k y):=by
 have hob:(F v).ownBlock=some b:=by rw [hF]; rfl
 have hbb:=(h.own v hv).lt b hob
 have hni:NoInt w b:=by
  obtain ⟨f,_,k2,_⟩:=h.own v hv
  exact k2 b hob
 have hnu:∀ u:Int,(Value.slice A (dl y) c)≠.int .u32 u:=fun u e=>by cases e
 refine ⟨h.row.setOther (by simp; omega) _,fun u hu=>?_,h.apart⟩
 by_cases e:u=v
 ·subst e
  obtain ⟨f,k1,k2,k3⟩:=h.own u hu
  rw [hF] at k1 ⊢
  have ks:=k1.set (a:=k) (b:=0) hk (by omega) (.slice A (dl y) c)
  rw [Nat.mul_one,Nat.add_zero] at ks
  refine ⟨_,ks,fun q hq=>?_,fun i hi=>?_⟩
  ·obtain rfl:b=q:=by simpa [Value.ownBlock] using hq
   exact za7 hni hnu
  ·by_cases ei:i=k
   ·subst ei
    exact ⟨A,c,by rw [zgx,if_pos ⟨rfl,rfl⟩],by rw [zgx]; exact zaJ hy hni _,by rw [zgx]; exact h1,h2⟩
   ·obtain ⟨A',c',e0,n1,n2,n3⟩:=k3 i hi
    have eo:upd2 x u k y u i=x u i:=zgy fun hh=>ei hh.2
    exact ⟨A',c',by rw [eo,if_neg fun hh=>ei hh.1]; exact e0,by rw [eo]; exact zaJ n1 hni _,by rw [eo]; exact n2,n3⟩
 ·obtain ⟨f,k1,k2,k3⟩:=h.own u hu
  have hne:(F u).ownBlock≠some b:=fun hh=>by
   rcases h.apart u v hu hv e with h0 | h0
   ·rw [h0] at hh; cases hh
   ·rw [hob] at h0; exact h0 hh
  refine ⟨f,k1.setCell hne _,fun q hq=>za7 (k2 q hq) hnu,fun i hi=>?_⟩
  obtain ⟨A',c',e0,n1,n2,n3⟩:=k3 i hi
  have eo:upd2 x v k y u i=x u i:=zgy fun hh=>e hh.1
  exact ⟨A',c',by rw [eo]; exact e0,by rw [eo]; exact zaJ n1 hni _,by rw [eo]; exact n2,n3⟩
theorem zfo {row:Option Nat} {A:Option Addr} {y:Nat} (h:NatOk w w.heap.size A y) (hg:w.grownBy w' row) (hni:∀ q,row=some q->NoInt w q):NatOk w' w'.heap.size A y:=fun q hq=>by
 obtain ⟨b',o',e,h1,h2⟩:=zcZ h (Nat.le_refl _) hg hni q hq
 exact ⟨b',o',e,Nat.lt_of_lt_of_le h1 hg.size,h2⟩
theorem NumTab.put (h:NumTab w g base m F n x) (hgb:g<base) {v:Nat} (hv:v<m) {v':Value} {k':Nat} {y:Nat->Nat} (hown:NatOwn w' base v' k' y) (hg:w.grownBy w' (F v).ownBlock) (hat:v'.ownBlock=(F v).ownBlock∨v'.ownBlock=some w.heap.size) :
  NumTab (w'.setCell ⟨g,v,none⟩ v') g base m (fun u=>if u=v then v' else F u) (fun u=>if u=v then k' else n u) (fun u=>if u=v then y else x u):=by
 obtain ⟨fv,f1,f2,f3⟩:=h.own v hv
 have hlt:∀ u,u<m->∀ k,(F u).ownBlock=some k->base<=k/\k<w.heap.size:=fun u hu=>(h.own u hu).lt
 have hgw:g<w.heap.size:=h.row.lt
 have hgr:w'.rowIs g 64 m F:=h.row.of_block (hg.block g hgw (fun e=>by have:=(hlt v hv g e.symm).1; omega))
 have hnig:NoInt w' g:=zeW hgr fun i hi u e=>by
  obtain ⟨A,c,hs⟩:=(h.own i hi).isSlice
  rw [hs] at e
  cases e
 have hnr:∀ q,(F v).ownBlock=some q->NoInt w q:=f2
 have hsl:∃ A c,v'=.slice A k' c:=hown.isSlice
 have hnu:∀ u:Int,v'≠.int .u32 u:=fun u e=>by
  obtain ⟨A,c,hs⟩:=hsl
  rw [hs] at e
  cases e
 refine ⟨?_,fun u hu=>?_,fun a b ha hb hab=>?_⟩
 ·exact (hgr.set v v').congr fun u _=>by split <;> rfl
 ·by_cases e:u=v
  ·subst e
   simp only [if_true]
   obtain ⟨f',k1,k2,k3⟩:=hown
   refine ⟨f',k1.setCell (fun e=>by have:=(k1.lt _ e).1; simp at this; omega) _,fun q hq=>za7 (k2 q hq) hnu,fun i hi=>?_⟩
   obtain ⟨A,c,e0,n1,n2,n3⟩:=k3 i hi
   exact ⟨A,c,e0,zaJ n1 hnig _,n2,n3⟩
  ·simp only [if_neg e]
   obtain ⟨f',k1,k2,k3⟩:=h.own u hu
   have hk:=k1.kept hg (h.apart u v hu hv e)
   refine ⟨f',hk.setCell (fun e=>by have:=(hk.lt _ e).1; simp at this; omega) _,fun q hq=>za7 (fun j z hz=>?_) hnu,fun i hi=>?_⟩
   ·have hq2:=(k1.lt q hq).2
    have hb2:=hg.block q hq2 (fun e2=>by
     rcases h.apart u v hu hv e with h0 | h0
     ·rw [h0] at hq; cases hq
     ·exact h0 (hq.trans e2))
    refine k2 q hq j z ?_
    rw [<-hz]
    simp only [World.cell?,hb2]
   ·obtain ⟨A,c,e0,n1,n2,n3⟩:=k3 i hi
    exact ⟨A,c,e0,zaJ (zfo n1 hg hnr) hnig _,n2,n3⟩
 ·by_cases ea:a=v
  ·have eb:¬ b=v:=fun e=>hab (by rw [ea,e])
   simp only [if_pos ea,if_neg eb]
   subst ea
   rcases hat with h1 | h1
   ·rw [h1]; exact h.apart a b ha hb hab
   ·right
    rw [h1]
    intro e2
    have:=(hlt b hb _ e2.symm).2
    omega
  ·simp only [if_neg ea]
   by_cases eb:b=v
   ·simp only [if_pos eb]
    subst eb
    rcases hat with h1 | h1
    ·rw [h1]; exact h.apart a b ha hb hab
    ·rw [h1]
     cases hfa:(F a).ownBlock with
     | none=>exact .inl rfl
     | some k =>
      right
      intro e2
      injection e2 with e2
      have:=(hlt a ha k hfa).2
      omega
   ·simp only [if_neg eb]; exact h.apart a b ha hb hab
end
theorem zcR (w:World) (ty:TypeId) (base:Nat) (v:Value) (k:Nat) (x:Nat->Nat) (h:NatOwn w base v k x) (hbase:base<=w.heap.size) (hk:k<=1048576)
  (b c:Nat) (A:Option Addr) (d:Nat) (c0:w.cell? ⟨b,0,none⟩=some (.slice A (dl (x k)) d)) (m1:NatOk w w.heap.size A (x k)) (m3:dl (x k)<=d) (m4:d<=maxLen) :
  ∃ v' w',(Builtin.append_ #[64, 64] ty #[v,.slice (some ⟨b,0,none⟩) 1 c]).run Tryz.prog w=.ok v' w'/\NatOwn w' base v' (k+1) x/\w.grownBy w' v.ownBlock/\(v'.ownBlock=v.ownBlock∨v'.ownBlock=some w.heap.size):=by
 obtain ⟨v',w',hrun,h2,h3,_⟩:=zdq w ty base v k x h hbase hk b c A d (x k) rfl c0 m1 m3 m4
 refine ⟨v',w',hrun,h2,h3,?_⟩
 obtain ⟨f,hown,hni,hf⟩:=h
 obtain ⟨i,hi,hzz⟩:=Option.map_eq_some_iff.1 Tryz.infoNat
 simp only [Prod.mk.injEq] at hzz
 obtain ⟨hz,hs,hb⟩:=hzz
 let f':Nat->Nat->Value:=fun i j=>if i<k then (if j<1 then f i 0 else undef) else .slice A (dl (x k)) d
 have hown':Own w base 69 1 v k f':=hown.congr fun i hi j hj=>by
  obtain rfl:j=0:=by omega
  simp [f',hi]
 have hnews:∀ j,j<1->w.cell? ((⟨b,0,none⟩:Addr).add j)=some (f' k j):=fun j hj=>by
  obtain rfl:j=0:=by omega
  have:(⟨b,0,none⟩:Addr).add 0=⟨b,0,none⟩:=by unfold Addr.add; split <;> simp_all
  rw [this]
  simpa [f'] using c0
 have h1:∀ j,j<1->(f' k j).oneCell'=true:=fun j hj=>by simp [f']; rfl
 obtain ⟨v1,w1,e1,_,_,a1,_⟩:=zaU (P:=Tryz.prog) w base 64 ty 69 i _ 1 24 Tryz.underlying64 hi hz hs hb rfl (by omega) v k f' hown' ⟨b,0,none⟩ c hnews h1 (by unfold maxLen; omega) (by omega) hbase
 rw [hrun] at e1
 injection e1 with e1 e2
 subst e1
 exact a1
theorem zaY {ops:Array Oper} {o:Oper} {a:Act} {w:World} {K:Act->World->Prop} {Q:Exit->Act->World->Prop} {E:Prop} (hgd:o.guard=none) (sl y:Operand)
  (ho:o.op=.call { callee:=.builtin .append,args:=#[sl,y],argTypes:=#[64, 64] })
  (base:Nat) (v:Value) (k:Nat) (x:Nat->Nat) (hv:a.eval sl=v) (h:NatOwn w base v k x) (hbase:base<=w.heap.size) (hk:k<=1048576)
  (b c:Nat) (hy:a.eval y=.slice (some ⟨b,0,none⟩) 1 c) (A:Option Addr) (d:Nat) (c0:w.cell? ⟨b,0,none⟩=some (.slice A (dl (x k)) d)) (m1:NatOk w w.heap.size A (x k)) (m3:dl (x k)<=d) (m4:d<=maxLen)
  (hK:∀ v' w',NatOwn w' base v' (k+1) x->w.grownBy w' v.ownBlock->(v'.ownBlock=v.ownBlock∨v'.ownBlock=some w.heap.size)->K (a.put o.dst v') w') :
  if Region.wanted o (yielded ops a.tmps)=true then Oper.wp Tryz.prog o a w K Q else E:=by
 have hw:Region.wanted o (yielded ops a.tmps)=true:=by simp [Region.wanted,hgd]
 rw [if_pos hw]
 obtain ⟨v',w',hrun,h2,h3,h4⟩:=zcR w o.type base v k x h hbase hk b c A d c0 m1 m3 m4
 unfold Oper.wp execOp
 simp only [ho,resolve,invoke,builtin,Sem.run_bind,Sem.run_pure,Result.andThen_ok,List.map_toArray,List.map_cons,List.map_nil,hv,hy,hrun]
 exact hK v' w' h2 h3 h4
open Go.ChangeShapes Go.WideShapes Go.ChangeAt
structure Trel where
 nw:Nat
 W:Nat->Int
 n:Nat
 el:Nat->Nat
 fr:Nat->Nat->Int
 lb:Nat->Nat->Int
 «to»:Nat->Nat->Int
def Trel.edge (T:Trel) (i j k:Nat):Value:=if k=0 then .int .i64 (T.fr i j) else if k=1 then .int .i64 (T.lb i j) else .int .i64 (T.to i j)
def InI64 (x:Int):Prop := -9223372036854775808<=x/\x<=9223372036854775807
def Trel.Secs (T:Trel) (w:World) (B:Option Addr):Prop :=
 ∀ i,i<T.n->∃ b off E c,B=some ⟨b,off,none⟩/\b<w.heap.size/\w.cell? ⟨b,off+i,none⟩=some (.slice E (T.el i) c)/\T.el i<=c/\c<=maxLen/\Rd w w.heap.size E (T.el i) 3 (T.edge i) /\
  ∀ j,j<T.el i->InI64 (T.fr i j)/\InI64 (T.lb i j)/\InI64 (T.to i j)
def Trel.Reads (T:Trel) (w:World) (A B:Option Addr):Prop :=
 IntsR w w.heap.size A T.nw T.W/\(∀ i,i<T.nw->InI64 (T.W i))/\T.Secs w B/\T.nw<=140737488351232/\T.n<=140737488351232/\∀ i,i<T.n->T.el i<=140737488351232
section
variable {T:Trel} {w w':World} {A B:Option Addr}
theorem Trel.Secs.on (h:T.Secs w B) (hb:Below w.heap.size w w'):T.Secs w' B:=fun i hi=>by
 obtain ⟨b,off,E,c,e,h1,h2,h3,h4,h5,h6⟩:=h i hi
 exact ⟨b,off,E,c,e,Nat.lt_of_lt_of_le h1 hb.size,(hb.cell (p:=⟨b,_,none⟩) h1).trans h2,h3,h4,(Rd.below h5 hb (Nat.le_refl _)).mono hb.size,h6⟩
theorem Trel.Reads.on (h:T.Reads w A B) (hb:Below w.heap.size w w'):T.Reads w' A B:=⟨h.1.on hb,h.2.1,h.2.2.1.on hb,h.2.2.2⟩
theorem Trel.Reads.width (h:T.Reads w A B) {i:Nat} (hi:i<T.nw):∃ b off,A=some ⟨b,off,none⟩/\b<w.heap.size/\w.cell? ⟨b,off+i,none⟩=some (.int .i64 (T.W i))/\InI64 (T.W i):=by
 obtain ⟨b,off,e,h1,h2⟩:=h.1.at hi
 exact ⟨b,off,e,h1,h2,h.2.1 i hi⟩
theorem Trel.Reads.sec (h:T.Reads w A B) {i:Nat} (hi:i<T.n):∃ b off E c,B=some ⟨b,off,none⟩/\b<w.heap.size/\w.cell? ⟨b,off+i,none⟩=some (.slice E (T.el i) c)/\T.el i<=c/\c<=maxLen/\Rd w w.heap.size E (T.el i) 3 (T.edge i) /\
  ∀ j,j<T.el i->InI64 (T.fr i j)/\InI64 (T.lb i j)/\InI64 (T.to i j):=h.2.2.1 i hi
theorem zc1 {E:Option Addr} {i j m:Nat} (h:Rd w w.heap.size E m 3 (T.edge i)) (hj:j<m) :
  ∃ b off,E=some ⟨b,off,none⟩/\b<w.heap.size/\w.cell? ⟨b,off+j*3,none⟩=some (.int .i64 (T.fr i j))/\w.cell? ⟨b,off+j*3+1,none⟩=some (.int .i64 (T.lb i j))/\w.cell? ⟨b,off+j*3+2,none⟩=some (.int .i64 (T.to i j)):=Rd.at3 h hj
end
def Trel.sumW (T:Trel):Nat->Int
 | 0=>0
 | k+1=>T.sumW k+T.W k
def Trel.sumE (T:Trel):Nat->Nat
 | 0=>0
 | k+1=>T.sumE k+T.el k
def Trel.inside (T:Trel) (i j:Nat):Prop:=0<=T.fr i j/\T.fr i j<T.W i/\0<=T.to i j/\T.to i j<T.W (i+1)
instance (T:Trel) (i j:Nat):Decidable (T.inside i j):=by unfold Trel.inside; exact inferInstance
def Trel.shapeE (T:Trel):Int :=
 if 64<T.n∨T.nw≠T.n+1 then 3
 else if ¬ ∀ i,i<T.nw->1<=T.W i then 6
 else if 65536<T.sumW T.nw then 8
 else if 262144<T.sumE T.n then 8
 else if ¬ ∀ i,i<T.n->∀ j,j<T.el i->T.inside i j then 6
 else 0
structure Trel.Shape (T:Trel):Prop where
 n64:T.n<=64
 nw:T.nw=T.n+1
 w1:∀ i,i<=T.n->1<=T.W i
 sW:T.sumW (T.n+1)<=65536
 sE:T.sumE T.n<=262144
 ins:∀ i,i<T.n->∀ j,j<T.el i->T.inside i j
theorem Trel.shape_of {T:Trel} (h:T.shapeE=0):T.Shape:=by
 unfold Trel.shapeE at h
 by_cases h1:64<T.n∨T.nw≠T.n+1
 ·rw [if_pos h1] at h; omega
 rw [if_neg h1] at h
 by_cases h2:∀ i,i<T.nw->1<=T.W i
 ·rw [if_neg (by simpa using h2)] at h
  by_cases h3:65536<T.sumW T.nw
  ·rw [if_pos h3] at h; omega
  rw [if_neg h3] at h
  by_cases h4:262144<T.sumE T.n
  ·rw [if_pos h4] at h; omega
  rw [if_neg h4] at h
  by_cases h5:∀ i,i<T.n->∀ j,j<T.el i->T.inside i j
  ·have hnw:T.nw=T.n+1:=by omega
   exact ⟨by omega,hnw,fun i hi=>h2 i (by omega),by rw [<-hnw]; omega,by omega,h5⟩
  ·rw [if_pos h5] at h; omega
 ·rw [if_pos h2] at h; omega
theorem Trel.sumW_mono {T:Trel} {m:Nat} (h:∀ i,i<m->1<=T.W i):∀ k d,k+d<=m->T.sumW k+d<=T.sumW (k+d):=by
 intro k d
 induction d with
 | zero=>intro _; simp
 | succ d ih =>
  intro hk
  have h1:=ih (by omega)
  have h2:=h (k+d) (by omega)
  show T.sumW k+((d+1:Nat):Int)<=T.sumW (k+d)+T.W (k+d)
  omega
theorem Trel.sumE_mono {T:Trel}:∀ k d,T.sumE k<=T.sumE (k+d):=by
 intro k d
 induction d with
 | zero=>exact Nat.le_refl _
 | succ d ih=>exact Nat.le_trans ih (Nat.le_add_right _ _)
theorem Trel.Shape.wid {T:Trel} (h:T.Shape) {i:Nat} (hi:i<=T.n):1<=T.W i/\T.W i<=65536:=by
 have h1:=h.w1 i hi
 have h2:=Trel.sumW_mono (m:=T.n+1) (fun i hi=>h.w1 i (by omega)) 0 i (by omega)
 have h3:=Trel.sumW_mono (m:=T.n+1) (fun i hi=>h.w1 i (by omega)) (i+1) (T.n - i) (by omega)
 rw [show i+1+(T.n - i)=T.n+1 by omega] at h3
 have h4:=h.sW
 have h5:T.sumW (i+1)=T.sumW i+T.W i:=rfl
 simp [Trel.sumW] at h2
 omega
theorem Trel.Shape.elb {T:Trel} (h:T.Shape) {i:Nat} (hi:i<T.n):T.el i<=262144:=by
 have h3:=Trel.sumE_mono (T:=T) (i+1) (T.n - (i+1))
 rw [show i+1+(T.n - (i+1))=T.n by omega] at h3
 have h4:=h.sE
 have h5:T.sumE (i+1)=T.sumE i+T.el i:=rfl
 omega
theorem tbox {w wr:World} {cs:Array Value} {X:TypeId} (h:Below (w.heap.size+1) (w.alloc (.cells cs X)) wr) {i:Nat} {v:Value} (hi:cs[i]?=some v):wr.cell? ⟨w.heap.size,i,none⟩=some v:=by
 rw [h.cell (by simp),World.cell?_alloc_at _ _ _ _ rfl]
 exact hi
theorem zaO {w wr:World} {o:Obj} (h:Below (w.heap.size+1) (w.alloc o) wr):Below w.heap.size w wr:=((Below.refl _ _).alloc (Nat.le_refl _) _).trans (h.mono (by omega))
theorem zaS {w wr:World} {o:Obj} (h:Below (w.heap.size+1) (w.alloc o) wr):w.heap.size<wr.heap.size:=by have:=h.size; simp at this; omega
theorem zav {w wr w':World} {o:Obj} (h:Below (w.heap.size+1) (w.alloc o) wr) (hb:Below wr.heap.size wr w'):Below (w.heap.size+1) (w.alloc o) w':=h.trans (hb.mono (zaS h))
section
variable (T:Trel)
theorem Trel.shapeE_w (hs:¬ (64<T.n∨T.nw≠T.n+1)) {k:Nat} (hk:k<T.nw) (h:T.W k<1):T.shapeE=6:=by
 unfold Trel.shapeE
 rw [if_neg hs,if_pos fun h1=>by have:=h1 k hk; omega]
variable (hs:¬ (64<T.n∨T.nw≠T.n+1)) (h1:∀ i,i<T.nw->1<=T.W i)
include hs h1
theorem Trel.shapeE_big {k:Nat} (hk:k<=T.nw) (h:65536<T.sumW k):T.shapeE=8:=by
 have h2:=Trel.sumW_mono h1 k (T.nw - k) (by omega)
 rw [show k+(T.nw - k)=T.nw by omega] at h2
 unfold Trel.shapeE
 rw [if_neg hs,if_neg (by simpa using h1),if_pos (by omega)]
variable (h2:T.sumW T.nw<=65536)
include h2
theorem Trel.shapeE_bigE {k:Nat} (hk:k<=T.n) (h:262144<T.sumE k):T.shapeE=8:=by
 have h3:=Trel.sumE_mono (T:=T) k (T.n - k)
 rw [show k+(T.n - k)=T.n by omega] at h3
 unfold Trel.shapeE
 rw [if_neg hs,if_neg (by simpa using h1),if_neg (by omega),if_pos (by omega)]
variable (h3:T.sumE T.n<=262144)
include h3
theorem Trel.shapeE_in {i j:Nat} (hi:i<T.n) (hj:j<T.el i) (h:¬ T.inside i j):T.shapeE=6:=by
 unfold Trel.shapeE
 rw [if_neg hs,if_neg (by simpa using h1),if_neg (by omega),if_neg (by omega),if_pos fun h4=>h (h4 i hi j hj)]
theorem Trel.shapeE_ok (h:∀ i,i<T.n->∀ j,j<T.el i->T.inside i j):T.shapeE=0:=by
 unfold Trel.shapeE
 rw [if_neg hs,if_neg (by simpa using h1),if_neg (by omega),if_neg (by omega),if_neg fun h4=>h4 h]
end
theorem zdY (T:Trel) (A B:Option Addr) (c d:Nat) (w:World) (h:T.Reads w A B) :
  Calls Tryz.prog 161 #[.agg #[.slice A T.nw c,.slice B T.n d]] w fun e w'=>e=.returned (.int .i64 T.shapeE)/\Below w.heap.size w w':=by
 obtain ⟨RB,hRB⟩:∃ o,o=(Obj.cells #[.slice A T.nw c,.slice B T.n d] 53):=⟨_,rfl⟩
 have hB0:Below (w.heap.size+1) (w.alloc RB) (w.alloc RB):=Below.refl _ _
 have HS:Hid (∀ w',Below (w.heap.size+1) (w.alloc RB) w'->(w'.cell? ⟨w.heap.size,0,none⟩=some (.slice A T.nw c)/\w'.cell? ⟨w.heap.size,1,none⟩=some (.slice B T.n d))/\Below w.heap.size w w'):=fun w' hB=>by
  have hB':=zaO hB
  subst hRB
  exact ⟨⟨tbox hB rfl,tbox hB rfl⟩,hB'⟩
 obtain ⟨⟨p0,p1⟩,hW⟩:=HS.out _ hB0
 have hnm:=h.2.2.2
 by_cases hs:64<T.n∨T.nw≠T.n+1
 ·have hE:Hid (T.shapeE=3):=by show _=_; unfold Trel.shapeE; rw [if_pos hs]
  go_enter Tryz.func161, Tryz.ntmps161
  by_cases h64:64<T.n
  ·have h64':(T.n:Int) > 64:=by omega
   clear hs
   go_wp2_with fail
   rw [<-hRB]
   go_wp2
   go_ret
   exact ⟨zas hE.out.symm,hW⟩
  ·have h64':¬ (T.n:Int) > 64:=by omega
   have hne:((T.nw:Int) != (T.n:Int)+1)=true:=by simp; omega
   clear hs
   go_wp2_with fail
   rw [<-hRB]
   go_wp2
   go_ret
   exact ⟨zas hE.out.symm,hW⟩
 ·have h64:T.n<=64:=by omega
  have hnw:T.nw=T.n+1:=by omega
  have HS3:=hid hs
  have HNW:=hid hnw
  have h64':¬ (T.n:Int) > 64:=by omega
  have hne:((T.nw:Int) != (T.n:Int)+1)=false:=by simp; omega
  have hne2:((T.nw:Int) == (T.n:Int)+1)=true:=by simp; omega
  clear hs hnw
  go_enter Tryz.func161, Tryz.ntmps161
  go_wp2_with fail
  rw [<-hRB]
  have HR:=hid h
  clear h hRB
  go_wp2
  go_loopg [4,32] T.nw (fun gg xv iv wx=>∃ k:Nat,iv=.int .i64 (k:Nat)/\k<=T.nw/\T.nw<=k+gg/\(∀ i,i<k->1<=T.W i)/\Below (w.heap.size+1) (w.alloc RB) wx)
  case atStart=>exact ⟨0,rfl,by omega,by omega,fun i hi=>absurd hi (by omega),hB0⟩
  case round =>
   obtain ⟨k,rfl,hk,hkg,hall,hB⟩:=hrel
   have hk0:(0:Int)<=(k:Int):=by omega
   have HB:=hid hB
   have hwz:=zaS hB
   clear hW p0 p1 hB
   obtain ⟨⟨p0,p1⟩,hW⟩:=HS.out _ HB.out
   have HALL:=hid hall
   clear hall
   by_cases hlt:k<T.nw
   ·have hlt':(k:Int)<(T.nw:Int):=by omega
    obtain ⟨b,o,rfl,hb,x0,hx1,hx2⟩:=(HR.out.on hW).width hlt
    by_cases h1:T.W k<1
    ·have hE:=hid (T.shapeE_w HS3.out hlt h1)
     go_wp2
     go_ret
     exact ⟨zas hE.out.symm,hW⟩
    ·have HA:Hid (∀ i,i<k+1->1<=T.W i):=fun i hi=>by
      by_cases e:i=k
      ·subst e; omega
      ·exact HALL.out i (by omega)
     go_wp2
     go_roundg (gk - 1)
     case measure=>omega
     case rel=>exact ⟨k+1,by go_num,by omega,by omega,HA.out,HB.out⟩
   ·have hlt':¬ (k:Int)<(T.nw:Int):=by omega
    have HA:Hid (∀ i,i<T.nw->1<=T.W i):=fun i hi=>HALL.out i (by omega)
    have hken:(k:Int)=(T.nw:Int):=by omega
    go_wp2
    go_loopg [5,8,42] T.nw (fun gg sv xv iv wx=>∃ k:Nat,iv=.int .i64 (k:Nat)/\k<=T.nw/\T.nw<=k+gg/\sv=.int .i64 (T.sumW k)/\T.sumW k<=65536/\Below (w.heap.size+1) (w.alloc RB) wx)
    case atStart=>exact ⟨0,rfl,by omega,by omega,rfl,by simp [Trel.sumW],HB.out⟩
    case round =>
     clear hW p0 p1 hlt hlt' hken hwz HB HALL hk hk0 hkg
     obtain ⟨k2,rfl,hk,hkg,rfl,hs1,hB⟩:=hrel
     have hk0:(0:Int)<=(k2:Int):=by omega
     have HB:=hid hB
     have hwz:=zaS hB
     clear hB
     obtain ⟨⟨p0,p1⟩,hW⟩:=HS.out _ HB.out
     have hs0:=Trel.sumW_mono (m:=T.nw) HA.out 0 k2 (by omega)
     simp only [Trel.sumW,Nat.zero_add] at hs0
     have hnx:Hid (T.sumW (k2+1)=T.sumW k2+T.W k2):=rfl
     obtain ⟨sm,hsm⟩:∃ s,s=T.sumW k2:=⟨_,rfl⟩
     rw [<-hsm] at hs0 hs1 hnx;rw [<-hsm];clear hsm
     by_cases hlt:k2<T.nw
     ·have hlt':(k2:Int)<(T.nw:Int):=by omega
      obtain ⟨b,o,rfl,hb,x0,hx1,hx2⟩:=(HR.out.on hW).width hlt
      by_cases h1:T.W k2 > 65536 - sm
      ·have hE:=hid (T.shapeE_big HS3.out HA.out (k:=k2+1) (by omega) (by rw [hnx.out]; omega))
       go_wp2
       go_ret
       exact ⟨zas hE.out.symm,hW⟩
      ·go_wp2
       go_roundg (gk - 1)
       case measure=>omega
       case rel=>exact ⟨k2+1,by go_num,by omega,by omega,by rw [hnx.out],by rw [hnx.out]; omega,HB.out⟩
     ·have hlt':¬ (k2:Int)<(T.nw:Int):=by omega
      have hken:k2=T.nw:=by omega
      have HSW:Hid (T.sumW T.nw<=65536):=by
       show _<=_
       rw [<-hken]
       have:=hnx.out
       have e:T.sumW (k2+1)=T.sumW k2+T.W k2:=rfl
       omega
      clear hken
      go_wp2
      go_loopg [6,10,57] T.n (fun gg sv xv iv wx=>∃ k:Nat,iv=.int .i64 (k:Nat)/\k<=T.n/\T.n<=k+gg/\sv=.int .i64 (T.sumE k:Nat)/\T.sumE k<=262144/\Below (w.heap.size+1) (w.alloc RB) wx)
      case atStart=>exact ⟨0,rfl,by omega,by omega,rfl,by simp [Trel.sumE],HB.out⟩
      case round =>
       clear hW p0 p1 hlt hlt' hwz HB hk hk0 hkg hs0 hs1 hnx
       obtain ⟨k3,rfl,hk,hkg,rfl,hs1,hB⟩:=hrel
       have hk0:(0:Int)<=(k3:Int):=by omega
       have HB:=hid hB
       have hwz:=zaS hB
       clear hB
       obtain ⟨⟨p0,p1⟩,hW⟩:=HS.out _ HB.out
       have hnx:Hid (T.sumE (k3+1)=T.sumE k3+T.el k3):=rfl
       obtain ⟨sm,hsm⟩:∃ s,s=T.sumE k3:=⟨_,rfl⟩
       have HSM:=hid hsm
       rw [<-hsm] at hs1 hnx;rw [<-hsm];clear hsm
       by_cases hlt:k3<T.n
       ·have hlt':(k3:Int)<(T.n:Int):=by omega
        obtain ⟨b,o,E,ec,rfl,hb,x0,he1,he2,he3,he4⟩:=(HR.out.on hW).sec hlt
        unfold maxLen at he2
        have hel47:=HR.out.2.2.2.2.2 k3 hlt
        obtain ⟨el,hel⟩:∃ l,l=T.el k3:=⟨_,rfl⟩
        rw [<-hel] at x0 he1 hnx hel47;clear he3 he4 hel
        by_cases h1:sm+el > 262144
        ·have hE:=hid (T.shapeE_bigE HS3.out HA.out HSW.out (k:=k3+1) (by omega) (by rw [hnx.out]; omega))
         have h1':(sm:Int)+(el:Int) > 262144:=by omega
         go_wp2
         go_ret
         exact ⟨zas hE.out.symm,hW⟩
        ·have h1':¬ (sm:Int)+(el:Int) > 262144:=by omega
         go_wp2
         go_roundg (gk - 1)
         case measure=>omega
         case rel=>exact ⟨k3+1,by go_num,by omega,by omega,by rw [hnx.out]; go_num,by rw [hnx.out]; omega,HB.out⟩
       ·have hlt':¬ (k3:Int)<(T.n:Int):=by omega
        have hken:k3=T.n:=by omega
        have HSE:Hid (T.sumE T.n<=262144):=by
         show _<=_
         rw [<-hken,<-HSM.out]
         exact hs1
        clear hken
        go_wp2
        go_loopg [11,12,71] T.n (fun gg xv yv iv wx=>∃ k:Nat,iv=.int .i64 (k:Nat)/\k<=T.n/\T.n<=k+gg/\(∀ i,i<k->∀ j,j<T.el i->T.inside i j)/\Below (w.heap.size+1) (w.alloc RB) wx)
        case atStart=>exact ⟨0,rfl,by omega,by omega,fun i hi=>absurd hi (by omega),HB.out⟩
        case round =>
         clear hW p0 p1 hlt hlt' hwz HB hk hk0 hkg hs1 hnx HSM
         obtain ⟨gK,hgK⟩:∃ g,g=gk:=⟨_,rfl⟩
         subst hgK
         obtain ⟨k4,rfl,hk,hkg,hall,hB⟩:=hrel
         have hk0:(0:Int)<=(k4:Int):=by omega
         have HB:=hid hB
         have hwz:=zaS hB
         clear hB
         obtain ⟨⟨p0,p1⟩,hW⟩:=HS.out _ HB.out
         have HALL:=hid hall
         clear hall
         by_cases hlt:k4<T.n
         ·have hlt':(k4:Int)<(T.n:Int):=by omega
          obtain ⟨b,o,E,ec,rfl,hb,x0,he1,he2,he3,he4⟩:=(HR.out.on hW).sec hlt
          unfold maxLen at he2
          have HX0:=hid x0
          go_wp2
          go_loopg [78] (T.el k4) (fun gg jv wx=>∃ j:Nat,jv=.int .i64 (j:Nat)/\j<=T.el k4/\T.el k4<=j+gg/\(∀ i,i<j->T.inside k4 i)/\Below (w.heap.size+1) (w.alloc RB) wx/\Below wr.heap.size wr wx)
          case atStart=>exact ⟨0,rfl,by omega,by omega,fun i hi=>absurd hi (by omega),HB.out,Below.refl _ _⟩
          case round =>
           clear hW p0 p1 hwz x0
           obtain ⟨j,rfl,hj,hjg,hall,hB,hBr⟩:=hrel
           have hj0:(0:Int)<=(j:Int):=by omega
           have x0:=cellS hBr HX0.out
           have HBr:=hid hBr
           have HB2:=hid hB
           have hwz:=zaS hB
           clear hB hBr
           obtain ⟨⟨p0,p1⟩,hW⟩:=HS.out _ HB2.out
           have HALL2:=hid hall
           clear hall
           by_cases hltj:j<T.el k4
           ·have hltj':(j:Int)<(T.el k4:Int):=by omega
            obtain ⟨eb,eo,rfl,heb,e0,e1,e2⟩:=zc1 ((Rd.below he3 HBr.out (Nat.le_refl _)).mono HBr.out.size) hltj
            obtain ⟨wb,wo,hA,hwb,y0,hy1,hy2⟩:=(HR.out.on hW).width (i:=k4) (by have:=HNW.out; omega)
            obtain ⟨_,_,hA2,_,y1,hy3,hy4⟩:=(HR.out.on hW).width (i:=k4+1) (by have:=HNW.out; omega)
            rw [hA] at hA2
            injection hA2 with hA2; injection hA2 with hA2 hA3; subst hA2 hA3
            subst hA
            have hk1:k4+1<T.nw:=by have:=HNW.out; omega
            have hk1':(k4:Int)+1<(T.nw:Int):=by omega
            have hk2':(k4:Int)<(T.nw:Int):=by omega
            obtain ⟨⟨i1,i2⟩,_,⟨i3,i4⟩⟩:=he4 j hltj
            have HIN:Hid (T.inside k4 j↔0<=T.fr k4 j/\T.fr k4 j<T.W k4/\0<=T.to k4 j/\T.to k4 j<T.W (k4+1)):=Iff.rfl
            have HBAD:Hid (¬ T.inside k4 j->T.shapeE=6):=fun hb=>T.shapeE_in HS3.out HA.out HSW.out HSE.out hlt hltj hb
            obtain ⟨fr,hfr⟩:∃ x,x=T.fr k4 j:=⟨_,rfl⟩
            obtain ⟨tq,hto⟩:∃ x,x=T.to k4 j:=⟨_,rfl⟩
            obtain ⟨lb,hlb⟩:∃ x,x=T.lb k4 j:=⟨_,rfl⟩
            obtain ⟨u,hu⟩:∃ x,x=T.W k4:=⟨_,rfl⟩
            obtain ⟨v,hv⟩:∃ x,x=T.W (k4+1):=⟨_,rfl⟩
            rw [<-hfr] at e0 HIN i1 i2;rw [<-hlb] at e1;rw [<-hto] at e2 HIN i3 i4;rw [<-hu] at y0 HIN hy1 hy2;rw [<-hv] at y1 HIN hy3 hy4;clear hfr hto hlb hu hv he3 he4
            by_cases h1:fr<0
            ·clear HALL2
             have b1:decide (fr<0)=true:=by simp; omega
             go_wp2
             go_quiet (fail)
             go_wp2
             go_ret
             exact ⟨zas (HBAD.out fun hi=>by have:=HIN.out.1 hi; omega).symm,zae (hW.alloc (by omega) _) _⟩
            have b1:decide (fr<0)=false:=by simp; omega
            by_cases h2:fr ≥ u
            ·clear HALL2
             have b2:decide (fr ≥ u)=true:=by simp; omega
             have b3:decide (u<=fr)=true:=by simp; omega
             go_wp2
             go_quiet (fail)
             go_wp2
             go_ret
             exact ⟨zas (HBAD.out fun hi=>by have:=HIN.out.1 hi; omega).symm,zae (hW.alloc (by omega) _) _⟩
            have b2:decide (fr ≥ u)=false:=by simp; omega
            have b3:decide (u<=fr)=false:=by simp; omega
            by_cases h3:tq<0
            ·clear HALL2
             have b4:decide (tq<0)=true:=by simp; omega
             go_wp2
             go_quiet (fail)
             go_wp2
             go_ret
             exact ⟨zas (HBAD.out fun hi=>by have:=HIN.out.1 hi; omega).symm,zae (hW.alloc (by omega) _) _⟩
            have b4:decide (tq<0)=false:=by simp; omega
            by_cases h4:tq ≥ v
            ·clear HALL2
             have b5:decide (tq ≥ v)=true:=by simp; omega
             have b6:decide (v<=tq)=true:=by simp; omega
             go_wp2
             go_quiet (fail)
             go_wp2
             go_ret
             exact ⟨zas (HBAD.out fun hi=>by have:=HIN.out.1 hi; omega).symm,zae (hW.alloc (by omega) _) _⟩
            have b5:decide (tq ≥ v)=false:=by simp; omega
            have b6:decide (v<=tq)=false:=by simp; omega
            have HN:Hid (∀ i,i<j+1->T.inside k4 i):=fun i hi=>by
             by_cases e:i=j
             ·subst e; exact HIN.out.2 (by omega)
             ·exact HALL2.out i (by omega)
            go_wp2
            go_quiet (fail)
            go_wp2
            go_roundg (gk - 1)
            case measure=>omega
            case rel=>exact ⟨j+1,by go_num,by omega,by omega,HN.out,zae (HB2.out.alloc (by omega) _) _,zae (HBr.out.alloc HBr.out.size _) _⟩
           ·have hltj':¬ (j:Int)<(T.el k4:Int):=by omega
            have HN:Hid (∀ i,i<k4+1->∀ j,j<T.el i->T.inside i j):=fun i hi=>by
             by_cases e:i=k4
             ·subst e; exact fun q hq=>HALL2.out q (by omega)
             ·exact HALL.out i (by omega)
            clear he3 he4
            go_wp2
            go_roundg (gK - 1)
            case measure=>omega
            case rel=>exact ⟨k4+1,by go_num,by omega,by omega,HN.out,HB2.out⟩
         ·have hlt':¬ (k4:Int)<(T.n:Int):=by omega
          have hE:=hid (T.shapeE_ok HS3.out HA.out HSW.out HSE.out fun i hi=>HALL.out i (by omega))
          go_wp2
          go_ret
          exact ⟨zas hE.out.symm,hW⟩
def cmpI (a b:Int):Int:=if a<b then -1 else if b<a then 1 else 0
theorem zhZ (a b:Int) (w:World):Calls Tryz.prog 157 #[.int .i64 a,.int .i64 b] w fun e w'=>e=.returned (.int .i64 (cmpI a b))/\Below w.heap.size w w':=by
 have hne:(a != a)=false:=by simp
 have hne2:(b != b)=false:=by simp
 by_cases h1:a<b
 ·have hE:Hid (cmpI a b = -1):=if_pos h1
  go_enter Tryz.func157, Tryz.ntmps157
  go_wp2
  go_ret
  exact ⟨zas hE.out.symm,Below.refl _ _⟩
 ·by_cases h2:b<a
  ·have hE:Hid (cmpI a b=1):=by show _=_; unfold cmpI; rw [if_neg h1,if_pos h2]
   have h2':a > b:=h2
   go_enter Tryz.func157, Tryz.ntmps157
   go_wp2
   go_ret
   exact ⟨zas hE.out.symm,Below.refl _ _⟩
  ·have hE:Hid (cmpI a b=0):=by show _=_; unfold cmpI; rw [if_neg h1,if_neg h2]
   have h2':¬ a > b:=h2
   go_enter Tryz.func157, Tryz.ntmps157
   go_wp2
   go_ret
   exact ⟨zas hE.out.symm,Below.refl _ _⟩
def orV (x y:Int):Int:=if x=0 then y else x
theorem zhu (A:Option Addr) (c:Nat) (f:Nat->Int) (w:World) (h:IntsR w w.heap.size A 2 f) :
  Calls Tryz.prog 203 #[.slice A 2 c] w fun e w'=>e=.returned (.int .i64 (orV (f 0) (f 1)))/\Below w.heap.size w w':=by
 obtain ⟨b,o,rfl,hb,x0⟩:=h.at (i:=0) (by omega)
 obtain ⟨_,_,e1,_,x1⟩:=h.at (i:=1) (by omega)
 injection e1 with e1; injection e1 with e1 e2; subst e1 e2
 obtain ⟨x,hx⟩:∃ x,x=f 0:=⟨_,rfl⟩
 obtain ⟨y,hy⟩:∃ x,x=f 1:=⟨_,rfl⟩
 rw [<-hx] at x0 ⊢;rw [<-hy] at x1 ⊢;clear hx hy h
 go_enter Tryz.func203, Tryz.ntmps203
 go_wp2
 go_loopg [5,8] 2 (fun gg ev iv wx=>∃ k:Nat,iv=.int .i64 (k:Nat)/\k<=2/\2<=k+gg/\(1<=k->x=0)/\(2<=k->y=0)/\Below w.heap.size w wx)
 case atStart=>exact ⟨0,rfl,by omega,by omega,fun h=>absurd h (by omega),fun h=>absurd h (by omega),Below.refl _ _⟩
 case round =>
  obtain ⟨k,rfl,hk,hkg,h1,h2,hB⟩:=hrel
  replace x0:=cellS hB x0;replace x1:=cellS hB x1
  have H1:=hid h1
  have H2:=hid h2
  clear h1 h2
  by_cases hk2:k=2
  ·have hlt:¬ (k:Int)<2:=by omega
   have hE:Hid (orV x y=0):=by
    show _=_
    unfold orV
    rw [if_pos (H1.out (by omega)),H2.out (by omega)]
   clear hk2
   go_wp2
   go_ret
   exact ⟨zas hE.out.symm,hB⟩
  ·have hlt:(k:Int)<2:=by omega
   have hk0:(0:Int)<=(k:Int):=by omega
   by_cases hk1:k=0
   ·have xk:wr.cell? ⟨b,o+k,none⟩=some (.int .i64 x):=by rw [hk1]; exact x0
    by_cases hx:x=0
    ·have hxb:(x != 0)=false:=by simp [hx]
     have hxb2:(x == 0)=true:=by simp [hx]
     have HX:=hid hx
     have HK:=hid hk1
     clear hx x0 x1 hk1 hk2
     go_wp2
     go_roundg (gk - 1)
     case measure=>omega
     case rel=>exact ⟨k+1,by go_num,by omega,by omega,fun _=>HX.out,fun h=>absurd h (by have:=HK.out; omega),hB⟩
    ·have hxb:(x != 0)=true:=by simp [hx]
     have hxb2:(x == 0)=false:=by simp [hx]
     have hE:Hid (orV x y=x):=if_neg hx
     clear hx x0 x1 hk1 hk2
     go_wp2
     go_ret
     exact ⟨zas hE.out.symm,hB⟩
   ·have xk:wr.cell? ⟨b,o+k,none⟩=some (.int .i64 y):=by rw [show k=1 by omega]; exact x1
    have hx:x=0:=H1.out (by omega)
    by_cases hy:y=0
    ·have hxb:(y != 0)=false:=by simp [hy]
     have hxb2:(y == 0)=true:=by simp [hy]
     have HX:=hid hx
     have HY:=hid hy
     clear hx hy x0 x1 hk1 hk2
     go_wp2
     go_roundg (gk - 1)
     case measure=>omega
     case rel=>exact ⟨k+1,by go_num,by omega,by omega,fun _=>HX.out,fun _=>HY.out,hB⟩
    ·have hxb:(y != 0)=true:=by simp [hy]
     have hxb2:(y == 0)=false:=by simp [hy]
     have hE:Hid (orV x y=y):=if_pos hx
     clear hx hy x0 x1 hk1 hk2
     go_wp2
     go_ret
     exact ⟨zas hE.out.symm,hB⟩
def lessV (f l f' l':Int):Int:=orV (cmpI f f') (cmpI l l')
theorem zbR {f l f' l':Int}:lessV f l f' l'<0↔f<f'∨f=f'/\l<l':=by
 unfold lessV orV cmpI
 split <;> split <;> (try split) <;> (try split) <;> omega
theorem ziw (f l t f' l' t':Int) (w:World) :
  Calls Tryz.prog 151 #[.agg #[.int .i64 f,.int .i64 l,.int .i64 t],.agg #[.int .i64 f',.int .i64 l',.int .i64 t']] w fun e w'=>e=.returned (.int .i64 (lessV f l f' l'))/\Below w.heap.size w w':=by
 go_enter Tryz.func151, Tryz.ntmps151
 go_upto_region 1 with fail
 obtain ⟨B1,hB1⟩:∃ o,o=(Obj.cells #[.int .i64 f,.int .i64 l,.int .i64 t] 90):=⟨_,rfl⟩
 obtain ⟨B2,hB2⟩:∃ o,o=(Obj.cells #[.int .i64 f',.int .i64 l',.int .i64 t'] 90):=⟨_,rfl⟩
 rw [<-hB1,<-hB2]
 have hb1:Below (w.heap.size+1) (w.alloc B1) ((w.alloc B1).alloc B2):=(Below.refl _ _).alloc (by simp) _
 have hW:=zaO hb1
 have p0:((w.alloc B1).alloc B2).cell? ⟨w.heap.size,0,none⟩=some (.int .i64 f):=by subst hB1; exact tbox hb1 rfl
 have p1:((w.alloc B1).alloc B2).cell? ⟨w.heap.size,1,none⟩=some (.int .i64 l):=by subst hB1; exact tbox hb1 rfl
 have p2:((w.alloc B1).alloc B2).cell? ⟨w.heap.size+1,0,none⟩=some (.int .i64 f'):=by subst hB2; simp
 have p3:((w.alloc B1).alloc B2).cell? ⟨w.heap.size+1,1,none⟩=some (.int .i64 l'):=by subst hB2; simp
 obtain ⟨w1,hw1⟩:∃ W,W=(w.alloc B1).alloc B2:=⟨_,rfl⟩
 rw [<-hw1] at hW p0 p1 p2 p3 ⊢;clear hb1 hw1 hB1 hB2
 refine wp_region_held_drew (S:=fun w'=>w'.cell? ⟨w.heap.size,0,none⟩=some (.int .i64 f)/\w'.cell? ⟨w.heap.size,1,none⟩=some (.int .i64 l)/\w'.cell? ⟨w.heap.size+1,0,none⟩=some (.int .i64 f')/\w'.cell? ⟨w.heap.size+1,1,none⟩=some (.int .i64 l')) (by kernel_rfl) ⟨cellS (Below.refl _ _).drew p0,cellS (Below.refl _ _).drew p1,cellS (Below.refl _ _).drew p2,cellS (Below.refl _ _).drew p3⟩ (fun hHeld=>?_)
 obtain ⟨w2,hw⟩:∃ W,W=World.drew w1:=⟨_,rfl⟩
 have kb:Below w1.heap.size w1 w2:=by rw [hw]; exact (Below.refl _ _).drew
 rw [<-hw] at hHeld ⊢;clear hw;replace hW:=onS hW kb;replace p0:=cellS kb p0;replace p1:=cellS kb p1;replace p2:=cellS kb p2;replace p3:=cellS kb p3;clear kb
 refine tkq 0 (h:=tkq 1 (h:=tkq 2 (h:=tkq 3 (h:=tkq 5 (h:=tkq 6 (h:=tkq 7 (h:=tkq 8 (h:=?_))))))))
 refine rdq 4 (h:=fun K hK=>?_)
 go_simp
 go_wp2_with fail
 refine (zhZ f f' w2).mono ?_
 rintro e w3 ⟨rfl,kb⟩
 replace hW:=onS hW kb;replace p0:=cellS kb p0;replace p1:=cellS kb p1;replace p2:=cellS kb p2;replace p3:=cellS kb p3;clear kb
 refine bkq hK ⟨p0,p1,p2,p3⟩ (h:=fun hHeld=>?_)
 clear hK K
 refine rdq 9 (h:=fun K hK=>?_)
 go_simp
 go_wp2_with fail
 refine (zhZ l l' w3).mono ?_
 rintro e w4 ⟨rfl,kb⟩
 replace hW:=onS hW kb;replace p0:=cellS kb p0;replace p1:=cellS kb p1;replace p2:=cellS kb p2;replace p3:=cellS kb p3;clear kb
 refine bkq hK ⟨p0,p1,p2,p3⟩ (h:=fun hHeld=>?_)
 clear hK K
 refine rdq 10 (h:=fun K hK=>?_)
 go_simp
 obtain ⟨w5,hw⟩:∃ W,W=World.alloc w4 (Obj.cells #[.int .i64 (cmpI f f'),.int .i64 (cmpI l l')] 3):=⟨_,rfl⟩
 have kb:Below w4.heap.size w4 w5:=by rw [hw]; exact (Below.refl _ _).alloc (Nat.le_refl _) _
 have hi:IntsR w5 w5.heap.size (some ⟨w4.heap.size,0,none⟩) 2 (fun i=>if i=0 then cmpI f f' else cmpI l l'):=by
  rw [hw]
  intro i hi
  refine ⟨_,0,rfl,by simp,fun j hj=>?_⟩
  obtain rfl:j=0:=by omega
  match i,hi with
  | 0,_=>simp
  | 1,_=>simp
 rw [<-hw];clear hw
 obtain ⟨nb,hnb⟩:∃ b,b=w4.heap.size:=⟨_,rfl⟩
 rw [<-hnb] at hi ⊢;clear hnb;replace hW:=onS hW kb;replace p0:=cellS kb p0;replace p1:=cellS kb p1;replace p2:=cellS kb p2;replace p3:=cellS kb p3;clear kb
 refine bkq hK ⟨p0,p1,p2,p3⟩ (h:=fun hHeld=>?_)
 clear hK K
 refine rdq 11 (h:=fun K hK=>?_)
 go_simp
 go_wp2_with fail
 refine ((show Calls _ _ _ _ (fun e w'=>e=.returned (.int .i64 (lessV f l f' l'))/\Below w5.heap.size w5 w') from zhu (some ⟨nb,0,none⟩) 2 _ w5 hi)).mono ?_
 rintro e w6 ⟨rfl,kb⟩
 replace hW:=onS hW kb;replace p0:=cellS kb p0;replace p1:=cellS kb p1;replace p2:=cellS kb p2;replace p3:=cellS kb p3;replace hi:=hi.on kb;clear kb
 refine bkq hK ⟨p0,p1,p2,p3⟩ (h:=fun hHeld=>?_)
 clear hK K
 refine tkq 12 (h:=?_)
 refine wpAnyH_done (by kernel_rfl) ?_ _
 clear hHeld
 go_wp2_with fail
 go_ret
 exact ⟨rfl,hW⟩
theorem zcK (A:Option Addr) (n c:Nat) (f:Nat->Bool) (v:Bool) (w:World) (h:Rd w w.heap.size A n 1 (fun i _=>.bool (f i))) (hn:n<=1048576) :
  Calls Tryz.prog 162 #[.slice A n c,.bool v] w fun e w'=>(∃ r:Bool,e=.returned (.bool r)/\(r=true↔∃ i,i<n/\f i=v))/\Below w.heap.size w w':=by
 have key : Calls Tryz.prog 212 #[.slice A n c, .bool v] w fun e w' => (∃ r : Int, e = .returned (.int .i64 r) ∧ (0 ≤ r ↔ ∃ i, i < n ∧ f i = v)) ∧ Below w.heap.size w w' := by
  go_enter Tryz.func212, Tryz.ntmps212
  go_wp2
  go_loopg [5,8] n (fun gg ev iv wx=>∃ k:Nat,iv=.int .i64 (k:Nat)/\k<=n/\n<=k+gg/\(∀ i,i<k->f i≠v)/\Below w.heap.size w wx)
  case atStart=>exact ⟨0,rfl,by omega,by omega,fun i hi=>absurd hi (by omega),Below.refl _ _⟩
  case round =>
   obtain ⟨k,rfl,hk,hkg,hall,hB⟩:=hrel
   have hk0:(0:Int)<=(k:Int):=by omega
   have HALL:=hid hall
   clear hall
   by_cases hlt:k<n
   ·have hlt':(k:Int)<(n:Int):=by omega
    obtain ⟨b,o,rfl,hb,x0⟩:=Rd.at1 ((Rd.below h hB (Nat.le_refl _)).mono hB.size) hlt
    obtain ⟨y,hy⟩:∃ y,y=f k:=⟨_,rfl⟩
    rw [<-hy] at x0
    have HY:=hid hy
    clear hy
    by_cases he:v=y
    ·have heb:(v == y)=true:=by simp [he]
     have hex:Hid (∃ i,i<n/\f i=v):=⟨k,hlt,by rw [he,HY.out]⟩
     clear he
     go_wp2
     go_ret
     exact ⟨⟨_,rfl,fun _=>hex.out,fun _=>hk0⟩,hB⟩
    ·have heb:(v == y)=false:=by simp [he]
     have hne:Hid (∀ i,i<k+1->f i≠v):=fun i hi=>by
      by_cases e:i=k
      ·subst e; rw [<-HY.out]; exact fun h=>he h.symm
      ·exact HALL.out i (by omega)
     clear he
     go_wp2
     go_roundg (gk - 1)
     case measure=>omega
     case rel=>exact ⟨k+1,by go_num,by omega,by omega,hne.out,hB⟩
   ·have hlt':¬ (k:Int)<(n:Int):=by omega
    have hno:Hid (¬ ∃ i,i<n/\f i=v):=fun ⟨i,hi,e⟩=>HALL.out i (by omega) e
    go_wp2
    go_ret
    exact ⟨⟨_,rfl,fun h=>absurd h (by omega),fun h=>absurd h hno.out⟩,hB⟩
 go_enter Tryz.func162, Tryz.ntmps162
 go_wp2_with fail
 refine key.mono ?_
 rintro e w1 ⟨⟨r,rfl,hr⟩,hB⟩
 have HR:=hid hr
 clear hr
 by_cases h0:0<=r
 ·have h0':decide (r ≥ 0)=true:=by simpa using h0
  have hE:=hid (HR.out.1 h0)
  go_wp2
  go_ret
  exact ⟨⟨_,rfl,by simpa using hE.out⟩,hB⟩
 ·have h0':decide (r ≥ 0)=false:=by simp; omega
  have hE:Hid (¬ ∃ i,i<n/\f i=v):=fun h=>h0 (HR.out.2 h)
  go_wp2
  go_ret
  refine ⟨⟨_,rfl,?_⟩,hB⟩
  simp only [Bool.false_eq_true,false_iff]
  exact hE.out
theorem zix (w:World):Calls Tryz.prog 297 #[.agg #[]] w (NatPost 1 w):=by
 go_enter Tryz.func297, Tryz.ntmps297
 go_wp2_with fail
 refine (zdg 1 _ (by omega)).mono ?_
 rintro e w1 ⟨A,c,rfl,h1,h2,h3,h4⟩
 have hB:=onS ((Below.refl _ _).alloc (Nat.le_refl _) _) h4
 clear h4
 go_wp2
 go_ret
 exact ⟨A,c,rfl,h1,h2,h3,hB⟩
theorem zeX (w:World):Calls Tryz.prog 298 #[.agg #[]] w (NatPost 0 w):=by
 go_enter Tryz.func298, Tryz.ntmps298
 go_wp2_with fail
 refine (zdg 0 _ (by omega)).mono ?_
 rintro e w1 ⟨A,c,rfl,h1,h2,h3,h4⟩
 have hB:=onS ((Below.refl _ _).alloc (Nat.le_refl _) _) h4
 clear h4
 go_wp2
 go_ret
 exact ⟨A,c,rfl,h1,h2,h3,hB⟩
theorem zdZ {w:World} {A A2:Option Addr} {c c2 x y:Nat} {T:TypeId} (h:NatOk w w.heap.size A x) (h2:NatOk w w.heap.size A2 y) (hc:dl x<=c) (hm:c<=maxLen) (hc2:dl y<=c2) (hm2:c2<=maxLen) :
  NatTab (w.alloc (Obj.cells #[Value.slice A (dl x) c,Value.slice A2 (dl y) c2] T)) (w.alloc (Obj.cells #[Value.slice A (dl x) c,Value.slice A2 (dl y) c2] T)).heap.size (some ⟨w.heap.size,0,none⟩) 2 (fun i=>if i=0 then x else y):=fun i hi=>by
 have hb:Below w.heap.size w (w.alloc (Obj.cells #[Value.slice A (dl x) c,Value.slice A2 (dl y) c2] T)):=(Below.refl _ _).alloc (Nat.le_refl _) _
 match i,hi with
 | 0,_=>exact ⟨w.heap.size,0,A,c,rfl,by simp,by simp,hc,hm,h.on hb⟩
 | 1,_=>exact ⟨w.heap.size,0,A2,c2,rfl,by simp,by simp,hc2,hm2,h2.on hb⟩
theorem zgz (A A2:Option Addr) (c c2 x y:Nat) (w:World) (h:NatOk w w.heap.size A x) (h2:NatOk w w.heap.size A2 y) (hc:dl x<=c) (hm:c<=maxLen) (hc2:dl y<=c2) (hm2:c2<=maxLen) (hs:dl x<=1048576) (hs2:dl y<=1048576) (hs3:dl (x+y)<=1048577) :
  Calls Tryz.prog 295 #[.agg #[],.slice A (dl x) c,.slice A2 (dl y) c2] w (NatPost (x+y) w):=by
 have hb1:Below w.heap.size w (w.alloc (Obj.cells #[] 175)):=(Below.refl _ _).alloc (Nat.le_refl _) _
 have hT:=zdZ (T := 69) (h.on hb1) (h2.on hb1) hc hm hc2 hm2
 have hb2:=onS hb1 ((Below.refl _ _).alloc (Nat.le_refl _) (Obj.cells #[Value.slice A (dl x) c,Value.slice A2 (dl y) c2] 69))
 go_enter Tryz.func295, Tryz.ntmps295
 go_wp2_with fail
 obtain ⟨X,hX⟩:∃ X,X=w.alloc (Obj.cells #[] 175):=⟨_,rfl⟩
 have hsz:X.heap.size=w.heap.size+1:=by rw [hX]; simp
 rw [<-hX] at hT hb2 ⊢;rw [<-hsz];clear hX hsz hb1
 refine (zfM _ 2 2 (fun i=>if i=0 then x else y) _ hT (by omega) (fun k hk=>?_) (fun k hk=>?_)).mono ?_
 ·match k,hk with
  | 0,_=>simp [sumN,zbM]
  | 1,_=>simp [sumN]; omega
  | 2,_=>simp [sumN]; omega
 ·match k,hk with
  | 0,_=>simp; omega
  | 1,_=>simp; omega
 rintro e w1 ⟨B,d,rfl,k1,k2,k3,k4⟩
 have hB:=onS hb2 k4
 have hsum:sumN (fun i=>if i=0 then x else y) 2=x+y:=by simp [sumN]
 rw [hsum] at k1 k3 ⊢;clear k4 hsum hT hb2
 go_wp2
 go_ret
 exact ⟨B,d,rfl,k1,k2,k3,hB⟩
theorem zgA (A A2:Option Addr) (c c2 x y:Nat) (w:World) (h:NatOk w w.heap.size A x) (h2:NatOk w w.heap.size A2 y) (hc:dl x<=c) (hm:c<=maxLen) (hc2:dl y<=c2) (hm2:c2<=maxLen) (hs:dl x<=1048576) (hs2:dl y<=1048576) (hs3:dl (x*y)<=2097152) :
  Calls Tryz.prog 296 #[.agg #[],.slice A (dl x) c,.slice A2 (dl y) c2] w (NatPost (x*y) w):=by
 have hb1:Below w.heap.size w (w.alloc (Obj.cells #[] 175)):=(Below.refl _ _).alloc (Nat.le_refl _) _
 have hT:=zdZ (T := 69) (h.on hb1) (h2.on hb1) hc hm hc2 hm2
 have hb2:=onS hb1 ((Below.refl _ _).alloc (Nat.le_refl _) (Obj.cells #[Value.slice A (dl x) c,Value.slice A2 (dl y) c2] 69))
 go_enter Tryz.func296, Tryz.ntmps296
 go_wp2_with fail
 obtain ⟨X,hX⟩:∃ X,X=w.alloc (Obj.cells #[] 175):=⟨_,rfl⟩
 have hsz:X.heap.size=w.heap.size+1:=by rw [hX]; simp
 rw [<-hX] at hT hb2 ⊢;rw [<-hsz];clear hX hsz hb1
 refine (zfP _ 2 2 (fun i=>if i=0 then x else y) _ hT (by omega) (fun k hk=>?_) (fun k hk=>?_)).mono ?_
 ·match k,hk with
  | 0,_=>show dl 1<=_; rw [zcz (by omega) (by omega)]; omega
  | 1,_=>simp [prodN]; omega
  | 2,_=>simp [prodN]; omega
 ·match k,hk with
  | 0,_=>simp; omega
  | 1,_=>simp; omega
 rintro e w1 ⟨B,d,rfl,k1,k2,k3,k4⟩
 have hB:=onS hb2 k4
 have hsum:prodN (fun i=>if i=0 then x else y) 2=x*y:=by simp [prodN]
 rw [hsum] at k1 k3 ⊢;clear k4 hsum hT hb2
 go_wp2
 go_ret
 exact ⟨B,d,rfl,k1,k2,k3,hB⟩
theorem Tryz.infoNats:(Tryz.prog.info? 64).map (fun i=>(i.zero,i.size,i.bytes))=some (some (.slice none 0 0),1,24):=by kernel_rfl
theorem zac {w w':World} {g k:Nat} {v:Value} {row:Option Nat} (h:w.cell? ⟨g,k,none⟩=some v) (hg:w.grownBy w' row) (hne:row≠some g):w'.cell? ⟨g,k,none⟩=some v:=by
 have hl:=World.block_lt_of_cell? _ _ h
 have hb:=hg.block g hl (fun e=>hne e.symm)
 rw [<-h]
 simp only [World.cell?,hb]
theorem zeY {w wr:World} {o1 o2:Obj} (h:Below (w.heap.size+2) ((w.alloc o1).alloc o2) wr):Below w.heap.size w wr:=(((Below.refl w.heap.size w).alloc (Nat.le_refl _) o1).alloc (by simp) o2).trans (h.mono (by omega))
theorem zja {w wr:World} {o1 o2:Obj} (h:Below (w.heap.size+2) ((w.alloc o1).alloc o2) wr):w.heap.size+2<=wr.heap.size:=by have:=h.size; simp at this; omega
theorem zjb {w wr w':World} {o1 o2:Obj} (h:Below (w.heap.size+2) ((w.alloc o1).alloc o2) wr) (hb:Below wr.heap.size wr w'):Below (w.heap.size+2) ((w.alloc o1).alloc o2) w':=h.trans (hb.mono (zja h))
theorem zaZ {b:Nat} {w W Y:World} (h:Below b w W) (hl:b<=W.heap.size) (kb:Below W.heap.size W Y):Below b w Y:=h.trans (kb.mono hl)
theorem zeo {w:World} {g base m:Nat} {x:Nat->Nat->Nat} (h:w.rowIs g 64 m (fun _=>.slice none 0 0)):NumTab w g base m (fun _=>.slice none 0 0) (fun _=>0) x :=
 ⟨h,fun _ _=>NatOwn.nil _ _ _,fun _ _ _ _ _=>.inl rfl⟩
def TabPost (T:Trel) (x:Nat->Nat->Nat) (w:World) (e:Ending) (w':World):Prop :=
 ∃ g F,e=.returned (.slice (some ⟨g,0,none⟩) T.nw T.nw)/\w.heap.size<=g/\NumTab w' g (g+1) T.nw F (fun v=>(T.W v).toNat) x/\Below w.heap.size w w'
theorem zhv (T:Trel) (A B:Option Addr) (c d:Nat) (w:World) (h:T.Reads w A B) (hs:T.Shape) :
  Calls Tryz.prog 194 #[.agg #[],.agg #[.slice A T.nw c,.slice B T.n d]] w (TabPost T (fun _ _=>0) w):=by
 obtain ⟨O1,hO1⟩:∃ o,o=(Obj.cells #[] 175):=⟨_,rfl⟩
 obtain ⟨O2,hO2⟩:∃ o,o=(Obj.cells #[.slice A T.nw c,.slice B T.n d] 53):=⟨_,rfl⟩
 have hB0:Below (w.heap.size+2) ((w.alloc O1).alloc O2) ((w.alloc O1).alloc O2):=Below.refl _ _
 have HS:Hid (∀ w',Below (w.heap.size+2) ((w.alloc O1).alloc O2) w'->(w'.cell? ⟨w.heap.size+1,0,none⟩=some (.slice A T.nw c)/\w'.cell? ⟨w.heap.size+1,1,none⟩=some (.slice B T.n d))/\Below w.heap.size w w'):=fun w' hB=>by
  have hB':=zeY hB
  subst hO2
  have hr:=zfQ hB
  exact ⟨⟨hr.cell (i:=0) (by simp),hr.cell (i:=1) (by simp)⟩,hB'⟩
 obtain ⟨⟨p0,p1⟩,hW⟩:=HS.out _ hB0
 have hn64:=hs.n64
 have hnw:=hs.nw
 have hmk:=fun W=>zah (P:=Tryz.prog) 148 64 _ 24 Tryz.underlying148 Tryz.infoNats rfl (T.nw:Int) (by omega) (by omega) (by omega) W
 simp only [Int.toNat_natCast] at hmk
 have HR:=hid h
 have HSH:=hid hs
 have hnw65:T.nw<=65:=by omega
 clear h hs hnw
 go_enter Tryz.func194, Tryz.ntmps194
 go_wp2_with fail
 rw [<-hO1,<-hO2]
 go_upto_region 2 with fail
 obtain ⟨W2,hW2⟩:∃ W,W=(w.alloc O1).alloc O2:=⟨_,rfl⟩
 have hsz2:W2.heap.size=w.heap.size+2:=by rw [hW2]; simp
 have HS2:Hid (∀ w',Below (w.heap.size+2) W2 w'->(w'.cell? ⟨w.heap.size+1,0,none⟩=some (.slice A T.nw c)/\w'.cell? ⟨w.heap.size+1,1,none⟩=some (.slice B T.n d))/\Below w.heap.size w w'):=by rw [hW2]; exact HS
 rw [<-hW2] at hB0 ⊢
 obtain ⟨g,hg⟩:∃ g,g=w.heap.size+1+1:=⟨_,rfl⟩
 have hgz:g=W2.heap.size:=by omega
 have hr3:=World.rowIs_made W2 (.slice none 0 0) T.nw 64
 have hB3:=zaZ hB0 (Nat.le_of_eq hsz2.symm) ((Below.refl W2.heap.size W2).alloc (Nat.le_refl _) (Obj.cells (madeCells #[Value.slice none 0 0] T.nw) 64))
 have hl3:w.heap.size+2<(W2.alloc (Obj.cells (madeCells #[Value.slice none 0 0] T.nw) 64)).heap.size:=by simp; omega
 obtain ⟨W3,hW3⟩:∃ W,W=W2.alloc (Obj.cells (madeCells #[Value.slice none 0 0] T.nw) 64):=⟨_,rfl⟩
 rw [<-hgz] at hr3;rw [<-hW3] at hr3 hB3 hl3 ⊢;rw [<-hg]
 have hT3:NumTab W3 g (g+1) T.nw (fun _=>.slice none 0 0) (fun v=>if v<0 then (T.W v).toNat else 0) (fun _ _=>0):=(zeo hr3).congr (fun v _=>(if_neg (by omega)).symm) (fun v _ k hk=>rfl)
 have hg2:w.heap.size+2<=g:=by omega
 clear hW3 hgz hg hr3 hW2 HS hB0 hmk hO1 hO2 hsz2
 go_loopg [15] T.nw (fun gg iv wx=>∃ (k:Nat) (F:Nat->Value),iv=.int .i64 (k:Nat)/\k<=T.nw/\T.nw<=k+gg/\NumTab wx g (g+1) T.nw F (fun v=>if v<k then (T.W v).toNat else 0) (fun _ _=>0)/\Below (w.heap.size+2) W2 wx/\w.heap.size+2<wx.heap.size)
 case atStart=>exact ⟨0,_,rfl,by omega,by omega,hT3,hB3,hl3⟩
 case round =>
  clear hW p0 p1 hT3 hB3 hl3
  obtain ⟨gK,hgK⟩:∃ g,g=gk:=⟨_,rfl⟩
  subst hgK
  obtain ⟨k,F,rfl,hk,hkg,hT,hB,hl⟩:=hrel
  obtain ⟨wk,hwk⟩:∃ W,W=wr:=⟨_,rfl⟩
  subst hwk
  have hk0:(0:Int)<=(k:Int):=by omega
  obtain ⟨⟨p0,p1⟩,hW⟩:=HS2.out _ hB
  by_cases hlt:k<T.nw
  ·have hlt':(k:Int)<(T.nw:Int):=by omega
   obtain ⟨wb,wo,rfl,hwb,y0,hy1,hy2⟩:=(HR.out.on hW).width hlt
   have hwid:=HSH.out.wid (i:=k) (by have:=HSH.out.nw; omega)
   obtain ⟨n1,hn1⟩:∃ n:Nat,(n:Int)=T.W k:=⟨(T.W k).toNat,by omega⟩
   rw [<-hn1] at y0 hwid
   have HN1:=hid hn1
   clear hn1 hy1 hy2
   have hT0:NumTab wk g (g+1) T.nw F (fun v=>if v<k then (T.W v).toNat else if v=k then 0 else 0) (fun _ _=>0):=hT.congr (fun v _=>by split <;> simp) (fun v _ q hq=>rfl)
   clear hT
   go_wp2
   go_loopg [21] n1 (fun gg jv wx=>∃ (j:Nat) (F:Nat->Value),jv=.int .i64 (j:Nat)/\j<=n1/\n1<=j+gg/\NumTab wx g (g+1) T.nw F (fun v=>if v<k then (T.W v).toNat else if v=k then j else 0) (fun _ _=>0)/\Below (w.heap.size+2) W2 wx/\w.heap.size+2<wx.heap.size)
   case atStart=>exact ⟨0,F,rfl,by omega,by omega,hT0,hB,hl⟩
   case round =>
    clear hW p0 p1 hT0 hB hl y0
    obtain ⟨j,F2,rfl,hj,hjg,hT,hB,hl⟩:=hrel
    have hj0:(0:Int)<=(j:Int):=by omega
    obtain ⟨⟨p0,p1⟩,hW⟩:=HS2.out _ hB
    by_cases hltj:j<n1
    ·have hltj':(j:Int)<(n1:Int):=by omega
     obtain ⟨fk,hfk⟩:∃ v,v=F2 k:=⟨_,rfl⟩
     have q0:wr.cell? ⟨g,k,none⟩=some fk:=by rw [hfk]; exact hT.row.cell hlt
     have HFK:=hid hfk
     clear hfk p0 p1 hW
     rename World=>w50
     go_upto_region 7 with fail
     refine wp_region_held_drew (S:=fun _=>True) (by kernel_rfl) trivial (fun hHeld=>?_)
     obtain ⟨w51,hw⟩:∃ W,W=World.drew w50:=⟨_,rfl⟩
     have kb:Below w50.heap.size w50 w51:=by rw [hw]; exact (Below.refl _ _).drew
     rw [<-hw];clear hw;replace hB:=zaZ hB (Nat.le_of_lt hl) kb;replace hl:=Nat.lt_of_lt_of_le hl kb.size;replace hT:=hT.on kb;replace q0:=cellS kb q0;clear kb
     refine tkq 0 (h:=tkq 1 (h:=tkq 2 (h:=tkq 3 (h:=tkq 4 (h:=tkq 6 (h:=tkq 7 (h:=?_)))))))
     refine rdq2 5 8 (h:=fun K hK=>?_) (h2:=fun K hK=>?_)
     ·go_simp
      refine bkq hK trivial (h:=fun hHeld=>?_)
      clear hK K
      refine rdq 8 (h:=fun K hK=>?_)
      go_simp
      go_wp2_with fail
      refine (zeX w51).mono ?_
      rintro e w52 ⟨A0,c0,rfl,z1,z2,z3,kb⟩
      replace hB:=zaZ hB (Nat.le_of_lt hl) kb;replace hl:=Nat.lt_of_lt_of_le hl kb.size;replace hT:=hT.on kb;replace q0:=cellS kb q0;clear kb
      refine bkq hK trivial (h:=fun hHeld=>?_)
      clear hK K
      refine rdq 9 (h:=fun K hK=>?_)
      go_simp
      obtain ⟨w53,hw⟩:∃ W,W=World.alloc w52 (Obj.cells #[Value.slice A0 (dl 0) c0] 69):=⟨_,rfl⟩
      have kb:Below w52.heap.size w52 w53:=by rw [hw]; exact (Below.refl _ _).alloc (Nat.le_refl _) _
      have n1c:w53.cell? ⟨w52.heap.size,0,none⟩=some (.slice A0 (dl 0) c0):=by rw [hw]; simp
      rw [<-hw];clear hw
      obtain ⟨nb,hnb⟩:∃ b,b=w52.heap.size:=⟨_,rfl⟩
      rw [<-hnb] at n1c ⊢;clear hnb;replace hB:=zaZ hB (Nat.le_of_lt hl) kb;replace hl:=Nat.lt_of_lt_of_le hl kb.size;replace hT:=hT.on kb;replace q0:=cellS kb q0;replace z3:=z3.on kb;clear kb
      refine bkq hK trivial (h:=fun hHeld=>?_)
      clear hK K
      refine rdq 10 (h:=fun K hK=>?_)
      have hOwn:NatOwn w53 (g+1) fk j (fun _=>0):=by
       have:=hT.own k hlt
       rw [if_neg (Nat.lt_irrefl k),if_pos rfl,<-HFK.out] at this
       exact this
      have hgl:g+1<=w53.heap.size:=hT.row.lt
      have hzg:=hT.row.frozen k
      refine zaY (by rfl) (.tmp 28) (.tmp 32) (by rfl) (g+1) fk j (fun _=>0) (by rfl) hOwn hgl (by omega) nb 1 (by rfl) A0 c0 n1c z3 z1 z2 ?_
      intro v9 w9 o1 o2 o3
      obtain ⟨A9,c9,hv9⟩:=o1.isSlice
      subst hv9
      have hfo:∀ q,fk.ownBlock=some q->g+1<=q:=fun q e=>(hOwn.lt q e).1
      have q9:w9.cell? ⟨g,k,none⟩=some fk:=zac q0 o2 fun e=>by have:=hfo g e; omega
      have z9:w9.frozen? ⟨g,k,none⟩=false:=by
       have:=(hT.row.of_block (o2.block g hT.row.lt fun e=>by have:=hfo g e.symm; omega)).frozen k
       exact this
      have hB9:Below (w.heap.size+2) W2 w9:=hB.grown o2 (Nat.le_of_lt hl) fun q e=>by have:=hfo q e; omega
      have hl9:w.heap.size+2<w9.heap.size:=Nat.lt_of_lt_of_le hl o2.size
      have hPut:=hid (hT.put (by omega) hlt o1 (by rw [<-HFK.out]; exact o2) (by rw [<-HFK.out]; exact o3))
      refine bkq hK trivial (h:=fun hHeld=>?_)
      clear hK K
      refine tkq 11 (h:=?_)
      refine rdq 12 (h:=fun K hK=>?_)
      go_simp
      refine bkq hK trivial (h:=fun hHeld=>?_)
      clear hK K
      refine wpAnyH_done (by kernel_rfl) ?_ _
      clear hHeld
      have hN:=hPut.out.congr (n':=fun v=>if v<k then (T.W v).toNat else if v=k then j+1 else 0) (x':=fun _ _=>0) (fun v _=>by
        by_cases e:v=k
        ·subst e; simp
        ·simp [e]) (fun v _ q hq=>by split <;> rfl)
      have HN:=hid hN
      have hBf:=hB9.setCell (p:=⟨g,k,none⟩) hg2 (.slice A9 (j+1) c9)
      have hlf:w.heap.size+2<(w9.setCell ⟨g,k,none⟩ (.slice A9 (j+1) c9)).heap.size:=by simp; exact hl9
      clear hPut hN q9 z9 hB9
      go_wp2
      go_roundg (gk - 1)
      case measure=>omega
      case rel=>exact ⟨j+1,_,by go_num,by omega,by omega,HN.out,hBf,hlf⟩
     ·go_simp
      go_wp2_with fail
      refine (zeX w51).mono ?_
      rintro e w52 ⟨A0,c0,rfl,z1,z2,z3,kb⟩
      replace hB:=zaZ hB (Nat.le_of_lt hl) kb;replace hl:=Nat.lt_of_lt_of_le hl kb.size;replace hT:=hT.on kb;replace q0:=cellS kb q0;clear kb
      refine bkq hK trivial (h:=fun hHeld=>?_)
      clear hK K
      refine rdq2 5 9 (h:=fun K hK=>?_) (h2:=fun K hK=>?_)
      ·go_simp
       refine bkq hK trivial (h:=fun hHeld=>?_)
       clear hK K
       refine rdq 9 (h:=fun K hK=>?_)
       go_simp
       obtain ⟨w53,hw⟩:∃ W,W=World.alloc w52 (Obj.cells #[Value.slice A0 (dl 0) c0] 69):=⟨_,rfl⟩
       have kb:Below w52.heap.size w52 w53:=by rw [hw]; exact (Below.refl _ _).alloc (Nat.le_refl _) _
       have n1c:w53.cell? ⟨w52.heap.size,0,none⟩=some (.slice A0 (dl 0) c0):=by rw [hw]; simp
       rw [<-hw];clear hw
       obtain ⟨nb,hnb⟩:∃ b,b=w52.heap.size:=⟨_,rfl⟩
       rw [<-hnb] at n1c ⊢;clear hnb;replace hB:=zaZ hB (Nat.le_of_lt hl) kb;replace hl:=Nat.lt_of_lt_of_le hl kb.size;replace hT:=hT.on kb;replace q0:=cellS kb q0;replace z3:=z3.on kb;clear kb
       refine bkq hK trivial (h:=fun hHeld=>?_)
       clear hK K
       refine rdq 10 (h:=fun K hK=>?_)
       have hOwn:NatOwn w53 (g+1) fk j (fun _=>0):=by
        have:=hT.own k hlt
        rw [if_neg (Nat.lt_irrefl k),if_pos rfl,<-HFK.out] at this
        exact this
       have hgl:g+1<=w53.heap.size:=hT.row.lt
       have hzg:=hT.row.frozen k
       refine zaY (by rfl) (.tmp 28) (.tmp 32) (by rfl) (g+1) fk j (fun _=>0) (by rfl) hOwn hgl (by omega) nb 1 (by rfl) A0 c0 n1c z3 z1 z2 ?_
       intro v9 w9 o1 o2 o3
       obtain ⟨A9,c9,hv9⟩:=o1.isSlice
       subst hv9
       have hfo:∀ q,fk.ownBlock=some q->g+1<=q:=fun q e=>(hOwn.lt q e).1
       have q9:w9.cell? ⟨g,k,none⟩=some fk:=zac q0 o2 fun e=>by have:=hfo g e; omega
       have z9:w9.frozen? ⟨g,k,none⟩=false:=by
        have:=(hT.row.of_block (o2.block g hT.row.lt fun e=>by have:=hfo g e.symm; omega)).frozen k
        exact this
       have hB9:Below (w.heap.size+2) W2 w9:=hB.grown o2 (Nat.le_of_lt hl) fun q e=>by have:=hfo q e; omega
       have hl9:w.heap.size+2<w9.heap.size:=Nat.lt_of_lt_of_le hl o2.size
       have hPut:=hid (hT.put (by omega) hlt o1 (by rw [<-HFK.out]; exact o2) (by rw [<-HFK.out]; exact o3))
       refine bkq hK trivial (h:=fun hHeld=>?_)
       clear hK K
       refine tkq 11 (h:=?_)
       refine rdq 12 (h:=fun K hK=>?_)
       go_simp
       refine bkq hK trivial (h:=fun hHeld=>?_)
       clear hK K
       refine wpAnyH_done (by kernel_rfl) ?_ _
       clear hHeld
       have hN:=hPut.out.congr (n':=fun v=>if v<k then (T.W v).toNat else if v=k then j+1 else 0) (x':=fun _ _=>0) (fun v _=>by
         by_cases e:v=k
         ·subst e; simp
         ·simp [e]) (fun v _ q hq=>by split <;> rfl)
       have HN:=hid hN
       have hBf:=hB9.setCell (p:=⟨g,k,none⟩) hg2 (.slice A9 (j+1) c9)
       have hlf:w.heap.size+2<(w9.setCell ⟨g,k,none⟩ (.slice A9 (j+1) c9)).heap.size:=by simp; exact hl9
       clear hPut hN q9 z9 hB9
       go_wp2
       go_roundg (gk - 1)
       case measure=>omega
       case rel=>exact ⟨j+1,_,by go_num,by omega,by omega,HN.out,hBf,hlf⟩
      ·go_simp
       obtain ⟨w53,hw⟩:∃ W,W=World.alloc w52 (Obj.cells #[Value.slice A0 (dl 0) c0] 69):=⟨_,rfl⟩
       have kb:Below w52.heap.size w52 w53:=by rw [hw]; exact (Below.refl _ _).alloc (Nat.le_refl _) _
       have n1c:w53.cell? ⟨w52.heap.size,0,none⟩=some (.slice A0 (dl 0) c0):=by rw [hw]; simp
       rw [<-hw];clear hw
       obtain ⟨nb,hnb⟩:∃ b,b=w52.heap.size:=⟨_,rfl⟩
       rw [<-hnb] at n1c ⊢;clear hnb;replace hB:=zaZ hB (Nat.le_of_lt hl) kb;replace hl:=Nat.lt_of_lt_of_le hl kb.size;replace hT:=hT.on kb;replace q0:=cellS kb q0;replace z3:=z3.on kb;clear kb
       refine bkq hK trivial (h:=fun hHeld=>?_)
       clear hK K
       refine rdq 5 (h:=fun K hK=>?_)
       go_simp
       refine bkq hK trivial (h:=fun hHeld=>?_)
       clear hK K
       refine rdq 10 (h:=fun K hK=>?_)
       have hOwn:NatOwn w53 (g+1) fk j (fun _=>0):=by
        have:=hT.own k hlt
        rw [if_neg (Nat.lt_irrefl k),if_pos rfl,<-HFK.out] at this
        exact this
       have hgl:g+1<=w53.heap.size:=hT.row.lt
       have hzg:=hT.row.frozen k
       refine zaY (by rfl) (.tmp 28) (.tmp 32) (by rfl) (g+1) fk j (fun _=>0) (by rfl) hOwn hgl (by omega) nb 1 (by rfl) A0 c0 n1c z3 z1 z2 ?_
       intro v9 w9 o1 o2 o3
       obtain ⟨A9,c9,hv9⟩:=o1.isSlice
       subst hv9
       have hfo:∀ q,fk.ownBlock=some q->g+1<=q:=fun q e=>(hOwn.lt q e).1
       have q9:w9.cell? ⟨g,k,none⟩=some fk:=zac q0 o2 fun e=>by have:=hfo g e; omega
       have z9:w9.frozen? ⟨g,k,none⟩=false:=by
        have:=(hT.row.of_block (o2.block g hT.row.lt fun e=>by have:=hfo g e.symm; omega)).frozen k
        exact this
       have hB9:Below (w.heap.size+2) W2 w9:=hB.grown o2 (Nat.le_of_lt hl) fun q e=>by have:=hfo q e; omega
       have hl9:w.heap.size+2<w9.heap.size:=Nat.lt_of_lt_of_le hl o2.size
       have hPut:=hid (hT.put (by omega) hlt o1 (by rw [<-HFK.out]; exact o2) (by rw [<-HFK.out]; exact o3))
       refine bkq hK trivial (h:=fun hHeld=>?_)
       clear hK K
       refine tkq 11 (h:=?_)
       refine rdq 12 (h:=fun K hK=>?_)
       go_simp
       refine bkq hK trivial (h:=fun hHeld=>?_)
       clear hK K
       refine wpAnyH_done (by kernel_rfl) ?_ _
       clear hHeld
       have hN:=hPut.out.congr (n':=fun v=>if v<k then (T.W v).toNat else if v=k then j+1 else 0) (x':=fun _ _=>0) (fun v _=>by
         by_cases e:v=k
         ·subst e; simp
         ·simp [e]) (fun v _ q hq=>by split <;> rfl)
       have HN:=hid hN
       have hBf:=hB9.setCell (p:=⟨g,k,none⟩) hg2 (.slice A9 (j+1) c9)
       have hlf:w.heap.size+2<(w9.setCell ⟨g,k,none⟩ (.slice A9 (j+1) c9)).heap.size:=by simp; exact hl9
       clear hPut hN q9 z9 hB9
       go_wp2
       go_roundg (gk - 1)
       case measure=>omega
       case rel=>exact ⟨j+1,_,by go_num,by omega,by omega,HN.out,hBf,hlf⟩
    ·have hltj':¬ (j:Int)<(n1:Int):=by omega
     have hje:j=n1:=by omega
     have hT1:Hid (NumTab wr g (g+1) T.nw F2 (fun v=>if v<k+1 then (T.W v).toNat else 0) (fun _ _=>0)):=hT.congr (fun v _=>by
      by_cases e:v<k
      ·rw [if_pos e,if_pos (by omega)]
      ·rw [if_neg e]
       by_cases e2:v=k
       ·subst e2
        rw [if_pos rfl,if_pos (by omega),hje]
        have:=HN1.out
        omega
       ·rw [if_neg e2,if_neg (by omega)]) (fun v _ q hq=>rfl)
     have HB:=hid hB
     clear hT hB hje
     go_wp2
     go_roundg (gK - 1)
     case measure=>omega
     case rel=>exact ⟨k+1,F2,by go_num,by omega,by omega,hT1.out,HB.out,hl⟩
  ·have hlt':¬ (k:Int)<(T.nw:Int):=by omega
   have hTf:Hid (NumTab wk g (g+1) T.nw F (fun v=>(T.W v).toNat) (fun _ _=>0)):=hT.congr (fun v hv=>if_pos (by omega)) (fun v _ q hq=>rfl)
   clear hT
   go_wp2
   go_ret
   exact ⟨g,F,rfl,by omega,hTf.out,hW⟩
def VTab (w:World) (V:Option Addr) (m:Nat) (ln:Nat->Nat) (y:Nat->Nat->Nat):Prop :=
 ∀ i,i<m->∃ b off R rc,V=some ⟨b,off,none⟩/\b<w.heap.size/\w.cell? ⟨b,off+i,none⟩=some (.slice R (ln i) rc)/\NatTab w w.heap.size R (ln i) (y i)
theorem VTab.on {w w':World} {V:Option Addr} {m:Nat} {ln:Nat->Nat} {y:Nat->Nat->Nat} (h:VTab w V m ln y) (hb:Below w.heap.size w w'):VTab w' V m ln y:=fun i hi=>by
 obtain ⟨b,off,R,rc,e,h1,h2,h3⟩:=h i hi
 exact ⟨b,off,R,rc,e,Nat.lt_of_lt_of_le h1 hb.size,(hb.cell (p:=⟨b,_,none⟩) h1).trans h2,h3.on hb⟩
def Trel.fwdE (T:Trel) (y:Nat->Nat->Nat) (prev:Nat->Nat) (i:Nat):Nat->Nat->Nat
 | 0,_=>0
 | j+1,v=>T.fwdE y prev i j v+if (T.to i j).toNat=v then prev (T.fr i j).toNat*y i j else 0
def Trel.fwd (T:Trel) (y:Nat->Nat->Nat):Nat->Nat->Nat
 | 0,v=>if v=0 then 1 else 0
 | i+1,v=>T.fwdE y (T.fwd y i) i (T.el i) v
theorem Trel.fwdE_le {T:Trel} {y:Nat->Nat->Nat} {prev:Nat->Nat} {i M:Nat} (hp:∀ v,prev v<=M):∀ j,(∀ q,q<j->y i q<=1)->∀ v,T.fwdE y prev i j v<=j*M:=by
 intro j
 induction j with
 | zero=>intro _ v; simp [Trel.fwdE]
 | succ j ih =>
  intro hy v
  have h1:=ih (fun q hq=>hy q (by omega)) v
  have h2:prev (T.fr i j).toNat*y i j<=M*1:=Nat.mul_le_mul (hp _) (hy j (by omega))
  show _+(if _ then _ else 0)<=(j+1)*M
  rw [Nat.add_mul]
  obtain ⟨z,hz⟩:∃ z,z=prev (T.fr i j).toNat*y i j:=⟨_,rfl⟩
  rw [<-hz] at h2 ⊢
  obtain ⟨a,ha⟩:∃ a,a=T.fwdE y prev i j v:=⟨_,rfl⟩
  rw [<-ha] at h1 ⊢
  split <;> omega
theorem Trel.fwd_le {T:Trel} (hs:T.Shape) {y:Nat->Nat->Nat} (hy:∀ i,i<T.n->∀ j,j<T.el i->y i j<=1):∀ i,i<=T.n->∀ v,T.fwd y i v<=262144 ^ i:=by
 intro i
 induction i with
 | zero=>intro _ v; show (if v=0 then 1 else 0)<=_; split <;> simp
 | succ i ih =>
  intro hi v
  have h1:=Trel.fwdE_le (T:=T) (y:=y) (i:=i) (ih (by omega)) (T.el i) (hy i (by omega)) v
  have h2:=hs.elb (i:=i) (by omega)
  show T.fwdE y (T.fwd y i) i (T.el i) v<=_
  rw [Nat.pow_succ,Nat.mul_comm]
  exact Nat.le_trans h1 (Nat.mul_le_mul_right _ h2)
theorem zgB {x i:Nat} (hi:i<=64) (h:x<=262144 ^ i):dl x<=37:=by
 refine ziI ?_
 have h1:(262144:Nat) ^ i<=262144 ^ 64:=Nat.pow_le_pow_right (by omega) hi
 have h2:(262144:Nat) ^ 64<4294967296 ^ 37:=by decide +kernel
 omega
theorem Trel.fwd_dl {T:Trel} (hs:T.Shape) {y:Nat->Nat->Nat} (hy:∀ i,i<T.n->∀ j,j<T.el i->y i j<=1) {i:Nat} (hi:i<=T.n) (v:Nat):dl (T.fwd y i v)<=37 :=
 zgB (Nat.le_trans hi hs.n64) (Trel.fwd_le hs hy i hi v)
theorem Trel.fwdE_dl {T:Trel} (hs:T.Shape) {y:Nat->Nat->Nat} (hy:∀ i,i<T.n->∀ j,j<T.el i->y i j<=1) {i j:Nat} (hi:i<T.n) (hj:j<=T.el i) (v:Nat):dl (T.fwdE y (T.fwd y i) i j v)<=37:=by
 have h1:=Trel.fwdE_le (T:=T) (y:=y) (i:=i) (Trel.fwd_le hs hy i (by omega)) j (fun q hq=>hy i hi q (by omega)) v
 have h2:=hs.elb (i:=i) hi
 have h3:j*262144 ^ i<=262144*262144 ^ i:=Nat.mul_le_mul_right _ (by omega)
 refine zgB (i:=i+1) (by have:=hs.n64; omega) ?_
 rw [Nat.pow_succ,Nat.mul_comm (262144 ^ i)]
 exact Nat.le_trans h1 h3
theorem zfp (T:Trel) (A B V:Option Addr) (c d vc:Nat) (y:Nat->Nat->Nat) (w:World) (h:T.Reads w A B) (hs:T.shapeE=0) (hv:VTab w V T.n T.el y) :
  Calls Tryz.prog 193 #[.agg #[.slice A T.nw c,.slice B T.n d],.slice V T.n vc] w fun e w'=>e=.returned (.int .i64 0)/\Below w.heap.size w w':=by
 obtain ⟨RB,hRB⟩:∃ o,o=(Obj.cells #[.slice A T.nw c,.slice B T.n d] 53):=⟨_,rfl⟩
 have hB0:Below (w.heap.size+1) (w.alloc RB) (w.alloc RB):=Below.refl _ _
 have HS:Hid (∀ w',Below (w.heap.size+1) (w.alloc RB) w'->(w'.cell? ⟨w.heap.size,0,none⟩=some (.slice A T.nw c)/\w'.cell? ⟨w.heap.size,1,none⟩=some (.slice B T.n d))/\Below w.heap.size w w'):=fun w' hB=>by
  have hB':=zaO hB
  subst hRB
  exact ⟨⟨tbox hB rfl,tbox hB rfl⟩,hB'⟩
 obtain ⟨⟨p0,p1⟩,hW⟩:=HS.out _ hB0
 go_enter Tryz.func193, Tryz.ntmps193
 go_wp2_with fail
 rw [<-hRB]
 refine (zdY T A B c d _ (h.on hW)).mono ?_
 rintro e w1 ⟨rfl,hb⟩
 have hB1:=zav hB0 hb
 rw [hs]
 have HR:=hid h
 have HV:=hid hv
 have hn64:=(Trel.shape_of hs).n64
 clear hW p0 p1 hb hB0 hRB h hv hs
 obtain ⟨⟨p0,p1⟩,hW⟩:=HS.out _ hB1
 go_wp2
 go_loopg [22] T.n (fun gg iv wx=>∃ k:Nat,iv=.int .i64 (k:Nat)/\k<=T.n/\T.n<=k+gg/\Below w1.heap.size w1 wx)
 case atStart=>exact ⟨0,rfl,by omega,by omega,Below.refl _ _⟩
 case round =>
  obtain ⟨k,rfl,hk,hkg,hb⟩:=hrel
  have hk0:(0:Int)<=(k:Int):=by omega
  replace p0:=cellS hb p0;replace p1:=cellS hb p1
  have hWr:=onS hW hb
  clear hW
  by_cases hlt:k<T.n
  ·have hlt':(k:Int)<(T.n:Int):=by omega
   obtain ⟨b,o,E,ec,rfl,_,x0,_,_,_,_⟩:=(HR.out.on hWr).sec hlt
   obtain ⟨vb,vo,R,rc,rfl,_,x1,_⟩:=(HV.out.on hWr) k hlt
   have hne:((T.el k:Int) != (T.el k:Int))=false:=by simp
   go_wp2
   go_roundg (gk - 1)
   case measure=>omega
   case rel=>exact ⟨k+1,by go_num,by omega,by omega,hb⟩
  ·have hlt':¬ (k:Int)<(T.n:Int):=by omega
   go_wp2
   go_ret
   exact ⟨rfl,hWr⟩
end Go.Proofs.YtgekjfpapmlndaaGreat