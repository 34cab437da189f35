/- Merged texts of a claim: GreedyPl, GrDig, GrJoin, CNew, GTab, Greedy, GrRef, GrErr. -/
import Derived.Test.YtioagplajkoohaaTH1
import Derived.Test.YtioagplajkoohaaTH2
import Derived.Test.YtioagplajkoohaaTH4
import Derived.Test.YtioagplajkoohaaTH5
import Derived.Lib.SliceRun
import Derived.Lib.LazyBuf
namespace Go.Proofs.Ytioagplajkoohaa
set_option maxRecDepth 100000
set_option maxHeartbeats 32000000
open KA KB KC KE KF
def idxW (q:Nat) (u:Nat->Nat):Nat->Nat
 | 0=>0
 | r+1=>idxW q u r*q+u r
def digW (q r v i:Nat):Nat:=v / q ^ (r - 1 - i) % q
theorem zcv {q:Nat} {u:Nat->Nat}:∀ r,(∀ i,i<r->u i<q)->idxW q u r<q ^ r
 | 0,_=>by show 0<q ^ 0; simp
 | r+1,h=>by
  have h1:=zcv r fun i hi=>h i (by omega)
  have h2:=h r (by omega)
  show idxW q u r*q+u r<q ^ (r+1)
  rw [Nat.pow_succ]
  have h3:(idxW q u r+1)*q<=q ^ r*q:=Nat.mul_le_mul_right q h1
  rw [Nat.add_mul] at h3
  omega
theorem zas {q:Nat} {u u':Nat->Nat}:∀ r,(∀ i,i<r->u i=u' i)->idxW q u r=idxW q u' r
 | 0,_=>rfl
 | r+1,h=>by
  show idxW q u r*q+u r=idxW q u' r*q+u' r
  rw [zas r fun i hi=>h i (by omega),h r (by omega)]
theorem zc4 {q r v i:Nat} (hi:i<r):digW q (r+1) v i=digW q r (v / q) i:=by
 unfold digW
 rw [show r+1 - 1 - i=(r - 1 - i)+1 by omega,Nat.pow_succ,Nat.mul_comm (q ^ (r - 1 - i)) q,<-Nat.div_div_eq_div_mul]
theorem zc5 {q r v:Nat}:digW q (r+1) v r=v % q:=by
 unfold digW
 rw [show r+1 - 1 - r=0 by omega,Nat.pow_zero,Nat.div_one]
theorem zc6 {q r v i:Nat} (hq:0<q):digW q r v i<q:=Nat.mod_lt _ hq
theorem zbr {q : Nat} (hq : 0 < q) : ∀ r v, v < q ^ r → idxW q (digW q r v) r = v
  | 0, v, h => by have : v < 1 := by simpa using h
                  show 0=v; omega
  | r + 1, v, h => by
    show idxW q (digW q (r+1) v) r*q+digW q (r+1) v r=v
    rw [zas r fun i hi=>zc4 hi,zbr hq r (v / q) ?_,zc5,Nat.mul_comm]
    · exact Nat.div_add_mod v q
    · rw [Nat.pow_succ] at h
      exact Nat.div_lt_of_lt_mul (by rw [Nat.mul_comm]; exact h)
theorem zca {q:Nat} (hq:0<q) {u:Nat->Nat}:∀ r,(∀ i,i<r->u i<q)->∀ i,i<r->digW q r (idxW q u r) i=u i
 | 0,_,i,hi=>absurd hi (by omega)
 | r + 1, h, i, hi => by
  have h2:=h r (by omega)
  have e1:idxW q u (r+1)=idxW q u r*q+u r:=rfl
  by_cases e:i=r
  ·subst e
   rw [zc5,e1,Nat.mul_comm,Nat.mul_add_mod,Nat.mod_eq_of_lt h2]
  ·rw [zc4 (by omega),e1,Nat.mul_comm,Nat.mul_add_div hq,Nat.div_eq_of_lt h2,Nat.add_zero]
   exact zca hq r (fun i hi=>h i (by omega)) i (by omega)
theorem zen {q r i:Nat}:digW q r 0 i=0:=by unfold digW; rw [Nat.zero_div,Nat.zero_mod]
def wtC (c:Nat->Nat):Nat->Nat
 | 0=>0
 | t+1=>wtC c t+if c t=0 then 0 else 1
theorem zc7 {c:Nat->Nat} {s:Nat}:∀ n,s<=n->(∀ i,s<=i->i<n->c i=0)->wtC c n=wtC c s
 | 0,h,_=>by rw [show s=0 by omega]
 | n + 1, h, h0 => by
  by_cases e:s=n+1
  ·rw [e]
  ·show wtC c n+_=_
   rw [zc7 n (by omega) fun i h1 h2=>h0 i h1 (by omega),if_pos (h0 n (by omega) (by omega))]
   rfl
section
variable {q r:Nat} {add mul:Nat->Nat->Nat}
def plusI (q r:Nat) (add mul:Nat->Nat->Nat) (h:Nat->Nat) (a u:Nat):Nat:=idxW q (fun j=>add (digW q r u j) (mul a (h j))) r
theorem zcL (hL:FieldLaws q add mul) (h:Nat->Nat) (a u:Nat):plusI q r add mul h a u<q ^ r:=zcv _ fun _ _=>hL.addLt _ _
structure JoinR (q r:Nat) (add mul:Nat->Nat->Nat) (D:Nat->Nat->Prop) (h L L':Nat->Nat):Prop where
 le:∀ v,v<q ^ r->L' v<=L v
 at':∀ a u,D a u->L' (plusI q r add mul h a u)<=L u+1
 from':∀ v,v<q ^ r->L' v=L v∨∃ a u,D a u/\v=plusI q r add mul h a u/\L' v=L u+1
def AllP (q r:Nat) (a u:Nat):Prop:=1<=a/\a<q/\u<q ^ r
theorem JoinR.init {h L:Nat->Nat}:JoinR q r add mul (fun _ _=>False) h L L:=⟨fun _ _=>Nat.le_refl _,fun _ _ h=>h.elim,fun _ _=>.inl rfl⟩
theorem JoinR.congr {D D':Nat->Nat->Prop} {h L L':Nat->Nat} (H:JoinR q r add mul D h L L') (hD:∀ a u,D a u↔D' a u):JoinR q r add mul D' h L L' :=
 ⟨H.le,fun a u g=>H.at' a u ((hD a u).2 g),fun v hv=>(H.from' v hv).imp id fun ⟨a,u,g1,g2⟩=>⟨a,u,(hD a u).1 g1,g2⟩⟩
theorem JoinR.step {D:Nat->Nat->Prop} {h L L':Nat->Nat} {a u p:Nat} (H:JoinR q r add mul D h L L') (hL:FieldLaws q add mul) (hp:p=plusI q r add mul h a u) :
  JoinR q r add mul (fun a' u'=>D a' u'∨a'=a/\u'=u) h L (fun v=>if v=p then min (L' p) (L u+1) else L' v):=by
 have hlt:p<q ^ r:=by rw [hp]; exact zcL hL h a u
 refine ⟨fun v hv=>?_,fun a' u' hD=>?_,fun v hv=>?_⟩
 ·show (if v=p then min (L' p) (L u+1) else L' v)<=L v
  have:=H.le v hv
  split
  ·next e=>subst e; omega
  ·exact this
 ·show (if plusI q r add mul h a' u'=p then min (L' p) (L u+1) else L' (plusI q r add mul h a' u'))<=L u'+1
  rcases hD with hD | ⟨rfl,rfl⟩
  ·have:=H.at' a' u' hD
   split
   ·next e=>rw [e] at this; omega
   ·exact this
  ·rw [<-hp,if_pos rfl]; omega
 ·show (if v=p then min (L' p) (L u+1) else L' v)=L v∨∃ a' u',(D a' u'∨a'=a/\u'=u)/\v=plusI q r add mul h a' u'/\(if v=p then min (L' p) (L u+1) else L' v)=L u'+1
  have h0:=H.from' v hv
  by_cases e:v=p
  ·rw [if_pos e]
   rw [<-e]
   by_cases e2:L' v<=L u+1
   ·rw [Nat.min_eq_left e2]
    exact h0.imp id fun ⟨a',u',g1,g2⟩=>⟨a',u',.inl g1,g2⟩
   ·rw [Nat.min_eq_right (by omega)]
    exact .inr ⟨a,u,.inr ⟨rfl,rfl⟩,e.trans hp,rfl⟩
  ·rw [if_neg e]
   exact h0.imp id fun ⟨a',u',g1,g2⟩=>⟨a',u',.inl g1,g2⟩
theorem JoinR.lt {D:Nat->Nat->Prop} {h L L':Nat->Nat} {B:Nat} (H:JoinR q r add mul D h L L') (hB:∀ v,v<q ^ r->L v<=B):∀ v,v<q ^ r->L' v<=B:=fun v hv=>Nat.le_trans (H.le v hv) (hB v hv)
theorem JoinR.le_of {D:Nat->Nat->Prop} {h L L1 L2:Nat->Nat} (h1:JoinR q r add mul D h L L1) (h2:JoinR q r add mul D h L L2) {v:Nat} (hv:v<q ^ r):L1 v<=L2 v:=by
 rcases h2.from' v hv with e | ⟨a,u,hD,e1,e2⟩
 ·rw [e]; exact h1.le v hv
 ·rw [e2,e1]; exact h1.at' a u hD
theorem JoinR.uniq {D:Nat->Nat->Prop} {h L L1 L2:Nat->Nat} (h1:JoinR q r add mul D h L L1) (h2:JoinR q r add mul D h L L2):∀ v,v<q ^ r->L1 v=L2 v:=fun _ hv=>Nat.le_antisymm (h1.le_of h2 hv) (h2.le_of h1 hv)
theorem JoinR.cut {h L L' L0:Nat->Nat} (b:Nat) (H:JoinR q r add mul (AllP q r) h L L') (e:∀ v,v<q ^ r->L0 v=min (L v) b):JoinR q r add mul (AllP q r) h L0 (fun v=>min (L' v) b):=by
 refine ⟨fun v hv=>?_,fun a u hD=>?_,fun v hv=>?_⟩
 ·show min (L' v) b<=L0 v
  have:=H.le v hv
  rw [e v hv]; omega
 ·show min (L' _) b<=L0 u+1
  have:=H.at' a u hD
  rw [e u hD.2.2]; omega
 ·show min (L' v) b=L0 v∨∃ a u,_/\_/\min (L' v) b=L0 u+1
  have h1:=H.le v hv
  rcases H.from' v hv with g | ⟨a,u,hD,g1,g2⟩
  ·left; rw [e v hv,g]
  ·by_cases hb:L' v<=b
   ·right
    refine ⟨a,u,hD,g1,?_⟩
    rw [e u hD.2.2]; omega
   ·left
    rw [e v hv]; omega
theorem JoinR.cong {D:Nat->Nat->Prop} {h h' L L0 L' L1:Nat->Nat} (H:JoinR q r add mul D h L L') (hD:∀ a u,D a u->u<q ^ r) (hL:FieldLaws q add mul) (hh:∀ j,j<r->h j=h' j) (e:∀ v,v<q ^ r->L v=L0 v) (e':∀ v,v<q ^ r->L' v=L1 v):JoinR q r add mul D h' L0 L1:=by
 have hp:∀ a u,plusI q r add mul h' a u=plusI q r add mul h a u:=fun a u=>zas _ fun j hj=>by rw [hh j hj]
 refine ⟨fun v hv=>by rw [<-e v hv,<-e' v hv]; exact H.le v hv,fun a u g=>?_,fun v hv=>?_⟩
 ·rw [hp,<-e u (hD a u g),<-e' _ (zcL hL h a u)]; exact H.at' a u g
 ·rw [<-e v hv,<-e' v hv]
  rcases H.from' v hv with g | ⟨a,u,g1,g2,g3⟩
  ·exact .inl g
  ·exact .inr ⟨a,u,g1,by rw [hp]; exact g2,by rw [<-e u (hD a u g1)]; exact g3⟩
def GrSt (q r:Nat) (add mul:Nat->Nat->Nat) (d:Nat):Nat->(Nat->Nat->Nat)->(Nat->Nat)->Prop
 | 0,_,L=>∀ v,v<q ^ r->L v=if v=0 then 0 else d - 1
 | t+1,h,L=>∃ L0 v,GrSt q r add mul d t h L0/\v<q ^ r/\(2<=d->d - 2<L0 v)/\(∀ v',v'<v->2<=d/\L0 v'<=d - 2)/\(∀ j,j<r->h t j=digW q r v j)/\JoinR q r add mul (AllP q r) (h t) L0 L
def RfSt (q r:Nat) (add mul:Nat->Nat->Nat) (d n:Nat):Nat->(Nat->Nat->Nat)->(Nat->Nat)->Prop
 | 0,_,L=>∀ v,v<q ^ r->L v=if v=0 then 0 else n+1
 | t+1,h,L=>∃ L0 v,RfSt q r add mul d n t h L0/\v<q ^ r/\(2<=d->d - 2<L0 v)/\(∀ v',v'<v->2<=d/\L0 v'<=d - 2)/\(∀ j,j<r->h t j=digW q r v j)/\JoinR q r add mul (AllP q r) (h t) L0 L
theorem GrSt.ext {d:Nat} {h h':Nat->Nat->Nat} {L L':Nat->Nat} (hL:FieldLaws q add mul):∀ t,GrSt q r add mul d t h L->(∀ i,i<t->∀ j,j<r->h i j=h' i j)->(∀ v,v<q ^ r->L v=L' v)->GrSt q r add mul d t h' L'
 | 0,H,_,e=>fun v hv=>by rw [<-e v hv]; exact H v hv
 | t+1,⟨L0,v,h1,h2,h3,h4,h5,h6⟩,hh,e=>⟨L0,v,GrSt.ext hL t h1 (fun i hi=>hh i (by omega)) (fun _ _=>rfl),h2,h3,h4,fun j hj=>by rw [<-hh t (by omega) j hj]; exact h5 j hj,h6.cong (fun _ _ g=>g.2.2) hL (hh t (by omega)) (fun _ _=>rfl) e⟩
theorem RfSt.ext {d n:Nat} {h h':Nat->Nat->Nat} {L L':Nat->Nat} (hL:FieldLaws q add mul):∀ t,RfSt q r add mul d n t h L->(∀ i,i<t->∀ j,j<r->h i j=h' i j)->(∀ v,v<q ^ r->L v=L' v)->RfSt q r add mul d n t h' L'
 | 0,H,_,e=>fun v hv=>by rw [<-e v hv]; exact H v hv
 | t+1,⟨L0,v,h1,h2,h3,h4,h5,h6⟩,hh,e=>⟨L0,v,RfSt.ext hL t h1 (fun i hi=>hh i (by omega)) (fun _ _=>rfl),h2,h3,h4,fun j hj=>by rw [<-hh t (by omega) j hj]; exact h5 j hj,h6.cong (fun _ _ g=>g.2.2) hL (hh t (by omega)) (fun _ _=>rfl) e⟩
theorem zeA {d n:Nat} (hd:d<=n) (hL:FieldLaws q add mul) {h h':Nat->Nat->Nat}:∀ t L L',GrSt q r add mul d t h L->RfSt q r add mul d n t h' L'->(∀ i,i<t->∀ j,j<r->h i j=h' i j)/\∀ v,v<q ^ r->L v=min (L' v) (d - 1)
 | 0,L,L',H,H'=>⟨fun i hi=>absurd hi (by omega),fun v hv=>by
  rw [H v hv,H' v hv]; split <;> omega⟩
 | t + 1, L, L', ⟨L0, v, h1, h2, h3, h4, h5, h6⟩, ⟨L0', v', h1', h2', h3', h4', h5', h6'⟩ => by
  obtain ⟨k1,k2⟩:=zeA hd hL t L0 L0' h1 h1'
  have hv:v=v':=by
   rcases Nat.lt_trichotomy v v' with e | e | e
   ·have a1:=h4' v e
    have a2:=h3 a1.1
    have a3:=k2 v h2
    omega
   ·exact e
   ·have a1:=h4 v' e
    have a2:=h3' a1.1
    have a3:=k2 v' h2'
    omega
  subst hv
  have ht:∀ j,j<r->h t j=h' t j:=fun j hj=>by rw [h5 j hj,h5' j hj]
  refine ⟨fun i hi j hj=>?_,?_⟩
  ·by_cases e:i=t
   ·rw [e]; exact ht j hj
   ·exact k1 i (by omega) j hj
  ·exact h6.uniq ((h6'.cut (d - 1) k2).cong (fun _ _ g=>g.2.2) hL (fun j hj=>(ht j hj).symm) (fun _ _=>rfl) (fun _ _=>rfl))
theorem zeT {d n t:Nat} (hd:d<=n) (hL:FieldLaws q add mul) {h h':Nat->Nat->Nat} {L L':Nat->Nat} (H:GrSt q r add mul d t h L) (hs:∀ v,v<q ^ r->2<=d/\L v<=d - 2) (H':RfSt q r add mul d n (t+1) h' L'):False:=by
 obtain ⟨L0,v,h1,h2,h3,_⟩:=H'
 have k:=(zeA hd hL t L L0 H h1).2 v h2
 have:=hs v h2
 have:=h3 this.1
 omega
theorem RfSt.prev {d n:Nat} {h:Nat->Nat->Nat}:∀ k t L,RfSt q r add mul d n (t+k) h L->∃ L0,RfSt q r add mul d n t h L0
 | 0,_,L,H=>⟨L,H⟩
 | k+1,t,L,H=>by
  obtain ⟨L0,v,h1,_⟩:=(show RfSt q r add mul d n (t+k+1) h L from H)
  exact RfSt.prev k t L0 h1
theorem GrSt.lt {d:Nat} {h:Nat->Nat->Nat} (hq:0<q):∀ t L,GrSt q r add mul d t h L->∀ i,i<t->∀ j,j<r->h i j<q
 | 0,_,_,i,hi=>absurd hi (by omega)
 | t+1,_,⟨L0,v,h1,_,_,_,h5,_⟩,i,hi=>fun j hj=>by
  by_cases e:i=t
  ·rw [e,h5 j hj]; exact zc6 hq
  ·exact GrSt.lt hq t L0 h1 i (by omega) j hj
theorem GrSt.upper {d:Nat} {h:Nat->Nat->Nat} (hL:FieldLaws q add mul):∀ t L,GrSt q r add mul d t h L->∀ c:Nat->Nat,(∀ i,i<t->c i<q)->L (idxW q (fun j=>spE add mul h c t j) r)<=wtC c t
 | 0, L, H, c, _ => by
  have hq:=hL.two
  have e:idxW q (fun j=>spE add mul h c 0 j) r=0:=by
   have e1:idxW q (fun _=>0) r=0:=by
    clear H
    induction r with
    | zero=>rfl
    | succ r ih=>show idxW q (fun _=>0) r*q+0=0; rw [ih]; omega
   exact e1
  rw [e,H 0 (Nat.pow_pos (by omega)),if_pos rfl]; exact Nat.zero_le _
 | t + 1, L, H, c, hc => by
  have hlt:=H.lt (by have:=hL.two; omega)
  obtain ⟨L0,v,h1,h2,h3,h4,h5,h6⟩:=H
  have ih:=GrSt.upper hL t L0 h1 c fun i hi=>hc i (by omega)
  have hct:=hc t (by omega)
  have hq:=hL.two
  obtain ⟨u,hu⟩:∃ u,u=idxW q (fun j=>spE add mul h c t j) r:=⟨_,rfl⟩
  have hult:u<q ^ r:=by rw [hu]; exact zcv _ fun _ _=>zaR hL _ _ _
  rw [<-hu] at ih
  show L _<=wtC c t+_
  by_cases e:c t=0
  ·have e1:idxW q (fun j=>spE add mul h c (t+1) j) r=u:=by
    rw [hu]
    refine zas _ fun j hj=>?_
    show add (spE add mul h c t j) (mul (c t) (h t j))=_
    rw [e,hL.mulComm 0 _ (by omega) (hlt t (by omega) j hj),hL.mulZero (hlt t (by omega) j hj),hL.addZero (zaR hL _ _ _)]
   rw [e1,if_pos e]
   exact Nat.le_trans (h6.le u hult) ih
  ·have e1:idxW q (fun j=>spE add mul h c (t+1) j) r=plusI q r add mul (h t) (c t) u:=by
    refine zas _ fun j hj=>?_
    show add (spE add mul h c t j) (mul (c t) (h t j))=add (digW q r u j) _
    rw [hu,zca (by omega) r (fun i _=>zaR hL _ _ _) j hj]
   rw [e1,if_neg e]
   exact Nat.le_trans (h6.at' (c t) u ⟨by omega,hct,hult⟩) (by omega)
theorem GrSt.heavy {d:Nat} {h:Nat->Nat->Nat} (hL:FieldLaws q add mul) {x:Nat->Nat}:∀ t L,GrSt q r add mul d t h L->(∀ i,i<t->x i<q)->(∀ j,j<r->spE add mul h x t j=0)->(∀ i,i<t->x i=0)∨d<=wtC x t
 | 0,_,_,_,_=>.inl fun i hi=>absurd hi (by omega)
 | t + 1, L, H, hx, h0 => by
  have hlt:=H.lt (by have:=hL.two; omega)
  obtain ⟨L0,v,h1,h2,h3,h4,h5,h6⟩:=H
  have hq:=hL.two
  have hht:=hlt t (by omega)
  have hxt:=hx t (by omega)
  by_cases e:x t=0
  ·have h0':∀ j,j<r->spE add mul h x t j=0:=fun j hj=>by
    have g:add (spE add mul h x t j) (mul (x t) (h t j))=0:=h0 j hj
    rwa [e,hL.mulComm 0 _ (by omega) (hht j hj),hL.mulZero (hht j hj),hL.addZero (zaR hL _ _ _)] at g
   rcases GrSt.heavy hL t L0 h1 (fun i hi=>hx i (by omega)) h0' with g | g
   ·exact .inl fun i hi=>by
     by_cases e2:i=t
     ·rw [e2]; exact e
     ·exact g i (by omega)
   ·right
    show d<=wtC x t+_
    omega
  ·right
   show d<=wtC x t+(if x t=0 then 0 else 1)
   rw [if_neg e]
   by_cases hd:2<=d
   ·have h3:=h3 hd
    -- the vector is a combination of the earlier ones
    obtain ⟨y,hy,hxy⟩:=hL.inv (x t) hxt e
    obtain ⟨ny,hny,hyn⟩:=hL.neg y hy
    have hc:∀ i,i<t->mul ny (x i)<q:=fun _ _=>hL.mulLt _ _
    have key:∀ j,j<r->spE add mul h (fun i=>mul ny (x i)) t j=digW q r v j:=fun j hj=>by
     have hs:∀ s,s<=t->spE add mul h (fun i=>mul ny (x i)) s j=mul ny (spE add mul h x s j):=by
      intro s
      induction s with
      | zero=>intro _; exact (hL.mulZero hny).symm
      | succ s ih =>
       intro hs
       show add (spE add mul h (fun i=>mul ny (x i)) s j) (mul (mul ny (x s)) (h s j))=mul ny (add (spE add mul h x s j) (mul (x s) (h s j)))
       rw [ih (by omega),hL.distrib _ _ _ hny (zaR hL _ _ _) (hL.mulLt _ _),hL.mulAssoc _ _ _ hny (hx s (by omega)) (hlt s (by omega) j hj)]
     rw [hs t (Nat.le_refl _),<-h5 j hj]
     have g:add (spE add mul h x t j) (mul (x t) (h t j))=0:=h0 j hj
     -- multiply by ny,then add
     have hS:=zaR hL (V:=h) x t j
     have hM:=hL.mulLt (x t) (h t j)
     have g2:add (mul ny (spE add mul h x t j)) (mul ny (mul (x t) (h t j)))=0:=by
      rw [<-hL.distrib _ _ _ hny hS hM,g]; exact hL.mulZero hny
     have g3:add (mul y (mul (x t) (h t j))) (mul ny (mul (x t) (h t j)))=0:=by
      rw [hL.mulComm y _ hy hM,hL.mulComm ny _ hny hM,<-hL.distrib _ _ _ hM hy hny,hyn]; exact hL.mulZero hM
     have g4:mul y (mul (x t) (h t j))=h t j:=by
      rw [<-hL.mulAssoc _ _ _ hy hxt (hht j hj),hL.mulComm y _ hy hxt,hxy,hL.oneMul _ (hht j hj)]
     obtain ⟨z,hz,hz0⟩:=hL.neg (mul ny (mul (x t) (h t j))) (hL.mulLt _ _)
     have cancel:∀ a,a<q->add a (mul ny (mul (x t) (h t j)))=0->a=z:=fun a ha e=>by
      have e1:add (add a (mul ny (mul (x t) (h t j)))) z=a:=by
       rw [hL.addAssoc _ _ _ ha (hL.mulLt _ _) hz,hz0,hL.addZero ha]
      rw [e,hL.zeroAdd z hz] at e1
      exact e1.symm
     rw [cancel _ (hL.mulLt _ _) g2,<-cancel _ (hL.mulLt _ _) g3,g4]
    have hup:=GrSt.upper hL t L0 h1 _ hc
    rw [zas r key,zbr (by omega) r v h2] at hup
    have hw:∀ s,s<=t->wtC (fun i=>mul ny (x i)) s<=wtC x s:=by
     intro s
     induction s with
     | zero=>intro _; exact Nat.le_refl _
     | succ s ih =>
      intro hs
      have:=ih (by omega)
      show wtC _ s+(if mul ny (x s)=0 then 0 else 1)<=wtC x s+(if x s=0 then 0 else 1)
      by_cases e3:x s=0
      ·rw [e3,hL.mulZero hny]; exact this
      ·rw [if_neg e3]; split <;> omega
    have:=hw t (Nat.le_refl _)
    omega
   ·omega
end
open Go.RowKit
def RowPost' (n:Nat) (f:Nat->Nat) (w:World) (e:Ending) (w':World):Prop:=∃ g,w.heap.size<=g/\e=.returned (.slice (some ⟨g,0,none⟩) n n)/\w'.rowIs g 3 n (fun i=>.int .i64 (f i:Nat))/\Below w.heap.size w w'
theorem zdp (v q n:Nat) (w:World) (hq:1<=q) (hq2:q<=1048576) (hv:v<=1048576) (hn:n<=1048576) :
  Calls Try.prog 20 #[.int .i64 (v:Nat),.int .i64 (q:Nat),.int .i64 (n:Nat)] w (RowPost' n (digW q n v) w):=by
 have hmk:=fun W=>zao (P:=Try.prog) 22 3 _ 8 Try.underlying22 Try.infoInt rfl (n:Int) (by omega) (by omega) (by omega) W
 simp only [Int.toNat_natCast] at hmk
 have row:=World.rowIs_made w (.int .i64 0) n 3
 have hB:Below w.heap.size w (w.alloc (.cells (madeCells #[.int .i64 0] n) 3)):=(Below.refl _ _).alloc (Nat.le_refl _) _
 have hp1:(1:Int)<=(q:Int):=by omega
 have hp0:¬ (q:Int)=0:=by omega
 have hpm:(q:Int)<=1048576:=by omega
 go_enter Try.func20, Try.ntmps20
 go_wp2
 obtain ⟨w1,hw1⟩:∃ W,W=w.alloc (.cells (madeCells #[.int .i64 0] n) 3):=⟨_,rfl⟩
 obtain ⟨g,hg⟩:∃ g,g=w.heap.size:=⟨_,rfl⟩
 rw [<-hw1,<-hg];rw [<-hw1] at hB row;rw [<-hg] at row
 have hgB:w.heap.size<=g:=by omega
 clear hw1 hg hmk
 go_loopg [0,8] n (fun gg xv iv wx=>∃ (k:Nat) (x:Int),iv=.int .i64 x/\Hid (x=(k:Int) - 1)/\xv=.int .i64 (v / q ^ (n - k):Nat)/\k<=n/\k<=gg/\wx.rowIs g 3 n (fun j=>.int .i64 ((if k<=j then digW q n v j else 0:Nat):Int))/\Below w.heap.size w wx)
 case atStart=>exact ⟨n,_,rfl,hid rfl,by simp,by omega,by omega,row.congr fun i hi=>by show _=Value.int .i64 ((if n<=i then _ else 0:Nat):Int); rw [if_neg (by omega)]; rfl,hB⟩
 case round =>
  clear row hB
  obtain ⟨k,x,rfl,hx,rfl,hk,hkg,row,hB⟩:=hrel
  by_cases h0:k=0
  ·subst h0
   obtain rfl:x = -1:=by have:=hx.out; omega
   have hge:¬ (-1:Int) ≥ 0:=by omega
   clear hx
   go_wp2
   go_ret
   exact ⟨g,hgB,rfl,row.congr fun i _=>by rw [if_pos (Nat.zero_le _)],hB⟩
  ·obtain ⟨j,rfl⟩:∃ j,k=j+1:=⟨k - 1,by omega⟩
   obtain rfl:x=(j:Int):=by have:=hx.out; omega
   clear hx h0
   have hle:v / q ^ (n - (j+1))<=v:=Nat.div_le_self _ _
   have hst:v / q ^ (n - j)=v / q ^ (n - (j+1)) / q:=by rw [show n - j=(n - (j+1))+1 by omega,Nat.pow_succ,Nat.div_div_eq_div_mul]
   have hdg:digW q n v j=v / q ^ (n - (j+1)) % q:=by unfold digW; rw [show n - 1 - j=n - (j+1) by omega]
   obtain ⟨y,hy⟩:∃ y,y=v / q ^ (n - (j+1)):=⟨_,rfl⟩
   rw [<-hy] at hle hst hdg;rw [<-hy]
   have HST:=hid hst
   have HDG:=hid hdg
   clear hy hst hdg
   have hlt':(j:Int)<(n:Int):=by omega
   have hj0:(0:Int)<=(j:Int):=by omega
   have hge:(j:Int) ≥ 0:=by omega
   have hy0:(0:Int)<=(y:Int):=by omega
   have hy1:(y:Int)<=1048576:=by omega
   have hmod:(y:Int) % (q:Int)=((y % q:Nat):Int):=by simp
   have hdiv:(y:Int) / (q:Int)=((y / q:Nat):Int):=by simp
   obtain ⟨r,hr⟩:∃ r,r=y % q:=⟨_,rfl⟩
   obtain ⟨z,hz⟩:∃ r,r=y / q:=⟨_,rfl⟩
   rw [<-hr] at hmod;rw [<-hz] at hdiv
   have hz0:(0:Int)<=(z:Int):=by omega
   have hz1:(z:Int)<=1048576:=by have:y / q<=y:=Nat.div_le_self _ _; omega
   have HR:=hid hr
   have HZ:=hid hz
   clear hr hz
   have hf0:=row.frozen j
   have hc0:=row.cell (i:=j) (by omega)
   have hw1:IntKind.i64.wrap ((j:Int) - 1)=(j:Int) - 1:=by rw [IntWalk.i64_in _ (by omega)]
   obtain ⟨w2,hw2⟩:∃ W,W=wr:=⟨_,rfl⟩
   rw [<-hw2] at row hB hf0 hc0 ⊢;clear hw2
   go_wp2
   have row2:=row.set j (.int .i64 (r:Nat))
   have hB2:=hB.setCell (p:=⟨g,j,none⟩) hgB (.int .i64 (r:Nat))
   go_roundg (gk - 1)
   case measure=>omega
   case rel =>
    refine ⟨j,_,rfl,hid rfl,by rw [HST.out,HZ.out],by omega,by omega,row2.congr fun i hi=>?_,hB2⟩
    show (if i=j then Value.int .i64 (r:Nat) else .int .i64 ((if j+1<=i then digW q n v i else 0:Nat):Int))=.int .i64 ((if j<=i then digW q n v i else 0:Nat):Int)
    by_cases e:i=j
    ·subst e
     rw [if_pos rfl,if_pos (Nat.le_refl _),HDG.out,HR.out]
    ·rw [if_neg e]
     by_cases e2:j<=i
     ·rw [if_pos e2,if_pos (by omega)]
     ·rw [if_neg e2,if_neg (by omega)]
theorem zcb (w:World) (ty:TypeId) (g r:Nat) (f:Nat->Value) (h:w.rowIs g 3 r f):(Builtin.clear_ #[22] ty #[.slice (some ⟨g,0,none⟩) r r]).run Try.prog w=.ok (.tuple #[]) (w.setCells g 0 (List.replicate r (.int .i64 0))):=by
 rcases Nat.eq_zero_or_pos r with e | e
 ·subst e
  simp [Builtin.clear_,run_underlying Try.underlying22, World.setCells]
 ·refine Lib.run_clear_slice (P:=Try.prog) w 22 3 ty (.int .i64 0) Try.underlying22 (fun _=>rfl) rfl rfl g 0 r r e (fun j hj=>?_) (fun j hj=>?_)
  ·rw [Nat.zero_add,h.cell hj]; rfl
  ·rw [Nat.zero_add,h.frozen j]
theorem za8 {B:Nat} {w:World} {b:Nat} (hb:B<=b):∀ (vs:List Value) (o:Nat) (w':World),Below B w w'->Below B w (w'.setCells b o vs)
 | [],_,_,h=>h
 | v :: r,o,_,h=>za8 hb r (o+1) _ (h.setCell (p:=⟨b,o,none⟩) hb v)
theorem zbA {base e s n:Nat} {v:Value} {f:Nat->Nat->Value} {b:Nat} (hne:v.ownBlock≠some b):∀ (vs:List Value) (o:Nat) (w:World),Own w base e s v n f->Own (w.setCells b o vs) base e s v n f
 | [],_,_,h=>h
 | x :: r,o,_,h=>zbA hne r (o+1) _ (h.setCell (a:=⟨b,o,none⟩) hne x)
theorem zdZ {q:Nat} {u:Nat->Nat} {r j:Nat} (hj:j<=r) (h:∀ i,i<r->u i<q) (hq:1<=q):idxW q u j<q ^ r:=Nat.lt_of_lt_of_le (zcv j fun i hi=>h i (by omega)) (Nat.pow_le_pow_right hq hj)
theorem zc8 {q:Nat} {u u':Nat->Nat} {j:Nat} (hq:1<=q):∀ r,j<r->(∀ t,t<j->u' t=u t)->u' j=u j+1->(∀ t,j<t->t<r->u t=q - 1/\u' t=0)->idxW q u' r=idxW q u r+1
 | 0,hj,_,_,_=>absurd hj (by omega)
 | r + 1, hj, h1, h2, h3 => by
  show idxW q u' r*q+u' r=idxW q u r*q+u r+1
  by_cases e:j=r
  ·subst e
   rw [zas j h1,h2]; omega
  ·have ih:=zc8 (u:=u) (u':=u') hq r (by omega) h1 h2 fun t a b=>h3 t a (by omega)
   obtain ⟨g1,g2⟩:=h3 r (by omega) (by omega)
   rw [ih,g1,g2,Nat.add_mul,Nat.one_mul]; omega
theorem zc9 {q:Nat} {u:Nat->Nat} (hq:1<=q):∀ r,(∀ t,t<r->u t=q - 1)->idxW q u r+1=q ^ r
 | 0,_=>by simp [idxW]
 | r+1,h=>by
  have ih:=zc9 (u:=u) hq r fun t ht=>h t (by omega)
  show idxW q u r*q+u r+1=q ^ (r+1)
  rw [h r (by omega),Nat.pow_succ,<-ih,Nat.add_mul,Nat.one_mul]; omega
def DPairs (Q a i a' u':Nat):Prop:=1<=a'/\a'<a/\u'<Q∨a'=a/\u'<i
structure JM (w wx:World) (go gu gs Q r cap:Nat) (O U S:Nat->Nat):Prop where
 own:Own wx w.heap.size 3 1 (.slice (some ⟨go,0,none⟩) Q cap) Q (fun i _=>.int .i64 (O i:Nat))
 u:wx.rowIs gu 3 r (fun j=>.int .i64 (U j:Nat))
 s:wx.rowIs gs 3 r (fun j=>.int .i64 (S j:Nat))
 below:Below w.heap.size w wx
 ge1:w.heap.size<=go
 ge2:w.heap.size<=gu
 n1:go≠gu
 n2:gs≠go
 n3:gs≠gu
section
variable {w wx w':World} {go gu gs Q r cap:Nat} {O U S:Nat->Nat}
theorem JM.on (h:JM w wx go gu gs Q r cap O U S) (hb:Below wx.heap.size wx w'):JM w w' go gu gs Q r cap O U S :=
 ⟨h.own.on hb,zaa h.u hb,zaa h.s hb,onS h.below hb,h.ge1,h.ge2,h.n1,h.n2,h.n3⟩
theorem JM.setU (h:JM w wx go gu gs Q r cap O U S) (j x:Nat):JM w (wx.setCell ⟨gu,j,none⟩ (.int .i64 (x:Nat))) go gu gs Q r cap O (fun t=>if t=j then x else U t) S :=
 ⟨h.own.setCell (a:=⟨gu,j,none⟩) (fun e=>h.n1 (by injection e)) _,(h.u.set j _).congr fun t _=>by
  show (if t=j then Value.int .i64 (x:Nat) else .int .i64 (U t:Nat))=.int .i64 ((if t=j then x else U t:Nat):Int)
  split <;> rfl,rowIs_setCells_other h.n3 [_] j wx h.s,h.below.setCell (p:=⟨gu,j,none⟩) h.ge2 _,h.ge1,h.ge2,h.n1,h.n2,h.n3⟩
theorem JM.setO (h:JM w wx go gu gs Q r cap O U S) {p:Nat} (hp:p<Q) (x:Nat):JM w (wx.setCell ⟨go,p,none⟩ (.int .i64 (x:Nat))) go gu gs Q r cap (fun v=>if v=p then x else O v) U S:=by
 refine ⟨?_,rowIs_setCells_other (fun e=>h.n1 e.symm) [_] p wx h.u,rowIs_setCells_other h.n2 [_] p wx h.s,h.below.setCell (p:=⟨go,p,none⟩) h.ge1 _,h.ge1,h.ge2,h.n1,h.n2,h.n3⟩
 have h1:=h.own.set (a:=p) (b:=0) hp (by omega) (.int .i64 (x:Nat))
 rw [Nat.mul_one,Nat.add_zero,Nat.zero_add] at h1
 refine h1.congr fun i hi j hj=>?_
 obtain rfl:j=0:=by omega
 show (if i=p/\0=0 then Value.int .i64 (x:Nat) else .int .i64 (O i:Nat))=.int .i64 ((if i=p then x else O i:Nat):Int)
 by_cases e:i=p
 ·rw [if_pos ⟨e,rfl⟩,if_pos e]
 ·rw [if_neg fun g=>e g.1,if_neg e]
theorem JM.atO (h:JM w wx go gu gs Q r cap O U S) {p:Nat} (hp:p<Q):wx.cell? ⟨go,p,none⟩=some (.int .i64 (O p:Nat))/\wx.frozen? ⟨go,p,none⟩=false:=by
 refine ⟨?_,h.own.frozen p⟩
 obtain ⟨g,o,c,e,_,_,_,_,hc⟩:=h.own.form (by omega)
 injection e with e _ _
 injection e with e
 injection e with e1 e2
 subst e1 e2
 have h1:=hc p hp 0 (by omega)
 rwa [Nat.mul_one,Nat.add_zero,Nat.zero_add] at h1
theorem JM.congr {O' U':Nat->Nat} (h:JM w wx go gu gs Q r cap O U S) (e1:∀ i,i<Q->O i=O' i) (e2:∀ i,i<r->U i=U' i):JM w wx go gu gs Q r cap O' U' S :=
 ⟨h.own.congr fun i hi _ _=>by rw [e1 i hi],h.u.congr fun i hi=>by rw [e2 i hi],h.s,h.below,h.ge1,h.ge2,h.n1,h.n2,h.n3⟩
end
def JoinedPost (P M:Nat) (m:Nat->Nat) (r Q q:Nat) (h L:Nat->Nat) (w:World) (e:Ending) (w':World):Prop :=
 ∃ (LB:Option Addr) (lb:Nat) (L':Nat->Nat),e=.returned (.slice LB Q lb)/\Own w' w.heap.size 3 1 (.slice LB Q lb) Q (fun i _=>.int .i64 (L' i:Nat))/\JoinR q r (addF P M) (mulF P M m) (AllP q r) h L L'/\Below w.heap.size w w'
theorem zd0 {P M gp:Nat} {m:Nat->Nat} (LA VA:Option Addr) (lc vc r Q q:Nat) (L h:Nat->Nat) (w:World) (HQ:Hid (q=P ^ M)) (HQr:Hid (Q=q ^ r)) (hQ2:Q<=65536) (hr:r<=64) (hG:GF w w.heap.size gp P M m) (hl:IntsR w w.heap.size LA Q (fun i=>(L i:Nat))) (hv:IntsR w w.heap.size VA r (fun i=>(h i:Nat))) (hh:∀ j,j<r->h j<q) (hL:∀ v,v<Q->L v<=64) :
  Calls Try.prog 21 #[.pointer (some ⟨gp,0,none⟩),.slice LA Q lc,.slice VA r vc] w (JoinedPost P M m r Q q h L w):=by
 have hq256:q<=256:=by rw [HQ.out]; exact hG.ok.1.2.2.2
 have h2q:2<=q:=by rw [HQ.out]; exact (fieldLaws hG.ok).two
 have hQ0:0<Q:=by rw [HQr.out]; exact Nat.pow_pos (by omega)
 have HG:=hid hG
 have HV:=hid hv
 have HL:=hid hl
 have HH:=hid hh
 have HLb:=hid hL
 have n3:Hid (Q<=maxLen):=by show _<=_; unfold maxLen; omega
 have n4:Hid (Q*8<=140737488355328):=by show _<=_; omega
 obtain ⟨i0,qi0,qz0,qz1,qz2⟩:=info_parts Try.infoInt
 have hmk:=fun W=>zao (P:=Try.prog) 22 3 _ 8 Try.underlying22 Try.infoInt rfl (r:Int) (by omega) (by omega) (by omega) W
 simp only [Int.toNat_natCast] at hmk
 clear hG hl hv hh hL
 go_enter Try.func21, Try.ntmps21
 go_upto_region 2 with (first | (at_builtin; (refine zah rfl (.const (.slice none 0 0)) (.tmp 17) _ rfl 3 i0 _ 1 8 Try.underlying22 qi0 qz0 qz1 qz2 rfl (by omega) none rfl LA Q lc (fun i _=>.int .i64 (L i:Nat)) rfl HL.out hQ0 (fun _ _ _ _=>rfl) n3.out n4.out ?_); intro cap cur k1 k2 k3 k4))
 have hO0:=Own.new (w:=w) (base:=w.heap.size) (e := 3) (f:=fun i _=>.int .i64 (L i:Nat)) (Nat.le_refl _) k1 k2 k3 k4
 have hO1:=hO0.drew
 have hB1:Below w.heap.size w (w.alloc (.cells cur 3)).drew:=((Below.refl _ _).alloc (Nat.le_refl _) _).drew
 obtain ⟨w1,hw1⟩:∃ W,W=(w.alloc (.cells cur 3)).drew:=⟨_,rfl⟩
 rw [<-hw1] at hO1 hB1 ⊢
 obtain ⟨go,hgo⟩:∃ g,g=w.heap.size:=⟨_,rfl⟩
 have hgoB:w.heap.size<=go:=Nat.le_of_eq hgo.symm
 have hgo1:go<w1.heap.size:=by rw [hw1,hgo]; simp
 rw [show (Value.slice (some ⟨w.heap.size,0,none⟩) Q cap)=.slice (some ⟨go,0,none⟩) Q cap by rw [hgo]] at hO1
 rw [<-hgo];clear hw1 hgo hO0 k3 k4
 have HO1:=hid hO1
 have HB1:=hid hB1
 clear hO1 hB1
 go_wp2_with fail
 refine (zb5 (HG.out.on HB1.out)).mono ?_
 rintro e w2 ⟨rfl,kb⟩
 rw [<-HQ.out]
 have HO2:=hid (HO1.out.on kb)
 have HB2:=hid (onS HB1.out kb)
 have hgo2:go<w2.heap.size:=Nat.lt_of_lt_of_le hgo1 kb.size
 clear kb HO1 HB1 hgo1
 go_upto_region 4 with fail
 have rz:World.rowIs (World.alloc w2 (Obj.cells (madeCells #[Value.int .i64 0] r) 3)) w2.heap.size 3 r (fun _=>.int .i64 0):=World.rowIs_made _ (.int .i64 0) r 3
 have kb:Below w2.heap.size w2 (World.alloc w2 (Obj.cells (madeCells #[Value.int .i64 0] r) 3)):=(Below.refl _ _).alloc (Nat.le_refl _) _
 obtain ⟨w3,hw3⟩:∃ W,W=World.alloc w2 (Obj.cells (madeCells #[Value.int .i64 0] r) 3):=⟨_,rfl⟩
 rw [<-hw3] at rz kb ⊢
 obtain ⟨gu,hgu⟩:∃ g,g=w2.heap.size:=⟨_,rfl⟩
 have hne:go≠gu:=by omega
 have hguB:w.heap.size<=gu:=by have:=HB2.out.size; omega
 rw [<-hgu] at rz ⊢;clear hw3 hgu
 have HO3:=hid (HO2.out.on kb)
 have HB3:=hid (onS HB2.out kb)
 clear kb HO2 HB2 hgo2 hmk
 have HNE:Hid ((Value.slice (some ⟨go,0,none⟩) Q cap).ownBlock≠some gu):=hid fun e=>hne (by injection e)
 go_upto_region 5 with fail
 obtain ⟨w4,hw4⟩:∃ X,X=w3:=⟨_,rfl⟩
 go_loopg [10] q (fun gg av wx=>∃ (a:Nat) (O:Nat->Nat) (U:Nat->Nat),av=.int .i64 (a:Nat)/\1<=a/\a<=q/\q<=a+gg/\Own wx w.heap.size 3 1 (.slice (some ⟨go,0,none⟩) Q cap) Q (fun i _=>.int .i64 (O i:Nat))/\JoinR q r (addF P M) (mulF P M m) (DPairs Q a 0) h L O/\wx.rowIs gu 3 r (fun j=>.int .i64 (U j:Nat))/\Below w.heap.size w wx)
 case atStart =>
  refine ⟨1,L,fun _=>0,rfl,by omega,by omega,by omega,HO3.out,JoinR.init.congr fun a' u'=>?_,rz,HB3.out⟩
  unfold DPairs
  exact ⟨False.elim,fun h=>by rcases h with ⟨_,_,_⟩ | ⟨_,_⟩ <;> omega⟩
 case round =>
  clear rz HO3 HB3 hw4 w4
  obtain ⟨a,O,U,rfl,ha1,haq,hag,hO,hJ,hU,hB⟩:=hrel
  have ha0:(0:Int)<=(a:Int):=by omega
  by_cases hlt:a<q
  ·have hlt':(a:Int)<(q:Int):=by omega
   have HO:=hid hO
   have HJ:=hid hJ
   obtain ⟨w4,hw4⟩:∃ X,X=wr:=⟨_,rfl⟩
   subst hw4
   clear hO hJ
   go_wp2_with fail
   refine (zbO a r VA vc h (HG.out.on hB) (by rw [<-HQ.out]; exact hlt) (HV.out.on hB) (fun i hi=>by rw [<-HQ.out]; exact HH.out i hi) (by omega)).mono ?_
   rintro e w5 ⟨gs,rfl,hgs,hS,kb⟩
   have hgu4:=hU.lt
   have hgo4:go<w4.heap.size:=(HO.out.lt go rfl).2
   have HM5:=hid (show JM w w5 go gu gs Q r cap O U (fun i=>mulF P M m a (h i)) from ⟨HO.out.on kb,zaa hU kb,hS,onS hB kb,hgoB,hguB,hne,by omega,by omega⟩)
   clear hU hB kb HO hS hgs hgu4 hgo4
   have hcl:=fun ty=>zcb w5 ty gu r _ HM5.out.u
   go_upto_region 9 with fail
   have HM6:=hid (show JM w (w5.setCells gu 0 (List.replicate r (Value.int .i64 0))) go gu gs Q r cap O (fun _=>0) (fun i=>mulF P M m a (h i)) from
    ⟨zbA (fun e=>hne (by injection e)) (List.replicate r (Value.int .i64 0)) 0 _ HM5.out.own,(rowIs_setCells _ 0 _ _ HM5.out.u).congr fun j hj=>by
     rw [List.length_replicate,if_pos ⟨Nat.zero_le _,by omega⟩,Nat.sub_zero,List.getElem?_replicate,if_pos hj]
     rfl,rowIs_setCells_other HM5.out.n3 (List.replicate r (Value.int .i64 0)) 0 _ HM5.out.s,za8 hguB (List.replicate r (Value.int .i64 0)) 0 _ HM5.out.below,hgoB,hguB,hne,HM5.out.n2,HM5.out.n3⟩)
   obtain ⟨w6,hw6⟩:∃ W,W=w5.setCells gu 0 (List.replicate r (Value.int .i64 0)):=⟨_,rfl⟩
   rw [<-hw6] at HM6 ⊢;clear hw6 hcl HM5
   go_upto_region 10 with fail
   obtain ⟨gO,hgO⟩:∃ x,x=gk:=⟨_,rfl⟩
   subst hgO
   obtain ⟨S,hS⟩:∃ S:Nat->Nat,S=fun i=>mulF P M m a (h i):=⟨_,rfl⟩
   have HSV:Hid (∀ j,S j=mulF P M m a (h j)):=hid fun j=>by rw [hS]
   rw [<-hS] at HM6
   have HSq:Hid (∀ j,S j<q):=hid fun j=>by rw [hS,HQ.out]; exact (fieldLaws HG.out.ok).mulLt _ _
   clear hS
   go_loopg [36] Q (fun gg iv wx=>∃ (i:Nat) (O:Nat->Nat) (U:Nat->Nat),iv=.int .i64 (i:Nat)/\i<=Q/\Q<=i+gg/\JM w wx go gu gs Q r cap O U S/\JoinR q r (addF P M) (mulF P M m) (DPairs Q a i) h L O/\Hid (∀ j,j<r->U j<q)/\Hid (i<Q->∀ j,j<r->U j=digW q r i j))
   case atStart=>exact ⟨0,O,fun _=>0,rfl,by omega,by omega,HM6.out,HJ.out,hid fun j _=>by show 0<q; omega,hid fun _ j _=>zen.symm⟩
   case round =>
    clear HM6 HJ
    obtain ⟨i,O,U,rfl,hi,hig,hM,hJ,HUq,HUd⟩:=hrel
    have hi0:(0:Int)<=(i:Int):=by omega
    have HM:=hid hM
    have HJ:=hid hJ
    obtain ⟨w7,hw7⟩:∃ X,X=wr:=⟨_,rfl⟩
    subst hw7
    clear hM hJ
    by_cases hiQ:i<Q
    ·have hiQ':(i:Int)<(Q:Int):=by omega
     go_upto_region 14 with fail
     obtain ⟨gP,hgP⟩:∃ x,x=gk:=⟨_,rfl⟩
     subst hgP
     go_loopg [13,41] r (fun gg av jv wx=>∃ j:Nat,jv=.int .i64 (j:Nat)/\av=.int .i64 (idxW q (fun t=>addF P M (U t) (S t)) j:Nat)/\j<=r/\r<=j+gg/\Below w7.heap.size w7 wx)
     case atStart=>exact ⟨0,rfl,rfl,by omega,by omega,Below.refl _ _⟩
     case round =>
      obtain ⟨j,rfl,rfl,hj,hjg,hB⟩:=hrel
      have hj0:(0:Int)<=(j:Int):=by omega
      have HFq:Hid (∀ t,t<r->(fun t=>addF P M (U t) (S t)) t<q):=hid fun t _=>by rw [HQ.out]; exact (fieldLaws HG.out.ok).addLt _ _
      have hAQ:idxW q (fun t=>addF P M (U t) (S t)) j<Q:=by rw [HQr.out]; exact zdZ hj HFq.out (by omega)
      by_cases hlj:j<r
      ·have hlj':(j:Int)<(r:Int):=by omega
       have hst:idxW q (fun t=>addF P M (U t) (S t)) (j+1)=idxW q (fun t=>addF P M (U t) (S t)) j*q+addF P M (U j) (S j):=rfl
       have hsq:addF P M (U j) (S j)<q:=HFq.out j hlj
       obtain ⟨A,hA⟩:∃ A,A=idxW q (fun t=>addF P M (U t) (S t)) j:=⟨_,rfl⟩
       rw [<-hA] at hst hAQ ⊢
       have HST:=hid hst
       clear hst hA
       have HMj:=hid (HM.out.on hB)
       have u0:wr.cell? ⟨gu,j,none⟩=some (.int .i64 (U j:Nat)):=HMj.out.u.cell hlj
       have s0:wr.cell? ⟨gs,j,none⟩=some (.int .i64 (S j:Nat)):=HMj.out.s.cell hlj
       obtain ⟨x,hx⟩:∃ x,x=U j:=⟨_,rfl⟩
       obtain ⟨y,hy⟩:∃ y,y=S j:=⟨_,rfl⟩
       have hix:inV (P ^ M) (x:Nat)=x:=by rw [hx,<-HQ.out]; exact zat (HUq.out j hlj)
       have hiy:inV (P ^ M) (y:Nat)=y:=by rw [hy,<-HQ.out]; exact zat (HSq.out j)
       rw [<-hx,<-hy] at hsq;rw [<-hx] at u0;rw [<-hy] at s0
       have HX:=hid hx
       have HY:=hid hy
       have HIX:=hid hix
       have HIY:=hid hiy
       clear hx hy hix hiy
       obtain ⟨w8,hw8⟩:∃ X,X=wr:=⟨_,rfl⟩
       subst hw8
       have hwA:IntKind.i64.wrap ((A:Int)*(q:Int))=((A*q:Nat):Int):=by
        have h1:A*q<=65536*256:=Nat.mul_le_mul (by omega) hq256
        rw [show (A:Int)*(q:Int)=((A*q:Nat):Int) by push_cast; rfl,IntWalk.i64_in _ (by omega)]
       go_wp2_with fail
       refine (zb6 (x:Int) (y:Int) (HG.out.on HMj.out.below)).mono ?_
       rintro e w9 ⟨rfl,kb⟩
       rw [HIX.out,HIY.out]
       have hB9:=hid (onS hB kb)
       obtain ⟨z,hz⟩:∃ z,z=addF P M x y:=⟨_,rfl⟩
       rw [<-hz] at hsq ⊢
       have hwB:Hid (wrap64 ((A:Int)*(q:Int)+(z:Int))=((A*q+z:Nat):Int)):=by
        have h1:A*q<=65536*256:=Nat.mul_le_mul (by omega) hq256
        show _=_
        obtain ⟨B,hB'⟩:∃ B,B=A*q:=⟨_,rfl⟩
        rw [show (A:Int)*(q:Int)=(B:Int) by rw [hB']; push_cast; rfl,<-hB']
        unfold wrap64
        omega
       have HZ:=hid hz
       clear hz u0 s0 hB kb HMj hwA
       go_wp2
       go_roundg (gk - 1)
       case measure=>omega
       case rel=>exact ⟨j+1,by go_num,by rw [HST.out,show addF P M (U j) (S j)=z by rw [HZ.out,HX.out,HY.out],<-hwB.out],by omega,by omega,hB9.out⟩
      ·obtain rfl:r=j:=by omega
       have hlj':¬ (r:Int)<(r:Int):=by omega
       obtain ⟨w8,hw8⟩:∃ X,X=wr:=⟨_,rfl⟩
       subst hw8
       have HM8:=hid (HM.out.on hB)
       have hpp:idxW q (fun t=>addF P M (U t) (S t)) r=plusI q r (addF P M) (mulF P M m) h a i:=zas r fun t ht=>by rw [HUd.out hiQ t ht,HSV.out t]
       obtain ⟨p,hp⟩:∃ p,p=idxW q (fun t=>addF P M (U t) (S t)) r:=⟨_,rfl⟩
       rw [<-hp] at hpp hAQ ⊢
       have HPP:=hid hpp
       clear hp hpp HFq hB HM
       obtain ⟨o0,o1⟩:=HM8.out.atO hAQ
       have HL8:=hid (HL.out.on HM8.out.below)
       obtain ⟨lb,lo,rfl,hlb,l0⟩:=HL8.out.at hiQ
       have hp0:(0:Int)<=(p:Int):=by omega
       have hpQ:(p:Int)<(Q:Int):=by omega
       have hLi:=HLb.out i hiQ
       obtain ⟨x,hx⟩:∃ x,x=O p:=⟨_,rfl⟩
       obtain ⟨y,hy⟩:∃ y,y=L i:=⟨_,rfl⟩
       rw [<-hx] at o0;rw [<-hy] at l0 hLi
       have HX:=hid hx
       have HY:=hid hy
       clear hx hy
       have hy1:IntKind.i64.wrap ((y:Int)+1)=((y+1:Nat):Int):=by rw [IntWalk.i64_in _ (by omega)]; rfl
       obtain ⟨c,hc⟩:∃ c,c=min x (y+1):=⟨_,rfl⟩
       have hmin:min (x:Int) ((y+1:Nat):Int)=((c:Nat):Int):=by omega
       have hmin2:min (x:Int) ((y:Int)+1)=((c:Nat):Int):=by omega
       have HC:=hid hc
       clear hc
       go_upto_region 18 with fail
       refine wp_region_held_drew (S:=fun w'=>w'.cell? ⟨lb,lo+i,none⟩=some (.int .i64 (y:Nat))) (by kernel_rfl) (cellS (Below.refl _ _).drew l0) (fun hHeld=>?_)
       obtain ⟨w9,hw⟩:∃ W,W=World.drew w8:=⟨_,rfl⟩
       have kb:Below w8.heap.size w8 w9:=by rw [hw]; exact (Below.refl _ _).drew
       rw [<-hw] at hHeld ⊢;clear hw
       have HM9:=hid (HM8.out.on kb)
       replace l0:=cellS kb l0;replace o0:=(HM9.out.atO hAQ).1;replace o1:=(HM9.out.atO hAQ).2;rw [<-HX.out] at o0;clear kb HM8
       refine tkq 0 (h:=tkq 1 (h:=tkq 2 (h:=tkq 3 (h:=tkq 4 (h:=tkq 6 (h:=tkq 7 (h:=tkq 8 (h:=tkq 9 (h:=tkq 10 (h:=?_))))))))))
       refine rdq 5 (h:=fun K hK=>?_)
       go_simp
       refine bkq hK l0 (h:=fun hHeld=>?_)
       clear hK K hHeld
       refine tkq 11 (h:=tkq 12 (h:=?_))
       refine rdq 13 (h:=fun K hK=>?_)
       go_simp
       have HM10:=hid ((HM9.out.setO hAQ c).congr (O':=fun v=>if v=p then min (O p) (L i+1) else O v) (U':=U) (fun v _=>by
        show (if v=p then c else O v)=if v=p then min (O p) (L i+1) else O v
        rw [HC.out,HX.out,HY.out]) (fun _ _=>rfl))
       have HJ2:=hid ((HJ.out.step (a:=a) (u:=i) (p:=p) (by rw [HQ.out]; exact fieldLaws HG.out.ok) HPP.out).congr (D':=DPairs Q a (i+1)) fun a' u'=>by
        unfold DPairs
        constructor
        ·rintro ((⟨_,_,_⟩ | ⟨_,_⟩) | ⟨_,_⟩) <;> omega
        ·rintro (⟨h1,h2,h3⟩ | ⟨h1,h2⟩)
         ·exact .inl (.inl ⟨h1,h2,h3⟩)
         ·by_cases e:u'=i
          ·exact .inr ⟨h1,e⟩
          ·exact .inl (.inr ⟨h1,by omega⟩))
       obtain ⟨w10,hw10⟩:∃ W,W=World.setCell w9 ⟨go,p,none⟩ (.int .i64 (c:Nat)):=⟨_,rfl⟩
       rw [<-hw10] at HM10 ⊢
       have l1:=(HL.out.on HM10.out.below).at hiQ
       obtain ⟨lb2,lo2,hlb2,_,l2⟩:=l1
       obtain ⟨O2,hO2⟩:∃ O2:Nat->Nat,O2=fun v=>if v=p then min (O p) (L i+1) else O v:=⟨_,rfl⟩
       rw [<-hO2] at HM10
       have HJ3:=hid (show JoinR q r (addF P M) (mulF P M m) (DPairs Q a (i+1)) h L O2 from by rw [hO2]; exact HJ2.out)
       have hS2:w10.cell? ⟨lb,lo+i,none⟩=some (.int .i64 (y:Nat)):=by
        injection hlb2 with e
        injection e with e1 e2
        subst e1 e2
        rw [HY.out]; exact l2
       refine bkq hK hS2 (h:=fun hHeld=>?_)
       clear hK K hHeld hS2 l2 hlb2 hO2 hw10 HJ2 HM9 HJ HC l0 o0 o1 hmin hmin2 hy1 HX HY hLi HPP
       refine wpAnyH_done (by kernel_rfl) ?_ _
       have hr1:IntKind.i64.wrap ((r:Int) - 1)=(r:Int) - 1:=by rw [IntWalk.i64_in _ (by omega)]
       have hi1:IntKind.i64.wrap ((i:Int)+1)=((i+1:Nat):Int):=by rw [IntWalk.i64_in _ (by omega)]; rfl
       go_upto_region 20 with fail
       obtain ⟨gR,hgR⟩:∃ x,x=gk:=⟨_,rfl⟩
       subst hgR
       go_loopg [16] r (fun gg jv wx=>∃ (k:Nat) (x:Int) (V:Nat->Nat),jv=.int .i64 x/\Hid (x=(k:Int) - 1)/\k<=r/\k<=gg/\JM w wx go gu gs Q r cap O2 V S/\Hid (∀ t,t<r->V t=if k<=t then 0 else U t)/\Hid (∀ t,k<=t->t<r->U t=q - 1))
       case atStart=>exact ⟨r,_,U,rfl,hid rfl,by omega,by omega,HM10.out,hid fun t ht=>by rw [if_neg (by omega)],hid fun t h1 h2=>by omega⟩
       case round =>
        clear HM10
        obtain ⟨k,x,V,rfl,hx,hk,hkg,hM,HV1,HV2⟩:=hrel
        have HM:=hid hM
        obtain ⟨w11,hw11⟩:∃ X,X=wr:=⟨_,rfl⟩
        subst hw11
        clear hM
        by_cases h0:k=0
        ·subst h0
         obtain rfl:x = -1:=by have:=hx.out; omega
         have hge:¬ (-1:Int) ≥ 0:=by omega
         have hfull:Q<=i+1:=by
          have h1:=zc9 (q:=q) (u:=U) (by omega) r fun t ht=>HV2.out t (Nat.zero_le _) ht
          have h2:idxW q U r=i:=by rw [zas r (HUd.out hiQ)]; exact zbr (by omega) r i (by rw [<-HQr.out]; exact hiQ)
          rw [h2,<-HQr.out] at h1
          omega
         clear hx
         go_wp2
         go_roundg (gP - 1)
         case measure=>omega
         case rel=>exact ⟨i+1,O2,V,by go_num,by omega,by omega,HM.out,HJ3.out,hid fun t ht=>by rw [HV1.out t ht,if_pos (Nat.zero_le _)]; omega,hid fun h=>absurd h (by omega)⟩
        ·obtain ⟨j,rfl⟩:∃ j,k=j+1:=⟨k - 1,by omega⟩
         obtain rfl:x=(j:Int):=by have:=hx.out; omega
         clear hx h0
         have hj0:(0:Int)<=(j:Int):=by omega
         have hge:(j:Int) ≥ 0:=by omega
         have hjr:j<r:=by omega
         have hjr':(j:Int)<(r:Int):=by omega
         have hVj:V j=U j:=by rw [HV1.out j hjr,if_neg (by omega)]
         have hUj:=HUq.out j hjr
         obtain ⟨y,hy⟩:∃ y,y=U j:=⟨_,rfl⟩
         rw [<-hy] at hVj hUj
         have u0:w11.cell? ⟨gu,j,none⟩=some (.int .i64 (y:Nat)):=by rw [<-hVj]; exact HM.out.u.cell hjr
         have u1:=HM.out.u.frozen j
         have HY:=hid hy
         have HVJ:=hid hVj
         clear hy hVj
         have hy1:IntKind.i64.wrap ((y:Int)+1)=((y+1:Nat):Int):=by rw [IntWalk.i64_in _ (by omega)]; rfl
         have hj1:IntKind.i64.wrap ((j:Int) - 1)=(j:Int) - 1:=by rw [IntWalk.i64_in _ (by omega)]
         go_upto_region 23 with fail
         have HM12:=hid (HM.out.setU j (y+1))
         obtain ⟨w12,hw12⟩:∃ W,W=World.setCell w11 ⟨gu,j,none⟩ (.int .i64 (y+1:Nat)):=⟨_,rfl⟩
         rw [<-hw12] at HM12
         first | rw [<-hw12] | (rw [show ((y+1:Nat):Int)=(y:Int)+1 from rfl] at hw12; rw [<-hw12])
         clear hw12 u0 u1 HM
         have u2:w12.cell? ⟨gu,j,none⟩=some (.int .i64 (y+1:Nat)):=by
          have:=HM12.out.u.cell (i:=j) hjr
          rwa [if_pos rfl] at this
         have u3:=HM12.out.u.frozen j
         by_cases hyq:y+1<q
         ·have hyq':((y+1:Nat):Int)<(q:Int):=by omega
          have hyq2:(y:Int)+1<(q:Int):=by omega
          have hnew:Hid (∀ t,t<r->(if t=j then y+1 else V t)<q):=hid fun t ht=>by
           split
           ·exact hyq
           ·rw [HV1.out t ht]
            split
            ·omega
            ·exact HUq.out t ht
          have hdig:Hid (i+1<Q->∀ t,t<r->(if t=j then y+1 else V t)=digW q r (i+1) t):=hid fun _ t ht=>by
           have h1:=zc8 (q:=q) (u:=U) (u':=fun t=>if t=j then y+1 else V t) (j:=j) (by omega) r hjr (fun t ht=>by
            show (if t=j then y+1 else V t)=U t
            rw [if_neg (by omega),HV1.out t (by omega),if_neg (by omega)]) (by
            show (if j=j then y+1 else V j)=U j+1
            rw [if_pos rfl,HY.out]) (fun t h1 h2=>⟨HV2.out t (by omega) h2,by
            show (if t=j then y+1 else V t)=0
            rw [if_neg (by omega),HV1.out t h2,if_pos (by omega)]⟩)
           rw [show idxW q U r=i by rw [zas r (HUd.out hiQ)]; exact zbr (by omega) r i (by rw [<-HQr.out]; exact hiQ)] at h1
           have h2:=zca (q:=q) (u:=fun t=>if t=j then y+1 else V t) (by omega) r hnew.out t ht
           rw [h1] at h2
           exact h2.symm
          clear u3
          go_wp2
          go_roundg (gP - 1)
          case measure=>omega
          case rel=>exact ⟨i+1,O2,_,by go_num,by omega,by omega,HM12.out,HJ3.out,hnew,hdig⟩
         ·have hyq':¬ ((y+1:Nat):Int)<(q:Int):=by omega
          have hyq2:¬ (y:Int)+1<(q:Int):=by omega
          have HM13:=hid (HM12.out.setU j 0)
          go_wp2
          go_roundg (gk - 1)
          case measure=>omega
          case rel =>
           refine ⟨j,_,_,rfl,hid rfl,by omega,by omega,HM13.out,hid fun t ht=>?_,hid fun t h1 h2=>?_⟩
           ·show (if t=j then 0 else if t=j then y+1 else V t)=if j<=t then 0 else U t
            by_cases e:t=j
            ·rw [if_pos e,if_pos (by omega)]
            ·rw [if_neg e,if_neg e,HV1.out t ht]
             by_cases e2:j<=t
             ·rw [if_pos e2,if_pos (by omega)]
             ·rw [if_neg e2,if_neg (by omega)]
           ·by_cases e:t=j
            ·rw [e,<-HY.out]; omega
            ·exact HV2.out t (by omega) h2
    ·obtain rfl:Q=i:=by omega
     have hiQ':¬ (Q:Int)<(Q:Int):=by omega
     have ha1':IntKind.i64.wrap ((a:Int)+1)=((a+1:Nat):Int):=by rw [IntWalk.i64_in _ (by omega)]; rfl
     have HJ4:=hid (HJ.out.congr (D':=DPairs Q (a+1) 0) fun a' u'=>by
      unfold DPairs
      constructor
      ·rintro (⟨h1,h2,h3⟩ | ⟨h1,h2⟩)
       ·exact .inl ⟨h1,by omega,h3⟩
       ·exact .inl ⟨by omega,by omega,h2⟩
      ·rintro (⟨h1,h2,h3⟩ | ⟨h1,h2⟩)
       ·by_cases e:a'=a
        ·exact .inr ⟨e,h3⟩
        ·exact .inl ⟨h1,by omega,h3⟩
       ·omega)
     go_wp2
     go_roundg (gO - 1)
     case measure=>omega
     case rel=>exact ⟨a+1,O,U,by go_num,by omega,by omega,by omega,HM.out.own,HJ4.out,HM.out.u,HM.out.below⟩
  ·obtain rfl:q=a:=by omega
   have hlt':¬ (q:Int)<(q:Int):=by omega
   have HJ4:=hid (hJ.congr (D':=AllP q r) fun a' u'=>by
    unfold DPairs AllP
    rw [<-HQr.out]
    constructor
    ·rintro (⟨h1,h2,h3⟩ | ⟨h1,h2⟩)
     ·exact ⟨h1,h2,h3⟩
     ·omega
    ·rintro ⟨h1,h2,h3⟩
     exact .inl ⟨h1,h2,h3⟩)
   go_wp2
   go_ret
   exact ⟨_,_,O,rfl,hO,HJ4.out,hB⟩
def CNewPost (P M:Int) (k:Nat) (f:Nat->Int) (cols:Int) (n:Nat) (V:Nat->Nat->Int) (w:World) (e:Ending) (w':World):Prop :=
 ∃ (P' M' C:Nat) (v lv:Value) (a:Nat) (p:Nat->Nat) (W:Nat->Nat->Nat),P=P'/\M=M'/\cols=C/\e=.returned (.tuple #[.agg #[.int .i64 (P':Nat),.int .i64 (M':Nat),v,.int .i64 (C:Nat),lv],.int .i64 0]) /\
  Own w' w.heap.size 3 1 v k (fun j _=>.int .i64 (f j))/\MTab w' w.heap.size lv a C W/\EchN (P' ^ M') n C C a p W/\RowOps (P' ^ M') (addF P' M') (mulF P' M' fun i=>(f i).toNat) n C (natT V) W/\Below w.heap.size w w'
theorem zeU (P M:Int) (A:Option Addr) (k c:Nat) (f:Nat->Int) (cols:Int) (T:Option Addr) (n d:Nat) (ln:Nat->Nat) (V:Nat->Nat->Int) (w:World) (hr:IntsR w w.heap.size A k f) (h:IntRows w T n ln V) (hkc:k<=c) (hk:k<=1048576) (hOK:FirstErr (MatErrs P M k f cols n ln V) 0) (hN:LenOk cols) :
  Calls Try.prog 23 #[.agg #[.int .i64 P,.int .i64 M,.slice A k c],.agg #[.int .i64 cols,.slice T n d]] w (CNewPost P M k f cols n V w):=by
 have HR:=hid hr
 have HT:=hid h
 have HOK:=hid hOK
 have HN:=hid hN
 have hc1:1<=cols:=hN.1
 clear hr h hOK hN
 have rf:=zad (w:=w) (a:=.int .i64 P) (b:=.int .i64 M) (c:=.slice A k c) (T := 24)
 have hB:Below w.heap.size w (w.alloc (.cells #[.int .i64 P,.int .i64 M,.slice A k c] 24)):=(Below.refl _ _).alloc (Nat.le_refl _) _
 have hsz:(w.alloc (.cells #[.int .i64 P,.int .i64 M,.slice A k c] 24)).heap.size=w.heap.size+1:=by simp
 obtain ⟨w0,hw0⟩:∃ W,W=w.alloc (.cells #[.int .i64 P,.int .i64 M,.slice A k c] 24):=⟨_,rfl⟩
 have rm:=zam (w:=w0) (a:=.int .i64 cols) (b:=.slice T n d) (T := 49)
 have kb:Below w0.heap.size w0 (w0.alloc (.cells #[.int .i64 cols,.slice T n d] 49)):=(Below.refl _ _).alloc (Nat.le_refl _) _
 have hsz2:(w0.alloc (.cells #[.int .i64 cols,.slice T n d] 49)).heap.size=w0.heap.size+1:=by simp
 obtain ⟨wb,hwb⟩:∃ W,W=w0.alloc (.cells #[.int .i64 cols,.slice T n d] 49):=⟨_,rfl⟩
 have ro:=zaT (w:=wb) (a:=.int .i64 0) (b:=.int .i64 0) (c:=.slice none 0 0) (d:=.int .i64 0) (e:=.slice none 0 0) (T := 30)
 have kb2:Below wb.heap.size wb (wb.alloc (.cells #[.int .i64 0,.int .i64 0,.slice none 0 0,.int .i64 0,.slice none 0 0] 30)):=(Below.refl _ _).alloc (Nat.le_refl _) _
 obtain ⟨w1,hw1⟩:∃ W,W=wb.alloc (.cells #[.int .i64 0,.int .i64 0,.slice none 0 0,.int .i64 0,.slice none 0 0] 30):=⟨_,rfl⟩
 rw [<-hw0] at hB rf hsz;rw [<-hwb] at rm kb hsz2;rw [<-hw1] at ro kb2;rw [hsz2,hsz] at ro;rw [hsz] at rm;replace rf:=zaa (zaa rf kb) kb2;replace rm:=zaa rm kb2;replace hB:=onS (onS hB kb) kb2
 go_enter Try.func23, Try.ntmps23
 go_upto_region 1 with fail
 rw [<-hw0,<-hwb,<-hw1];clear hw0 hw1 hwb kb kb2 hsz hsz2
 obtain ⟨b0,hb0⟩:∃ b,b=w.heap.size:=⟨_,rfl⟩
 obtain ⟨b1,hb1⟩:∃ b,b=w.heap.size+1:=⟨_,rfl⟩
 obtain ⟨b2,hb2⟩:∃ b,b=w.heap.size+1+1:=⟨_,rfl⟩
 have hb2w:w.heap.size<=b2:=by omega
 rw [<-hb0] at rf;rw [<-hb1] at rm;rw [<-hb2] at ro;rw [<-hb2,<-hb1,<-hb0];clear hb0 hb1 hb2
 have q0:=qc0 rf
 have q1:=qc1 rf
 have q2:=qc2 rf
 have m0:=qc0 rm
 have m1:=qc1 rm
 go_wp2_with fail
 refine (zb9 P M A k c f cols T n d ln V w1 (HR.out.on hB) (HT.out.on hB) hc1).mono ?_
 rintro e w2 ⟨kb,v,hv,hcase⟩
 obtain rfl:v=0:=FirstErr.unique hv HOK.out
 rcases hcase with ⟨h0,_⟩ | ⟨_,P',M',C',lv,pv,a,p,W,hPe,hMe,hCe,rfl,hM,hp,hE,hRo⟩
 ·exact absurd rfl h0
 subst hPe hMe hCe
 have HE:=hid hE
 have HRO:=hid hRo
 have hBs:=hB.size
 have HM:=hid (hM.mono hBs)
 obtain ⟨LA,lc,hlv⟩:=HM.out.shape
 subst hlv
 obtain ⟨PA,pc,hpv⟩:=hp.shape
 subst hpv
 replace rf:=zaa rf kb;replace rm:=zaa rm kb;replace ro:=zaa ro kb;replace hB:=onS hB kb;clear kb hv hM hE hRo q0 q1 q2 m0 m1 hp hBs
 go_upto_region 2 with fail
 have rb:=zam (w:=w2) (a:=.int .i64 (C':Nat)) (b:=.slice LA a lc) (T := 49)
 have kb:Below w2.heap.size w2 (w2.alloc (.cells #[.int .i64 (C':Nat),.slice LA a lc] 49)):=(Below.refl _ _).alloc (Nat.le_refl _) _
 obtain ⟨w3,hw3⟩:∃ W,W=w2.alloc (.cells #[.int .i64 (C':Nat),.slice LA a lc] 49):=⟨_,rfl⟩
 rw [<-hw3] at rb kb ⊢;clear hw3
 obtain ⟨b3,hb3⟩:∃ b,b=w2.heap.size:=⟨_,rfl⟩
 rw [<-hb3] at rb ⊢;clear hb3;replace HM:=hid (HM.out.on kb);replace rf:=zaa rf kb;replace rm:=zaa rm kb;replace ro:=zaa ro kb;replace hB:=onS hB kb;clear kb
 have m0:=qc0 rm
 go_wp2_with fail
 refine (zdo (C':Int) w3).mono ?_
 rintro e w4 ⟨v,rfl,hv,kb⟩
 have hv0:v=0:=by
  rcases hv with ⟨h1,_⟩ | ⟨_,h1⟩
  ·exact absurd HN.out h1
  ·exact h1
 subst hv0
 replace HM:=hid (HM.out.on kb);replace rf:=zaa rf kb;replace rb:=zaa rb kb;replace ro:=zaa ro kb;replace hB:=onS hB kb;clear kb hv m0 rm
 have q0:=qc0 rf
 have q1:=qc1 rf
 have q2:=qc2 rf
 have m0:=qc0 rb
 have m1:=qc1 rb
 go_wp2_with fail
 refine (zfe (P':Int) (M':Int) (C':Int) A k c f LA a lc w4 (HR.out.on hB) hkc hk).mono ?_
 rintro e w5 ⟨v,rfl,hO,kb⟩
 have hBs:=hB.size
 replace hB:=onS hB kb;replace ro:=zaa ro kb
 have HM5:=hid (HM.out.on kb)
 obtain ⟨A2,c2,hv⟩:=hO.shape
 subst hv
 have HO:=hid (hO.mono hBs)
 clear kb hO hBs q0 q1 q2 m0 m1 rf rb HM
 have r0:=ro.frozen 0
 have s0:=qc0 ro
 have r1:=ro.frozen 1
 have s1:=qc1 ro
 have r2:=ro.frozen 2
 have s2:=qc2 ro
 have r3:=ro.frozen 3
 have s3:=qc3 ro
 have r4:=ro.frozen 4
 have s4:=qc4 ro
 go_wp2
 clear r0 s0 r1 s1 r2 s2 r3 s3 r4 s4
 generalize hw9:World.setCell _ _ _=w6
 obtain ⟨row9,hg9⟩:=za6 ro hw9.symm
 clear hw9
 have hB9:=hB.grown hg9 hB.size (fun q e=>by injection e with e; omega)
 have hO9:=HO.out.kept hg9 (zan ro HO.out (by decide))
 have hM9:=HM5.out.kept hg9 ro (by decide) (by decide)
 have e0:=qc0 row9
 have e1:=qc1 row9
 have e2:=qc2 row9
 have e3:=qc3 row9
 have e4:=qc4 row9
 refine bodyPost_ret (v:=.tuple #[.agg #[.int .i64 (P':Nat),.int .i64 (M':Nat),.slice A2 k c2,.int .i64 (C':Nat),.slice LA a lc],.int .i64 0]) (by simp [results,Try.results23, go_sem,e0,e1,e2,e3,e4]) rfl ?_
 exact ⟨P',M',C',_,_,a,p,W,rfl,rfl,rfl,rfl,hO9,hM9,HE.out,HRO.out,hB9⟩
structure GTab (w:World) (base:Nat) (v:Value) (t n:Nat) (R:Nat->Nat) (W:Nat->Nat->Nat):Prop where
 tab:Own w base 22 1 v t (fun i _=>.slice (some ⟨R i,0,none⟩) n n)
 row:∀ i,i<t->base<=R i/\w.rowIs (R i) 3 n (fun j=>.int .i64 (W i j:Nat))
 apart:∀ i j,i<t->j<t->i≠j->R i≠R j
section
variable {w w':World} {base t n:Nat} {v:Value} {R:Nat->Nat} {W:Nat->Nat->Nat}
theorem GTab.nil (w:World) (base n:Nat) (R:Nat->Nat) (W:Nat->Nat->Nat):GTab w base (.slice none 0 0) 0 n R W:=⟨Own.nil _ _ _ _ _,fun _ h=>absurd h (by omega),fun _ _ h=>absurd h (by omega)⟩
theorem GTab.on (h:GTab w base v t n R W) (hb:Below w.heap.size w w'):GTab w' base v t n R W:=⟨h.tab.on hb,fun i hi=>⟨(h.row i hi).1,zaa (h.row i hi).2 hb⟩,h.apart⟩
theorem GTab.shape (h:GTab w base v t n R W):∃ A c,v=.slice A t c:=h.tab.shape
theorem GTab.mtab (h:GTab w base v t n R W) (hn:n<=maxLen):MTab w base v t n W:=⟨_,h.tab,fun i hi=>zaJ (h.row i hi).2 (h.row i hi).1 hn⟩
theorem GTab.congr {W':Nat->Nat->Nat} (h:GTab w base v t n R W) (e:∀ i,i<t->∀ j,j<n->W i j=W' i j):GTab w base v t n R W':=⟨h.tab,fun i hi=>⟨(h.row i hi).1,(h.row i hi).2.congr fun j hj=>by rw [e i hi j hj]⟩,h.apart⟩
theorem GTab.at (h:GTab w base v t n R W) {i:Nat} (hi:i<t):∃ b o c,v=.slice (some ⟨b,o,none⟩) t c/\w.cell? ⟨b,o+i,none⟩=some (.slice (some ⟨R i,0,none⟩) n n):=by
 obtain ⟨g,o,c,e,_,_,_,_,hc⟩:=h.tab.form (by omega)
 have h1:=hc i hi 0 (by omega)
 rw [Nat.mul_one,Nat.add_zero] at h1
 exact ⟨g,o,c,e,h1⟩
theorem GTab.ne (h:GTab w base v t n R W) {i:Nat} (hi:i<t):v.ownBlock≠some (R i):=by
 rcases zay (h.row i hi).2 h.tab (by decide) with e | e
 ·rw [e]; exact fun h=>by cases h
 ·exact e
theorem GTab.set (h:GTab w base v t n R W) {i j:Nat} (hi:i<t) (x:Nat):GTab (w.setCell ⟨R i,j,none⟩ (.int .i64 (x:Nat))) base v t n R (fun a b=>if a=i then (if b=j then x else W a b) else W a b):=by
 refine ⟨h.tab.setCell (a:=⟨R i,j,none⟩) (h.ne hi) _,fun a ha=>⟨(h.row a ha).1,?_⟩,h.apart⟩
 by_cases e:a=i
 ·subst e
  refine ((h.row a ha).2.set j _).congr fun b _=>?_
  show (if b=j then Value.int .i64 (x:Nat) else .int .i64 (W a b:Nat))=.int .i64 ((if a=a then (if b=j then x else W a b) else W a b:Nat):Int)
  rw [if_pos rfl]
  split <;> rfl
 ·refine (rowIs_setCells_other (h.apart a i ha hi e) [_] j w (h.row a ha).2).congr fun b _=>?_
  show _=Value.int .i64 ((if a=i then (if b=j then x else W a b) else W a b:Nat):Int)
  rw [if_neg e]
theorem GTab.kept {g:Nat} {T:TypeId} {m:Nat} {F:Nat->Value} (h:GTab w base v t n R W) (hg:w.grownBy w' (some g)) (hr:w.rowIs g T m F) (h1:T ≠ 22) (h2:T ≠ 3) (hn:n<=maxLen):GTab w' base v t n R W:=by
 have hne:∀ i,i<t->R i≠g:=fun i hi e=>by
  rcases zay hr (zaJ (h.row i hi).2 (h.row i hi).1 hn) h2 with e2 | e2
  ·cases e2
  ·exact e2 (by rw [e]; rfl)
 exact ⟨h.tab.kept hg (zay hr h.tab h1),fun i hi=>⟨(h.row i hi).1,(h.row i hi).2.of_block (hg.block _ (h.row i hi).2.lt fun e=>hne i hi (by injection e))⟩,h.apart⟩
theorem zbB {ops:Array Oper} {o:Oper} {a:Act} {K:Act->World->Prop} {Q:Exit->Act->World->Prop} {E:Prop} {g:Nat} (hgd:o.guard=none) (sl x:Operand)
  (ho:o.op=.call { callee:=.builtin .append,args:=#[sl,x],argTypes:=#[28, 28] })
  (h:GTab w base v t n R W) (hv:a.eval sl=v) {ad:Addr} {c:Nat} (hx:a.eval x=.slice (some ad) 1 c)
  (hcell:w.cell? (ad.add 0)=some (.slice (some ⟨g,0,none⟩) n n)) (hrow:w.rowIs g 3 n (fun _=>.int .i64 ((0:Nat):Int))) (hg:base<=g) (hne:∀ i,i<t->R i≠g) (hbase:base<=w.heap.size) (hN:t<=1048576)
  (K':∀ v' w',GTab w' base v' (t+1) n (fun i=>if i=t then g else R i) (fun i j=>if i=t then 0 else W i j)->w.grownBy w' v.ownBlock->(∀ q,v.ownBlock=some q->base<=q)->K (a.put o.dst v') w') :
  if Region.wanted o (yielded ops a.tmps)=true then Oper.wp Try.prog o a w K Q else E:=by
 obtain ⟨i0,qi0,qz0,qz1,qz2⟩:=info_parts Try.infoInts
 have hown:Own w base 22 1 v t (fun i _=>.slice (some ⟨if i=t then g else R i,0,none⟩) n n):=h.tab.congr fun i hi _ _=>by rw [if_neg (by omega)]
 refine zbD w hgd sl x _ ho base 22 i0 _ 1 24 Try.underlying28 qi0 qz0 qz1 qz2 rfl (by omega) v t _ hv hown ad c hx (fun j hj=>by
   obtain rfl:j=0:=by omega
   rw [if_pos rfl]
   exact hcell) (fun _ _=>rfl) (by unfold maxLen; omega) (by omega) hbase ?_
 intro v' w3 hown3 hg3 _
 have hvg:v.ownBlock≠some g:=by
  rcases zay hrow h.tab (by decide) with e | e
  ·rw [e]; exact fun h=>by cases h
  ·exact e
 refine K' v' w3 ⟨hown3,fun i hi=>?_,fun i j hi hj hij=>?_⟩ hg3 (fun q e=>(h.tab.lt q e).1)
 ·by_cases e:i=t
  ·rw [if_pos e]
   refine ⟨hg,(hrow.of_block (hg3.block _ hrow.lt fun e=>hvg e.symm)).congr fun j _=>?_⟩
   rw [if_pos e]
  ·rw [if_neg e]
   refine ⟨(h.row i (by omega)).1,((h.row i (by omega)).2.of_block (hg3.block _ (h.row i (by omega)).2.lt fun e2=>h.ne (i:=i) (by omega) e2.symm)).congr fun j _=>?_⟩
   rw [if_neg e]
 ·show (if i=t then g else R i)≠(if j=t then g else R j)
  by_cases e1:i=t
  ·rw [if_pos e1,if_neg (by omega)]
   exact fun e=>hne j (by omega) e.symm
  ·rw [if_neg e1]
   by_cases e2:j=t
   ·rw [if_pos e2]; exact hne i (by omega)
   ·rw [if_neg e2]; exact h.apart i j (by omega) (by omega) hij
end
section
variable {q r:Nat} {add mul:Nat->Nat->Nat}
theorem GrSt.le {d:Nat} {h:Nat->Nat->Nat}:∀ t L,GrSt q r add mul d t h L->∀ v,v<q ^ r->L v<=d - 1
 | 0,L,H,v,hv=>by rw [H v hv]; split <;> omega
 | t+1,L,⟨L0,v0,h1,_,_,_,_,h6⟩,v,hv=>Nat.le_trans (h6.le v hv) (GrSt.le t L0 h1 v hv)
theorem JoinR.small {h L:Nat->Nat} (hL:FieldLaws q add mul) (hs:∀ v,v<q ^ r->L v<=1):JoinR q r add mul (AllP q r) h L L :=
 ⟨fun _ _=>Nat.le_refl _,fun a u _=>by have:=hs _ (zcL hL h a u); omega,fun _ _=>.inl rfl⟩
end
def GreedyPost (P M : Nat) (m : Nat → Nat) (k : Nat) (f : Nat → Int) (n r d q : Nat) (w : World) (e : Ending) (w' : World) : Prop :=
 Below w.heap.size w w' /\
  ((∃ (t:Nat) (h:Nat->Nat->Nat) (L:Nat->Nat),t<n/\GrSt q r (addF P M) (mulF P M m) d t h L/\(∀ v,v<q ^ r->2<=d/\L v<=d - 2)/\e=.returned (.tuple #[.agg #[.int .i64 0,.int .i64 0,.slice none 0 0,.int .i64 0,.slice none 0 0],.int .i64 11])) ∨
   (∃ (h:Nat->Nat->Nat) (L:Nat->Nat) (v lv:Value) (a:Nat) (W:Nat->Nat->Nat),GrSt q r (addF P M) (mulF P M m) d n h L/\e=.returned (.tuple #[.agg #[.int .i64 (P:Nat),.int .i64 (M:Nat),v,.int .i64 (n:Nat),lv],.int .i64 0]) /\
    Own w' w.heap.size 3 1 v k (fun j _=>.int .i64 (f j))/\MTab w' w.heap.size lv a n W/\NullRel q (addF P M) (mulF P M m) (negF P M) r n (fun j i=>h i j) a W))
theorem zdq (P M:Nat) (m:Nat->Nat) (A:Option Addr) (k c:Nat) (f:Nat->Int) (n r d Q q:Nat) (w:World) (hr:IntsR w w.heap.size A k f) (hm:Hid (m=fun i=>(f i).toNat)) (hkc:k<=c) (hk:k<=1048576) (hg:GoodF (P:Int) (M:Int) k f)
  (HQ:Hid (q=P ^ M)) (HQr:Hid (Q=q ^ r)) (hQ2:Q<=65536) (hn1:1<=n) (hn:n<=64) (hr64:r<=64) (hd1:1<=d) (hdn:d<=n) :
  Calls Try.prog 7 #[.agg #[.int .i64 (P:Nat),.int .i64 (M:Nat),.slice A k c],.int .i64 (n:Nat),.int .i64 (r:Nat),.int .i64 (d:Nat)] w (GreedyPost P M m k f n r d q w):=by
 have HR:=hid hr
 have HGF:=hid hg
 have hfo:FieldOk P M m:=by rw [hm.out]; exact hg.field.1
 have hq256:q<=256:=by rw [HQ.out]; exact hfo.1.2.2.2
 have h2q:2<=q:=by rw [HQ.out]; exact (fieldLaws hfo).two
 have hQ0:0<Q:=by rw [HQr.out]; exact Nat.pow_pos (by omega)
 have HFO:=hid hfo
 have HLq:Hid (FieldLaws q (addF P M) (mulF P M m)):=by rw [HQ.out]; exact hid (fieldLaws hfo)
 clear hr hg hfo
 have hmk:∀ (z:Nat),z<=65536->∀ W,_:=fun z hz W=>zao (P:=Try.prog) 22 3 _ 8 Try.underlying22 Try.infoInt rfl (z:Int) (by omega) (by omega) (by omega) W
 simp only [Int.toNat_natCast] at hmk
 have HMK:=hid hmk
 clear hmk
 have rf:=zad (w:=w) (a:=.int .i64 (P:Nat)) (b:=.int .i64 (M:Nat)) (c:=.slice A k c) (T := 24)
 have hB:Below w.heap.size w (w.alloc (.cells #[.int .i64 (P:Nat),.int .i64 (M:Nat),.slice A k c] 24)):=(Below.refl _ _).alloc (Nat.le_refl _) _
 have hsz:(w.alloc (.cells #[.int .i64 (P:Nat),.int .i64 (M:Nat),.slice A k c] 24)).heap.size=w.heap.size+1:=by simp
 obtain ⟨w0,hw0⟩:∃ W,W=w.alloc (.cells #[.int .i64 (P:Nat),.int .i64 (M:Nat),.slice A k c] 24):=⟨_,rfl⟩
 have ro:=zaT (w:=w0) (a:=.int .i64 0) (b:=.int .i64 0) (c:=.slice none 0 0) (d:=.int .i64 0) (e:=.slice none 0 0) (T := 30)
 have kb:Below w0.heap.size w0 (w0.alloc (.cells #[.int .i64 0,.int .i64 0,.slice none 0 0,.int .i64 0,.slice none 0 0] 30)):=(Below.refl _ _).alloc (Nat.le_refl _) _
 obtain ⟨w1,hw1⟩:∃ W,W=w0.alloc (.cells #[.int .i64 0,.int .i64 0,.slice none 0 0,.int .i64 0,.slice none 0 0] 30):=⟨_,rfl⟩
 rw [<-hw0] at hB rf hsz;rw [<-hw1] at ro kb;rw [hsz] at ro;replace rf:=zaa rf kb;replace hB:=onS hB kb
 go_enter Try.func7, Try.ntmps7
 go_upto_region 1 with fail
 rw [<-hw0,<-hw1];clear hw0 hw1 kb hsz
 obtain ⟨b0,hb0⟩:∃ b,b=w.heap.size:=⟨_,rfl⟩
 obtain ⟨b2,hb2⟩:∃ b,b=w.heap.size+1:=⟨_,rfl⟩
 have hb2w:w.heap.size<=b2:=by omega
 have hb02:b0≠b2:=by omega
 rw [<-hb0] at rf;rw [<-hb2] at ro;rw [<-hb2,<-hb0];clear hb0 hb2
 have q0:=qc0 rf
 have q1:=qc1 rf
 have q2:=qc2 rf
 go_wp2_with fail
 refine (zc2 (P:Int) (M:Int) A k c f w1 (HR.out.on hB)).mono ?_
 rintro e w2 ⟨kb,⟨hno,_⟩ | ⟨_,gp,P',M',hP,hM,rfl,hgp,hU⟩⟩
 ·exact absurd HGF.out hno
 obtain rfl:P=P':=by omega
 obtain rfl:M=M':=by omega
 have hG:=hU.gf
 rw [<-hm.out] at hG
 have HG:=hid hG
 have HRF:=hid (zaa rf kb)
 have HRO:=hid (zaa ro kb)
 have HB2:=hid (onS hB kb)
 clear kb hU hG q0 q1 q2 rf ro hB hP hM hgp
 -- the guards
 have g1:¬ (n:Int)<1:=by omega
 have g2:¬ (n:Int) > 64:=by omega
 have g3:¬ (r:Int)<0:=by omega
 have g4:¬ (d:Int)<1:=by omega
 have g5:¬ (d:Int) > (n:Int):=by omega
 have g1':decide ((n:Int)<1)=false:=decide_eq_false g1
 have g2':decide ((n:Int) > 64)=false:=decide_eq_false g2
 have g3':decide ((r:Int)<0)=false:=decide_eq_false g3
 have g4':decide ((d:Int)<1)=false:=decide_eq_false g4
 have g5':decide ((d:Int) > (n:Int))=false:=decide_eq_false g5
 go_wp2_with fail
 refine (zb5 HG.out).mono ?_
 rintro e w3 ⟨rfl,kb⟩
 rw [<-HQ.out];replace HG:=hid (HG.out.on kb);replace HRF:=hid (zaa HRF.out kb);replace HRO:=hid (zaa HRO.out kb)
 have HB3:=hid (onS HB2.out kb)
 clear kb HB2
 go_wp2_with fail
 refine (zff q r 65536 w3 h2q (by omega) (by omega) (by omega) (by omega)).mono ?_
 rintro e w4 ⟨⟨hle,rfl⟩ | ⟨hgt,_⟩,kb⟩
 rotate_left
 ·have:=HQr.out
  omega
 rw [<-HQr.out];replace HG:=hid (HG.out.on kb);replace HRF:=hid (zaa HRF.out kb);replace HRO:=hid (zaa HRO.out kb)
 have HB4:=hid (onS HB3.out kb)
 clear kb HB3 hle
 have hmk:=HMK.out Q hQ2
 go_upto_region 12 with fail
 have rz:World.rowIs (World.alloc w4 (Obj.cells (madeCells #[Value.int .i64 0] Q) 3)) w4.heap.size 3 Q (fun _=>.int .i64 0):=World.rowIs_made _ (.int .i64 0) Q 3
 have kb:Below w4.heap.size w4 (World.alloc w4 (Obj.cells (madeCells #[Value.int .i64 0] Q) 3)):=(Below.refl _ _).alloc (Nat.le_refl _) _
 obtain ⟨w5,hw5⟩:∃ W,W=World.alloc w4 (Obj.cells (madeCells #[Value.int .i64 0] Q) 3):=⟨_,rfl⟩
 rw [<-hw5] at rz kb ⊢
 obtain ⟨gl,hgl⟩:∃ g,g=w4.heap.size:=⟨_,rfl⟩
 have hglB:w4.heap.size<=gl:=Nat.le_of_eq hgl.symm
 rw [<-hgl] at rz ⊢;clear hw5 hgl hmk
 have HGL:=hid hglB
 go_upto_region 13 with fail
 obtain ⟨e1,he1⟩:∃ x:Nat,x=d - 1:=⟨_,rfl⟩
 have hd1w:IntKind.i64.wrap ((d:Int) - 1)=(e1:Int):=by rw [IntWalk.i64_in _ (by omega)]; omega
 have HE1:=hid he1
 clear he1
 go_loopg [14] Q (fun gg iv wx=>∃ i:Nat,iv=.int .i64 (i:Nat)/\1<=i/\i<=Q/\Q<=i+gg/\wx.rowIs gl 3 Q (fun t=>.int .i64 ((if t=0 then 0 else if t<i then e1 else 0:Nat):Int))/\Below w4.heap.size w4 wx)
 case atStart=>exact ⟨1,rfl,by omega,by omega,by omega,rz.congr fun t _=>by
  show _=Value.int .i64 ((if t=0 then 0 else if t<1 then e1 else 0:Nat):Int)
  by_cases e:t=0
  ·rw [if_pos e]; rfl
  ·rw [if_neg e,if_neg (by omega)]; rfl,kb⟩
 case round =>
  clear rz kb
  obtain ⟨i,rfl,hi1,hiQ,hig,rz,hB⟩:=hrel
  have hi0:(0:Int)<=(i:Int):=by omega
  obtain ⟨w6,hw6⟩:∃ X,X=wr:=⟨_,rfl⟩
  subst hw6
  by_cases hlt:i<Q
  ·have hlt':(i:Int)<(Q:Int):=by omega
   have hi1w:IntKind.i64.wrap ((i:Int)+1)=((i+1:Nat):Int):=by rw [IntWalk.i64_in _ (by omega)]; rfl
   have c0:=rz.cell (i:=i) hlt
   have c1:=rz.frozen i
   have rz2:=rz.set i (.int .i64 (e1:Nat))
   have hB2:=hB.setCell (p:=⟨gl,i,none⟩) HGL.out (.int .i64 (e1:Nat))
   have HRZ:=hid rz2
   have HBB:=hid hB2
   clear rz rz2 hB hB2
   go_wp2
   go_roundg (gk - 1)
   case measure=>omega
   case rel =>
    refine ⟨i+1,by go_num,by omega,by omega,by omega,HRZ.out.congr fun t ht=>?_,HBB.out⟩
    show (if t=i then Value.int .i64 (e1:Nat) else .int .i64 ((if t=0 then 0 else if t<i then e1 else 0:Nat):Int))=.int .i64 ((if t=0 then 0 else if t<i+1 then e1 else 0:Nat):Int)
    by_cases e:t=i
    ·rw [if_pos e,if_neg (by omega),if_pos (by omega)]
    ·rw [if_neg e]
     by_cases e0:t=0
     ·rw [if_pos e0,if_pos e0]
     ·rw [if_neg e0,if_neg e0]
      by_cases e2:t<i
      ·rw [if_pos e2,if_pos (by omega)]
      ·rw [if_neg e2,if_neg (by omega)]
  ·obtain rfl:Q=i:=by omega
   have hlt':¬ (Q:Int)<(Q:Int):=by omega
   have hmin:min (0:Int) (e1:Int)=0:=by omega
   have c0:w6.cell? ⟨gl,0,none⟩=some (.int .i64 (0:Nat)):=by
    have:=rz.cell (i:=0) (by omega)
    rwa [if_pos rfl] at this
   have c1:=rz.frozen 0
   have hq0:(0:Int)<(Q:Int):=by omega
   go_upto_region 17 with fail
   obtain ⟨L0,hL0⟩:∃ L0:Nat->Nat,L0=fun t=>if t=0 then 0 else e1:=⟨_,rfl⟩
   have hrow:(w6.setCell ⟨gl,0,none⟩ (.int .i64 0)).rowIs gl 3 Q (fun t=>.int .i64 (L0 t:Nat)):=(rz.set 0 _).congr fun t ht=>by
    show (if t=0 then Value.int .i64 0 else .int .i64 ((if t=0 then 0 else if t<Q then e1 else 0:Nat):Int))=.int .i64 (L0 t:Nat)
    rw [hL0]
    show _=Value.int .i64 ((if t=0 then 0 else e1:Nat):Int)
    by_cases e:t=0
    ·rw [if_pos e,if_pos e]; rfl
    ·rw [if_neg e,if_neg e,if_neg e,if_pos ht]
   have hB7:=hB.setCell (p:=⟨gl,0,none⟩) HGL.out (.int .i64 0)
   obtain ⟨w7,hw7⟩:∃ W,W=w6.setCell ⟨gl,0,none⟩ (.int .i64 0):=⟨_,rfl⟩
   rw [<-hw7] at hrow hB7 ⊢
   have HGS0:Hid (∀ h,GrSt q r (addF P M) (mulF P M m) d 0 h L0):=hid fun h v _=>by rw [hL0,<-HE1.out]
   have HLo:Hid (Own w7 w.heap.size 3 1 (.slice (some ⟨gl,0,none⟩) Q Q) Q (fun i _=>.int .i64 (L0 i:Nat))):=hid (zaJ hrow (by have:=HB4.out.size; have:=HGL.out; omega) (by unfold maxLen; omega))
   replace HG:=hid (HG.out.on hB7);replace HRF:=hid (zaa HRF.out hB7);replace HRO:=hid (zaa HRO.out hB7)
   have HB7:=hid (onS HB4.out hB7)
   clear hw7 hrow hB7 hB rz c0 c1 hL0 HB4 HGL hmin
   go_upto_region 19 with fail
   have rb:=zam (w:=w7) (a:=.int .i64 (n:Nat)) (b:=.slice none 0 0) (T := 49)
   have kb:Below w7.heap.size w7 (w7.alloc (.cells #[.int .i64 (n:Nat),.slice none 0 0] 49)):=(Below.refl _ _).alloc (Nat.le_refl _) _
   obtain ⟨w8,hw8⟩:∃ W,W=w7.alloc (.cells #[.int .i64 (n:Nat),.slice none 0 0] 49):=⟨_,rfl⟩
   rw [<-hw8] at rb kb ⊢;clear hw8
   obtain ⟨b15,hb15⟩:∃ b,b=w7.heap.size:=⟨_,rfl⟩
   have HB15:Hid (w7.heap.size<=b15):=hid (Nat.le_of_eq hb15.symm)
   rw [<-hb15] at rb ⊢;clear hb15
   have hmk:=HMK.out n (by omega)
   go_loopg [83] r (fun gg iv wx=>∃ (j:Nat) (v:Value) (R:Nat->Nat),iv=.int .i64 (j:Nat)/\j<=r/\r<=j+gg/\wx.rowIs b15 49 2 (matCell (.int .i64 (n:Nat)) v)/\GTab wx w7.heap.size v j n R (fun _ _=>0)/\Below w7.heap.size w7 wx)
   case atStart=>exact ⟨0,_,fun _=>0,rfl,by omega,by omega,rb,GTab.nil _ _ _ _ _,kb⟩
   case round =>
    clear rb kb
    obtain ⟨j,v,R,rfl,hjr,hjg,rb,hgt,kb⟩:=hrel
    have hj0:(0:Int)<=(j:Int):=by omega
    have RB:=hid rb
    have GT:=hid hgt
    have KB:=hid kb
    obtain ⟨VA,vc,hvs⟩:=hgt.shape
    subst hvs
    obtain ⟨w8,hw8⟩:∃ X,X=wr:=⟨_,rfl⟩
    subst hw8
    clear rb hgt kb
    by_cases hlj:j<r
    ·have hlj':(j:Int)<(r:Int):=by omega
     have hj1w:IntKind.i64.wrap ((j:Int)+1)=((j+1:Nat):Int):=by rw [IntWalk.i64_in _ (by omega)]; rfl
     go_upto_region 20 with fail
     refine wp_region_held_drew (S:=fun _=>True) (by kernel_rfl) trivial (fun hHeld=>?_)
     obtain ⟨w9,hw⟩:∃ W,W=World.drew w8:=⟨_,rfl⟩
     have kb:Below w8.heap.size w8 w9:=by rw [hw]; exact (Below.refl _ _).drew
     rw [<-hw];clear hw hHeld
     have hT:True:=trivial
     replace RB:=hid (zaa RB.out kb);replace GT:=hid (GT.out.on kb);replace KB:=hid (onS KB.out kb)
     have m1:=qc1 RB.out
     clear kb
     refine tkq 0 (h:=tkq 2 (h:=?_))
     refine rdq2 1 3 (h:=fun K hK=>?_) (h2:=fun K hK=>?_)
     focus
      go_simp
      refine bkq hK trivial (h:=fun hHeld=>?_)
      clear hK K hHeld;clear m1
      refine rdq 3 (h:=fun K hK=>?_)
      go_simp
      obtain ⟨w10,hw⟩:∃ W,W=World.alloc w9 (Obj.cells (madeCells #[Value.int .i64 0] n) 3):=⟨_,rfl⟩
      have kb:Below w9.heap.size w9 w10:=by rw [hw]; exact (Below.refl _ _).alloc (Nat.le_refl _) _
      have rzz:World.rowIs w10 w9.heap.size 3 n (fun _=>.int .i64 ((0:Nat):Int)):=by rw [hw]; exact World.rowIs_made _ (.int .i64 0) n 3
      rw [<-hw];clear hw
      obtain ⟨g,hg⟩:∃ g,g=w9.heap.size:=⟨_,rfl⟩
      have hgB:w7.heap.size<=g:=by rw [hg]; exact KB.out.size
      have hgR:Hid (∀ u,u<j->R u≠g):=hid fun u hu e=>by
       have:=(GT.out.row u hu).2.lt
       omega
      rw [<-hg] at rzz ⊢
      have HZ:=hid rzz
      clear hg rzz;replace RB:=hid (zaa RB.out kb);replace GT:=hid (GT.out.on kb);replace KB:=hid (onS KB.out kb);clear kb
      refine bkq hK trivial (h:=fun hHeld=>?_)
      clear hK K hHeld
      refine rdq 4 (h:=fun K hK=>?_)
      go_simp
      obtain ⟨w11,hw⟩:∃ W,W=World.alloc w10 (Obj.cells #[.slice (some ⟨g,0,none⟩) n n] 22):=⟨_,rfl⟩
      have kb:Below w10.heap.size w10 w11:=by rw [hw]; exact (Below.refl _ _).alloc (Nat.le_refl _) _
      have hcb:World.cell? w11 ((⟨w10.heap.size,0,none⟩:Addr).add 0)=some (.slice (some ⟨g,0,none⟩) n n):=by rw [hw]; exact tbox2
      rw [<-hw];clear hw
      obtain ⟨bb,hb⟩:∃ b,b=w10.heap.size:=⟨_,rfl⟩
      rw [<-hb] at hcb ⊢
      have HCB:=hid hcb
      clear hb hcb;replace RB:=hid (zaa RB.out kb);replace GT:=hid (GT.out.on kb);replace KB:=hid (onS KB.out kb);replace HZ:=hid (zaa HZ.out kb);clear kb
      refine bkq hK trivial (h:=fun hHeld=>?_)
      clear hK K hHeld
     rotate_left
     focus
      clear m1
      go_simp
      obtain ⟨w10,hw⟩:∃ W,W=World.alloc w9 (Obj.cells (madeCells #[Value.int .i64 0] n) 3):=⟨_,rfl⟩
      have kb:Below w9.heap.size w9 w10:=by rw [hw]; exact (Below.refl _ _).alloc (Nat.le_refl _) _
      have rzz:World.rowIs w10 w9.heap.size 3 n (fun _=>.int .i64 ((0:Nat):Int)):=by rw [hw]; exact World.rowIs_made _ (.int .i64 0) n 3
      rw [<-hw];clear hw
      obtain ⟨g,hg⟩:∃ g,g=w9.heap.size:=⟨_,rfl⟩
      have hgB:w7.heap.size<=g:=by rw [hg]; exact KB.out.size
      have hgR:Hid (∀ u,u<j->R u≠g):=hid fun u hu e=>by
       have:=(GT.out.row u hu).2.lt
       omega
      rw [<-hg] at rzz ⊢
      have HZ:=hid rzz
      clear hg rzz;replace RB:=hid (zaa RB.out kb);replace GT:=hid (GT.out.on kb);replace KB:=hid (onS KB.out kb)
      have m1:=qc1 RB.out
      clear kb
      refine bkq hK trivial (h:=fun hHeld=>?_)
      clear hK K hHeld
      refine rdq2 1 4 (h:=fun K hK=>?_) (h2:=fun K hK=>?_)
      focus
       go_simp
       refine bkq hK trivial (h:=fun hHeld=>?_)
       clear hK K hHeld;clear m1
       refine rdq 4 (h:=fun K hK=>?_)
       go_simp
       obtain ⟨w11,hw⟩:∃ W,W=World.alloc w10 (Obj.cells #[.slice (some ⟨g,0,none⟩) n n] 22):=⟨_,rfl⟩
       have kb:Below w10.heap.size w10 w11:=by rw [hw]; exact (Below.refl _ _).alloc (Nat.le_refl _) _
       have hcb:World.cell? w11 ((⟨w10.heap.size,0,none⟩:Addr).add 0)=some (.slice (some ⟨g,0,none⟩) n n):=by rw [hw]; exact tbox2
       rw [<-hw];clear hw
       obtain ⟨bb,hb⟩:∃ b,b=w10.heap.size:=⟨_,rfl⟩
       rw [<-hb] at hcb ⊢
       have HCB:=hid hcb
       clear hb hcb;replace RB:=hid (zaa RB.out kb);replace GT:=hid (GT.out.on kb);replace KB:=hid (onS KB.out kb);replace HZ:=hid (zaa HZ.out kb);clear kb
       refine bkq hK trivial (h:=fun hHeld=>?_)
       clear hK K hHeld
      rotate_left
      focus
       clear m1
       go_simp
       obtain ⟨w11,hw⟩:∃ W,W=World.alloc w10 (Obj.cells #[.slice (some ⟨g,0,none⟩) n n] 22):=⟨_,rfl⟩
       have kb:Below w10.heap.size w10 w11:=by rw [hw]; exact (Below.refl _ _).alloc (Nat.le_refl _) _
       have hcb:World.cell? w11 ((⟨w10.heap.size,0,none⟩:Addr).add 0)=some (.slice (some ⟨g,0,none⟩) n n):=by rw [hw]; exact tbox2
       rw [<-hw];clear hw
       obtain ⟨bb,hb⟩:∃ b,b=w10.heap.size:=⟨_,rfl⟩
       rw [<-hb] at hcb ⊢
       have HCB:=hid hcb
       clear hb hcb;replace RB:=hid (zaa RB.out kb);replace GT:=hid (GT.out.on kb);replace KB:=hid (onS KB.out kb)
       have m1:=qc1 RB.out
       replace HZ:=hid (zaa HZ.out kb);clear kb
       refine bkq hK trivial (h:=fun hHeld=>?_)
       clear hK K hHeld
       refine rdq 1 (h:=fun K hK=>?_)
       go_simp
       refine bkq hK trivial (h:=fun hHeld=>?_)
       clear hK K hHeld;clear m1
      rotate_left
     all_goals
      refine rdq 5 (h:=fun K hK=>?_)
      refine zbB rfl (.tmp 86) (.tmp 89) rfl GT.out rfl (ad:=⟨bb,0,none⟩) (c:=1) rfl HCB.out HZ.out hgB hgR.out KB.out.size (by omega) ?_
      intro v12 w12 o1 o2 o3
      have GT2:=hid (o1.congr (W':=fun _ _=>0) fun a _ b _=>by split <;> rfl)
      have KB2:=hid (KB.out.grown o2 KB.out.size o3)
      have RB2:=hid (RB.out.of_block (o2.block _ RB.out.lt fun e=>(zay RB.out GT.out.tab (by decide)).elim (fun h=>by rw [h] at e; cases e) fun h=>h e.symm))
      obtain ⟨VA2,vc2,hv12⟩:=GT2.out.shape
      subst hv12
      refine bkq hK trivial (h:=fun hHeld=>?_)
      clear hK K hHeld o1 o2 o3 RB GT KB HZ HCB hgB hgR
      refine tkq 6 (h:=?_)
      have c1:=qc1 RB2.out
      have z1:=RB2.out.frozen 1
      refine rdq 7 (h:=fun K hK=>?_)
      go_simp
      obtain ⟨w13,hw⟩:∃ W,W=World.setCell w12 ⟨b15,1,none⟩ (.slice VA2 (j+1) vc2):=⟨_,rfl⟩
      have RB3:Hid (w13.rowIs b15 49 2 (matCell (.int .i64 (n:Nat)) (.slice VA2 (j+1) vc2))):=hid (by rw [hw]; exact (RB2.out.set 1 _).congr fun u hu=>by rcases (show u=0∨u=1 by omega) with rfl | rfl <;> rfl)
      have GT3:Hid (GTab w13 w7.heap.size (.slice VA2 (j+1) vc2) (j+1) n (fun i=>if i=j then g else R i) fun _ _=>0):=hid (by rw [hw]; exact GT2.out.kept (zaW w12 b15 1 _) RB2.out (by decide) (by decide) (by unfold maxLen; omega))
      have KB3:Hid (Below w7.heap.size w7 w13):=hid (by rw [hw]; exact KB2.out.setCell (p:=⟨b15,1,none⟩) HB15.out _)
      rw [<-hw];clear hw c1 z1 RB2 GT2 KB2
      refine bkq hK trivial (h:=fun hHeld=>?_)
      clear hK K hHeld
      refine wpAnyH_done (by kernel_rfl) ?_ _
      go_wp2
      go_roundg (gk - 1)
      case measure=>omega
      case rel=>exact ⟨j+1,_,_,by go_num,by omega,by omega,RB3.out,GT3.out,KB3.out⟩
    ·obtain rfl : r = j := by omega
     have hlj':¬ (r:Int)<(r:Int):=by omega
     obtain ⟨rr,hrr⟩:∃ x,x=r:=⟨_,rfl⟩
     have hn0:IntKind.i64.wrap ((n:Int) - 1)=(n:Int) - 1:=by rw [IntWalk.i64_in _ (by omega)]
     have HRL:Hid (∀ u,u<r->w7.heap.size<=R u):=hid fun u hu=>(GT.out.row u hu).1
     go_upto_region 23 with fail
     go_loopg [13,94] n (fun gg lv iv wx=>∃ (i:Nat) (h:Nat->Nat->Nat) (L:Nat->Nat),iv=.int .i64 (i:Nat)/\i<=n/\n<=i+gg/\Own wx w.heap.size 3 1 lv Q (fun u _=>.int .i64 (L u:Nat))/\GrSt q r (addF P M) (mulF P M m) d i h L/\GTab wx w7.heap.size (.slice VA r vc) r n R (fun u t=>if t<i then h t u else 0)/\Below w7.heap.size w7 wx/\wx.rowIs b15 49 2 (matCell (.int .i64 (n:Nat)) (.slice VA r vc))/\Hid (∀ u,u<r->lv.ownBlock≠some (R u)))
     case atStart =>
      refine ⟨0,fun _ _=>0,L0,rfl,by omega,by omega,HLo.out.on KB.out,HGS0.out _,GT.out.congr fun u _ t _=>by rw [if_neg (by omega)],KB.out,RB.out,hid fun u hu e=>?_⟩
      have h1:=HRL.out u hu
      have h2:=(HLo.out.lt gl rfl).2
      have e2:gl=R u:=Option.some.inj e
      omega
     case round =>
      clear RB GT KB
      obtain ⟨i,h,L,rfl,hi,hig,hO,hgs,hgt,kb,rb,HNE⟩:=hrel
      have hi0:(0:Int)<=(i:Int):=by omega
      obtain ⟨LA,lc,hlv⟩:=hO.shape
      subst hlv
      have HO:=hid hO
      have HGS:=hid hgs
      have GT:=hid hgt
      have KB:=hid kb
      have RB:=hid rb
      obtain ⟨w10,hw10⟩:∃ X,X=wr:=⟨_,rfl⟩
      subst hw10
      clear hO hgs hgt kb rb
      by_cases hin:i<n
      ·have hin' : (i : Int) < (n : Int) := by omega
       have hi1w:IntKind.i64.wrap ((i:Int)+1)=((i+1:Nat):Int):=by rw [IntWalk.i64_in _ (by omega)]; rfl
       obtain ⟨gN,hgN⟩:∃ x,x=gk:=⟨_,rfl⟩
       subst hgN
       go_upto_block 7 with fail
       go_cut [17] (fun v17 wx=>∃ v:Nat,v17=.int .i64 (v:Nat)/\v<=Q/\Hid (∀ u,u<v->2<=d/\L u<=d - 2)/\Hid (v<Q->2<=d->d - 2<L v)/\w10=wx)
       case first =>
        go_wp2_with fail
        go_loopg [17] Q (fun gg vv wx=>∃ v:Nat,vv=.int .i64 (v:Nat)/\v<=Q/\Q<=v+gg/\Hid (∀ u,u<v->2<=d/\L u<=d - 2)/\w10=wx)
        case atStart=>exact ⟨0,rfl,by omega,by omega,hid fun u hu=>absurd hu (by omega),rfl⟩
        case round =>
         obtain ⟨v,rfl,hvQ,hvg,HV,hwx⟩:=hrel
         subst hwx
         have hv0:(0:Int)<=(v:Int):=by omega
         by_cases hlt:v<Q
         ·have hlt':decide ((v:Int)<(Q:Int))=true:=decide_eq_true (by omega)
          have hltP:(v:Int)<(Q:Int):=by omega
          by_cases hd:1<d
          ·have hd':decide ((d:Int) > 1)=true:=decide_eq_true (by omega)
           obtain ⟨lb,lo,rfl,_,l0⟩:=Rd.at1 (HO.out.rd rfl) hlt
           obtain ⟨y,hy⟩:∃ y,y=L v:=⟨_,rfl⟩
           rw [<-hy] at l0
           have HY:=hid hy
           clear hy
           obtain ⟨e2,he2⟩:∃ x:Nat,x=d - 2:=⟨_,rfl⟩
           have hd2w:IntKind.i64.wrap ((d:Int) - 2)=(e2:Int):=by rw [IntWalk.i64_in _ (by omega)]; omega
           have HE2:=hid he2
           clear he2
           by_cases hle:y<=e2
           ·have hle':decide ((y:Int)<=(e2:Int))=true:=decide_eq_true (by omega)
            have hv1w:IntKind.i64.wrap ((v:Int)+1)=((v+1:Nat):Int):=by rw [IntWalk.i64_in _ (by omega)]; rfl
            go_wp2
            go_roundg (gk - 1)
            case measure=>omega
            case rel=>exact ⟨v+1,by go_num,by omega,by omega,hid fun u hu=>by
             by_cases e:u=v
             ·rw [e,<-HY.out,<-HE2.out]; exact ⟨hd,hle⟩
             ·exact HV.out u (by omega),rfl⟩
           ·have hle':decide ((y:Int)<=(e2:Int))=false:=decide_eq_false (by omega)
            go_wp2
            go_meet
            exact ⟨v,rfl,hvQ,HV,hid fun _ _=>by rw [<-HY.out,<-HE2.out]; omega,rfl⟩
          ·have hd':decide ((d:Int) > 1)=false:=decide_eq_false (by omega)
           go_wp2
           go_meet
           exact ⟨v,rfl,hvQ,HV,hid fun _ h2=>absurd h2 (by omega),rfl⟩
         ·have hlt':decide ((v:Int)<(Q:Int))=false:=decide_eq_false (by omega)
          go_wp2
          go_meet
          exact ⟨v,rfl,hvQ,HV,hid fun h2=>absurd h2 hlt,rfl⟩
       case rest =>
        obtain ⟨v,rfl,hvQ,HV,HVn,hwx⟩:=hcut
        subst hwx
        by_cases hvq:v=Q
        ·subst hvq
         have hvq':((v:Int) == (v:Int))=true:=by simp
         have hRO:=zaa HRO.out KB.out
         have r0:=hRO.frozen 0
         have s0:=qc0 hRO
         have r1:=hRO.frozen 1
         have s1:=qc1 hRO
         have r2:=hRO.frozen 2
         have s2:=qc2 hRO
         have r3:=hRO.frozen 3
         have s3:=qc3 hRO
         have r4:=hRO.frozen 4
         have s4:=qc4 hRO
         have hB10:=onS HB7.out KB.out
         go_wp2
         clear r0 s0 r1 s1 r2 s2 r3 s3 r4 s4
         generalize hw9:World.setCell _ _ _=w11
         obtain ⟨row9,hg9⟩:=za6 hRO hw9.symm
         clear hw9
         have hB9:=hB10.grown hg9 hB10.size (fun q e=>by injection e with e; omega)
         have e0:=qc0 row9
         have e1:=qc1 row9
         have e2:=qc2 row9
         have e3:=qc3 row9
         have e4:=qc4 row9
         refine bodyPost_ret (v:=.tuple #[.agg #[.int .i64 0,.int .i64 0,.slice none 0 0,.int .i64 0,.slice none 0 0],.int .i64 11]) (by simp [results,Try.results7, go_sem,e0,e1,e2,e3,e4]) rfl ?_
         exact ⟨hB9,.inl ⟨i,h,L,hin,HGS.out,by rw [<-HQr.out]; exact HV.out,rfl⟩⟩
        ·have hvq':((v:Int) == (Q:Int))=false:=by
          have h0:¬ (v:Int)=(Q:Int):=by omega
          simpa using h0
         have hvQ2:v<Q:=by omega
         clear hvq
         have HG10:=hid (HG.out.on KB.out)
         go_wp2_with fail
         refine (zb5 HG10.out).mono ?_
         rintro e w11 ⟨rfl,kb⟩
         rw [<-HQ.out];replace HO:=hid (HO.out.on kb);replace GT:=hid (GT.out.on kb);replace KB:=hid (onS KB.out kb);replace RB:=hid (zaa RB.out kb);clear kb HG10
         go_wp2_with fail
         refine (zdp v q r w11 (by omega) (by omega) (by omega) (by omega)).mono ?_
         rintro e w12 ⟨ge,hge,rfl,hrow,kb⟩
         have HRge:Hid (∀ u,u<r->R u≠ge):=hid fun u hu e=>by
          have:=(GT.out.row u hu).2.lt
          omega
         have HLge:Hid ((Value.slice LA Q lc).ownBlock≠some ge):=hid fun e=>by
          have:=(HO.out.lt ge e).2
          omega
         have hbge:b15≠ge:=by have:=RB.out.lt; omega
         have HDIG:=hid (show ∀ u,digW q r v u<q from fun u=>zc6 (by omega))
         obtain ⟨D,hD⟩:∃ D:Nat->Nat,D=digW q r v:=⟨_,rfl⟩
         have HD:=hid hD
         rw [<-hD] at hrow HDIG;replace HO:=hid (HO.out.on kb);replace GT:=hid (GT.out.on kb);replace KB:=hid (onS KB.out kb);replace RB:=hid (zaa RB.out kb)
         have HROW:=hid hrow
         clear kb hrow hge hD
         go_upto_region 32 with fail
         have HbR:Hid (∀ u,u<r->b15≠R u):=hid fun u hu e=>by
          rcases zay RB.out (zaJ (GT.out.row u hu).2 (GT.out.row u hu).1 (by unfold maxLen; omega)) (by decide) with e2 | e2
          ·cases e2
          ·exact e2 (by rw [e]; rfl)
         go_loopg [126] r (fun gg jv wx=>∃ j:Nat,jv=.int .i64 (j:Nat)/\j<=r/\r<=j+gg/\Own wx w.heap.size 3 1 (.slice LA Q lc) Q (fun u _=>.int .i64 (L u:Nat))/\GTab wx w7.heap.size (.slice VA r vc) r n R (fun u t=>if t<i then h t u else if t=i/\u<j then D u else 0)/\Below w7.heap.size w7 wx/\wx.rowIs b15 49 2 (matCell (.int .i64 (n:Nat)) (.slice VA r vc))/\wx.rowIs ge 3 r (fun u=>.int .i64 (D u:Nat)))
         case atStart=>exact ⟨0,rfl,by omega,by omega,HO.out,GT.out.congr fun u _ t _=>by
          by_cases e:t<i
          ·rw [if_pos e,if_pos e]
          ·rw [if_neg e,if_neg e,if_neg (by omega)],KB.out,RB.out,HROW.out⟩
         case round =>
          clear HO GT KB RB HROW
          obtain ⟨j,rfl,hj,hjg,hO,hgt,kb,rb,hrow⟩:=hrel
          have hj0:(0:Int)<=(j:Int):=by omega
          have HO:=hid hO
          have GT:=hid hgt
          have KB:=hid kb
          have RB:=hid rb
          have HROW:=hid hrow
          obtain ⟨w13,hw13⟩:∃ X,X=wr:=⟨_,rfl⟩
          subst hw13
          clear hO hgt kb rb hrow
          by_cases hlj:j<r
          ·have hlj':(j:Int)<(r:Int):=by omega
           have hj1w:IntKind.i64.wrap ((j:Int)+1)=((j+1:Nat):Int):=by rw [IntWalk.i64_in _ (by omega)]; rfl
           have d0:w13.cell? ⟨ge,j,none⟩=some (.int .i64 (D j:Nat)):=HROW.out.cell hlj
           have m1:=qc1 RB.out
           obtain ⟨vb,vo,vc',hve,v0⟩:=GT.out.at hlj
           obtain ⟨hve1,hve2⟩:VA=some ⟨vb,vo,none⟩/\vc=vc':=by injection hve with a _ b; exact ⟨a,b⟩
           subst hve1 hve2
           have c0:=(GT.out.row j hlj).2.cell (i:=i) hin
           have c1:=(GT.out.row j hlj).2.frozen i
           have GT2:=hid ((GT.out.set (j:=i) hlj (D j)).congr (W':=fun u t=>if t<i then h t u else if t=i/\u<j+1 then D u else 0) fun u _ t _=>by
            show (if u=j then (if t=i then D j else if t<i then h t u else if t=i/\u<j then D u else 0) else if t<i then h t u else if t=i/\u<j then D u else 0)=if t<i then h t u else if t=i/\u<j+1 then D u else 0
            by_cases e1:t<i
            ·rw [if_pos e1,if_pos e1,if_neg (show ¬ t=i by omega)]
             split <;> rfl
            ·rw [if_neg e1,if_neg e1]
             by_cases e2:u=j
             ·rw [if_pos e2]
              by_cases e3:t=i
              ·rw [if_pos e3,if_pos ⟨e3,by omega⟩,e2]
              ·rw [if_neg e3,if_neg (fun g=>e3 g.1),if_neg (fun g=>e3 g.1)]
             ·rw [if_neg e2]
              by_cases e3:t=i/\u<j
              ·rw [if_pos e3,if_pos ⟨e3.1,by omega⟩]
              ·rw [if_neg e3,if_neg (fun g=>e3 ⟨g.1,by omega⟩)])
           have HO2:=hid (HO.out.setCell (a:=⟨R j,i,none⟩) (HNE.out j hlj) (.int .i64 (D j:Nat)))
           have KB2:=hid (KB.out.setCell (p:=⟨R j,i,none⟩) (HRL.out j hlj) (.int .i64 (D j:Nat)))
           have RB2:=hid (rowIs_setCells_other (HbR.out j hlj) [.int .i64 (D j:Nat)] i w13 RB.out)
           have HROW2:=hid (rowIs_setCells_other (fun e=>HRge.out j hlj e.symm) [.int .i64 (D j:Nat)] i w13 HROW.out)
           go_wp2
           go_roundg (gk - 1)
           case measure=>omega
           case rel=>exact ⟨j+1,by go_num,by omega,by omega,HO2.out,GT2.out,KB2.out,RB2.out,HROW2.out⟩
          ·obtain rfl:r=j:=by omega
           have hlj':¬ (r:Int)<(r:Int):=by omega
           obtain ⟨h2,hh2⟩:∃ h2:Nat->Nat->Nat,h2=fun t u=>if t=i then D u else h t u:=⟨_,rfl⟩
           have hlow:∀ t,t<i->∀ u,u<r->h t u=h2 t u:=fun t ht u _=>by
            rw [hh2]
            show h t u=if t=i then D u else h t u
            rw [if_neg (by omega)]
           have hhi:∀ u,h2 i u=D u:=fun u=>by
            rw [hh2]
            show (if i=i then D u else h i u)=D u
            rw [if_pos rfl]
           have GT2:=hid (GT.out.congr (W':=fun u t=>if t<i+1 then h2 t u else 0) fun u hu t ht=>by
            show (if t<i then h t u else if t=i/\u<r then D u else 0)=if t<i+1 then h2 t u else 0
            by_cases e1:t<i
            ·rw [if_pos e1,if_pos (by omega)]; exact hlow t e1 u hu
            ·rw [if_neg e1]
             by_cases e2:t=i
             ·rw [if_pos ⟨e2,hu⟩,if_pos (by omega),e2,hhi]
             ·rw [if_neg (fun g=>e2 g.1),if_neg (by omega)])
           have hgs2:∀ L':Nat->Nat,JoinR q r (addF P M) (mulF P M m) (AllP q r) D L L'->GrSt q r (addF P M) (mulF P M m) d (i+1) h2 L':=fun L' hJ =>
            ⟨L,v,HGS.out.ext HLq.out i hlow (fun _ _=>rfl),by rw [<-HQr.out]; exact hvQ2,HVn.out hvQ2,HV.out,fun u _=>by rw [hhi,HD.out],hJ.cong (fun _ _ g=>g.2.2) HLq.out (fun u _=>(hhi u).symm) (fun _ _=>rfl) (fun _ _=>rfl)⟩
           have HGS2:=hid hgs2
           have hLle:=HGS.out.le
           rw [<-HQr.out] at hLle;clear hlow hhi hh2 hgs2 GT
           by_cases hd3:2<d
           ·have hd3':decide ((d:Int) > 2)=true:=decide_eq_true (by omega)
            have hd3P:(d:Int) > 2:=by omega
            have HG13:=hid (HG.out.on KB.out)
            go_wp2_with fail
            refine (zd0 LA (some ⟨ge,0,none⟩) lc r r Q q L D w13 HQ HQr hQ2 hr64 HG13.out (HO.out.rd rfl) (rowInts HROW.out) (fun u _=>HDIG.out u) (fun u hu=>by have:=hLle u hu; omega)).mono ?_
            rintro e w14 ⟨LB,lb,L',rfl,hO2,hJ,kb⟩
            have GT3:=hid (GT2.out.on kb)
            have KB3:=hid (onS KB.out kb)
            have RB3:=hid (zaa RB.out kb)
            have HNE3:Hid (∀ u,u<r->(Value.slice LB Q lb).ownBlock≠some (R u)):=hid fun u hu e=>by
             have h1:=(hO2.lt _ e).1
             have h2:=(GT2.out.row u hu).2.lt
             omega
            have HO3:=hid (hO2.mono (show w.heap.size<=w13.heap.size by have:=HB7.out.size; have:=KB.out.size; omega))
            have HGS3:=hid (HGS2.out L' hJ)
            clear hO2 hJ kb GT2 KB RB HO HGS2 HROW
            go_wp2
            go_roundg (gN - 1)
            case measure=>omega
            case rel=>exact ⟨i+1,h2,L',by go_num,by omega,by omega,HO3.out,HGS3.out,GT3.out,KB3.out,RB3.out,HNE3⟩
           ·have hd3':decide ((d:Int) > 2)=false:=decide_eq_false (by omega)
            have hd3P:¬ (d:Int) > 2:=by omega
            have HGS3:=hid (HGS2.out L (JoinR.small HLq.out fun u hu=>by have:=hLle u (by rw [HQr.out]; exact hu); omega))
            go_wp2
            go_roundg (gN - 1)
            case measure=>omega
            case rel=>exact ⟨i+1,h2,L,by go_num,by omega,by omega,HO.out,HGS3.out,GT2.out,KB.out,RB.out,HNE⟩
      ·obtain rfl:n=i:=by omega
       have hin':¬ (n:Int)<(n:Int):=by omega
       have hRF:=zaa HRF.out KB.out
       have q0:=qc0 hRF
       have q1:=qc1 hRF
       have q2:=qc2 hRF
       have m0:=qc0 RB.out
       have m1:=qc1 RB.out
       have hB10:=onS HB7.out KB.out
       have hlt:=HGS.out.lt (q:=q) (by omega)
       have GT2:=hid (GT.out.congr (W':=fun u t=>h t u) fun u _ t ht=>by rw [if_pos ht])
       have HRW:Hid (IntRows w10 VA r (fun _=>n) (fun u t=>((h t u:Nat):Int))):=hid ((GT2.out.mtab (by unfold maxLen; omega)).rd hq256 fun u hu t ht=>hlt t ht u hu)
       have HME:Hid (FirstErr (MatErrs (P:Int) (M:Int) k f (n:Int) r (fun _=>n) (fun u t=>((h t u:Nat):Int))) 0):=hid (by
        refine .inr ⟨HGF.out,.inr ⟨⟨by omega,by omega,by omega,fun _ _=>rfl⟩,.inr ⟨fun u hu t ht=>?_,rfl⟩⟩⟩
        show (0:Int)<=((h t u:Nat):Int)/\((h t u:Nat):Int)<(((P:Int).toNat ^ (M:Int).toNat:Nat):Int)
        rw [Int.toNat_natCast,Int.toNat_natCast,<-HQ.out]
        have:=hlt t (show t<n from ht) u hu
        omega)
       have HRO10:=hid (zaa HRO.out KB.out)
       have HRF10:=hid hRF
       have HB10:=hid hB10
       clear hRF hB10 hlt GT GT2 RB HO
       go_wp2_with fail
       refine (zdn (P:Int) (M:Int) A k c f (n:Int) VA r vc (fun _=>n) (fun u t=>((h t u:Nat):Int)) w10 (HR.out.on HB10.out) HRW.out (by omega)).mono ?_
       rintro e w11 ⟨kb,v,hv,hcase⟩
       obtain rfl:v=0:=FirstErr.unique hv HME.out
       rcases hcase with ⟨h0,_⟩ | ⟨_,P',M',C',lv,a,W,hPe,hMe,hCe,rfl,hM,hrel⟩
       ·exact absurd rfl h0
       obtain rfl:P=P':=by omega
       obtain rfl:M=M':=by omega
       obtain rfl:n=C':=by omega
       rw [zdX,<-hm.out] at hrel
       have HREL:=hid hrel
       obtain ⟨KA,kc2,hlvs⟩:=hM.shape
       subst hlvs
       have HM:=hid hM
       have HRF11:=hid (zaa HRF10.out kb)
       have HRO11:=hid (zaa HRO10.out kb)
       have HB11:=hid (onS HB10.out kb)
       clear kb hM hrel hv hPe hMe hCe HRF10 HRO10 HB10 q0 q1 q2 m0 m1
       have HWL:Hid (∀ u,u<a->∀ t,t<n->W u t<P ^ M):=by
        obtain ⟨p3,hE3⟩:=HREL.out.rref
        exact hid hE3.lt
       have HRR:Hid (RrefN (P ^ M) a n W):=hid HREL.out.rref
       have haN:a<=n:=by
        obtain ⟨p3,hE3⟩:=HREL.out.rref
        exact hE3.le_c
       go_upto_region 40 with fail
       have rb:=zam (w:=w11) (a:=.int .i64 (n:Nat)) (b:=.slice KA a kc2) (T := 49)
       have kb:Below w11.heap.size w11 (w11.alloc (.cells #[.int .i64 (n:Nat),.slice KA a kc2] 49)):=(Below.refl _ _).alloc (Nat.le_refl _) _
       obtain ⟨w12,hw12⟩:∃ W,W=w11.alloc (.cells #[.int .i64 (n:Nat),.slice KA a kc2] 49):=⟨_,rfl⟩
       rw [<-hw12] at rb kb ⊢;clear hw12
       obtain ⟨b21,hb21⟩:∃ b,b=w11.heap.size:=⟨_,rfl⟩
       rw [<-hb21] at rb ⊢;clear hb21;replace HM:=hid (HM.out.on kb)
       have hRF:=zaa HRF11.out kb
       have HRO12:=hid (zaa HRO11.out kb)
       have HB12:=hid (onS HB11.out kb)
       have q0:=qc0 hRF
       have q1:=qc1 hRF
       have q2:=qc2 hRF
       have m0:=qc0 rb
       have m1:=qc1 rb
       have HQ2:Hid (P ^ M<=256):=hid (by rw [<-HQ.out]; exact hq256)
       have HRW2:Hid (IntRows w12 KA a (fun _=>n) (fun u t=>((W u t:Nat):Int))):=hid (HM.out.rd HQ2.out HWL.out)
       have HME2:Hid (FirstErr (MatErrs (P:Int) (M:Int) k f (n:Int) a (fun _=>n) (fun u t=>((W u t:Nat):Int))) 0):=hid (by
        refine .inr ⟨HGF.out,.inr ⟨⟨by omega,by omega,by omega,fun _ _=>rfl⟩,.inr ⟨fun u hu t ht=>?_,rfl⟩⟩⟩
        show (0:Int)<=((W u t:Nat):Int)/\((W u t:Nat):Int)<(((P:Int).toNat ^ (M:Int).toNat:Nat):Int)
        rw [Int.toNat_natCast,Int.toNat_natCast]
        have:=HWL.out u hu t (show t<n from ht)
        omega)
       clear hRF rb kb HRF11 HRO11
       go_wp2_with fail
       refine (zeU (P:Int) (M:Int) A k c f (n:Int) KA a kc2 (fun _=>n) (fun u t=>((W u t:Nat):Int)) w12 (HR.out.on HB12.out) HRW2.out hkc hk HME2.out ⟨by omega,by omega⟩).mono ?_
       rintro e w13 ⟨P',M',C',v,lv,a',p',W',hPe,hMe,hCe,rfl,hO,hM2,hE,hRo,kb⟩
       obtain rfl:P=P':=by omega
       obtain rfl:M=M':=by omega
       obtain rfl:n=C':=by omega
       rw [zdX,<-hm.out] at hRo
       obtain ⟨ea,eW⟩:=(zdD (fieldLaws HFO.out) HWL.out hE hRo).1 HRR.out
       subst ea
       obtain ⟨A2,c2,hvs⟩:=hO.shape
       subst hvs
       have HB13:=hid (onS HB12.out kb)
       have hsw:w.heap.size<=w12.heap.size:=HB12.out.size
       have HM2:=hid ((hM2.congr eW).mono hsw)
       have HO2:=hid (hO.mono hsw)
       obtain ⟨LA2,lc2,hlv⟩:=HM2.out.shape
       subst hlv
       have ro:=zaa HRO12.out kb
       clear kb hO hM2 hE hRo eW hPe hMe hCe q0 q1 q2 m0 m1 HRO12 HB12 HM
       have r0:=ro.frozen 0
       have s0:=qc0 ro
       have r1:=ro.frozen 1
       have s1:=qc1 ro
       have r2:=ro.frozen 2
       have s2:=qc2 ro
       have r3:=ro.frozen 3
       have s3:=qc3 ro
       have r4:=ro.frozen 4
       have s4:=qc4 ro
       go_wp2
       clear r0 s0 r1 s1 r2 s2 r3 s3 r4 s4
       generalize hw9:World.setCell _ _ _=w14
       obtain ⟨row9,hg9⟩:=za6 ro hw9.symm
       clear hw9
       have hB9:=HB13.out.grown hg9 HB13.out.size (fun q e=>by injection e with e; omega)
       have hO9:=HO2.out.kept hg9 (zan ro HO2.out (by decide))
       have hM9:=HM2.out.kept hg9 ro (by decide) (by decide)
       have e0:=qc0 row9
       have e1:=qc1 row9
       have e2:=qc2 row9
       have e3:=qc3 row9
       have e4:=qc4 row9
       refine bodyPost_ret (v:=.tuple #[.agg #[.int .i64 (P:Nat),.int .i64 (M:Nat),.slice A2 k c2,.int .i64 (n:Nat),.slice LA2 a' lc2],.int .i64 0]) (by simp [results,Try.results7, go_sem,e0,e1,e2,e3,e4]) rfl ?_
       exact ⟨hB9,.inr ⟨h,L,_,_,_,W,HGS.out,rfl,hO9,hM9,by rw [HQ.out]; exact HREL.out⟩⟩
theorem zbP (q n c Q:Nat) (A:Option Addr) (u:Nat->Nat) (w:World) (hQ:Hid (Q=q ^ n)) (hQ2:Q<=65536) (hq:1<=q) (hq2:q<=256) (hn:n<=1048576) (h:IntsR w w.heap.size A n (fun i=>(u i:Nat))) (hu:∀ i,i<n->u i<q) :
  Calls Try.prog 25 #[.int .i64 (q:Nat),.slice A n c] w fun e w'=>e=.returned (.int .i64 (idxW q u n:Nat))/\w=w':=by
 have HU:=hid hu
 have HH:=hid h
 clear h hu
 go_enter Try.func25, Try.ntmps25
 go_upto_region 3 with fail
 go_loopg [5,6] n (fun gg av iv wx=>∃ i:Nat,iv=.int .i64 (i:Nat)/\av=.int .i64 (idxW q u i:Nat)/\i<=n/\n<=i+gg/\w=wx)
 case atStart=>exact ⟨0,rfl,rfl,by omega,by omega,rfl⟩
 case round =>
  obtain ⟨i,rfl,rfl,hi,hig,hwx⟩:=hrel
  subst hwx
  have hi0:(0:Int)<=(i:Int):=by omega
  have hAQ:idxW q u i<Q:=by rw [hQ.out]; exact zdZ hi HU.out hq
  by_cases hlt:i<n
  ·have hlt':(i:Int)<(n:Int):=by omega
   have hst:idxW q u (i+1)=idxW q u i*q+u i:=rfl
   obtain ⟨X,hX⟩:∃ X,X=idxW q u i:=⟨_,rfl⟩
   rw [<-hX] at hst hAQ ⊢
   have HST:=hid hst
   clear hst hX
   obtain ⟨b,o,rfl,_,c0⟩:=HH.out.at hlt
   have hui:=HU.out i hlt
   obtain ⟨z,hz⟩:∃ z,z=u i:=⟨_,rfl⟩
   rw [<-hz] at c0 hui
   have HZ:=hid hz
   clear hz
   have hi1w:IntKind.i64.wrap ((i:Int)+1)=((i+1:Nat):Int):=by rw [IntWalk.i64_in _ (by omega)]; rfl
   have hm:X*q<=65536*256:=Nat.mul_le_mul (by omega) hq2
   have hwA:IntKind.i64.wrap ((X:Int)*(q:Int))=((X*q:Nat):Int):=by
    rw [show (X:Int)*(q:Int)=((X*q:Nat):Int) by push_cast; rfl,IntWalk.i64_in _ (by omega)]
   have hwB:Hid (wrap64 ((X:Int)*(q:Int)+(z:Int))=((X*q+z:Nat):Int)):=by
    show _=_
    obtain ⟨B,hB'⟩:∃ B,B=X*q:=⟨_,rfl⟩
    rw [show (X:Int)*(q:Int)=(B:Int) by rw [hB']; push_cast; rfl,<-hB']
    unfold wrap64
    omega
   clear hm
   go_wp2
   go_roundg (gk - 1)
   case measure=>omega
   case rel=>exact ⟨i+1,by go_num,by rw [HST.out,<-HZ.out,<-hwB.out],by omega,by omega,rfl⟩
  ·obtain rfl:n=i:=by omega
   have hlt':¬ (n:Int)<(n:Int):=by omega
   go_wp2
   go_ret
   exact ⟨rfl,rfl⟩
def vecN (q r:Nat):Nat:=if q ^ r<=65536 then q ^ r else 0
theorem zbg (q r:Nat) (w:World) (hq:1<=q) (hq2:q<=256) (hr:r<=1048576) :
  Calls Try.prog 16 #[.int .i64 (q:Nat),.int .i64 (r:Nat)] w fun e w'=>e=.returned (.int .i64 (vecN q r:Nat))/\w=w':=by
 obtain ⟨vn,hvn⟩:∃ x,x=vecN q r:=⟨_,rfl⟩
 rw [<-hvn]
 have HVN:=hid hvn
 clear hvn
 go_enter Try.func16, Try.ntmps16
 go_upto_region 3 with fail
 go_loopg [5,6] r (fun gg av iv wx=>∃ i X:Nat,iv=.int .i64 (i:Nat)/\av=.int .i64 (X:Nat)/\Hid (X=q ^ i)/\X<=65536/\i<=r/\r<=i+gg/\w=wx)
 case atStart=>exact ⟨0,1,rfl,rfl,hid (by simp),by omega,by omega,by omega,rfl⟩
 case round =>
  obtain ⟨i,X,rfl,rfl,HX,hX,hi,hig,hwx⟩:=hrel
  subst hwx
  have hi0:(0:Int)<=(i:Int):=by omega
  by_cases hlt:i<r
  ·have hlt':(i:Int)<(r:Int):=by omega
   have hi1w:IntKind.i64.wrap ((i:Int)+1)=((i+1:Nat):Int):=by rw [IntWalk.i64_in _ (by omega)]; rfl
   have hm:X*q<=65536*256:=Nat.mul_le_mul hX hq2
   obtain ⟨Y,hY⟩:∃ Y,Y=X*q:=⟨_,rfl⟩
   have hwA:IntKind.i64.wrap ((X:Int)*(q:Int))=((Y:Nat):Int):=by
    rw [show (X:Int)*(q:Int)=(Y:Int) by rw [hY]; push_cast; rfl,IntWalk.i64_in _ (by omega)]
   have HY:Hid (Y=q ^ (i+1)):=hid (by rw [hY,HX.out,Nat.pow_succ])
   clear hm hY
   by_cases hbig:Y > 65536
   ·have hb':(Y:Int) > 65536:=by omega
    have hb2:decide ((Y:Int) > 65536)=true:=decide_eq_true hb'
    have h0:vn=0:=by
     have h1:q ^ (i+1)<=q ^ r:=Nat.pow_le_pow_right hq hlt
     have h2:=HY.out
     have h3:=HVN.out
     unfold vecN at h3
     rw [if_neg (by omega)] at h3
     exact h3
    subst h0
    go_wp2
    go_ret
    exact ⟨rfl,rfl⟩
   ·have hb':¬ (Y:Int) > 65536:=by omega
    have hb2:decide ((Y:Int) > 65536)=false:=decide_eq_false hb'
    go_wp2
    go_roundg (gk - 1)
    case measure=>omega
    case rel=>exact ⟨i+1,Y,by go_num,by go_num,HY,by omega,by omega,by omega,rfl⟩
  ·obtain rfl:r=i:=by omega
   have hlt':¬ (r:Int)<(r:Int):=by omega
   have h0:vn=X:=by
    have h3:=HVN.out
    have h2:=HX.out
    unfold vecN at h3
    rw [if_pos (by omega)] at h3
    omega
   subst h0
   go_wp2
   go_ret
   exact ⟨rfl,rfl⟩
theorem zbC (q n v:Nat) (w:World) (hq:1<=q) (hq2:q<=1048576) (hv:v<=1048576) (hn:n<=1048576) :
  Calls Try.prog 24 #[.int .i64 (q:Nat),.int .i64 (n:Nat),.int .i64 (v:Nat)] w (RowPost' n (digW q n v) w):=by
 have hmk:=fun W=>zao (P:=Try.prog) 22 3 _ 8 Try.underlying22 Try.infoInt rfl (n:Int) (by omega) (by omega) (by omega) W
 simp only [Int.toNat_natCast] at hmk
 have row:=World.rowIs_made w (.int .i64 0) n 3
 have hB:Below w.heap.size w (w.alloc (.cells (madeCells #[.int .i64 0] n) 3)):=(Below.refl _ _).alloc (Nat.le_refl _) _
 have hp1:(1:Int)<=(q:Int):=by omega
 have hp0:¬ (q:Int)=0:=by omega
 have hpm:(q:Int)<=1048576:=by omega
 go_enter Try.func24, Try.ntmps24
 go_wp2
 obtain ⟨w1,hw1⟩:∃ W,W=w.alloc (.cells (madeCells #[.int .i64 0] n) 3):=⟨_,rfl⟩
 obtain ⟨g,hg⟩:∃ g,g=w.heap.size:=⟨_,rfl⟩
 rw [<-hw1,<-hg];rw [<-hw1] at hB row;rw [<-hg] at row
 have hgB:w.heap.size<=g:=by omega
 clear hw1 hg hmk
 go_loopg [2,8] n (fun gg xv iv wx=>∃ (k:Nat) (x:Int),iv=.int .i64 x/\Hid (x=(k:Int) - 1)/\xv=.int .i64 (v / q ^ (n - k):Nat)/\k<=n/\k<=gg/\wx.rowIs g 3 n (fun j=>.int .i64 ((if k<=j then digW q n v j else 0:Nat):Int))/\Below w.heap.size w wx)
 case atStart=>exact ⟨n,_,rfl,hid rfl,by simp,by omega,by omega,row.congr fun i hi=>by show _=Value.int .i64 ((if n<=i then _ else 0:Nat):Int); rw [if_neg (by omega)]; rfl,hB⟩
 case round =>
  clear row hB
  obtain ⟨k,x,rfl,hx,rfl,hk,hkg,row,hB⟩:=hrel
  by_cases h0:k=0
  ·subst h0
   obtain rfl:x = -1:=by have:=hx.out; omega
   have hge:¬ (-1:Int) ≥ 0:=by omega
   clear hx
   go_wp2
   go_ret
   exact ⟨g,hgB,rfl,row.congr fun i _=>by rw [if_pos (Nat.zero_le _)],hB⟩
  ·obtain ⟨j,rfl⟩:∃ j,k=j+1:=⟨k - 1,by omega⟩
   obtain rfl:x=(j:Int):=by have:=hx.out; omega
   clear hx h0
   have hle:v / q ^ (n - (j+1))<=v:=Nat.div_le_self _ _
   have hst:v / q ^ (n - j)=v / q ^ (n - (j+1)) / q:=by rw [show n - j=(n - (j+1))+1 by omega,Nat.pow_succ,Nat.div_div_eq_div_mul]
   have hdg:digW q n v j=v / q ^ (n - (j+1)) % q:=by unfold digW; rw [show n - 1 - j=n - (j+1) by omega]
   obtain ⟨y,hy⟩:∃ y,y=v / q ^ (n - (j+1)):=⟨_,rfl⟩
   rw [<-hy] at hle hst hdg;rw [<-hy]
   have HST:=hid hst
   have HDG:=hid hdg
   clear hy hst hdg
   have hlt':(j:Int)<(n:Int):=by omega
   have hj0:(0:Int)<=(j:Int):=by omega
   have hge:(j:Int) ≥ 0:=by omega
   have hy0:(0:Int)<=(y:Int):=by omega
   have hy1:(y:Int)<=1048576:=by omega
   have hmod:(y:Int) % (q:Int)=((y % q:Nat):Int):=by simp
   have hdiv:(y:Int) / (q:Int)=((y / q:Nat):Int):=by simp
   obtain ⟨r,hr⟩:∃ r,r=y % q:=⟨_,rfl⟩
   obtain ⟨z,hz⟩:∃ r,r=y / q:=⟨_,rfl⟩
   rw [<-hr] at hmod;rw [<-hz] at hdiv
   have hz0:(0:Int)<=(z:Int):=by omega
   have hz1:(z:Int)<=1048576:=by have:y / q<=y:=Nat.div_le_self _ _; omega
   have HR:=hid hr
   have HZ:=hid hz
   clear hr hz
   have hf0:=row.frozen j
   have hc0:=row.cell (i:=j) (by omega)
   have hw1:IntKind.i64.wrap ((j:Int) - 1)=(j:Int) - 1:=by rw [IntWalk.i64_in _ (by omega)]
   obtain ⟨w2,hw2⟩:∃ W,W=wr:=⟨_,rfl⟩
   rw [<-hw2] at row hB hf0 hc0 ⊢;clear hw2
   go_wp2
   have row2:=row.set j (.int .i64 (r:Nat))
   have hB2:=hB.setCell (p:=⟨g,j,none⟩) hgB (.int .i64 (r:Nat))
   go_roundg (gk - 1)
   case measure=>omega
   case rel =>
    refine ⟨j,_,rfl,hid rfl,by rw [HST.out,HZ.out],by omega,by omega,row2.congr fun i hi=>?_,hB2⟩
    show (if i=j then Value.int .i64 (r:Nat) else .int .i64 ((if j+1<=i then digW q n v i else 0:Nat):Int))=.int .i64 ((if j<=i then digW q n v i else 0:Nat):Int)
    by_cases e:i=j
    ·subst e
     rw [if_pos rfl,if_pos (Nat.le_refl _),HDG.out,HR.out]
    ·rw [if_neg e]
     by_cases e2:j<=i
     ·rw [if_pos e2,if_pos (by omega)]
     ·rw [if_neg e2,if_neg (by omega)]
def GrOk (P M:Int) (k:Nat) (f:Nat->Int) (n r d:Int):Prop :=
 GoodF P M k f/\∃ n' r' d':Nat,n=n'/\r=r'/\d=d'/\1<=n'/\n'<=64/\r'<=16/\1<=d'/\d'<=n'/\(P.toNat ^ M.toNat) ^ r'<=65536
def GrErrPost (P M:Int) (k:Nat) (f:Nat->Int) (n r d:Int) (w:World) (e:Ending) (w':World):Prop:=Below w.heap.size w w'/\∃ v:Int,e=.returned (.int .i64 v)/\(v=0->GrOk P M k f n r d)
theorem zaV {P M:Int} {k:Nat} {f:Nat->Int} {n r d v:Int} {w w':World} (hv:v≠0) (hB:Below w.heap.size w w'):GrErrPost P M k f n r d w (.returned (.int .i64 v)) w':=⟨hB,v,rfl,fun h=>absurd h hv⟩
theorem zcw (P M:Int) (A:Option Addr) (k c:Nat) (f:Nat->Int) (n r d:Int) (w:World) (hr:IntsR w w.heap.size A k f) :
  Calls Try.prog 5 #[.agg #[.int .i64 P,.int .i64 M,.slice A k c],.int .i64 n,.int .i64 r,.int .i64 d] w (GrErrPost P M k f n r d w):=by
 have HR:=hid hr
 clear hr
 have hB:Below w.heap.size w (w.alloc (.cells #[.int .i64 P,.int .i64 M,.slice A k c] 24)):=(Below.refl _ _).alloc (Nat.le_refl _) _
 have rf:=zad (w:=w) (a:=.int .i64 P) (b:=.int .i64 M) (c:=.slice A k c) (T := 24)
 obtain ⟨w1,hw1⟩:∃ W,W=w.alloc (.cells #[.int .i64 P,.int .i64 M,.slice A k c] 24):=⟨_,rfl⟩
 rw [<-hw1] at hB rf
 go_enter Try.func5, Try.ntmps5
 go_upto_region 1 with fail
 rw [<-hw1];clear hw1
 have q0:=qc0 rf
 have q1:=qc1 rf
 have q2:=qc2 rf
 go_wp2_with fail
 refine (zdg P M A k c f w1 (HR.out.on hB)).mono ?_
 rintro e w2 ⟨v,rfl,hv,kb⟩
 replace rf:=zaa rf kb;replace hB:=onS hB kb;clear kb q0 q1 q2
 rcases hv with ⟨rfl,hg⟩ | ⟨rfl,_⟩
 rotate_left
 ·go_wp2
  go_ret
  exact zaV (by decide) hB
 have HG:=hid hg
 have q0:=qc0 rf
 have q1:=qc1 rf
 have q2:=qc2 rf
 clear hg
 by_cases h1:n<1
 ·have h1':decide (n<1)=true:=decide_eq_true h1
  go_wp2
  go_ret
  exact zaV (by decide) hB
 have h1':decide (n<1)=false:=decide_eq_false h1
 by_cases h2:n > 64
 ·have h2':decide (n > 64)=true:=decide_eq_true h2
  go_wp2
  go_ret
  exact zaV (by decide) hB
 have h2':decide (n > 64)=false:=decide_eq_false h2
 by_cases h3:r<0
 ·have h3':decide (r<0)=true:=decide_eq_true h3
  go_wp2
  go_ret
  exact zaV (by decide) hB
 have h3':decide (r<0)=false:=decide_eq_false h3
 by_cases h4:d<1
 ·have h4':decide (d<1)=true:=decide_eq_true h4
  go_wp2
  go_ret
  exact zaV (by decide) hB
 have h4':decide (d<1)=false:=decide_eq_false h4
 by_cases h5:d > n
 ·have h5':decide (d > n)=true:=decide_eq_true h5
  go_wp2
  go_ret
  exact zaV (by decide) hB
 have h5':decide (d > n)=false:=decide_eq_false h5
 by_cases h6:r > 16
 ·have h6':decide (r > 16)=true:=decide_eq_true h6
  go_wp2
  go_ret
  exact zaV (by decide) hB
 have h6':decide (r > 16)=false:=decide_eq_false h6
 obtain ⟨P',M',hP,hM,hfo,hpr,hmo⟩:=HG.out
 subst hP hM
 obtain ⟨r',rfl⟩:∃ r':Nat,r=r':=⟨r.toNat,by omega⟩
 have ho:=zbh hfo
 have hq256:=hfo.2.2.2
 have hq1:1<=P' ^ M':=Nat.pow_pos (by have:=hfo.1; omega)
 have HO:=hid ho
 clear ho hmo hpr hfo
 go_wp2_with fail
 refine (za0 (P':Int) (M':Int) A k c w2).mono ?_
 rintro e w3 ⟨rfl,kb⟩
 rw [HO.out];replace hB:=onS hB kb
 obtain ⟨Q',hQ'⟩:∃ x,x=P' ^ M':=⟨_,rfl⟩
 rw [<-hQ'] at hq256 hq1 ⊢
 have HQ':=hid hQ'
 clear kb q0 q1 q2 rf hQ'
 go_wp2_with fail
 refine (zbg Q' r' w3 hq1 hq256 (by omega)).mono ?_
 rintro e w4 ⟨rfl,hw4⟩
 subst hw4
 by_cases hb:Q' ^ r'<=65536
 ·have hp:0<Q' ^ r':=Nat.pow_pos hq1
  obtain ⟨vn,hvn⟩:∃ x,x=vecN Q' r':=⟨_,rfl⟩
  have hv0:vn≠0:=by rw [hvn]; unfold vecN; rw [if_pos hb]; omega
  rw [<-hvn]
  have hz:((vn:Int) == 0)=false:=by
   have h0:¬ (vn:Int)=0:=by omega
   simpa using h0
  have hfin:GrOk (P':Int) (M':Int) k f n (r':Int) d:=⟨HG.out,n.toNat,r',d.toNat,by omega,rfl,by omega,by omega,by omega,by omega,by omega,by omega,by rw [Int.toNat_natCast,Int.toNat_natCast,<-HQ'.out]; exact hb⟩
  have HFIN:=hid hfin
  clear hvn hv0 hp hb hfin
  go_wp2
  go_ret
  exact ⟨hB,0,rfl,fun _=>HFIN.out⟩
 ·have hvn:vecN Q' r'=0:=by unfold vecN; rw [if_neg hb]
  rw [hvn];clear hb
  go_wp2
  go_ret
  exact zaV (by decide) hB
theorem zeo (P M:Nat) (A:Option Addr) (k c n r q:Nat) (d:Int) (w:World) (hf:FldOk P M) (HQ:Hid (q=P ^ M)) (hr:r<=1048576) :
  Calls Try.prog 6 #[.agg #[.int .i64 (P:Nat),.int .i64 (M:Nat),.slice A k c],.int .i64 (n:Nat),.int .i64 (r:Nat),.int .i64 d] w fun e w'=>(∃ b:Bool,e=.returned (.bool b)/\(b=true↔n<=16/\vecN q r<=256))/\Below w.heap.size w w':=by
 have hB:Below w.heap.size w (w.alloc (.cells #[.int .i64 (P:Nat),.int .i64 (M:Nat),.slice A k c] 24)):=(Below.refl _ _).alloc (Nat.le_refl _) _
 have rf:=zad (w:=w) (a:=.int .i64 (P:Nat)) (b:=.int .i64 (M:Nat)) (c:=.slice A k c) (T := 24)
 obtain ⟨w1,hw1⟩:∃ W,W=w.alloc (.cells #[.int .i64 (P:Nat),.int .i64 (M:Nat),.slice A k c] 24):=⟨_,rfl⟩
 rw [<-hw1] at hB rf
 go_enter Try.func6, Try.ntmps6
 go_upto_region 1 with fail
 rw [<-hw1];clear hw1
 have q0:=qc0 rf
 have q1:=qc1 rf
 have q2:=qc2 rf
 by_cases h1:n<=16
 ·have h1':decide ((n:Int)<=16)=true:=decide_eq_true (by omega)
  have hq256:q<=256:=by rw [HQ.out]; exact hf.2.2.2
  have hq1:1<=q:=by rw [HQ.out]; exact Nat.pow_pos (by have:=hf.1; omega)
  have HO:=hid (zbh hf)
  go_wp2_with fail
  refine (za0 (P:Int) (M:Int) A k c w1).mono ?_
  rintro e w3 ⟨rfl,kb⟩
  rw [HO.out,<-HQ.out];replace hB:=onS hB kb;clear kb q0 q1 q2 rf
  go_wp2_with fail
  refine (zbg q r w3 hq1 hq256 hr).mono ?_
  rintro e w4 ⟨rfl,hw4⟩
  subst hw4
  obtain ⟨vn,hvn⟩:∃ x,x=vecN q r:=⟨_,rfl⟩
  rw [<-hvn]
  have HVN:=hid hvn
  clear hvn
  go_wp2
  go_ret
  refine ⟨⟨_,rfl,?_⟩,hB⟩
  rw [<-HVN.out]
  simp only [decide_eq_true_eq]
  omega
 ·have h1':decide ((n:Int)<=16)=false:=decide_eq_false (by omega)
  go_wp2
  go_ret
  exact ⟨⟨_,rfl,by simp; omega⟩,hB⟩
end Go.Proofs.Ytioagplajkoohaa