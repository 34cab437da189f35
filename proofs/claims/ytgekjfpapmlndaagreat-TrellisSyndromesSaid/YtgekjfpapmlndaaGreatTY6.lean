/- Merged texts of a claim: CanAll, Chk12, Null, CodeE, Dual12, Dot04, NatA, NatB. -/
import Derived.Test.YtgekjfpapmlndaaGreatTY5
namespace Go.Proofs.YtgekjfpapmlndaaGreat
set_option maxRecDepth 100000
set_option maxHeartbeats 32000000
open KB KE KF
section
variable {K:Type}
def sumK [Add K] [Zero K]:Nat->(Nat->K)->K
 | 0,_=>0
 | n+1,f=>sumK n f+f n
def ent [Zero K] (x:List K) (j:Nat):K:=x.getD j 0
def wd (k:Nat) (f:Nat->K):List K:=(List.range k).map f
theorem za5 [Add K] [Zero K] {n:Nat} {f g:Nat->K} (h:∀ i,i<n->f i=g i):sumK n f=sumK n g:=by
 induction n with
 | zero=>rfl
 | succ n ih=>show sumK n f+f n=sumK n g+g n; rw [ih fun i hi=>h i (by omega),h n (by omega)]
theorem zct (k:Nat) (f:Nat->K):(wd k f).length=k:=by simp [wd]
theorem zbe [Zero K] {k j:Nat} {f:Nat->K} (hj:j<k):ent (wd k f) j=f j:=by
 unfold ent wd
 rw [List.getD_eq_getElem?_getD,List.getElem?_map,List.getElem?_range hj]
 rfl
theorem zfd [Zero K] {x:List K} {j:Nat} (hj:j<x.length):ent x j=x[j]:=by
 unfold ent
 rw [List.getD_eq_getElem?_getD,List.getElem?_eq_getElem hj]
 rfl
theorem zeu [Zero K] {k:Nat} {x y:List K} (hx:x.length=k) (hy:y.length=k) (h:∀ j,j<k->ent x j=ent y j):x=y:=by
 refine List.ext_getElem (by omega) fun j h1 h2=>?_
 rw [<-zfd h1,<-zfd h2]
 exact h j (by omega)
theorem zev [Zero K] {k j:Nat}:ent (List.replicate k (0:K)) j=0:=by
 unfold ent
 by_cases h:j<k
 ·simp [List.getD_eq_getElem?_getD,h]
 ·simp [List.getD_eq_getElem?_getD,h]
theorem zfO [Add K] [Zero K] {k j:Nat} {x y:List K} (hx:x.length=k) (hy:y.length=k) (hj:j<k):ent (addW x y) j=ent x j+ent y j:=by
 have hl:j<(addW x y).length:=by unfold addW; rw [List.length_zipWith]; omega
 rw [zfd hl,zfd (by omega),zfd (by omega)]
 exact List.getElem_zipWith (f:=fun a b=>a+b)
theorem zdZ [Mul K] [Zero K] {k j:Nat} {a:K} {x:List K} (hx:x.length=k) (hj:j<k):ent (smulW a x) j=a*ent x j:=by
 have hl:j<(smulW a x).length:=by unfold smulW; rw [List.length_map]; omega
 rw [zfd hl,zfd (by omega)]
 exact List.getElem_map (fun b=>a*b)
end
section
variable {K:Type} [Add K] [Mul K] [Neg K] [Zero K] [One K]
variable (F:Fie K)
include F
theorem zcf {n:Nat} {f:Nat->K} (h:∀ i,i<n->f i=0):sumK n f=0:=by
 induction n with
 | zero=>rfl
 | succ n ih=>show sumK n f+f n=0; rw [ih fun i hi=>h i (by omega),h n (by omega),F.addZ]
theorem zb1 {n t:Nat} {f:Nat->K} (ht:t<n) (h:∀ i,i<n->i≠t->f i=0):sumK n f=f t:=by
 induction n with
 | zero=>omega
 | succ n ih =>
  show sumK n f+f n=f t
  by_cases e:t=n
  ·subst e
   rw [zcf F fun i hi=>h i (by omega) (by omega),F.zeroA]
  ·rw [ih (by omega) fun i hi=>h i (by omega),h n (by omega) (by omega),F.addZ]
theorem zjB {n t u:Nat} {f:Nat->K} (ht:t<n) (hu:u<n) (htu:t≠u) (h:∀ i,i<n->i≠t->i≠u->f i=0):sumK n f=f t+f u:=by
 induction n with
 | zero=>omega
 | succ n ih =>
  show sumK n f+f n=f t+f u
  by_cases e:t=n
  ·subst e
   rw [zb1 F (t:=u) (by omega) fun i hi hne=>h i (by omega) (by omega) hne,F.addC]
  ·by_cases e2:u=n
   ·subst e2
    rw [zb1 F (t:=t) (by omega) fun i hi hne=>h i (by omega) hne (by omega)]
   ·rw [ih (by omega) (by omega) fun i hi=>h i (by omega),h n (by omega) (by omega) (by omega),F.addZ]
theorem zfe (n:Nat) (f g:Nat->K):sumK n (fun i=>f i+g i)=sumK n f+sumK n g:=by
 induction n with
 | zero=>exact (F.addZ 0).symm
 | succ n ih =>
  show sumK n (fun i=>f i+g i)+(f n+g n)=sumK n f+f n+(sumK n g+g n)
  rw [ih,F.addA,F.addA,F.addL (sumK n g)]
theorem zff (c:K) (n:Nat) (f:Nat->K):sumK n (fun i=>c*f i)=c*sumK n f:=by
 induction n with
 | zero=>exact (F.mulZ c).symm
 | succ n ih =>
  show sumK n (fun i=>c*f i)+c*f n=c*(sumK n f+f n)
  rw [ih,F.dist]
theorem zjC (n:Nat) (f:Nat->K):sumK n (fun i => - f i) = - sumK n f:=by
 rw [<-F.negOne (sumK n f),<-zff F]
 exact za5 fun i _=>(F.negOne _).symm
theorem zg8 (n:Nat) (f:Nat->K):sumK (n+1) f=f 0+sumK n (fun i=>f (i+1)):=by
 induction n with
 | zero=>show 0+f 0=f 0+0; rw [F.zeroA,F.addZ]
 | succ n ih =>
  show sumK (n+1) f+f (n+1)=f 0+(sumK n (fun i=>f (i+1))+f (n+1))
  rw [ih,F.addA]
theorem zc6:∀ {k:Nat} {x y:List K},x.length=k->y.length=k->dotW x y=sumK k (fun j=>ent x j*ent y j):=by
 intro k
 induction k with
 | zero=>intro x y hx hy; rw [List.length_eq_zero_iff] at hx hy; subst hx hy; rfl
 | succ k ih =>
  intro x y hx hy
  match x,y,hx,hy with
  | a :: x,b :: y,hx,hy =>
   rw [zg8 F]
   show a*b+dotW x y=_
   rw [ih (by simpa using hx) (by simpa using hy)]
   rfl
end
section
variable {K:Type} [Add K] [Mul K] [Zero K]
def comb (k:Nat) (N:Nat->Nat->K) (c:Nat->K):Nat->List K
 | 0=>List.replicate k 0
 | f+1=>addW (comb k N c f) (smulW (c f) (wd k (N f)))
theorem zd0 (k:Nat) (N:Nat->Nat->K) (c:Nat->K):∀ f,(comb k N c f).length=k:=by
 intro f
 induction f with
 | zero=>simp [comb]
 | succ f ih=>show (addW _ _).length=k; rw [zdA (by rw [ih,zbz,zct]),ih]
theorem zg9 (k:Nat) (N:Nat->Nat->K) (c:Nat->K) {n:Nat}:∀ f,f<=n->Gen k n (fun i=>wd k (N i)) (comb k N c f):=by
 intro f
 induction f with
 | zero=>exact fun _=>.zero
 | succ f ih=>exact fun h=>.add (ih (by omega)) (.smul _ (.row (r:=fun i=>wd k (N i)) f (by omega)))
theorem zb2 {k j:Nat} (N:Nat->Nat->K) (c:Nat->K) (hj:j<k):∀ f,ent (comb k N c f) j=sumK f fun u=>c u*N u j:=by
 intro f
 induction f with
 | zero=>exact zev
 | succ f ih =>
  show ent (addW _ _) j=sumK f _+_
  rw [zfO (zd0 _ _ _ _) (by rw [zbz,zct]) hj,ih,zdZ (zct _ _) hj,zbe hj]
end
section
variable {K:Type} [Add K] [Mul K] [Neg K] [Zero K] [One K]
structure EchK (k a:Nat) (pv:Nat->Nat) (R:Nat->Nat->K):Prop where
 inc:∀ s t,s<t->t<a->pv s<pv t
 pvlt:∀ s,s<a->pv s<k
 one:∀ s,s<a->R s (pv s)=1
 zero:∀ s t,s<a->t<a->t≠s->R t (pv s)=0
 lead:∀ s,s<a->∀ j,j<pv s->R s j=0
variable (F:Fie K)
include F
theorem EchK.rep {k a:Nat} {pv:Nat->Nat} {R:Nat->Nat->K} (h:EchK k a pv R) {x:List K} (hx:Gen k a (fun i=>wd k (R i)) x) :
  x.length=k/\∀ j,j<k->ent x j=sumK a fun s=>ent x (pv s)*R s j:=by
 induction hx with
 | zero =>
  refine ⟨by simp,fun j _=>?_⟩
  rw [zev,zcf F fun s _=>by rw [zev,F.zMul]]
 | row i hi =>
  refine ⟨zct _ _,fun j hj=>?_⟩
  rw [zbe hj,zb1 F (t:=i) hi fun s hs hne=>by rw [zbe (h.pvlt s hs),h.zero s i hs hi (fun e=>hne e.symm),F.zMul]]
  rw [zbe (h.pvlt i hi),h.one i hi,F.oneM]
 | add h1 h2 i1 i2 =>
  refine ⟨by rw [zdA (by rw [i1.1,i2.1]),i1.1],fun j hj=>?_⟩
  rw [zfO i1.1 i2.1 hj,i1.2 j hj,i2.2 j hj,<-zfe F]
  exact za5 fun s hs=>by rw [zfO i1.1 i2.1 (h.pvlt s hs),F.distR]
 | smul a h1 i1 =>
  refine ⟨by rw [zbz,i1.1],fun j hj=>?_⟩
  rw [zdZ i1.1 hj,i1.2 j hj,<-zff F]
  exact za5 fun s hs=>by rw [zdZ i1.1 (h.pvlt s hs),F.mulA]
theorem EchK.lead_pv {k a:Nat} {pv:Nat->Nat} {R:Nat->Nat->K} (h:EchK k a pv R) {x:List K} (hx:Gen k a (fun i=>wd k (R i)) x) {j:Nat} (hj:j<k) (h1:ent x j≠0) (h0:∀ i,i<j->ent x i=0):∃ s,s<a/\pv s=j:=by
 refine Classical.byContradiction fun hn=>h1 ?_
 rw [(h.rep F hx).2 j hj]
 refine zcf F fun s hs=>?_
 have b:pv s≠j:=fun e=>hn ⟨s,hs,e⟩
 by_cases hlt:pv s<j
 ·rw [h0 _ hlt,F.zMul]
 ·rw [h.lead s hs j (by omega),F.mulZ]
end
theorem zk6 {a a':Nat} {p p':Nat->Nat} (h:∀ s t,s<t->t<a->p s<p t) (h':∀ s t,s<t->t<a'->p' s<p' t) (h1:∀ s,s<a->∃ t,t<a'/\p' t=p s) (h2:∀ s,s<a'->∃ t,t<a/\p t=p' s):a=a'/\∀ s,s<a->p s=p' s:=by
 have c : ∀ s, (s < a → s < a' ∧ p' s = p s) ∧ (s < a' → s < a ∧ p' s = p s) := by
  intro s
  induction s using Nat.strongRecOn with
  | _ s ih =>
   have A:s<a->s<a'/\p' s=p s:=fun hs=>by
    obtain ⟨t,ht,e⟩:=h1 s hs
    rcases Nat.lt_trichotomy t s with hl | rfl | hl
    ·have:=(ih t hl).2 ht
     have:=h t s hl hs
     omega
    ·exact ⟨ht,e⟩
    ·have b:s<a':=by omega
     have d:=h' s t hl ht
     obtain ⟨u,hu,e2⟩:=h2 s b
     rcases Nat.lt_trichotomy u s with hl2 | rfl | hl2
     ·have h3:=((ih u hl2).1 hu).2
      have:=h' u s hl2 b
      omega
     ·omega
     ·have:=h s u hl2 hu
      omega
   refine ⟨A,fun hs=>?_⟩
   obtain ⟨t,ht,e⟩:=h2 s hs
   rcases Nat.lt_trichotomy t s with hl | rfl | hl
   ·have h3:=(ih t hl).1 ht
    have:=h' t s hl hs
    omega
   ·exact ⟨ht,e.symm⟩
   ·have b:s<a:=by omega
    exact ⟨b,(A b).2⟩
 refine ⟨?_,fun s hs=>((c s).1 hs).2.symm⟩
 rcases Nat.lt_trichotomy a a' with hl | e | hl
 ·have:=((c a).2 hl).1; omega
 ·exact e
 ·have:=((c a').1 hl).1; omega
section
variable {K:Type} [Add K] [Mul K] [Neg K] [Zero K] [One K] (F:Fie K)
include F
theorem EchK.sub {k a a':Nat} {pv pv':Nat->Nat} {R R':Nat->Nat->K} (h:EchK k a pv R) (h':EchK k a' pv' R') (e:∀ x,Gen k a (fun i=>wd k (R i)) x->Gen k a' (fun i=>wd k (R' i)) x):∀ s,s<a->∃ t,t<a'/\pv' t=pv s:=fun s hs =>
 h'.lead_pv F (e _ (.row (r:=fun i=>wd k (R i)) s hs)) (h.pvlt s hs) (by
  show ent (wd k (R s)) (pv s)≠0
  rw [zbe (h.pvlt s hs),h.one s hs]
  exact F.ne) fun i hi=>by
  show ent (wd k (R s)) i=0
  rw [zbe (by have:=h.pvlt s hs; omega),h.lead s hs i hi]
theorem EchK.unique {k a a':Nat} {pv pv':Nat->Nat} {R R':Nat->Nat->K} (h:EchK k a pv R) (h':EchK k a' pv' R') (e:∀ x,Gen k a (fun i=>wd k (R i)) x↔Gen k a' (fun i=>wd k (R' i)) x) :
  a=a'/\(∀ s,s<a->pv s=pv' s)/\∀ s,s<a->∀ j,j<k->R s j=R' s j:=by
 obtain ⟨e1,e2⟩:=zk6 h.inc h'.inc (h.sub F h' fun x hx=>(e x).1 hx) (h'.sub F h fun x hx=>(e x).2 hx)
 refine ⟨e1,e2,fun s hs j hj=>?_⟩
 subst e1
 have hx:=(e _).1 (.row (r:=fun i=>wd k (R i)) s hs)
 have hr:=(h'.rep F hx).2 j hj
 rw [zbe hj,zb1 F hs fun t ht hne=>?_] at hr
 ·rw [<-e2 s hs,zbe (h.pvlt s hs),h.one s hs,F.oneM] at hr
  exact hr
 ·rw [<-e2 t ht,zbe (h.pvlt t ht),h.zero t s ht hs (fun e=>hne e.symm),F.zMul]
theorem zha {k:Nat} {y:List K} (hy:y.length=k):dotW (List.replicate k (0:K)) y=0:=by
 rw [zc6 F (by simp) hy]
 exact zcf F fun j _=>by rw [zev,F.zMul]
end
structure NullK {K:Type} [Neg K] [Zero K] [One K] (k a:Nat) (pv:Nat->Nat) (R:Nat->Nat->K) (f:Nat) (fr:Nat->Nat) (N:Nat->Nat->K):Prop where
 lt:∀ u,u<f->fr u<k
 ne:∀ u,u<f->∀ s,s<a->pv s≠fr u
 cover:∀ j,j<k->(∃ s,s<a/\pv s=j)∨∃ u,u<f/\fr u=j
 one:∀ u,u<f->N u (fr u)=1
 piv:∀ u,u<f->∀ s,s<a->N u (pv s) = - R s (fr u)
 other:∀ u,u<f->∀ v,v<f->v≠u->fr v≠fr u/\N u (fr v)=0
section
variable {K:Type} [Add K] [Mul K] [Neg K] [Zero K] [One K] (F:Fie K)
include F
theorem NullK.dot {k a f:Nat} {pv fr:Nat->Nat} {R N:Nat->Nat->K} (h:EchK k a pv R) (hn:NullK k a pv R f fr N) {u i:Nat} (hu:u<f) (hi:i<a):dotW (wd k (N u)) (wd k (R i))=0:=by
 rw [zc6 F (zct _ _) (zct _ _),zjB F (hn.lt u hu) (h.pvlt i hi) (fun e=>hn.ne u hu i hi e.symm) fun j hj h1 h2=>?_]
 ·rw [zbe (hn.lt u hu),zbe (hn.lt u hu),zbe (h.pvlt i hi),zbe (h.pvlt i hi),hn.one u hu,hn.piv u hu i hi,h.one i hi,F.oneM,F.mulOne,F.addN]
 rw [zbe hj,zbe hj]
 rcases hn.cover j hj with ⟨s,hs,e⟩ | ⟨v,hv,e⟩
 ·rw [<-e,h.zero s i hs hi (fun e2=>h2 (by rw [<-e,e2])),F.mulZ]
 ·rw [<-e,(hn.other u hu v hv (fun e2=>h1 (by rw [<-e,e2]))).2,F.zMul]
theorem NullK.perp {k a f:Nat} {pv fr:Nat->Nat} {R N:Nat->Nat->K} (h:EchK k a pv R) (hn:NullK k a pv R f fr N) (x:List K):perpW k (Gen k a (fun i=>wd k (R i))) x↔Gen k f (fun i=>wd k (N i)) x:=by
 have hl:=(Gen.linC (n:=a) (r:=fun i=>wd k (R i)) (k:=k) fun i _=>zct k (R i)).len
 have back:∀ x,Gen k f (fun i=>wd k (N i)) x->x.length=k/\∀ y,Gen k a (fun i=>wd k (R i)) y->dotW x y=0:=by
  intro x hx
  induction hx with
  | zero=>exact ⟨by simp,fun y hy=>zha F (hl y hy)⟩
  | row i hi=>exact ⟨zct _ _,Gen.perp F (fun i _=>zct k (R i)) fun s hs=>hn.dot F h hi hs⟩
  | add h1 h2 i1 i2=>exact ⟨by rw [zdA (by rw [i1.1,i2.1]),i1.1],fun y hy=>by rw [zgY F _ _ _ (by rw [i1.1,i2.1]),i1.2 y hy,i2.2 y hy,F.addZ]⟩
  | smul c h1 i1=>exact ⟨by rw [zbz,i1.1],fun y hy=>by rw [zfI F,i1.2 y hy,F.mulZ]⟩
 refine ⟨fun hx=>?_,fun hx=>back x hx⟩
 obtain ⟨b,hx⟩:=hx
 have hc:=zg9 k N (fun u=>ent x (fr u)) f (Nat.le_refl f)
 have g:=zd0 k N (fun u=>ent x (fr u)) f
 have d:∀ v,v<f->ent (comb k N (fun u=>ent x (fr u)) f) (fr v)=ent x (fr v):=fun v hv=>by
  rw [zb2 _ _ (hn.lt v hv),zb1 F hv fun u hu hne=>by rw [(hn.other u hu v hv (fun e=>hne e.symm)).2,F.mulZ],hn.one v hv,F.mulOne]
 have e:x=comb k N (fun u=>ent x (fr u)) f:=by
  refine zeu b g fun j hj=>?_
  rcases hn.cover j hj with ⟨s,hs,e⟩ | ⟨v,hv,e⟩
  rotate_left
  ·subst e
   exact (d v hv).symm
  subst e
  have d1:=hx _ (.row (r:=fun i=>wd k (R i)) s hs)
  have d2:=(back _ hc).2 _ (.row (r:=fun i=>wd k (R i)) s hs)
  rw [zc6 F b (zct _ _)] at d1;rw [zc6 F g (zct _ _)] at d2
  have d3:sumK k (fun j=>ent x j*ent (wd k (R s)) j + - (ent (comb k N (fun u=>ent x (fr u)) f) j*ent (wd k (R s)) j))=0:=by
   rw [zfe F,zjC F,d1,d2,F.addN]
  rw [zb1 F (h.pvlt s hs) fun j hj hne=>?_] at d3
  ·rw [zbe (h.pvlt s hs),h.one s hs,F.mulOne,F.mulOne] at d3
   exact F.subEq d3
  rcases hn.cover j hj with ⟨t,ht,e⟩ | ⟨v,hv,e⟩
  ·rw [zbe hj,<-e,h.zero t s ht hs (fun e2=>hne (by rw [<-e,e2])),F.mulZ,F.mulZ,F.addN]
  ·rw [<-e,d v hv,F.addN]
 rw [e]
 exact hc
end
section
variable {K:Type} [Add K] [Mul K] [Neg K] [Zero K] [One K] (F:Fie K)
include F
theorem zfg {k n:Nat} {N:Nat->Nat->K} {x:List K} (h:Gen k n (fun i=>wd k (N i)) x):x.length=k/\∃ c:Nat->K,x=comb k N c n:=by
 have b:∀ {x:List K} {c:Nat->K},x.length=k->(∀ j,j<k->ent x j=sumK n fun u=>c u*N u j)->x=comb k N c n:=fun hl he =>
  zeu hl (zd0 _ _ _ _) fun j hj=>by rw [he j hj,zb2 _ _ hj]
 induction h with
 | zero=>exact ⟨by simp,fun _=>0,b (by simp) fun j _=>by rw [zev,zcf F fun s _=>F.zMul _]⟩
 | row i hi =>
  refine ⟨zct _ _,fun u=>if u=i then 1 else 0,b (zct _ _) fun j hj=>?_⟩
  rw [zbe hj,zb1 F (t:=i) hi fun s _ hne=>by rw [if_neg hne,F.zMul],if_pos rfl,F.oneM]
 | add h1 h2 i1 i2 =>
  obtain ⟨l1,c1,e1⟩:=i1
  obtain ⟨l2,c2,e2⟩:=i2
  have hl:=zdA (l1.trans l2.symm)
  rw [l1] at hl
  refine ⟨hl,fun u=>c1 u+c2 u,b hl fun j hj=>?_⟩
  rw [zfO l1 l2 hj,e1,e2,zb2 _ _ hj,zb2 _ _ hj,<-zfe F]
  exact za5 fun s _=>(F.distR _ _ _).symm
 | smul a h1 i1 =>
  obtain ⟨l1,c1,e1⟩:=i1
  have hl:=zbz a
  refine ⟨by rw [hl,l1],fun u=>a*c1 u,b (by rw [hl,l1]) fun j hj=>?_⟩
  rw [zdZ l1 hj,e1,zb2 _ _ hj,<-zff F]
  exact za5 fun s _=>(F.mulA _ _ _).symm
end
def spE (add mul:Nat->Nat->Nat) (V:Nat->Nat->Nat) (c:Nat->Nat):Nat->Nat->Nat
 | 0,_=>0
 | t+1,j=>add (spE add mul V c t j) (mul (c t) (V t j))
def InSp (q:Nat) (add mul:Nat->Nat->Nat) (n k:Nat) (V:Nat->Nat->Nat) (x:Nat->Nat):Prop :=
 ∃ c:Nat->Nat,(∀ i,i<n->c i<q)/\∀ j,j<k->x j=spE add mul V c n j
def RrefN (q n k:Nat) (V:Nat->Nat->Nat):Prop:=∃ p,EchN q n k k n p V
def SameSp (q:Nat) (add mul:Nat->Nat->Nat) (k n n':Nat) (V V':Nat->Nat->Nat):Prop:=∀ x,InSp q add mul n k V x↔InSp q add mul n' k V' x
section
variable {q n k:Nat} {add mul:Nat->Nat->Nat} {V:Nat->Nat->Nat}
theorem za0 (h:FieldLaws q add mul) (c:Nat->Nat) (t j:Nat):spE add mul V c t j<q:=by
 cases t with
 | zero=>have:=h.two; show 0<q; omega
 | succ t=>exact h.addLt _ _
theorem zbT {V':Nat->Nat->Nat} {c c':Nat->Nat} {j:Nat}:∀ t,(∀ i,i<t->c i=c' i/\V i j=V' i j)->spE add mul V c t j=spE add mul V' c' t j
 | 0,_=>rfl
 | t+1,h=>by
  show add _ _=add _ _
  rw [zbT t fun i hi=>h i (by omega),(h t (by omega)).1,(h t (by omega)).2]
theorem InSp.lt (hL:FieldLaws q add mul) {x:Nat->Nat} (h:InSp q add mul n k V x) {j:Nat} (hj:j<k):x j<q:=by
 obtain ⟨c,_,h2⟩:=h
 rw [h2 j hj]
 exact za0 hL c n j
section
variable (hq:0<q)
theorem zhb [iA:Add (El q)] [iM:Mul (El q)] [i0:Zero (El q)] (h:FieldLaws q add mul) (ha:∀ x y:El q,(x+y).val=add x.val y.val) (hm:∀ x y:El q,(x*y).val=mul x.val y.val) (h0:(0:El q).val=0) {c:Nat->Nat} {j:Nat}:∀ t,(∀ i,i<t->c i<q)->(∀ i,i<t->V i j<q)->(sumK t fun u=>toEl q hq (c u)*toEl q hq (V u j))=toEl q hq (spE add mul V c t j)
 | 0,_,_=>El.ext' (by show (0:El q).val=(toEl q hq 0).val; rw [h0,zak hq hq])
 | t+1,hc,hv=>by
  have ih:=zhb h ha hm h0 (c:=c) (j:=j) t (fun i hi=>hc i (by omega)) (fun i hi=>hv i (by omega))
  refine El.ext' ?_
  show ((sumK t fun u=>toEl q hq (c u)*toEl q hq (V u j))+toEl q hq (c t)*toEl q hq (V t j)).val=(toEl q hq (add (spE add mul V c t j) (mul (c t) (V t j)))).val
  rw [ha,hm,ih,zak hq (za0 h c t j),zak hq (hc t (by omega)),zak hq (hv t (by omega)),zak hq (h.addLt _ _)]
theorem zcu (x:Nat->Nat):wordK q hq k x=wd k (fun j=>toEl q hq (x j)):=rfl
theorem zaJ [iA:Add (El q)] [iM:Mul (El q)] [iN:Neg (El q)] [i0:Zero (El q)] [i1:One (El q)] (F:Fie (El q)) (h:FieldLaws q add mul) (ha:∀ x y:El q,(x+y).val=add x.val y.val) (hm:∀ x y:El q,(x*y).val=mul x.val y.val) (h0:(0:El q).val=0) (hV:∀ i,i<n->∀ j,j<k->V i j<q) {x:Nat->Nat} (hx:∀ j,j<k->x j<q) :
  InSp q add mul n k V x↔Gen k n (fun i=>wordK q hq k (V i)) (wordK q hq k x):=by
 constructor
 ·rintro ⟨c,h1,h2⟩
  have e:wordK q hq k x=comb k (fun i j=>toEl q hq (V i j)) (fun u=>toEl q hq (c u)) n:=zeu (zbd hq k x) (zd0 _ _ _ _) fun j hj=>by
   rw [zcu hq,zbe hj,zb2 _ _ hj,zhb hq h ha hm h0 n h1 (fun i hi=>hV i hi j hj),h2 j hj]
  rw [e]
  exact zg9 k (fun i j=>toEl q hq (V i j)) (fun u=>toEl q hq (c u)) n (Nat.le_refl _)
 intro hg
 obtain ⟨_,c,e⟩:=zfg F (N:=fun i j=>toEl q hq (V i j)) hg
 refine ⟨fun u=>(c u).val,fun i _=>(c i).lt,fun j hj=>?_⟩
 have e2:=congrArg (fun l=>ent l j) e
 rw [zcu hq,zbe hj,zb2 _ _ hj] at e2
 have e3:(sumK n fun u=>c u*toEl q hq (V u j))=sumK n fun u=>toEl q hq (c u).val*toEl q hq (V u j):=za5 fun u _=>by
  rw [show toEl q hq (c u).val=c u from El.ext' (zak hq (c u).lt)]
 rw [e3,zhb hq h ha hm h0 n (fun i _=>(c i).lt) (fun i hi=>hV i hi j hj)] at e2
 exact zdX hq (hx j hj) (za0 h _ n j) e2
theorem EchN.toK [i0:Zero (El q)] [i1:One (El q)] {a:Nat} {p:Nat->Nat} (h0:(0:El q).val=0) (h1:(1:El q).val=1) (h:EchN q n k k a p V):EchK k a p (fun i j=>toEl q hq (V i j)):=by
 have b:=h.le
 refine ⟨h.inc,h.pvlt,fun s hs=>El.ext' ?_,fun s t hs ht hne=>El.ext' ?_,fun s hs j hj=>El.ext' ?_⟩
 ·rw [zak hq (h.lt s (by omega) _ (h.pvlt s hs)),h1,h.one s hs]
 ·rw [zak hq (h.lt t (by omega) _ (h.pvlt s hs)),h0,h.zero s hs t (by omega) hne]
 ·rw [zak hq (h.lt s (by omega) _ (Nat.lt_trans hj (h.pvlt s hs))),h0,h.lead s hs j hj]
end
theorem EchN.top {a:Nat} {p:Nat->Nat} (h:EchN q n k k a p V):EchN q a k k a p V :=
 ⟨Nat.le_refl _,fun i hi=>h.lt i (Nat.lt_of_lt_of_le hi h.le),h.inc,h.pvlt,h.one,fun s hs i hi=>h.zero s hs i (Nat.lt_of_lt_of_le hi h.le),h.lead,fun i h1 h2=>absurd h1 (by omega)⟩
theorem zhc (hL:FieldLaws q add mul) {c:Nat->Nat} {j a:Nat} (hz:∀ i,a<=i->i<n->V i j=0) (hc:∀ i,i<n->c i<q):∀ t,t<=n->a<=t->spE add mul V c t j=spE add mul V c a j:=by
 intro t
 induction t with
 | zero =>
  intro _ h
  obtain rfl:a=0:=by omega
  rfl
 | succ t ih =>
  intro h1 h2
  by_cases e:a=t+1
  ·rw [e]
  ·show add (spE add mul V c t j) (mul (c t) (V t j))=_
   rw [hz t (by omega) (by omega),hL.mulZero (hc t (by omega)),hL.addZero (za0 hL _ _ _),ih (by omega) (by omega)]
theorem EchN.sp_top (hL:FieldLaws q add mul) {a:Nat} {p:Nat->Nat} (h:EchN q n k k a p V):SameSp q add mul k n a V V:=by
 have b:=h.le
 have hq:=hL.two
 intro x
 constructor
 ·rintro ⟨c,h1,h2⟩
  exact ⟨c,fun i hi=>h1 i (by omega),fun j hj=>by rw [h2 j hj,zhc hL (fun i a1 a2=>h.below i a1 a2 j hj) h1 n (Nat.le_refl _) b]⟩
 rintro ⟨c,h1,h2⟩
 refine ⟨fun i=>if i<a then c i else 0,fun i hi=>?_,fun j hj=>?_⟩
 ·show (if i<a then c i else 0)<q
  split
  ·rename_i h3; exact h1 i h3
  ·omega
 rw [h2 j hj,zhc (a:=a) hL (fun i a1 a2=>h.below i a1 a2 j hj) (fun i hi=>?_) n (Nat.le_refl _) b]
 ·exact zbT a fun i hi=>⟨by rw [if_pos hi],rfl⟩
 show (if i<a then c i else 0)<q
 split
 ·rename_i h3; exact h1 i h3
 ·omega
theorem RowOps.sp (hL:FieldLaws q add mul) {W:Nat->Nat->Nat} (hV:∀ i,i<n->∀ j,j<k->V i j<q) (h:RowOps q add mul n k V W):SameSp q add mul k n n V W/\∀ i,i<n->∀ j,j<k->W i j<q:=by
 have hq:0<q:=by have:=hL.two; omega
 obtain ⟨iA,iM,iN,i0,i1,F,ha,hm,h0,h1⟩:=zg1 hL
 obtain ⟨hW,hg⟩:=RowOps.gen hq F hL ha hm h0 hV h
 refine ⟨fun x=>?_,hW⟩
 constructor
 ·intro hx
  exact (zaJ hq F hL ha hm h0 hW fun j hj=>hx.lt hL hj).2 ((hg _).2 ((zaJ hq F hL ha hm h0 hV fun j hj=>hx.lt hL hj).1 hx))
 ·intro hx
  exact (zaJ hq F hL ha hm h0 hV fun j hj=>hx.lt hL hj).2 ((hg _).1 ((zaJ hq F hL ha hm h0 hW fun j hj=>hx.lt hL hj).1 hx))
theorem zcv (hL:FieldLaws q add mul) {n':Nat} {p p':Nat->Nat} {V':Nat->Nat->Nat} (h:EchN q n k k n p V) (h':EchN q n' k k n' p' V') (e:SameSp q add mul k n n' V V') :
  n=n'/\(∀ s,s<n->p s=p' s)/\∀ s,s<n->∀ j,j<k->V s j=V' s j:=by
 have hq:0<q:=by have:=hL.two; omega
 obtain ⟨iA,iM,iN,i0,i1,F,ha,hm,h0,h1⟩:=zg1 hL
 have back:∀ (m:Nat) (U:Nat->Nat->Nat) (x:List (El q)),(∀ i,i<m->∀ j,j<k->U i j<q)->Gen k m (fun i=>wd k (fun j=>toEl q hq (U i j))) x->x=wordK q hq k (fun j=>(ent x j).val):=fun m U x hU hx=>by
  refine zeu (zfg F (N:=fun i j=>toEl q hq (U i j)) hx).1 (zbd hq k _) fun j hj=>?_
  rw [zcu hq,zbe hj]
  exact El.ext' (zak hq (ent x j).lt).symm
 obtain ⟨e1,e2,e3⟩:=(h.toK hq h0 h1).unique F (h'.toK hq h0 h1) fun x=>by
  constructor
  ·intro hx
   have ex:=back _ _ _ h.lt hx
   rw [ex] at hx ⊢
   exact (zaJ hq F hL ha hm h0 h'.lt fun j _=>(ent x j).lt).1 ((e _).1 ((zaJ hq F hL ha hm h0 h.lt fun j _=>(ent x j).lt).2 hx))
  intro hx
  have ex:=back _ _ _ h'.lt hx
  rw [ex] at hx ⊢
  exact (zaJ hq F hL ha hm h0 h.lt fun j _=>(ent x j).lt).1 ((e _).2 ((zaJ hq F hL ha hm h0 h'.lt fun j _=>(ent x j).lt).2 hx))
 refine ⟨e1,e2,fun s hs j hj=>zdX hq (h.lt s hs j hj) (h'.lt s (by omega) j hj) (e3 s hs j hj)⟩
theorem zew (hL:FieldLaws q add mul) {a:Nat} {p:Nat->Nat} {W:Nat->Nat->Nat} (hV:∀ i,i<n->∀ j,j<k->V i j<q) (h:EchN q n k k a p W) (hr:RowOps q add mul n k V W) :
  RrefN q n k V↔a=n/\∀ i,i<a->∀ j,j<k->W i j=V i j:=by
 constructor
 ·rintro ⟨p',h'⟩
  obtain ⟨hs,_⟩:=hr.sp hL hV
  obtain ⟨e1,e2,e3⟩:=zcv hL h.top h' fun x=>((h.sp_top hL x).symm.trans (hs x).symm)
  exact ⟨e1,e3⟩
 ·rintro ⟨rfl,e⟩
  exact ⟨p,h.congr (Nat.le_refl _) e⟩
end
open Go.RowKit
def CanonPost (q:Nat) (add mul:Nat->Nat->Nat) (n k cols:Nat) (V:Nat->Nat->Nat) (w:World) (e:Ending) (w':World):Prop :=
 ∃ lv pv a p W,e=.returned (.tuple #[lv,pv])/\MTab w' w.heap.size lv a k W/\Own w' w.heap.size 3 1 pv a (fun j _=>.int .i64 (p j:Nat))/\Below w.heap.size w w' /\
  EchN q n k cols a p W/\RowOps q add mul n k V W
theorem EchN.full {q n k c a cols:Nat} {pv:Nat->Nat} {W:Nat->Nat->Nat} (h:EchN q n k c a pv W) (hc:c<=cols) (h2:c=cols∨a=n):EchN q n k cols a pv W:=by
 rcases h2 with h2 | h2
 ·rw [<-h2]; exact h
 ·exact ⟨h.le,h.lt,h.inc,fun s hs=>Nat.lt_of_lt_of_le (h.pvlt s hs) hc,h.one,h.zero,h.lead,fun i h1 h3=>by omega⟩
theorem MTab.take {w:World} {base n k b o c a:Nat} {W:Nat->Nat->Nat} (h:MTab w base (.slice (some ⟨b,o,none⟩) n c) n k W) (ha:a<=n):MTab w base (.slice (some ⟨b,o,none⟩) a c) a k W:=by
 obtain ⟨R,h1,h2⟩:=h
 refine ⟨R,?_,fun i hi=>h2 i (by omega)⟩
 rcases h1 with ⟨h1,_⟩ | ⟨g,o',cap,cur,h1,h3,h4,h5,h6,h7,h8⟩
 ·cases h1
 injection h1 with e1 e2 e3
 injection e1 with e1
 injection e1 with e1 e4
 subst e1 e4 e3
 exact .inr ⟨_,_,_,cur,rfl,h3,h4,by omega,h6,h7,fun i hi=>h8 i (by omega)⟩
theorem MTab.form {w:World} {base n k:Nat} {v:Value} {W:Nat->Nat->Nat} (h:MTab w base v n k W):(v=.slice none 0 0/\n=0)∨∃ b o c,v=.slice (some ⟨b,o,none⟩) n c/\n<=c/\c<=maxLen:=by
 obtain ⟨R,h1,_⟩:=h
 rcases h1 with h1 | ⟨g,o',cap,cur,h1,h3,h4,h5,h6,h7,h8⟩
 ·exact .inl h1
 ·exact .inr ⟨g,o',cap,h1,h5,h6⟩
theorem zcR (P M:Nat) (A:Option Addr) (k c:Nat) (m:Nat->Nat) (T:Option Addr) (n d kc cols:Nat) (V:Nat->Nat->Nat) (w:World) (hf:FieldOk P M m) (hm:ModOk w P M A m) (hkM:M=1∨k=M)
  (h:MRows w T n kc V) (hV:∀ i,i<n->∀ j,j<kc->V i j<P ^ M) (hcK:cols<=kc) (hK:0<kc) (hK2:kc<=1048576) (hn:n<=1048576) :
  Calls Tryz.prog 136 #[.agg #[.int .i64 (P:Nat),.int .i64 (M:Nat),.slice A k c],.slice T n d,.int .i64 (cols:Nat)] w (CanonPost (P ^ M) (addF P M) (mulF P M m) n kc cols V w):=by
 obtain ⟨w0,q,hB,rf⟩:=zao w (.int .i64 (P:Nat)) (.int .i64 (M:Nat)) (.slice A k c) 24
 go_enter Tryz.func136, Tryz.ntmps136
 go_upto_region 1 with fail
 rw [<-q];clear q
 have q0:=qc0 rf
 have q1:=qc1 rf
 have q2:=qc2 rf
 have r:MRows w0 T n kc V:=h.on hB
 have s:=zaF hm hB
 clear h
 go_wp2_with fail
 refine (zjA P M A k c m T n d kc cols V w0 hf s hkM r hV hcK hK hK2 hn).mono ?_
 rintro e w1 ⟨lv,pv,a,c0,p,W,rfl,hM,hP,kb,hc,u,hE,hR⟩
 have l:w.heap.size<=w0.heap.size:=hB.size
 replace hM:=(hM.mono l).tab;replace hP:=hP.mono l;replace hB:=onS hB kb
 have HE:=hid (hE.full hc u)
 have HR:=hid hR
 have z:=hE.le
 clear kb q0 q1 q2 r s hE hR hc u hV rf l
 obtain ⟨PA,pc,v⟩:=hP.shape
 subst v
 rcases hM.form with ⟨g,x⟩ | ⟨b,o,lc,g,B,y⟩
 ·subst g x
  obtain rfl:a=0:=by omega
  go_wp2
  go_ret2
  exact ⟨_,_,0,p,W,rfl,hM,hP,hB,HE.out,HR.out⟩
 subst g
 have D:(0:Int)<=(a:Int):=by omega
 have C:(a:Int)<=(lc:Int):=by omega
 unfold maxLen at y
 have HM:=hid (hM.take z)
 have HP:=hid hP
 clear hM hP
 go_wp2
 go_ret2
 exact ⟨_,_,a,p,W,rfl,HM.out,HP.out,hB,HE.out,HR.out⟩
def FirstErr:List (Prop × Int)->Int->Prop
 | [],v=>v=0
 | (p,e) :: r,v=>(¬ p/\v=e)∨(p/\FirstErr r v)
theorem FirstErr.unique:∀ {l:List (Prop × Int)} {v u:Int},FirstErr l v->FirstErr l u->v=u
 | [],_,_,h1,h2=>h1.trans h2.symm
 | (_, _) :: r, _, _, h1, h2 => by
  rcases h1 with ⟨a,h1⟩ | ⟨a,h1⟩
  ·rcases h2 with ⟨_,h2⟩ | ⟨b,_⟩
   ·exact h1.trans h2.symm
   ·exact absurd b a
  ·rcases h2 with ⟨b,_⟩ | ⟨_,h2⟩
   ·exact absurd a b
   ·exact FirstErr.unique (l:=r) h1 h2
def ErrsPost (l:List (Prop × Int)) (w:World) (e:Ending) (w':World):Prop:=∃ v:Int,e=.returned (.int .i64 v)/\FirstErr l v/\Below w.heap.size w w'
theorem errsPost {l:List (Prop × Int)} {w w':World} {v:Int} (h:FirstErr l v) (hB:Below w.heap.size w w'):ErrsPost l w (.returned (.int .i64 v)) w':=⟨v,rfl,h,hB⟩
def ShapeM (cols:Int) (n:Nat) (ln:Nat->Nat):Prop:=0<=cols/\cols<=256/\n<=256/\∀ i,i<n->(ln i:Int)=cols
def ElemsM (q n:Nat) (ln:Nat->Nat) (V:Nat->Nat->Int):Prop:=∀ i,i<n->AllIn q (ln i) (V i)
def matCell (a b:Value) (i:Nat):Value:=if i=0 then a else b
theorem KC.qc0 {w:World} {g:Nat} {T:TypeId} {a b:Value} (h:w.rowIs g T 2 (matCell a b)) : w.cell? ⟨g,0,none⟩=some a:=h.cell (i:=0) (by decide)
theorem KC.qc1 {w:World} {g:Nat} {T:TypeId} {a b:Value} (h:w.rowIs g T 2 (matCell a b)) : w.cell? ⟨g,1,none⟩=some b:=h.cell (i:=1) (by decide)
open KC
theorem zai {w:World} {a b:Value} {T:TypeId}:(w.alloc (.cells #[a,b] T)).rowIs w.heap.size T 2 (matCell a b) :=
 ⟨#[a,b],zaA rfl,rfl,fun i hi=>by
  rcases (show i=0∨i=1 by omega) with rfl | rfl <;> rfl⟩
theorem zgg (P M:Int) (A:Option Addr) (k c:Nat) (f:Nat->Int) (cols:Int) (T:Option Addr) (n d:Nat) (ln:Nat->Nat) (V:Nat->Nat->Int) (w:World) (hr:IntsR w w.heap.size A k f) (h:IntRows w T n ln V) :
  Calls Tryz.prog 135 #[.agg #[.int .i64 P,.int .i64 M,.slice A k c],.agg #[.int .i64 cols,.slice T n d]] w (ErrsPost [(GoodF P M k f,1),(ShapeM cols n ln,3),(ElemsM (P.toNat ^ M.toNat) n ln V,2)] w):=by
 have HT:=hid h
 clear h
 have rf:=zaq (w:=w) (a:=.int .i64 P) (b:=.int .i64 M) (c:=.slice A k c) (T := 24)
 have hB:=aly w (.cells #[.int .i64 P,.int .i64 M,.slice A k c] 24)
 have s:(w.alloc (.cells #[.int .i64 P,.int .i64 M,.slice A k c] 24)).heap.size=w.heap.size+1:=by simp
 obtain ⟨w0,r⟩:=exx (w.alloc (.cells #[.int .i64 P,.int .i64 M,.slice A k c] 24))
 have rm:=zai (w:=w0) (a:=.int .i64 cols) (b:=.slice T n d) (T := 106)
 have kb:=aly w0 (.cells #[.int .i64 cols,.slice T n d] 106)
 obtain ⟨w1,q⟩:=exx (w0.alloc (.cells #[.int .i64 cols,.slice T n d] 106))
 rw [<-r] at hB rf s;rw [<-q] at rm kb;rw [s] at rm;replace rf:=zaa rf kb;replace hB:=onS hB kb
 go_enter Tryz.func135, Tryz.ntmps135
 go_upto_region 1 with fail
 rw [<-r,<-q];clear r q kb s
 have q0:=qc0 rf
 have q1:=qc1 rf
 have q2:=qc2 rf
 go_wp2_with fail
 have C:=hr.on hB
 refine (zdz P M A k c f w1 C).mono ?_
 rintro e w2 ⟨v,rfl,hv,kb⟩
 replace rf:=zaa rf kb;replace rm:=zaa rm kb;replace hB:=onS hB kb;clear kb q0 q1 q2 C
 rcases hv with ⟨rfl,hg⟩ | ⟨rfl,hg⟩
 rotate_left
 ·have g:Hid (FirstErr [(GoodF P M k f,1),(ShapeM cols n ln,3),(ElemsM (P.toNat ^ M.toNat) n ln V,2)] 1):=.inl ⟨hg,rfl⟩
  clear hg
  go_wp2
  go_ret
  exact errsPost g.out hB
 have HG:=hid hg
 obtain ⟨P',M',rfl,rfl,hf,_⟩:=hg
 have HF:=hid hf
 clear hf
 have m0:=qc0 rm
 have m1:=qc1 rm
 by_cases hc0:cols<0
 ·have g:Hid (FirstErr [(GoodF (P':Int) (M':Int) k f,1),(ShapeM cols n ln,3),(ElemsM ((P':Int).toNat ^ (M':Int).toNat) n ln V,2)] 3):=.inr ⟨HG.out,.inl ⟨fun h=>by have:=h.1; omega,rfl⟩⟩
  go_wp2
  go_ret
  exact errsPost g.out hB
 by_cases hc1:cols > 256
 ·have g:Hid (FirstErr [(GoodF (P':Int) (M':Int) k f,1),(ShapeM cols n ln,3),(ElemsM ((P':Int).toNat ^ (M':Int).toNat) n ln V,2)] 3):=.inr ⟨HG.out,.inl ⟨fun h=>by have:=h.2.1; omega,rfl⟩⟩
  go_wp2
  go_ret
  exact errsPost g.out hB
 by_cases hn1:n > 256
 ·have g:Hid (FirstErr [(GoodF (P':Int) (M':Int) k f,1),(ShapeM cols n ln,3),(ElemsM ((P':Int).toNat ^ (M':Int).toNat) n ln V,2)] 3):=.inr ⟨HG.out,.inl ⟨fun h=>by have:=h.2.2.1; omega,rfl⟩⟩
  have u:(n:Int) > 256:=by omega
  go_wp2
  go_ret
  exact errsPost g.out hB
 have u:¬ (n:Int) > 256:=by omega
 go_wp2
 go_loopg [6] n (fun gg iv wx=>∃ i:Nat,iv=.int .i64 (i:Nat)/\i<=n/\n<=i+gg/\Hid (∀ t,t<i->(ln t:Int)=cols)/\wx.rowIs w.heap.size 24 3 (fldCell (.int .i64 (P':Nat)) (.int .i64 (M':Nat)) (.slice A k c))/\wx.rowIs (w.heap.size+1) 106 2 (matCell (.int .i64 cols) (.slice T n d))/\Below w.heap.size w wx)
 case atStart=>exact ⟨0,rfl,by omega,by omega,fun t ht=>absurd ht (by omega),rf,rm,hB⟩
 clear rf rm hB m0 m1
 obtain ⟨i,rfl,hi,U,HQ,rf,rm,hB⟩:=hrel
 have W:(0:Int)<=(i:Int):=by omega
 have m0:=qc0 rm
 have m1:=qc1 rm
 by_cases hlt:i<n
 ·have x:(i:Int)<(n:Int):=by omega
  obtain ⟨b,o,RA,rc,hT,hb,x0,_,_,l,_⟩:=HT.out i hlt
  subst hT
  replace x0:=(hB.cell (p:=⟨b,o+i,none⟩) hb).trans x0
  obtain ⟨li,z⟩:=exx (ln i)
  rw [<-z] at x0
  have I:=hid z
  clear l z
  by_cases he:(li:Int)=cols
  ·have N:((li:Int) != cols)=false:=by simpa using he
   have HE:=hid he
   clear he
   go_wp2
   go_quiet (fail)
   go_wp2
   go_roundg (gk - 1)
   case measure=>omega
   refine ⟨i+1,by go_num,by omega,by omega,fun t ht=>?_,zbu rf _,zbu rm _,zac hB _⟩
   by_cases e:t=i
   ·subst e; rw [<-I.out]; exact HE.out
   ·exact HQ.out t (by omega)
  have N:((li:Int) != cols)=true:=by simpa using he
  have g:Hid (FirstErr [(GoodF (P':Int) (M':Int) k f,1),(ShapeM cols n ln,3),(ElemsM ((P':Int).toNat ^ (M':Int).toNat) n ln V,2)] 3):=.inr ⟨HG.out,.inl ⟨fun h=>he (by rw [I.out]; exact h.2.2.2 i hlt),rfl⟩⟩
  clear he
  go_wp2
  go_quiet (fail)
  go_wp2
  go_ret
  exact errsPost g.out (zac hB _)
 have x:¬ (i:Int)<(n:Int):=by omega
 obtain rfl:i=n:=by omega
 have F:Hid (ShapeM cols i ln):=⟨by omega,by omega,by omega,HQ.out⟩
 obtain ⟨gO,J⟩:=exx gk
 clear J
 go_wp2
 go_loopg [5,7] i (fun gg ev jv wx=>∃ j:Nat,ev=.int .i64 0/\jv=.int .i64 (j:Nat)/\j<=i/\i<=j+gg/\Hid (∀ t,t<j->AllIn (P' ^ M') (ln t) (V t))/\wx.rowIs w.heap.size 24 3 (fldCell (.int .i64 (P':Nat)) (.int .i64 (M':Nat)) (.slice A k c))/\wx.rowIs (w.heap.size+1) 106 2 (matCell (.int .i64 cols) (.slice T i d))/\Below w.heap.size w wx)
 case atStart=>exact ⟨0,rfl,rfl,by omega,by omega,fun t ht=>absurd ht (by omega),rf,rm,hB⟩
 clear rf rm hB m0 m1
 obtain ⟨j,rfl,rfl,hj,Q,G,rf,rm,hB⟩:=hrel
 have R:(0:Int)<=(j:Int):=by omega
 have m0:=qc0 rm
 have m1:=qc1 rm
 by_cases hjt:j<i
 rotate_left
 ·have B:¬ (j:Int)<(i:Int):=by omega
  obtain rfl:j=i:=by omega
  have g:Hid (FirstErr [(GoodF (P':Int) (M':Int) k f,1),(ShapeM cols j ln,3),(ElemsM ((P':Int).toNat ^ (M':Int).toNat) j ln V,2)] 0):=.inr ⟨HG.out,.inr ⟨F.out,.inr ⟨by rw [Int.toNat_natCast,Int.toNat_natCast]; exact G.out,rfl⟩⟩⟩
  go_wp2
  go_ret
  exact errsPost g.out hB
 have B:(j:Int)<(i:Int):=by omega
 obtain ⟨b,o,RA,rc,hT,hb,x0,L,E,l,_⟩:=HT.out j hjt
 subst hT
 replace x0:=(hB.cell (p:=⟨b,o+j,none⟩) hb).trans x0
 have D:ln j<=9223372036854775807:=by unfold maxLen at E; omega
 clear L E
 have m:=l.on hB
 obtain ⟨lj,y⟩:=exx (ln j)
 rw [<-y] at x0 D m
 have H:=hid y
 clear l y
 have q0:=qc0 rf
 have q1:=qc1 rf
 have q2:=qc2 rf
 obtain ⟨w1,q⟩:=exx wr
 rw [<-q] at hB rf rm x0 q0 q1 q2 m0 m1 m ⊢;clear q
 go_wp2
 refine wp_region_held_drew (S:=fun w'=>w'.cell? ⟨w.heap.size,0,none⟩=some (.int .i64 (P':Nat))/\w'.cell? ⟨w.heap.size,1,none⟩=some (.int .i64 (M':Nat))/\w'.cell? ⟨w.heap.size,2,none⟩=some (.slice A k c)/\w'.cell? ⟨w.heap.size+1,1,none⟩=some (.slice (some ⟨b,o,none⟩) i d)/\w'.cell? ⟨b,o+j,none⟩=some (.slice RA lj rc)) (by kernel_rfl) ⟨cellS (Below.refl _ _).drew q0,cellS (Below.refl _ _).drew q1,cellS (Below.refl _ _).drew q2,cellS (Below.refl _ _).drew m1,cellS (Below.refl _ _).drew x0⟩ (fun hHeld=>?_)
 obtain ⟨w2,hw,kb⟩:=dwx w1
 rw [<-hw] at hHeld ⊢;clear hw;replace rf:=zaa rf kb;replace rm:=zaa rm kb;replace hB:=onS hB kb;replace x0:=cellS kb x0;replace q0:=cellS kb q0;replace q1:=cellS kb q1;replace q2:=cellS kb q2;replace m0:=cellS kb m0;replace m1:=cellS kb m1;replace m:=m.on kb;clear kb
 refine tkq 0 (h:=tkq 1 (h:=tkq 2 (h:=tkq 3 (h:=tkq 4 (h:=tkq 5 (h:=?_))))))
 refine rdq 6 (h:=fun K hK=>?_)
 go_simp
 go_wp2_with fail
 refine (zet P' M' A k c RA lj rc (V j) w2 HF.out m D).mono ?_
 rintro e w3 ⟨v,rfl,hv,kb⟩
 replace rf:=zaa rf kb;replace rm:=zaa rm kb;replace hB:=onS hB kb;replace x0:=cellS kb x0;replace q0:=cellS kb q0;replace q1:=cellS kb q1;replace q2:=cellS kb q2;replace m0:=cellS kb m0;replace m1:=cellS kb m1;replace m:=m.on kb;clear kb
 have HV:=hid hv
 clear hv
 refine bkq hK ⟨q0,q1,q2,m1,x0⟩ (h:=fun hHeld=>?_)
 clear hK K
 refine tkq 7 (h:=?_)
 refine wpAnyH_done (by kernel_rfl) ?_ _
 clear hHeld;clear q0 q1 q2 m0 m1 x0 m
 rcases HV.out with ⟨rfl,hv⟩ | ⟨rfl,hv⟩
 ·have O:=hid hv
  clear hv HV
  go_wp2
  go_roundg (gk - 1)
  case measure=>omega
  refine ⟨j+1,rfl,by go_num,by omega,by omega,fun t ht=>?_,rf,rm,hB⟩
  by_cases e:t=j
  ·subst e; rw [<-H.out]; exact O.out
  ·exact G.out t (by omega)
 have g:Hid (FirstErr [(GoodF (P':Int) (M':Int) k f,1),(ShapeM cols i ln,3),(ElemsM ((P':Int).toNat ^ (M':Int).toNat) i ln V,2)] 2):=.inr ⟨HG.out,.inr ⟨F.out,.inl ⟨fun h=>hv (by rw [H.out]; simpa using h j hjt),rfl⟩⟩⟩
 clear hv HV
 go_wp2
 go_ret
 exact errsPost g.out hB
theorem FirstErr.app:∀ {l r:List (Prop × Int)} {v u:Int},(∀ x ∈ l,x.2≠0)->FirstErr l v->(v≠0->u=v)->(v=0->FirstErr r u)->FirstErr (l ++ r) u
 | [],_,_,_,_,h,_,h2=>h2 h
 | (p, e) :: l, r, v, u, hne, h, h1, h2 => by
  rcases h with ⟨hp,e1⟩ | ⟨hp,h⟩
  ·have h0:e≠0:=hne (p,e) (by simp)
   exact .inl ⟨hp,by rw [h1 (by rw [e1]; exact h0),e1]⟩
  ·exact .inr ⟨hp,FirstErr.app (fun x hx=>hne x (by simp [hx])) h h1 h2⟩
def natT (V:Nat->Nat->Int) (i j:Nat):Nat:=(V i j).toNat
theorem zcw {w:World} {T:Option Addr} {n cols q:Nat} {ln:Nat->Nat} {V:Nat->Nat->Int} (h:IntRows w T n ln V) (hs:ShapeM (cols:Int) n ln) (he:ElemsM q n ln V):MRows w T n cols (natT V)/\∀ i,i<n->∀ j,j<cols->natT V i j<q:=by
 have a:∀ i,i<n->ln i=cols:=fun i hi=>by have:=hs.2.2.2 i hi; omega
 refine ⟨fun i hi=>?_,fun i hi j hj=>?_⟩
 ·obtain ⟨b,off,A,c,e,h1,h2,h3,h4,h5,h6⟩:=h i hi
  rw [a i hi] at h2 h3 h5 h6
  have hv:∀ j,j<cols->V i j=((natT V i j:Nat):Int):=fun j hj=>by
   have:=he i hi j (by rw [a i hi]; exact hj)
   unfold natT
   omega
  exact ⟨b,off,A,c,e,h1,h2,h3,h4,h5.congr hv,fun j hj=>by show _<=((natT V i j:Nat):Int)/\((natT V i j:Nat):Int)<=_; rw [<-hv j hj]; exact h6 j hj⟩
 have:=he i hi j (by rw [a i hi]; exact hj)
 unfold natT
 omega
theorem MTab.rd {w:World} {base n k c q:Nat} {A:Option Addr} {W:Nat->Nat->Nat} (h:MTab w base (.slice A n c) n k W) (hq:q<=256) (hW:∀ i,i<n->∀ j,j<k->W i j<q):MRows w A n k W:=fun i hi=>by
 obtain ⟨b,o,RA,rc,e,h1,h2,h3,h4,h5⟩:=h.row hi
 have hfc:k<=rc/\rc<=maxLen:=by
  rcases h5 with ⟨e1,e2⟩ | ⟨g,o',cap,cur,e1,_,_,e3,e4,_⟩
  ·injection e1 with _ e3 e4
   subst e3 e4
   exact ⟨Nat.le_refl _,by unfold maxLen; omega⟩
  injection e1 with _ _ e5
  subst e5
  exact ⟨e3,e4⟩
 exact ⟨b,o,RA,rc,e,h2,h3,hfc.1,hfc.2,h5.rd rfl,fun j hj=>by have:=hW i hi j hj; show _<=((W i j:Nat):Int)/\((W i j:Nat):Int)<=_; omega⟩
def SpaceErrs (P M:Int) (k:Nat) (f:Nat->Int) (cols n:Nat) (ln:Nat->Nat) (V:Nat->Nat->Int):List (Prop × Int) :=
 [(GoodF P M k f,1),(ShapeM cols n ln,3),(ElemsM (P.toNat ^ M.toNat) n ln V,2),(RrefN (P.toNat ^ M.toNat) n cols (natT V),5)]
theorem zgh (P M:Int) (A:Option Addr) (k c:Nat) (f:Nat->Int) (cols:Nat) (T:Option Addr) (n d:Nat) (ln:Nat->Nat) (V:Nat->Nat->Int) (w:World) (hr:IntsR w w.heap.size A k f) (h:IntRows w T n ln V) (hc1:1<=cols) :
  Calls Tryz.prog 70 #[.agg #[.int .i64 P,.int .i64 M,.slice A k c],.agg #[.int .i64 (cols:Nat),.slice T n d]] w (ErrsPost (SpaceErrs P M k f cols n ln V) w):=by
 have HT:=hid h
 have HR:=hid hr
 clear h hr
 have rf:=zaq (w:=w) (a:=.int .i64 P) (b:=.int .i64 M) (c:=.slice A k c) (T := 24)
 have hB:=aly w (.cells #[.int .i64 P,.int .i64 M,.slice A k c] 24)
 have x:(w.alloc (.cells #[.int .i64 P,.int .i64 M,.slice A k c] 24)).heap.size=w.heap.size+1:=by simp
 obtain ⟨w0,s⟩:=exx (w.alloc (.cells #[.int .i64 P,.int .i64 M,.slice A k c] 24))
 have rm:=zai (w:=w0) (a:=.int .i64 (cols:Nat)) (b:=.slice T n d) (T := 106)
 have kb:=aly w0 (.cells #[.int .i64 (cols:Nat),.slice T n d] 106)
 obtain ⟨w1,o⟩:=exx (w0.alloc (.cells #[.int .i64 (cols:Nat),.slice T n d] 106))
 rw [<-s] at hB rf x;rw [<-o] at rm kb;rw [x] at rm;replace rf:=zaa rf kb;replace hB:=onS hB kb
 go_enter Tryz.func70, Tryz.ntmps70
 go_upto_region 1 with fail
 rw [<-s,<-o];clear s o kb x
 have q0:=qc0 rf
 have q1:=qc1 rf
 have q2:=qc2 rf
 have m0:=qc0 rm
 have m1:=qc1 rm
 go_wp2_with fail
 refine (zgg P M A k c f cols T n d ln V w1 (HR.out.on hB) (HT.out.on hB)).mono ?_
 rintro e w2 ⟨v,rfl,hv,kb⟩
 replace rf:=zaa rf kb;replace rm:=zaa rm kb;replace hB:=onS hB kb;clear kb q0 q1 q2 m0 m1
 by_cases hv0:v=0
 rotate_left
 ·have Y:(v != 0)=true:=by simpa using hv0
  have m:=hid (FirstErr.app (r:=[(RrefN (P.toNat ^ M.toNat) n cols (natT V),5)]) (u:=v) (by simp) hv (fun _=>rfl) (fun h=>absurd h hv0))
  clear hv hv0
  go_wp2
  go_ret
  exact errsPost m.out hB
 subst hv0
 have m:=hid hv
 rcases hv with ⟨_,h9⟩ | ⟨hg,⟨_,h9⟩ | ⟨g,⟨_,h9⟩ | ⟨z,_⟩⟩⟩
 ·cases h9
 ·cases h9
 ·cases h9
 have y:=hg
 obtain ⟨P',M',rfl,rfl,hf,_⟩:=hg
 obtain ⟨U,S⟩:=y.field
 rw [Int.toNat_natCast,Int.toNat_natCast] at z
 obtain ⟨D,E⟩:=zcw HT.out g z
 have C:=g.2.2.1
 have F:=g.2.1
 have K:=hid (D.on hB)
 have X:=hid (y.mod HR.out)
 have L:=hid E
 have a0:=hid g
 have B:=hid U
 clear D E z y g hf
 have q0:=qc0 rf
 have q1:=qc1 rf
 have q2:=qc2 rf
 have m0:=qc0 rm
 have m1:=qc1 rm
 go_wp2_with fail
 refine (zcR P' M' A k c _ T n d cols cols (natT V) w2 B.out (zaF X.out hB) S K.out L.out (Nat.le_refl _) (by omega) (by omega) (by omega)).mono ?_
 rintro e w3 ⟨lv,pv,a,p,W,rfl,hM,hP,kb,hE,G⟩
 obtain ⟨LA,lc,R⟩:=hM.shape
 subst R
 obtain ⟨PA,pc,Q⟩:=hP.shape
 subst Q
 have Z:=hE.le
 have I:=hid (hM.rd (q:=P' ^ M') B.out.1.2.2.2 fun i hi=>hE.lt i (by omega))
 have J:=hid (K.out.on kb)
 have N:=hid (zew (fieldLaws B.out) L.out hE G)
 replace rf:=zaa rf kb;replace rm:=zaa rm kb;replace hB:=onS hB kb;clear kb q0 q1 q2 m0 m1 hM hP hE G
 have m1:=qc1 rm
 go_wp2_with fail
 refine (zfc LA T a n lc d _ _ _ _ w3 I.out J.out (by omega) (by omega)).mono ?_
 rintro e w4 ⟨b,rfl,hb,kb⟩
 replace hB:=onS hB kb
 have O:Hid (b=true↔RrefN (P' ^ M') n cols (natT V)):=by
  refine hb.trans (Iff.trans ?_ N.out.symm)
  constructor
  ·intro h
   refine ⟨h.1,fun i hi j hj=>?_⟩
   have:=(h.2 i hi).2 j hj
   simp only at this
   omega
  intro h
  refine ⟨h.1,fun i hi=>⟨rfl,fun j hj=>?_⟩⟩
  show ((W i j:Nat):Int)=((natT V i j:Nat):Int)
  rw [h.2 i hi j hj]
 have H:Hid (∀ u:Int,FirstErr [(RrefN (P' ^ M') n cols (natT V),5)] u->FirstErr (SpaceErrs (P':Int) (M':Int) k f cols n ln V) u):=fun u hu=>by
  refine FirstErr.app (l:=[(GoodF (P':Int) (M':Int) k f,1),(ShapeM cols n ln,3),(ElemsM ((P':Int).toNat ^ (M':Int).toNat) n ln V,2)]) (by simp) m.out (fun h=>absurd rfl h) fun _=>?_
  rw [Int.toNat_natCast,Int.toNat_natCast]
  exact hu
 clear kb m1 rf rm hb N I J m
 cases b
 ·go_wp2
  go_ret
  exact errsPost (H.out _ (.inl ⟨fun h=>(by have:=O.out.2 h; cases this),rfl⟩)) hB
 go_wp2
 go_ret
 exact errsPost (H.out _ (.inr ⟨O.out.1 (by first | rfl | trivial),rfl⟩)) hB
def CodeErrs (P M:Int) (k:Nat) (f:Nat->Int) (N:Int) (n:Nat) (ln:Nat->Nat) (V:Nat->Nat->Int):List (Prop × Int) :=
 [(GoodF P M k f,1),(1<=N/\N<=64,4),(ShapeM N n ln,3),(ElemsM (P.toNat ^ M.toNat) n ln V,2),(RrefN (P.toNat ^ M.toNat) n N.toNat (natT V),5)]
def codCell (a b c d e:Value) (i:Nat):Value:=if i=0 then a else if i=1 then b else if i=2 then c else if i=3 then d else e
theorem KA.qc0 {w:World} {g:Nat} {T:TypeId} {a b c d e:Value} (h:w.rowIs g T 5 (codCell a b c d e)) : w.cell? ⟨g,0,none⟩=some a:=h.cell (i:=0) (by decide)
theorem KA.qc1 {w:World} {g:Nat} {T:TypeId} {a b c d e:Value} (h:w.rowIs g T 5 (codCell a b c d e)) : w.cell? ⟨g,1,none⟩=some b:=h.cell (i:=1) (by decide)
theorem KA.qc2 {w:World} {g:Nat} {T:TypeId} {a b c d e:Value} (h:w.rowIs g T 5 (codCell a b c d e)) : w.cell? ⟨g,2,none⟩=some c:=h.cell (i:=2) (by decide)
theorem KA.qc3 {w:World} {g:Nat} {T:TypeId} {a b c d e:Value} (h:w.rowIs g T 5 (codCell a b c d e)) : w.cell? ⟨g,3,none⟩=some d:=h.cell (i:=3) (by decide)
theorem KA.qc4 {w:World} {g:Nat} {T:TypeId} {a b c d e:Value} (h:w.rowIs g T 5 (codCell a b c d e)) : w.cell? ⟨g,4,none⟩=some e:=h.cell (i:=4) (by decide)
open KA
theorem zaZ {w:World} {a b c d e:Value} {T:TypeId}:(w.alloc (.cells #[a,b,c,d,e] T)).rowIs w.heap.size T 5 (codCell a b c d e) :=
 ⟨#[a,b,c,d,e],zaA rfl,rfl,fun i hi=>by
  rcases (show i=0∨i=1∨i=2∨i=3∨i=4 by omega) with rfl | rfl | rfl | rfl | rfl <;> rfl⟩
theorem zcx (P M:Int) (A:Option Addr) (k c:Nat) (f:Nat->Int) (N:Int) (T:Option Addr) (n d:Nat) (ln:Nat->Nat) (V:Nat->Nat->Int) (w:World) (hr:IntsR w w.heap.size A k f) (h:IntRows w T n ln V) :
  Calls Tryz.prog 26 #[.agg #[.int .i64 P,.int .i64 M,.slice A k c,.int .i64 N,.slice T n d]] w (ErrsPost (CodeErrs P M k f N n ln V) w):=by
 have HT:=hid h
 have HR:=hid hr
 clear h hr
 have rf:=zaZ (w:=w) (a:=.int .i64 P) (b:=.int .i64 M) (c:=.slice A k c) (d:=.int .i64 N) (e:=.slice T n d) (T := 27)
 have hB:=aly w (.cells #[.int .i64 P,.int .i64 M,.slice A k c,.int .i64 N,.slice T n d] 27)
 obtain ⟨w1,i⟩:=exx (w.alloc (.cells #[.int .i64 P,.int .i64 M,.slice A k c,.int .i64 N,.slice T n d] 27))
 rw [<-i] at hB rf
 go_enter Tryz.func26, Tryz.ntmps26
 go_upto_region 1 with fail
 rw [<-i];clear i
 have q0:=qc0 rf
 have q1:=qc1 rf
 have q2:=qc2 rf
 go_wp2_with fail
 refine (zdz P M A k c f w1 (HR.out.on hB)).mono ?_
 rintro e w2 ⟨v,rfl,hv,kb⟩
 replace rf:=zaa rf kb;replace hB:=onS hB kb;clear kb q0 q1 q2
 rcases hv with ⟨rfl,hg⟩ | ⟨rfl,hg⟩
 rotate_left
 ·have g:Hid (FirstErr (CodeErrs P M k f N n ln V) 1):=.inl ⟨hg,rfl⟩
  clear hg
  go_wp2
  go_ret
  exact errsPost g.out hB
 have HG:=hid hg
 clear hg
 have q3:=qc3 rf
 by_cases hN1:N<1
 ·have g:Hid (FirstErr (CodeErrs P M k f N n ln V) 4):=.inr ⟨HG.out,.inl ⟨fun h=>by have:=h.1; omega,rfl⟩⟩
  go_wp2
  go_ret
  exact errsPost g.out hB
 by_cases hN2:N > 64
 ·have g:Hid (FirstErr (CodeErrs P M k f N n ln V) 4):=.inr ⟨HG.out,.inl ⟨fun h=>by have:=h.2; omega,rfl⟩⟩
  go_wp2
  go_ret
  exact errsPost g.out hB
 obtain ⟨cols,rfl⟩:∃ m:Nat,N=m:=⟨N.toNat,by omega⟩
 have q0:=qc0 rf
 have q1:=qc1 rf
 have q2:=qc2 rf
 have q4:=qc4 rf
 go_wp2_with fail
 refine (zgh P M A k c f cols T n d ln V w2 (HR.out.on hB) (HT.out.on hB) (by omega)).mono ?_
 rintro e w3 ⟨v,rfl,hv,kb⟩
 replace hB:=onS hB kb
 have j:Hid (FirstErr (CodeErrs P M k f cols n ln V) v):=by
  rcases hv with ⟨h1,_⟩ | ⟨_,h1⟩
  ·exact absurd HG.out h1
  ·exact .inr ⟨HG.out,.inr ⟨⟨by omega,by omega⟩,h1⟩⟩
 clear kb q0 q1 q2 q3 q4 rf hv
 go_wp2
 go_ret
 exact errsPost j.out hB
section
variable {w:World}
theorem zbA {ops:Array Oper} {o:Oper} {a:Act} {K:Act->World->Prop} {Q:Exit->Act->World->Prop} {E:Prop} (hgd:o.guard=none) (sl x:Operand)
  (ho:o.op=.call { callee:=.builtin .append,args:=#[sl,x],argTypes:=#[22, 22] })
  {b0 base:Nat} (hv:a.eval sl=.slice (some ⟨b0,0,none⟩) 0 0) (hr0:w.rowIs b0 3 0 (fun _=>undef)) (hbase:base<=b0) {A:Option Addr} {c n:Nat} {f:Nat->Int} (hx:a.eval x=.slice A n c)
  (hsrc:IntsR w w.heap.size A n f) (hlen:n<=1048576)
  (K':∀ v' w',Own w' base 3 1 v' n (fun j _=>.int .i64 (f j))->Below w.heap.size w w'->(v'.ownBlock=some b0∨v'.ownBlock=some w.heap.size)->K (a.put o.dst v') w') :
  if Region.wanted o (yielded ops a.tmps)=true then Oper.wp Tryz.prog o a w K Q else E:=by
 have hw:Region.wanted o (yielded ops a.tmps)=true:=by simp [Region.wanted,hgd]
 rw [if_pos hw]
 obtain ⟨i0,qi0,qz0,qz1,qz2⟩:=info_parts Tryz.infoInt
 have g:b0<w.heap.size:=hr0.lt
 have d:w.heap[b0]?=some (.cells #[] 3 (0,0)):=by
  obtain ⟨cs,h1,h2,_⟩:=hr0
  rw [h1,Array.eq_empty_of_size_eq_zero h2]
 by_cases h0:n=0
 ·have b:=zaR (P:=Tryz.prog) w 22 o.type 3 i0 Tryz.underlying22 qi0 b0 0 A c
  rw [h0] at hx
  unfold Oper.wp execOp
  simp only [ho,resolve,invoke,builtin,Sem.run_bind,Sem.run_pure,Result.andThen_ok,List.map_toArray,List.map_cons,List.map_nil,hv,hx,b]
  refine K' _ _ ?_ (Below.refl _ _) (.inl rfl)
  rw [h0]
  exact .inr ⟨b0,0,0,#[],rfl,hbase,d,Nat.le_refl _,by unfold maxLen; omega,by simp,fun i hi=>absurd hi (by omega)⟩
 obtain ⟨cap,cur,b,h2,h3,h4,h5⟩:=zbj (P:=Tryz.prog) w 22 o.type 3 i0 _ 1 8 Tryz.underlying22 qi0 qz0 qz1 qz2 rfl (by omega) (some ⟨b0,0,none⟩) A n c (fun j _=>.int .i64 (f j)) hsrc (by omega) (fun _ _ _ _=>rfl) (by unfold maxLen; omega) (by omega)
 unfold Oper.wp execOp
 simp only [ho,resolve,invoke,builtin,Sem.run_bind,Sem.run_pure,Result.andThen_ok,List.map_toArray,List.map_cons,List.map_nil,hv,hx,b]
 refine K' _ _ ?_ (((Below.refl _ _).alloc (Nat.le_refl _) _).drew) (.inr rfl)
 exact (Own.new (w:=w) (base:=base) (e := 3) (by omega) h2 h3 h4 h5).drew
end
theorem zax {a w:World} {b:Nat} (h:a.grownBy w (some b)) (i:Nat) (v:Value):a.grownBy (w.setCell ⟨b,i,none⟩ v) (some b):=by
 have k:=zba w b i v
 exact ⟨k.os.trans h.os,k.tape.trans h.tape,k.output.trans h.output,Nat.le_trans h.size k.size,fun q hq hne=>(k.block q (Nat.lt_of_lt_of_le hq h.size) hne).trans (h.block q hq hne)⟩
theorem zhd {w w':World} {g:Nat} {T:TypeId} {f:Nat->Value} {a b c:Value} (h:w.rowIs g T 3 f) (hw:w'=((w.setCell ⟨g,0,none⟩ a).setCell ⟨g,1,none⟩ b).setCell ⟨g,2,none⟩ c):w'.rowIs g T 3 (fldCell a b c)/\w.grownBy w' (some g):=by
 rw [hw]
 refine ⟨(((h.set 0 _).set 1 _).set 2 _).congr fun j hj=>?_,zax (zax (zba _ _ _ _) _ _) _ _⟩
 match j,hj with
 | 0,_=>rfl
 | 1,_=>rfl
 | 2,_=>rfl
theorem zc7 {w w':World} {g:Nat} {T:TypeId} {f:Nat->Value} {a b c d e:Value} (h:w.rowIs g T 5 f) (hw:w'=((((w.setCell ⟨g,0,none⟩ a).setCell ⟨g,1,none⟩ b).setCell ⟨g,2,none⟩ c).setCell ⟨g,3,none⟩ d).setCell ⟨g,4,none⟩ e):w'.rowIs g T 5 (codCell a b c d e)/\w.grownBy w' (some g):=by
 rw [hw]
 refine ⟨(((((h.set 0 _).set 1 _).set 2 _).set 3 _).set 4 _).congr fun j hj=>?_,zax (zax (zax (zax (zba _ _ _ _) _ _) _ _) _ _) _ _⟩
 match j,hj with
 | 0,_=>rfl
 | 1,_=>rfl
 | 2,_=>rfl
 | 3,_=>rfl
 | 4,_=>rfl
theorem zay {w:World} {base g m n s:Nat} {t e:TypeId} {F:Nat->Value} {v:Value} {f:Nat->Nat->Value} (hr:w.rowIs g t m F) (h:Own w base e s v n f) (hne:t≠e):v.ownBlock=none∨v.ownBlock≠some g:=by
 rcases h with ⟨rfl,_⟩ | ⟨b,o,cap,cur,rfl,_,hg,_⟩
 ·exact .inl rfl
 refine .inr fun e1=>?_
 obtain ⟨cs,h1,_⟩:=hr
 simp [Value.ownBlock] at e1
 subst e1
 rw [hg] at h1
 injection h1 with h1
 injection h1 with _ h1
 exact hne h1.symm
def FieldPost (P M:Int) (k:Nat) (f:Nat->Int) (w:World) (e:Ending) (w':World):Prop :=
 ∃ v,e=.returned (.agg #[.int .i64 P,.int .i64 M,v])/\Own w' w.heap.size 3 1 v k (fun j _=>.int .i64 (f j))/\Below w.heap.size w w'
def leadF (p:Nat->Nat):Nat->Nat->Int
 | 0,_ => -1
 | s+1,t=>if t=p s then (s:Int) else leadF p s t
theorem zd1 {p:Nat->Nat} {t:Nat}:∀ a,leadF p a t<0↔∀ s,s<a->p s≠t
 | 0=>⟨fun _ s hs=>absurd hs (by omega),fun _=>by show (-1:Int)<0; omega⟩
 | a + 1 => by
  show (if t=p a then (a:Int) else leadF p a t)<0↔_
  split
  ·rename_i h
   exact ⟨fun h2=>absurd h2 (by omega),fun h2=>absurd h.symm (h2 a (by omega))⟩
  ·rename_i h
   rw [zd1 a]
   constructor
   ·intro h2 s hs
    by_cases e:s=a
    ·subst e; exact fun e=>h e.symm
    ·exact h2 s (by omega)
   ·exact fun h2 s hs=>h2 s (by omega)
def nrow (neg:Nat->Nat) (p:Nat->Nat) (W:Nat->Nat->Nat) (c:Nat):Nat->Nat->Nat
 | 0,j=>if j=c then 1 else 0
 | s+1,j=>if j=p s then neg (W s c) else nrow neg p W c s j
structure NullN (neg:Nat->Nat) (k a:Nat) (p:Nat->Nat) (W:Nat->Nat->Nat) (c f:Nat) (fr:Nat->Nat) (N:Nat->Nat->Nat):Prop where
 le:f<=c
 lt:∀ u,u<f->fr u<c
 inc:∀ u v,u<v->v<f->fr u<fr v
 ne:∀ u,u<f->∀ s,s<a->p s≠fr u
 cover:∀ j,j<c->(∃ s,s<a/\p s=j)∨∃ u,u<f/\fr u=j
 row:∀ u,u<f->∀ j,j<k->N u j=nrow neg p W (fr u) a j
section
variable {neg:Nat->Nat} {k a c f:Nat} {p fr:Nat->Nat} {W N:Nat->Nat->Nat}
theorem NullN.start:NullN neg k a p W 0 0 fr N:=⟨Nat.le_refl _,fun _ h=>absurd h (by omega),fun _ _ _ h=>absurd h (by omega),fun _ h=>absurd h (by omega),fun _ h=>absurd h (by omega),fun _ h=>absurd h (by omega)⟩
theorem NullN.skip (h:NullN neg k a p W c f fr N) (hp:∃ s,s<a/\p s=c):NullN neg k a p W (c+1) f fr N :=
 ⟨Nat.le_succ_of_le h.le,fun u hu=>Nat.lt_succ_of_lt (h.lt u hu),h.inc,h.ne,fun j hj=>by
  by_cases e:j=c
  ·subst e; exact .inl hp
  ·exact h.cover j (by omega),h.row⟩
theorem NullN.next {x:Nat->Nat} (h:NullN neg k a p W c f fr N) (hp:∀ s,s<a->p s≠c) (hx:∀ j,j<k->x j=nrow neg p W c a j):NullN neg k a p W (c+1) (f+1) (fun u=>if u=f then c else fr u) (fun u=>if u=f then x else N u):=by
 refine ⟨by have:=h.le; omega,fun u hu=>?_,fun u v huv hv=>?_,fun u hu s hs=>?_,fun j hj=>?_,fun u hu j hj=>?_⟩
 ·show (if u=f then c else fr u)<c+1
  split
  ·omega
  ·have:=h.lt u (by omega); omega
 ·show (if u=f then c else fr u)<if v=f then c else fr v
  rw [if_neg (by omega)]
  split
  ·exact h.lt u (by omega)
  ·exact h.inc u v huv (by omega)
 ·show p s≠if u=f then c else fr u
  split
  ·exact hp s hs
  ·exact h.ne u (by omega) s hs
 ·by_cases e:j=c
  ·subst e; exact .inr ⟨f,by omega,if_pos rfl⟩
  rcases h.cover j (by omega) with h1 | ⟨u,hu,h1⟩
  ·exact .inl h1
  ·exact .inr ⟨u,by omega,by show (if u=f then c else fr u)=j; rw [if_neg (by omega)]; exact h1⟩
 show (if u=f then x else N u) j=nrow neg p W (if u=f then c else fr u) a j
 split
 ·exact hx j hj
 ·exact h.row u (by omega) j hj
theorem zhe {q:Nat} (hq:1<q) (hn:∀ x,neg x<q) (c:Nat):∀ a j,nrow neg p W c a j<q
 | 0,j=>by unfold nrow; split <;> omega
 | a+1,j=>by
  unfold nrow
  split
  ·exact hn _
  ·exact zhe hq hn c a j
end
def NullPost (q:Nat) (add mul:Nat->Nat->Nat) (neg:Nat->Nat) (n k:Nat) (V:Nat->Nat->Nat) (w:World) (e:Ending) (w':World):Prop :=
 ∃ lv a p W f fr N a2 p2 W2,e=.returned lv/\MTab w' w.heap.size lv a2 k W2/\Below w.heap.size w w'/\EchN q n k k a p W/\RowOps q add mul n k V W /\
  NullN neg k a p W k f fr N/\EchN q f k k a2 p2 W2/\RowOps q add mul f k N W2
theorem zjD (P M:Nat) (A:Option Addr) (k c:Nat) (m:Nat->Nat) (T:Option Addr) (n d N:Nat) (V:Nat->Nat->Nat) (w:World) (hf:FieldOk P M m) (hm:ModOk w P M A m) (hkM:M=1∨k=M)
  (h:MRows w T n N V) (hV:∀ i,i<n->∀ j,j<N->V i j<P ^ M) (hN:0<N) (hN2:N<=1048576) (hn:n<=1048576) :
  Calls Tryz.prog 158 #[.agg #[.int .i64 (P:Nat),.int .i64 (M:Nat),.slice A k c],.slice T n d,.int .i64 (N:Nat)] w (NullPost (P ^ M) (addF P M) (mulF P M m) (negF P M) n N V w):=by
 have Z:=hf.1
 have hL:=fieldLaws hf
 have b8:1<P ^ M:=hL.two
 have F:=Z.2.2.2
 have bl:0<P:=by have:=Z.1; omega
 have bu:Hid (∀ x,negF P M x<P ^ M):=fun x=>zbv bl
 obtain ⟨w0,al,hB,rf⟩:=zao w (.int .i64 (P:Nat)) (.int .i64 (M:Nat)) (.slice A k c) 24
 have bc:=fun W=>zaf (P:=Tryz.prog) 22 3 _ 8 Tryz.underlying22 Tryz.infoInt rfl (N:Int) (by omega) (by omega) (by omega) W
 simp only [Int.toNat_natCast] at bc
 go_enter Tryz.func158, Tryz.ntmps158
 go_upto_region 1 with fail
 rw [<-al];clear al
 have q0:=qc0 rf
 have q1:=qc1 rf
 have q2:=qc2 rf
 have am:MRows w0 T n N V:=h.on hB
 have aq:=zaF hm hB
 go_wp2_with fail
 refine (zcR P M A k c m T n d N N V w0 hf aq hkM am hV (Nat.le_refl _) hN hN2 hn).mono ?_
 rintro e w1 ⟨lv,pv,a,p,W,rfl,hM,hP,kb,hE,hR⟩
 have ay:=hid hB.size
 replace hB:=onS hB kb;replace rf:=zaa rf kb
 have HE:=hid hE
 have HR:=hid hR
 have ch:=hE.le
 have a4:=hid (hM.mono ay.out)
 have O:=hid (hP.mono ay.out)
 clear hM hP kb q0 q1 q2 am aq hE hR h hV
 have az:=hid rf
 have b4:=hid hB
 have b1:=hid (zaF hm hB)
 obtain ⟨PA,pc,b9⟩:=O.out.shape
 obtain ⟨LA,lc,bd⟩:=a4.out.shape
 subst b9 bd
 have be:=rf.lt
 have X:w.heap.size<=w1.heap.size:=by omega
 clear rf hB hm
 go_upto_region 3 with fail
 have ra:=World.rowIs_made w1 (.int .i64 0) N 3
 have kb:=(Below.refl w1.heap.size w1).alloc (Nat.le_refl _) (Obj.cells (madeCells #[Value.int .i64 0] N) 3)
 obtain ⟨w2,aj⟩:=exx (w1.alloc (Obj.cells (madeCells #[Value.int .i64 0] N) 3))
 obtain ⟨g,hg⟩:=exx w1.heap.size
 rw [<-aj] at kb ra ⊢;rw [<-hg] at ra ⊢
 have Y:w1.heap.size<=g:=by omega
 clear aj hg
 go_wp2
 go_loopg [10] N (fun gg iv wx=>∃ i:Nat,iv=.int .i64 (i:Nat)/\i<=N/\N<=i+gg/\wx.rowIs g 3 N (fun t=>.int .i64 (if t<i then -1 else 0))/\Below w1.heap.size w1 wx)
 case atStart=>exact ⟨0,rfl,by omega,by omega,ra.congr fun t _=>by rw [if_neg (by omega)],kb⟩
 clear ra kb
 obtain ⟨i,rfl,hi,cd,ra,kb⟩:=hrel
 have ce:(0:Int)<=(i:Int):=by omega
 by_cases hlt:i<N
 ·have B:(i:Int)<(N:Int):=by omega
  have y0:=ra.cell hlt
  have z0:=ra.frozen i
  have o:=hid (ra.set i (.int .i64 (-1)))
  have l:=hid (kb.setCell (p:=⟨g,i,none⟩) Y (.int .i64 (-1)))
  clear ra kb
  go_wp2
  go_roundg (gk - 1)
  case measure=>omega
  refine ⟨i+1,by go_num,by omega,by omega,o.out.congr fun t ht=>?_,l.out⟩
  by_cases e:t=i
  ·subst e; rw [if_pos rfl,if_pos (by omega)]
  rw [if_neg e]
  by_cases e2:t<i
  ·rw [if_pos e2,if_pos (by omega)]
  ·rw [if_neg e2,if_neg (by omega)]
 have B:¬ (i:Int)<(N:Int):=by omega
 obtain rfl:i=N:=by omega
 have o:=hid (ra.congr (g:=fun t=>.int .i64 (leadF p 0 t)) fun t ht=>by rw [if_pos ht]; rfl)
 clear ra
 go_wp2
 go_loopg [11] a (fun gg iv wx=>∃ s:Nat,iv=.int .i64 (s:Nat)/\s<=a/\a<=s+gg/\Hid (wx.rowIs g 3 i (fun t=>.int .i64 (leadF p s t)))/\Below w1.heap.size w1 wx)
 case atStart=>exact ⟨0,rfl,by omega,by omega,o,kb⟩
 clear o kb
 obtain ⟨s,rfl,hs,ca,o,kb⟩:=hrel
 have cb:(0:Int)<=(s:Int):=by omega
 by_cases hlt:s<a
 ·have B:(s:Int)<(a:Int):=by omega
  obtain ⟨pb,po,a1,ao,x0⟩:=(show IntsR w1 w1.heap.size PA a (fun s=>((p s:Nat):Int)) from O.out.rd rfl).at hlt
  subst a1
  replace x0:=(kb.cell (p:=⟨pb,po+s,none⟩) ao).trans x0
  obtain ⟨t,ht⟩:=exx (p s)
  rw [<-ht] at x0
  have b7:t<i:=by rw [ht]; exact HE.out.pvlt s hlt
  have b6:(t:Int)<(i:Int):=by omega
  have y0:=o.out.cell b7
  have z0:=o.out.frozen t
  have bs:=hid (o.out.set t (.int .i64 (s:Nat)))
  have l:=hid (kb.setCell (p:=⟨g,t,none⟩) Y (.int .i64 (s:Nat)))
  have HT:=hid ht
  clear o kb ht
  go_wp2
  go_roundg (gk - 1)
  case measure=>omega
  refine ⟨s+1,by go_num,by omega,by omega,hid (bs.out.congr fun u _=>?_),l.out⟩
  show (if u=t then Value.int .i64 (s:Nat) else .int .i64 (leadF p s u))=.int .i64 (if u=p s then (s:Int) else leadF p s u)
  rw [<-HT.out]
  split <;> rfl
 have B:¬ (s:Int)<(a:Int):=by omega
 obtain rfl:s=a:=by omega
 obtain ⟨wB,ag⟩:=exx wr
 rw [<-ag] at o kb ⊢;clear ag
 have bo:=hid (kb.trans (Below.refl _ _))
 have c3:=hid (a4.out.on kb)
 have bw:=hid (O.out.on kb)
 have C:=hid (zaa az.out kb)
 have ax:=hid (onS b4.out kb)
 have a5:=hid (zaF b1.out kb)
 have cf:g<wB.heap.size:=o.out.lt
 have b5:w.heap.size<=wB.heap.size:=ax.out.size
 have H0:=hid (MTab.nil wB wB.heap.size i (fun _ _=>0))
 clear kb bo a4 O az b4 b1 be X Y
 go_wp2
 obtain ⟨nv,ap⟩:∃ x:Value,x=.slice none 0 0:=⟨_,rfl⟩
 rw [<-ap] at H0 ⊢;clear ap
 go_loopg [12,13,14,15] i (fun gg ov cv _ _ wx=>∃ c0 f:Nat,∃ fr NW,cv=.int .i64 (c0:Nat)/\c0<=i/\i<=c0+gg/\f<=c0/\Hid (NullN (negF P M) i s p W c0 f fr NW)/\Hid (MTab wx wB.heap.size ov f i NW)/\Below wB.heap.size wB wx)
 case atStart=>exact ⟨0,0,fun _=>0,fun _ _=>0,rfl,by omega,by omega,by omega,hid NullN.start,H0,Below.refl _ _⟩
 clear H0
 obtain ⟨c0,f,fr,NW,rfl,hc,bh,cg,HN,HO,q⟩:=hrel
 have bi:(0:Int)<=(c0:Int):=by omega
 obtain ⟨gO,bg⟩:=exx gk
 rw [<-bg] at bh
 by_cases hcl:c0<i
 rotate_left
 ·have a0:¬ (c0:Int)<(i:Int):=by omega
  obtain rfl:c0=i:=by omega
  obtain ⟨OA,oc,bb⟩:=HO.out.shape
  subst bb
  have b0:Hid (∀ u,u<f->∀ j,j<c0->NW u j<P ^ M):=fun u hu j hj=>by rw [HN.out.row u hu j hj]; exact zhe b8 bu.out _ _ _
  have c1:=hid (HO.out.rd F b0.out)
  have b2:=hid (onS ax.out q)
  have c2:=hid (zaF a5.out q)
  have q0:wr.cell? ⟨w.heap.size,0,none⟩=some (.int .i64 (P:Nat)):=cellS q (C.out.cell (i:=0) (by omega))
  have q1:wr.cell? ⟨w.heap.size,1,none⟩=some (.int .i64 (M:Nat)):=cellS q (C.out.cell (i:=1) (by omega))
  have q2:wr.cell? ⟨w.heap.size,2,none⟩=some (.slice A k c):=cellS q (C.out.cell (i:=2) (by omega))
  clear q
  go_wp2_with fail
  refine (zcR P M A k c m OA f oc c0 c0 NW wr hf c2.out hkM c1.out b0.out (Nat.le_refl _) hN hN2 (by omega)).mono ?_
  rintro e w9 ⟨lv,pv,a2,p2,W2,rfl,au,bk,kb,av,ar⟩
  have bm:=au.mono b2.out.size
  have bp:=onS b2.out kb
  have c5:=hid av
  have bt:=hid ar
  clear au bk kb av ar q0 q1 q2
  go_wp2
  go_ret
  exact ⟨_,s,p,W,f,fr,NW,a2,p2,W2,rfl,bm,bp,HE.out,HR.out,HN.out,c5.out,bt.out⟩
 have a0:(c0:Int)<(i:Int):=by omega
 have l0:=cellS q (o.out.cell hcl)
 obtain ⟨lz,H⟩:=exx (leadF p s c0)
 rw [<-H] at l0
 by_cases hneg:0<=lz
 ·have G:lz ≥ 0:=hneg
  have a3:=hid (HN.out.skip (Classical.byContradiction fun hno=>by have:=(zd1 (p:=p) (t:=c0) s).2 fun u hu e=>hno ⟨u,hu,e⟩; rw [<-H] at this; omega))
  clear H
  go_wp2
  go_roundg (gO - 1)
  case measure=>omega
  case rel=>exact ⟨c0+1,f,fr,NW,by go_num,by omega,by omega,by omega,a3,HO,q⟩
 have G:¬ lz ≥ 0:=hneg
 have J:=hid ((zd1 (p:=p) (t:=c0) s).1 (by rw [<-H]; omega))
 clear H
 obtain ⟨wC,af⟩:=exx wr
 rw [<-af] at HO q l0 ⊢;clear af
 have z:=hid q
 clear q
 go_upto_region 17 with fail
 have rx:=World.rowIs_made wC (.int .i64 0) i 3
 have kb:=(Below.refl wC.heap.size wC).alloc (Nat.le_refl _) (Obj.cells (madeCells #[Value.int .i64 0] i) 3)
 obtain ⟨w4,ai⟩:=exx (wC.alloc (Obj.cells (madeCells #[Value.int .i64 0] i) 3))
 obtain ⟨xb,ac⟩:=exx wC.heap.size
 rw [<-ai] at kb rx ⊢;rw [<-ac] at rx ⊢
 have D:wC.heap.size<=xb:=by omega
 clear ai ac l0
 have y0:=rx.cell hcl
 have z0:=rx.frozen c0
 have v:=hid ((rx.set c0 (.int .i64 1)).congr (g:=fun t=>.int .i64 ((nrow (negF P M) p W c0 0 t:Nat):Int)) fun t _=>by
  show (if t=c0 then Value.int .i64 1 else .int .i64 0)=.int .i64 (((if t=c0 then 1 else 0:Nat)):Int)
  split <;> rfl)
 have l:=hid (kb.setCell (p:=⟨xb,c0,none⟩) D (.int .i64 1))
 clear rx kb
 go_wp2
 clear y0 z0
 obtain ⟨w5,ah⟩:=exx (w4.setCell ⟨xb,c0,none⟩ (.int .i64 1))
 rw [<-ah] at v l ⊢;clear ah
 go_loopg [15] s (fun gg iv wx=>∃ t:Nat,iv=.int .i64 (t:Nat)/\t<=s/\s<=t+gg/\Hid (wx.rowIs xb 3 i (fun j=>.int .i64 ((nrow (negF P M) p W c0 t j:Nat):Int)))/\Hid (Below wC.heap.size wC wx))
 case atStart=>exact ⟨0,rfl,by omega,by omega,v,l⟩
 clear v l
 obtain ⟨t,rfl,ht,c7,v,l⟩:=hrel
 have c9:(0:Int)<=(t:Int):=by omega
 by_cases htl:t<s
 rotate_left
 ·have R:¬ (t:Int)<(s:Int):=by omega
  obtain rfl:t=s:=by omega
  have a3:=hid (HN.out.next (x:=nrow (negF P M) p W c0 t) J.out fun _ _=>rfl)
  have ae:=zaI v.out (show wB.heap.size<=xb by have:=z.out.size; omega) (show i<=maxLen by unfold maxLen; omega)
  have kb:=(Below.refl wr.heap.size wr).alloc (Nat.le_refl _) (Obj.cells #[Value.slice (some ⟨xb,0,none⟩) i i] 22)
  have bq:=hid (ae.on kb)
  have bz:=hid ((HO.out.on l.out).on kb)
  have b3:=hid (onS (onS z.out l.out) kb)
  have c6:Hid ((wr.alloc (Obj.cells #[Value.slice (some ⟨xb,0,none⟩) i i] 22)).cell? ((⟨wr.heap.size,0,none⟩:Addr).add 0)=some (.slice (some ⟨xb,0,none⟩) i i)):=tbox2
  have aw:=hid b3.out.size
  have c4:Hid (f<=1048576):=by show _<=_; omega
  clear ae kb v l
  go_wp2_with (first | (at_builtin; (refine zaB rfl (.tmp 82) (.tmp 84) rfl bz.out rfl (ad:=⟨wr.heap.size,0,none⟩) (c:=1) rfl c6.out rfl bq.out aw.out c4.out ?_); intro v9 w9 o1 o2 o3))
  have bx:=hid o1
  have Q:=hid (b3.out.grown o2 aw.out o3)
  clear o1 o2 o3
  go_wp2
  go_roundg (gO - 1)
  case measure=>omega
  case rel=>exact ⟨c0+1,f+1,_,_,by go_num,by omega,by omega,by omega,a3,bx,Q.out⟩
 have R:(t:Int)<(s:Int):=by omega
 obtain ⟨pb,po,a1,ao,x0⟩:=(show IntsR wB wB.heap.size PA s (fun s=>((p s:Nat):Int)) from bw.out.rd rfl).at htl
 subst a1
 obtain ⟨tb,to0,RA,rc,bn,_,c8,y0,_,E⟩:=c3.out.row htl
 subst bn
 obtain ⟨rb,ro,bj,cc,y1⟩:=(show IntsR wB wB.heap.size RA i (fun j=>((W t j:Nat):Int)) from E.rd rfl).at (i:=c0) hcl
 subst bj
 clear E
 obtain ⟨pt,L⟩:=exx (p t)
 obtain ⟨y,hy⟩:=exx (W t c0)
 rw [<-L] at x0;rw [<-hy] at y1
 have U:pt<i:=by rw [L]; exact HE.out.pvlt t htl
 have an:(pt:Int)<(i:Int):=by omega
 have ba:(0:Int)<=(pt:Int):=by omega
 have bf:inV (P ^ M) (y:Nat)=y:=zan (by rw [hy]; exact HE.out.lt t (by omega) c0 hcl)
 have bv:=hid L
 have HY:=hid hy
 clear L hy
 have q0:=qc0 C.out
 have q1:=qc1 C.out
 have q2:=qc2 C.out
 have ab:=hid (cellS z.out q0)
 have aa:=hid (cellS z.out q1)
 have a9:=hid (cellS z.out q2)
 have a8:=hid (cellS z.out x0)
 have a7:=hid (cellS z.out y0)
 have a6:=hid (cellS z.out y1)
 clear q0 q1 q2 x0 y0 y1
 obtain ⟨w1,ak⟩:=exx wr
 rw [<-ak] at v l ⊢;clear ak
 have b:=l.out
 have rx:=v.out
 clear l v
 go_wp2
 refine wp_region_held_drew (S:=fun w'=>w'.cell? ⟨w.heap.size,0,none⟩=some (.int .i64 (P:Nat))/\w'.cell? ⟨w.heap.size,1,none⟩=some (.int .i64 (M:Nat))/\w'.cell? ⟨w.heap.size,2,none⟩=some (.slice A k c)/\w'.cell? ⟨pb,po+t,none⟩=some (.int .i64 (pt:Nat))/\w'.cell? ⟨tb,to0+t,none⟩=some (.slice (some ⟨rb,ro,none⟩) i rc)/\w'.cell? ⟨rb,ro+c0,none⟩=some (.int .i64 (y:Nat))) (by kernel_rfl) ⟨cellS (Below.refl _ _).drew (cellS b ab.out),cellS (Below.refl _ _).drew (cellS b aa.out),cellS (Below.refl _ _).drew (cellS b a9.out),cellS (Below.refl _ _).drew (cellS b a8.out),cellS (Below.refl _ _).drew (cellS b a7.out),cellS (Below.refl _ _).drew (cellS b a6.out)⟩ (fun hHeld=>?_)
 obtain ⟨w2,hw,kb⟩:=dwx w1
 rw [<-hw] at hHeld ⊢;clear hw;replace rx:=zaa rx kb;replace b:=onS b kb;clear kb
 refine tkq 0 (h:=tkq 1 (h:=tkq 2 (h:=tkq 3 (h:=tkq 4 (h:=tkq 5 (h:=tkq 6 (h:=tkq 7 (h:=tkq 8 (h:=tkq 9 (h:=tkq 10 (h:=tkq 11 (h:=tkq 12 (h:=?_)))))))))))))
 refine rdq 13 (h:=fun K hK=>?_)
 go_simp
 go_wp2_with fail
 refine (zcO P M A k c (y:Nat) w2 Z).mono ?_
 rintro e w3 ⟨rfl,kb⟩
 replace rx:=zaa rx kb;replace b:=onS b kb;clear kb;rw [bf]
 obtain ⟨r,hr⟩:=exx (negF P M y)
 rw [<-hr]
 have br:=hid hr
 clear hr
 refine bkq hK ⟨cellS b ab.out,cellS b aa.out,cellS b a9.out,cellS b a8.out,cellS b a7.out,cellS b a6.out⟩ (h:=fun hHeld=>?_)
 clear hK K
 refine tkq 14 (h:=?_)
 refine rdq 15 (h:=fun K hK=>?_)
 have y0:=rx.cell U
 have z0:=rx.frozen pt
 have rx9:=rx.set pt (.int .i64 (r:Nat))
 have I:=b.setCell (p:=⟨xb,pt,none⟩) D (.int .i64 (r:Nat))
 have RX9:=hid rx9
 have Q:=hid I
 clear rx b rx9 I
 go_simp
 clear y0 z0
 have b:=Q.out
 refine bkq hK ⟨cellS b ab.out,cellS b aa.out,cellS b a9.out,cellS b a8.out,cellS b a7.out,cellS b a6.out⟩ (h:=fun hHeld=>?_)
 clear hK K
 refine wpAnyH_done (by kernel_rfl) ?_ _
 clear hHeld;clear b
 go_wp2
 go_roundg (gk - 1)
 case measure=>omega
 refine ⟨t+1,by go_num,by omega,by omega,hid (RX9.out.congr fun j _=>?_),Q⟩
 show (if j=pt then Value.int .i64 (r:Nat) else .int .i64 ((nrow (negF P M) p W c0 t j:Nat):Int))=.int .i64 (((if j=p t then negF P M (W t c0) else nrow (negF P M) p W c0 t j:Nat)):Int)
 rw [<-bv.out,<-HY.out,<-br.out]
 split <;> rfl
def ExpPost (q k most:Nat) (w:World) (e:Ending) (w':World):Prop :=
 ((q ^ k<=most/\e=.returned (.tuple #[.int .i64 (q ^ k:Nat),.int .i64 0]))∨(most<q ^ k/\e=.returned (.tuple #[.int .i64 0,.int .i64 8])))/\w'=w
theorem zjE {q i k most o:Nat} (hq:2<=q) (ho:o=q ^ i) (h:most / q<o) (hi:i<k):most<q ^ k:=by
 have h1:most<o*q:=by
  have:=(Nat.div_lt_iff_lt_mul (show 0<q by omega)).1 h
  exact this
 have h2:o*q=q ^ (i+1):=by rw [ho,Nat.pow_succ]
 have h3:q ^ (i+1)<=q ^ k:=Nat.pow_le_pow_right (by omega) (by omega)
 omega
theorem zil (q k most:Nat) (w:World) (hq:2<=q) (hq2:q<=256) (hk:k<=1048576) (hm:1<=most) (hm2:most<=1048576) :
  Calls Tryz.prog 127 #[.int .i64 (q:Nat),.int .i64 (k:Nat),.int .i64 (most:Nat)] w (ExpPost q k most w):=by
 have g1:¬ (q:Int)<0:=by omega
 have g2:¬ (k:Int)<0:=by omega
 have g3:¬ (most:Int)<0:=by omega
 have g4:((q:Int) == 0)=false:=by simp; omega
 have g5:(q:Int) > 1:=by omega
 have g6:((q:Int) == -1)=false:=by simp
 have g7:(1:Int)<(q:Int):=by omega
 obtain ⟨z,hz⟩:=exx (most / q)
 have hd:(most:Int) / (q:Int)=(z:Int):=by rw [hz]; norm_cast
 have j:z<=most:=by rw [hz]; exact Nat.div_le_self _ _
 have HZ:=hid hz
 clear hz
 go_enter Tryz.func127, Tryz.ntmps127
 go_wp2
 go_loopg [8,9] k (fun gg ov iv wx=>∃ i o:Nat,ov=.int .i64 (o:Nat)/\iv=.int .i64 (i:Nat)/\i<=k/\k<=i+gg/\Hid (o=q ^ i)/\o<=most/\wx=w)
 case atStart=>exact ⟨0,1,rfl,rfl,by omega,by omega,rfl,hm,rfl⟩
 obtain ⟨i,o,rfl,rfl,hi,l,HO,e,b⟩:=hrel
 subst b
 have m:(0:Int)<=(i:Int):=by omega
 by_cases hlt:i<k
 rotate_left
 ·have a:¬ (i:Int)<(k:Int):=by omega
  obtain rfl:i=k:=by omega
  have d:¬ (o:Int) > (most:Int):=by omega
  go_wp2
  go_ret2
  exact ⟨.inl ⟨by rw [<-HO.out]; exact e,by rw [<-HO.out]; rfl⟩,rfl⟩
 have a:(i:Int)<(k:Int):=by omega
 by_cases hb:z<o
 ·have g:(o:Int) > (z:Int):=by omega
  have HF:=hid (zjE hq HO.out (by rw [<-HZ.out]; exact hb) hlt)
  clear hb
  go_wp2
  go_ret2
  exact ⟨.inr ⟨HF.out,rfl⟩,rfl⟩
 have g:¬ (o:Int) > (z:Int):=by omega
 obtain ⟨y,hy⟩:=exx (o*q)
 have c:y<=most:=by rw [hy]; exact Nat.le_trans (Nat.mul_le_mul_right q (Nat.not_lt.1 hb)) (by rw [HZ.out]; exact Nat.div_mul_le_self most q)
 have hc:(o:Int)*(q:Int)=(y:Int):=by rw [hy]; simp
 have h:Hid (y=q ^ (i+1)):=by show _=_; rw [hy,HO.out,Nat.pow_succ]
 clear hb hy
 go_wp2
 go_roundg (gk - 1)
 case measure=>omega
 case rel=>exact ⟨i+1,y,by go_num,by go_num,by omega,by omega,h,c,rfl⟩
structure CodeR (w:World) (P M:Nat) (m:Nat->Nat) (A:Option Addr) (k N:Nat) (T:Option Addr) (n:Nat) (V:Nat->Nat->Nat):Prop where
 fld:FieldOk P M m
 ints:IntsR w w.heap.size A k (fun i=>(m i:Nat))
 kM:M=1/\k=0∨2<=M/\k=M/\∀ i,i<M->m i<P
 ln1:1<=N
 ln2:N<=64
 rows:MRows w T n N V
 lt:∀ i,i<n->∀ j,j<N->V i j<P ^ M
 rref:RrefN (P ^ M) n N V
theorem EchN.pv_ge {q n k c a:Nat} {pv:Nat->Nat} {W:Nat->Nat->Nat} (h:EchN q n k c a pv W):∀ s,s<a->s<=pv s
 | 0,_=>Nat.zero_le _
 | s+1,hs=>by
  have h1:=EchN.pv_ge h s (by omega)
  have h2:=h.inc s (s+1) (by omega) hs
  omega
theorem EchN.le_c {q n k c a:Nat} {pv:Nat->Nat} {W:Nat->Nat->Nat} (h:EchN q n k c a pv W):a<=c:=by
 rcases Nat.eq_zero_or_pos a with h0 | h0
 ·omega
 have h1:=h.pv_ge (a - 1) (by omega)
 have h2:=h.pvlt (a - 1) (by omega)
 omega
section
variable {w w':World} {P M k N n:Nat} {m:Nat->Nat} {A T:Option Addr} {V:Nat->Nat->Nat}
theorem CodeR.on (h:CodeR w P M m A k N T n V) (hb:Below w.heap.size w w'):CodeR w' P M m A k N T n V :=
 ⟨h.fld,h.ints.on hb,h.kM,h.ln1,h.ln2,h.rows.on hb,h.lt,h.rref⟩
theorem CodeR.mod (h:CodeR w P M m A k N T n V):ModOk w P M A m:=by
 rcases h.kM with ⟨h1,_⟩ | ⟨_,h2,h3⟩
 ·exact .inl h1
 ·subst h2; exact .inr ⟨h.ints,h3⟩
theorem CodeR.km (h:CodeR w P M m A k N T n V):M=1∨k=M:=by
 rcases h.kM with ⟨h1,_⟩ | ⟨_,h2,_⟩
 ·exact .inl h1
 ·exact .inr h2
theorem CodeR.n_le (h:CodeR w P M m A k N T n V):n<=N:=by
 obtain ⟨p,hp⟩:=h.rref
 exact hp.le_c
theorem CodeR.k_le (h:CodeR w P M m A k N T n V):k<=8:=by
 have:=h.fld.1.2.2.1
 rcases h.kM with ⟨_,h1⟩ | ⟨_,h2,_⟩ <;> omega
theorem zbB {P M:Int} {k:Nat} {f:Nat->Int} {N:Int} {ln:Nat->Nat} {V:Nat->Nat->Int} (hr:IntsR w w.heap.size A k f) (h:IntRows w T n ln V) (hc:FirstErr (CodeErrs P M k f N n ln V) 0) :
  ∃ P' M' N':Nat,P=P'/\M=M'/\N=N'/\CodeR w P' M' (fun i=>(f i).toNat) A k N' T n (natT V):=by
 rcases hc with ⟨_,h9⟩ | ⟨hg,⟨_,h9⟩ | ⟨hN,⟨_,h9⟩ | ⟨hs,⟨_,h9⟩ | ⟨he,⟨_,h9⟩ | ⟨hR,_⟩⟩⟩⟩⟩
 ·cases h9
 ·cases h9
 ·cases h9
 ·cases h9
 ·cases h9
 have a:=hg
 obtain ⟨P',M',rfl,rfl,h3,h4,h5⟩:=hg
 obtain ⟨N',rfl⟩:∃ N':Nat,N=N':=⟨N.toNat,by omega⟩
 rw [Int.toNat_natCast,Int.toNat_natCast] at he hR;rw [Int.toNat_natCast] at hR
 obtain ⟨g1,g2⟩:=zcw h hs he
 refine ⟨P',M',N',rfl,rfl,rfl,a.field.1,?_,?_,by omega,by omega,g1,g2,hR⟩
 ·rcases h5 with ⟨e1,e2⟩ | ⟨e1,rfl,e3,e4⟩
  ·subst e2
   exact fun i hi=>absurd hi (by omega)
  ·exact hr.congr fun i hi=>by have:=e3 i hi; show f i=((f i).toNat:Int); omega
 rcases h5 with ⟨e1,e2⟩ | ⟨e1,e2,e3,e4⟩
 ·exact .inl ⟨e1,e2⟩
 ·exact .inr ⟨e1,e2,fun i hi=>by have:=e3 i hi; show (f i).toNat<P'; omega⟩
end
theorem MTab.kept {w w':World} {base n k g mm:Nat} {v:Value} {W:Nat->Nat->Nat} {t:TypeId} {F:Nat->Value} (h:MTab w base v n k W) (hg:w.grownBy w' (some g)) (hr:w.rowIs g t mm F) (h1:t ≠ 22) (h2:t ≠ 3):MTab w' base v n k W:=by
 obtain ⟨R,a,b⟩:=h
 exact ⟨R,a.kept hg (zay hr a h1),fun i hi=>(b i hi).kept hg (zay hr (b i hi) h2)⟩
def NullRel (q:Nat) (add mul:Nat->Nat->Nat) (neg:Nat->Nat) (n k:Nat) (V:Nat->Nat->Nat) (a2:Nat) (W2:Nat->Nat->Nat):Prop :=
 ∃ a p W f fr N p2,EchN q n k k a p W/\RowOps q add mul n k V W/\NullN neg k a p W k f fr N/\EchN q f k k a2 p2 W2/\RowOps q add mul f k N W2
def NullT (q:Nat) (add mul:Nat->Nat->Nat) (neg:Nat->Nat) (n k:Nat) (V:Nat->Nat->Nat) (w:World) (e:Ending) (w':World):Prop :=
 ∃ lv a2 W2,e=.returned lv/\MTab w' w.heap.size lv a2 k W2/\Below w.heap.size w w'/\NullRel q add mul neg n k V a2 W2
theorem NullPost.t {q n k:Nat} {add mul:Nat->Nat->Nat} {neg:Nat->Nat} {V:Nat->Nat->Nat} {w w':World} {e:Ending} (h:NullPost q add mul neg n k V w e w'):NullT q add mul neg n k V w e w':=by
 obtain ⟨lv,a,p,W,f,fr,N,a2,p2,W2,h1,h2,h3,h4,h5,h6,h7,h8⟩:=h
 exact ⟨lv,a2,W2,h1,h2,h3,a,p,W,f,fr,N,p2,h4,h5,h6,h7,h8⟩
theorem NullRel.rref {q n k a2:Nat} {add mul:Nat->Nat->Nat} {neg:Nat->Nat} {V W2:Nat->Nat->Nat} (h:NullRel q add mul neg n k V a2 W2):RrefN q a2 k W2:=by
 obtain ⟨a,p,W,f,fr,N,p2,_,_,_,h7,_⟩:=h
 exact ⟨p2,h7.top⟩
theorem zhf (P M:Nat) (m:Nat->Nat) (A:Option Addr) (k c N:Nat) (T:Option Addr) (n d:Nat) (V:Nat->Nat->Nat) (w:World) (h:CodeR w P M m A k N T n V) :
  Calls Tryz.prog 88 #[.agg #[.int .i64 (P:Nat),.int .i64 (M:Nat),.slice A k c,.int .i64 (N:Nat),.slice T n d]] w (NullT (P ^ M) (addF P M) (mulF P M m) (negF P M) n N V w):=by
 have HC:=hid h
 have hn:=h.n_le
 have hN:=h.ln2
 have o:=h.ln1
 clear h
 have rf:=zaZ (w:=w) (a:=.int .i64 (P:Nat)) (b:=.int .i64 (M:Nat)) (c:=.slice A k c) (d:=.int .i64 (N:Nat)) (e:=.slice T n d) (T := 27)
 have hB:=aly w (.cells #[.int .i64 (P:Nat),.int .i64 (M:Nat),.slice A k c,.int .i64 (N:Nat),.slice T n d] 27)
 obtain ⟨w1,g⟩:=exx (w.alloc (.cells #[.int .i64 (P:Nat),.int .i64 (M:Nat),.slice A k c,.int .i64 (N:Nat),.slice T n d] 27))
 rw [<-g] at hB rf
 go_enter Tryz.func88, Tryz.ntmps88
 go_upto_region 1 with fail
 rw [<-g];clear g
 have q0:=qc0 rf
 have q1:=qc1 rf
 have q2:=qc2 rf
 have q3:=qc3 rf
 have q4:=qc4 rf
 go_wp2_with fail
 have h1:=HC.out.on hB
 refine (zjD P M A k c m T n d N V w1 h1.fld h1.mod h1.km h1.rows h1.lt (by omega) (by omega) (by omega)).mono ?_
 rintro e w2 hp
 obtain ⟨lv,a2,W2,rfl,hM,kb,hrel⟩:=hp.t
 have j:=hM.mono hB.size
 have l:=onS hB kb
 have i:=hid hrel
 clear hM kb hrel hp q0 q1 q2 q3 q4 h1 rf hB
 go_wp2
 go_ret
 exact ⟨_,a2,W2,rfl,j,l,i.out⟩
def DualPost (P M:Nat) (m:Nat->Nat) (k n N:Nat) (V:Nat->Nat->Nat) (w:World) (e:Ending) (w':World):Prop :=
 ∃ v lv a W,e=.returned (.tuple #[.agg #[.int .i64 (P:Nat),.int .i64 (M:Nat),v,.int .i64 (N:Nat),lv],.int .i64 0])/\Own w' w.heap.size 3 1 v k (fun j _=>.int .i64 (m j:Nat))/\MTab w' w.heap.size lv a N W/\Below w.heap.size w w' /\
  NullRel (P ^ M) (addF P M) (mulF P M m) (negF P M) n N V a W
theorem zjF {V:Nat->Nat->Nat}:natT (fun i j=>(V i j:Int))=V:=by
 funext i j
 simp [natT]
theorem CodeR.errs {w:World} {P M k N n:Nat} {m:Nat->Nat} {A T:Option Addr} {V:Nat->Nat->Nat} (h:CodeR w P M m A k N T n V):FirstErr (CodeErrs (P:Int) (M:Int) k (fun i=>(m i:Int)) (N:Int) n (fun _=>N) (fun i j=>(V i j:Int))) 0:=by
 have hn:=h.n_le
 have h1:=h.ln1
 have h2:=h.ln2
 refine .inr ⟨?_,.inr ⟨⟨by omega,by omega⟩,.inr ⟨⟨by omega,by omega,by omega,fun i _=>rfl⟩,.inr ⟨?_,.inr ⟨?_,rfl⟩⟩⟩⟩⟩
 ·obtain ⟨h3,h4,h5,h6⟩:=h.fld
  refine ⟨P,M,rfl,rfl,h3,h4,?_⟩
  rcases h.kM with ⟨e1,e2⟩ | ⟨e1,e2,e3⟩
  ·exact .inl ⟨e1,e2⟩
  refine .inr ⟨e1,e2,fun i hi=>⟨Int.natCast_nonneg _,by have:=e3 i hi; show ((m i:Nat):Int)<(P:Int); omega⟩,?_⟩
  simp only [Int.toNat_natCast]
  exact h6
 ·rw [Int.toNat_natCast,Int.toNat_natCast]
  intro i hi j hj
  have:=h.lt i hi j hj
  exact ⟨Int.natCast_nonneg _,by show ((V i j:Nat):Int)<((P ^ M:Nat):Int); omega⟩
 ·rw [Int.toNat_natCast,Int.toNat_natCast,Int.toNat_natCast,zjF]
  exact h.rref
def SizePost (P M:Int) (k:Nat) (f:Nat->Int) (N:Int) (n:Nat) (ln:Nat->Nat) (V:Nat->Nat->Int) (w:World) (e:Ending) (w':World):Prop :=
 ∃ v u:Int,e=.returned (.tuple #[.int .i64 v,.int .i64 u])/\FirstErr (CodeErrs P M k f N n ln V ++ [((P.toNat ^ M.toNat) ^ n<=65536,8)]) u/\(u=0->v=(((P.toNat ^ M.toNat) ^ n:Nat):Int))/\(u≠0->v=0)/\Below w.heap.size w w'
theorem zex (P M:Int) (A:Option Addr) (k c:Nat) (f:Nat->Int) (N:Int) (T:Option Addr) (n d:Nat) (ln:Nat->Nat) (V:Nat->Nat->Int) (w:World) (hr:IntsR w w.heap.size A k f) (h:IntRows w T n ln V) :
  Calls Tryz.prog 65 #[.agg #[.int .i64 P,.int .i64 M,.slice A k c,.int .i64 N,.slice T n d]] w (SizePost P M k f N n ln V w):=by
 have HT:=hid h
 have HR:=hid hr
 clear h hr
 have rf:=zaZ (w:=w) (a:=.int .i64 P) (b:=.int .i64 M) (c:=.slice A k c) (d:=.int .i64 N) (e:=.slice T n d) (T := 27)
 have hB:=aly w (.cells #[.int .i64 P,.int .i64 M,.slice A k c,.int .i64 N,.slice T n d] 27)
 obtain ⟨w1,i⟩:=exx (w.alloc (.cells #[.int .i64 P,.int .i64 M,.slice A k c,.int .i64 N,.slice T n d] 27))
 rw [<-i] at hB rf
 go_enter Tryz.func65, Tryz.ntmps65
 go_upto_region 1 with fail
 rw [<-i];clear i
 have q0:=qc0 rf
 have q1:=qc1 rf
 have q2:=qc2 rf
 have q3:=qc3 rf
 have q4:=qc4 rf
 go_wp2_with fail
 refine (zcx P M A k c f N T n d ln V w1 (HR.out.on hB) (HT.out.on hB)).mono ?_
 rintro e w2 ⟨v,rfl,hv,kb⟩
 replace rf:=zaa rf kb;replace hB:=onS hB kb;clear kb q0 q1 q2 q3 q4
 by_cases hv0:v=0
 rotate_left
 ·have B:(v != 0)=true:=by simpa using hv0
  have l:=hid (FirstErr.app (r:=[((P.toNat ^ M.toNat) ^ n<=65536,8)]) (u:=v) (by simp [CodeErrs]) hv (fun _=>rfl) (fun h=>absurd h hv0))
  clear hv
  go_wp2
  go_ret2
  exact ⟨0,v,rfl,l.out,fun h=>absurd h hv0,fun _=>rfl,hB⟩
 subst hv0
 have l:=hid hv
 obtain ⟨P',M',N',rfl,rfl,rfl,hC⟩:=zbB HR.out HT.out hv
 have q:=hC.fld.1
 have x:=hC.n_le
 have z:=hC.ln2
 have p:=(fieldLaws hC.fld).two
 have g:=q.2.2.2
 have m:=hid (zb6 q)
 clear hC hv
 have q0:=qc0 rf
 have q1:=qc1 rf
 have q2:=qc2 rf
 have q4:=qc4 rf
 go_wp2
 refine wp_region_held_drew (S:=fun w'=>w'.cell? ⟨w.heap.size,0,none⟩=some (.int .i64 (P':Nat))/\w'.cell? ⟨w.heap.size,1,none⟩=some (.int .i64 (M':Nat))/\w'.cell? ⟨w.heap.size,2,none⟩=some (.slice A k c)/\w'.cell? ⟨w.heap.size,4,none⟩=some (.slice T n d)) (by kernel_rfl) ⟨cellS (Below.refl _ _).drew (q0),cellS (Below.refl _ _).drew (q1),cellS (Below.refl _ _).drew (q2),cellS (Below.refl _ _).drew (q4)⟩ (fun hHeld=>?_)
 obtain ⟨w3,hw,kb⟩:=dwx w2
 rw [<-hw] at hHeld ⊢;clear hw;replace hB:=onS hB kb;replace q0:=cellS kb q0;replace q1:=cellS kb q1;replace q2:=cellS kb q2;replace q4:=cellS kb q4;clear kb
 refine tkq 0 (h:=tkq 1 (h:=tkq 3 (h:=tkq 4 (h:=tkq 5 (h:=?_)))))
 refine rdq 2 (h:=fun K hK=>?_)
 go_simp
 go_wp2_with fail
 refine (zbQ (P':Int) (M':Int) A k c w3).mono ?_
 rintro e w4 ⟨rfl,kb⟩
 replace hB:=onS hB kb;replace q0:=cellS kb q0;replace q1:=cellS kb q1;replace q2:=cellS kb q2;replace q4:=cellS kb q4;clear kb;rw [m.out]
 obtain ⟨Q,hQ⟩:=exx (P' ^ M')
 rw [<-hQ]
 have HQ:=hid hQ
 rw [<-hQ] at p g;clear hQ
 refine bkq hK ⟨q0,q1,q2,q4⟩ (h:=fun hHeld=>?_)
 clear hK K
 refine rdq 6 (h:=fun K hK=>?_)
 go_simp
 go_wp2_with fail
 refine (zil Q n 65536 w4 p g (by omega) (by omega) (by omega)).mono ?_
 rintro e w5 ⟨s,rfl⟩
 obtain ⟨y,u,rfl,o⟩:∃ y u:Int,e=.returned (.tuple #[.int .i64 y,.int .i64 u])/\((Q ^ n<=65536/\y=((Q ^ n:Nat):Int)/\u=0)∨(65536<Q ^ n/\y=0/\u=8)):=by
  rcases s with ⟨h1,rfl⟩ | ⟨h1,rfl⟩
  ·exact ⟨_,_,rfl,.inl ⟨h1,rfl,rfl⟩⟩
  ·exact ⟨_,_,rfl,.inr ⟨h1,rfl,rfl⟩⟩
 have j:=hid o
 clear s o
 refine bkq hK ⟨q0,q1,q2,q4⟩ (h:=fun hHeld=>?_)
 clear hK K
 refine tkq 7 (h:=tkq 8 (h:=tkq 9 (h:=tkq 10 (h:=?_))))
 refine wpAnyH_done (by kernel_rfl) ?_ _
 clear hHeld;clear q0 q1 q2 q4 rf
 go_wp2
 go_ret2
 refine ⟨y,u,rfl,?_,fun h=>?_,fun h=>?_,hB⟩
 ·refine FirstErr.app (by simp [CodeErrs]) l.out (fun h=>absurd rfl h) fun _=>?_
  rw [Int.toNat_natCast,Int.toNat_natCast,<-HQ.out]
  rcases j.out with ⟨h1,_,h3⟩ | ⟨h1,_,h3⟩
  ·exact .inr ⟨h1,h3⟩
  ·exact .inl ⟨by omega,h3⟩
 ·rw [Int.toNat_natCast,Int.toNat_natCast,<-HQ.out]
  rcases j.out with ⟨h1,h2,h3⟩ | ⟨h1,h2,h3⟩
  ·exact h2
  ·omega
 rcases j.out with ⟨h1,h2,h3⟩ | ⟨h1,h2,h3⟩
 ·exact absurd h3 h
 ·exact h2
def CountPost (most:Nat) (P M:Int) (k:Nat) (f:Nat->Int) (N:Int) (n:Nat) (ln:Nat->Nat) (V:Nat->Nat->Int) (w:World) (e:Ending) (w':World):Prop :=
 ∃ v:Int,e=.returned (.int .i64 v)/\((v=0/\¬ (FirstErr (CodeErrs P M k f N n ln V) 0/\(P.toNat ^ M.toNat) ^ n<=most))∨(FirstErr (CodeErrs P M k f N n ln V) 0/\(P.toNat ^ M.toNat) ^ n<=most/\v=(((P.toNat ^ M.toNat) ^ n:Nat):Int)))/\Below w.heap.size w w'
theorem FirstErr.app_zero:∀ {l r:List (Prop × Int)},(∀ x ∈ l,x.2≠0)->FirstErr (l ++ r) 0->FirstErr l 0/\FirstErr r 0
 | [],_,_,h=>⟨rfl,h⟩
 | (p, e) :: l, r, hne, h => by
  rcases h with ⟨_,h1⟩ | ⟨hp,h⟩
  ·exact absurd h1.symm (hne (p,e) (by simp))
  ·obtain ⟨h1,h2⟩:=FirstErr.app_zero (l:=l) (fun x hx=>hne x (by simp [hx])) h
   exact ⟨.inr ⟨hp,h1⟩,h2⟩
theorem FirstErr.app_all:∀ {l r:List (Prop × Int)},FirstErr l 0->FirstErr r 0->(∀ x ∈ l,x.2≠0)->FirstErr (l ++ r) 0
 | [],_,_,h,_=>h
 | (p,e) :: l,r,h1,h2,hne=>by
  rcases h1 with ⟨_,h3⟩ | ⟨hp,h1⟩
  ·exact absurd h3.symm (hne (p,e) (by simp))
  ·exact .inr ⟨hp,FirstErr.app_all h1 h2 fun x hx=>hne x (by simp [hx])⟩
theorem zgi (most:Nat) (P M:Int) (A:Option Addr) (k c:Nat) (f:Nat->Int) (N:Int) (T:Option Addr) (n d:Nat) (ln:Nat->Nat) (V:Nat->Nat->Int) (w:World) (hr:IntsR w w.heap.size A k f) (h:IntRows w T n ln V) (hm:most<=65536) :
  Calls Tryz.prog 21 #[.agg #[.int .i64 P,.int .i64 M,.slice A k c,.int .i64 N,.slice T n d],.int .i64 (most:Nat)] w (CountPost most P M k f N n ln V w):=by
 have HT:=hid h
 have HR:=hid hr
 clear h hr
 have rf:=zaZ (w:=w) (a:=.int .i64 P) (b:=.int .i64 M) (c:=.slice A k c) (d:=.int .i64 N) (e:=.slice T n d) (T := 27)
 have hB:=aly w (.cells #[.int .i64 P,.int .i64 M,.slice A k c,.int .i64 N,.slice T n d] 27)
 obtain ⟨w1,g⟩:=exx (w.alloc (.cells #[.int .i64 P,.int .i64 M,.slice A k c,.int .i64 N,.slice T n d] 27))
 rw [<-g] at hB rf
 go_enter Tryz.func21, Tryz.ntmps21
 go_upto_region 1 with fail
 rw [<-g];clear g
 have q0:=qc0 rf
 have q1:=qc1 rf
 have q2:=qc2 rf
 have q3:=qc3 rf
 have q4:=qc4 rf
 go_wp2_with fail
 refine (zex P M A k c f N T n d ln V w1 (HR.out.on hB) (HT.out.on hB)).mono ?_
 rintro e w2 ⟨v,u,rfl,hu,i,m,kb⟩
 replace hB:=onS hB kb
 have HU:=hid hu
 clear kb q0 q1 q2 q3 q4 rf hu
 by_cases hu0:u=0
 ·have hv:=i hu0
  have o:(u != 0)=false:=by simpa using hu0
  obtain ⟨hc,hs⟩:=FirstErr.app_zero (l:=CodeErrs P M k f N n ln V) (by simp [CodeErrs]) (by rw [<-hu0]; exact HU.out)
  have q:=hid hc
  have j:=hid hv
  clear hc hs hv i m hu0
  by_cases hvm:v > (most:Int)
  ·go_wp2
   go_ret
   exact ⟨0,rfl,.inl ⟨rfl,fun h=>by have:=h.2; have:=j.out; omega⟩,hB⟩
  go_wp2
  go_ret
  exact ⟨v,rfl,.inr ⟨q.out,by have:=j.out; omega,j.out⟩,hB⟩
 have o:(u != 0)=true:=by simpa using hu0
 have p:Hid (¬ (FirstErr (CodeErrs P M k f N n ln V) 0/\(P.toNat ^ M.toNat) ^ n<=most)):=by
  rintro ⟨h1,h2⟩
  exact hu0 (FirstErr.unique HU.out (FirstErr.app_all h1 (.inr ⟨Nat.le_trans h2 hm,rfl⟩) (by simp [CodeErrs])))
 clear i m hu0
 go_wp2
 go_ret
 exact ⟨0,rfl,.inl ⟨rfl,p.out⟩,hB⟩
theorem zaG (w:World) (a b c d e:Value) (T:TypeId):∃ W,W=w.alloc (.cells #[a,b,c,d,e] T)/\Below w.heap.size w W/\W.rowIs w.heap.size T 5 (codCell a b c d e):=⟨_,rfl,(Below.refl _ _).alloc (Nat.le_refl _) _,zaZ⟩
end Go.Proofs.YtgekjfpapmlndaaGreat
