/- Merged texts of a claim: FldLaw, FldQ, TabRow, TabAll, ElAll, Elim, Same09, CanAll, Chk12. -/
import Derived.Test.YtioagplajkoohaaTH1
namespace Go.Proofs.Ytioagplajkoohaa
set_option maxRecDepth 100000
set_option maxHeartbeats 32000000
open KB KE
theorem zaF {p:Nat}:∀ {n:Nat} {f:Nat->Nat},(∀ i,i<n->f i<p)->∀ j,j<n->dig p (valN p f n) j=f j
 | 0,_,_,j,hj=>by omega
 | n + 1, f, h, j, hj => by
  have h0:=h 0 (by omega)
  show dig p (f 0+p*valN p (fun i=>f (i+1)) n) j=f j
  cases j with
  | zero=>rw [zbm,Nat.add_mul_mod_self_left]; exact Nat.mod_eq_of_lt h0
  | succ j =>
   rw [zbT,Nat.add_mul_div_left _ _ (by omega),Nat.div_eq_of_lt h0,Nat.zero_add]
   exact zaF (fun i hi=>h (i+1) (by omega)) j (by omega)
theorem zck {p M x y:Nat} (hp:0<p) (hx:x<p ^ M) (hy:y<p ^ M) (h:∀ j,j<M->dig p x j=dig p y j):x=y:=by
 rw [<-zcy hp M x hx,<-zcy hp M y hy]
 exact zaw h
def dgt (p x j:Nat):Int:=(dig p x j:Nat)
theorem zaN {p M x y:Nat} (hp:0<p) (hx:x<p ^ M) (hy:y<p ^ M) (h:∀ j,j<M->cg p (dgt p x j) (dgt p y j)):x=y :=
 zck hp hx hy fun j hj=>zdv (h j hj) (zba hp _ _) (zba hp _ _)
theorem zeG {P M:Nat} (hP:0<P) (x y:Nat) {j:Nat} (hj:j<M):cg P (dgt P (addF P M x y) j) (dgt P x j+dgt P y j):=by
 unfold dgt addF
 rw [zaF (fun _ _=>Nat.mod_lt _ hP) j hj]
 exact (zcj _).trans (zaX (by simp))
section
variable {P M:Nat} {m:Nat->Nat} {a b c:Nat->Nat}
theorem zfk {N i:Nat} (q:Nat):∀ j,j<M+1->i+j<N+1->cg P (evX M m N (mIn P a b i c j) q) (evX M m N c q+a i*sig j fun k=>b k*pwX M m (i+k) q):=by
 intro j
 induction j with
 | zero=>intro _ _; exact zaX (by show evX M m N c q=evX M m N c q+a i*0; omega)
 | succ j ih =>
  intro hj hjN
  have h1:evX M m N (mIn P a b i c (j+1)) q=evX M m N (mIn P a b i c j) q+((((mIn P a b i c j (i+j)+a i*b j) % P:Nat):Int) - mIn P a b i c j (i+j))*pwX M m (i+j) q:=zcS (by omega)
  rw [h1]
  refine ((ih (by omega) (by omega)).add ((((zcj _).add (zae _))).mul (zae _))).trans (zaX ?_)
  show _=_+(a i:Int)*(sig j (fun k=>b k*pwX M m (i+k) q)+b j*pwX M m (i+j) q)
  simp only [Int.natCast_add,Int.natCast_mul]
  grind
theorem ze2 (hM:1<=M) (q:Nat):∀ i,i<M+1->cg P (evX M m (2*M - 1) (mOut P a b M i) q) (sig i fun i=>a i*sig M fun k=>b k*pwX M m (i+k) q):=by
 intro i
 induction i with
 | zero =>
  intro _
  refine zaX ?_
  show sig _ (fun t=>(((0:Nat):Int))*_)=0
  rw [zac (g:=fun _=>0) fun t _=>by simp,zaE]
 | succ i ih =>
  intro hi
  exact (zfk q M (by omega) (by omega)).trans ((ih (by omega)).add (zae _))
theorem zfl (i j t:Nat) (h:t<i - M∨i - M+j<=t):rIn P M m i c j t=c t:=by
 induction j with
 | zero=>rfl
 | succ j ih =>
  show (if t=i - M+j then _ else _)=_
  rw [if_neg (by omega)]
  exact ih (by omega)
theorem zfm {i:Nat} (hM:M<=i) (hc:c i<=P) (q:Nat):∀ j,j<M+1->cg P (evX M m i (rIn P M m i c j) q) (evX M m i c q - c i*sig j fun k=>m k*pwX M m (i - M+k) q):=by
 intro j
 induction j with
 | zero=>intro _; exact zaX (by show evX M m i c q=evX M m i c q - c i*0; omega)
 | succ j ih =>
  intro hj
  have h1:evX M m i (rIn P M m i c (j+1)) q=evX M m i (rIn P M m i c j) q+((((rIn P M m i c j (i - M+j)+(P - rIn P M m i c j i)*m j) % P:Nat):Int) - rIn P M m i c j (i - M+j))*pwX M m (i - M+j) q:=zcS (by omega)
  rw [h1,zfl i j i (by omega)]
  refine ((ih (by omega)).add ((((zcj _).add (zae _))).mul (zae _))).trans ?_
  show cg P _ (_ - (c i:Int)*(sig j (fun k=>m k*pwX M m (i - M+k) q)+m j*pwX M m (i - M+j) q))
  refine ⟨m j*pwX M m (i - M+j) q,?_⟩
  simp only [Int.natCast_add,Int.natCast_mul,Int.natCast_sub hc]
  grind
theorem ze3 (hP:0<P) (hM:1<=M) (hc:∀ t,c t<P) (q:Nat):∀ s,s+1<=M->cg P (evX M m (2*M - 1 - s) (rOut P M m c s) q) (evX M m (2*M - 1) c q):=by
 intro s
 induction s with
 | zero=>intro _; exact zae _
 | succ s ih =>
  intro hs
  have hl:=zch (M:=M) (m:=m) hP hc s (2*M - 2 - s)
  refine Go.Proofs.Ytioagplajkoohaa.cg.trans ?_ (ih (by omega))
  have e1:2*M - 1 - s=(2*M - 2 - s)+1:=by omega
  have e2:2*M - 1 - (s+1)=2*M - 2 - s:=by omega
  rw [e1,e2]
  have h:=zfm (P:=P) (m:=m) (i:=2*M - 2 - s) (c:=rOut P M m c s) (show M<=2*M - 2 - s by omega) (by omega) q M (by omega)
  refine h.trans (zaX ?_)
  show _=evX M m (2*M - 2 - s) (rOut P M m c s) q+(rOut P M m c s (2*M - 2 - s):Int)*pwX M m (2*M - 2 - s) q
  rw [zeu hM (show M<=2*M - 2 - s by omega),Int.mul_neg]
  omega
theorem zbZ (hP:0<P) (hM:1<=M) (x y:Nat) {j:Nat} (hj:j<M):cg P (dgt P (mulF P M m x y) j) (mulI M m (dgt P x) (dgt P y) j):=by
 have hl:=zcP (a:=dig P x) (b:=dig P y) (M:=M) hP M
 unfold dgt mulF
 rw [zaF (fun i _=>zch hP hl (M - 1) i) j hj]
 have h1:evX M m M (rOut P M m (mOut P (dig P x) (dig P y) M M) (M - 1)) j=(rOut P M m (mOut P (dig P x) (dig P y) M M) (M - 1) j:Nat):=by
  unfold evX
  rw [zaY hj fun t ht hne=>by rw [zaM ht,if_neg (by omega)]; omega,zaM hj,if_pos rfl]
  omega
 rw [<-h1]
 have h2:=ze3 (m:=m) hP hM hl j (M - 1) (by omega)
 rw [show 2*M - 1 - (M - 1)=M by omega] at h2
 exact h2.trans (ze2 hM j M (by omega))
theorem zaA (hP:0<P) (x y:Nat):mulF P M m x y<P ^ M:=zaG fun _ _=>zch hP (zcP hP M) _ _
end
def dIn (P d:Nat) (low:Nat->Nat) (i c:Nat) (r:Nat->Nat):Nat->Nat->Nat
 | 0=>r
 | j+1=>fun t=>if t=i - d+j then (dIn P d low i c r j (i - d+j)+(P - c)*low j) % P else dIn P d low i c r j t
def dOut (P d:Nat) (low:Nat->Nat) (M:Nat) (r:Nat->Nat):Nat->Nat->Nat
 | 0=>r
 | s+1=>fun t=>if t=M - s then 0 else dIn P d low (M - s) (dOut P d low M r s (M - s)) (dOut P d low M r s) d t
def modR (M:Nat) (m:Nat->Nat) (t:Nat):Nat:=if t<M then m t else 1
def DivB (P M:Nat) (m:Nat->Nat) (d:Nat) (low:Nat->Nat):Prop:=∀ t,t<M+1->dOut P d low M (modR M m) (M+1 - d) t=0
def IrrB (P M:Nat) (m:Nat->Nat):Prop:=∀ d,1<=d->2*d<=M->∀ v,v<P ^ d->¬ DivB P M m d (dig P v)
theorem ze4 {P d:Nat} (hP:0<P) {low r:Nat->Nat} {i c:Nat} (hr:∀ t,r t<P):∀ j t,dIn P d low i c r j t<P:=by
 intro j
 induction j with
 | zero=>exact hr
 | succ j ih =>
  intro t
  show (if t=i - d+j then _ else _)<P
  split
  ·exact Nat.mod_lt _ hP
  ·exact ih t
theorem zcT {P d M:Nat} (hP:0<P) {low r:Nat->Nat} (hr:∀ t,r t<P):∀ s t,dOut P d low M r s t<P:=by
 intro s
 induction s with
 | zero=>exact hr
 | succ s ih =>
  intro t
  show (if t=M - s then 0 else _)<P
  split
  ·exact hP
  ·exact ze4 hP ih d t
theorem ze5 {P d:Nat} {low r:Nat->Nat} {i c:Nat} (j t:Nat) (h:t<i - d∨i - d+j<=t):dIn P d low i c r j t=r t:=by
 induction j with
 | zero=>rfl
 | succ j ih =>
  show (if t=i - d+j then _ else _)=_
  rw [if_neg (by omega)]
  exact ih (by omega)
theorem zcU {P d M:Nat} {low r:Nat->Nat} (hd:d<=M):∀ s,s<=M+1 - d->∀ t,M<t+s->t<=M->dOut P d low M r s t=0:=by
 intro s
 induction s with
 | zero=>intro _ t h1 h2; omega
 | succ s ih =>
  intro hs t h1 h2
  show (if t=M - s then 0 else _)=0
  by_cases e:t=M - s
  ·rw [if_pos e]
  ·rw [if_neg e,ze5 d t (by omega)]
   exact ih (by omega) t (by omega) h2
def hD (P d:Nat) (low:Nat->Nat) (M:Nat) (r:Nat->Nat):Nat->Nat->Int
 | 0=>fun _=>0
 | s+1=>fun t=>if t=M - s - d then (dOut P d low M r s (M - s):Nat) else hD P d low M r s t
def lead (d:Nat) (low:Nat->Nat) (k:Nat):Int:=if k<d then (low k:Nat) else if k=d then 1 else 0
section
variable {P M d:Nat} {m low:Nat->Nat}
theorem zfn (hd:d<=M):∀ s,s<=M+1 - d->∀ t,t+s<=M - d->hD P d low M (modR M m) s t=0:=by
 intro s
 induction s with
 | zero=>exact fun _ _ _=>rfl
 | succ s ih =>
  intro hs t ht
  show (if t=M - s - d then _ else _)=(0:Int)
  rw [if_neg (by omega)]
  exact ih (by omega) t (by omega)
theorem zev (hd:d<=M):∀ s,s<=M+1 - d->∀ t,M - d<t->hD P d low M (modR M m) s t=0:=by
 intro s
 induction s with
 | zero=>exact fun _ _ _=>rfl
 | succ s ih =>
  intro hs t ht
  show (if t=M - s - d then _ else _)=(0:Int)
  rw [if_neg (by omega)]
  exact ih (by omega) t ht
theorem ze6 (hd:d<=M):∀ s,s+1<=M+1 - d->hD P d low M (modR M m) (s+1) (M - d)=1:=by
 intro s
 induction s with
 | zero =>
  intro _
  show (if M - d=M - 0 - d then ((modR M m (M - 0):Nat):Int) else _)=1
  rw [if_pos (by omega)]
  unfold modR
  rw [if_neg (by omega)]; rfl
 | succ s ih =>
  intro hs
  show (if M - d=M - (s+1) - d then _ else _)=(1:Int)
  rw [if_neg (by omega)]
  exact ih (by omega)
theorem zfo {i c:Nat} {r:Nat->Nat} (hid:d<=i) (hiM:i<=M) (hc:c<=P) (q:Nat):∀ j,j<d+1->cg P (evX M m (M+1) (dIn P d low i c r j) q) (evX M m (M+1) r q - c*sig j fun k=>low k*pwX M m (i - d+k) q):=by
 intro j
 induction j with
 | zero=>intro _; exact zaX (by show evX M m (M+1) r q=evX M m (M+1) r q - c*0; omega)
 | succ j ih =>
  intro hj
  have h1:evX M m (M+1) (dIn P d low i c r (j+1)) q=evX M m (M+1) (dIn P d low i c r j) q+((((dIn P d low i c r j (i - d+j)+(P - c)*low j) % P:Nat):Int) - dIn P d low i c r j (i - d+j))*pwX M m (i - d+j) q:=zcS (by omega)
  rw [h1]
  refine ((ih (by omega)).add ((((zcj _).add (zae _))).mul (zae _))).trans ?_
  show cg P _ (_ - (c:Int)*(sig j (fun k=>low k*pwX M m (i - d+k) q)+low j*pwX M m (i - d+j) q))
  refine ⟨low j*pwX M m (i - d+j) q,?_⟩
  simp only [Int.natCast_add,Int.natCast_mul,Int.natCast_sub hc]
  grind
theorem zeH (t q:Nat):sig (d+1) (fun k=>lead d low k*pwX M m (t+k) q)=sig d (fun k=>low k*pwX M m (t+k) q)+pwX M m (t+d) q:=by
 show sig d _+_=_
 have h1:sig d (fun k=>lead d low k*pwX M m (t+k) q)=sig d (fun k=>low k*pwX M m (t+k) q):=zac fun k hk=>by unfold lead; rw [if_pos hk]
 have h2:lead d low d=1:=by unfold lead; rw [if_neg (by omega),if_pos rfl]
 rw [h1]
 show _+lead d low d*pwX M m (t+d) q=_
 rw [h2]; omega
theorem ze7 (hP:0<P) (hP1:1<P) (hm:∀ t,t<M->m t<P) (hM:1<=M) (hd:d<=M) (q:Nat):∀ s,s<=M+1 - d->cg P (evX M m (M+1) (dOut P d low M (modR M m) s) q) (- sig (M+1) fun t=>hD P d low M (modR M m) s t*sig (d+1) fun k=>lead d low k*pwX M m (t+k) q):=by
 intro s
 have hr:∀ t,modR M m t<P:=fun t=>by unfold modR; split; exact hm t (by assumption); exact hP1
 induction s with
 | zero =>
  intro _
  refine zaX ?_
  show sig M (fun t=>((modR M m t:Nat):Int)*pwX M m t q)+((modR M m M:Nat):Int)*pwX M m M q = - sig (M+1) (fun t=>0*_)
  rw [zac (n:=M+1) (g:=fun _=>0) fun t _=>by rw [Int.zero_mul],zaE]
  rw [zac (n:=M) (g:=fun t=>(m t:Int)*pwX M m t q) fun t ht=>by unfold modR; rw [if_pos ht]]
  unfold modR
  rw [if_neg (by omega),zeu hM (Nat.le_refl M),Nat.sub_self]
  simp only [Nat.zero_add]
  omega
 | succ s ih =>
  intro hs
  obtain ⟨c,hcd⟩:∃ c,c=dOut P d low M (modR M m) s (M - s):=⟨_,rfl⟩
  have hc:c<P:=by rw [hcd]; exact zcT hP hr s _
  have h0:=zfn (P:=P) (m:=m) (low:=low) hd s (by omega) (M - s - d) (by omega)
  have h1:evX M m (M+1) (dOut P d low M (modR M m) (s+1)) q=evX M m (M+1) (dIn P d low (M - s) c (dOut P d low M (modR M m) s) d) q+(((0:Nat):Int) - dIn P d low (M - s) c (dOut P d low M (modR M m) s) d (M - s))*pwX M m (M - s) q:=by
   rw [hcd]; exact zcS (by omega)
  have h2:=zfo (P:=P) (M:=M) (m:=m) (low:=low) (i:=M - s) (c:=c) (r:=dOut P d low M (modR M m) s) (show d<=M - s by omega) (by omega) (by omega) q d (by omega)
  rw [h1,ze5 d (M - s) (by omega),<-hcd]
  refine (h2.add (zae _)).trans ?_
  refine (((ih (by omega)).add (zae _)).add (zae _)).trans (zaX ?_)
  have h3:sig (M+1) (fun t=>hD P d low M (modR M m) (s+1) t*sig (d+1) fun k=>lead d low k*pwX M m (t+k) q)=sig (M+1) (fun t=>hD P d low M (modR M m) s t*sig (d+1) fun k=>lead d low k*pwX M m (t+k) q)+sig (M+1) (fun t=>if t=M - s - d then (c:Int)*sig (d+1) (fun k=>lead d low k*pwX M m (t+k) q) else 0):=by
   rw [<-zci]
   refine zac fun t _=>?_
   show (if t=M - s - d then ((dOut P d low M (modR M m) s (M - s):Nat):Int) else hD P d low M (modR M m) s t)*_=_
   rw [<-hcd]
   by_cases e:t=M - s - d
   ·rw [if_pos e,if_pos e,e,h0]; omega
   ·rw [if_neg e,if_neg e]; omega
  have h4:sig (M+1) (fun t=>if t=M - s - d then (c:Int)*sig (d+1) (fun k=>lead d low k*pwX M m (t+k) q) else 0)=(c:Int)*sig (d+1) (fun k=>lead d low k*pwX M m (M - s - d+k) q):=by
   rw [zaY (k:=M - s - d) (by omega) fun t _ hne=>by rw [if_neg hne],if_pos rfl]
  rw [h3,h4,zeH,show M - s - d+d=M - s by omega]
  grind
theorem zew (hP1:1<P) (hm:∀ t,t<M->m t<P) (hd1:1<=d) (hd:d<M) {q:Nat} (hq:q<M):cg P (mulI M m (hD P d low M (modR M m) (M+1 - d)) (lead d low) q) (- (dOut P d low M (modR M m) (M+1 - d) q:Nat)):=by
 have h:=ze7 (low:=low) (by omega) hP1 hm (by omega) (show d<=M by omega) q (M+1 - d) (Nat.le_refl _)
 have hz:=zcU (P:=P) (low:=low) (r:=modR M m) (show d<=M by omega) (M+1 - d) (Nat.le_refl _)
 have h1:evX M m (M+1) (dOut P d low M (modR M m) (M+1 - d)) q=(dOut P d low M (modR M m) (M+1 - d) q:Nat):=by
  unfold evX
  rw [zaY (k:=q) (by omega) fun t ht hne=>by
   by_cases e:t<M
   ·rw [zaM e,if_neg (by omega)]; omega
   ·rw [hz t (by omega) (by omega)]; omega]
  rw [zaM hq,if_pos rfl]; omega
 rw [h1] at h
 have h2:mulI M m (hD P d low M (modR M m) (M+1 - d)) (lead d low) q=sig (M+1) fun t=>hD P d low M (modR M m) (M+1 - d) t*sig (d+1) fun k=>lead d low k*pwX M m (t+k) q:=by
  unfold mulI
  rw [zer (n:=M+1) (k:=M) (by omega) fun t h1 h2=>by rw [zev (by omega) _ (Nat.le_refl _) t (by omega)]; omega]
  refine zac fun t _=>?_
  congr 1
  exact zer (by omega) fun k h1 h2=>by unfold lead; rw [if_neg (by omega),if_neg (by omega)]; omega
 rw [h2]
 have:=h.neg
 exact (zaX (by omega)).trans this.symm
end
theorem zeb {P:Nat} (hP:PrimeB P):∀ c,0<c->c<P->∃ u:Int,cg P (u*c) 1:=by
 intro c
 induction c using Nat.strongRecOn with
 | ind c ih =>
  intro h0 hc
  by_cases h1:c=1
  ·exact ⟨1,zaX (by rw [h1]; rfl)⟩
  ·have hr:P % c≠0:=hP c (by omega) hc
   have hl:P % c<c:=Nat.mod_lt _ h0
   obtain ⟨u,k,hu⟩:=ih (P % c) hl (by omega) (by omega)
   have hdiv:((P % c:Nat):Int)=P - c*(P / c:Nat):=by
    have:=Nat.mod_add_div P c
    have h2:((P % c+c*(P / c):Nat):Int)=P:=by rw [this]
    rw [Int.natCast_add,Int.natCast_mul] at h2
    omega
   rw [hdiv] at hu
   refine ⟨-u*(P / c:Nat),k - u,?_⟩
   grind
section
variable {P M:Nat} {m:Nat->Nat}
theorem ze8 (hP1:1<P) (hp:PrimeB P) (hM:1<=M) (hm:M=1∨∀ t,t<M->m t<P) (hi:IrrB P M m):∀ d,d<M->∀ A:Nat->Int,(∀ k,d<k->k<M->cg P (A k) 0)->¬ cg P (A d) 0->∃ B:Nat->Int,∀ j,j<M->cg P (mulI M m A B j) (one0 j):=by
 have hunit:∀ x:Int,¬ cg P x 0->∃ u:Int,cg P (u*x) 1:=fun x hx=>by
  have h0:0<=x % P:=Int.emod_nonneg _ (by omega)
  have h1:x % P<P:=Int.emod_lt_of_pos _ (by omega)
  obtain ⟨c,hc⟩:=Int.eq_ofNat_of_zero_le h0
  have hc0:c≠0:=fun e=>hx (((zde x).symm).trans (zaX (by rw [hc,e]; rfl)))
  obtain ⟨u,hu⟩:=zeb hp c (by omega) (by omega)
  refine ⟨u,(Go.Proofs.Ytioagplajkoohaa.cg.mulL u ?_).trans hu⟩
  rw [<-hc]
  exact (zde x).symm
 have hne1:¬ cg P 1 0:=fun h=>by
  have:=zdv (P:=P) (a:=1) (b:=0) h (by omega) (by omega)
  omega
 intro d
 induction d using Nat.strongRecOn with
 | ind d ih =>
  intro hd A hA hAd
  obtain ⟨u,hu⟩:=hunit _ hAd
  by_cases hd0:d=0
  ·subst hd0
   refine ⟨fun k=>u*one0 k,fun j hj=>?_⟩
   rw [zaz,zbX]
   have h1:cg P (mulI M m one0 A j) (A j):=zaX (zbY A hj)
   refine (Go.Proofs.Ytioagplajkoohaa.cg.mulL u h1).trans ?_
   unfold one0
   by_cases e:j=0
   ·subst e; rw [if_pos rfl]; exact hu
   ·rw [if_neg e]
    exact (Go.Proofs.Ytioagplajkoohaa.cg.mulL u (hA j (by omega) hj)).trans (zaX (by omega))
  ·have hm':∀ t,t<M->m t<P:=hm.resolve_left (by omega)
   obtain ⟨low,hlow⟩:∃ low:Nat->Nat,low=fun k=>((u*A k) % P).toNat:=⟨_,rfl⟩
   have hlc:∀ k,(low k:Int)=(u*A k) % P:=fun k=>by
    rw [hlow]
    have:=Int.emod_nonneg (u*A k) (show (P:Int)≠0 by omega)
    simp only; omega
   have hll:∀ k,low k<P:=fun k=>by
    have:=Int.emod_lt_of_pos (u*A k) (show (0:Int)<P by omega)
    have:=hlc k; omega
   obtain ⟨low',hlow'⟩:∃ l,l=dig P (valN P low d):=⟨_,rfl⟩
   have hlq:∀ k,k<d->low' k=low k:=fun k hk=>by rw [hlow']; exact zaF (fun i _=>hll i) k hk
   have hlead:∀ k,k<M->cg P (lead d low' k) (u*A k):=fun k hk=>by
    unfold lead
    by_cases e:k<d
    ·rw [if_pos e,hlq k e,hlc]; exact zde _
    ·rw [if_neg e]
     by_cases e2:k=d
     ·rw [if_pos e2,e2]; exact hu.symm
     ·rw [if_neg e2]
      exact ((Go.Proofs.Ytioagplajkoohaa.cg.mulL u (hA k (by omega) hk)).trans (zaX (by omega))).symm
   obtain ⟨h,hh⟩:∃ h,h=hD P d low' M (modR M m) (M+1 - d):=⟨_,rfl⟩
   obtain ⟨r,hr⟩:∃ r,r=dOut P d low' M (modR M m) (M+1 - d):=⟨_,rfl⟩
   have hmul:∀ q,q<M->cg P (mulI M m h (lead d low') q) (- (r q:Nat)):=fun q hq=>by
    rw [hh,hr]; exact zew hP1 hm' (by omega) hd hq
   have hrl:∀ t,r t<P:=fun t=>by
    rw [hr]
    exact zcT (by omega) (fun t=>by unfold modR; split; exact hm' t (by assumption); exact hP1) _ t
   have hrz:∀ t,d<=t->t<=M->r t=0:=fun t h1 h2=>by rw [hr]; exact zcU (by omega) _ (Nat.le_refl _) t (by omega) h2
   -- from an inverse of u A to one of A
   have key:∀ X:Nat->Int,(∀ j,j<M->cg P (mulI M m (lead d low') X j) (one0 j))->∃ B:Nat->Int,∀ j,j<M->cg P (mulI M m A B j) (one0 j):=fun X hX=>by
    refine ⟨fun k=>u*X k,fun j hj=>?_⟩
    refine Go.Proofs.Ytioagplajkoohaa.cg.trans ?_ (hX j hj)
    rw [zaz A,zbX,zaz X,<-zbX]
    exact zaP (fun i hi=>(hlead i hi).symm) (fun i _=>zae _) j
   by_cases hz:∀ t,t<d->r t=0
   ·have hr0:∀ t,t<M+1->r t=0:=fun t ht=>by
     by_cases e:t<d
     ·exact hz t e
     ·exact hrz t (by omega) (by omega)
    by_cases h2d:2*d<=M
    ·exact absurd (show DivB P M m d (dig P (valN P low d)) by rw [<-hlow']; unfold DivB; rw [<-hr]; exact hr0) (hi d (by omega) h2d _ (zaG fun i _=>hll i))
    ·obtain ⟨B,hB⟩:=ih (M - d) (by omega) (by omega) h (fun k h1 h2=>by rw [hh,zev (by omega) _ (Nat.le_refl _) k h1]; exact zae _) (by rw [hh,show M+1 - d=(M - d)+1 by omega,ze6 (by omega) (M - d) (by omega)]; exact hne1)
     exfalso
     apply hne1
     have e1:lead d low' d=1:=by unfold lead; rw [if_neg (by omega),if_pos rfl]
     rw [<-e1]
     have h1:cg P (mulI M m one0 (lead d low') d) (mulI M m (mulI M m h B) (lead d low') d):=zaP (fun i hi=>(hB i hi).symm) (fun i _=>zae _) d
     have h2:mulI M m (mulI M m h B) (lead d low')=mulI M m (mulI M m h (lead d low')) B:=by rw [zaz h B,za4 hM,zaz B]
     have h3:cg P (mulI M m (mulI M m h (lead d low')) B d) (mulI M m (fun _=>0) B d):=zaP (fun i hi'=>(hmul i hi').trans (zaX (by rw [hr0 i (by omega)]; rfl))) (fun i _=>zae _) d
     have h4:mulI M m (fun _=>0) B d=0:=by
      unfold mulI
      rw [zac (g:=fun _=>0) fun i _=>by rw [Int.zero_mul],zaE]
     rw [zbY _ hd,h2] at h1
     exact h1.trans (h3.trans (zaX h4))
   ·-- the greatest index with a remainder that is not 0
    have hex:∃ t,t<d/\r t≠0/\∀ k,t<k->k<d->r k=0:=by
     have : ∀ n, n ≤ d → (∀ t, n ≤ t → t < d → r t = 0) ∨ ∃ t, n ≤ t ∧ t < d ∧ r t ≠ 0 ∧ ∀ k, t < k → k < d → r k = 0 := by
      intro n
      induction hk:d - n generalizing n with
      | zero=>intro hn; exact .inl fun t h1 h2=>by omega
      | succ k ihk =>
       intro hn
       rcases ihk (n+1) (by omega) (by omega) with h | ⟨t,h1,h2,h3,h4⟩
       ·by_cases e:r n=0
        ·exact .inl fun t h1 h2=>by
          by_cases e2:t=n
          ·rw [e2]; exact e
          ·exact h t (by omega) h2
        ·exact .inr ⟨n,Nat.le_refl _,by omega,e,fun k h1 h2=>h k (by omega) h2⟩
       ·exact .inr ⟨t,by omega,h2,h3,h4⟩
     rcases this 0 (by omega) with h | ⟨t,_,h2,h3,h4⟩
     ·exact absurd (fun t ht=>h t (by omega) ht) hz
     ·exact ⟨t,h2,h3,h4⟩
    obtain ⟨t,ht,hrt,hrk⟩:=hex
    obtain ⟨B,hB⟩:=ih t ht (by omega) (fun k => - (r k:Int)) (fun k h1 h2=>by
     have:r k=0:=by
      by_cases e:k<d
      ·exact hrk k h1 e
      ·exact hrz k (by omega) (by omega)
     exact zaX (by rw [this]; rfl)) (fun h=>by
     have h':=h.neg
     rw [Int.neg_neg] at h'
     exact hrt (zdv (P:=P) (a:=r t) (b:=0) (h'.trans (zaX rfl)) (hrl t) (by omega)))
    refine key (mulI M m h B) fun j hj=>?_
    have e1:mulI M m (lead d low') (mulI M m h B)=mulI M m (mulI M m h (lead d low')) B:=by rw [<-za4 hM,zaz (lead d low') h]
    rw [e1]
    exact (zaP (fun i hi'=>hmul i hi') (fun i _=>zae _) j).trans (hB j hj)
end
structure FieldLaws (q:Nat) (add mul:Nat->Nat->Nat):Prop where
 two:2<=q
 addLt:∀ x y,add x y<q
 mulLt:∀ x y,mul x y<q
 addComm:∀ x y,add x y=add y x
 addAssoc:∀ x y z,x<q->y<q->z<q->add (add x y) z=add x (add y z)
 zeroAdd:∀ x,x<q->add 0 x=x
 neg:∀ x,x<q->∃ y,y<q/\add x y=0
 mulComm:∀ x y,x<q->y<q->mul x y=mul y x
 mulAssoc:∀ x y z,x<q->y<q->z<q->mul (mul x y) z=mul x (mul y z)
 oneMul:∀ x,x<q->mul 1 x=x
 distrib:∀ x y z,x<q->y<q->z<q->mul x (add y z)=add (mul x y) (mul x z)
 inv:∀ x,x<q->x≠0->∃ y,y<q/\mul x y=1
def FieldOk (P M:Nat) (m:Nat->Nat):Prop:=FldOk P M/\PrimeB P/\(M=1∨∀ t,t<M->m t<P)/\IrrB P M m
theorem fieldLaws {P M : Nat} {m : Nat → Nat} (h : FieldOk P M m) : FieldLaws (P ^ M) (addF P M) (mulF P M m) := by
 obtain ⟨⟨hP2,hM,_,_⟩,hp,hm,hi⟩:=h
 have hP0:0<P:=by omega
 have hq:P<=P ^ M:=by
  have:=Nat.pow_le_pow_right hP0 hM
  simpa using this
 have one:∀ j,dgt P 1 j=one0 j:=fun j=>by
  unfold dgt one0
  cases j with
  | zero=>rw [zbm,Nat.mod_eq_of_lt (by omega)]; rfl
  | succ j=>rw [zbT,Nat.div_eq_of_lt (by omega),zaZ]; rfl
 have aD:=fun (x y j:Nat) (hj:j<M)=>zeG (P:=P) hP0 x y hj
 have mD:=fun (x y j:Nat) (hj:j<M)=>zbZ (P:=P) (m:=m) hP0 hM x y hj
 have val:∀ B:Nat->Int,∃ y,y<P ^ M/\∀ j,j<M->cg P (dgt P y j) (B j):=fun B=>by
  have hl:∀ j,(((B j) % P).toNat:Int)=B j % P:=fun j=>by
   have:=Int.emod_nonneg (B j) (show (P:Int)≠0 by omega)
   omega
  have hlt:∀ j,((B j) % P).toNat<P:=fun j=>by
   have:=Int.emod_lt_of_pos (B j) (show (0:Int)<P by omega)
   have:=hl j; omega
  refine ⟨valN P (fun j=>((B j) % P).toNat) M,zaG fun i _=>hlt i,fun j hj=>?_⟩
  unfold dgt
  rw [zaF (fun i _=>hlt i) j hj,hl]
  exact zde _
 refine ⟨by omega,fun x y=>zbL hP0 x y,fun x y=>zaA hP0 x y,zd7 P M,fun x y z hx hy hz=>?_,fun x hx=>zd6 hP0 hx,fun x hx=>?_,fun x y hx hy=>?_,fun x y z hx hy hz=>?_,fun x hx=>?_,fun x y z hx hy hz=>?_,fun x hx h0=>?_⟩
 ·refine zaN hP0 (zbL hP0 _ _) (zbL hP0 _ _) fun j hj=>?_
  refine (aD _ _ j hj).trans (((aD _ _ j hj).add (zae _)).trans ?_)
  exact (zaX (by omega)).trans ((aD _ _ j hj).trans ((zae _).add (aD _ _ j hj))).symm
 ·obtain ⟨y,hy,hB⟩:=val fun j => - dgt P x j
  refine ⟨y,hy,zaN hP0 (zbL hP0 _ _) (Nat.pow_pos hP0) fun j hj=>?_⟩
  refine (aD _ _ j hj).trans (((zae _).add (hB j hj)).trans (zaX ?_))
  unfold dgt; rw [zaZ]; omega
 ·refine zaN hP0 (zaA hP0 _ _) (zaA hP0 _ _) fun j hj=>?_
  exact (mD _ _ j hj).trans ((zaX (by rw [zaz])).trans (mD _ _ j hj).symm)
 ·refine zaN hP0 (zaA hP0 _ _) (zaA hP0 _ _) fun j hj=>?_
  refine (mD _ _ j hj).trans ((zaP (fun i hi=>mD _ _ i hi) (fun i _=>zae _) j).trans ?_)
  rw [za4 hM]
  exact ((mD _ _ j hj).trans (zaP (fun i _=>zae _) (fun i hi=>mD _ _ i hi) j)).symm
 ·refine zaN hP0 (zaA hP0 _ _) hx fun j hj=>?_
  refine (mD _ _ j hj).trans (zaX ?_)
  rw [show dgt P 1=one0 from funext one,zbY _ hj]
 ·refine zaN hP0 (zaA hP0 _ _) (zbL hP0 _ _) fun j hj=>?_
  refine (mD _ _ j hj).trans ((zaP (fun i _=>zae _) (fun i hi=>aD _ _ i hi) j).trans ?_)
  rw [zea]
  exact ((aD _ _ j hj).trans ((mD _ _ j hj).add (mD _ _ j hj))).symm
 ·-- the leading digit
  have hex:∃ d,d<M/\dig P x d≠0/\∀ k,d<k->k<M->dig P x k=0:=by
   have : ∀ n, n ≤ M → (∀ t, n ≤ t → t < M → dig P x t = 0) ∨ ∃ t, n ≤ t ∧ t < M ∧ dig P x t ≠ 0 ∧ ∀ k, t < k → k < M → dig P x k = 0 := by
    intro n
    induction hk:M - n generalizing n with
    | zero=>intro hn; exact .inl fun t h1 h2=>by omega
    | succ k ihk =>
     intro hn
     rcases ihk (n+1) (by omega) (by omega) with h | ⟨t,h1,h2,h3,h4⟩
     ·by_cases e:dig P x n=0
      ·exact .inl fun t h1 h2=>by
        by_cases e2:t=n
        ·rw [e2]; exact e
        ·exact h t (by omega) h2
      ·exact .inr ⟨n,Nat.le_refl _,by omega,e,fun k h1 h2=>h k (by omega) h2⟩
     ·exact .inr ⟨t,by omega,h2,h3,h4⟩
   rcases this 0 (by omega) with h | ⟨t,_,h2,h3,h4⟩
   ·exact absurd (zck hP0 hx (Nat.pow_pos hP0) fun j hj=>by rw [h j (by omega) hj,zaZ]) h0
   ·exact ⟨t,h2,h3,h4⟩
  obtain ⟨d,hd,hnz,hk⟩:=hex
  obtain ⟨B,hB⟩:=ze8 (by omega) hp hM hm hi d hd (dgt P x) (fun k h1 h2=>zaX (by unfold dgt; rw [hk k h1 h2]; rfl)) (fun h=>hnz (zdv (P:=P) (b:=0) h (zba hP0 _ _) hP0))
  obtain ⟨y,hy,hyB⟩:=val B
  refine ⟨y,hy,zaN hP0 (zaA hP0 _ _) (by omega) fun j hj=>?_⟩
  refine (mD _ _ j hj).trans ((zaP (fun i _=>zae _) (fun i hi'=>hyB i hi') j).trans ((hB j hj).trans (zaX (one j).symm)))
open Go.RowKit
def IffPost (p:Prop) (w:World) (e:Ending) (w':World):Prop:=∃ v:Bool,e=.returned (.bool v)/\(v=true↔p)/\Below w.heap.size w w'
theorem za5 {p:Prop} {w w':World} (h:p) (hB:Below w.heap.size w w'):IffPost p w (.returned (.bool true)) w':=⟨true,rfl,⟨fun _=>h,fun _=>rfl⟩,hB⟩
theorem zaB {p:Prop} {w w':World} (h:¬ p) (hB:Below w.heap.size w w'):IffPost p w (.returned (.bool false)) w':=⟨false,rfl,⟨(fun h=>by cases h),fun h'=>absurd h' h⟩,hB⟩
def OwnI (w:World) (base g o n c:Nat) (r:Nat->Nat):Prop:=Own w base 3 1 (.slice (some ⟨g,o,none⟩) n c) n (fun t _=>.int .i64 (r t:Nat))
theorem OwnI.cell {w:World} {base g o n c i:Nat} {r:Nat->Nat} (h:OwnI w base g o n c r) (hi:i<n):w.cell? ⟨g,o+i,none⟩=some (.int .i64 (r i:Nat)):=by
 obtain ⟨g',o',cap',hv,_,_,_,_,hc⟩:=Own.form h (by omega)
 injection hv with hv
 injection hv with hv
 injection hv with h1 h2
 subst h1 h2
 simpa using hc i hi 0 (by omega)
theorem OwnI.set {w:World} {base g o n c i:Nat} {r:Nat->Nat} (h:OwnI w base g o n c r) (hi:i<n) (z:Nat):OwnI (w.setCell ⟨g,o+i,none⟩ (.int .i64 (z:Int))) base g o n c (fun t=>if t=i then z else r t):=by
 have:=Own.set h hi (show 0<1 by omega) (.int .i64 (z:Int))
 rw [Nat.mul_one,Nat.add_zero] at this
 refine Own.congr this fun t ht j hj=>?_
 show _=Value.int .i64 ((if t=i then z else r t:Nat):Int)
 by_cases e:t=i
 ·rw [if_pos ⟨e,by omega⟩,if_pos e]
 ·rw [if_neg (fun c=>e c.1),if_neg e]
theorem OwnI.congr {w:World} {base g o n c:Nat} {r r':Nat->Nat} (h:OwnI w base g o n c r) (e:∀ i,i<n->r i=r' i):OwnI w base g o n c r':=Own.congr h fun i hi _ _=>by rw [e i hi]
theorem OwnI.drew {w:World} {base g o n c:Nat} {r:Nat->Nat} (h:OwnI w base g o n c r):OwnI w.drew base g o n c r:=h
theorem OwnI.fr {w:World} {base g o n c:Nat} {r:Nat->Nat} (h:OwnI w base g o n c r) (k:Nat):w.frozen? ⟨g,k,none⟩=false:=Own.frozen h k
theorem zdf (P M d:Nat) (A L:Option Addr) (c cl:Nat) (m low:Nat->Nat) (w:World) (hP2:2<=P) (hP:P<=256) (hd1:1<=d) (hdM:d<=M) (hM8:M<=8)
  (hm:IntsR w w.heap.size A M (fun i=>(m i:Nat))) (hml:Hid (∀ i,i<M->m i<P)) (hl:IntsR w w.heap.size L d (fun i=>(low i:Nat))) (hll:Hid (∀ i,i<d->low i<P)) :
  Calls Try.prog 48 #[.slice L d cl,.slice A M c,.int .i64 (P:Nat)] w (IffPost (DivB P M m d low) w):=by
 obtain ⟨i0,qi0,qz0,qz1,qz2⟩:=info_parts Try.infoInt
 have n3:Hid (M<=maxLen):=by show _<=_; unfold maxLen; omega
 have n4:Hid (M*8<=140737488355328):=by show _<=_; omega
 have n5:Hid (M+1<=maxLen):=by show _<=_; unfold maxLen; omega
 have n6:Hid ((M+1)*8<=140737488355328):=by show _<=_; omega
 have hM0:0<M:=by omega
 have hmr:IntsR w w.heap.size A M (fun i=>(modR M m i:Nat)):=hm.congr fun i hi=>by unfold modR; rw [if_pos hi]
 have hrl:Hid (∀ t,modR M m t<P):=fun t=>by
  show modR M m t<P
  unfold modR
  split
  ·exact hml.out t (by assumption)
  ·omega
 go_enter Try.func48, Try.ntmps48
 have hR1:Hid (∀ o1,Rd (w.alloc o1) (w.alloc o1).heap.size A M 1 (fun i _=>.int .i64 (modR M m i:Nat))):=fun o1=>(Rd.alloc hmr (Nat.le_refl _) o1).mono (by simp)
 go_upto_region 3 with (first | (at_builtin; (refine zah rfl (.tmp 15) (.tmp 16) _ rfl 3 i0 _ 1 8 Try.underlying22 qi0 qz0 qz1 qz2 rfl (by omega) _ rfl A M c (fun i _=>.int .i64 (modR M m i:Nat)) rfl (hR1.out _) hM0 (fun _ _ _ _=>rfl) n3.out n4.out ?_); intro cap cur k1 k2 k3 k4))
 have hO1:=Own.new (w:=w.alloc (Obj.cells #[] 3)) (base:=w.heap.size) (e := 3) (by simp) k1 k2 k3 k4
 have hB1:=((Below.refl w.heap.size w).alloc (Nat.le_refl _) (Obj.cells #[] 3)).alloc (by simp) (Obj.cells cur 3)
 obtain ⟨w1,hw1⟩:∃ W,W=((w.alloc (Obj.cells #[] 3)).alloc (Obj.cells cur 3)).drew:=⟨_,rfl⟩
 obtain ⟨g1,hg1⟩:∃ g,g=w.heap.size+1:=⟨_,rfl⟩
 have hB1':Below w.heap.size w w1:=by rw [hw1]; exact hB1.drew
 have hO1':Own w1 w.heap.size 3 1 (.slice (some ⟨g1,0,none⟩) M cap) M (fun i _=>.int .i64 (modR M m i:Nat)):=by rw [hw1,hg1]; simpa using hO1.drew
 try simp only [World.alloc_drew]
 rw [<-hw1,<-hg1];clear hO1 hB1 hw1 hg1 k1 k2 k3 k4
 have hlt:=hB1'.size
 have N1:Hid (∀ j,j<1->(w1.alloc (Obj.cells #[Value.int IntKind.i64 1] 3)).cell? ((⟨w1.heap.size,0,none⟩:Addr).add j)=some (.int .i64 (modR M m M:Nat))):=fun j hj=>by
  obtain rfl:j=0:=by omega
  unfold modR
  rw [if_neg (by omega)]
  exact World.cell?_alloc_at _ _ _ _ rfl
 go_upto_region 4 with (first | (at_builtin; (refine zau _ rfl (.tmp 18) (.tmp 19) _ rfl w.heap.size 3 i0 _ 1 8 Try.underlying22 qi0 qz0 qz1 qz2 rfl (by omega) _ M (fun i _=>.int .i64 (modR M m i:Nat)) rfl (hO1'.alloc _) ⟨w1.heap.size,0,none⟩ 1 rfl N1.out (fun _ _=>rfl) n5.out n6.out (by simp; omega) ?_); intro v' w3 hown3 hg3 hat3))
 have hB3:Below w.heap.size w w3:=(hB1'.alloc (by omega) _).grown hg3 (by simp; omega) (fun q e=>(hO1'.lt q e).1)
 obtain ⟨g,o,cp,rfl,hgb,_⟩:=hown3.form (by omega)
 have hO:OwnI w3 w.heap.size g o (M+1) cp (dOut P d low M (modR M m) 0):=hown3
 clear hown3 hg3 hat3 hO1' hB1' N1 hR1 hmr hlt n3 n4 n5 n6 qi0 qz0 qz1 qz2
 have hMi:(1:Int)<=(M:Int):=by omega
 have hMi8:(M:Int)<=8:=by omega
 have hdi:(1:Int)<=(d:Int):=by omega
 have hdi8:(d:Int)<=(M:Int):=by omega
 go_wp2
 go_loopg [9,10,11] (M+1 - d) (fun gg iv _ _ wx=>∃ s:Nat,iv=.int .i64 ((M:Int) - (s:Int))/\s<=M+1 - d/\M+1 - d<=s+gg/\OwnI wx w.heap.size g o (M+1) cp (dOut P d low M (modR M m) s)/\Below w.heap.size w wx)
 case atStart=>exact ⟨0,by go_num,by omega,by omega,hO,hB3⟩
 case round =>
  clear hO hB3
  obtain ⟨s,rfl,hs,hsg,hO,hB⟩:=hrel
  by_cases hlt:s<M+1 - d
  ·obtain ⟨I,hI⟩:∃ I,I=M - s:=⟨_,rfl⟩
   have hiv:(M:Int) - (s:Int)=(I:Int):=by omega
   rw [hiv]
   have hId:d<=I:=by omega
   have hIdi:(d:Int)<=(I:Int):=by omega
   have hIM:I<=M:=by omega
   have hI8:(I:Int)<=8:=by omega
   have hI0:(0:Int)<=(I:Int):=by omega
   have hI1:(I:Int)<(M:Int)+1:=by omega
   have HI:=hid hI
   have HIV:=hid hiv
   clear hI hiv
   obtain ⟨R0,hR0⟩:∃ R,R=dOut P d low M (modR M m) s:=⟨_,rfl⟩
   have hRl:∀ t,R0 t<P:=by rw [hR0]; exact zcT (by omega) hrl.out s
   rw [<-hR0] at hO
   have HR0:=hid hR0
   have HRL:=hid hRl
   clear hR0 hRl
   obtain ⟨C,hC⟩:∃ C,C=R0 I:=⟨_,rfl⟩
   have hCP:C<P:=by rw [hC]; exact HRL.out I
   have cI:wr.cell? ⟨g,o+I,none⟩=some (.int .i64 (C:Nat)):=by rw [hC]; exact hO.cell (by omega)
   have HC:=hid hC
   clear hC
   go_wp2
   clear cI
   obtain ⟨gI,rfl⟩:∃ gK:Nat,gK=gk:=⟨_,rfl⟩
   go_loopg [11] d (fun gg jv wx=>∃ j:Nat,jv=.int .i64 (j:Nat)/\j<=d/\d<=j+gg/\OwnI wx w.heap.size g o (M+1) cp (dIn P d low I C R0 j)/\Below w.heap.size w wx)
   case atStart=>exact ⟨0,rfl,by omega,by omega,hO,hB⟩
   case round =>
    clear hO hB
    obtain ⟨j,rfl,hj,hjg,hO,hB⟩:=hrel
    have hj0:(0:Int)<=(j:Int):=by omega
    by_cases hlj:j<d
    ·have hlj':(j:Int)<(d:Int):=by omega
     obtain ⟨Z,hZ⟩:∃ Q,Q=I - d:=⟨_,rfl⟩
     obtain ⟨Q,hQ⟩:∃ Q,Q=I - d+j:=⟨_,rfl⟩
     have hQN:Q<M+1:=by omega
     have hIz:(I:Int) - (d:Int)=(Z:Int):=by omega
     have hZ16:Z<=16:=by omega
     have hcl:=ze4 (P:=P) (d:=d) (low:=low) (i:=I) (c:=C) (by omega) HRL.out j Q
     have hdm:=hll.out j hlj
     obtain ⟨mb,mo,rfl,hmb,hmc⟩:=hl.at hlj
     have cm:=cellS hB hmc
     have cc:=hO.cell hQN
     have zc:=hO.fr (o+Q)
     have hnx:∀ t,dIn P d low I C R0 (j+1) t=if t=Q then (dIn P d low I C R0 j Q+(P - C)*low j) % P else dIn P d low I C R0 j t:=fun t=>by rw [hQ]; rfl
     obtain ⟨R,hR⟩:∃ R,R=(dIn P d low I C R0 j Q+(P - C)*low j) % P:=⟨_,rfl⟩
     have hRP:R<P:=by rw [hR]; exact Nat.mod_lt _ (by omega)
     have hO2:OwnI (wr.setCell ⟨g,o+Q,none⟩ (.int .i64 (R:Int))) w.heap.size g o (M+1) cp (dIn P d low I C R0 (j+1)):=(hO.set hQN R).congr fun t ht=>by
      rw [hnx t,<-hR]
     have hB2:Below w.heap.size w (wr.setCell ⟨g,o+Q,none⟩ (.int .i64 (R:Int))):=hB.setCell hgb _
     have HO:=hid hO2
     have HB:=hid hB2
     clear hO2 hB2
     obtain ⟨D,hD⟩:∃ D,D=dIn P d low I C R0 j Q:=⟨_,rfl⟩
     obtain ⟨G,hG⟩:∃ D,D=low j:=⟨_,rfl⟩
     rw [<-hD] at cc hcl hR;rw [<-hG] at cm hdm hR
     obtain ⟨E,hE⟩:∃ D,D=P - C:=⟨_,rfl⟩
     rw [<-hE] at hR
     have hPD:(P:Int) - (C:Int)=(E:Int):=by omega
     have hEG:E*G<=256*256:=Nat.mul_le_mul (by omega) (by omega)
     obtain ⟨Hh,hH⟩:∃ H,H=E*G:=⟨_,rfl⟩
     rw [<-hH] at hR hEG
     have hij:(Z:Int)+(j:Int)=(Q:Int):=by omega
     have hmul:(E:Int)*(G:Int)=(Hh:Int):=by rw [hH]; simp
     have hE256:E<=256:=by omega
     clear hD hE hG hH hnx hO hB hQ hZ hmc
     have hQ0:(0:Int)<=(Q:Int):=by omega
     have hQ1:(Q:Int)<(M:Int)+1:=by omega
     have hP0:¬ (P:Int)=0:=by omega
     have hPp:(2:Int)<=(P:Int):=by omega
     have hR0':(0:Int)<=(R:Int):=by omega
     have hR1:(R:Int)<=256:=by omega
     have hD0:(0:Int)<=(D:Int):=by omega
     have hH0:(0:Int)<=(Hh:Int):=by omega
     have hsum0:(0:Int)<=(D:Int)+(Hh:Int):=by omega
     have hPn:¬ P=0:=by omega
     have w1:IntKind.i64.wrap (Q:Int)=(Q:Int):=IntWalk.i64_in _ (by omega)
     have w2:IntKind.i64.wrap (Hh:Int)=(Hh:Int):=IntWalk.i64_in _ (by omega)
     have w3:IntKind.i64.wrap ((D:Int)+(Hh:Int))=(D:Int)+(Hh:Int):=IntWalk.i64_in _ (by omega)
     have w4:IntKind.i64.wrap (R:Int)=(R:Int):=IntWalk.i64_in _ (by omega)
     have w5:IntKind.i64.wrap (Z:Int)=(Z:Int):=IntWalk.i64_in _ (by omega)
     have w6:IntKind.i64.wrap (E:Int)=(E:Int):=IntWalk.i64_in _ (by omega)
     have htm:((D:Int)+(Hh:Int)).tmod (P:Int)=(R:Int):=by rw [Int.tmod_eq_emod_of_nonneg hsum0,hR]; simp
     have hem:((D:Int)+(Hh:Int)) % (P:Int)=(R:Int):=by rw [hR]; simp
     clear hR
     go_wp2
     go_still_tail 25,(by kernel_rfl)
     change wpList _ _ _ _ _ wr.drew
     go_wp2
     clear w1 w2 w3 w4 w5 w6 htm hem hij hmul
     go_roundg (gk - 1)
     case measure=>omega
     case rel=>exact ⟨j+1,by go_num,by omega,by omega,HO.out.drew,HB.out.drew⟩
    ·obtain rfl:d=j:=by omega
     have hlj':¬ (d:Int)<(d:Int):=by omega
     have zc:=hO.fr (o+I)
     have ci:=hO.cell (i:=I) (by omega)
     have HO2:Hid (OwnI (wr.setCell ⟨g,o+I,none⟩ (.int .i64 0)) w.heap.size g o (M+1) cp (dOut P d low M (modR M m) (s+1))):=(hO.set (show I<M+1 by omega) 0).congr fun t ht=>by
      show _=(if t=M - s then 0 else dIn P d low (M - s) (dOut P d low M (modR M m) s (M - s)) (dOut P d low M (modR M m) s) d t)
      rw [<-HI.out,<-HR0.out,<-HC.out]
     have HB2:Hid (Below w.heap.size w (wr.setCell ⟨g,o+I,none⟩ (.int .i64 0))):=hB.setCell hgb _
     clear hO hB
     go_wp2
     go_roundg (gI - 1)
     case measure=>omega
     case rel=>exact ⟨s+1,by have:=HIV.out; go_num,by omega,by omega,HO2.out,HB2.out⟩
  ·obtain ⟨S,hS⟩:∃ S,S=M+1 - d:=⟨_,rfl⟩
   obtain rfl:s=S:=by omega
   have hge:¬ (d:Int)<=(M:Int) - (s:Int):=by omega
   have hdv:Hid (DivB P M m d low↔∀ t,t<M+1->dOut P d low M (modR M m) s t=0):=by rw [hS]; exact Iff.rfl
   have hRl:∀ t,dOut P d low M (modR M m) s t<P:=zcT (by omega) hrl.out s
   obtain ⟨R0,hR0⟩:∃ R,R=dOut P d low M (modR M m) s:=⟨_,rfl⟩
   rw [<-hR0] at hO hdv hRl
   have HRL:=hid hRl
   clear hR0 hRl hS hs hsg hlt
   go_wp2
   go_loopg [12] (M+1) (fun gg iv wx=>∃ i:Nat,iv=.int .i64 (i:Nat)/\i<=M+1/\M+1<=i+gg/\(∀ t,t<i->R0 t=0)/\OwnI wx w.heap.size g o (M+1) cp R0/\Below w.heap.size w wx)
   case atStart=>exact ⟨0,rfl,by omega,by omega,fun t ht=>by omega,hO,hB⟩
   case round =>
    clear hO hB
    obtain ⟨i,rfl,hi,hig,hz,hO,hB⟩:=hrel
    have HZ:=hid hz
    clear hz
    have hi0:(0:Int)<=(i:Int):=by omega
    by_cases hlt:i<M+1
    ·have hlt':(i:Int)<(M:Int)+1:=by omega
     have cc:=hO.cell hlt
     have hRP:=HRL.out i
     obtain ⟨x,hx⟩:∃ x,x=R0 i:=⟨_,rfl⟩
     rw [<-hx] at cc hRP
     have HX:=hid hx
     clear hx
     by_cases h0:x=0
     ·subst h0
      have hnx:Hid (∀ t,t<i+1->R0 t=0):=fun t ht=>by
       by_cases e:t=i
       ·rw [e]; exact HX.out.symm
       ·exact HZ.out t (by omega)
      go_wp2
      go_roundg (gk - 1)
      case measure=>omega
      case rel=>exact ⟨i+1,by go_num,by omega,by omega,hnx.out,hO,hB⟩
     ·have hb:((x:Int) != 0)=true:=by simp; omega
      have hno:Hid (¬ DivB P M m d low):=fun h=>h0 (HX.out.trans (hdv.out.1 h i hlt))
      have hO':=hid hO
      clear hO
      go_wp2
      go_ret
      exact zaB hno.out hB
    ·obtain ⟨L1,hL1⟩:∃ S,S=M+1:=⟨_,rfl⟩
     have hlt':¬ (i:Int)<(M:Int)+1:=by omega
     have hyes:Hid (DivB P M m d low):=hdv.out.2 fun t ht=>HZ.out t (by omega)
     clear hO
     go_wp2
     go_ret
     exact za5 hyes.out hB
theorem zbE (P M : Nat) (A : Option Addr) (c : Nat) (m : Nat → Nat) (w : World) (hP2 : 2 ≤ P) (hP : P ≤ 256) (hM2 : 2 ≤ M) (hM8 : M ≤ 8) (hq : P ^ M ≤ 256)
  (hm:IntsR w w.heap.size A M (fun i=>(m i:Nat))) (hml:Hid (∀ i,i<M->m i<P)) :
  Calls Try.prog 29 #[.slice A M c,.int .i64 (P:Nat)] w (IffPost (IrrB P M m) w):=by
 go_enter Try.func29, Try.ntmps29
 go_wp2
 go_loopg [5,6] M (fun gg cv dv wx=>∃ d:Nat,dv=.int .i64 (d:Nat)/\cv=.int .i64 (P ^ (d - 1):Nat)/\1<=d/\2*d<=M+2/\M+1<=d+gg/\(∀ d',1<=d'->d'<d->∀ v,v<P ^ d'->¬ DivB P M m d' (dig P v))/\Below w.heap.size w wx)
 case atStart=>exact ⟨1,rfl,rfl,by omega,by omega,by omega,fun d' h1 h2=>by omega,Below.refl _ _⟩
 case round =>
  obtain ⟨d,rfl,rfl,hd1,hd2,hdg,hno,hB⟩:=hrel
  have HNO:=hid hno
  clear hno
  by_cases hlt:2*d<=M
  ·have hlt' : 2 * (d : Int) ≤ (M : Int) := by omega
   have hpd:P ^ d<=256:=Nat.le_trans (Nat.pow_le_pow_right (by omega) (by omega)) hq
   have hpe:P ^ (d - 1)*P=P ^ d:=by rw [<-Nat.pow_succ]; congr 1; omega
   have hpl:P ^ (d - 1)<=256:=Nat.le_trans (Nat.pow_le_pow_right (by omega) (by omega)) hq
   obtain ⟨Q,hQ⟩:∃ Q,Q=P ^ (d - 1):=⟨_,rfl⟩
   obtain ⟨R,hR⟩:∃ Q,Q=P ^ d:=⟨_,rfl⟩
   rw [<-hQ] at hpe hpl;rw [<-hR] at hpe hpd;rw [<-hQ]
   have hmul:(Q:Int)*(P:Int)=(R:Int):=by rw [<-hpe]; simp
   have hw1:IntKind.i64.wrap ((Q:Int)*(P:Int))=(R:Int):=by rw [hmul]; exact IntWalk.i64_in _ (by omega)
   have hw2:IntKind.i64.wrap (R:Int)=(R:Int):=IntWalk.i64_in _ (by omega)
   have HR:=hid hR
   clear hQ hR hpe
   go_wp2
   obtain ⟨gI,rfl⟩:∃ gK:Nat,gK=gk:=⟨_,rfl⟩
   clear hw1 hmul
   go_loopg [7] R (fun gg vv wx=>∃ v:Nat,vv=.int .i64 (v:Nat)/\v<=R/\R<=v+gg/\(∀ v',v'<v->¬ DivB P M m d (dig P v'))/\Below w.heap.size w wx)
   case atStart=>exact ⟨0,rfl,by omega,by omega,fun v' h=>by omega,hB⟩
   case round =>
    clear hB
    obtain ⟨v,rfl,hv,hvg,hnv,hB⟩:=hrel
    have HNV:=hid hnv
    clear hnv
    by_cases hlv:v<R
    ·have hlv':(v:Int)<(R:Int):=by omega
     go_wp2_with fail
     refine (zcf v P d _ (by omega) (by omega) (by omega) (by omega)).mono ?_
     rintro e w1 ⟨rfl,rd,kb⟩
     have hB1:=onS hB kb
     have hint:IntsR w1 w1.heap.size (some ⟨wr.heap.size,0,none⟩) d (fun i=>(dig P v i:Nat)):=zbR rd
     have hll:Hid (∀ i,i<d->dig P v i<P):=fun i _=>zba (by omega) v i
     clear kb rd
     go_wp2_with fail
     refine (zdf P M d A _ c d m (dig P v) w1 hP2 hP hd1 (by omega) hM8 (hm.on hB1) hml hint hll).mono ?_
     rintro e w2 ⟨b,rfl,hb,kb⟩
     have hB2:=onS hB1 kb
     clear kb hint hll hB hB1
     have HB:=hid hb
     clear hb
     cases b
     ·have hnx:Hid (∀ v',v'<v+1->¬ DivB P M m d (dig P v')):=fun v' h h2=>by
       by_cases e:v'=v
       ·have:=HB.out.2 (e ▸ h2)
        cases this
       ·exact HNV.out v' (by omega) h2
      go_wp2
      go_roundg (gk - 1)
      case measure=>omega
      case rel=>exact ⟨v+1,by go_num,by omega,by omega,hnx.out,hB2⟩
     ·have hdv:Hid (¬ IrrB P M m):=fun h=>h d hd1 hlt v (by rw [<-HR.out]; exact hlv) (HB.out.1 rfl)
      go_wp2
      go_ret
      exact zaB hdv.out hB2
    ·obtain rfl:v=R:=by omega
     have hlv':¬ (v:Int)<(v:Int):=by omega
     have hnx:Hid (∀ d',1<=d'->d'<d+1->∀ v',v'<P ^ d'->¬ DivB P M m d' (dig P v')):=fun d' h1 h2 v' h3=>by
      by_cases e:d'=d
      ·subst e
       exact HNV.out v' (by rw [HR.out]; exact h3)
      ·exact HNO.out d' h1 (by omega) v' h3
     go_wp2
     go_roundg (gI - 1)
     case measure=>omega
     case rel=>exact ⟨d+1,by go_num,by rw [HR.out]; simp,by omega,by omega,by omega,hnx.out,hB⟩
  ·have hlt':¬ 2*(d:Int)<=(M:Int):=by omega
   have hirr:Hid (IrrB P M m):=fun d' h1 h2 v hv=>HNO.out d' h1 (by omega) v hv
   clear hlt
   go_wp2
   go_ret
   exact za5 hirr.out hB
def GoodF (P M:Int) (k:Nat) (f:Nat->Int):Prop :=
 ∃ P' M':Nat,P=P'/\M=M'/\FldOk P' M'/\PrimeB P'/\((M'=1/\k=0)∨(2<=M'/\k=M'/\(∀ i,i<M'->0<=f i/\f i<P')/\IrrB P' M' (fun i=>(f i).toNat)))
theorem GoodF.field {P M:Nat} {k:Nat} {f:Nat->Int} (h:GoodF (P:Int) (M:Int) k f):FieldOk P M (fun i=>(f i).toNat)/\(M=1∨k=M):=by
 obtain ⟨P',M',h1,h2,h3,h4,h5⟩:=h
 obtain rfl:P=P':=by omega
 obtain rfl:M=M':=by omega
 rcases h5 with ⟨e,_⟩ | ⟨e1,e2,e3,e4⟩
 ·exact ⟨⟨h3,h4,.inl e,fun d h1 h2=>by omega⟩,.inl e⟩
 ·exact ⟨⟨h3,h4,.inr fun t ht=>by have:=e3 t ht; show (f t).toNat<P; omega,e4⟩,.inr e2⟩
theorem GoodF.mod {P M:Nat} {k:Nat} {f:Nat->Int} {w:World} {A:Option Addr} (h:GoodF (P:Int) (M:Int) k f) (hr:IntsR w w.heap.size A k f):ModOk w P M A (fun i=>(f i).toNat):=by
 obtain ⟨P',M',h1,h2,h3,h4,h5⟩:=h
 obtain rfl:P=P':=by omega
 obtain rfl:M=M':=by omega
 rcases h5 with ⟨e,_⟩ | ⟨e1,rfl,e3,e4⟩
 ·exact .inl e
 ·exact .inr ⟨hr.congr fun i hi=>by have:=e3 i hi; show f i=((f i).toNat:Int); omega,fun i hi=>by have:=e3 i hi; show (f i).toNat<P; omega⟩
def CheckPost (p:Prop) (w:World) (e:Ending) (w':World):Prop:=∃ v:Int,e=.returned (.int .i64 v)/\((v=0/\p)∨(v=1/\¬ p))/\Below w.heap.size w w'
theorem zbM {p:Prop} {w w':World} (h:p) (hB:Below w.heap.size w w'):CheckPost p w (.returned (.int .i64 0)) w':=⟨0,rfl,.inl ⟨rfl,h⟩,hB⟩
theorem zax {p:Prop} {w w':World} (h:¬ p) (hB:Below w.heap.size w w'):CheckPost p w (.returned (.int .i64 1)) w':=⟨1,rfl,.inr ⟨rfl,h⟩,hB⟩
theorem zdg (P M:Int) (A:Option Addr) (k c:Nat) (f:Nat->Int) (w:World) (hr:IntsR w w.heap.size A k f) :
  Calls Try.prog 12 #[.agg #[.int .i64 P,.int .i64 M,.slice A k c]] w (CheckPost (GoodF P M k f) w):=by
 have hB:Below w.heap.size w (w.alloc (.cells #[.int .i64 P,.int .i64 M,.slice A k c] 24)):=(Below.refl _ _).alloc (Nat.le_refl _) _
 have rf:=zad (w:=w) (a:=.int .i64 P) (b:=.int .i64 M) (c:=.slice A k c) (T := 24)
 obtain ⟨w0,hw0⟩:∃ W,W=w.alloc (.cells #[.int .i64 P,.int .i64 M,.slice A k c] 24):=⟨_,rfl⟩
 rw [<-hw0] at hB rf
 go_enter Try.func12, Try.ntmps12
 go_upto_region 1 with fail
 rw [<-hw0];clear hw0
 have q0:=qc0 rf
 have q1:=qc1 rf
 have q2:=qc2 rf
 go_wp2_with fail
 refine (za0 P M A k c _).mono ?_
 rintro e w1 ⟨rfl,kb⟩
 replace rf:=zaa rf kb;replace hB:=onS hB kb;clear kb q0 q1 q2
 by_cases h0:ordV P M=0
 ·have hno:Hid (¬ GoodF P M k f):=by
   rintro ⟨P',M',rfl,rfl,h3,_⟩
   rw [zbh h3] at h0
   have:=Nat.pow_pos (n:=M') (show 0<P' by have:=h3.1; omega)
   omega
  rw [h0];clear h0 rf
  go_wp2
  go_ret
  exact zax hno.out hB
 ·obtain ⟨P,M,rfl,rfl,hf⟩:=zep h0
  obtain ⟨v,hv⟩:∃ v,v=ordV (P:Int) (M:Int):=⟨_,rfl⟩
  rw [<-hv] at h0;rw [<-hv]
  have hv0:(v == 0)=false:=by simpa using h0
  have hP2:=hf.1
  have hPl:=hf.P_le
  have hM1:=hf.2.1
  have hM8:=hf.2.2.1
  have hq:=hf.2.2.2
  have HF:=hid hf
  clear hv hf
  have q0:=qc0 rf
  have q1:=qc1 rf
  have q2:=qc2 rf
  go_wp2_with fail
  refine (zd5 P _ hPl).mono ?_
  rintro e w2 ⟨b,rfl,hb,rfl⟩
  have HBP:=hid hb
  clear hb h0 hv0
  cases b
  ·have hno:Hid (¬ GoodF (P:Int) (M:Int) k f):=by
    rintro ⟨P',M',e1,e2,h3,h4,_⟩
    obtain rfl:P=P':=by omega
    have:=HBP.out.2 h4
    cases this
   go_wp2
   go_ret
   exact zax hno.out hB
  ·have hp : Hid (PrimeB P) := HBP.out.1 rfl
   clear HBP
   by_cases hM:M=1
   ·subst hM
    by_cases hk0:k=0
    ·subst hk0
     have hyes:Hid (GoodF (P:Int) ((1:Nat):Int) 0 f):=⟨P,1,rfl,rfl,HF.out,hp.out,.inl ⟨rfl,rfl⟩⟩
     go_wp2
     go_ret
     exact zbM hyes.out hB
    ·have hk0':((k:Int) != 0)=true:=by simp; omega
     have hno:Hid (¬ GoodF (P:Int) ((1:Nat):Int) k f):=by
      rintro ⟨P',M',e1,e2,h3,h4,⟨e3,e4⟩ | ⟨e3,_⟩⟩
      ·exact hk0 e4
      ·omega
     go_wp2
     go_ret
     exact zax hno.out hB
   ·have hM' : ((M : Int) == 1) = false := by simp; omega
    by_cases hkM:k=M
    ·subst hkM
     have hkk:((k:Int) != (k:Int))=false:=by simp
     have hk2:2<=k:=by omega
     go_wp2
     clear q0 q1 q2 hM' hkk
     go_loopg [3] k (fun gg iv wx=>∃ i:Nat,iv=.int .i64 (i:Nat)/\i<=k/\k<=i+gg/\(∀ i',i'<i->0<=f i'/\f i'<P)/\wx.rowIs w.heap.size 24 3 (fldCell (.int .i64 (P:Nat)) (.int .i64 (k:Nat)) (.slice A k c))/\Below w.heap.size w wx)
     case atStart=>exact ⟨0,rfl,by omega,by omega,fun i' h=>by omega,rf,hB⟩
     case round =>
      clear rf hB
      obtain ⟨i,rfl,hi,hig,hg,rf,hB⟩:=hrel
      have HG:=hid hg
      clear hg
      have hi0:(0:Int)<=(i:Int):=by omega
      have q0:=qc0 rf
      have q1:=qc1 rf
      have q2:=qc2 rf
      by_cases hlt:i<k
      ·have hlt':(i:Int)<(k:Int):=by omega
       obtain ⟨b,o,rfl,hb,e0⟩:=(hr.on hB).at hlt
       obtain ⟨x,hx⟩:∃ x,x=f i:=⟨_,rfl⟩
       rw [<-hx] at e0
       have HX:=hid hx
       clear hx
       have hno:Hid (x<0∨(P:Int)<=x->¬ GoodF (P:Int) (k:Int) k f):=by
        rintro hc ⟨P',M',e1,e2,h3,h4,⟨e3,e4⟩ | ⟨e3,e4,e5,_⟩⟩
        ·omega
        ·have:=e5 i (by omega)
         rw [<-HX.out] at this
         omega
       by_cases hx0:x<0
       ·have hd:decide (x<0)=true:=by simpa using hx0
        go_wp2
        go_quiet (fail)
        go_wp2
        go_ret
        exact zax (hno.out (.inl hx0)) (zai hB _)
       ·have hd:decide (x<0)=false:=by simpa using hx0
        by_cases hxP:(P:Int)<=x
        ·have hd2:decide ((P:Int)<=x)=true:=by simpa using hxP
         go_wp2
         go_quiet (fail)
         go_wp2
         go_ret
         exact zax (hno.out (.inr hxP)) (zai hB _)
        ·have hd2:decide ((P:Int)<=x)=false:=by simpa using hxP
         have hnx:Hid (∀ i',i'<i+1->0<=f i'/\f i'<P):=fun i' h=>by
          by_cases e:i'=i
          ·rw [e,<-HX.out]; omega
          ·exact HG.out i' (by omega)
         clear hno
         go_wp2
         go_quiet (fail)
         go_wp2
         go_roundg (gk - 1)
         case measure=>omega
         case rel=>exact ⟨i+1,by go_num,by omega,by omega,hnx.out,za9 rf _,zai hB _⟩
      ·obtain rfl:i=k:=by omega
       have hlt':¬ (i:Int)<(i:Int):=by omega
       have hint:IntsR wr wr.heap.size A i (fun t=>((f t).toNat:Nat)):=(hr.on hB).congr fun t ht=>by have:=HG.out t ht; omega
       have hml:Hid (∀ t,t<i->(f t).toNat<P):=fun t ht=>by have:=HG.out t ht; omega
       go_wp2_with fail
       refine (zbE P i A c _ wr hP2 hPl hk2 hM8 hq hint hml).mono ?_
       rintro e w2 ⟨b,rfl,hb,kb⟩
       replace hB:=onS hB kb
       have HBI:=hid hb
       clear kb q0 q1 q2 hint hml hb rf
       cases b
       ·have hno:Hid (¬ GoodF (P:Int) (i:Int) i f):=by
         rintro ⟨P',M',e1,e2,h3,h4,⟨e3,e4⟩ | ⟨e3,e4,e5,e6⟩⟩
         ·omega
         ·obtain rfl:P=P':=by omega
          subst e4
          have:=HBI.out.2 e6
          cases this
        go_wp2
        go_ret
        exact zax hno.out hB
       ·have hyes:Hid (GoodF (P:Int) (i:Int) i f):=⟨P,i,rfl,rfl,HF.out,hp.out,.inr ⟨hk2,rfl,HG.out,HBI.out.1 rfl⟩⟩
        go_wp2
        go_ret
        exact zbM hyes.out hB
    ·have hkM':((k:Int) != (M:Int))=true:=by simp; omega
     have hno:Hid (¬ GoodF (P:Int) (M:Int) k f):=by
      rintro ⟨P',M',e1,e2,h3,h4,⟨e3,e4⟩ | ⟨e3,e4,_⟩⟩
      ·omega
      ·omega
     go_wp2
     go_ret
     exact zax hno.out hB
def negF (P M x:Nat):Nat:=valN P (fun i=>(P - dig P x i) % P) M
theorem zcl {P M x:Nat} (hP:0<P):negF P M x<P ^ M:=zaG fun _ _=>Nat.mod_lt _ hP
theorem zcV {P M x:Nat} (hP:0<P):addF P M x (negF P M x)=0:=by
 have hlt:addF P M x (negF P M x)<P ^ M:=zaG fun _ _=>Nat.mod_lt _ hP
 refine zck hP hlt (Nat.pow_pos hP) fun j hj=>?_
 unfold addF
 rw [zaF (fun i _=>Nat.mod_lt _ hP) j hj]
 unfold negF
 rw [zaF (fun i _=>Nat.mod_lt _ hP) j hj]
 have h0:dig P 0 j=0:=by unfold dig; simp
 rw [h0]
 have h1:=zba hP x j
 obtain ⟨d,hd⟩:∃ d,d=dig P x j:=⟨_,rfl⟩
 rw [<-hd] at h1 ⊢
 rcases Nat.eq_zero_or_pos d with h2 | h2
 ·subst h2; simp
 ·rw [Nat.mod_eq_of_lt (show P - d<P by omega),show d+(P - d)=P by omega,Nat.mod_self]
theorem zcA {w w':World} {P M:Nat} {A:Option Addr} {m:Nat->Nat} (h:ModOk w P M A m) (hb:Below w.heap.size w w'):ModOk w' P M A m:=by
 rcases h with h | ⟨h1,h2⟩
 ·exact .inl h
 ·exact .inr ⟨h1.on hb,h2⟩
theorem zab {w:World} {p q:Addr} {u v:Value} (h:w.cell? q=some v) (hne:q.block≠p.block):(w.setCell p u).cell? q=some v :=
 (World.cell?_setCell_other w p q u (fun e=>hne (by rw [e]))).trans h
structure TabOwn (w:World) (g base te e s m:Nat) (F:Nat->Value) (n:Nat->Nat) (f:Nat->Nat->Nat->Value):Prop where
 row:w.rowIs g te m F
 own:∀ v,v<m->Own w base e s (F v) (n v) (f v)
 apart:∀ v u,v<m->u<m->v≠u->(F v).ownBlock=none∨(F v).ownBlock≠(F u).ownBlock
section
variable {w w':World} {g base te e s m:Nat} {F:Nat->Value} {n:Nat->Nat} {f:Nat->Nat->Nat->Value}
theorem TabOwn.put (h:TabOwn w g base te e s m F n f) (hgb:g<base) {v:Nat} (hv:v<m) {v':Value} {n':Nat} {f':Nat->Nat->Value} (hown:Own w' base e s v' n' f') (hg:w.grownBy w' (F v).ownBlock) (hat:v'.ownBlock=(F v).ownBlock∨v'.ownBlock=some w.heap.size) :
  TabOwn (w'.setCell ⟨g,v,none⟩ v') g base te e s m (fun u=>if u=v then v' else F u) (fun u=>if u=v then n' else n u) (fun u=>if u=v then f' else f u):=by
 have hlt:∀ u,u<m->∀ k,(F u).ownBlock=some k->base<=k/\k<w.heap.size:=fun u hu=>(h.own u hu).lt
 have hgw:g<w.heap.size:=h.row.lt
 refine ⟨?_,fun u hu=>?_,fun a b ha hb hab=>?_⟩
 ·have:w'.rowIs g te m F:=h.row.of_block (hg.block g hgw (fun e=>by have:=(hlt v hv g e.symm).1; omega))
  exact (this.set v v').congr fun u _=>by split <;> rfl
 ·by_cases e:u=v
  ·subst e
   simp only [if_true]
   exact hown.setCell (fun e=>by have:=(hown.lt _ e).1; simp at this; omega) _
  ·simp only [if_neg e]
   have hk:Own w' base _ s (F u) (n u) (f u):=(h.own u hu).kept hg (h.apart u v hu hv e)
   exact hk.setCell (fun e=>by have:=(hk.lt _ e).1; simp at this; omega) _
 ·by_cases ea:a=v
  ·have eb:¬ b=v:=fun e=>hab (by rw [ea,e])
   simp only [if_pos ea,if_neg eb]
   subst ea
   rcases hat with h1 | h1
   ·rw [h1]; exact h.apart a b ha hb hab
   ·right
    rw [h1]
    intro e2
    have:=(hlt b hb _ e2.symm).2
    omega
  ·simp only [if_neg ea]
   by_cases eb:b=v
   ·simp only [if_pos eb]
    subst eb
    rcases hat with h1 | h1
    ·rw [h1]; exact h.apart a b ha hb hab
    ·rw [h1]
     cases hfa:(F a).ownBlock with
     | none=>exact .inl rfl
     | some k =>
      right
      intro e2
      injection e2 with e2
      have:=(hlt a ha k hfa).2
      omega
   ·simp only [if_neg eb]; exact h.apart a b ha hb hab
end
theorem Try.infoInts:(Try.prog.info? 22).map (fun i=>(i.zero,i.size,i.bytes))=some (some (.slice none 0 0),1,24):=by kernel_rfl
def listCell (l:List Int) (k _j:Nat):Value:=.int .i64 (l.getD k 0)
def OwnL (w:World) (base:Nat) (R:Value) (l:List Int):Prop:=Own w base 3 1 R l.length (listCell l)
def TabL (w:World) (base:Nat) (v:Value) (L:List (List Int)):Prop :=
 ∃ R:Nat->Value,Own w base 22 1 v L.length (fun i _=>R i)/\∀ i,i<L.length->OwnL w base (R i) (L.getD i [])
theorem TabL.setCell {w:World} {base:Nat} {v:Value} {L:List (List Int)} (h:TabL w base v L) {a:Addr} (ha:a.block<base) (u:Value):TabL (w.setCell a u) base v L:=by
 obtain ⟨R,h1,h2⟩:=h
 exact ⟨R,h1.setCell (fun e=>by have:=(h1.lt _ e).1; omega) u,fun i hi=>(h2 i hi).setCell (fun e=>by have:=((h2 i hi).lt _ e).1; omega) u⟩
theorem TabL.shape {w:World} {base:Nat} {v:Value} {L:List (List Int)} (h:TabL w base v L):∃ A c,v=.slice A L.length c:=h.choose_spec.1.shape
theorem zbu {w:World} {base e e' s s' n n':Nat} {v v':Value} {f f':Nat->Nat->Value} (h:Own w base e s v n f) (h':Own w base e' s' v' n' f') (hne:e≠e'):v'.ownBlock=none∨v'.ownBlock≠v.ownBlock:=by
 rcases h' with ⟨rfl,_⟩ | ⟨g',o',cap',cur',rfl,_,hg',_⟩
 ·exact .inl rfl
 ·refine .inr fun e1=>?_
  rcases h with ⟨rfl,_⟩ | ⟨g,o,cap,cur,rfl,_,hg,_⟩
  ·simp [Value.ownBlock] at e1
  ·simp [Value.ownBlock] at e1
   subst e1
   rw [hg] at hg'
   injection hg' with h1
   injection h1 with _ h1
   exact hne h1
theorem TabL.put {w w':World} {base:Nat} {v v':Value} {L:List (List Int)} {R:Nat->Value} {r:Value} {l:List Int} (h2:∀ i,i<L.length->OwnL w base (R i) (L.getD i [])) (hr:OwnL w base r l) (hv:Own w base 22 1 v L.length (fun i _=>R i))
  (hown:Own w' base 22 1 v' (L.length+1) (fun i _=>if i=L.length then r else R i)) (hg:w.grownBy w' v.ownBlock):TabL w' base v' (L ++ [l]):=by
 have ne:(22 : Nat) ≠ 3 := by decide
 refine ⟨fun i=>if i=L.length then r else R i,by rw [List.length_append]; exact hown,fun i hi=>?_⟩
 show OwnL w' base (if i=L.length then r else R i) _
 by_cases e:i=L.length
 ·subst e
  rw [if_pos rfl]
  have:(L ++ [l]).getD L.length []=l:=by simp [List.getD_eq_getElem?_getD]
  rw [this]
  exact hr.kept hg (zbu hv hr ne)
 ·have hi':i<L.length:=by rw [List.length_append] at hi; simp at hi; omega
  rw [if_neg e]
  have:(L ++ [l]).getD i []=L.getD i []:=by rw [List.getD_eq_getElem?_getD,List.getD_eq_getElem?_getD,List.getElem?_append_left hi']
  rw [this]
  exact (h2 i hi').kept hg (zbu hv (h2 i hi') ne)
theorem zav {w:World} {o:Obj} {k:Nat} (h:k=w.heap.size):(w.alloc o).heap[k]?=some o:=by subst h; exact heap_alloc_new w o
def Cloned (e:TypeId) (s n:Nat) (f:Nat->Nat->Value) (w:World) (E:Ending) (w':World):Prop :=
 ∃ A c,E=.returned (.slice A n c)/\Own w' w.heap.size e s (.slice A n c) n f/\Below w.heap.size w w'
theorem zbi (A:Option Addr) (nn c:Nat) (f:Nat->Int) (w:World) (h:IntsR w w.heap.size A nn f) (hc:nn<=c) (hn:nn<=1048576) :
  Calls Try.prog 76 #[.slice A nn c] w (Cloned 3 1 nn (fun i _=>.int .i64 (f i)) w):=by
 obtain ⟨i0,qi0,qz0,qz1,qz2⟩:=info_parts Try.infoInt
 have hq:=fun (W:World) (a:Option Addr)=>Lib.run_eql_slice_nil (P:=Try.prog) W 22 3 a nn c 0 0 Try.underlying22
 cases A with
 | none =>
  have h0:nn=0:=by
   rcases Nat.eq_zero_or_pos nn with h0 | h0
   ·exact h0
   ·obtain ⟨b,o,e,_⟩:=h.at h0; cases e
  have H0:=hid h0
  clear h0
  go_enter Try.func76, Try.ntmps76
  go_wp2
  go_ret
  exact ⟨none,0,by rw [H0.out]; rfl,by rw [H0.out]; exact Own.nil _ _ _ _ _,Below.refl _ _⟩
 | some a =>
  obtain ⟨ab,ao,ap⟩:=a
  rcases Nat.eq_zero_or_pos nn with h0 | h0
  ·have H0:=hid h0
   obtain ⟨n,hn'⟩:∃ n,n=nn:=⟨_,rfl⟩
   have HN:=hid hn'
   rw [<-hn'] at h0 hc hn hq ⊢;clear hn' h
   subst h0
   go_enter Try.func76, Try.ntmps76
   go_wp2_with (first | (at_builtin; (refine zaO rfl (.tmp 5) (.tmp 6) _ rfl 3 i0 Try.underlying22 qi0 w.heap.size 0 rfl (some ⟨ab,ao,ap⟩) c rfl ?_)))
   go_ret
   exact ⟨_,_,rfl,.inr ⟨_,0,0,#[],rfl,Nat.le_refl _,zav rfl,Nat.le_refl _,by unfold maxLen; omega,by simp,fun i hi=>absurd hi (by omega)⟩,(Below.refl _ _).alloc (Nat.le_refl _) _⟩
  ·have n3:Hid (nn<=maxLen):=by show _<=_; unfold maxLen; omega
   have n4:Hid (nn*8<=140737488355328):=by show _<=_; omega
   have NR:Hid (∀ o1,Rd (w.alloc o1) (w.alloc o1).heap.size (some ⟨ab,ao,ap⟩) nn 1 (fun i _=>.int .i64 (f i))):=fun o1=>(Rd.alloc h (Nat.le_refl _) o1).mono (by simp)
   go_enter Try.func76, Try.ntmps76
   go_wp2_with (first | (at_builtin; (refine zah rfl (.tmp 5) (.tmp 6) _ rfl 3 i0 _ 1 8 Try.underlying22 qi0 qz0 qz1 qz2 rfl (by omega) _ rfl (some ⟨ab,ao,ap⟩) nn c (fun i _=>.int .i64 (f i)) rfl (NR.out _) h0 (fun _ _ _ _=>rfl) n3.out n4.out ?_); intro cap cur k1 k2 k3 k4))
   go_ret
   have hO:=Own.new (w:=w.alloc (Obj.cells #[] 3)) (base:=w.heap.size) (e := 3) (by simp) k1 k2 k3 k4
   simp only [World.size_alloc] at hO
   exact ⟨_,_,rfl,hO.drew,(((Below.refl _ _).alloc (Nat.le_refl _) _).alloc (by simp) _).drew⟩
def MTab (w:World) (base:Nat) (v:Value) (n k:Nat) (W:Nat->Nat->Nat):Prop :=
 ∃ R:Nat->Value,Own w base 22 1 v n (fun i _=>R i)/\∀ i,i<n->Own w base 3 1 (R i) k (fun j _=>.int .i64 (W i j:Nat))
section
variable {w w':World} {base n k:Nat} {v:Value} {W W':Nat->Nat->Nat}
theorem MTab.nil (w:World) (base k:Nat) (W:Nat->Nat->Nat):MTab w base (.slice none 0 0) 0 k W:=⟨fun _=>undef,Own.nil _ _ _ _ _,fun i hi=>absurd hi (by omega)⟩
theorem MTab.on (h:MTab w base v n k W) (hb:Below w.heap.size w w'):MTab w' base v n k W:=by
 obtain ⟨R,h1,h2⟩:=h
 exact ⟨R,h1.on hb,fun i hi=>(h2 i hi).on hb⟩
theorem MTab.mono {b':Nat} (h:MTab w base v n k W) (hb:b'<=base):MTab w b' v n k W:=by
 obtain ⟨R,h1,h2⟩:=h
 exact ⟨R,h1.mono hb,fun i hi=>(h2 i hi).mono hb⟩
theorem MTab.shape (h:MTab w base v n k W):∃ A c,v=.slice A n c:=h.choose_spec.1.shape
theorem MTab.congr (h:MTab w base v n k W) (e:∀ i,i<n->∀ j,j<k->W i j=W' i j):MTab w base v n k W':=by
 obtain ⟨R,h1,h2⟩:=h
 exact ⟨R,h1,fun i hi=>(h2 i hi).congr fun j hj _ _=>by rw [e i hi j hj]⟩
theorem MTab.row {A:Option Addr} {N c i:Nat} (h:MTab w base (.slice A N c) n k W) (hi:i<n):∃ b o RA rc,A=some ⟨b,o,none⟩/\base<=b/\b<w.heap.size/\w.cell? ⟨b,o+i,none⟩=some (.slice RA k rc)/\w.frozen? ⟨b,o+i,none⟩=false/\Own w base 3 1 (.slice RA k rc) k (fun j _=>.int .i64 (W i j:Nat)):=by
 obtain ⟨R,h1,h2⟩:=h
 obtain ⟨A1,c1,e1⟩:=h1.shape
 injection e1 with e1 e2 e3
 subst e1 e2 e3
 obtain ⟨g,o,cap,e,hb1,hb2,_,_,hc⟩:=h1.form (by omega)
 injection e with e e3 e4
 subst e e4
 have g1:=hc i hi 0 (by omega)
 rw [Nat.mul_one,Nat.add_zero] at g1
 have hr:=h2 i hi
 obtain ⟨RA,rc,hR⟩:=hr.shape
 rw [hR] at hr
 exact ⟨g,o,RA,rc,rfl,hb1,hb2,by rw [g1,<-hR],h1.frozen _,hr⟩
theorem MTab.set {b o c i:Nat} {r:Value} {x:Nat->Nat} (h:MTab w base (.slice (some ⟨b,o,none⟩) n c) n k W) (hi:i<n) (hr:Own w base 3 1 r k (fun j _=>.int .i64 (x j:Nat))) :
  MTab (w.setCell ⟨b,o+i,none⟩ r) base (.slice (some ⟨b,o,none⟩) n c) n k (fun u=>if u=i then x else W u):=by
 obtain ⟨R,h1,h2⟩:=h
 have hs:=h1.set hi (by omega:0<1) r
 rw [Nat.mul_one,Nat.add_zero] at hs
 have hne:∀ v f,Own w base 3 1 v k f->v.ownBlock≠some b:=fun v f hv e=>by
  rcases zbu h1 hv (by decide) with h3 | h3
  ·rw [h3] at e; cases e
  ·exact h3 (by rw [e]; rfl)
 refine ⟨fun u=>if u=i then r else R u,hs.congr fun u _ q hq=>?_,fun u hu=>?_⟩
 ·show (if u=i/\q=0 then r else R u)=if u=i then r else R u
  by_cases e:u=i
  ·rw [if_pos ⟨e,by omega⟩,if_pos e]
  ·rw [if_neg (fun h=>e h.1),if_neg e]
 ·show Own _ base _ 1 (if u=i then r else R u) k _
  by_cases e:u=i
  ·rw [if_pos e]
   simp only [if_pos e]
   exact hr.setCell (hne _ _ hr) r
  ·rw [if_neg e]
   simp only [if_neg e]
   exact (h2 u hu).setCell (hne _ _ (h2 u hu)) r
theorem zbb {ops:Array Oper} {rest:List Oper} {o:Oper} {a:Act} {Q:Exit->Act->World->Prop} (hgd:o.guard=none) (sl x:Operand)
  (ho:o.op=.call { callee:=.builtin .append,args:=#[sl,x],argTypes:=#[28, 28] })
  (h:MTab w base v n k W) (hv:a.eval sl=v) {ad:Addr} {c:Nat} {r:Value} {y:Nat->Nat} (hx:a.eval x=.slice (some ad) 1 c)
  (hcell:w.cell? (ad.add 0)=some r) (h1:r.oneCell'=true) (hrow:Own w base 3 1 r k (fun j _=>.int .i64 (y j:Nat))) (hbase:base<=w.heap.size) (hN:n<=1048576)
  (K:∀ v' w',MTab w' base v' (n+1) k (fun u=>if u=n then y else W u)->w.grownBy w' v.ownBlock->(∀ q,v.ownBlock=some q->base<=q)->wpList Try.prog ops Q rest (a.put o.dst v') w'):wpList Try.prog ops Q (o :: rest) a w:=by
 obtain ⟨R,hA,hB⟩:=h
 obtain ⟨i0,qi0,qz0,qz1,qz2⟩:=info_parts Try.infoInts
 have hown:Own w base 22 1 v n (fun i _=>if i=n then r else R i):=hA.congr fun i hi _ _=>by rw [if_neg (by omega)]
 refine zau w hgd sl x _ ho base 22 i0 _ 1 24 Try.underlying28 qi0 qz0 qz1 qz2 rfl (by omega) v n _ hv hown ad c hx (fun j hj=>by
   obtain rfl:j=0:=by omega
   rw [if_pos rfl]
   exact hcell) (fun _ _=>by rw [if_pos rfl]; exact h1) (by unfold maxLen; omega) (by omega) hbase ?_
 intro v' w3 hown3 hg3 _
 have ne:(22 : Nat) ≠ 3 := by decide
 refine K v' w3 ⟨fun i=>if i=n then r else R i,hown3,fun i hi=>?_⟩ hg3 (fun q e=>(hA.lt q e).1)
 show Own w3 base _ 1 (if i=n then r else R i) k _
 by_cases e:i=n
 ·rw [if_pos e]
  simp only [if_pos e]
  exact hrow.kept hg3 (zbu hA hrow ne)
 ·rw [if_neg e]
  simp only [if_neg e]
  exact (hB i (by omega)).kept hg3 (zbu hA (hB i (by omega)) ne)
end
theorem tbox2 {w:World} {v:Value} {t:TypeId}:(w.alloc (Obj.cells #[v] t)).cell? ((⟨w.heap.size,0,none⟩:Addr).add 0)=some v:=by
 show (w.alloc (Obj.cells #[v] t)).cell? ⟨w.heap.size,0,none⟩=some v
 simp
def MRows (w:World) (T:Option Addr) (n k:Nat) (W:Nat->Nat->Nat):Prop:=IntRows w T n (fun _=>k) (fun i j=>(W i j:Nat))
theorem zaJ {w:World} {b n base:Nat} {t:TypeId} {F:Nat->Value} (h:w.rowIs b t n F) (hb:base<=b) (hn:n<=maxLen):Own w base t 1 (.slice (some ⟨b,0,none⟩) n n) n (fun i _=>F i):=by
 obtain ⟨cs,h1,h2,h3⟩:=h
 refine .inr ⟨b,0,n,cs,rfl,hb,h1,Nat.le_refl _,hn,by omega,fun i hi j hj=>?_⟩
 obtain rfl:j=0:=by omega
 have h4:=h3 i hi
 rw [show 0+i*1+0=i by omega]
 rw [h4]
def MTabX (w:World) (base:Nat) (v:Value) (n k:Nat) (W:Nat->Nat->Nat) (z:Value):Prop :=
 ∃ R:Nat->Value,Own w base 22 1 v n (fun i _=>R i)/\∀ i,i<n->Own w base 3 1 (R i) k (fun j _=>.int .i64 (W i j:Nat))/\((R i).ownBlock=none∨(R i).ownBlock≠z.ownBlock)
section
variable {w w':World} {base n k:Nat} {v z:Value} {W W':Nat->Nat->Nat}
theorem MTabX.congr (h:MTabX w base v n k W z) (e:∀ i,i<n->∀ j,j<k->W i j=W' i j):MTabX w base v n k W' z:=by
 obtain ⟨R,h1,h2⟩:=h
 exact ⟨R,h1,fun i hi=>⟨(h2 i hi).1.congr fun j hj _ _=>by rw [e i hi j hj],(h2 i hi).2⟩⟩
theorem MTabX.row {A:Option Addr} {N c i:Nat} (h:MTabX w base (.slice A N c) n k W z) (hi:i<n):∃ b o RA rc,A=some ⟨b,o,none⟩/\base<=b/\b<w.heap.size/\w.cell? ⟨b,o+i,none⟩=some (.slice RA k rc)/\w.frozen? ⟨b,o+i,none⟩=false /\
  Own w base 3 1 (.slice RA k rc) k (fun j _=>.int .i64 (W i j:Nat))/\((Value.slice RA k rc).ownBlock=none∨(Value.slice RA k rc).ownBlock≠z.ownBlock):=by
 obtain ⟨R,h1,h2⟩:=h
 obtain ⟨A1,c1,e1⟩:=h1.shape
 injection e1 with e1 e2 e3
 subst e1 e2 e3
 obtain ⟨g,o,cap,e,hb1,hb2,_,_,hc⟩:=h1.form (by omega)
 injection e with e e3 e4
 subst e e4
 have g1:=hc i hi 0 (by omega)
 rw [Nat.mul_one,Nat.add_zero] at g1
 have hr:=h2 i hi
 obtain ⟨RA,rc,hR⟩:=hr.1.shape
 rw [hR] at hr
 exact ⟨g,o,RA,rc,rfl,hb1,hb2,by rw [g1,<-hR],h1.frozen _,hr.1,hr.2⟩
theorem MTabX.keep {b o c i m:Nat} {r u:Value} {f:Nat->Nat->Value} (h:MTabX w base (.slice (some ⟨b,o,none⟩) n c) n k W z) (hu:Own w base 3 1 u m f):Own (w.setCell ⟨b,o+i,none⟩ r) base 3 1 u m f:=by
 obtain ⟨R,h1,_⟩:=h
 refine hu.setCell (fun e=>?_) r
 rcases zbu h1 hu (by decide) with h3 | h3
 ·rw [h3] at e; cases e
 ·exact h3 (by rw [e]; rfl)
theorem MTabX.set {b o c i:Nat} {r:Value} {x:Nat->Nat} (h:MTabX w base (.slice (some ⟨b,o,none⟩) n c) n k W z) (hi:i<n) (hr:Own w base 3 1 r k (fun j _=>.int .i64 (x j:Nat))) (hz:r.ownBlock=none∨r.ownBlock≠z.ownBlock) :
  MTabX (w.setCell ⟨b,o+i,none⟩ r) base (.slice (some ⟨b,o,none⟩) n c) n k (fun u=>if u=i then x else W u) z:=by
 have hk:=h
 obtain ⟨R,h1,h2⟩:=h
 have hs:=h1.set hi (by omega:0<1) r
 rw [Nat.mul_one,Nat.add_zero] at hs
 refine ⟨fun u=>if u=i then r else R u,hs.congr fun u _ q hq=>?_,fun u hu=>⟨?_,?_⟩⟩
 ·show (if u=i/\q=0 then r else R u)=if u=i then r else R u
  by_cases e:u=i
  ·rw [if_pos ⟨e,by omega⟩,if_pos e]
  ·rw [if_neg (fun h=>e h.1),if_neg e]
 ·show Own _ base _ 1 (if u=i then r else R u) k _
  by_cases e:u=i
  ·rw [if_pos e]
   simp only [if_pos e]
   exact hk.keep hr
  ·rw [if_neg e]
   simp only [if_neg e]
   exact hk.keep (h2 u hu).1
 ·show (if u=i then r else R u).ownBlock=none∨(if u=i then r else R u).ownBlock≠z.ownBlock
  split
  ·exact hz
  ·exact (h2 u hu).2
end
theorem zaH {w:World} {ops:Array Oper} {rest:List Oper} {o:Oper} {a:Act} {Q:Exit->Act->World->Prop} (hgd:o.guard=none) (sl x:Operand)
  (ho:o.op=.call { callee:=.builtin .append,args:=#[sl,x],argTypes:=#[22, 22] })
  {base n:Nat} {v:Value} {p:Nat->Nat} (h:Own w base 3 1 v n (fun j _=>.int .i64 (p j:Nat))) (hv:a.eval sl=v) {ad:Addr} {c:Nat} {r:Nat} (hx:a.eval x=.slice (some ad) 1 c)
  (hcell:w.cell? (ad.add 0)=some (.int .i64 (r:Nat))) (hbase:base<=w.heap.size) (hN:n<=1048576)
  (K:∀ v' w',Own w' base 3 1 v' (n+1) (fun j _=>.int .i64 ((if j=n then r else p j:Nat):Nat))->w.grownBy w' v.ownBlock->(v'.ownBlock=v.ownBlock∨v'.ownBlock=some w.heap.size)->wpList Try.prog ops Q rest (a.put o.dst v') w'):wpList Try.prog ops Q (o :: rest) a w:=by
 obtain ⟨i0,qi0,qz0,qz1,qz2⟩:=info_parts Try.infoInt
 refine zau w hgd sl x _ ho base 3 i0 _ 1 8 Try.underlying22 qi0 qz0 qz1 qz2 rfl (by omega) v n _ hv (h.congr fun i hi j _=>by rw [if_neg (by omega)]) ad c hx (fun j hj=>by
   obtain rfl:j=0:=by omega
   rw [if_pos rfl]
   exact hcell) (fun _ _=>rfl) (by unfold maxLen; omega) (by omega) hbase K
structure Fie (K:Type) [Add K] [Mul K] [Neg K] [Zero K] [One K]:Prop where
 addA:∀ x y z:K,x+y+z=x+(y+z)
 addC:∀ x y:K,x+y=y+x
 zeroA:∀ x:K,0+x=x
 negA:∀ x:K,-x+x=0
 mulA:∀ x y z:K,x*y*z=x*(y*z)
 mulC:∀ x y:K,x*y=y*x
 oneM:∀ x:K,1*x=x
 dist:∀ x y z:K,x*(y+z)=x*y+x*z
 inv:∀ x:K,x≠0->∃ y,x*y=1
 ne:(1:K)≠0
namespace Fie
variable {K:Type} [Add K] [Mul K] [Neg K] [Zero K] [One K] (F:Fie K)
include F
theorem addZ (x:K):x+0=x:=by rw [F.addC,F.zeroA]
theorem addN (x:K):x + -x=0:=by rw [F.addC,F.negA]
theorem cancel {x y z:K} (h:x+y=x+z):y=z:=by
 have : -x+(x+y) = -x+(x+z):=by rw [h]
 rwa [<-F.addA,<-F.addA,F.negA,F.zeroA,F.zeroA] at this
theorem mulZ (x:K):x*0=0:=F.cancel (x:=x*0) (by rw [<-F.dist,F.zeroA,F.addZ])
theorem zMul (x:K):0*x=0:=by rw [F.mulC,F.mulZ]
theorem distR (x y z:K):(x+y)*z=x*z+y*z:=by rw [F.mulC,F.dist,F.mulC z,F.mulC z]
theorem mulOne (x:K):x*1=x:=by rw [F.mulC,F.oneM]
theorem negOf {x y:K} (h:x+y=0):y = -x:=F.cancel (x:=x) (by rw [h,F.addN])
theorem mulNeg (x y:K):x * -y = -(x*y):=F.negOf (by rw [<-F.dist,F.addN,F.mulZ])
theorem negMul (x y:K) : -x*y = -(x*y):=by rw [F.mulC,F.mulNeg,F.mulC]
theorem negNeg (x:K) : - -x=x:=(F.negOf (F.negA x)).symm
theorem subEq {x y:K} (h:x + -y=0):x=y:=by
 have:=F.negOf h
 rw [<-F.negNeg y,this,F.negNeg]
theorem addL (x y z:K):x+(y+z)=y+(x+z):=by rw [<-F.addA,F.addC x,F.addA]
theorem mulL (x y z:K):x*(y*z)=y*(x*z):=by rw [<-F.mulA,F.mulC x,F.mulA]
theorem zeroOr {x y:K} (h:x*y=0) (hx:x≠0):y=0:=by
 obtain ⟨z,hz⟩:=F.inv x hx
 have:z*(x*y)=y:=by rw [<-F.mulA,F.mulC z,hz,F.oneM]
 rw [<-this,h,F.mulZ]
end Fie
def addW {K:Type} [Add K] (x y:List K):List K:=List.zipWith (·+·) x y
def smulW {K:Type} [Mul K] (a:K) (x:List K):List K:=x.map (a*·)
theorem zb0 {K:Type} [Mul K] (c:K) (x:List K):(smulW c x).length=x.length:=by simp [smulW]
theorem zdw {K:Type} [Add K] {x y:List K} (h:x.length=y.length):(addW x y).length=x.length:=by simp [addW]; omega
section
variable {K:Type} [Add K] [Mul K] [Neg K] [Zero K] [One K]
variable (F:Fie K)
include F
theorem zeI (c:K):∀ x y:List K,x.length=y.length->addW (addW x (smulW c y)) (smulW (-c) y)=x:=by
 intro x
 induction x with
 | nil=>intro y _; cases y <;> rfl
 | cons a x ih =>
  intro y h
  cases y with
  | nil=>simp at h
  | cons b y =>
   show (a+c*b + -c*b) :: addW (addW x (smulW c y)) (smulW (-c) y)=a :: x
   rw [ih y (by simpa using h),F.addA,F.negMul,F.addN,F.addZ]
end
section
variable {K:Type} [Add K] [Mul K] [Neg K] [Zero K] [One K]
inductive Gen (k n:Nat) (r:Nat->List K):List K->Prop
 | zero:Gen k n r (List.replicate k 0)
 | row (i:Nat) (hi:i<n):Gen k n r (r i)
 | add {x y:List K}:Gen k n r x->Gen k n r y->Gen k n r (addW x y)
 | smul (a:K) {x:List K}:Gen k n r x->Gen k n r (smulW a x)
end
theorem Gen.sub {K:Type} [Add K] [Mul K] [Zero K] {k n n':Nat} {r r':Nat->List K} (h:∀ i,i<n->Gen k n' r' (r i)):∀ x,Gen k n r x->Gen k n' r' x:=by
 intro x hx
 induction hx with
 | zero=>exact .zero
 | row i hi=>exact h i hi
 | add _ _ h1 h2=>exact .add h1 h2
 | smul a _ h=>exact .smul a h
theorem Gen.congr {K:Type} [Add K] [Mul K] [Zero K] {k n:Nat} {r r':Nat->List K} (h:∀ i,i<n->r i=r' i) (x:List K):Gen k n r x↔Gen k n r' x :=
 ⟨Gen.sub (fun i hi=>by rw [h i hi]; exact .row i hi) x,Gen.sub (fun i hi=>by rw [<-h i hi]; exact .row i hi) x⟩
theorem Gen.swap {K:Type} [Add K] [Mul K] [Zero K] {k n i j:Nat} {r:Nat->List K} (hi:i<n) (hj:j<n) (x:List K):Gen k n (fun t=>if t=i then r j else if t=j then r i else r t) x↔Gen k n r x:=by
 constructor
 ·refine Gen.sub (fun t ht=>?_) x
  show Gen k n r (if t=i then r j else if t=j then r i else r t)
  split
  ·exact .row j hj
  ·split
   ·exact .row i hi
   ·exact .row t ht
 ·refine Gen.sub (fun t ht=>?_) x
  have key:∀ u,u<n->Gen k n (fun t=>if t=i then r j else if t=j then r i else r t) (if u=i then r j else if u=j then r i else r u):=fun u hu=>.row u hu
  by_cases e1:t=i
  ·subst e1
   have:=key j hj
   by_cases e2:j=t
   ·subst e2; simpa using this
   ·rwa [if_neg e2,if_pos rfl] at this
  ·by_cases e2:t=j
   ·subst e2
    have:=key i hi
    rwa [if_pos rfl] at this
   ·have:=key t ht
    rwa [if_neg e1,if_neg e2] at this
section
variable {K:Type} [Add K] [Mul K] [Neg K] [Zero K] [One K] (F:Fie K)
include F
theorem zec (a b:K) (x:List K):smulW a (smulW b x)=smulW (a*b) x:=by
 unfold smulW
 rw [List.map_map]
 exact List.map_congr_left fun c _=>(F.mulA a b c).symm
theorem zeJ (x:List K):smulW (1:K) x=x:=by
 induction x with
 | nil=>rfl
 | cons a x ih=>show 1*a :: smulW 1 x=a :: x; rw [F.oneM,ih]
theorem Gen.scale {k n i:Nat} {r:Nat->List K} {c:K} (hc:c≠0) (hi:i<n) (x:List K):Gen k n (fun t=>if t=i then smulW c (r i) else r t) x↔Gen k n r x:=by
 constructor
 ·refine Gen.sub (fun t ht=>?_) x
  show Gen k n r (if t=i then smulW c (r i) else r t)
  split
  ·exact .smul c (.row i hi)
  ·exact .row t ht
 ·refine Gen.sub (fun t ht=>?_) x
  have key:∀ u,u<n->Gen k n (fun t=>if t=i then smulW c (r i) else r t) (if u=i then smulW c (r i) else r u):=fun u hu=>.row u hu
  by_cases e:t=i
  ·subst e
   obtain ⟨d,hd⟩:=F.inv c hc
   have h1:=key t ht
   rw [if_pos rfl] at h1
   have h2:=Gen.smul d h1
   rwa [zec F,F.mulC,hd,zeJ F] at h2
  ·have:=key t ht
   rwa [if_neg e] at this
theorem Gen.addTo {k n i t:Nat} {r:Nat->List K} {a:K} (hi:i<n) (ht:t<n) (hit:t≠i) (hl:∀ u,u<n->(r u).length=k) (x:List K):Gen k n (fun u=>if u=i then addW (r i) (smulW a (r t)) else r u) x↔Gen k n r x:=by
 constructor
 ·refine Gen.sub (fun u hu=>?_) x
  show Gen k n r (if u=i then addW (r i) (smulW a (r t)) else r u)
  split
  ·exact .add (.row i hi) (.smul a (.row t ht))
  ·exact .row u hu
 ·refine Gen.sub (fun u hu=>?_) x
  have key:∀ u,u<n->Gen k n (fun u=>if u=i then addW (r i) (smulW a (r t)) else r u) (if u=i then addW (r i) (smulW a (r t)) else r u):=fun u hu=>.row u hu
  by_cases e:u=i
  ·subst e
   have h1:=key u hu
   rw [if_pos rfl] at h1
   have h2:=key t ht
   rw [if_neg hit] at h2
   have h3:=Gen.add h1 (.smul (-a) h2)
   rwa [zeI F a _ _ (by rw [hl u hu,hl t ht])] at h3
  ·have:=key u hu
   rwa [if_neg e] at this
end
structure EchN (q n k c a:Nat) (pv:Nat->Nat) (W:Nat->Nat->Nat):Prop where
 le:a<=n
 lt:∀ i,i<n->∀ j,j<k->W i j<q
 inc:∀ s t,s<t->t<a->pv s<pv t
 pvlt:∀ s,s<a->pv s<c
 one:∀ s,s<a->W s (pv s)=1
 zero:∀ s,s<a->∀ i,i<n->i≠s->W i (pv s)=0
 lead:∀ s,s<a->∀ j,j<pv s->W s j=0
 below:∀ i,a<=i->i<n->∀ j,j<c->W i j=0
section
variable {q n k c a:Nat} {pv:Nat->Nat} {W:Nat->Nat->Nat}
theorem EchN.start (h:∀ i,i<n->∀ j,j<k->W i j<q):EchN q n k 0 0 pv W :=
 ⟨Nat.zero_le _,h,fun _ _ _ h=>absurd h (by omega),fun _ h=>absurd h (by omega),fun _ h=>absurd h (by omega),fun _ h=>absurd h (by omega),fun _ h=>absurd h (by omega),fun _ _ _ _ h=>absurd h (by omega)⟩
theorem EchN.none (h:EchN q n k c a pv W) (hz:∀ i,a<=i->i<n->W i c=0):EchN q n k (c+1) a pv W :=
 ⟨h.le,h.lt,h.inc,fun s hs=>Nat.lt_succ_of_lt (h.pvlt s hs),h.one,h.zero,h.lead,fun i h1 h2 j hj=>by
  by_cases e:j=c
  ·subst e; exact hz i h1 h2
  ·exact h.below i h1 h2 j (by omega)⟩
theorem EchN.swap (h:EchN q n k c a pv W) {t:Nat} (h1:a<=t) (h2:t<n):EchN q n k c a pv (fun u=>if u=a then W t else if u=t then W a else W u):=by
 have ha:a<n:=by omega
 refine ⟨h.le,fun i hi j hj=>?_,h.inc,h.pvlt,fun s hs=>?_,fun s hs i hi hne=>?_,fun s hs j hj=>?_,fun i hi1 hi2 j hj=>?_⟩
 ·show (if i=a then W t else if i=t then W a else W i) j<q
  split
  ·exact h.lt t h2 j hj
  ·split
   ·exact h.lt a ha j hj
   ·exact h.lt i hi j hj
 ·show (if s=a then W t else if s=t then W a else W s) (pv s)=1
  rw [if_neg (by omega),if_neg (by omega)]
  exact h.one s hs
 ·show (if i=a then W t else if i=t then W a else W i) (pv s)=0
  split
  ·exact h.zero s hs t h2 (by omega)
  ·split
   ·exact h.zero s hs a ha (by omega)
   ·exact h.zero s hs i hi hne
 ·show (if s=a then W t else if s=t then W a else W s) j=0
  rw [if_neg (by omega),if_neg (by omega)]
  exact h.lead s hs j hj
 ·show (if i=a then W t else if i=t then W a else W i) j=0
  split
  ·exact h.below t h1 h2 j hj
  ·split
   ·exact h.below a (Nat.le_refl _) ha j hj
   ·exact h.below i hi1 hi2 j hj
variable {add mul:Nat->Nat->Nat}
theorem FieldLaws.addZero (h:FieldLaws q add mul) {x:Nat} (hx:x<q):add x 0=x:=by rw [h.addComm,h.zeroAdd x hx]
theorem FieldLaws.mulZero (h:FieldLaws q add mul) {x:Nat} (hx:x<q):mul x 0=0:=by
 have h2:=h.two
 have hz:=h.mulLt x 0
 have e:=h.distrib x 0 0 hx (by omega) (by omega)
 rw [h.zeroAdd 0 (by omega)] at e
 obtain ⟨y,hy,e1⟩:=h.neg _ hz
 have e2:=h.addAssoc _ _ _ hz hz hy
 rw [<-e,e1,h.addZero hz] at e2
 exact e2.symm
theorem FieldLaws.mulOne (h:FieldLaws q add mul) {x:Nat} (hx:x<q):mul x 1=x:=by
 have:=h.two
 rw [h.mulComm x 1 hx (by omega),h.oneMul x hx]
structure EchP (q n k c a i:Nat) (pv:Nat->Nat) (W:Nat->Nat->Nat):Prop where
 ech:EchN q n k c a pv W
 lt:a<n
 piv:W a c=1
 clr:∀ t,t<i->t<n->t≠a->W t c=0
theorem EchN.scale (h:EchN q n k c a pv W) (hF:FieldLaws q add mul) (ha:a<n) {d:Nat} (hd:d<q) (h1:mul d (W a c)=1):EchP q n k c a 0 pv (fun u=>if u=a then fun j=>mul d (W a j) else W u):=by
 refine ⟨⟨h.le,fun i hi j hj=>?_,h.inc,h.pvlt,fun s hs=>?_,fun s hs i hi hne=>?_,fun s hs j hj=>?_,fun i hi1 hi2 j hj=>?_⟩,ha,?_,fun t ht=>absurd ht (by omega)⟩
 ·show (if i=a then fun j=>mul d (W a j) else W i) j<q
  split
  ·exact hF.mulLt _ _
  ·exact h.lt i hi j hj
 ·show (if s=a then fun j=>mul d (W a j) else W s) (pv s)=1
  rw [if_neg (by omega)]
  exact h.one s hs
 ·show (if i=a then fun j=>mul d (W a j) else W i) (pv s)=0
  split
  ·show mul d (W a (pv s))=0
   rw [h.zero s hs a ha (by omega),hF.mulZero hd]
  ·exact h.zero s hs i hi hne
 ·show (if s=a then fun j=>mul d (W a j) else W s) j=0
  rw [if_neg (by omega)]
  exact h.lead s hs j hj
 ·show (if i=a then fun j=>mul d (W a j) else W i) j=0
  split
  ·show mul d (W a j)=0
   rw [h.below a (Nat.le_refl _) ha j hj,hF.mulZero hd]
  ·exact h.below i hi1 hi2 j hj
 ·show (if a=a then fun j=>mul d (W a j) else W a) c=1
  rw [if_pos rfl]
  exact h1
theorem EchN.one_piv (h:EchN q n k c a pv W) (ha:a<n) (h1:W a c=1):EchP q n k c a 0 pv W:=⟨h,ha,h1,fun t ht=>absurd ht (by omega)⟩
theorem EchP.skip {i:Nat} (h:EchP q n k c a i pv W) (hi:i=a∨W i c=0):EchP q n k c a (i+1) pv W :=
 ⟨h.ech,h.lt,h.piv,fun t ht htn hne=>by
  by_cases e:t=i
  ·subst e
   rcases hi with hi | hi
   ·exact absurd hi hne
   ·exact hi
  ·exact h.clr t (by omega) htn hne⟩
theorem EchP.clear {i:Nat} (h:EchP q n k c a i pv W) (hF:FieldLaws q add mul) (hck:c<k) (hi:i<n) (hia:i≠a) {e:Nat} (he:e<q) (h0:add (W i c) e=0):EchP q n k c a (i+1) pv (fun u=>if u=i then fun j=>add (W i j) (mul e (W a j)) else W u):=by
 have hE:=h.ech
 have ha:=h.lt
 have hq:=hF.two
 have hlow:∀ j,j<k->W a j=0->add (W i j) (mul e (W a j))=W i j:=fun j hj hz=>by
  rw [hz,hF.mulZero he,hF.addZero (hE.lt i hi j hj)]
 have hpk:∀ s,s<a->pv s<k:=fun s hs=>by have:=hE.pvlt s hs; omega
 refine ⟨⟨hE.le,fun t ht j hj=>?_,hE.inc,hE.pvlt,fun s hs=>?_,fun s hs t ht hne=>?_,fun s hs j hj=>?_,fun t ht1 ht2 j hj=>?_⟩,ha,?_,fun t ht htn hne=>?_⟩
 ·show (if t=i then fun j=>add (W i j) (mul e (W a j)) else W t) j<q
  split
  ·exact hF.addLt _ _
  ·exact hE.lt t ht j hj
 ·show (if s=i then fun j=>add (W i j) (mul e (W a j)) else W s) (pv s)=1
  split
  ·rename_i hsi
   subst hsi
   show add (W s (pv s)) (mul e (W a (pv s)))=1
   rw [hlow _ (hpk s hs) (hE.zero s hs a ha (by omega))]
   exact hE.one s hs
  ·exact hE.one s hs
 ·show (if t=i then fun j=>add (W i j) (mul e (W a j)) else W t) (pv s)=0
  split
  ·rename_i hti
   subst hti
   show add (W t (pv s)) (mul e (W a (pv s)))=0
   rw [hlow _ (hpk s hs) (hE.zero s hs a ha (by omega))]
   exact hE.zero s hs t ht hne
  ·exact hE.zero s hs t ht hne
 ·show (if s=i then fun j=>add (W i j) (mul e (W a j)) else W s) j=0
  have hjc:j<c:=by have:=hE.pvlt s hs; omega
  split
  ·rename_i hsi
   subst hsi
   show add (W s j) (mul e (W a j))=0
   rw [hlow j (by omega) (hE.below a (Nat.le_refl _) ha j hjc)]
   exact hE.lead s hs j hj
  ·exact hE.lead s hs j hj
 ·show (if t=i then fun j=>add (W i j) (mul e (W a j)) else W t) j=0
  split
  ·rename_i hti
   subst hti
   show add (W t j) (mul e (W a j))=0
   rw [hlow j (by omega) (hE.below a (Nat.le_refl _) ha j hj)]
   exact hE.below t ht1 ht2 j hj
  ·exact hE.below t ht1 ht2 j hj
 ·show (if a=i then fun j=>add (W i j) (mul e (W a j)) else W a) c=1
  rw [if_neg (fun e=>hia e.symm)]
  exact h.piv
 ·show (if t=i then fun j=>add (W i j) (mul e (W a j)) else W t) c=0
  split
  ·show add (W i c) (mul e (W a c))=0
   rw [h.piv,hF.mulOne he,h0]
  ·exact h.clr t (by omega) htn hne
theorem EchP.done (h:EchP q n k c a n pv W):EchN q n k (c+1) (a+1) (fun s=>if s=a then c else pv s) W:=by
 have hE:=h.ech
 have ha:=h.lt
 refine ⟨by omega,hE.lt,fun s t hst ht=>?_,fun s hs=>?_,fun s hs=>?_,fun s hs i hi hne=>?_,fun s hs j hj=>?_,fun i hi1 hi2 j hj=>?_⟩
 ·show (if s=a then c else pv s)<if t=a then c else pv t
  rw [if_neg (by omega)]
  split
  ·exact hE.pvlt s (by omega)
  ·exact hE.inc s t hst (by omega)
 ·show (if s=a then c else pv s)<c+1
  split
  ·omega
  ·have:=hE.pvlt s (by omega); omega
 ·show W s (if s=a then c else pv s)=1
  by_cases e:s=a
  ·subst e; rw [if_pos rfl]; exact h.piv
  ·rw [if_neg e]; exact hE.one s (by omega)
 ·show W i (if s=a then c else pv s)=0
  by_cases e:s=a
  ·subst e; rw [if_pos rfl]; exact h.clr i hi hi hne
  ·rw [if_neg e]; exact hE.zero s (by omega) i hi hne
 ·have hj:j<if s=a then c else pv s:=hj
  by_cases e:s=a
  ·subst e
   rw [if_pos rfl] at hj
   exact hE.below s (Nat.le_refl _) ha j hj
  ·rw [if_neg e] at hj
   exact hE.lead s (by omega) j hj
 ·by_cases e:j=c
  ·subst e; exact h.clr i hi2 hi2 (by omega)
  ·exact hE.below i (by omega) hi2 j (by omega)
end
inductive RowOps (q:Nat) (add mul:Nat->Nat->Nat) (n k:Nat) (V:Nat->Nat->Nat):(Nat->Nat->Nat)->Prop
 | refl:RowOps q add mul n k V V
 | swap {W:Nat->Nat->Nat} (h:RowOps q add mul n k V W) {a t:Nat} (ha:a<n) (ht:t<n):RowOps q add mul n k V (fun u=>if u=a then W t else if u=t then W a else W u)
 | scale {W:Nat->Nat->Nat} (h:RowOps q add mul n k V W) {a d:Nat} (ha:a<n) (hd:d<q) (hd0:d≠0):RowOps q add mul n k V (fun u=>if u=a then fun j=>mul d (W a j) else W u)
 | add {W:Nat->Nat->Nat} (h:RowOps q add mul n k V W) {i a e:Nat} (hi:i<n) (ha:a<n) (hne:i≠a) (he:e<q):RowOps q add mul n k V (fun u=>if u=i then fun j=>add (W i j) (mul e (W a j)) else W u)
 | eq {W W':Nat->Nat->Nat} (h:RowOps q add mul n k V W) (e:∀ i,i<n->∀ j,j<k->W i j=W' i j):RowOps q add mul n k V W'
theorem EchN.congr {q n k c a:Nat} {pv:Nat->Nat} {W W':Nat->Nat->Nat} (h:EchN q n k c a pv W) (hck:c<=k) (e:∀ i,i<n->∀ j,j<k->W i j=W' i j):EchN q n k c a pv W':=by
 have hp:∀ s,s<a->pv s<k:=fun s hs=>by have:=h.pvlt s hs; omega
 have hle:=h.le
 refine ⟨h.le,fun i hi j hj=>by rw [<-e i hi j hj]; exact h.lt i hi j hj,h.inc,h.pvlt,fun s hs=>by rw [<-e s (by omega) _ (hp s hs)]; exact h.one s hs,fun s hs i hi hne=>by rw [<-e i hi _ (hp s hs)]; exact h.zero s hs i hi hne,fun s hs j hj=>by rw [<-e s (by omega) j (by have:=hp s hs; omega)]; exact h.lead s hs j hj,fun i h1 h2 j hj=>by rw [<-e i h2 j (by omega)]; exact h.below i h1 h2 j hj⟩
structure El (q:Nat) where
 val:Nat
 lt:val<q
theorem El.ext' {q:Nat} {x y:El q} (h:x.val=y.val):x=y:=by
 cases x; cases y
 simp only at h
 subst h
 rfl
theorem zeK {q:Nat} {add mul:Nat->Nat->Nat} (h:FieldLaws q add mul):∃ (_:Add (El q)) (_:Mul (El q)) (_:Neg (El q)) (_:Zero (El q)) (_:One (El q)),
  Fie (El q)/\(∀ x y:El q,(x+y).val=add x.val y.val)/\(∀ x y:El q,(x*y).val=mul x.val y.val)/\(0:El q).val=0/\(1:El q).val=1:=by
 have hn:∀ x:El q,∃ y:El q,add x.val y.val=0:=fun x=>by
  obtain ⟨y,hy,e⟩:=h.neg x.val x.lt
  exact ⟨⟨y,hy⟩,e⟩
 obtain ⟨ng,hng⟩:=Classical.axiomOfChoice hn
 have h2:=h.two
 let iA:Add (El q):=⟨fun x y=>⟨add x.val y.val,h.addLt _ _⟩⟩
 let iM:Mul (El q):=⟨fun x y=>⟨mul x.val y.val,h.mulLt _ _⟩⟩
 let iN:Neg (El q):=⟨ng⟩
 let i0:Zero (El q):=⟨⟨0,by omega⟩⟩
 let i1:One (El q):=⟨⟨1,by omega⟩⟩
 refine ⟨iA,iM,iN,i0,i1,?_,fun _ _=>rfl,fun _ _=>rfl,rfl,rfl⟩
 refine ⟨fun x y z=>El.ext' ?_,fun x y=>El.ext' ?_,fun x=>El.ext' ?_,fun x=>El.ext' ?_,fun x y z=>El.ext' ?_,fun x y=>El.ext' ?_,fun x=>El.ext' ?_,fun x y z=>El.ext' ?_,fun x hx=>?_,fun he=>?_⟩
 ·exact h.addAssoc _ _ _ x.lt y.lt z.lt
 ·exact h.addComm _ _
 ·exact h.zeroAdd _ x.lt
 ·show add (ng x).val x.val=0
  rw [h.addComm]; exact hng x
 ·exact h.mulAssoc _ _ _ x.lt y.lt z.lt
 ·exact h.mulComm _ _ x.lt y.lt
 ·exact h.oneMul _ x.lt
 ·exact h.distrib _ _ _ x.lt y.lt z.lt
 ·obtain ⟨y,hy,e⟩:=h.inv x.val x.lt (fun e=>hx (El.ext' e))
  exact ⟨⟨y,hy⟩,El.ext' e⟩
 ·have:=congrArg El.val he
  have h1:(1:Nat)=0:=this
  omega
def toEl (q:Nat) (hq:0<q) (x:Nat):El q:=⟨x % q,Nat.mod_lt _ hq⟩
theorem zal {q x:Nat} (hq:0<q) (h:x<q):(toEl q hq x).val=x:=Nat.mod_eq_of_lt h
theorem zcB {q x y:Nat} (hq:0<q) (hx:x<q) (hy:y<q) (h:toEl q hq x=toEl q hq y):x=y:=by
 rw [<-zal hq hx,<-zal hq hy,h]
theorem zeL {q:Nat} (hq:0<q) (x:El q):∃ a,a<q/\toEl q hq a=x:=⟨x.val,x.lt,El.ext' (zal hq x.lt)⟩
def wordK (q:Nat) (hq:0<q) (k:Nat) (x:Nat->Nat):List (El q):=(List.range k).map fun j=>toEl q hq (x j)
theorem zb1 {q:Nat} (hq:0<q) (k:Nat) (x:Nat->Nat):(wordK q hq k x).length=k:=by simp [wordK]
theorem zdh {q:Nat} (hq:0<q) {k:Nat} {x y:Nat->Nat} (h:∀ j,j<k->x j=y j):wordK q hq k x=wordK q hq k y :=
 List.map_congr_left fun j hj=>by rw [h j (List.mem_range.1 hj)]
theorem zed {q:Nat} (hq:0<q) {add mul:Nat->Nat->Nat} [iA:Add (El q)] (hF:FieldLaws q add mul) (ha:∀ x y:El q,(x+y).val=add x.val y.val) {k:Nat} {x y:Nat->Nat} (hx:∀ j,j<k->x j<q) (hy:∀ j,j<k->y j<q) :
  wordK q hq k (fun j=>add (x j) (y j))=addW (wordK q hq k x) (wordK q hq k y):=by
 unfold wordK addW
 rw [List.zipWith_map,List.zipWith_self]
 refine List.map_congr_left fun j hj=>El.ext' ?_
 rw [List.mem_range] at hj;rw [ha,zal hq (hF.addLt _ _),zal hq (hx j hj),zal hq (hy j hj)]
theorem zcm {q:Nat} (hq:0<q) {add mul:Nat->Nat->Nat} [iM:Mul (El q)] (hF:FieldLaws q add mul) (hm:∀ x y:El q,(x*y).val=mul x.val y.val) {k d:Nat} {x:Nat->Nat} (hd:d<q) (hx:∀ j,j<k->x j<q) :
  wordK q hq k (fun j=>mul d (x j))=smulW (toEl q hq d) (wordK q hq k x):=by
 unfold wordK smulW
 rw [List.map_map]
 refine List.map_congr_left fun j hj=>El.ext' ?_
 rw [List.mem_range] at hj
 show (toEl q hq (mul d (x j))).val=(toEl q hq d*toEl q hq (x j)).val
 rw [hm,zal hq (hF.mulLt _ _),zal hq hd,zal hq (hx j hj)]
theorem RowOps.gen {q:Nat} (hq:0<q) {add mul:Nat->Nat->Nat} [iA:Add (El q)] [iM:Mul (El q)] [iN:Neg (El q)] [i0:Zero (El q)] [i1:One (El q)] (F:Fie (El q)) (hF:FieldLaws q add mul) (ha:∀ x y:El q,(x+y).val=add x.val y.val) (hm:∀ x y:El q,(x*y).val=mul x.val y.val) (h0:(0:El q).val=0) {n k:Nat} {V W:Nat->Nat->Nat}
  (hV:∀ i,i<n->∀ j,j<k->V i j<q) (h:RowOps q add mul n k V W):(∀ i,i<n->∀ j,j<k->W i j<q)/\∀ x,Gen k n (fun i=>wordK q hq k (W i)) x↔Gen k n (fun i=>wordK q hq k (V i)) x:=by
 induction h with
 | refl=>exact ⟨hV,fun _=>Iff.rfl⟩
 | @swap W h a t hx ht ih =>
  refine ⟨fun i hi j hj=>?_,fun x=>?_⟩
  ·show (if i=a then W t else if i=t then W a else W i) j<q
   split
   ·exact ih.1 t ht j hj
   ·split
    ·exact ih.1 a hx j hj
    ·exact ih.1 i hi j hj
  ·refine (Gen.congr (fun i _=>?_) x).trans ((Gen.swap hx ht x).trans (ih.2 x))
   show wordK q hq k (if i=a then W t else if i=t then W a else W i)=if i=a then wordK q hq k (W t) else if i=t then wordK q hq k (W a) else wordK q hq k (W i)
   split
   ·rfl
   ·split <;> rfl
 | @scale W h a d hx hd hd0 ih =>
  refine ⟨fun i hi j hj=>?_,fun x=>?_⟩
  ·show (if i=a then fun j=>mul d (W a j) else W i) j<q
   split
   ·exact hF.mulLt _ _
   ·exact ih.1 i hi j hj
  ·have hne:toEl q hq d≠0:=fun e=>hd0 (by
    have:=congrArg El.val e
    rwa [zal hq hd,h0] at this)
   refine (Gen.congr (fun i _=>?_) x).trans ((Gen.scale F hne hx x).trans (ih.2 x))
   show wordK q hq k (if i=a then fun j=>mul d (W a j) else W i)=if i=a then smulW (toEl q hq d) (wordK q hq k (W a)) else wordK q hq k (W i)
   split
   ·exact zcm hq hF hm hd (ih.1 a hx)
   ·rfl
 | @add W h i a e hi hx hne he ih =>
  refine ⟨fun u hu j hj=>?_,fun x=>?_⟩
  ·show (if u=i then fun j=>add (W i j) (mul e (W a j)) else W u) j<q
   split
   ·exact hF.addLt _ _
   ·exact ih.1 u hu j hj
  ·refine (Gen.congr (fun u _=>?_) x).trans ((Gen.addTo F (a:=toEl q hq e) hi hx (fun e=>hne e.symm) (fun u _=>zb1 hq k (W u)) x).trans (ih.2 x))
   show wordK q hq k (if u=i then fun j=>add (W i j) (mul e (W a j)) else W u)=if u=i then addW (wordK q hq k (W i)) (smulW (toEl q hq e) (wordK q hq k (W a))) else wordK q hq k (W u)
   split
   ·rw [zed hq hF ha (ih.1 i hi) (fun j _=>hF.mulLt _ _),zcm hq hF hm he (ih.1 a hx)]
   ·rfl
 | @eq W W' h e ih =>
  refine ⟨fun i hi j hj=>by rw [<-e i hi j hj]; exact ih.1 i hi j hj,fun x=>?_⟩
  rw [<-ih.2]
  exact Gen.congr (fun i hi=>zdh hq fun j hj=>(e i hi j hj).symm) x
def AllIn (q n:Nat) (f:Nat->Int):Prop:=∀ i,i<n->0<=f i/\f i<q
section
variable {K:Type}
def sumK [Add K] [Zero K]:Nat->(Nat->K)->K
 | 0,_=>0
 | n+1,f=>sumK n f+f n
def ent [Zero K] (x:List K) (j:Nat):K:=x.getD j 0
def wd (k:Nat) (f:Nat->K):List K:=(List.range k).map f
theorem zaQ [Add K] [Zero K] {n:Nat} {f g:Nat->K} (h:∀ i,i<n->f i=g i):sumK n f=sumK n g:=by
 induction n with
 | zero=>rfl
 | succ n ih=>show sumK n f+f n=sumK n g+g n; rw [ih fun i hi=>h i (by omega),h n (by omega)]
theorem zdi (k:Nat) (f:Nat->K):(wd k f).length=k:=by simp [wd]
theorem zbc [Zero K] {k j:Nat} {f:Nat->K} (hj:j<k):ent (wd k f) j=f j:=by
 unfold ent wd
 rw [List.getD_eq_getElem?_getD,List.getElem?_map,List.getElem?_range hj]
 rfl
theorem zcC [Zero K] {x:List K} {j:Nat} (hj:j<x.length):ent x j=x[j]:=by
 unfold ent
 rw [List.getD_eq_getElem?_getD,List.getElem?_eq_getElem hj]
 rfl
theorem zdx [Zero K] {k:Nat} {x y:List K} (hx:x.length=k) (hy:y.length=k) (h:∀ j,j<k->ent x j=ent y j):x=y:=by
 refine List.ext_getElem (by omega) fun j h1 h2=>?_
 rw [<-zcC h1,<-zcC h2]
 exact h j (by omega)
theorem zcW [Zero K] {k j:Nat}:ent (List.replicate k (0:K)) j=0:=by
 unfold ent
 by_cases h:j<k
 ·simp [List.getD_eq_getElem?_getD,h]
 ·simp [List.getD_eq_getElem?_getD,h]
theorem zcX [Add K] [Zero K] {k j:Nat} {x y:List K} (hx:x.length=k) (hy:y.length=k) (hj:j<k):ent (addW x y) j=ent x j+ent y j:=by
 have hl:j<(addW x y).length:=by unfold addW; rw [List.length_zipWith]; omega
 rw [zcC hl,zcC (by omega),zcC (by omega)]
 exact List.getElem_zipWith (f:=fun a b=>a+b)
theorem zb2 [Mul K] [Zero K] {k j:Nat} {a:K} {x:List K} (hx:x.length=k) (hj:j<k):ent (smulW a x) j=a*ent x j:=by
 have hl:j<(smulW a x).length:=by unfold smulW; rw [List.length_map]; omega
 rw [zcC hl,zcC (by omega)]
 exact List.getElem_map (fun b=>a*b)
end
section
variable {K:Type} [Add K] [Mul K] [Neg K] [Zero K] [One K]
variable (F:Fie K)
include F
theorem zbn {n:Nat} {f:Nat->K} (h:∀ i,i<n->f i=0):sumK n f=0:=by
 induction n with
 | zero=>rfl
 | succ n ih=>show sumK n f+f n=0; rw [ih fun i hi=>h i (by omega),h n (by omega),F.addZ]
theorem zcD {n t:Nat} {f:Nat->K} (ht:t<n) (h:∀ i,i<n->i≠t->f i=0):sumK n f=f t:=by
 induction n with
 | zero=>omega
 | succ n ih =>
  show sumK n f+f n=f t
  by_cases e:t=n
  ·subst e
   rw [zbn F fun i hi=>h i (by omega) (by omega),F.zeroA]
  ·rw [ih (by omega) fun i hi=>h i (by omega),h n (by omega) (by omega),F.addZ]
theorem zdy (n:Nat) (f g:Nat->K):sumK n (fun i=>f i+g i)=sumK n f+sumK n g:=by
 induction n with
 | zero=>exact (F.addZ 0).symm
 | succ n ih =>
  show sumK n (fun i=>f i+g i)+(f n+g n)=sumK n f+f n+(sumK n g+g n)
  rw [ih,F.addA,F.addA,F.addL (sumK n g)]
theorem zdz (c:K) (n:Nat) (f:Nat->K):sumK n (fun i=>c*f i)=c*sumK n f:=by
 induction n with
 | zero=>exact (F.mulZ c).symm
 | succ n ih =>
  show sumK n (fun i=>c*f i)+c*f n=c*(sumK n f+f n)
  rw [ih,F.dist]
end
section
variable {K:Type} [Add K] [Mul K] [Zero K]
def comb (k:Nat) (N:Nat->Nat->K) (c:Nat->K):Nat->List K
 | 0=>List.replicate k 0
 | f+1=>addW (comb k N c f) (smulW (c f) (wd k (N f)))
theorem zcE (k:Nat) (N:Nat->Nat->K) (c:Nat->K):∀ f,(comb k N c f).length=k:=by
 intro f
 induction f with
 | zero=>simp [comb]
 | succ f ih=>show (addW _ _).length=k; rw [zdw (by rw [ih,zb0,zdi]),ih]
theorem zeM (k:Nat) (N:Nat->Nat->K) (c:Nat->K) {n:Nat}:∀ f,f<=n->Gen k n (fun i=>wd k (N i)) (comb k N c f):=by
 intro f
 induction f with
 | zero=>exact fun _=>.zero
 | succ f ih=>exact fun h=>.add (ih (by omega)) (.smul _ (.row (r:=fun i=>wd k (N i)) f (by omega)))
theorem zbd {k j:Nat} (N:Nat->Nat->K) (c:Nat->K) (hj:j<k):∀ f,ent (comb k N c f) j=sumK f fun u=>c u*N u j:=by
 intro f
 induction f with
 | zero=>exact zcW
 | succ f ih =>
  show ent (addW _ _) j=sumK f _+_
  rw [zcX (zcE _ _ _ _) (by rw [zb0,zdi]) hj,ih,zb2 (zdi _ _) hj,zbc hj]
end
section
variable {K:Type} [Add K] [Mul K] [Neg K] [Zero K] [One K]
structure EchK (k a:Nat) (pv:Nat->Nat) (R:Nat->Nat->K):Prop where
 inc:∀ s t,s<t->t<a->pv s<pv t
 pvlt:∀ s,s<a->pv s<k
 one:∀ s,s<a->R s (pv s)=1
 zero:∀ s t,s<a->t<a->t≠s->R t (pv s)=0
 lead:∀ s,s<a->∀ j,j<pv s->R s j=0
variable (F:Fie K)
include F
theorem EchK.rep {k a:Nat} {pv:Nat->Nat} {R:Nat->Nat->K} (h:EchK k a pv R) {x:List K} (hx:Gen k a (fun i=>wd k (R i)) x) :
  x.length=k/\∀ j,j<k->ent x j=sumK a fun s=>ent x (pv s)*R s j:=by
 induction hx with
 | zero =>
  refine ⟨by simp,fun j _=>?_⟩
  rw [zcW,zbn F fun s _=>by rw [zcW,F.zMul]]
 | row i hi =>
  refine ⟨zdi _ _,fun j hj=>?_⟩
  rw [zbc hj,zcD F (t:=i) hi fun s hs hne=>by rw [zbc (h.pvlt s hs),h.zero s i hs hi (fun e=>hne e.symm),F.zMul]]
  rw [zbc (h.pvlt i hi),h.one i hi,F.oneM]
 | add h1 h2 i1 i2 =>
  refine ⟨by rw [zdw (by rw [i1.1,i2.1]),i1.1],fun j hj=>?_⟩
  rw [zcX i1.1 i2.1 hj,i1.2 j hj,i2.2 j hj,<-zdy F]
  exact zaQ fun s hs=>by rw [zcX i1.1 i2.1 (h.pvlt s hs),F.distR]
 | smul a h1 i1 =>
  refine ⟨by rw [zb0,i1.1],fun j hj=>?_⟩
  rw [zb2 i1.1 hj,i1.2 j hj,<-zdz F]
  exact zaQ fun s hs=>by rw [zb2 i1.1 (h.pvlt s hs),F.mulA]
theorem EchK.lead_pv {k a:Nat} {pv:Nat->Nat} {R:Nat->Nat->K} (h:EchK k a pv R) {x:List K} (hx:Gen k a (fun i=>wd k (R i)) x) {j:Nat} (hj:j<k) (h1:ent x j≠0) (h0:∀ i,i<j->ent x i=0):∃ s,s<a/\pv s=j:=by
 refine Classical.byContradiction fun hn=>h1 ?_
 rw [(h.rep F hx).2 j hj]
 refine zbn F fun s hs=>?_
 have hne:pv s≠j:=fun e=>hn ⟨s,hs,e⟩
 by_cases hlt:pv s<j
 ·rw [h0 _ hlt,F.zMul]
 ·rw [h.lead s hs j (by omega),F.mulZ]
end
theorem zfp {a a':Nat} {p p':Nat->Nat} (h:∀ s t,s<t->t<a->p s<p t) (h':∀ s t,s<t->t<a'->p' s<p' t) (h1:∀ s,s<a->∃ t,t<a'/\p' t=p s) (h2:∀ s,s<a'->∃ t,t<a/\p t=p' s):a=a'/\∀ s,s<a->p s=p' s:=by
 have key : ∀ s, (s < a → s < a' ∧ p' s = p s) ∧ (s < a' → s < a ∧ p' s = p s) := by
  intro s
  induction s using Nat.strongRecOn with
  | _ s ih =>
   have A:s<a->s<a'/\p' s=p s:=fun hs=>by
    obtain ⟨t,ht,e⟩:=h1 s hs
    rcases Nat.lt_trichotomy t s with hl | rfl | hl
    ·have:=(ih t hl).2 ht
     have:=h t s hl hs
     omega
    ·exact ⟨ht,e⟩
    ·have hsa:s<a':=by omega
     have hps:=h' s t hl ht
     obtain ⟨u,hu,e2⟩:=h2 s hsa
     rcases Nat.lt_trichotomy u s with hl2 | rfl | hl2
     ·have h3:=((ih u hl2).1 hu).2
      have:=h' u s hl2 hsa
      omega
     ·omega
     ·have:=h s u hl2 hu
      omega
   refine ⟨A,fun hs=>?_⟩
   obtain ⟨t,ht,e⟩:=h2 s hs
   rcases Nat.lt_trichotomy t s with hl | rfl | hl
   ·have h3:=(ih t hl).1 ht
    have:=h' t s hl hs
    omega
   ·exact ⟨ht,e.symm⟩
   ·have hsa:s<a:=by omega
    exact ⟨hsa,(A hsa).2⟩
 refine ⟨?_,fun s hs=>((key s).1 hs).2.symm⟩
 rcases Nat.lt_trichotomy a a' with hl | e | hl
 ·have:=((key a).2 hl).1; omega
 ·exact e
 ·have:=((key a').1 hl).1; omega
section
variable {K:Type} [Add K] [Mul K] [Neg K] [Zero K] [One K] (F:Fie K)
include F
theorem EchK.sub {k a a':Nat} {pv pv':Nat->Nat} {R R':Nat->Nat->K} (h:EchK k a pv R) (h':EchK k a' pv' R') (e:∀ x,Gen k a (fun i=>wd k (R i)) x->Gen k a' (fun i=>wd k (R' i)) x):∀ s,s<a->∃ t,t<a'/\pv' t=pv s:=fun s hs =>
 h'.lead_pv F (e _ (.row (r:=fun i=>wd k (R i)) s hs)) (h.pvlt s hs) (by
  show ent (wd k (R s)) (pv s)≠0
  rw [zbc (h.pvlt s hs),h.one s hs]
  exact F.ne) fun i hi=>by
  show ent (wd k (R s)) i=0
  rw [zbc (by have:=h.pvlt s hs; omega),h.lead s hs i hi]
theorem EchK.unique {k a a':Nat} {pv pv':Nat->Nat} {R R':Nat->Nat->K} (h:EchK k a pv R) (h':EchK k a' pv' R') (e:∀ x,Gen k a (fun i=>wd k (R i)) x↔Gen k a' (fun i=>wd k (R' i)) x) :
  a=a'/\(∀ s,s<a->pv s=pv' s)/\∀ s,s<a->∀ j,j<k->R s j=R' s j:=by
 obtain ⟨e1,e2⟩:=zfp h.inc h'.inc (h.sub F h' fun x hx=>(e x).1 hx) (h'.sub F h fun x hx=>(e x).2 hx)
 refine ⟨e1,e2,fun s hs j hj=>?_⟩
 subst e1
 have hx:=(e _).1 (.row (r:=fun i=>wd k (R i)) s hs)
 have hr:=(h'.rep F hx).2 j hj
 rw [zbc hj,zcD F hs fun t ht hne=>?_] at hr
 ·rw [<-e2 s hs,zbc (h.pvlt s hs),h.one s hs,F.oneM] at hr
  exact hr
 ·rw [<-e2 t ht,zbc (h.pvlt t ht),h.zero t s ht hs (fun e=>hne e.symm),F.zMul]
end
section
variable {K:Type} [Add K] [Mul K] [Neg K] [Zero K] [One K] (F:Fie K)
include F
theorem zdA {k n:Nat} {N:Nat->Nat->K} {x:List K} (h:Gen k n (fun i=>wd k (N i)) x):x.length=k/\∃ c:Nat->K,x=comb k N c n:=by
 have key:∀ {x:List K} {c:Nat->K},x.length=k->(∀ j,j<k->ent x j=sumK n fun u=>c u*N u j)->x=comb k N c n:=fun hl he =>
  zdx hl (zcE _ _ _ _) fun j hj=>by rw [he j hj,zbd _ _ hj]
 induction h with
 | zero=>exact ⟨by simp,fun _=>0,key (by simp) fun j _=>by rw [zcW,zbn F fun s _=>F.zMul _]⟩
 | row i hi =>
  refine ⟨zdi _ _,fun u=>if u=i then 1 else 0,key (zdi _ _) fun j hj=>?_⟩
  rw [zbc hj,zcD F (t:=i) hi fun s _ hne=>by rw [if_neg hne,F.zMul],if_pos rfl,F.oneM]
 | add h1 h2 i1 i2 =>
  obtain ⟨l1,c1,e1⟩:=i1
  obtain ⟨l2,c2,e2⟩:=i2
  have hl:=zdw (l1.trans l2.symm)
  rw [l1] at hl
  refine ⟨hl,fun u=>c1 u+c2 u,key hl fun j hj=>?_⟩
  rw [zcX l1 l2 hj,e1,e2,zbd _ _ hj,zbd _ _ hj,<-zdy F]
  exact zaQ fun s _=>(F.distR _ _ _).symm
 | smul a h1 i1 =>
  obtain ⟨l1,c1,e1⟩:=i1
  have hl:=zb0 a
  refine ⟨by rw [hl,l1],fun u=>a*c1 u,key (by rw [hl,l1]) fun j hj=>?_⟩
  rw [zb2 l1 hj,e1,zbd _ _ hj,<-zdz F]
  exact zaQ fun s _=>(F.mulA _ _ _).symm
end
def spE (add mul:Nat->Nat->Nat) (V:Nat->Nat->Nat) (c:Nat->Nat):Nat->Nat->Nat
 | 0,_=>0
 | t+1,j=>add (spE add mul V c t j) (mul (c t) (V t j))
def InSp (q:Nat) (add mul:Nat->Nat->Nat) (n k:Nat) (V:Nat->Nat->Nat) (x:Nat->Nat):Prop :=
 ∃ c:Nat->Nat,(∀ i,i<n->c i<q)/\∀ j,j<k->x j=spE add mul V c n j
def RrefN (q n k:Nat) (V:Nat->Nat->Nat):Prop:=∃ p,EchN q n k k n p V
def SameSp (q:Nat) (add mul:Nat->Nat->Nat) (k n n':Nat) (V V':Nat->Nat->Nat):Prop:=∀ x,InSp q add mul n k V x↔InSp q add mul n' k V' x
section
variable {q n k:Nat} {add mul:Nat->Nat->Nat} {V:Nat->Nat->Nat}
theorem zaR (h:FieldLaws q add mul) (c:Nat->Nat) (t j:Nat):spE add mul V c t j<q:=by
 cases t with
 | zero=>have:=h.two; show 0<q; omega
 | succ t=>exact h.addLt _ _
theorem zbo {V':Nat->Nat->Nat} {c c':Nat->Nat} {j:Nat}:∀ t,(∀ i,i<t->c i=c' i/\V i j=V' i j)->spE add mul V c t j=spE add mul V' c' t j
 | 0,_=>rfl
 | t+1,h=>by
  show add _ _=add _ _
  rw [zbo t fun i hi=>h i (by omega),(h t (by omega)).1,(h t (by omega)).2]
theorem InSp.lt (hL:FieldLaws q add mul) {x:Nat->Nat} (h:InSp q add mul n k V x) {j:Nat} (hj:j<k):x j<q:=by
 obtain ⟨c,_,h2⟩:=h
 rw [h2 j hj]
 exact zaR hL c n j
theorem InSp.congr {x y:Nat->Nat} (h:InSp q add mul n k V x) (e:∀ j,j<k->x j=y j):InSp q add mul n k V y:=by
 obtain ⟨c,h1,h2⟩:=h
 exact ⟨c,h1,fun j hj=>by rw [<-e j hj,h2 j hj]⟩
section
variable (hq:0<q)
theorem zdB [iA:Add (El q)] [iM:Mul (El q)] [i0:Zero (El q)] (h:FieldLaws q add mul) (ha:∀ x y:El q,(x+y).val=add x.val y.val) (hm:∀ x y:El q,(x*y).val=mul x.val y.val) (h0:(0:El q).val=0) {c:Nat->Nat} {j:Nat}:∀ t,(∀ i,i<t->c i<q)->(∀ i,i<t->V i j<q)->(sumK t fun u=>toEl q hq (c u)*toEl q hq (V u j))=toEl q hq (spE add mul V c t j)
 | 0,_,_=>El.ext' (by show (0:El q).val=(toEl q hq 0).val; rw [h0,zal hq hq])
 | t+1,hc,hv=>by
  have ih:=zdB h ha hm h0 (c:=c) (j:=j) t (fun i hi=>hc i (by omega)) (fun i hi=>hv i (by omega))
  refine El.ext' ?_
  show ((sumK t fun u=>toEl q hq (c u)*toEl q hq (V u j))+toEl q hq (c t)*toEl q hq (V t j)).val=(toEl q hq (add (spE add mul V c t j) (mul (c t) (V t j)))).val
  rw [ha,hm,ih,zal hq (zaR h c t j),zal hq (hc t (by omega)),zal hq (hv t (by omega)),zal hq (h.addLt _ _)]
theorem zcF (x:Nat->Nat):wordK q hq k x=wd k (fun j=>toEl q hq (x j)):=rfl
theorem zaS [iA:Add (El q)] [iM:Mul (El q)] [iN:Neg (El q)] [i0:Zero (El q)] [i1:One (El q)] (F:Fie (El q)) (h:FieldLaws q add mul) (ha:∀ x y:El q,(x+y).val=add x.val y.val) (hm:∀ x y:El q,(x*y).val=mul x.val y.val) (h0:(0:El q).val=0) (hV:∀ i,i<n->∀ j,j<k->V i j<q) {x:Nat->Nat} (hx:∀ j,j<k->x j<q) :
  InSp q add mul n k V x↔Gen k n (fun i=>wordK q hq k (V i)) (wordK q hq k x):=by
 constructor
 ·rintro ⟨c,h1,h2⟩
  have e:wordK q hq k x=comb k (fun i j=>toEl q hq (V i j)) (fun u=>toEl q hq (c u)) n:=zdx (zb1 hq k x) (zcE _ _ _ _) fun j hj=>by
   rw [zcF hq,zbc hj,zbd _ _ hj,zdB hq h ha hm h0 n h1 (fun i hi=>hV i hi j hj),h2 j hj]
  rw [e]
  exact zeM k (fun i j=>toEl q hq (V i j)) (fun u=>toEl q hq (c u)) n (Nat.le_refl _)
 ·intro hg
  obtain ⟨_,c,e⟩:=zdA F (N:=fun i j=>toEl q hq (V i j)) hg
  refine ⟨fun u=>(c u).val,fun i _=>(c i).lt,fun j hj=>?_⟩
  have e2:=congrArg (fun l=>ent l j) e
  rw [zcF hq,zbc hj,zbd _ _ hj] at e2
  have e3:(sumK n fun u=>c u*toEl q hq (V u j))=sumK n fun u=>toEl q hq (c u).val*toEl q hq (V u j):=zaQ fun u _=>by
   rw [show toEl q hq (c u).val=c u from El.ext' (zal hq (c u).lt)]
  rw [e3,zdB hq h ha hm h0 n (fun i _=>(c i).lt) (fun i hi=>hV i hi j hj)] at e2
  exact zcB hq (hx j hj) (zaR h _ n j) e2
theorem EchN.toK [i0:Zero (El q)] [i1:One (El q)] {a:Nat} {p:Nat->Nat} (h0:(0:El q).val=0) (h1:(1:El q).val=1) (h:EchN q n k k a p V):EchK k a p (fun i j=>toEl q hq (V i j)):=by
 have hle:=h.le
 refine ⟨h.inc,h.pvlt,fun s hs=>El.ext' ?_,fun s t hs ht hne=>El.ext' ?_,fun s hs j hj=>El.ext' ?_⟩
 ·rw [zal hq (h.lt s (by omega) _ (h.pvlt s hs)),h1,h.one s hs]
 ·rw [zal hq (h.lt t (by omega) _ (h.pvlt s hs)),h0,h.zero s hs t (by omega) hne]
 ·rw [zal hq (h.lt s (by omega) _ (Nat.lt_trans hj (h.pvlt s hs))),h0,h.lead s hs j hj]
end
theorem EchN.top {a:Nat} {p:Nat->Nat} (h:EchN q n k k a p V):EchN q a k k a p V :=
 ⟨Nat.le_refl _,fun i hi=>h.lt i (Nat.lt_of_lt_of_le hi h.le),h.inc,h.pvlt,h.one,fun s hs i hi=>h.zero s hs i (Nat.lt_of_lt_of_le hi h.le),h.lead,fun i h1 h2=>absurd h1 (by omega)⟩
theorem zdC (hL:FieldLaws q add mul) {c:Nat->Nat} {j a:Nat} (hz:∀ i,a<=i->i<n->V i j=0) (hc:∀ i,i<n->c i<q):∀ t,t<=n->a<=t->spE add mul V c t j=spE add mul V c a j:=by
 intro t
 induction t with
 | zero =>
  intro _ h
  obtain rfl:a=0:=by omega
  rfl
 | succ t ih =>
  intro h1 h2
  by_cases e:a=t+1
  ·rw [e]
  ·show add (spE add mul V c t j) (mul (c t) (V t j))=_
   rw [hz t (by omega) (by omega),hL.mulZero (hc t (by omega)),hL.addZero (zaR hL _ _ _),ih (by omega) (by omega)]
theorem EchN.sp_top (hL:FieldLaws q add mul) {a:Nat} {p:Nat->Nat} (h:EchN q n k k a p V):SameSp q add mul k n a V V:=by
 have hle:=h.le
 have hq:=hL.two
 intro x
 constructor
 ·rintro ⟨c,h1,h2⟩
  exact ⟨c,fun i hi=>h1 i (by omega),fun j hj=>by rw [h2 j hj,zdC hL (fun i a1 a2=>h.below i a1 a2 j hj) h1 n (Nat.le_refl _) hle]⟩
 ·rintro ⟨c,h1,h2⟩
  refine ⟨fun i=>if i<a then c i else 0,fun i hi=>?_,fun j hj=>?_⟩
  ·show (if i<a then c i else 0)<q
   split
   ·rename_i h3; exact h1 i h3
   ·omega
  ·rw [h2 j hj,zdC (a:=a) hL (fun i a1 a2=>h.below i a1 a2 j hj) (fun i hi=>?_) n (Nat.le_refl _) hle]
   ·exact zbo a fun i hi=>⟨by rw [if_pos hi],rfl⟩
   ·show (if i<a then c i else 0)<q
    split
    ·rename_i h3; exact h1 i h3
    ·omega
theorem RowOps.sp (hL:FieldLaws q add mul) {W:Nat->Nat->Nat} (hV:∀ i,i<n->∀ j,j<k->V i j<q) (h:RowOps q add mul n k V W):SameSp q add mul k n n V W/\∀ i,i<n->∀ j,j<k->W i j<q:=by
 have hq:0<q:=by have:=hL.two; omega
 obtain ⟨iA,iM,iN,i0,i1,F,ha,hm,h0,h1⟩:=zeK hL
 obtain ⟨hW,hg⟩:=RowOps.gen hq F hL ha hm h0 hV h
 refine ⟨fun x=>?_,hW⟩
 constructor
 ·intro hx
  exact (zaS hq F hL ha hm h0 hW fun j hj=>hx.lt hL hj).2 ((hg _).2 ((zaS hq F hL ha hm h0 hV fun j hj=>hx.lt hL hj).1 hx))
 ·intro hx
  exact (zaS hq F hL ha hm h0 hV fun j hj=>hx.lt hL hj).2 ((hg _).1 ((zaS hq F hL ha hm h0 hW fun j hj=>hx.lt hL hj).1 hx))
theorem zdj (hL:FieldLaws q add mul) {n':Nat} {p p':Nat->Nat} {V':Nat->Nat->Nat} (h:EchN q n k k n p V) (h':EchN q n' k k n' p' V') (e:SameSp q add mul k n n' V V') :
  n=n'/\(∀ s,s<n->p s=p' s)/\∀ s,s<n->∀ j,j<k->V s j=V' s j:=by
 have hq:0<q:=by have:=hL.two; omega
 obtain ⟨iA,iM,iN,i0,i1,F,ha,hm,h0,h1⟩:=zeK hL
 have back:∀ (m:Nat) (U:Nat->Nat->Nat) (x:List (El q)),(∀ i,i<m->∀ j,j<k->U i j<q)->Gen k m (fun i=>wd k (fun j=>toEl q hq (U i j))) x->x=wordK q hq k (fun j=>(ent x j).val):=fun m U x hU hx=>by
  refine zdx (zdA F (N:=fun i j=>toEl q hq (U i j)) hx).1 (zb1 hq k _) fun j hj=>?_
  rw [zcF hq,zbc hj]
  exact El.ext' (zal hq (ent x j).lt).symm
 obtain ⟨e1,e2,e3⟩:=(h.toK hq h0 h1).unique F (h'.toK hq h0 h1) fun x=>by
  constructor
  ·intro hx
   have ex:=back _ _ _ h.lt hx
   rw [ex] at hx ⊢
   exact (zaS hq F hL ha hm h0 h'.lt fun j _=>(ent x j).lt).1 ((e _).1 ((zaS hq F hL ha hm h0 h.lt fun j _=>(ent x j).lt).2 hx))
  ·intro hx
   have ex:=back _ _ _ h'.lt hx
   rw [ex] at hx ⊢
   exact (zaS hq F hL ha hm h0 h.lt fun j _=>(ent x j).lt).1 ((e _).2 ((zaS hq F hL ha hm h0 h'.lt fun j _=>(ent x j).lt).2 hx))
 refine ⟨e1,e2,fun s hs j hj=>zcB hq (h.lt s hs j hj) (h'.lt s (by omega) j hj) (e3 s hs j hj)⟩
theorem zdD (hL:FieldLaws q add mul) {a:Nat} {p:Nat->Nat} {W:Nat->Nat->Nat} (hV:∀ i,i<n->∀ j,j<k->V i j<q) (h:EchN q n k k a p W) (hr:RowOps q add mul n k V W) :
  RrefN q n k V↔a=n/\∀ i,i<a->∀ j,j<k->W i j=V i j:=by
 constructor
 ·rintro ⟨p',h'⟩
  obtain ⟨hs,_⟩:=hr.sp hL hV
  obtain ⟨e1,e2,e3⟩:=zdj hL h.top h' fun x=>((h.sp_top hL x).symm.trans (hs x).symm)
  exact ⟨e1,e3⟩
 ·rintro ⟨rfl,e⟩
  exact ⟨p,h.congr (Nat.le_refl _) e⟩
end
def CanonPost (q:Nat) (add mul:Nat->Nat->Nat) (n k cols:Nat) (V:Nat->Nat->Nat) (w:World) (e:Ending) (w':World):Prop :=
 ∃ lv pv a p W,e=.returned (.tuple #[lv,pv])/\MTab w' w.heap.size lv a k W/\Own w' w.heap.size 3 1 pv a (fun j _=>.int .i64 (p j:Nat))/\Below w.heap.size w w' /\
  EchN q n k cols a p W/\RowOps q add mul n k V W
theorem EchN.full {q n k c a cols:Nat} {pv:Nat->Nat} {W:Nat->Nat->Nat} (h:EchN q n k c a pv W) (hc:c<=cols) (h2:c=cols∨a=n):EchN q n k cols a pv W:=by
 rcases h2 with h2 | h2
 ·rw [<-h2]; exact h
 ·exact ⟨h.le,h.lt,h.inc,fun s hs=>Nat.lt_of_lt_of_le (h.pvlt s hs) hc,h.one,h.zero,h.lead,fun i h1 h3=>by omega⟩
theorem MTab.form {w:World} {base n k:Nat} {v:Value} {W:Nat->Nat->Nat} (h:MTab w base v n k W):(v=.slice none 0 0/\n=0)∨∃ b o c,v=.slice (some ⟨b,o,none⟩) n c/\n<=c/\c<=maxLen:=by
 obtain ⟨R,h1,_⟩:=h
 rcases h1 with h1 | ⟨g,o',cap,cur,h1,h3,h4,h5,h6,h7,h8⟩
 ·exact .inl h1
 ·exact .inr ⟨g,o',cap,h1,h5,h6⟩
def FirstErr:List (Prop × Int)->Int->Prop
 | [],v=>v=0
 | (p,e) :: r,v=>(¬ p/\v=e)∨(p/\FirstErr r v)
theorem FirstErr.unique:∀ {l:List (Prop × Int)} {v u:Int},FirstErr l v->FirstErr l u->v=u
 | [],_,_,h1,h2=>h1.trans h2.symm
 | (_, _) :: r, _, _, h1, h2 => by
  rcases h1 with ⟨a,h1⟩ | ⟨a,h1⟩
  ·rcases h2 with ⟨_,h2⟩ | ⟨b,_⟩
   ·exact h1.trans h2.symm
   ·exact absurd b a
  ·rcases h2 with ⟨b,_⟩ | ⟨_,h2⟩
   ·exact absurd a b
   ·exact FirstErr.unique (l:=r) h1 h2
def ErrsPost (l:List (Prop × Int)) (w:World) (e:Ending) (w':World):Prop:=∃ v:Int,e=.returned (.int .i64 v)/\FirstErr l v/\Below w.heap.size w w'
theorem errsPost {l:List (Prop × Int)} {w w':World} {v:Int} (h:FirstErr l v) (hB:Below w.heap.size w w'):ErrsPost l w (.returned (.int .i64 v)) w':=⟨v,rfl,h,hB⟩
def ShapeM (cols:Int) (n:Nat) (ln:Nat->Nat):Prop:=0<=cols/\cols<=256/\n<=256/\∀ i,i<n->(ln i:Int)=cols
def ElemsM (q n:Nat) (ln:Nat->Nat) (V:Nat->Nat->Int):Prop:=∀ i,i<n->AllIn q (ln i) (V i)
def matCell (a b:Value) (i:Nat):Value:=if i=0 then a else b
theorem KC.qc0 {w:World} {g:Nat} {T:TypeId} {a b:Value} (h:w.rowIs g T 2 (matCell a b)) : w.cell? ⟨g,0,none⟩=some a:=h.cell (i:=0) (by decide)
theorem KC.qc1 {w:World} {g:Nat} {T:TypeId} {a b:Value} (h:w.rowIs g T 2 (matCell a b)) : w.cell? ⟨g,1,none⟩=some b:=h.cell (i:=1) (by decide)
open KC
theorem zam {w:World} {a b:Value} {T:TypeId}:(w.alloc (.cells #[a,b] T)).rowIs w.heap.size T 2 (matCell a b) :=
 ⟨#[a,b],zav rfl,rfl,fun i hi=>by
  rcases (show i=0∨i=1 by omega) with rfl | rfl <;> rfl⟩
def natT (V:Nat->Nat->Int) (i j:Nat):Nat:=(V i j).toNat
theorem zdE {w:World} {T:Option Addr} {n cols q:Nat} {ln:Nat->Nat} {V:Nat->Nat->Int} (h:IntRows w T n ln V) (hs:ShapeM (cols:Int) n ln) (he:ElemsM q n ln V):MRows w T n cols (natT V)/\∀ i,i<n->∀ j,j<cols->natT V i j<q:=by
 have hlc:∀ i,i<n->ln i=cols:=fun i hi=>by have:=hs.2.2.2 i hi; omega
 refine ⟨fun i hi=>?_,fun i hi j hj=>?_⟩
 ·obtain ⟨b,off,A,c,e,h1,h2,h3,h4,h5,h6⟩:=h i hi
  rw [hlc i hi] at h2 h3 h5 h6
  have hv:∀ j,j<cols->V i j=((natT V i j:Nat):Int):=fun j hj=>by
   have:=he i hi j (by rw [hlc i hi]; exact hj)
   unfold natT
   omega
  exact ⟨b,off,A,c,e,h1,h2,h3,h4,h5.congr hv,fun j hj=>by show _<=((natT V i j:Nat):Int)/\((natT V i j:Nat):Int)<=_; rw [<-hv j hj]; exact h6 j hj⟩
 ·have:=he i hi j (by rw [hlc i hi]; exact hj)
  unfold natT
  omega
theorem MTab.rd {w:World} {base n k c q:Nat} {A:Option Addr} {W:Nat->Nat->Nat} (h:MTab w base (.slice A n c) n k W) (hq:q<=256) (hW:∀ i,i<n->∀ j,j<k->W i j<q):MRows w A n k W:=fun i hi=>by
 obtain ⟨b,o,RA,rc,e,h1,h2,h3,h4,h5⟩:=h.row hi
 have hfc:k<=rc/\rc<=maxLen:=by
  rcases h5 with ⟨e1,e2⟩ | ⟨g,o',cap,cur,e1,_,_,e3,e4,_⟩
  ·injection e1 with _ e3 e4
   subst e3 e4
   exact ⟨Nat.le_refl _,by unfold maxLen; omega⟩
  ·injection e1 with _ _ e5
   subst e5
   exact ⟨e3,e4⟩
 exact ⟨b,o,RA,rc,e,h2,h3,hfc.1,hfc.2,h5.rd rfl,fun j hj=>by have:=hW i hi j hj; show _<=((W i j:Nat):Int)/\((W i j:Nat):Int)<=_; omega⟩
def codCell (a b c d e:Value) (i:Nat):Value:=if i=0 then a else if i=1 then b else if i=2 then c else if i=3 then d else e
theorem KA.qc0 {w:World} {g:Nat} {T:TypeId} {a b c d e:Value} (h:w.rowIs g T 5 (codCell a b c d e)) : w.cell? ⟨g,0,none⟩=some a:=h.cell (i:=0) (by decide)
theorem KA.qc1 {w:World} {g:Nat} {T:TypeId} {a b c d e:Value} (h:w.rowIs g T 5 (codCell a b c d e)) : w.cell? ⟨g,1,none⟩=some b:=h.cell (i:=1) (by decide)
theorem KA.qc2 {w:World} {g:Nat} {T:TypeId} {a b c d e:Value} (h:w.rowIs g T 5 (codCell a b c d e)) : w.cell? ⟨g,2,none⟩=some c:=h.cell (i:=2) (by decide)
theorem KA.qc3 {w:World} {g:Nat} {T:TypeId} {a b c d e:Value} (h:w.rowIs g T 5 (codCell a b c d e)) : w.cell? ⟨g,3,none⟩=some d:=h.cell (i:=3) (by decide)
theorem KA.qc4 {w:World} {g:Nat} {T:TypeId} {a b c d e:Value} (h:w.rowIs g T 5 (codCell a b c d e)) : w.cell? ⟨g,4,none⟩=some e:=h.cell (i:=4) (by decide)
open KA
theorem zaT {w:World} {a b c d e:Value} {T:TypeId}:(w.alloc (.cells #[a,b,c,d,e] T)).rowIs w.heap.size T 5 (codCell a b c d e) :=
 ⟨#[a,b,c,d,e],zav rfl,rfl,fun i hi=>by
  rcases (show i=0∨i=1∨i=2∨i=3∨i=4 by omega) with rfl | rfl | rfl | rfl | rfl <;> rfl⟩
section
variable {w:World}
theorem zaK {ops:Array Oper} {o:Oper} {a:Act} {K:Act->World->Prop} {Q:Exit->Act->World->Prop} {E:Prop} (hgd:o.guard=none) (sl x:Operand)
  (ho:o.op=.call { callee:=.builtin .append,args:=#[sl,x],argTypes:=#[22, 22] })
  {b0 base:Nat} (hv:a.eval sl=.slice (some ⟨b0,0,none⟩) 0 0) (hr0:w.rowIs b0 3 0 (fun _=>undef)) (hbase:base<=b0) {A:Option Addr} {c n:Nat} {f:Nat->Int} (hx:a.eval x=.slice A n c)
  (hsrc:IntsR w w.heap.size A n f) (hlen:n<=1048576)
  (K':∀ v' w',Own w' base 3 1 v' n (fun j _=>.int .i64 (f j))->Below w.heap.size w w'->(v'.ownBlock=some b0∨v'.ownBlock=some w.heap.size)->K (a.put o.dst v') w') :
  if Region.wanted o (yielded ops a.tmps)=true then Oper.wp Try.prog o a w K Q else E:=by
 have hw:Region.wanted o (yielded ops a.tmps)=true:=by simp [Region.wanted,hgd]
 rw [if_pos hw]
 obtain ⟨i0,qi0,qz0,qz1,qz2⟩:=info_parts Try.infoInt
 have hl0:b0<w.heap.size:=hr0.lt
 have hb0:w.heap[b0]?=some (.cells #[] 3 (0,0)):=by
  obtain ⟨cs,h1,h2,_⟩:=hr0
  rw [h1,Array.eq_empty_of_size_eq_zero h2]
 by_cases h0:n=0
 ·have hrun:=zaC (P:=Try.prog) w 22 o.type 3 i0 Try.underlying22 qi0 b0 0 A c
  rw [h0] at hx
  unfold Oper.wp execOp
  simp only [ho,resolve,invoke,builtin,Sem.run_bind,Sem.run_pure,Result.andThen_ok,List.map_toArray,List.map_cons,List.map_nil,hv,hx,hrun]
  refine K' _ _ ?_ (Below.refl _ _) (.inl rfl)
  rw [h0]
  exact .inr ⟨b0,0,0,#[],rfl,hbase,hb0,Nat.le_refl _,by unfold maxLen; omega,by simp,fun i hi=>absurd hi (by omega)⟩
 ·obtain ⟨cap,cur,hrun,h2,h3,h4,h5⟩:=zaD (P:=Try.prog) w 22 o.type 3 i0 _ 1 8 Try.underlying22 qi0 qz0 qz1 qz2 rfl (by omega) (some ⟨b0,0,none⟩) A n c (fun j _=>.int .i64 (f j)) hsrc (by omega) (fun _ _ _ _=>rfl) (by unfold maxLen; omega) (by omega)
  unfold Oper.wp execOp
  simp only [ho,resolve,invoke,builtin,Sem.run_bind,Sem.run_pure,Result.andThen_ok,List.map_toArray,List.map_cons,List.map_nil,hv,hx,hrun]
  refine K' _ _ ?_ (((Below.refl _ _).alloc (Nat.le_refl _) _).drew) (.inr rfl)
  exact (Own.new (w:=w) (base:=base) (e := 3) (by omega) h2 h3 h4 h5).drew
end
theorem zaj {a w:World} {b:Nat} (h:a.grownBy w (some b)) (i:Nat) (v:Value):a.grownBy (w.setCell ⟨b,i,none⟩ v) (some b):=by
 have k:=zaW w b i v
 exact ⟨k.os.trans h.os,k.tape.trans h.tape,k.output.trans h.output,Nat.le_trans h.size k.size,fun q hq hne=>(k.block q (Nat.lt_of_lt_of_le hq h.size) hne).trans (h.block q hq hne)⟩
theorem zdF {w w':World} {g:Nat} {T:TypeId} {f:Nat->Value} {a b c:Value} (h:w.rowIs g T 3 f) (hw:w'=((w.setCell ⟨g,0,none⟩ a).setCell ⟨g,1,none⟩ b).setCell ⟨g,2,none⟩ c):w'.rowIs g T 3 (fldCell a b c)/\w.grownBy w' (some g):=by
 rw [hw]
 refine ⟨(((h.set 0 _).set 1 _).set 2 _).congr fun j hj=>?_,zaj (zaj (zaW _ _ _ _) _ _) _ _⟩
 match j,hj with
 | 0,_=>rfl
 | 1,_=>rfl
 | 2,_=>rfl
theorem za6 {w w':World} {g:Nat} {T:TypeId} {f:Nat->Value} {a b c d e:Value} (h:w.rowIs g T 5 f) (hw:w'=((((w.setCell ⟨g,0,none⟩ a).setCell ⟨g,1,none⟩ b).setCell ⟨g,2,none⟩ c).setCell ⟨g,3,none⟩ d).setCell ⟨g,4,none⟩ e):w'.rowIs g T 5 (codCell a b c d e)/\w.grownBy w' (some g):=by
 rw [hw]
 refine ⟨(((((h.set 0 _).set 1 _).set 2 _).set 3 _).set 4 _).congr fun j hj=>?_,zaj (zaj (zaj (zaj (zaW _ _ _ _) _ _) _ _) _ _) _ _⟩
 match j,hj with
 | 0,_=>rfl
 | 1,_=>rfl
 | 2,_=>rfl
 | 3,_=>rfl
 | 4,_=>rfl
theorem zan {w:World} {base g m n s:Nat} {t e:TypeId} {F:Nat->Value} {v:Value} {f:Nat->Nat->Value} (hr:w.rowIs g t m F) (h:Own w base e s v n f) (hne:t≠e):v.ownBlock=none∨v.ownBlock≠some g:=by
 rcases h with ⟨rfl,_⟩ | ⟨b,o,cap,cur,rfl,_,hg,_⟩
 ·exact .inl rfl
 ·refine .inr fun e1=>?_
  obtain ⟨cs,h1,_⟩:=hr
  simp [Value.ownBlock] at e1
  subst e1
  rw [hg] at h1
  injection h1 with h1
  injection h1 with _ h1
  exact hne h1.symm
def FieldPost (P M:Int) (k:Nat) (f:Nat->Int) (w:World) (e:Ending) (w':World):Prop :=
 ∃ v,e=.returned (.agg #[.int .i64 P,.int .i64 M,v])/\Own w' w.heap.size 3 1 v k (fun j _=>.int .i64 (f j))/\Below w.heap.size w w'
end Go.Proofs.Ytioagplajkoohaa