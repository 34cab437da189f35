/- Merged texts of a claim: MinPl, PowS, PowPl, Fits, SecPl, SortLay, SortLess, SortOwn, Order, VisMem, RenameMem, RenumMem. -/
import Derived.Test.YtgekjfpapmlndaaGreatUW9
import Derived.Shelf.SlSortCmp.WholeK
import Derived.Shelf.SlSortCmp.Whole1
import Derived.Shelf.SlSortCmp.NoneTotal
import Derived.Shelf.SlicesG.Cmp
import Derived.Ground.SlgcProg
namespace Go.Proofs.YtgekjfpapmlndaaGreat
set_option maxRecDepth 100000
set_option maxHeartbeats 32000000
open KA KB KC KD KE KF
def actA (pv:Nat->Nat) (R:Nat->Nat->Nat) (N i s:Nat):Bool:=decide (pv s<i) && decide ((i:Int)<=lE (R s) N)
def actE (pv:Nat->Nat) (R:Nat->Nat->Nat) (N i s:Nat):Bool:=decide (pv s<=i) && decide ((i:Int)<=lE (R s) N)
def secE (q:Nat) (add mul:Nat->Nat->Nat) (pv:Nat->Nat) (R:Nat->Nat->Nat) (N t i:Nat) (c:Nat->Nat):Int × Int × Int :=
 (((packB q (actA pv R N i) c t:Nat):Int),((spE add mul R c t i:Nat):Int),((packB q (actA pv R N (i+1)) c t:Nat):Int))
def Trel.eD (T:Trel) (i j:Nat):Int × Int × Int:=(T.fr i j,T.lb i j,T.to i j)
structure MinT (q:Nat) (add mul:Nat->Nat->Nat) (n N:Nat) (pv:Nat->Nat) (R:Nat->Nat->Nat) (T:Trel):Prop where
 nN:T.n=N
 nw:T.nw=N+1
 w:∀ i,i<=N->T.W i=((q ^ cntB (actA pv R N i) n:Nat):Int)
 el:∀ i,i<N->T.el i=q ^ cntB (actE pv R N i) n
 out:∀ i,i<N->∀ c:Nat->Nat,(∀ s,c s<q)->∃ j,j<T.el i/\T.eD i j=secE q add mul pv R N n i c
 inn:∀ i,i<N->∀ j,j<T.el i->∃ c:Nat->Nat,(∀ s,c s<q)/\T.eD i j=secE q add mul pv R N n i c
 srt:∀ i,i<N->∀ a b,a<b->b<T.el i->ltE (T.eD i a) (T.eD i b)
section
variable {q n N:Nat} {add mul:Nat->Nat->Nat} {pv:Nat->Nat} {R:Nat->Nat->Nat}
theorem zcP (s:Nat):actA pv R N 0 s=false:=by simp [actA]
theorem zgK (s:Nat):actA pv R N N s=false:=by
 have h:=zjK (u:=R s) N
 have:¬ ((N:Int)<=lE (R s) N):=by omega
 simp [actA,this]
theorem zbg {D:Nat->Bool} (h:∀ s,D s=false):∀ n,cntB D n=0
 | 0=>rfl
 | n+1=>by
  show cntB D n+(if D n then 1 else 0)=0
  rw [zbg h n,h n]
  rfl
theorem zbu (i s:Nat):actE pv R N i s=true↔pv s<=i/\(i:Int)<=lE (R s) N:=by simp [actE]
theorem zaM (i s:Nat):actA pv R N i s=true↔pv s<i/\(i:Int)<=lE (R s) N:=by simp [actA]
theorem zi6 (hL:FieldLaws q add mul) (h:SpanF q n N pv R) {i:Nat} (hi:i<N) {c c':Nat->Nat} (hc:∀ s,c s<q) (hc':∀ s,c' s<q)
  (e1:(secE q add mul pv R N n i c).1=(secE q add mul pv R N n i c').1) (e2:(secE q add mul pv R N n i c).2.1=(secE q add mul pv R N n i c').2.1) :
  ∀ s,s<n->actE pv R N i s=true->c s=c' s:=by
 have e1:((packB q (actA pv R N i) c n:Nat):Int)=((packB q (actA pv R N i) c' n:Nat):Int):=e1
 have e2:((spE add mul R c n i:Nat):Int)=((spE add mul R c' n i:Nat):Int):=e2
 have a1:=zdG (D:=actA pv R N i) n (fun s _=>hc s) (fun s _=>hc' s) (by omega)
 intro s hs hA
 obtain ⟨h1,h2⟩:=(zbu i s).1 hA
 by_cases g:pv s<i
 ·exact a1 s hs ((zaM i s).2 ⟨g,h2⟩)
 obtain rfl:i=pv s:=by omega
 have a:=ziz hL (R:=R) (c:=c) (c':=c') (j:=pv s) (s:=s) n hs (fun t ht hne=>?_) (by omega)
 ·rw [h.one s hs,hL.mulOne (hc s),hL.mulOne (hc' s)] at a
  exact a
 rcases Nat.lt_trichotomy t s with g | g | g
 ·have b:=h.inc t s g hs
  by_cases k:((pv s:Nat):Int)<=lE (R t) N
  ·rw [a1 t ht ((zaM _ t).2 ⟨b,k⟩)]
  ·have:R t (pv s)=0:=zcF (n:=N) hi (by omega)
   rw [this,hL.mulZero (hc t),hL.mulZero (hc' t)]
 ·exact absurd g hne
 ·have:R t (pv s)=0:=h.low t ht _ (h.inc s t g ht)
  rw [this,hL.mulZero (hc t),hL.mulZero (hc' t)]
theorem zi7 {c c':Nat->Nat} {i:Nat} (h:∀ s,s<n->actE pv R N i s=true->c s=c' s):packB q (actE pv R N i) c n=packB q (actE pv R N i) c' n:=zb6 n h
variable {T:Trel}
theorem MinT.proper (hL:FieldLaws q add mul) (hq:q<=256) (hN:N<=64) (hM:MinT q add mul n N pv R T) (hW:T.sumW (N+1)<=65536) (hE:T.sumE N<=262144):T.Proper:=by
 have b:0<q:=by have:=hL.two; omega
 have d:∀ k,1<=q ^ k:=fun k=>Nat.pow_pos b
 have a:∀ i,i<N->∀ j,j<T.el i->∃ c:Nat->Nat,(∀ s,c s<q)/\T.fr i j=((packB q (actA pv R N i) c n:Nat):Int)/\T.lb i j=((spE add mul R c n i:Nat):Int)/\T.to i j=((packB q (actA pv R N (i+1)) c n:Nat):Int):=fun i hi j hj=>by
  obtain ⟨c,h1,h2⟩:=hM.inn i hi j hj
  simp only [Trel.eD,secE,Prod.mk.injEq] at h2
  exact ⟨c,h1,h2⟩
 have e:=hM.nN
 refine ⟨⟨by omega,by rw [hM.nw]; omega,fun i hi=>?_,by rw [hM.nN]; exact hW,by rw [hM.nN]; exact hE,fun i hi j hj=>?_⟩,?_,?_,fun i hi=>⟨fun j hj=>?_,fun v hv=>?_,fun v hv=>?_⟩⟩
 ·rw [hM.w i (by omega)]
  have:=d (cntB (actA pv R N i) n)
  omega
 ·obtain ⟨c,h1,h2,_,h4⟩:=a i (by omega) j hj
  have l1:=zb5 (D:=actA pv R N i) n fun s _=>h1 s
  have l2:=zb5 (D:=actA pv R N (i+1)) n fun s _=>h1 s
  unfold Trel.inside
  rw [h2,h4,hM.w i (by omega),hM.w (i+1) (by omega)]
  omega
 ·rw [hM.w 0 (by omega),zbg zcP]
  rfl
 ·rw [hM.nN,hM.w N (by omega),zbg zgK]
  rfl
 ·obtain ⟨c,h1,h2,h3,h4⟩:=a i (by omega) j hj
  have l1:=zcw hL (V:=R) c n i
  refine ⟨by rw [h3]; omega,by rw [h3]; omega,fun h0=>?_⟩
  exact hM.srt i (by omega) (j - 1) j (by omega) hj
 ·rw [hM.w i (by omega)] at hv
  obtain ⟨c,h1,_,h3⟩:=zaU b (D:=actA pv R N i) n v (by omega)
  obtain ⟨j,hj,e⟩:=hM.out i (by omega) c h1
  simp only [Trel.eD,secE,Prod.mk.injEq] at e
  exact za8.2 ⟨j,hj,by rw [e.1,h3]⟩
 rw [hM.w (i+1) (by omega)] at hv
 obtain ⟨c,h1,_,h3⟩:=zaU b (D:=actA pv R N (i+1)) n v (by omega)
 obtain ⟨j,hj,e⟩:=hM.out i (by omega) c h1
 simp only [Trel.eD,secE,Prod.mk.injEq] at e
 exact za8.2 ⟨j,hj,by rw [e.2.2,h3]⟩
end
def Trel.PathW (T:Trel) (x:Nat->Nat):Prop:=∃ nd:Nat->Nat,nd 0=0/\∀ i,i<T.n->∃ j,j<T.el i/\T.fr i j=(nd i:Nat)/\T.lb i j=(x i:Nat)/\T.to i j=(nd (i+1):Nat)
section
variable {q n N:Nat} {add mul:Nat->Nat->Nat} {pv:Nat->Nat} {R:Nat->Nat->Nat} {T:Trel}
theorem MinT.edge (hM:MinT q add mul n N pv R T) {i:Nat} (hi:i<N) {c:Nat->Nat} (hc:∀ s,c s<q) :
  ∃ j,j<T.el i/\T.fr i j=((packB q (actA pv R N i) c n:Nat):Int)/\T.lb i j=((spE add mul R c n i:Nat):Int)/\T.to i j=((packB q (actA pv R N (i+1)) c n:Nat):Int):=by
 obtain ⟨j,hj,e⟩:=hM.out i hi c hc
 simp only [Trel.eD,secE,Prod.mk.injEq] at e
 exact ⟨j,hj,e⟩
theorem zd6 {D:Nat->Bool} {c:Nat->Nat} (h:∀ s,D s=false):∀ n,packB q D c n=0
 | 0=>rfl
 | n+1=>by
  show (if D n then packB q D c n*q+c n else packB q D c n)=0
  rw [h n]
  exact zd6 h n
theorem MinT.path_of (hM:MinT q add mul n N pv R T) {c:Nat->Nat} (hc:∀ s,c s<q) {x:Nat->Nat} (hx:∀ i,i<N->x i=spE add mul R c n i):T.PathW x:=by
 refine ⟨fun i=>packB q (actA pv R N i) c n,zd6 zcP n,fun i hi=>?_⟩
 rw [hM.nN] at hi
 obtain ⟨j,hj,h1,h2,h3⟩:=hM.edge hi hc
 exact ⟨j,hj,h1,by rw [h2,hx i hi],h3⟩
theorem MinT.path_in (hL:FieldLaws q add mul) (h:SpanF q n N pv R) (hM:MinT q add mul n N pv R T) {x:Nat->Nat} (hx:T.PathW x):∃ c:Nat->Nat,(∀ s,c s<q)/\∀ i,i<N->x i=spE add mul R c n i:=by
 obtain ⟨nd,_,hp⟩:=hx
 rw [hM.nN] at hp
 have a:0<q:=by have:=hL.two; omega
 have hC:∀ i,∃ c:Nat->Nat,(∀ s,c s<q)/\(i<N->nd i=packB q (actA pv R N i) c n/\x i=spE add mul R c n i/\nd (i+1)=packB q (actA pv R N (i+1)) c n):=fun i=>by
  by_cases hi:i<N
  ·obtain ⟨j,hj,h1,h2,h3⟩:=hp i hi
   obtain ⟨c,k1,k2⟩:=hM.inn i hi j hj
   simp only [Trel.eD,secE,Prod.mk.injEq] at k2
   exact ⟨c,k1,fun _=>⟨by omega,by omega,by omega⟩⟩
  ·exact ⟨fun _=>0,fun _=>a,fun g=>absurd g hi⟩
 obtain ⟨C,hC⟩:=Classical.axiomOfChoice hC
 have step:∀ s,s<n->∀ d,pv s+d<N->((pv s+d:Nat):Int)<=lE (R s) N->C (pv s+d) s=C (pv s) s:=by
  intro s hs d
  induction d with
  | zero=>intro _ _; rfl
  | succ d ih =>
   intro h1 h2
   rw [<-ih (by omega) (by omega)]
   have k1:=(hC (pv s+d)).2 (by omega)
   have k2:=(hC (pv s+(d+1))).2 (by omega)
   have e:packB q (actA pv R N (pv s+d+1)) (C (pv s+(d+1))) n=packB q (actA pv R N (pv s+d+1)) (C (pv s+d)) n:=by
    rw [<-k1.2.2]; exact k2.1.symm
   exact zdG n (fun t _=>(hC _).1 t) (fun t _=>(hC _).1 t) e s hs ((zaM _ s).2 ⟨by omega,by omega⟩)
 refine ⟨fun s=>C (pv s) s,fun s=>(hC _).1 s,fun i hi=>?_⟩
 rw [((hC i).2 hi).2.1]
 refine zcM n fun t ht=>?_
 by_cases g1:pv t<=i
 ·by_cases g2:(i:Int)<=lE (R t) N
  ·have:=step t ht (i - pv t) (by omega) (by omega)
   rw [show pv t+(i - pv t)=i by omega] at this
   rw [this]
  ·have:R t i=0:=zcF (n:=N) hi (by omega)
   rw [this,hL.mulZero ((hC _).1 t),hL.mulZero ((hC _).1 t)]
 ·have:R t i=0:=h.low t ht i (by omega)
  rw [this,hL.mulZero ((hC _).1 t),hL.mulZero ((hC _).1 t)]
theorem MinT.path_iff (hL:FieldLaws q add mul) (h:SpanF q n N pv R) (hM:MinT q add mul n N pv R T) {x:Nat->Nat}:T.PathW x↔InSp q add mul n N R x:=by
 have a:0<q:=by have:=hL.two; omega
 constructor
 ·intro hx
  obtain ⟨c,h1,h2⟩:=hM.path_in hL h hx
  exact ⟨c,fun s _=>h1 s,h2⟩
 rintro ⟨c,h1,h2⟩
 refine hM.path_of (c:=fun s=>if s<n then c s else 0) (fun s=>?_) fun i hi=>?_
 ·show (if s<n then c s else 0)<q
  split
  ·exact h1 s (by assumption)
  ·exact a
 ·rw [h2 i hi]
  exact zcM n fun t ht=>by show mul (c t) _=mul (if t<n then c t else 0) _; rw [if_pos ht]
end
def powS (q:Nat) (d:Nat->Nat):Nat->Nat
 | 0=>0
 | i+1=>powS q d i+q ^ d i
theorem zcp {q:Nat} {d:Nat->Nat}:∀ i k,powS q d i<=powS q d (i+k)
 | _,0=>Nat.le_refl _
 | i,k+1=>Nat.le_trans (zcp i k) (Nat.le_add_right _ _)
theorem zd7 {q:Nat} {d:Nat->Nat}:∀ m,powS q d (m+1)=q ^ d 0+powS q (fun i=>d (i+1)) m
 | 0=>by show 0+q ^ d 0=q ^ d 0+0; omega
 | m+1=>by
  show powS q d (m+1)+q ^ d (m+1)=q ^ d 0+(powS q (fun i=>d (i+1)) m+q ^ d (m+1))
  rw [zd7 m]
  omega
theorem zjN {q:Nat} {d:Nat->Nat} {m i:Nat} (h:i<m):q ^ d i<=powS q d m:=by
 have h1:=zcp (q:=q) (d:=d) (i+1) (m - (i+1))
 rw [show i+1+(m - (i+1))=m by omega] at h1
 have h2:powS q d (i+1)=powS q d i+q ^ d i:=rfl
 omega
def SizeIn (q n N:Nat) (pv:Nat->Nat) (R:Nat->Nat->Nat):Prop:=powS q (fun i=>cntB (actA pv R N i) n) (N+1)<=65536/\powS q (fun i=>cntB (actE pv R N i) n) N<=262144
section
variable {q n N:Nat} {add mul:Nat->Nat->Nat} {pv:Nat->Nat} {R:Nat->Nat->Nat} {T:Trel}
theorem MinT.sums (hM:MinT q add mul n N pv R T):T.sumW (N+1)=(powS q (fun i=>cntB (actA pv R N i) n) (N+1):Nat)/\T.sumE N=powS q (fun i=>cntB (actE pv R N i) n) N:=by
 constructor
 ·have:∀ m,m<=N+1->T.sumW m=(powS q (fun i=>cntB (actA pv R N i) n) m:Nat):=by
   intro m
   induction m with
   | zero=>intro _; rfl
   | succ m ih =>
    intro h
    show T.sumW m+T.W m=((powS q (fun i=>cntB (actA pv R N i) n) m+q ^ cntB (actA pv R N m) n:Nat):Int)
    rw [ih (by omega),hM.w m (by omega)]
    push_cast
    rfl
  exact this _ (Nat.le_refl _)
 have:∀ m,m<=N->T.sumE m=powS q (fun i=>cntB (actE pv R N i) n) m:=by
  intro m
  induction m with
  | zero=>intro _; rfl
  | succ m ih =>
   intro h
   show T.sumE m+T.el m=powS q (fun i=>cntB (actE pv R N i) n) m+q ^ cntB (actE pv R N m) n
   rw [ih (by omega),hM.el m (by omega)]
 exact this _ (Nat.le_refl _)
theorem MinT.proper_in (hL:FieldLaws q add mul) (hq:q<=256) (hN:N<=64) (hM:MinT q add mul n N pv R T) (h:SizeIn q n N pv R):T.Proper :=
 hM.proper hL hq hN (by rw [hM.sums.1]; have:=h.1; omega) (by rw [hM.sums.2]; exact h.2)
end
open Go.RowKit Go.ChangeShapes Go.WideShapes Go.ChangeAt
theorem zi8 (q k:Nat) (w:World) (hq:2<=q) (hq2:q<=1048576) (hk:k<=1048576) :
  Calls Tryz.prog 148 #[.int .i64 (q:Nat),.int .i64 (k:Nat),.int .i64 0] w (ExpNPost q k 0 w):=by
 have hp:Hid (0<q ^ k):=hid (Nat.pow_pos (by omega))
 have c1:¬ ((q:Int)<0):=by omega
 have c2:¬ ((k:Int)<0):=by omega
 have c3:¬ ((0:Int)<0):=by omega
 have c4:((q:Int) == 0)=false:=by simp; omega
 have c5:((0:Int) == 0)=true:=by simp
 go_enter Tryz.func148, Tryz.ntmps148
 go_wp2
 go_ret2
 exact ⟨.inr ⟨hp.out,rfl⟩,Below.refl _ _⟩
theorem zd8 (q k most:Nat) (w:World) (hq:2<=q) (hq2:q<=1048576) (hk:k<=1048576) (hm2:most<=1048576) :
  Calls Tryz.prog 148 #[.int .i64 (q:Nat),.int .i64 (k:Nat),.int .i64 (most:Nat)] w (ExpNPost q k most w):=by
 by_cases h:most=0
 ·subst h
  exact zi8 q k w hq hq2 hk
 ·exact zit q k most w hq hq2 hk (by omega) hm2
theorem zbh (D:Nat->Bool) (n:Nat):cntB D (n+1)=cntB D n+if D n then 1 else 0:=rfl
theorem zi9 (q n N:Nat) (pv:Nat->Nat) (R:Nat->Nat->Nat) (T:Option Addr) (d:Nat) (w:World) (h:IntRows w T n (fun _=>N) (fun s j=>((R s j:Nat):Int))) (hS:SpanF q n N pv R) (hq:2<=q) (hq2:q<=256) (hn:n<=64) (hN:N<=64) :
  Calls Tryz.prog 75 #[.int .i64 (q:Nat),.int .i64 (N:Nat),.slice T n d] w fun e w'=>((SizeIn q n N pv R/\e=.returned (.int .i64 0))∨(¬ SizeIn q n N pv R/\e=.returned (.int .i64 8)))/\Below w.heap.size w w':=by
 have HR:=hid h
 have HS:=hid hS
 clear h hS
 obtain ⟨dA,z⟩:∃ dA:Nat->Nat,dA=fun i=>cntB (actA pv R N i) n:=⟨_,rfl⟩
 obtain ⟨dE,E⟩:∃ dE:Nat->Nat,dE=fun i=>cntB (actE pv R N i) n:=⟨_,rfl⟩
 have a7:=hid z
 have a6:=hid E
 have t:dA 0=0:=by rw [z]; exact zbg zcP n
 have F:Hid (SizeIn q n N pv R↔powS q dA (N+1)<=65536/\powS q dE N<=262144):=hid (by rw [z,E]; exact Iff.rfl)
 have a8:=hid t
 clear z E t
 go_enter Tryz.func75, Tryz.ntmps75
 go_upto_region 3 with fail
 go_loopg [7,8,21] N (fun gg nv ev iv wx=>∃ i nd ed:Nat,iv=.int .i64 (i:Nat)/\nv=.int .i64 (nd:Nat)/\ev=.int .i64 (ed:Nat)/\i<=N/\N<=i+gg/\Hid (nd=powS q dA (i+1))/\Hid (ed=powS q dE i)/\nd<=65536/\ed<=262144/\Below w.heap.size w wx)
 case atStart=>exact ⟨0,1,0,rfl,rfl,rfl,by omega,by omega,hid (by show 1=0+q ^ dA 0; rw [a8.out]; simp),hid rfl,by omega,by omega,Below.refl _ _⟩
 obtain ⟨i,nd,ed,rfl,rfl,rfl,hi,ac,M,O,ab,ae,v⟩:=hrel
 have ad:(0:Int)<=(i:Int):=by omega
 have HB:=hid v
 obtain ⟨w3,V⟩:=exx wr
 subst V
 clear v
 by_cases hlt:i<N
 rotate_left
 ·have D:¬ (i:Int)<(N:Int):=by omega
  obtain rfl:i=N:=by omega
  have a1:Hid (SizeIn q n i pv R):=hid (F.out.2 ⟨by have:=M.out; omega,by have:=O.out; omega⟩)
  go_wp2
  go_ret
  exact ⟨.inl ⟨a1.out,rfl⟩,HB.out⟩
 have D:(i:Int)<(N:Int):=by omega
 obtain ⟨gO,Y⟩:=exx gk
 subst Y
 go_upto_region 7 with fail
 go_loopg [10,11,26] n (fun gg av bv sv wx=>∃ s a b:Nat,sv=.int .i64 (s:Nat)/\av=.int .i64 (a:Nat)/\bv=.int .i64 (b:Nat)/\s<=n/\n<=s+gg/\Hid (a=cntB (actA pv R N (i+1)) s)/\Hid (b=cntB (actE pv R N i) s)/\a<=s/\b<=s/\Below w.heap.size w wx)
 case atStart=>exact ⟨0,0,0,rfl,rfl,rfl,by omega,by omega,hid rfl,hid rfl,by omega,by omega,HB.out⟩
 clear HB
 obtain ⟨s,a,b,rfl,rfl,rfl,hs,a9,HA,HE,ag,af,v⟩:=hrel
 have aa:(0:Int)<=(s:Int):=by omega
 have HB:=hid v
 obtain ⟨w4,U⟩:=exx wr
 subst U
 clear v
 by_cases hsn:s<n
 ·have B:(s:Int)<(n:Int):=by omega
  obtain ⟨b1,o1,RA,rc,a0,Z,x0,h1,h2,h3,h4⟩:=HR.out s hsn
  subst a0
  replace x0:=cellS HB.out x0
  have G:=hid h3
  clear h3 h4 h1 h2 Z
  go_wp2_with fail
  clear x0
  refine (zdF RA N rc (R s) w4 (G.out.on HB.out) (by omega)).mono ?_
  rintro e w5 ⟨rfl,kb⟩
  replace HB:=hid (onS HB.out kb);clear kb;rw [HS.out.first hsn]
  have C:=HS.out.pos hsn
  have m:actA pv R N (i+1) s=true↔(pv s<=i/\(i:Int)<lE (R s) N):=by rw [zaM]; omega
  have c:actE pv R N i s=true↔(pv s<=i/\(i:Int)<=lE (R s) N):=zbu i s
  obtain ⟨p,hp⟩:=exx (pv s)
  obtain ⟨l,hl⟩:=exx (lE (R s) N)
  rw [<-hp,<-hl] at C m c ⊢;clear hp hl
  by_cases g1:p<=i
  rotate_left
  ·have g1':¬ (p:Int)<=(i:Int):=by omega
   have g1d:decide ((p:Int)<=(i:Int))=false:=by simp; omega
   have r:actA pv R N (i+1) s=false:=by
    cases hb:actA pv R N (i+1) s with
    | false=>rfl
    | true=>exact absurd (m.1 hb).1 g1
   have o:Hid (a=cntB (actA pv R N (i+1)) (s+1)):=hid (by rw [zbh,r,<-HA.out]; rfl)
   have u:actE pv R N i s=false:=by
    cases hb:actE pv R N i s with
    | false=>rfl
    | true=>exact absurd (c.1 hb).1 g1
   have k:Hid (b=cntB (actE pv R N i) (s+1)):=hid (by rw [zbh,u,<-HE.out]; rfl)
   clear m c r u
   go_wp2
   go_roundg (gk - 1)
   case measure=>omega
   case rel=>exact ⟨s+1,a,b,by go_num,rfl,rfl,by omega,by omega,o,k,by omega,by omega,HB.out⟩
  have g1':(p:Int)<=(i:Int):=by omega
  have g1d:decide ((p:Int)<=(i:Int))=true:=by simp; omega
  by_cases g2:(i:Int)<l
  ·have g3:(i:Int)<=l:=by omega
   have g2d:decide ((i:Int)<l)=true:=by simp; omega
   have g3d:decide ((i:Int)<=l)=true:=by simp; omega
   have o:Hid (a+1=cntB (actA pv R N (i+1)) (s+1)):=hid (by rw [zbh,m.2 ⟨g1,g2⟩,<-HA.out]; rfl)
   have k:Hid (b+1=cntB (actE pv R N i) (s+1)):=hid (by rw [zbh,c.2 ⟨g1,g3⟩,<-HE.out]; rfl)
   clear m c
   go_wp2
   go_roundg (gk - 1)
   case measure=>omega
   case rel=>exact ⟨s+1,a+1,b+1,by go_num,by go_num,by go_num,by omega,by omega,o,k,by omega,by omega,HB.out⟩
  have g2d:decide ((i:Int)<l)=false:=by simp; omega
  have r:actA pv R N (i+1) s=false:=by
   cases hb:actA pv R N (i+1) s with
   | false=>rfl
   | true=>exact absurd (m.1 hb).2 g2
  have o:Hid (a=cntB (actA pv R N (i+1)) (s+1)):=hid (by rw [zbh,r,<-HA.out]; rfl)
  by_cases g3:(i:Int)<=l
  ·have g3d:decide ((i:Int)<=l)=true:=by simp; omega
   have k:Hid (b+1=cntB (actE pv R N i) (s+1)):=hid (by rw [zbh,c.2 ⟨g1,g3⟩,<-HE.out]; rfl)
   clear m c r
   go_wp2
   go_roundg (gk - 1)
   case measure=>omega
   case rel=>exact ⟨s+1,a,b+1,by go_num,rfl,by go_num,by omega,by omega,o,k,by omega,by omega,HB.out⟩
  have g3d:decide ((i:Int)<=l)=false:=by simp; omega
  have u:actE pv R N i s=false:=by
   cases hb:actE pv R N i s with
   | false=>rfl
   | true=>exact absurd (c.1 hb).2 g3
  have k:Hid (b=cntB (actE pv R N i) (s+1)):=hid (by rw [zbh,u,<-HE.out]; rfl)
  clear m c r u
  go_wp2
  go_roundg (gk - 1)
  case measure=>omega
  case rel=>exact ⟨s+1,a,b,by go_num,rfl,rfl,by omega,by omega,o,k,by omega,by omega,HB.out⟩
 have B:¬ (s:Int)<(n:Int):=by omega
 obtain rfl:s=n:=by omega
 obtain ⟨mo,K⟩:∃ mo:Nat,mo=65536 - nd:=⟨_,rfl⟩
 have m1:wrap64 ((65536:Int) - (nd:Int))=(mo:Int):=by unfold wrap64; omega
 have m2:IntKind.i64.wrap ((65536:Int) - (nd:Int))=(mo:Int):=by rw [IntWalk.i64_in _ (by omega)]; omega
 obtain ⟨me,L⟩:∃ me:Nat,me=262144 - ed:=⟨_,rfl⟩
 have m3:wrap64 ((262144:Int) - (ed:Int))=(me:Int):=by unfold wrap64; omega
 have m4:IntKind.i64.wrap ((262144:Int) - (ed:Int))=(me:Int):=by rw [IntWalk.i64_in _ (by omega)]; omega
 have a3:=hid K
 have a4:=hid L
 have W:mo<=65536:=by omega
 have X:me<=262144:=by omega
 have o:Hid (a=dA (i+1)):=hid (by rw [a7.out]; exact HA.out)
 have k:Hid (b=dE i):=hid (by rw [a6.out]; exact HE.out)
 clear K L HA HE
 go_wp2_with fail
 refine (zd8 q a mo w4 hq (by omega) (by omega) (by omega)).mono ?_
 rintro e w5 ⟨hx,kb⟩
 have S:∃ x1 e1:Int,e=.returned (.tuple #[.int .i64 x1,.int .i64 e1])/\((q ^ a<=mo/\x1=(q ^ a:Nat)/\e1=0)∨(mo<q ^ a/\e1=8)):=by
  rcases hx with ⟨h1,h2⟩ | ⟨h1,h2⟩
  ·exact ⟨_,_,h2,.inl ⟨h1,rfl,rfl⟩⟩
  ·exact ⟨_,_,h2,.inr ⟨h1,rfl⟩⟩
 obtain ⟨x1,e1,rfl,J⟩:=S
 have HX:=hid J
 replace HB:=hid (onS HB.out kb);clear hx J kb
 go_wp2_with fail
 refine (zd8 q b me w5 hq (by omega) (by omega) (by omega)).mono ?_
 rintro e w6 ⟨hy,kb⟩
 have Q:∃ y1 f1:Int,e=.returned (.tuple #[.int .i64 y1,.int .i64 f1])/\((q ^ b<=me/\y1=(q ^ b:Nat)/\f1=0)∨(me<q ^ b/\f1=8)):=by
  rcases hy with ⟨h1,h2⟩ | ⟨h1,h2⟩
  ·exact ⟨_,_,h2,.inl ⟨h1,rfl,rfl⟩⟩
  ·exact ⟨_,_,h2,.inr ⟨h1,rfl⟩⟩
 obtain ⟨y1,f1,rfl,I⟩:=Q
 have HY:=hid I
 replace HB:=hid (onS HB.out kb);clear hy I kb m1 m2 m3 m4
 have eA:powS q dA (i+2)=powS q dA (i+1)+q ^ dA (i+1):=rfl
 have eE:powS q dE (i+1)=powS q dE i+q ^ dE i:=rfl
 have mA:powS q dA (i+2)<=powS q dA (N+1):=by
  have:=zcp (q:=q) (d:=dA) (i+2) (N+1 - (i+2))
  rwa [show i+2+(N+1 - (i+2))=N+1 by omega] at this
 have mE:powS q dE (i+1)<=powS q dE N:=by
  have:=zcp (q:=q) (d:=dE) (i+1) (N - (i+1))
  rwa [show i+1+(N - (i+1))=N by omega] at this
 have b1:=M.out
 have b2:=O.out
 have b3:=o.out
 have b4:=k.out
 have b5:=a3.out
 have b6:=a4.out
 rcases HX.out with ⟨x2,rfl,rfl⟩ | ⟨x2,rfl⟩
 rotate_left
 ·have P:((8:Int) != 0)=true:=by simp
  have H:Hid (¬ SizeIn q s N pv R):=hid fun g=>by
   have:=(F.out.1 g).1
   rw [b3] at x2
   omega
  clear HX HY b1 b2 b3 b4 eA eE mA mE
  go_wp2
  go_ret
  exact ⟨.inr ⟨H.out,rfl⟩,HB.out⟩
 have hz:((0:Int) != 0)=false:=by simp
 rcases HY.out with ⟨y2,rfl,rfl⟩ | ⟨y2,rfl⟩
 ·obtain ⟨qa,y⟩:∃ qa,qa=q ^ a:=⟨_,rfl⟩
  obtain ⟨qb,x⟩:=exx (q ^ b)
  have a2:Hid (nd+qa=powS q dA (i+1+1)):=hid (by rw [y,b3,b1,<-b3]; rw [show i+1+1=i+2 by omega,eA,b3])
  have a5:Hid (ed+qb=powS q dE (i+1)):=hid (by rw [x,b4,b2]; exact eE.symm)
  rw [<-y] at x2;rw [<-x] at y2;rw [<-y,<-x];clear y x HX HY b1 b2 b3 b4 eA eE mA mE
  go_wp2
  go_roundg (gO - 1)
  case measure=>omega
  case rel=>exact ⟨i+1,nd+qa,ed+qb,by go_num,by go_num,by go_num,by omega,by omega,a2,a5,by omega,by omega,HB.out⟩
 have P:((8:Int) != 0)=true:=by simp
 have H:Hid (¬ SizeIn q s N pv R):=hid fun g=>by
  have:=(F.out.1 g).2
  rw [b4] at y2
  omega
 clear HX HY b1 b2 b3 b4 eA eE mA mE
 go_wp2
 go_ret
 exact ⟨.inr ⟨H.out,rfl⟩,HB.out⟩
def stepE (q:Nat) (add mul:Nat->Nat->Nat) (pv:Nat->Nat) (R:Nat->Nat->Nat) (N i t:Nat) (e:Int × Int × Int) (a:Nat):Int × Int × Int :=
 (if pv t<i then e.1*(q:Nat)+(a:Nat) else e.1,((add e.2.1.toNat (mul a (R t i)):Nat):Int),if (i:Int)<lE (R t) N then e.2.2*(q:Nat)+(a:Nat) else e.2.2)
def SecX (q:Nat) (add mul:Nat->Nat->Nat) (pv:Nat->Nat) (R:Nat->Nat->Nat) (N i t:Nat) (x:Nat->Int × Int × Int):Prop :=
 ∀ c:Nat->Nat,(∀ s,c s<q)->x (packB q (actE pv R N i) c t)=secE q add mul pv R N t i c
structure SecM (q:Nat) (add mul:Nat->Nat->Nat) (n N:Nat) (pv:Nat->Nat) (R:Nat->Nat->Nat) (i m:Nat) (y:Nat->Int × Int × Int):Prop where
 el:m=q ^ cntB (actE pv R N i) n
 out:∀ c:Nat->Nat,(∀ s,c s<q)->∃ j,j<m/\y j=secE q add mul pv R N n i c
 inn:∀ j,j<m->∃ c:Nat->Nat,(∀ s,c s<q)/\y j=secE q add mul pv R N n i c
 srt:∀ a b,a<b->b<m->ltE (y a) (y b)
section
variable {q n N:Nat} {add mul:Nat->Nat->Nat} {pv:Nat->Nat} {R:Nat->Nat->Nat} {i:Nat}
theorem zhT:SecX q add mul pv R N i 0 (fun _=>(0,0,0)):=fun _ _=>rfl
theorem zhU (hL:FieldLaws q add mul) (h:SpanF q n N pv R) (hi:i<N) {t:Nat} (ht:t<n) {x:Nat->Int × Int × Int} (hA:actE pv R N i t=false) (hx:SecX q add mul pv R N i t x):SecX q add mul pv R N i (t+1) x:=by
 have hR:R t i=0:=by
  by_cases g1:pv t<=i
  ·by_cases g2:(i:Int)<=lE (R t) N
   ·rw [(zbu i t).2 ⟨g1,g2⟩] at hA
    cases hA
   ·exact zcF (n:=N) hi (by omega)
  ·exact h.low t ht i (by omega)
 have hn:¬ (pv t<=i/\(i:Int)<=lE (R t) N):=fun g=>by rw [(zbu i t).2 g] at hA; cases hA
 have h1:actA pv R N i t=false:=by
  cases hb:actA pv R N i t with
  | false=>rfl
  | true=>have:=(zaM i t).1 hb; exact absurd ⟨by omega,this.2⟩ hn
 have h2:actA pv R N (i+1) t=false:=by
  cases hb:actA pv R N (i+1) t with
  | false=>rfl
  | true=>have:=(zaM (i+1) t).1 hb; exact absurd ⟨by omega,by omega⟩ hn
 intro c hc
 have e0:packB q (actE pv R N i) c (t+1)=packB q (actE pv R N i) c t:=by
  show (if actE pv R N i t then packB q (actE pv R N i) c t*q+c t else packB q (actE pv R N i) c t)=_
  rw [hA]; rfl
 have e1:packB q (actA pv R N i) c (t+1)=packB q (actA pv R N i) c t:=by
  show (if actA pv R N i t then packB q (actA pv R N i) c t*q+c t else packB q (actA pv R N i) c t)=_
  rw [h1]; rfl
 have e2:packB q (actA pv R N (i+1)) c (t+1)=packB q (actA pv R N (i+1)) c t:=by
  show (if actA pv R N (i+1) t then packB q (actA pv R N (i+1)) c t*q+c t else packB q (actA pv R N (i+1)) c t)=_
  rw [h2]; rfl
 have e3:spE add mul R c (t+1) i=spE add mul R c t i:=by
  show add (spE add mul R c t i) (mul (c t) (R t i))=_
  rw [hR,hL.mulZero (hc t),hL.addComm,hL.zeroAdd _ (zcw hL _ _ _)]
 rw [e0,hx c hc]
 unfold secE
 rw [e1,e2,e3]
theorem zhV {t:Nat} {x:Nat->Int × Int × Int} (hA:actE pv R N i t=true) (hx:SecX q add mul pv R N i t x):SecX q add mul pv R N i (t+1) (fun y=>stepE q add mul pv R N i t (x (y / q)) (y % q)):=by
 obtain ⟨g1,g2⟩:=(zbu i t).1 hA
 intro c hc
 have hq:0<q:=by have:=hc 0; omega
 have e0:packB q (actE pv R N i) c (t+1)=packB q (actE pv R N i) c t*q+c t:=by
  show (if actE pv R N i t then packB q (actE pv R N i) c t*q+c t else packB q (actE pv R N i) c t)=_
  rw [hA]; rfl
 have d1:(packB q (actE pv R N i) c t*q+c t) / q=packB q (actE pv R N i) c t:=by
  rw [Nat.mul_comm,Nat.mul_add_div hq,Nat.div_eq_of_lt (hc t),Nat.add_zero]
 have d2:(packB q (actE pv R N i) c t*q+c t) % q=c t:=by
  rw [Nat.mul_add_mod_self_right,Nat.mod_eq_of_lt (hc t)]
 show stepE q add mul pv R N i t (x (packB q (actE pv R N i) c (t+1) / q)) (packB q (actE pv R N i) c (t+1) % q)=_
 rw [e0,d1,d2,hx c hc]
 unfold stepE secE
 have e1:packB q (actA pv R N i) c (t+1)=if pv t<i then packB q (actA pv R N i) c t*q+c t else packB q (actA pv R N i) c t:=by
  show (if actA pv R N i t then packB q (actA pv R N i) c t*q+c t else packB q (actA pv R N i) c t)=_
  by_cases g:pv t<i
  ·rw [(zaM i t).2 ⟨g,g2⟩,if_pos g]; rfl
  have:actA pv R N i t=false:=by
   cases hb:actA pv R N i t with
   | false=>rfl
   | true=>exact absurd ((zaM i t).1 hb).1 g
  rw [this,if_neg g]; rfl
 have e2:packB q (actA pv R N (i+1)) c (t+1)=if (i:Int)<lE (R t) N then packB q (actA pv R N (i+1)) c t*q+c t else packB q (actA pv R N (i+1)) c t:=by
  show (if actA pv R N (i+1) t then packB q (actA pv R N (i+1)) c t*q+c t else packB q (actA pv R N (i+1)) c t)=_
  by_cases g:(i:Int)<lE (R t) N
  ·rw [(zaM (i+1) t).2 ⟨by omega,by omega⟩,if_pos g]; rfl
  have:actA pv R N (i+1) t=false:=by
   cases hb:actA pv R N (i+1) t with
   | false=>rfl
   | true=>have:=((zaM (i+1) t).1 hb).2; omega
  rw [this,if_neg g]; rfl
 rw [e1,e2]
 refine Prod.ext ?_ (Prod.ext ?_ ?_)
 ·show (if pv t<i then _ else _)=_
  split <;> push_cast <;> rfl
 ·show ((add ((spE add mul R c t i:Nat):Int).toNat (mul (c t) (R t i)):Nat):Int)=((add (spE add mul R c t i) (mul (c t) (R t i)):Nat):Int)
  rw [Int.toNat_natCast]
 ·show (if (i:Int)<lE (R t) N then _ else _)=_
  split <;> push_cast <;> rfl
theorem zjO (hL:FieldLaws q add mul) {t:Nat} {x:Nat->Int × Int × Int} (hx:SecX q add mul pv R N i t x) {y:Nat} (hy:y<q ^ cntB (actE pv R N i) t) :
  0<=(x y).1/\(x y).1<((q ^ cntB (actA pv R N i) t:Nat):Int)/\0<=(x y).2.1/\(x y).2.1<(q:Int)/\0<=(x y).2.2/\(x y).2.2<((q ^ cntB (actA pv R N (i+1)) t:Nat):Int):=by
 obtain ⟨c,h1,_,h3⟩:=zaU (by have:=hL.two; omega) t y hy
 have l1:=zb5 (D:=actA pv R N i) t fun s _=>h1 s
 have l2:=zb5 (D:=actA pv R N (i+1)) t fun s _=>h1 s
 have l3:=zcw hL (V:=R) c t i
 rw [<-h3,hx c h1]
 unfold secE
 refine ⟨by show (0:Int)<=((_:Nat):Int); omega,by show (((_:Nat):Int))<((_:Nat):Int); omega,by show (0:Int)<=((_:Nat):Int); omega,by show (((_:Nat):Int))<((_:Nat):Int); omega,by show (0:Int)<=((_:Nat):Int); omega,by show (((_:Nat):Int))<((_:Nat):Int); omega⟩
theorem zgL {D E:Nat->Bool} (h:∀ s,D s=true->E s=true):∀ t,cntB D t<=cntB E t
 | 0=>Nat.le_refl _
 | t+1=>by
  have ih:=zgL h t
  show cntB D t+(if D t then 1 else 0)<=cntB E t+if E t then 1 else 0
  cases hD:D t with
  | false=>cases E t <;> simp <;> omega
  | true=>rw [h t hD]; simp; omega
theorem zgM (D:Nat->Bool):∀ t d,cntB D t<=cntB D (t+d)
 | _,0=>Nat.le_refl _
 | t,d+1=>by
  have:=zgM D t d
  show cntB D t<=cntB D (t+d)+if D (t+d) then 1 else 0
  omega
theorem zjP (hL:FieldLaws q add mul) (h:SpanF q n N pv R) (hi:i<N) {x y:Nat->Int × Int × Int} (hx:SecX q add mul pv R N i n x)
  (hp:((List.range (q ^ cntB (actE pv R N i) n)).map y).Perm ((List.range (q ^ cntB (actE pv R N i) n)).map x)) (hs:∀ a b,a<b->b<q ^ cntB (actE pv R N i) n->¬ ltE (y b) (y a)) :
  SecM q add mul n N pv R i (q ^ cntB (actE pv R N i) n) y:=by
 have hq:0<q:=by have:=hL.two; omega
 have d:∀ j,j<q ^ cntB (actE pv R N i) n->∃ c:Nat->Nat,(∀ s,c s<q)/\x j=secE q add mul pv R N n i c:=fun j hj=>by
  obtain ⟨c,h1,_,h3⟩:=zaU hq n j hj
  exact ⟨c,h1,by rw [<-h3,hx c h1]⟩
 have k:((((List.range (q ^ cntB (actE pv R N i) n)).map x)).map fun t=>(t.1,t.2.1)).Nodup:=by
  rw [List.map_map]
  refine zaF.2 fun a b hab hb e=>?_
  obtain ⟨c,h1,_,h3⟩:=zaU hq (D:=actE pv R N i) n a (by omega)
  obtain ⟨c',g,_,m⟩:=zaU hq (D:=actE pv R N i) n b hb
  simp only [Function.comp,Prod.mk.injEq] at e
  rw [<-h3,<-m,hx c h1,hx c' g] at e
  have:=zi7 (q:=q) (zi6 hL h hi h1 g e.1 e.2)
  omega
 have f:=((hp.map fun t=>(t.1,t.2.1)).nodup_iff).2 k
 rw [List.map_map] at f
 refine ⟨rfl,fun c hc=>?_,fun j hj=>?_,fun a b hab hb=>?_⟩
 ·have:=hp.mem_iff.2 (List.mem_map.2 ⟨packB q (actE pv R N i) c n,List.mem_range.2 (zb5 n fun s _=>hc s),rfl⟩)
  obtain ⟨j,hj,e⟩:=List.mem_map.1 this
  exact ⟨j,List.mem_range.1 hj,by rw [e,hx c hc]⟩
 ·have:=hp.mem_iff.1 (List.mem_map.2 ⟨j,List.mem_range.2 hj,rfl⟩)
  obtain ⟨p,l,e⟩:=List.mem_map.1 this
  obtain ⟨c,h1,h2⟩:=d p (List.mem_range.1 l)
  exact ⟨c,h1,by rw [<-e,h2]⟩
 have h3:=zaF.1 f a b hab hb
 have h4:=hs a b hab hb
 simp only [Function.comp,ne_eq,Prod.mk.injEq] at h3
 unfold ltE at *
 omega
end
end Go.Proofs.YtgekjfpapmlndaaGreat
namespace Go.Proofs
open Go.Shelf
def Tryz.sortInts_ren:Go.Shelf.Ren:=⟨fun | 6 => 156 | 15 => 202 | 14 => 208 | 28 => 219 | 29 => 237 | 20 => 242 | 21 => 243 | 22 => 244 | 23 => 245 | 24 => 246 | 25 => 247 | 26 => 248 | 27 => 249 | 46 => 265 | 47 => 255 | 48 => 256 | 49 => 266 | 50 => 267 | 57 => 269 | n=>n,fun | 22 => 22 | 24 => 3 | 25 => 123 | 3 => 3 | 39 => 200 | 0 => 0 | 53 => 109 | 55 => 71 | 4 => 4 | 46 => 253 | 45 => 252 | 50 => 130 | 5 => 5 | 9 => 9 | 66 => 268 | 70 => 272 | 76 => 280 | 77 => 101 | n=>n,fun | n=>n⟩
theorem Tryz.sortInts:Go.Proofs.SlLaysF.n6 Tryz.prog Tryz.sortInts_ren:={
 mixed:=by kernel_rfl
 f6:=⟨Tryz.f156.name,by decide,Tryz.func156.trans (congrArg some (by kernel_rfl))⟩
 f14:=⟨Tryz.f208.name,by decide,Tryz.func208.trans (congrArg some (by kernel_rfl))⟩
 f15:=Tryz.func202.trans (congrArg some (by kernel_rfl))
 f20:=⟨Tryz.f242.name,by decide,Tryz.func242.trans (congrArg some (by kernel_rfl))⟩
 f21:=⟨Tryz.f243.name,by decide,Tryz.func243.trans (congrArg some (by kernel_rfl))⟩
 f22:=⟨Tryz.f244.name,by decide,Tryz.func244.trans (congrArg some (by kernel_rfl))⟩
 f23:=⟨Tryz.f245.name,by decide,Tryz.func245.trans (congrArg some (by kernel_rfl))⟩
 f24:=⟨Tryz.f246.name,by decide,Tryz.func246.trans (congrArg some (by kernel_rfl))⟩
 f25:=⟨Tryz.f247.name,by decide,Tryz.func247.trans (congrArg some (by kernel_rfl))⟩
 f26:=⟨Tryz.f248.name,by decide,Tryz.func248.trans (congrArg some (by kernel_rfl))⟩
 f27:=⟨Tryz.f249.name,by decide,Tryz.func249.trans (congrArg some (by kernel_rfl))⟩
 f28:=Tryz.func219.trans (congrArg some (by kernel_rfl))
 f29:=Tryz.func237.trans (congrArg some (by kernel_rfl))
 f46:=⟨Tryz.f265.name,by decide,Tryz.func265.trans (congrArg some (by kernel_rfl))⟩
 f47:=Tryz.func255.trans (congrArg some (by kernel_rfl))
 f48:=Tryz.func256.trans (congrArg some (by kernel_rfl))
 f49:=⟨Tryz.f266.name,by decide,Tryz.func266.trans (congrArg some (by kernel_rfl))⟩
 f50:=⟨Tryz.f267.name,by decide,Tryz.func267.trans (congrArg some (by kernel_rfl))⟩
 f57:=⟨Tryz.f269.name,by decide,Tryz.func269.trans (congrArg some (by kernel_rfl))⟩
 t0:=Tryz.underlying0
 a0:=Tryz.isAgg0
 z0:=Tryz.sizeOf0
 v0:=Tryz.zeroValue0
 t3:=Tryz.underlying3
 a3:=Tryz.isAgg3
 z3:=Tryz.sizeOf3
 v3:=Tryz.zeroValue3
 t4:=Tryz.underlying4
 a4:=Tryz.isAgg4
 z4:=Tryz.sizeOf4
 v4:=Tryz.zeroValue4
 t5:=Tryz.underlying5
 a5:=Tryz.isAgg5
 z5:=Tryz.sizeOf5
 v5:=Tryz.zeroValue5
 t9:=Tryz.underlying9
 a9:=Tryz.isAgg9
 z9:=Tryz.sizeOf9
 v9:=Tryz.zeroValue9
 t22:=Tryz.underlying22
 a22:=Tryz.isAgg22
 z22:=Tryz.sizeOf22
 v22:=Tryz.zeroValue22
 a24:=Tryz.isAgg3
 z24:=Tryz.sizeOf3
 t25:=Tryz.underlying123
 a25:=Tryz.isAgg123
 z25:=Tryz.sizeOf123
 v25:=Tryz.zeroValue123
 t39:=Tryz.underlying200
 a39:=Tryz.isAgg200
 z39:=Tryz.sizeOf200
 v39:=Tryz.zeroValue200
 t45:=Tryz.underlying252
 a45:=Tryz.isAgg252
 z45:=Tryz.sizeOf252
 v45:=Tryz.zeroValue252
 t46:=Tryz.underlying253
 a46:=Tryz.isAgg253
 z46:=Tryz.sizeOf253
 v46:=Tryz.zeroValue253
 t50:=Tryz.underlying130
 a50:=Tryz.isAgg130
 z50:=Tryz.sizeOf130
 v50:=Tryz.zeroValue130
 t53:=Tryz.underlying109
 a53:=Tryz.isAgg109
 z53:=Tryz.sizeOf109
 v53:=Tryz.zeroValue109
 t55:=Tryz.underlying71
 a55:=Tryz.isAgg71
 z55:=Tryz.sizeOf71
 v55:=Tryz.zeroValue71
 t66:=Tryz.underlying268
 a66:=Tryz.isAgg268
 z66:=Tryz.sizeOf268
 v66:=Tryz.zeroValue268
 t70:=Tryz.underlying272
 a70:=Tryz.isAgg272
 z70:=Tryz.sizeOf272
 v70:=Tryz.zeroValue272
 t76:=Tryz.underlying280
 a76:=Tryz.isAgg280
 z76:=Tryz.sizeOf280
 v76:=Tryz.zeroValue280
 t77:=Tryz.underlying101
 a77:=Tryz.isAgg101
 z77:=Tryz.sizeOf101
 v77:=Tryz.zeroValue101 }
def Tryz.sortEdges_ren:Go.Shelf.Ren:=⟨fun | 6 => 150 | 15 => 202 | 14 => 201 | 28 => 219 | 29 => 237 | 20 => 229 | 21 => 230 | 22 => 231 | 23 => 232 | 24 => 233 | 25 => 234 | 26 => 235 | 27 => 236 | 46 => 254 | 47 => 255 | 48 => 256 | 49 => 257 | 50 => 258 | 57 => 268 | n=>n,fun | 22 => 86 | 24 => 90 | 25 => 184 | 3 => 3 | 39 => 200 | 0 => 0 | 53 => 109 | 55 => 71 | 4 => 4 | 46 => 253 | 45 => 252 | 50 => 130 | 5 => 5 | 9 => 9 | 66 => 268 | 70 => 272 | 76 => 280 | 77 => 101 | n=>n,fun | n=>n⟩
theorem Tryz.sortEdges:Go.Proofs.SlLaysF0.n6 Tryz.prog Tryz.sortEdges_ren:={
 mixed:=by kernel_rfl
 f6:=⟨Tryz.f150.name,by decide,Tryz.func150.trans (congrArg some (by kernel_rfl))⟩
 f14:=⟨Tryz.f201.name,by decide,Tryz.func201.trans (congrArg some (by kernel_rfl))⟩
 f15:=Tryz.func202.trans (congrArg some (by kernel_rfl))
 f20:=⟨Tryz.f229.name,by decide,Tryz.func229.trans (congrArg some (by kernel_rfl))⟩
 f21:=⟨Tryz.f230.name,by decide,Tryz.func230.trans (congrArg some (by kernel_rfl))⟩
 f22:=⟨Tryz.f231.name,by decide,Tryz.func231.trans (congrArg some (by kernel_rfl))⟩
 f23:=⟨Tryz.f232.name,by decide,Tryz.func232.trans (congrArg some (by kernel_rfl))⟩
 f24:=⟨Tryz.f233.name,by decide,Tryz.func233.trans (congrArg some (by kernel_rfl))⟩
 f25:=⟨Tryz.f234.name,by decide,Tryz.func234.trans (congrArg some (by kernel_rfl))⟩
 f26:=⟨Tryz.f235.name,by decide,Tryz.func235.trans (congrArg some (by kernel_rfl))⟩
 f27:=⟨Tryz.f236.name,by decide,Tryz.func236.trans (congrArg some (by kernel_rfl))⟩
 f28:=Tryz.func219.trans (congrArg some (by kernel_rfl))
 f29:=Tryz.func237.trans (congrArg some (by kernel_rfl))
 f46:=⟨Tryz.f254.name,by decide,Tryz.func254.trans (congrArg some (by kernel_rfl))⟩
 f47:=Tryz.func255.trans (congrArg some (by kernel_rfl))
 f48:=Tryz.func256.trans (congrArg some (by kernel_rfl))
 f49:=⟨Tryz.f257.name,by decide,Tryz.func257.trans (congrArg some (by kernel_rfl))⟩
 f50:=⟨Tryz.f258.name,by decide,Tryz.func258.trans (congrArg some (by kernel_rfl))⟩
 f57:=⟨Tryz.f268.name,by decide,Tryz.func268.trans (congrArg some (by kernel_rfl))⟩
 t0:=Tryz.underlying0
 a0:=Tryz.isAgg0
 z0:=Tryz.sizeOf0
 v0:=Tryz.zeroValue0
 t3:=Tryz.underlying3
 a3:=Tryz.isAgg3
 z3:=Tryz.sizeOf3
 v3:=Tryz.zeroValue3
 t4:=Tryz.underlying4
 a4:=Tryz.isAgg4
 z4:=Tryz.sizeOf4
 v4:=Tryz.zeroValue4
 t5:=Tryz.underlying5
 a5:=Tryz.isAgg5
 z5:=Tryz.sizeOf5
 v5:=Tryz.zeroValue5
 t9:=Tryz.underlying9
 a9:=Tryz.isAgg9
 z9:=Tryz.sizeOf9
 v9:=Tryz.zeroValue9
 t22:=Tryz.underlying86
 a22:=Tryz.isAgg86
 z22:=Tryz.sizeOf86
 v22:=Tryz.zeroValue86
 t25:=Tryz.underlying184
 a25:=Tryz.isAgg184
 z25:=Tryz.sizeOf184
 v25:=Tryz.zeroValue184
 t39:=Tryz.underlying200
 a39:=Tryz.isAgg200
 z39:=Tryz.sizeOf200
 v39:=Tryz.zeroValue200
 t45:=Tryz.underlying252
 a45:=Tryz.isAgg252
 z45:=Tryz.sizeOf252
 v45:=Tryz.zeroValue252
 t46:=Tryz.underlying253
 a46:=Tryz.isAgg253
 z46:=Tryz.sizeOf253
 v46:=Tryz.zeroValue253
 t50:=Tryz.underlying130
 a50:=Tryz.isAgg130
 z50:=Tryz.sizeOf130
 v50:=Tryz.zeroValue130
 t53:=Tryz.underlying109
 a53:=Tryz.isAgg109
 z53:=Tryz.sizeOf109
 v53:=Tryz.zeroValue109
 t55:=Tryz.underlying71
 a55:=Tryz.isAgg71
 z55:=Tryz.sizeOf71
 v55:=Tryz.zeroValue71
 t66:=Tryz.underlying268
 a66:=Tryz.isAgg268
 z66:=Tryz.sizeOf268
 v66:=Tryz.zeroValue268
 t70:=Tryz.underlying272
 a70:=Tryz.isAgg272
 z70:=Tryz.sizeOf272
 v70:=Tryz.zeroValue272
 t76:=Tryz.underlying280
 a76:=Tryz.isAgg280
 z76:=Tryz.sizeOf280
 v76:=Tryz.zeroValue280
 t77:=Tryz.underlying101
 a77:=Tryz.isAgg101
 z77:=Tryz.sizeOf101
 v77:=Tryz.zeroValue101 }
def Tryz.cmpInt_ren:Go.Shelf.Ren:=⟨fun | 5 => 157 | 7 => 209 | n=>n,fun | 22 => 3 | 3 => 3 | 4 => 4 | n=>n,fun | n=>n⟩
theorem Tryz.cmpInt:Go.Proofs.SlLaysC2.n5 Tryz.prog Tryz.cmpInt_ren:={
 mixed:=by kernel_rfl
 f5:=⟨Tryz.f157.name,by decide,Tryz.func157.trans (congrArg some (by kernel_rfl))⟩
 f7:=⟨Tryz.f209.name,by decide,Tryz.func209.trans (congrArg some (by kernel_rfl))⟩
 t3:=Tryz.underlying3
 a3:=Tryz.isAgg3
 z3:=Tryz.sizeOf3
 v3:=Tryz.zeroValue3
 t4:=Tryz.underlying4
 a4:=Tryz.isAgg4
 z4:=Tryz.sizeOf4
 v4:=Tryz.zeroValue4
 t22:=Tryz.underlying3
 a22:=Tryz.isAgg3
 z22:=Tryz.sizeOf3
 v22:=Tryz.zeroValue3 }
end Go.Proofs
namespace Go.Proofs.YtgekjfpapmlndaaGreat
open Go.RowKit
def GG (w w':World):Prop:=∃ q os,w'=Go.Sort.grow (w.drewN q) os
theorem GG.refl (w:World):GG w w:=⟨0,#[],by rw [Go.Sort.grow_empty]; rfl⟩
theorem GG.trans {a b c:World} (h:GG a b) (k:GG b c):GG a c:=by
 obtain ⟨q,os,rfl⟩:=h
 obtain ⟨q',os',rfl⟩:=k
 refine ⟨q+q',os ++ os',?_⟩
 show Go.Sort.grow (Go.Sort.grow ((a.drewN q).drewN q') os) os'=_
 rw [Go.Sort.grow_grow,World.drewN_drewN]
theorem GG.alloc {a b:World} (h:GG a b) {o:Obj}:GG a (b.alloc o):=h.trans ⟨0,#[o],by rw [Go.Sort.alloc_eq_grow]; rfl⟩
theorem GG.drew {a b:World} (h:GG a b):GG a b.drew:=h.trans ⟨1,#[],by rw [Go.Sort.grow_empty]; rfl⟩
theorem GG.below {a b:World} (h:GG a b):Below a.heap.size a b:=by
 obtain ⟨q,os,rfl⟩:=h
 exact ⟨rfl,rfl,rfl,by simp [Go.Sort.grow,World.drewN],fun k hk=>Go.Sort.heap_grow_old (a.drewN q) os hk⟩
theorem zjQ (a b:Int):Go.Lib.compareInt a b=cmpI a b:=rfl
theorem zjR (a b:Int) (w:World):Calls Tryz.prog 157 #[.int .i64 a,.int .i64 b] w fun e w'=>e=.returned (.int .i64 (cmpI a b))/\Below w.heap.size w w'/\GG w w' :=
 (show Calls Tryz.prog 157 _ _ _ from AnyG.cmp_Compare_int Tryz.cmpInt a b w).mono fun _ _ ⟨he,hw⟩=>⟨by rw [he,zjQ],by rw [hw]; exact Below.refl _ _,by rw [hw]; exact GG.refl _⟩
theorem zja (A:Option Addr) (c:Nat) (f:Nat->Int) (w:World) (h:IntsR w w.heap.size A 2 f) :
  Calls Tryz.prog 203 #[.slice A 2 c] w fun e w'=>e=.returned (.int .i64 (orV (f 0) (f 1)))/\w'=w:=by
 obtain ⟨b,o,rfl,hb,x0⟩:=h.at (i:=0) (by omega)
 obtain ⟨_,_,e1,_,x1⟩:=h.at (i:=1) (by omega)
 injection e1 with e1; injection e1 with e1 e2; subst e1 e2
 obtain ⟨x,hx⟩:=exx (f 0)
 obtain ⟨y,hy⟩:=exx (f 1)
 rw [<-hx] at x0 ⊢;rw [<-hy] at x1 ⊢;clear hx hy h
 go_enter Tryz.func203, Tryz.ntmps203
 go_wp2
 go_loopg [5,8] 2 (fun gg ev iv wx=>∃ k:Nat,iv=.int .i64 (k:Nat)/\k<=2/\2<=k+gg/\(1<=k->x=0)/\(2<=k->y=0)/\wx=w)
 case atStart=>exact ⟨0,rfl,by omega,by omega,fun h=>absurd h (by omega),fun h=>absurd h (by omega),rfl⟩
 obtain ⟨k,rfl,hk,j,h1,h2,rfl⟩:=hrel
 have H1:=hid h1
 have H2:=hid h2
 clear h1 h2
 by_cases hk2:k=2
 ·have g:¬ (k:Int)<2:=by omega
  have hE:Hid (orV x y=0):=by
   show _=_
   unfold orV
   rw [if_pos (H1.out (by omega)),H2.out (by omega)]
  clear hk2
  go_wp2
  go_ret
  exact ⟨zas hE.out.symm,rfl⟩
 have g:(k:Int)<2:=by omega
 have l:(0:Int)<=(k:Int):=by omega
 by_cases hk1:k=0
 ·have xk:wr.cell? ⟨b,o+k,none⟩=some (.int .i64 x):=by rw [hk1]; exact x0
  by_cases hx:x=0
  ·have d:(x != 0)=false:=by simp [hx]
   have a:(x == 0)=true:=by simp [hx]
   have HX:=hid hx
   have HK:=hid hk1
   clear hx x0 x1 hk1 hk2
   go_wp2
   go_roundg (gk - 1)
   case measure=>omega
   case rel=>exact ⟨k+1,by go_num,by omega,by omega,fun _=>HX.out,fun h=>absurd h (by have:=HK.out; omega),rfl⟩
  have d:(x != 0)=true:=by simp [hx]
  have a:(x == 0)=false:=by simp [hx]
  have hE:Hid (orV x y=x):=if_neg hx
  clear hx x0 x1 hk1 hk2
  go_wp2
  go_ret
  exact ⟨zas hE.out.symm,rfl⟩
 have xk:wr.cell? ⟨b,o+k,none⟩=some (.int .i64 y):=by rw [show k=1 by omega]; exact x1
 have hx:x=0:=H1.out (by omega)
 by_cases hy:y=0
 ·have d:(y != 0)=false:=by simp [hy]
  have a:(y == 0)=true:=by simp [hy]
  have HX:=hid hx
  have HY:=hid hy
  clear hx hy x0 x1 hk1 hk2
  go_wp2
  go_roundg (gk - 1)
  case measure=>omega
  case rel=>exact ⟨k+1,by go_num,by omega,by omega,fun _=>HX.out,fun _=>HY.out,rfl⟩
 have d:(y != 0)=true:=by simp [hy]
 have a:(y == 0)=false:=by simp [hy]
 have hE:Hid (orV x y=y):=if_pos hx
 clear hx hy x0 x1 hk1 hk2
 go_wp2
 go_ret
 exact ⟨zas hE.out.symm,rfl⟩
theorem zhW (A:Option Addr) (c:Nat) (f:Nat->Int) (w:World) (h:IntsR w w.heap.size A 2 f) :
  Calls Tryz.prog 203 #[.slice A 2 c] w fun e w'=>e=.returned (.int .i64 (orV (f 0) (f 1)))/\Below w.heap.size w w'/\GG w w' :=
 (zja A c f w h).mono fun _ _ ⟨he,hw⟩=>⟨he,by rw [hw]; exact Below.refl _ _,by rw [hw]; exact GG.refl _⟩
theorem ziA (f l t f' l' t':Int) (w:World) :
  Calls Tryz.prog 151 #[.agg #[.int .i64 f,.int .i64 l,.int .i64 t],.agg #[.int .i64 f',.int .i64 l',.int .i64 t']] w fun e w'=>e=.returned (.int .i64 (lessV f l f' l'))/\Below w.heap.size w w'/\GG w w':=by
 go_enter Tryz.func151, Tryz.ntmps151
 go_upto_region 1 with fail
 obtain ⟨B1,c⟩:=exx ((Obj.cells #[.int .i64 f,.int .i64 l,.int .i64 t] 90))
 obtain ⟨B2,b⟩:=exx ((Obj.cells #[.int .i64 f',.int .i64 l',.int .i64 t'] 90))
 rw [<-c,<-b]
 have a:Below (w.heap.size+1) (w.alloc B1) ((w.alloc B1).alloc B2):=(Below.refl _ _).alloc (by simp) _
 have hW:=zax a
 have hG:GG w ((w.alloc B1).alloc B2):=(GG.refl w).alloc.alloc
 have p0:((w.alloc B1).alloc B2).cell? ⟨w.heap.size,0,none⟩=some (.int .i64 f):=by subst c; exact tbox a rfl
 have p1:((w.alloc B1).alloc B2).cell? ⟨w.heap.size,1,none⟩=some (.int .i64 l):=by subst c; exact tbox a rfl
 have p2:((w.alloc B1).alloc B2).cell? ⟨w.heap.size+1,0,none⟩=some (.int .i64 f'):=by subst b; simp
 have p3:((w.alloc B1).alloc B2).cell? ⟨w.heap.size+1,1,none⟩=some (.int .i64 l'):=by subst b; simp
 obtain ⟨w1,d⟩:∃ W,W=(w.alloc B1).alloc B2:=⟨_,rfl⟩
 rw [<-d] at hW hG p0 p1 p2 p3 ⊢;clear a d c b
 refine wp_region_held_drew (S:=fun w'=>w'.cell? ⟨w.heap.size,0,none⟩=some (.int .i64 f)/\w'.cell? ⟨w.heap.size,1,none⟩=some (.int .i64 l)/\w'.cell? ⟨w.heap.size+1,0,none⟩=some (.int .i64 f')/\w'.cell? ⟨w.heap.size+1,1,none⟩=some (.int .i64 l')) (by kernel_rfl) ⟨cellS (Below.refl _ _).drew p0,cellS (Below.refl _ _).drew p1,cellS (Below.refl _ _).drew p2,cellS (Below.refl _ _).drew p3⟩ (fun hHeld=>?_)
 obtain ⟨w2,hw,kb⟩:=dwx w1
 have kg:GG w1 w2:=by rw [hw]; exact (GG.refl _).drew
 rw [<-hw] at hHeld ⊢;clear hw;replace hW:=onS hW kb;replace p0:=cellS kb p0;replace p1:=cellS kb p1;replace p2:=cellS kb p2;replace p3:=cellS kb p3;clear kb;replace hG:=hG.trans kg;clear kg
 refine tkq 0 (h:=tkq 1 (h:=tkq 2 (h:=tkq 3 (h:=tkq 5 (h:=tkq 6 (h:=tkq 7 (h:=tkq 8 (h:=?_))))))))
 refine rdq 4 (h:=fun K hK=>?_)
 go_simp
 go_wp2_with fail
 refine (zjR f f' w2).mono ?_
 rintro e w3 ⟨rfl,kb,kg⟩
 replace hW:=onS hW kb;replace p0:=cellS kb p0;replace p1:=cellS kb p1;replace p2:=cellS kb p2;replace p3:=cellS kb p3;clear kb;replace hG:=hG.trans kg;clear kg
 refine bkq hK ⟨p0,p1,p2,p3⟩ (h:=fun hHeld=>?_)
 clear hK K
 refine rdq 9 (h:=fun K hK=>?_)
 go_simp
 go_wp2_with fail
 refine (zjR l l' w3).mono ?_
 rintro e w4 ⟨rfl,kb,kg⟩
 replace hW:=onS hW kb;replace p0:=cellS kb p0;replace p1:=cellS kb p1;replace p2:=cellS kb p2;replace p3:=cellS kb p3;clear kb;replace hG:=hG.trans kg;clear kg
 refine bkq hK ⟨p0,p1,p2,p3⟩ (h:=fun hHeld=>?_)
 clear hK K
 refine rdq 10 (h:=fun K hK=>?_)
 go_simp
 obtain ⟨w5,hw⟩:=exx (World.alloc w4 (Obj.cells #[.int .i64 (cmpI f f'),.int .i64 (cmpI l l')] 3))
 have kb:=alx hw
 have kg:GG w4 w5:=by rw [hw]; exact (GG.refl _).alloc
 have hi:IntsR w5 w5.heap.size (some ⟨w4.heap.size,0,none⟩) 2 (fun i=>if i=0 then cmpI f f' else cmpI l l'):=by
  rw [hw]
  intro i hi
  refine ⟨_,0,rfl,by simp,fun j hj=>?_⟩
  obtain rfl:j=0:=by omega
  match i,hi with
  | 0,_=>simp
  | 1,_=>simp
 rw [<-hw];clear hw
 obtain ⟨nb,g⟩:=exx w4.heap.size
 rw [<-g] at hi ⊢;clear g;replace hW:=onS hW kb;replace p0:=cellS kb p0;replace p1:=cellS kb p1;replace p2:=cellS kb p2;replace p3:=cellS kb p3;clear kb;replace hG:=hG.trans kg;clear kg
 refine bkq hK ⟨p0,p1,p2,p3⟩ (h:=fun hHeld=>?_)
 clear hK K
 refine rdq 11 (h:=fun K hK=>?_)
 go_simp
 go_wp2_with fail
 refine ((show Calls _ _ _ _ (fun e w'=>e=.returned (.int .i64 (lessV f l f' l'))/\Below w5.heap.size w5 w'/\GG w5 w') from zhW (some ⟨nb,0,none⟩) 2 _ w5 hi)).mono ?_
 rintro e w6 ⟨rfl,kb,kg⟩
 replace hW:=onS hW kb;replace p0:=cellS kb p0;replace p1:=cellS kb p1;replace p2:=cellS kb p2;replace p3:=cellS kb p3;replace hi:=hi.on kb;clear kb;replace hG:=hG.trans kg;clear kg
 refine bkq hK ⟨p0,p1,p2,p3⟩ (h:=fun hHeld=>?_)
 clear hK K
 refine tkq 12 (h:=?_)
 refine wpAnyH_done (by kernel_rfl) ?_ _
 clear hHeld
 go_wp2_with fail
 go_ret
 exact ⟨rfl,hW,hG⟩
section
variable {α:Type} [Inhabited α] {w:World} {base:Nat} {e:TypeId} {s n g o cap:Nat} {f f':Nat->Nat->Value}
theorem zfI (enc:α->Value) (w:World) (m g o:Nat) (d:Array α) (os:Array Obj) {cur:Array Value} {e:TypeId} {fr:Nat × Nat} (hg:w.heap[g]?=some (.cells cur e fr)) :
  (sortWorld enc w g o m d os).heap[g]?=some (.cells (Go.Sort.putCells enc o d cur) e fr):=by
 have a:=(Array.getElem?_eq_some_iff.1 hg).1
 unfold sortWorld
 rw [Go.Sort.heap_grow_old _ _ (by rw [Go.Sort.size_putRow]; exact a)]
 show (w.heap.modify g (Go.Sort.onCells (Go.Sort.putCells enc o d)))[g]?=_
 rw [Array.getElem?_modify,if_pos rfl,hg]
 rfl
theorem zbi (enc:α->Value) (w:World) (m g o:Nat) (d:Array α) (os:Array Obj):w.grownBy (sortWorld enc w g o m d os) (some g):=by
 refine ⟨rfl,rfl,rfl,by unfold sortWorld; rw [Go.Sort.size_grow,Go.Sort.size_putRow,Go.Sort.heap_ahead]; omega,fun k hk hne=>?_⟩
 unfold sortWorld
 rw [Go.Sort.heap_grow_old _ _ (by rw [Go.Sort.size_putRow]; exact hk)]
 show (w.heap.modify g _)[k]?=_
 rw [Array.getElem?_modify,if_neg (fun h=>hne (by rw [h]))]
theorem zd9 (enc:α->Value) (d:Array α) (m:Nat) (os:Array Obj) (h:Own w base e s (.slice (some ⟨g,o,none⟩) n cap) n f) (hd:d.size=n*s) (hf:∀ i,i<n->∀ j,j<s->enc d[i*s+j]! =f' i j) :
  Own (sortWorld enc w g o m d os) base e s (.slice (some ⟨g,o,none⟩) n cap) n f':=by
 rcases h with ⟨h,_⟩ | ⟨g',o',cap',cur,h1,hb,hg,hc,hm,h6,h7⟩
 ·cases h
 injection h1 with h1 _ h2
 injection h1 with h1
 injection h1 with h1 h3
 subst h1 h2 h3
 refine .inr ⟨g,o,cap,_,rfl,hb,zfI enc w m g o d os hg,hc,hm,by simpa [Go.Sort.putCells] using h6,fun i hi j hj=>?_⟩
 have b:i*s+j<n*s:=by
  have h1:(i+1)*s<=n*s:=Nat.mul_le_mul_right _ hi
  rw [Nat.add_mul,Nat.one_mul] at h1
  omega
 have a:o+i*s+j<cur.size:=by
  have h1:n*s<=cap*s:=Nat.mul_le_mul_right _ hc
  omega
 simp only [Go.Sort.putCells,Array.getElem?_mapIdx]
 rw [Array.getElem?_eq_getElem a,Option.map_some,if_pos ⟨by omega,by omega⟩,show o+i*s+j - o=i*s+j by omega,hf i hi j hj]
theorem zfc (enc:α->Value) (d:Array α) (h:Own w base e s (.slice (some ⟨g,o,none⟩) n cap) n f) (hs:0<s) (hn:0<n) (hd:d.size=n*s) (hf:∀ i,i<n->∀ j,j<s->enc d[i*s+j]! =f i j) :
  Go.Sort.Holds enc w g o d:=by
 intro t ht
 obtain ⟨g',o',c',h1,_,_,_,_,hc⟩:=h.form hn
 injection h1 with h1 _ h2
 injection h1 with h1
 injection h1 with h1 h3
 subst h1 h2 h3
 have h1:t / s<n:=Nat.div_lt_of_lt_mul (by rw [Nat.mul_comm]; omega)
 have h2:t % s<s:=Nat.mod_lt _ hs
 have h3:=hc _ h1 _ h2
 have h4:t / s*s+t % s=t:=by rw [Nat.mul_comm]; exact Nat.div_add_mod t s
 rw [Nat.add_assoc,h4,<-hf _ h1 _ h2,h4] at h3
 exact ⟨h3,h.frozen _⟩
end
theorem zcQ {α:Type} [Inhabited α] {d d':Array α} (h:Go.Sort.PermIn 0 d.size d d'):d'.toList.Perm d.toList:=by
 obtain ⟨h1,_,h3⟩:=h
 have e1:d'.extract 0 d.size=d':=by rw [<-h1]; simp
 have e2:d.extract 0 d.size=d:=by simp
 rw [e1,e2] at h3
 exact h3
def CmpN (g:Nat) (cb:Array Value) (n:Nat) (cf:Nat->Nat->Int) (w:World) (row:Option Nat):Prop :=
 ∀ W,w.grownBy W row->∀ u v,u<n->v<n->Calls Tryz.prog g (#[.int .i64 (u:Nat),.int .i64 (v:Nat)] ++ cb) W fun e w'=>e=.returned (.int .i64 (cf u v))/\GG W w'
def encN (n:Nat) (x:Fin n):Value:=.int .i64 (x.val:Nat)
theorem zeD (g:Nat) (cb:Array Value) (n:Nat) (cf:Nat->Nat->Int) (key:Nat->Nat) (w:World) (base:Nat) (v:Value)
  (eg:∀ args w,(callFunc g args).run Tryz.prog w=.ok (.enter g args) w) (hcmp:CmpN g cb n cf w v.ownBlock) (hlt:∀ u v,u<n->v<n->(cf u v<0↔key u<key v))
  (h:Own w base 3 1 v n (fun i _=>.int .i64 (i:Nat))) (hn:0<n) (hsz:n<=1048576) :
  Calls Tryz.prog 156 #[v,.func (.func g) #[] cb] w fun e w'=>e=.returned (.tuple #[]) /\
   ∃ l:List Nat,l.Perm (List.range n)/\(∀ p q,p<q->q<n->key (l.getD p 0)<=key (l.getD q 0))/\Own w' base 3 1 v n (fun i _=>.int .i64 (l.getD i 0:Nat))/\w.grownBy w' v.ownBlock:=by
 obtain ⟨blk,off,cap,rfl,_,hb,_⟩:=h.form hn
 haveI:Inhabited (Fin n):=⟨⟨0,hn⟩⟩
 have o:∀ i (hi:i<n),((Array.ofFn fun i:Fin n=>i)[i]!:Fin n)=⟨i,hi⟩:=fun i hi=>by
  rw [getElem!_pos _ i (by simpa using hi)]
  simp
 have b:(Array.ofFn fun i:Fin n=>i).size=n:=by simp
 have a:(Array.ofFn fun i:Fin n=>i).toList.map (·.val)=List.range n:=by
  apply List.ext_getElem (by simp)
  intro i h1 h2
  simp
 obtain ⟨d,hd⟩:∃ d:Array (Fin n),d=Array.ofFn fun i=>i:=⟨_,rfl⟩
 rw [<-hd] at o b a
 have hO:Go.Sort.SWO (ltOf fun x y:Fin n=>cf x.val y.val):=by
  have hl:∀ x y:Fin n,ltOf (fun x y:Fin n=>cf x.val y.val) x y=decide (key x.val<key y.val):=fun x y=>by
   unfold ltOf
   exact decide_eq_decide.2 (hlt x.val y.val x.2 y.2)
  exact ⟨fun x=>by rw [hl]; simp,fun x y z h1 h2=>by rw [hl] at *; simp at *; omega,fun x y z h1 h2=>by rw [hl] at *; simp at *; omega⟩
 have hH:Go.Sort.Holds (encN n) w blk off d:=zfc (encN n) d h (by omega) hn (by rw [b]; omega) fun i hi j hj=>by
  obtain rfl:j=0:=by omega
  rw [show i*1+0=i by omega,o i hi]
  rfl
 have hc:CmpLays1 Tryz.prog g cb (encN n) (fun x y:Fin n=>cf x.val y.val) blk off d.size w:=fun m os dk _ x y =>
  hcmp _ (zbi (encN n) w m blk off dk os) x.val y.val x.2 y.2
 have c:=Any.slices_SortFunc Tryz.sortInts (encN n) (fun _=>rfl) (fun x y:Fin n=>cf x.val y.val) hO g cb blk off cap d w eg hc hH hb (by rw [b]; omega)
 rw [b] at c
 refine Calls.mono (show Calls Tryz.prog 156 _ _ _ from c) ?_
 rintro e w' ⟨rfl,d',m,os,hp,k,rfl⟩
 refine ⟨rfl,d'.toList.map (·.val),?_,?_,?_,zbi (encN n) w m blk off d' os⟩
 ·rw [<-a]
  exact (zcQ (by rw [b]; exact hp)).map _
 ·intro p q hpq hq
  have r:d'.size=n:=by have:=hp.1; omega
  have h1:=k p q (by omega) hpq hq
  have e1:∀ i,i<n->(d'.toList.map (·.val)).getD i 0=(d'[i]!:Fin n).val:=fun i hi=>by
   rw [List.getD_eq_getElem?_getD,List.getElem?_map,Array.getElem?_toList,getElem!_pos d' i (by omega),Array.getElem?_eq_getElem (by omega)]
   rfl
  rw [e1 p (by omega),e1 q hq]
  have h2:¬ cf (d'[q]!:Fin n).val (d'[p]!:Fin n).val<0:=by simpa [ltOf] using h1
  rw [hlt _ _ (Fin.isLt _) (Fin.isLt _)] at h2
  omega
 have r:d'.size=n:=by have:=hp.1; omega
 refine zd9 (encN n) d' m os h (by omega) fun i hi j hj=>?_
 obtain rfl:j=0:=by omega
 rw [show i*1+0=i by omega,List.getD_eq_getElem?_getD,List.getElem?_map,Array.getElem?_toList,getElem!_pos d' i (by omega),Array.getElem?_eq_getElem (by omega)]
 rfl
def encE (x:Int × Int × Int):List Value:=[.int .i64 x.1,.int .i64 x.2.1,.int .i64 x.2.2]
theorem zhX (x y:Int × Int × Int):lessV x.1 x.2.1 y.1 y.2.1<0↔ltE x y:=zbM
theorem zcb (n:Nat) (x:Nat->Int × Int × Int) (w:World) (base:Nat) (v:Value)
  (h:Own w base 90 3 v n (edgeCell x)) (hn:0<n) (hsz:n<=1048576) :
  Calls Tryz.prog 150 #[v,.func (.func 151) #[] #[]] w fun e w'=>e=.returned (.tuple #[]) /\
   ∃ y:Nat->Int × Int × Int,((List.range n).map y).Perm ((List.range n).map x)/\(∀ p q,p<q->q<n->¬ ltE (y q) (y p))/\Own w' base 90 3 v n (edgeCell y)/\w.grownBy w' v.ownBlock:=by
 obtain ⟨blk,off,cap,rfl,_,hb,_⟩:=h.form hn
 have eg:∀ args w,(callFunc 151 args).run Tryz.prog w=.ok (.enter 151 args) w:=enters_of Tryz.func151 (by kernel_rfl) rfl
 obtain ⟨d,hd⟩:∃ d:Array (Int × Int × Int),d=((List.range n).map x).toArray:=⟨_,rfl⟩
 have a:d.size=n:=by rw [hd]; simp
 have o:∀ i,i<n->d[i]! =x i:=fun i hi=>by
  rw [getElem!_pos d i (by omega)]
  simp [hd]
 have hO:Go.Sort.SWO (ltOf fun x y:Int × Int × Int=>lessV x.1 x.2.1 y.1 y.2.1):=by
  have hl:∀ x y:Int × Int × Int,ltOf (fun x y:Int × Int × Int=>lessV x.1 x.2.1 y.1 y.2.1) x y=decide (x.1<y.1∨x.1=y.1/\x.2.1<y.2.1):=fun x y=>by
   unfold ltOf
   exact decide_eq_decide.2 zbM
  exact ⟨fun x=>by rw [hl]; simp,fun x y z h1 h2=>by rw [hl] at *; simp at *; omega,fun x y z h1 h2=>by rw [hl] at *; simp at *; omega⟩
 have l:∀ (d:Array (Int × Int × Int)) (y:Nat->Int × Int × Int),d.size=n->(∀ i,i<n->d[i]! =y i)->∀ i,i<n->∀ j,j<3->(Go.Sort.flatK encE 3 d)[i*3+j]! =edgeCell y i j:=fun d y hs hy i hi j hj=>by
  rw [Go.Sort.get_flatK encE 3 d _ (by omega),show (i*3+j) / 3=i by omega,show (i*3+j) % 3=j by omega,hy i hi]
  match j,hj with
  | 0,_=>rfl
  | 1,_=>rfl
  | 2,_=>rfl
 have hH:Go.Sort.HoldsK encE 3 w blk off d:=zfc id (Go.Sort.flatK encE 3 d) h (by omega) hn (by simp [a]) (l d x a o)
 have hc:CmpLays Tryz.prog 151 #[] encE 3 (fun x y:Int × Int × Int=>lessV x.1 x.2.1 y.1 y.2.1) blk off d.size w:=fun m os dk _ x y =>
  (ziA x.1 x.2.1 x.2.2 y.1 y.2.1 y.2.2 _).mono fun _ _ ⟨he,_,hg⟩=>⟨he,hg⟩
 have b:=AnyQ.slices_SortFunc Tryz.sortEdges 3 Tryz.isAgg90 Tryz.sizeOf90 encE (fun _=>rfl) (fun x v hv=>by simp [encE] at hv; rcases hv with rfl | rfl | rfl <;> rfl) (fun x y:Int × Int × Int=>lessV x.1 x.2.1 y.1 y.2.1) hO 151 #[] blk off cap d w eg hc hH hb (by rw [a]; omega)
 rw [a] at b
 refine Calls.mono (show Calls Tryz.prog 150 _ _ _ from b) ?_
 rintro e w' ⟨rfl,d',m,os,hp,c,rfl⟩
 have g:d'.size=n:=by have:=hp.1; omega
 have k:(List.range n).map (fun i=>d'[i]!)=d'.toList:=by
  apply List.ext_getElem (by simp [g])
  intro i h1 h2
  have hi:i<d'.size:=by simpa using h2
  simp [getElem!_pos d' i hi]
 refine ⟨rfl,fun i=>d'[i]!,?_,?_,?_,zbi id w m blk off _ os⟩
 ·rw [k]
  have:=zcQ (d:=d) (d':=d') (by rw [a]; exact hp)
  rw [hd] at this
  exact this
 ·intro p q hpq hq hlt
  have h1:=c p q (by omega) hpq hq
  have h2:¬ ltE (d'[q]!) (d'[p]!):=by
   rw [<-zhX]
   simpa [ltOf] using h1
  exact h2 hlt
 ·exact zd9 id (Go.Sort.flatK encE 3 d') m os h (by simp [g]) (l d' _ g fun _ _=>rfl)
theorem zfd {l:List Nat} (h:l.Nodup) {i j:Nat} (hi:i<l.length) (hj:j<l.length) (e:l[i]=l[j]):i=j:=by
 have h1:=List.pairwise_iff_getElem.1 h
 rcases Nat.lt_trichotomy i j with h2 | h2 | h2
 ·exact absurd e (h1 i j hi hj h2)
 ·exact h2
 ·exact absurd e.symm (h1 j i hj hi h2)
def posIn (l:List Nat):Nat->Nat->Nat
 | 0,_=>0
 | k+1,u=>if l.getD k 0=u then k else posIn l k u
theorem zjb {l:List Nat} (hn:l.Nodup) {p:Nat}:∀ {k:Nat},p<k->k<=l.length->posIn l k (l.getD p 0)=p:=by
 intro k
 induction k with
 | zero=>intro h; omega
 | succ k ih =>
  intro hp hk
  unfold posIn
  by_cases e:l.getD k 0=l.getD p 0
  ·rw [if_pos e]
   rw [List.getD_eq_getElem?_getD,List.getD_eq_getElem?_getD,List.getElem?_eq_getElem (by omega),List.getElem?_eq_getElem (by omega)] at e
   exact zfd hn (by omega) (by omega) e
  ·rw [if_neg e]
   exact ih (by
    by_cases h:p=k
    ·subst h; exact absurd rfl e
    ·omega) (by omega)
theorem zgN {key:Nat->Nat} {n:Nat} {l:List Nat} (hp:l.Perm (List.range n)) (hs:∀ p q,p<q->q<n->key (l.getD p 0)<=key (l.getD q 0)) (hk:∀ a b,a<n->b<n->key a=key b->a=b) {u:Nat} (hu:u<n):posIn l n u=rankOf key n u:=by
 have j:l.length=n:=by have:=hp.length_eq; simpa using this
 have f:l.Nodup:=hp.nodup_iff.2 List.nodup_range
 have c:u ∈ l:=hp.mem_iff.2 (List.mem_range.2 hu)
 obtain ⟨p,d,i⟩:=List.getElem_of_mem c
 have hg:∀ q (h:q<l.length),l.getD q 0=l[q]:=fun q h=>by rw [List.getD_eq_getElem?_getD,List.getElem?_eq_getElem h]; rfl
 have g:∀ q,q<n->l.getD q 0<n:=fun q hq=>by
  rw [hg q (by omega)]
  exact List.mem_range.1 (hp.mem_iff.1 (List.getElem_mem _))
 have e:l.getD p 0=u:=by rw [hg p d,i]
 have h1:=zcN (k:=key) hp (fun p q hpq hq=>by
  have h1:=hs p q hpq (by omega)
  rcases Nat.lt_or_ge (key (l.getD p 0)) (key (l.getD q 0)) with h2 | h2
  ·exact h2
  have h3:=hk _ _ (g p (by omega)) (g q (by omega)) (by omega)
  rw [hg p (by omega),hg q (by omega)] at h3
  exact absurd (zfd f (by omega) (by omega) h3) (by omega)) d
 rw [<-e,h1]
 exact zjb f (by omega) (by omega)
theorem zjc (n:Nat) (w:World) (hn:n<=1048576) :
  Calls Tryz.prog 132 #[.int .i64 0,.int .i64 (n:Nat)] w fun e w'=>Below w.heap.size w w'/\∃ v,e=.returned v/\Own w' w.heap.size 3 1 v n (fun i _=>.int .i64 (i:Nat)):=by
 have H0:Hid (Own w w.heap.size 3 1 (.slice none 0 0) 0 (fun i _=>.int .i64 (i:Nat))):=Own.nil _ _ _ _ _
 go_enter Tryz.func132, Tryz.ntmps132
 go_wp2
 obtain ⟨n1,b⟩:∃ x:Value,x=.slice none 0 0:=⟨_,rfl⟩
 rw [<-b] at H0 ⊢;clear b
 go_loopg [5,6] n (fun gg sv iv wx=>∃ k:Nat,iv=.int .i64 (k:Nat)/\k<=n/\n<=k+gg/\Hid (Own wx w.heap.size 3 1 sv k (fun i _=>.int .i64 (i:Nat)))/\Below w.heap.size w wx)
 case atStart=>exact ⟨0,rfl,by omega,by omega,H0,Below.refl _ _⟩
 clear H0
 obtain ⟨k,rfl,hk,p,HO,hB⟩:=hrel
 by_cases hlt:k<n
 rotate_left
 ·have a:¬ (k:Int)<(n:Int):=by omega
  obtain rfl:k=n:=by omega
  have HB:=hid hB
  clear hB
  go_wp2
  go_ret
  exact ⟨HB.out,_,rfl,HO.out⟩
 have a:(k:Int)<(n:Int):=by omega
 have HZ:=hid hB.size
 have kb:=aly wr (Obj.cells #[Value.int .i64 (k:Nat)] 3)
 have h:=hid (onS hB kb)
 have g:=hid (HO.out.on kb)
 have m:Hid ((wr.alloc (Obj.cells #[Value.int .i64 (k:Nat)] 3)).cell? ⟨wr.heap.size,0,none⟩=some (.int .i64 (k:Nat))):=by show _=_; simp
 have d:=hid h.out.size
 have l:Hid (k<=1048576):=by show _<=_; omega
 clear kb hB
 go_wp2_with (first | (at_builtin; (refine zba rfl (.tmp 13) (.tmp 15) rfl (f:=fun i=>(i:Nat)) g.out rfl (ad:=⟨wr.heap.size,0,none⟩) (c:=1) rfl m.out d.out l.out ?_); intro v17 w17 o1 o2 o3))
 have j:=hid o1
 have o:=hid (h.out.grown o2 d.out fun q e=>(Own.lt g.out q e).1)
 clear o1 o2 o3
 go_wp2
 go_roundg (gk - 1)
 case measure=>omega
 case rel=>exact ⟨k+1,by go_num,by omega,by omega,j,o.out⟩
def eRow (x:Nat->Int × Int × Int) (k:Nat):Value:=edgeCell x (k / 3) (k % 3)
theorem zgO {w:World} {b n:Nat} {t:TypeId} {x:Nat->Int × Int × Int} (h:w.rowIs b t (n*3) (eRow x)) {u:Nat} (hu:u<n) :
  w.cell? ⟨b,u*3,none⟩=some (.int .i64 (x u).1)/\w.cell? ⟨b,u*3+1,none⟩=some (.int .i64 (x u).2.1)/\w.cell? ⟨b,u*3+2,none⟩=some (.int .i64 (x u).2.2):=by
 have h0:=h.cell (i:=u*3) (by omega)
 have h1:=h.cell (i:=u*3+1) (by omega)
 have h2:=h.cell (i:=u*3+2) (by omega)
 unfold eRow at h0 h1 h2
 rw [show u*3 / 3=u by omega,show u*3 % 3=0 by omega] at h0
 rw [show (u*3+1) / 3=u by omega,show (u*3+1) % 3=1 by omega] at h1
 rw [show (u*3+2) / 3=u by omega,show (u*3+2) % 3=2 by omega] at h2
 exact ⟨h0,h1,h2⟩
theorem ziB (f l t f' l' t':Int) (W:World) :
  Calls Tryz.prog 151 #[.agg #[.int .i64 f,.int .i64 l,.int .i64 t],.agg #[.int .i64 f',.int .i64 l',.int .i64 t']] W fun e w'=>e=.returned (.int .i64 (lessV f l f' l'))/\∃ q os',w'=Go.Sort.grow (W.drewN q) os' :=
 (ziA f l t f' l' t' W).mono fun _ _ ⟨he,_,hg⟩=>⟨he,hg⟩
theorem zeE (bx lb n c:Nat) (x:Nat->Int × Int × Int) (W:World) (p:W.cell? ⟨bx,0,none⟩=some (.slice (some ⟨lb,0,none⟩) n c)) (hx:W.rowIs lb 90 (n*3) (eRow x)) (u v:Nat) (hu:u<n) (hv:v<n) :
  Calls Tryz.prog 152 #[.int .i64 (u:Nat),.int .i64 (v:Nat),.pointer (some ⟨bx,0,none⟩)] W fun e w'=>e=.returned (.int .i64 (lessV (x u).1 (x u).2.1 (x v).1 (x v).2.1))/\GG W w':=by
 have a:=World.block_lt_of_cell? W _ p
 obtain ⟨u0,u1,u2⟩:=zgO hx hu
 obtain ⟨v0,v1,v2⟩:=zgO hx hv
 have q:=fun k os=>_root_.Go.cell_grown a p k os
 have a0:=fun k os=>_root_.Go.cell_grown (World.block_lt_of_cell? W _ u0) u0 k os
 have a1:=fun k os=>_root_.Go.cell_grown (World.block_lt_of_cell? W _ u1) u1 k os
 have a2:=fun k os=>_root_.Go.cell_grown (World.block_lt_of_cell? W _ u2) u2 k os
 have b0:=fun k os=>_root_.Go.cell_grown (World.block_lt_of_cell? W _ v0) v0 k os
 have b1:=fun k os=>_root_.Go.cell_grown (World.block_lt_of_cell? W _ v1) v1 k os
 have b2:=fun k os=>_root_.Go.cell_grown (World.block_lt_of_cell? W _ v2) v2 k os
 have d:(u:Int)<(n:Int):=by omega
 have b:(v:Int)<(n:Int):=by omega
 have mixed:Tryz.prog.follows .mixedOrders=true:=by kernel_rfl
 have hc:=fun W=>ziB (x u).1 (x u).2.1 (x u).2.2 (x v).1 (x v).2.1 (x v).2.2 W
 clear p hx u0 u1 u2 v0 v1 v2 a hu hv
 generalize (x u).1=f at *
 generalize (x u).2.1=l at *
 generalize (x u).2.2=t at *
 generalize (x v).1=f' at *
 generalize (x v).2.1=l' at *
 generalize (x v).2.2=t' at *
 generalize lessV f l f' l'=r at *
 go_enter Tryz.func152, Tryz.ntmps152
 go_upto_region 1 with fail
 go_quiet_grown (first | (go_at_call 151; refine Calls.grown_of (hc _)))
 go_wp2_with fail
 go_ret
 exact ⟨rfl,_,_,rfl⟩
def CmpB (bx n:Nat) (cf:Nat->Nat->Int) (w:World):Prop :=
 ∀ W,Below w.heap.size w W->∀ u v,u<n->v<n->Calls Tryz.prog 152 #[.int .i64 (u:Nat),.int .i64 (v:Nat),.pointer (some ⟨bx,0,none⟩)] W fun e w'=>e=.returned (.int .i64 (cf u v))/\GG W w'
def CmpG (fn:Nat) (cb:Array Value) (n:Nat) (cf:Nat->Nat->Int) (w:World):Prop :=
 ∀ W,Below w.heap.size w W->∀ u v,u<n->v<n->Calls Tryz.prog fn (#[.int .i64 (u:Nat),.int .i64 (v:Nat)] ++ cb) W fun e w'=>e=.returned (.int .i64 (cf u v))/\GG W w'
theorem zfJ (fn:Nat) (cb:Array Value) (n:Nat) (cf:Nat->Nat->Int) (key:Nat->Nat) (w:World) (eg:∀ args w,(callFunc fn args).run Tryz.prog w=.ok (.enter fn args) w) (hc:CmpG fn cb n cf w) (hlt:∀ u v,u<n->v<n->(cf u v<0↔key u<key v)) (hk:∀ a b,a<n->b<n->key a=key b->a=b) (hn:0<n) (hn2:n<=1048576) :
  Calls Tryz.prog 81 #[.int .i64 (n:Nat),.func (.func fn) #[] cb] w fun e w' =>
   ∃ go,e=.returned (.slice (some ⟨go,0,none⟩) n n)/\w'.rowIs go 3 n (fun u=>.int .i64 (rankOf key n u:Nat))/\w.heap.size<=go/\Below w.heap.size w w':=by
 have HC:=hid hc
 have S:=hid hlt
 have HK:=hid hk
 have T:=hid eg
 clear hc hlt hk eg
 go_enter Tryz.func81, Tryz.ntmps81
 go_wp2_with fail
 refine (zjc n w hn2).mono ?_
 rintro e w1 ⟨hB,v,rfl,hv⟩
 obtain ⟨lb,lo,lc,rfl,X,z,_⟩:=hv.form hn
 go_wp2_with fail
 refine (zeD fn cb n cf key w1 w.heap.size _ T.out (fun W hg u v hu hv2=>HC.out W (hB.grown hg hB.size (fun k e=>(Own.lt hv k e).1)) u v hu hv2) S.out hv hn hn2).mono ?_
 rintro e w2 ⟨rfl,l,o,I,B,J⟩
 have C:Below w.heap.size w w2:=hB.grown J hB.size (fun k e=>(Own.lt hv k e).1)
 have y:l.length=n:=by have:=o.length_eq; simpa using this
 have d:∀ i,i<n->l.getD i 0<n:=fun i hi=>by
  rw [List.getD_eq_getElem?_getD,List.getElem?_eq_getElem (by omega)]
  exact List.mem_range.1 (o.mem_iff.1 (List.getElem_mem _))
 have HM:=hid d
 have R:Hid (∀ u,u<n->posIn l n u=rankOf key n u):=fun u hu=>zgN o I HK.out hu
 have HL:=hid B
 have g:=(B.lt lb rfl).2
 have a0:Hid (lb<w2.heap.size):=g
 have O:=hid C
 have D:=C.size
 have H:=fun W=>zaf (P:=Tryz.prog) 22 3 _ 8 Tryz.underlying22 Tryz.infoInt rfl (n:Int) (by omega) (by omega) (by omega) W
 simp only [Int.toNat_natCast] at H
 clear hv hB o I B J d y z
 go_upto_region 4 with fail
 have j:=World.rowIs_made w2 (.int .i64 0) n 3
 have r:=aly w2 (Obj.cells (madeCells #[Value.int .i64 0] n) 3)
 obtain ⟨w3,E⟩:=exx (w2.alloc (Obj.cells (madeCells #[Value.int .i64 0] n) 3))
 obtain ⟨go,q⟩:=exx w2.heap.size
 have N:=hid q
 rw [<-q] at j;rw [<-E] at j r ⊢;rw [<-q]
 have G:w3.rowIs go 3 n (fun u=>.int .i64 (posIn l 0 u:Nat)):=j
 clear E q H j C g
 go_wp2
 go_loopg [18] n (fun gg iv wx=>∃ k:Nat,iv=.int .i64 (k:Nat)/\k<=n/\n<=k+gg/\wx.rowIs go 3 n (fun u=>.int .i64 (posIn l k u:Nat))/\Below w2.heap.size w2 wx)
 case atStart=>exact ⟨0,rfl,by omega,by omega,G,r⟩
 clear G r
 obtain ⟨k,rfl,hk,Y,c,hB⟩:=hrel
 have Z:(0:Int)<=(k:Int):=by omega
 by_cases hlt:k<n
 rotate_left
 ·have x:¬ (k:Int)<(n:Int):=by omega
  obtain rfl:k=n:=by omega
  have HB:=hid hB
  have HR:=hid c
  clear hB c
  go_wp2
  go_ret
  refine ⟨go,rfl,HR.out.congr fun u hu=>?_,by rw [N.out]; exact D,O.out.trans (HB.out.mono D)⟩
  show Value.int .i64 (posIn l k u:Nat)=_
  rw [R.out u hu]
 have x:(k:Int)<(n:Int):=by omega
 obtain ⟨b5,o5,c5,h5,_,_,_,_,K⟩:=(HL.out.on hB).form hn
 injection h5 with h5 _ h7
 injection h5 with h5
 injection h5 with h5 h6
 subst h5 h6 h7
 have x0:=K k hlt 0 (by omega)
 rw [Nat.mul_one,Nat.add_zero] at x0
 have hm:=HM.out k hlt
 obtain ⟨m,s⟩:=exx (l.getD k 0)
 have M:=hid s
 rw [<-s] at x0 hm
 have V:(m:Int)<(n:Int):=by omega
 have z0:=c.frozen m
 have y0:=c.cell hm
 clear K s
 have F:=c.set m (.int .i64 (k:Nat))
 have L:=hB.setCell (p:=⟨go,m,none⟩) (by have:=N.out; show _<=go; omega) (.int .i64 (k:Nat))
 have Q:=hid F
 have U:=hid L
 clear F L c hB
 go_wp2
 go_roundg (gk - 1)
 case measure=>omega
 refine ⟨k+1,by go_num,by omega,by omega,Q.out.congr fun u _=>?_,U.out⟩
 show (if u=m then _ else _)=Value.int .i64 ((if l.getD k 0=u then k else posIn l k u:Nat):Int)
 by_cases e:u=m
 ·rw [if_pos e,if_pos (by rw [e,<-M.out])]
 ·rw [if_neg e,if_neg (by rw [<-M.out]; exact fun h=>e h.symm)]
theorem zgP (bx n:Nat) (cf:Nat->Nat->Int) (key:Nat->Nat) (w:World) (hc:CmpB bx n cf w) (hlt:∀ u v,u<n->v<n->(cf u v<0↔key u<key v)) (hk:∀ a b,a<n->b<n->key a=key b->a=b) (hn:0<n) (hn2:n<=1048576) :
  Calls Tryz.prog 81 #[.int .i64 (n:Nat),.func (.func 152) #[] #[.pointer (some ⟨bx,0,none⟩)]] w fun e w' =>
   ∃ go,e=.returned (.slice (some ⟨go,0,none⟩) n n)/\w'.rowIs go 3 n (fun u=>.int .i64 (rankOf key n u:Nat))/\w.heap.size<=go/\Below w.heap.size w w' :=
 zfJ 152 #[.pointer (some ⟨bx,0,none⟩)] n cf key w (enters_of Tryz.func152 (by kernel_rfl) rfl) (fun W hW u v hu hv=>hc W hW u v hu hv) hlt hk hn hn2
def Trel.re (T:Trel) (y:Nat->Nat->Int × Int × Int):Trel:=⟨T.nw,T.W,T.n,T.el,fun i j=>(y i j).1,fun i j=>(y i j).2.1,fun i j=>(y i j).2.2⟩
theorem IsRen.in64 {T:Trel} (hP:T.Proper) {y:Nat->Nat->Int × Int × Int} (h:IsRen T y) {i:Nat} (hi:i<T.n) {j:Nat} (hj:j<T.el i):InI64 (y i j).1/\InI64 (y i j).2.1/\InI64 (y i j).2.2:=by
 have hm:y i j ∈ (List.range (T.el i)).map (y i):=List.mem_map.2 ⟨j,List.mem_range.2 hj,rfl⟩
 obtain ⟨q,hq,e⟩:=List.mem_map.1 ((h i hi).1.mem_iff.1 hm)
 rw [List.mem_range] at hq;rw [<-e]
 have h1:=hP.nm_lt (by omega) (hP.frL hi hq).1
 have h2:=hP.nm_lt (i:=i+1) (by omega) (hP.toL hi hq).1
 have h3:=(hP.shape.wid (i:=i) (by omega)).2
 have h4:=(hP.shape.wid (i:=i+1) (by omega)).2
 have h5:=hP.lbL hi hq
 refine ⟨⟨?_,?_⟩,⟨?_,?_⟩,⟨?_,?_⟩⟩
 ·show (-9223372036854775808:Int)<=(T.nm i (T.fr i q).toNat:Nat); omega
 ·show ((T.nm i (T.fr i q).toNat:Nat):Int)<=9223372036854775807; omega
 ·show (-9223372036854775808:Int)<=T.lb i q; omega
 ·show T.lb i q<=(9223372036854775807:Int); omega
 ·show (-9223372036854775808:Int)<=(T.nm (i+1) (T.to i q).toNat:Nat); omega
 ·show ((T.nm (i+1) (T.to i q).toNat:Nat):Int)<=9223372036854775807; omega
theorem IsRen.reads {T:Trel} (hP:T.Proper) {y:Nat->Nat->Int × Int × Int} (h:IsRen T y) {w:World} {base:Nat} {v wv:Value} (hE:ETab w base v T.n T.el y) (hA:Own w base 3 1 wv T.nw (fun k _=>.int .i64 (T.W k))) :
  ∃ A B c d,wv=.slice A T.nw c/\v=.slice B T.n d/\(T.re y).Reads w A B/\T.nw<=c/\c<=maxLen/\T.n<=d/\d<=maxLen:=by
 have a:=hP.shape.nw
 have hn:=hP.shape.n64
 refine ETab.reads (T:=T.re y) hE hA (fun i hi=>?_) (fun i hi j hj=>h.in64 hP hi hj) (by show T.nw<=_; omega) (by show T.n<=_; omega) (fun i hi=>by have:=hP.shape.elb hi; show T.el i<=_; omega)
 have b:i<T.nw:=hi
 have:=hP.shape.wid (i:=i) (by omega)
 refine ⟨?_,?_⟩
 ·show (-9223372036854775808:Int)<=T.W i; omega
 ·show T.W i<=(9223372036854775807:Int); omega
def RenOut (T:Trel) (y:Nat->Nat->Int × Int × Int) (w:World) (A B:Option Addr) (c d:Nat):Prop:=ETab w 0 (.slice B T.n d) T.n T.el y/\Own w 0 3 1 (.slice A T.nw c) T.nw (fun k _=>.int .i64 (T.W k))
theorem RenOut.setCell {T:Trel} {y:Nat->Nat->Int × Int × Int} {w:World} {A B:Option Addr} {c d:Nat} (h:RenOut T y w A B c d) {t:TypeId} {m:Nat} {F:Nat->Value} {b i:Nat} (hr:w.rowIs b t m F) (h1:t ≠ 86) (h2:t ≠ 90) (h3:t ≠ 3) (u:Value):RenOut T y (w.setCell ⟨b,i,none⟩ u) A B c d :=
 ⟨h.1.setCell hr h1 h2 u,h.2.setCell (zar hr h.2 h3) u⟩
theorem RenOut.reads {T:Trel} (hP:T.Proper) {y:Nat->Nat->Int × Int × Int} (hy:IsRen T y) {w:World} {A B:Option Addr} {c d:Nat} (h:RenOut T y w A B c d):(T.re y).Reads w A B/\T.nw<=c/\c<=maxLen/\T.n<=d/\d<=maxLen:=by
 obtain ⟨A',B',c',d',e1,e2,hR,k1,k2,k3,k4⟩:=hy.reads hP h.1 h.2
 injection e1 with e1 _ e1'
 subst e1 e1'
 injection e2 with e2 _ e2'
 subst e2 e2'
 exact ⟨hR,k1,k2,k3,k4⟩
theorem zea {w:World} {b n base:Nat} {t:TypeId} {F:Nat->Value} (h:w.rowIs b t n F) (hb:base<=b) (hn:n<=maxLen):Own w base t 1 (.slice (some ⟨b,0,none⟩) n n) n (fun i _=>F i):=by
 obtain ⟨cs,h1,h2,h3⟩:=h
 refine .inr ⟨b,0,n,cs,rfl,hb,h1,Nat.le_refl _,hn,by omega,fun i hi j hj=>?_⟩
 obtain rfl:j=0:=by omega
 rw [Nat.zero_add,Nat.mul_one,Nat.add_zero]
 exact h3 i hi
theorem zaH {w:World} {b b' n n':Nat} {t t':TypeId} {F F':Nat->Value} (h:w.rowIs b t n F) (h':w.rowIs b' t' n' F') (hne:t≠t'):b≠b':=by
 intro e
 subst e
 obtain ⟨cs,h1,_⟩:=h
 obtain ⟨cs',a,_⟩:=h'
 rw [h1] at a
 injection a with a
 injection a with _ a
 exact hne a
section
variable {w w':World} {g base te e s m:Nat} {F:Nat->Value} {n n':Nat->Nat} {f f':Nat->Nat->Nat->Value}
theorem TabOwn.same (h:TabOwn w g base te e s m F n f) (hn:∀ v,v<m->n v=n' v) (hf:∀ v,v<m->∀ i,i<n v->∀ j,j<s->f v i j=f' v i j):TabOwn w g base te e s m F n' f' :=
 ⟨h.row,fun v hv=>by rw [<-hn v hv]; exact (h.own v hv).congr (hf v hv),h.apart⟩
theorem TabOwn.touch (h:TabOwn w g base te e s m F n f) (hgb:g<base) {v:Nat} (hv:v<m) {n1:Nat} {f1:Nat->Nat->Value} (hown:Own w' base e s (F v) n1 f1) (hg:w.grownBy w' (F v).ownBlock) :
  TabOwn w' g base te e s m F (fun u=>if u=v then n1 else n u) (fun u=>if u=v then f1 else f u):=by
 refine ⟨h.row.of_block (hg.block g h.row.lt (fun e=>by have:=((h.own v hv).lt _ e.symm).1; omega)),fun u hu=>?_,h.apart⟩
 by_cases e:u=v
 ·subst e
  simp only [if_true]
  exact hown
 ·simp only [if_neg e]
  exact (h.own u hu).kept hg (h.apart u v hu hv e)
theorem TabOwn.stays (h:TabOwn w g base te e s m F n f) (hb:Below w.heap.size w w'):TabOwn w' g base te e s m F n f:=⟨h.row.of_block (hb.block g h.row.lt),fun v hv=>(h.own v hv).on hb,h.apart⟩
end
theorem Trel.Proper.el_pos {T:Trel} (h:T.Proper) {i:Nat} (hi:i<T.n):0<T.el i:=by
 have h1:=(h.shape.wid (i:=i) (by omega)).1
 obtain ⟨j,hj,_⟩:=za8.1 ((h.sec i hi).2.1 0 (by omega))
 omega
def Trel.triF (T:Trel) (nf:Nat->Nat->Nat) (i j:Nat):Int × Int × Int:=((nf i (T.fr i j).toNat:Nat),T.lb i j,(nf (i+1) (T.to i j).toNat:Nat))
def SecF (T:Trel) (nf:Nat->Nat->Nat) (i:Nat) (y:Nat->Int × Int × Int):Prop :=
 ((List.range (T.el i)).map y).Perm ((List.range (T.el i)).map (T.triF nf i))/\∀ p q,p<q->q<T.el i->ltE (y p) (y q)
def IsF (T:Trel) (nf:Nat->Nat->Nat) (y:Nat->Nat->Int × Int × Int):Prop:=∀ i,i<T.n->SecF T nf i (y i)
theorem Trel.Proper.triF_inj {T:Trel} {nf:Nat->Nat->Nat} (h:T.Proper) {i:Nat} (hi:i<T.n) (hf:∀ u v,u<(T.W i).toNat->v<(T.W i).toNat->nf i u=nf i v->u=v) {j q:Nat} (hj:j<T.el i) (hq:q<T.el i) (e1:(T.triF nf i j).1=(T.triF nf i q).1) (e2:(T.triF nf i j).2.1=(T.triF nf i q).2.1):j=q:=by
 have e1:((nf i (T.fr i j).toNat:Nat):Int)=(nf i (T.fr i q).toNat:Nat):=e1
 have e2:T.lb i j=T.lb i q:=e2
 have h3:=h.frL hi hj
 have h4:=h.frL hi hq
 have e3:=hf _ _ h3.1 h4.1 (by omega)
 rcases Nat.lt_trichotomy j q with h5 | h5 | h5
 ·have:=Trel.ord (h.sec i hi) q j h5 hq; omega
 ·exact h5
 ·have:=Trel.ord (h.sec i hi) j q h5 hj; omega
theorem SecF.of_sort {T:Trel} {nf:Nat->Nat->Nat} (h:T.Proper) {i:Nat} (hi:i<T.n) (hf:∀ u v,u<(T.W i).toNat->v<(T.W i).toNat->nf i u=nf i v->u=v) {y:Nat->Int × Int × Int} (hp:((List.range (T.el i)).map y).Perm ((List.range (T.el i)).map (T.triF nf i))) (hs:∀ p q,p<q->q<T.el i->¬ ltE (y q) (y p)):SecF T nf i y:=by
 refine ⟨hp,fun p q hpq hq=>?_⟩
 have h1:(((List.range (T.el i)).map (T.triF nf i)).map fun t=>(t.1,t.2.1)).Nodup:=by
  rw [List.map_map]
  refine zaF.2 fun a b hab hb e=>?_
  simp only [Function.comp,Prod.mk.injEq] at e
  have:=h.triF_inj hi hf (by omega) hb e.1 e.2
  omega
 have h2:=((hp.map fun t=>(t.1,t.2.1)).nodup_iff).2 h1
 rw [List.map_map] at h2
 have h3:=zaF.1 h2 p q hpq hq
 have h4:=hs p q hpq hq
 simp only [Function.comp,ne_eq,Prod.mk.injEq] at h3
 unfold ltE at *
 omega
structure RnSt (T:Trel) (nf:Nat->Nat->Nat) (g base ob rb i j:Nat) (wv:Value) (y:Nat->Nat->Int × Int × Int) (F:Nat->Value) (w:World):Prop where
 res:w.rowIs rb 53 2 (fun _=>.slice none 0 0)
 box:w.rowIs ob 53 2 (fun k=>if k=0 then wv else .slice (some ⟨g,0,none⟩) T.n T.n)
 wid:Own w 0 3 1 wv T.nw (fun k _=>.int .i64 (T.W k))
 tab:TabOwn w g base 86 90 3 T.n F (fun v=>if v<i then T.el v else if v=i then j else 0) (fun v=>edgeCell (if v<i then y v else T.triF nf v))
 hrb:rb<base
 hob:ob<base
 hg:g<base
 hwv:∀ q,wv.ownBlock=some q->q<base
section
variable {T:Trel} {nf:Nat->Nat->Nat} {g base ob rb i j:Nat} {wv:Value} {y:Nat->Nat->Int × Int × Int} {F:Nat->Value} {w w':World}
theorem RnSt.on (h:RnSt T nf g base ob rb i j wv y F w) (hb:Below w.heap.size w w'):RnSt T nf g base ob rb i j wv y F w' :=
 ⟨h.res.of_block (hb.block _ h.res.lt),h.box.of_block (hb.block _ h.box.lt),h.wid.on hb,h.tab.stays hb,h.hrb,h.hob,h.hg,h.hwv⟩
theorem RnSt.row (h:RnSt T nf g base ob rb i j wv y F w) (hi:i<T.n):Own w base 90 3 (F i) j (edgeCell (T.triF nf i)):=by
 have:=h.tab.own i hi
 simpa using this
theorem RnSt.put (h:RnSt T nf g base ob rb i j wv y F w) (hi:i<T.n) {v':Value} (ho:Own w' base 90 3 v' (j+1) (edgeCell (T.triF nf i))) (hgr:w.grownBy w' (F i).ownBlock) (hat:v'.ownBlock=(F i).ownBlock∨v'.ownBlock=some w.heap.size) :
  RnSt T nf g base ob rb i (j+1) wv y (fun u=>if u=i then v' else F u) (w'.setCell ⟨g,i,none⟩ v'):=by
 have hF:=(h.tab.own i hi).lt
 have c:∀ b,b<base->(F i).ownBlock≠some b:=fun b hb e=>by have:=(hF b e).1; omega
 have r1:=h.res.of_block (hgr.block rb h.res.lt fun e=>c rb h.hrb e.symm)
 have r2:=h.box.of_block (hgr.block ob h.box.lt fun e=>c ob h.hob e.symm)
 have r3:w'.rowIs g 86 T.n F:=h.tab.row.of_block (hgr.block g h.tab.row.lt fun e=>c g h.hg e.symm)
 have r4:=h.wid.kept hgr (by
  cases e:wv.ownBlock with
  | none=>exact .inl rfl
  | some q=>exact .inr fun e2=>c q (h.hwv q e) e2.symm)
 refine ⟨r1.setOther (a:=⟨g,i,none⟩) (by simpa using zaH r1 r3 (by decide)) v',r2.setOther (a:=⟨g,i,none⟩) (by simpa using zaH r2 r3 (by decide)) v',r4.setCell (zar r3 r4 (by decide)) v',?_,h.hrb,h.hob,h.hg,h.hwv⟩
 refine (h.tab.put h.hg hi ho hgr hat).same (fun v _=>?_) (fun v _ k _ q _=>?_)
 ·by_cases e:v=i
  ·subst e; rw [if_pos rfl,if_neg (by omega),if_pos rfl]
  rw [if_neg e,if_neg e]
  by_cases e2:v<i
  ·rw [if_pos e2,if_pos e2]
  ·rw [if_neg e2,if_neg e2,if_neg e]
 by_cases e:v=i
 ·subst e; rw [if_pos rfl,if_neg (by omega)]
 ·rw [if_neg e]
theorem RnSt.sort (h:RnSt T nf g base ob rb i (T.el i) wv y F w) (hi:i<T.n) {z:Nat->Int × Int × Int} (ho:Own w' base 90 3 (F i) (T.el i) (edgeCell z)) (hgr:w.grownBy w' (F i).ownBlock) :
  RnSt T nf g base ob rb (i+1) 0 wv (fun u=>if u=i then z else y u) F w':=by
 have hF:=(h.tab.own i hi).lt
 have a:∀ b,b<base->(F i).ownBlock≠some b:=fun b hb e=>by have:=(hF b e).1; omega
 refine ⟨h.res.of_block (hgr.block rb h.res.lt fun e=>a rb h.hrb e.symm),h.box.of_block (hgr.block ob h.box.lt fun e=>a ob h.hob e.symm),h.wid.kept hgr (by
  cases e:wv.ownBlock with
  | none=>exact .inl rfl
  | some q=>exact .inr fun e2=>a q (h.hwv q e) e2.symm),?_,h.hrb,h.hob,h.hg,h.hwv⟩
 refine (h.tab.touch h.hg hi ho hgr).same (fun v _=>?_) (fun v _ k _ q _=>?_)
 ·by_cases e:v=i
  ·subst e; rw [if_pos rfl,if_pos (by omega)]
  rw [if_neg e]
  by_cases e2:v<i
  ·rw [if_pos e2,if_pos (by omega)]
  ·rw [if_neg e2,if_neg e,if_neg (by omega)]
   split <;> rfl
 by_cases e:v=i
 ·subst e; rw [if_pos rfl,if_pos (by omega),if_pos rfl]
 rw [if_neg e]
 by_cases e2:v<i
 ·rw [if_pos e2,if_pos (by omega),if_neg e]
 ·rw [if_neg e2,if_neg (by omega)]
theorem RnSt.etab (h:RnSt T nf g base ob rb T.n 0 wv y F w) (hn:T.n<=maxLen):ETab w 0 (.slice (some ⟨g,0,none⟩) T.n T.n) T.n T.el y:=by
 refine ⟨F,zea h.tab.row (Nat.zero_le _) hn,fun i hi=>?_⟩
 have:=h.tab.own i hi
 simp only [if_pos hi] at this
 exact this.mono (Nat.zero_le _)
theorem RnSt.start (h0:w.rowIs rb 53 2 (fun _=>.slice none 0 0)) (h1:w.rowIs ob 53 2 (fun k=>if k=0 then wv else .slice (some ⟨g,0,none⟩) T.n T.n)) (h2:Own w 0 3 1 wv T.nw (fun k _=>.int .i64 (T.W k)))
  (h3:w.rowIs g 86 T.n (fun _=>.slice none 0 0)):RnSt T nf g w.heap.size ob rb 0 0 wv y (fun _=>.slice none 0 0) w :=
 ⟨h0,h1,h2,⟨h3,fun v _=>by
  have e:(if v<0 then T.el v else if v=0 then 0 else 0)=0:=by
   rw [if_neg (by omega)]
   split <;> rfl
  rw [e]
  exact Own.nil _ _ _ _ _,fun _ _ _ _ _=>.inl rfl⟩,h0.lt,h1.lt,h3.lt,fun q e=>(h2.lt q e).2⟩
end
def Trel.lx (T:Trel) (f:Nat->Nat) (i j v:Nat):Int × Int × Int:=if T.kt f i j v<1099511627776 then (((T.kt f i j v / 256:Nat):Int),((T.kt f i j v % 256:Nat):Int),0) else (0,0,0)
def Trel.sn (T:Trel) (f:Nat->Nat) (i j v:Nat):Bool:=decide (T.kt f i j v<1099511627776)
section
variable {T:Trel} {f:Nat->Nat} {i j tn:Nat}
theorem Trel.kt_take (ht:(T.to i j).toNat=tn) (h:T.code f i j<T.kt f i j tn) (v:Nat):T.kt f i (j+1) v=if v=tn then T.code f i j else T.kt f i j v:=by
 show (if (T.to i j).toNat=v/\T.code f i j<T.kt f i j v then T.code f i j else T.kt f i j v)=_
 by_cases e:v=tn
 ·subst e
  rw [if_pos rfl,if_pos ⟨ht,h⟩]
 ·rw [if_neg e,if_neg (fun h=>e (by omega))]
variable {a1:Nat} {lv:Int}
theorem Trel.lx_less (hl:0<=lv/\lv<256) (hc:T.code f i j=a1*256+lv.toNat) (hk:T.sn f i j tn=true):lessV (a1:Nat) lv (T.lx f i j tn).1 (T.lx f i j tn).2.1<0↔T.code f i j<T.kt f i j tn:=by
 have hk:T.kt f i j tn<1099511627776:=of_decide_eq_true hk
 rw [zbM]
 unfold Trel.lx
 rw [if_pos hk,hc]
 show ((a1:Nat):Int)<((T.kt f i j tn / 256:Nat):Int)∨((a1:Nat):Int)=((T.kt f i j tn / 256:Nat):Int)/\lv<((T.kt f i j tn % 256:Nat):Int)↔_
 omega
theorem Trel.lx_take (ht:(T.to i j).toNat=tn) (hl:0<=lv/\lv<256) (hc:T.code f i j=a1*256+lv.toNat) (ha:a1<65536) (h:T.code f i j<T.kt f i j tn) (v:Nat):T.lx f i (j+1) v=if v=tn then (((a1:Nat):Int),lv,0) else T.lx f i j v:=by
 unfold Trel.lx
 rw [Trel.kt_take ht h]
 by_cases e:v=tn
 ·rw [if_pos e,if_pos e,if_pos (by omega),hc]
  have e1:(a1*256+lv.toNat) / 256=a1:=by omega
  have e2:(a1*256+lv.toNat) % 256=lv.toNat:=by omega
  rw [e1,e2]
  have:((lv.toNat:Nat):Int)=lv:=by omega
  rw [this]
 ·rw [if_neg e,if_neg e]
theorem Trel.sn_take (ht:(T.to i j).toNat=tn) (hl:0<=lv/\lv<256) (hc:T.code f i j=a1*256+lv.toNat) (ha:a1<65536) (h:T.code f i j<T.kt f i j tn) (v:Nat):T.sn f i (j+1) v=if v=tn then true else T.sn f i j v:=by
 unfold Trel.sn
 rw [Trel.kt_take ht h]
 by_cases e:v=tn
 ·rw [if_pos e,if_pos e,decide_eq_true_iff]
  omega
 ·rw [if_neg e,if_neg e]
theorem Trel.kt_new (hl:0<=lv/\lv<256) (hc:T.code f i j=a1*256+lv.toNat) (ha:a1<65536) (h:T.sn f i j tn=false):T.code f i j<T.kt f i j tn:=by
 have h1:¬ T.kt f i j tn<1099511627776:=of_decide_eq_false h
 omega
end
section
variable {T:Trel} {f:Nat->Nat} {i j tn:Nat} (ht:(T.to i j).toNat=tn) (h:¬ T.code f i j<T.kt f i j tn)
include ht h
theorem Trel.kt_skip (v:Nat):T.kt f i (j+1) v=T.kt f i j v:=by
 show (if (T.to i j).toNat=v/\T.code f i j<T.kt f i j v then T.code f i j else T.kt f i j v)=_
 rw [if_neg]
 rintro ⟨e,h2⟩
 rw [ht] at e
 subst e
 exact h h2
theorem Trel.lx_skip (v:Nat):T.lx f i (j+1) v=T.lx f i j v:=by unfold Trel.lx; rw [Trel.kt_skip ht h]
theorem Trel.sn_skip (v:Nat):T.sn f i (j+1) v=T.sn f i j v:=by unfold Trel.sn; rw [Trel.kt_skip ht h]
end
theorem Trel.lx_zero (T:Trel) (f:Nat->Nat) (i v:Nat):T.lx f i 0 v=(0,0,0):=by
 unfold Trel.lx Trel.kt
 rw [if_neg (by omega)]
theorem Trel.sn_zero (T:Trel) (f:Nat->Nat) (i v:Nat):T.sn f i 0 v=false:=by
 unfold Trel.sn Trel.kt
 exact decide_eq_false (by omega)
theorem Trel.Proper.lx_key {T:Trel} (h:T.Proper) {i:Nat} (hi:i<T.n) (u v:Nat) (hu:u<(T.W (i+1)).toNat) (hv:v<(T.W (i+1)).toNat) :
  lessV (T.lx (T.nm i) i (T.el i) u).1 (T.lx (T.nm i) i (T.el i) u).2.1 (T.lx (T.nm i) i (T.el i) v).1 (T.lx (T.nm i) i (T.el i) v).2.1<0↔T.kt (T.nm i) i (T.el i) u<T.kt (T.nm i) i (T.el i) v:=by
 obtain ⟨p,hp,_,e1⟩:=h.kt_hit hi hu
 obtain ⟨q,hq,_,e2⟩:=h.kt_hit hi hv
 have h1:=h.code_lt hi hp
 have h2:=h.code_lt hi hq
 rw [zbM]
 unfold Trel.lx
 rw [if_pos (by omega),if_pos (by omega)]
 show ((T.kt (T.nm i) i (T.el i) u / 256:Nat):Int)<((T.kt (T.nm i) i (T.el i) v / 256:Nat):Int)∨((T.kt (T.nm i) i (T.el i) u / 256:Nat):Int)=((T.kt (T.nm i) i (T.el i) v / 256:Nat):Int)/\((T.kt (T.nm i) i (T.el i) u % 256:Nat):Int)<((T.kt (T.nm i) i (T.el i) v % 256:Nat):Int)↔_
 omega
theorem zeF (n:Nat) (hn:n<=1048576) (w:World) :
  (Instr.makeSlice 86 (.int .i64 (n:Int)) (.int .i64 (n:Int))).run Tryz.prog w=.ok (.slice (some ⟨w.heap.size,0,none⟩) n n) (w.alloc (.cells (madeCells #[.int .i64 0,.int .i64 0,.int .i64 0] (n*3)) 90)):=by
 obtain ⟨i,hi,hz,hs,hb⟩:=info_parts Tryz.infoEdge
 have h:=run_make (P:=Tryz.prog) w 86 90 i _ Tryz.underlying86 hi hz .i64 .i64 (n:Int) (n:Int) (by omega) (by omega) (by rw [hb]; omega) (by omega)
 rw [h,hs,Int.toNat_natCast]
 rfl
theorem zdH (w:World) (n:Nat):(w.alloc (.cells (madeCells #[.int .i64 0,.int .i64 0,.int .i64 0] (n*3)) 90)).rowIs w.heap.size 90 (n*3) (eRow fun _=>(0,0,0)):=by
 refine ⟨_,zah rfl,size_madeCells _ _,fun i hi=>?_⟩
 have e:eRow (fun _=>(0,0,0)) i=.int .i64 0:=by
  unfold eRow edgeCell
  split
  ·rfl
  ·split <;> rfl
 rw [e]
 have h3:i % 3=0∨i % 3=1∨i % 3=2:=by omega
 rcases h3 with h3 | h3 | h3 <;> simp [madeCells,hi,h3]
theorem zgQ {w:World} {b n u:Nat} {t:TypeId} {x x':Nat->Int × Int × Int} (h:w.rowIs b t (n*3) (eRow x)) {p q r:Int} (hx:∀ v,x' v=if v=u then (p,q,r) else x v) :
  (((w.setCell ⟨b,u*3,none⟩ (.int .i64 p)).setCell ⟨b,u*3+1,none⟩ (.int .i64 q)).setCell ⟨b,u*3+2,none⟩ (.int .i64 r)).rowIs b t (n*3) (eRow x'):=by
 refine (((h.set (u*3) (.int .i64 p)).set (u*3+1) (.int .i64 q)).set (u*3+2) (.int .i64 r)).congr fun k _=>?_
 unfold eRow edgeCell
 rw [hx]
 by_cases e:k / 3=u
 ·rw [if_pos e]
  have h3:k % 3=0∨k % 3=1∨k % 3=2:=by omega
  rcases h3 with h3 | h3 | h3
  ·rw [if_neg (by omega),if_neg (by omega),if_pos (by omega),if_pos h3]
  ·rw [if_neg (by omega),if_pos (by omega),if_neg (by omega),if_pos h3]
  ·rw [if_pos (by omega),if_neg (by omega),if_neg (by omega)]
 ·rw [if_neg e,if_neg (by omega),if_neg (by omega),if_neg (by omega)]
def Trel.nrow (T:Trel) (k:Nat):List Int:=(List.range (T.W k).toNat).map fun u=>((T.nm k u:Nat):Int)
def Trel.names (T:Trel) (i:Nat):List (List Int):=(List.range i).map T.nrow
theorem Trel.names_succ (T:Trel) (i:Nat):T.names (i+1)=T.names i ++ [T.nrow i]:=by
 unfold Trel.names
 rw [List.range_succ,List.map_append]
 rfl
theorem Trel.names_len (T:Trel) (i:Nat):(T.names i).length=i:=by simp [Trel.names]
theorem Trel.names_get (T:Trel) {i k:Nat} (h:k<i):(T.names i).getD k []=T.nrow k:=by
 unfold Trel.names
 rw [List.getD_eq_getElem?_getD,List.getElem?_map,List.getElem?_range h]
 rfl
theorem Trel.nrow_len (T:Trel) (k:Nat):(T.nrow k).length=(T.W k).toNat:=by simp [Trel.nrow]
theorem Trel.nrow_get (T:Trel) {k u:Nat} (h:u<(T.W k).toNat):(T.nrow k).getD u 0=(T.nm k u:Nat):=by
 unfold Trel.nrow
 rw [List.getD_eq_getElem?_getD,List.getElem?_map,List.getElem?_range h]
 rfl
theorem Trel.names_one {T:Trel} (h:T.Proper):T.names 1=[[0]]:=by
 have:(T.W 0).toNat=1:=by rw [h.w0]; rfl
 unfold Trel.names Trel.nrow
 simp [this,Trel.nm]
theorem Trel.names_rows {T:Trel} (h:T.Proper) {w:World} {base:Nat} {v:Value} (hT:TabL w base v (T.names (T.n+1))) :
  ∃ O c,v=.slice O (T.n+1) c/\IntRows w O (T.n+1) (fun i=>(T.W i).toNat) (fun i k=>(T.nm i k:Nat)):=by
 obtain ⟨O,c,e,h1,h2,h3⟩:=hT.rows (fun l hl x hx=>by
  obtain ⟨k,hk,rfl⟩:=List.mem_map.1 hl
  obtain ⟨u,hu,rfl⟩:=List.mem_map.1 hx
  rw [List.mem_range] at hk hu
  have:=h.nm_lt (by omega) hu
  have:=(h.shape.wid (i:=k) (by omega)).2
  omega)
 rw [T.names_len] at e h3
 refine ⟨O,c,e,fun i hi=>?_⟩
 obtain ⟨b,off,A,c',e1,k1,k2,k3,k4,k5,k6⟩:=h3 i hi
 simp only [T.names_get hi,T.nrow_len] at k2 k3 k5 k6
 refine ⟨b,off,A,c',e1,k1,k2,k3,k4,k5.congr fun u hu=>T.nrow_get hu,fun u hu=>?_⟩
 have:=k6 u hu
 rwa [T.nrow_get hu] at this
theorem TabL.readR {w:World} {base N c k:Nat} {A:Option Addr} {L:List (List Int)} (h:TabL w base (.slice A N c) L) (hk:k<L.length) :
  ∃ b o RA rc,A=some ⟨b,o,none⟩/\b<w.heap.size/\w.cell? ⟨b,o+k,none⟩=some (.slice RA (L.getD k []).length rc)/\OwnL w base (.slice RA (L.getD k []).length rc) (L.getD k []):=by
 obtain ⟨R,hA,hB⟩:=h
 obtain ⟨A1,c1,e1⟩:=hA.shape
 injection e1 with e1 e2 e3
 subst e1 e2 e3
 obtain ⟨b,o,e,d,a⟩:=hA.rd rfl k hk
 have g1:=a 0 (by omega)
 rw [Nat.mul_one,Nat.add_zero] at g1
 have hr:=hB k hk
 obtain ⟨RA,rc,hR⟩:=Own.shape hr
 rw [hR] at hr
 exact ⟨b,o,RA,rc,e,d,by rw [g1,<-hR],hr⟩
theorem zfK {w:World} {g m base:Nat} {f:Nat->Int} (h:w.rowIs g 3 m (fun u=>.int .i64 (f u))) (hb:base<=g) (hm:m<=maxLen):OwnL w base (.slice (some ⟨g,0,none⟩) m m) ((List.range m).map f):=by
 have hl:((List.range m).map f).length=m:=by simp
 unfold OwnL
 rw [hl]
 refine (zea h hb hm).congr fun u hu _ _=>?_
 unfold listCell
 rw [List.getD_eq_getElem?_getD,List.getElem?_map,List.getElem?_range hu]
 rfl
theorem zfL (w:World):TabL ((w.alloc (Obj.cells #[.int .i64 0] 3)).alloc (Obj.cells #[.slice (some ⟨w.heap.size,0,none⟩) 1 1] 22)) w.heap.size (.slice (some ⟨w.heap.size+1,0,none⟩) 1 1) [[0]]:=by
 have h0:=Own.new (w:=w) (base:=w.heap.size) (e := 3) (s:=1) (m:=1) (cap:=1) (cur:=#[.int .i64 0]) (f:=listCell [0]) (Nat.le_refl _) (Nat.le_refl _) (by unfold maxLen; omega) (by simp) (fun k hk j hj=>by
  obtain rfl:k=0:=by omega
  obtain rfl:j=0:=by omega
  rfl)
 have h1:=Own.new (w:=w.alloc (Obj.cells #[.int .i64 0] 3)) (base:=w.heap.size) (e := 22) (s:=1) (m:=1) (cap:=1) (cur:=#[.slice (some ⟨w.heap.size,0,none⟩) 1 1]) (f:=fun _ _=>.slice (some ⟨w.heap.size,0,none⟩) 1 1) (by simp) (by omega) (by unfold maxLen; omega) (by simp) (fun k hk j hj=>by
  obtain rfl:k=0:=by omega
  obtain rfl:j=0:=by omega
  rfl)
 have e1:(w.alloc (Obj.cells #[.int .i64 0] 3)).heap.size=w.heap.size+1:=by simp
 rw [e1] at h1
 refine ⟨fun _=>.slice (some ⟨w.heap.size,0,none⟩) 1 1,h1,fun i hi=>?_⟩
 obtain rfl:i=0:=by simp at hi; omega
 exact h0.alloc _
end Go.Proofs.YtgekjfpapmlndaaGreat