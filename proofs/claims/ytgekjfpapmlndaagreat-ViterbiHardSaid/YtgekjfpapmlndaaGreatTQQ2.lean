/- Merged texts of a claim. -/
import Derived.Test.YtgekjfpapmlndaaGreatTM14
import Derived.Test.YtgekjfpapmlndaaGreatTQQ1
import Derived.Shelf.SlSortCmp.WholeK
import Derived.Shelf.SlSortCmp.Whole1
import Derived.Shelf.SlSortCmp.NoneTotal
import Derived.Shelf.SlicesG.Cmp
import Derived.Ground.SlgcProg
namespace Go.Proofs.YtgekjfpapmlndaaGreat
set_option maxRecDepth 100000
set_option maxHeartbeats 32000000
def Trel.PathW (T:Trel) (x:Nat->Nat):Prop:=∃ nd:Nat->Nat,nd 0=0/\∀ i,i<T.n->∃ j,j<T.el i/\T.fr i j=(nd i:Nat)/\T.lb i j=(x i:Nat)/\T.to i j=(nd (i+1):Nat)
section
variable {q n N:Nat} {add mul:Nat->Nat->Nat} {pv:Nat->Nat} {R:Nat->Nat->Nat} {T:Trel}
theorem MinT.edge (hM:MinT q add mul n N pv R T) {i:Nat} (hi:i<N) {c:Nat->Nat} (hc:∀ s,c s<q) :
  ∃ j,j<T.el i/\T.fr i j=((packB q (actA pv R N i) c n:Nat):Int)/\T.lb i j=((spE add mul R c n i:Nat):Int)/\T.to i j=((packB q (actA pv R N (i+1)) c n:Nat):Int):=by
 obtain ⟨j,hj,e⟩:=hM.out i hi c hc
 simp only [Trel.eD,secE,Prod.mk.injEq] at e
 exact ⟨j,hj,e⟩
theorem yaq {D:Nat->Bool} {c:Nat->Nat} (h:∀ s,D s=false):∀ n,packB q D c n=0
 | 0=>rfl
 | n+1=>by
  show (if D n then packB q D c n*q+c n else packB q D c n)=0
  rw [h n]
  exact yaq h n
theorem MinT.path_of (hM:MinT q add mul n N pv R T) {c:Nat->Nat} (hc:∀ s,c s<q) {x:Nat->Nat} (hx:∀ i,i<N->x i=spE add mul R c n i):T.PathW x:=by
 refine ⟨fun i=>packB q (actA pv R N i) c n,yaq zes n,fun i hi=>?_⟩
 rw [hM.nN] at hi
 obtain ⟨j,hj,h1,h2,h3⟩:=hM.edge hi hc
 exact ⟨j,hj,h1,by rw [h2,hx i hi],h3⟩
theorem MinT.path_in (hL:FieldLaws q add mul) (h:SpanF q n N pv R) (hM:MinT q add mul n N pv R T) {x:Nat->Nat} (hx:T.PathW x):∃ c:Nat->Nat,(∀ s,c s<q)/\∀ i,i<N->x i=spE add mul R c n i:=by
 obtain ⟨nd,_,hp⟩:=hx
 rw [hM.nN] at hp
 have hq0:0<q:=by have:=hL.two; omega
 have hC:∀ i,∃ c:Nat->Nat,(∀ s,c s<q)/\(i<N->nd i=packB q (actA pv R N i) c n/\x i=spE add mul R c n i/\nd (i+1)=packB q (actA pv R N (i+1)) c n):=fun i=>by
  by_cases hi:i<N
  ·obtain ⟨j,hj,h1,h2,h3⟩:=hp i hi
   obtain ⟨c,k1,k2⟩:=hM.inn i hi j hj
   simp only [Trel.eD,secE,Prod.mk.injEq] at k2
   exact ⟨c,k1,fun _=>⟨by omega,by omega,by omega⟩⟩
  ·exact ⟨fun _=>0,fun _=>hq0,fun g=>absurd g hi⟩
 obtain ⟨C,hC⟩:=Classical.axiomOfChoice hC
 have step:∀ s,s<n->∀ d,pv s+d<N->((pv s+d:Nat):Int)<=lE (R s) N->C (pv s+d) s=C (pv s) s:=by
  intro s hs d
  induction d with
  | zero=>intro _ _; rfl
  | succ d ih =>
   intro h1 h2
   rw [<-ih (by omega) (by omega)]
   have k1:=(hC (pv s+d)).2 (by omega)
   have k2:=(hC (pv s+(d+1))).2 (by omega)
   have e:packB q (actA pv R N (pv s+d+1)) (C (pv s+(d+1))) n=packB q (actA pv R N (pv s+d+1)) (C (pv s+d)) n:=by
    rw [<-k1.2.2]; exact k2.1.symm
   exact zdx n (fun t _=>(hC _).1 t) (fun t _=>(hC _).1 t) e s hs ((zaQ _ s).2 ⟨by omega,by omega⟩)
 refine ⟨fun s=>C (pv s) s,fun s=>(hC _).1 s,fun i hi=>?_⟩
 rw [((hC i).2 hi).2.1]
 refine zgv n fun t ht=>?_
 by_cases g1:pv t<=i
 ·by_cases g2:(i:Int)<=lE (R t) N
  ·have:=step t ht (i - pv t) (by omega) (by omega)
   rw [show pv t+(i - pv t)=i by omega] at this
   rw [this]
  ·have:R t i=0:=zb7 (n:=N) hi (by omega)
   rw [this,hL.mulZero ((hC _).1 t),hL.mulZero ((hC _).1 t)]
 ·have:R t i=0:=h.low t ht i (by omega)
  rw [this,hL.mulZero ((hC _).1 t),hL.mulZero ((hC _).1 t)]
theorem MinT.path_iff (hL:FieldLaws q add mul) (h:SpanF q n N pv R) (hM:MinT q add mul n N pv R T) {x:Nat->Nat}:T.PathW x↔InSp q add mul n N R x:=by
 have hq0:0<q:=by have:=hL.two; omega
 constructor
 ·intro hx
  obtain ⟨c,h1,h2⟩:=hM.path_in hL h hx
  exact ⟨c,fun s _=>h1 s,h2⟩
 ·rintro ⟨c,h1,h2⟩
  refine hM.path_of (c:=fun s=>if s<n then c s else 0) (fun s=>?_) fun i hi=>?_
  ·show (if s<n then c s else 0)<q
   split
   ·exact h1 s (by assumption)
   ·exact hq0
  ·rw [h2 i hi]
   exact zgv n fun t ht=>by show mul (c t) _=mul (if t<n then c t else 0) _; rw [if_pos ht]
end
section
variable {q n N:Nat} {add mul:Nat->Nat->Nat} {pv:Nat->Nat} {R:Nat->Nat->Nat} {T:Trel}
theorem SpanF.ranks2 (hL:FieldLaws q add mul) {pv:Nat->Nat} {V R:Nat->Nat->Nat} (h:SpanF q n N pv R) (hV:∀ i,i<n->∀ j,j<N->V i j<q) (hS:SameSp q add mul N n n V R) (hd:∀ i j,i<j->j<n->lE (R i) N≠lE (R j) N)
  {i1 i a b:Nat} (hi1:i1<=N) (hi:i<=i1) (ha:RankIs q add mul n V 0 i1 a) (hb:RankIs q add mul n V i (N - i) b):a+b=cntB (fun s=>decide (pv s<i1) && decide ((i:Int)<=lE (R s) N)) n+n:=by
 obtain ⟨p1,W1,hE1,hR1⟩:=ha
 obtain ⟨p2,W2,hE2,hR2⟩:=hb
 have e1:SameSp q add mul i1 n a (fun s j=>R s (0+j)) W1:=fun x=>((hS.cut (lo:=0) (m:=i1) (by omega) x).symm.trans ((RowOps.sp hL (fun s hs j hj=>hV s hs (0+j) (by omega)) hR1).1 x)).trans (EchN.sp_top hL hE1 x)
 have e2:SameSp q add mul (N - i) n b (fun s j=>R s (i+j)) W2:=fun x=>((hS.cut (lo:=i) (m:=N - i) (by omega) x).symm.trans ((RowOps.sp hL (fun s hs j hj=>hV s hs (i+j) (by omega)) hR2).1 x)).trans (EchN.sp_top hL hE2 x)
 have k1:a=cntB (fun s=>decide (pv s<i1)) n:=by
  refine zgw hL (κ:=pv) (μ:=fun s=>s) (fun s hs j hj=>h.lt s hs (0+j) (by omega)) hE1.top e1 (fun s hs hD=>?_) (fun s t hs ht hD hne=>?_) (fun s hs hD j hj=>?_)
  ·have hD:=of_decide_eq_true hD
   refine ⟨hD,?_⟩
   show R s (0+pv s)≠0
   rw [Nat.zero_add,h.one s hs]
   omega
  ·have hD:=of_decide_eq_true hD
   rcases Nat.lt_or_ge t s with g | g
   ·exact .inr ⟨decide_eq_true (by have:=h.inc t s g hs; omega),g⟩
   ·refine .inl ?_
    show R t (0+pv s)=0
    rw [Nat.zero_add]
    exact h.low t ht _ (h.inc s t (by omega) ht)
  ·have hD:=of_decide_eq_false hD
   show R s (0+j)=0
   rw [Nat.zero_add]
   exact h.low s hs j (by omega)
 have k2:b=cntB (fun s=>decide ((i:Int)<=lE (R s) N)) n:=by
  have hin:=fun s=>ziJ (u:=R s) N
  refine zgw hL (κ:=fun s=>(lE (R s) N).toNat - i) (μ:=fun s=>N - (lE (R s) N).toNat) (fun s hs j hj=>h.lt s hs (i+j) (by omega)) hE2.top e2 (fun s hs hD=>?_) (fun s t hs ht hD hne=>?_) (fun s hs hD j hj=>?_)
  ·have hD:=of_decide_eq_true hD
   have h1:=hin s
   have h2:=zjm (u:=R s) N (lE (R s) N).toNat (by omega)
   refine ⟨by omega,?_⟩
   show R s (i+((lE (R s) N).toNat - i))≠0
   rw [show i+((lE (R s) N).toNat - i)=(lE (R s) N).toNat by omega]
   exact h2.2
  ·have hD:=of_decide_eq_true hD
   have h1:=hin s
   have h2:=hin t
   show R t (i+((lE (R s) N).toNat - i))=0∨_
   rw [show i+((lE (R s) N).toNat - i)=(lE (R s) N).toNat by omega]
   have hdd:lE (R s) N≠lE (R t) N:=by
    rcases Nat.lt_or_ge s t with g | g
    ·exact hd s t g ht
    ·exact (hd t s (by omega) hs).symm
   by_cases g:lE (R t) N<lE (R s) N
   ·exact .inl (zb7 (n:=N) (by omega) (by omega))
   ·exact .inr ⟨decide_eq_true (by omega),by omega⟩
  ·have hD:=of_decide_eq_false hD
   have h1:=hin s
   show R s (i+j)=0
   exact zb7 (n:=N) (by omega) (by omega)
 rw [k1,k2]
 exact zeV n fun s hs=>by
  have h1:=h.pos hs
  by_cases g:pv s<i1
  ·exact .inl (decide_eq_true g)
  ·exact .inr (decide_eq_true (by omega))
theorem SpanF.sects (hL:FieldLaws q add mul) {pv:Nat->Nat} {V R:Nat->Nat->Nat} (h:SpanF q n N pv R) (hV:∀ i,i<n->∀ j,j<N->V i j<q) (hS:SameSp q add mul N n n V R) (hd:∀ i j,i<j->j<n->lE (R i) N≠lE (R j) N)
  {i a b:Nat} (hi:i<N) (ha:RankIs q add mul n V 0 (i+1) a) (hb:RankIs q add mul n V i (N - i) b):a+b=cntB (actE pv R N i) n+n:=by
 have:=SpanF.ranks2 hL h hV hS hd (i1:=i+1) (i:=i) (by omega) (by omega) ha hb
 rw [this]
 congr 1
 refine zgt n fun s _=>?_
 unfold actE
 congr 1
 exact decide_eq_decide.2 (by omega)
end
open Go.RowKit Go.ChangeShapes Go.WideShapes Go.ChangeAt
end Go.Proofs.YtgekjfpapmlndaaGreat
namespace Go.Proofs
open Go.Shelf
end Go.Proofs
namespace Go.Proofs.YtgekjfpapmlndaaGreat
set_option maxRecDepth 100000
set_option maxHeartbeats 32000000
open Go.RowKit
def Trel.re (T:Trel) (y:Nat->Nat->Int × Int × Int):Trel:=⟨T.nw,T.W,T.n,T.el,fun i j=>(y i j).1,fun i j=>(y i j).2.1,fun i j=>(y i j).2.2⟩
theorem IsRen.in64 {T:Trel} (hP:T.Proper) {y:Nat->Nat->Int × Int × Int} (h:IsRen T y) {i:Nat} (hi:i<T.n) {j:Nat} (hj:j<T.el i):InI64 (y i j).1/\InI64 (y i j).2.1/\InI64 (y i j).2.2:=by
 have hm:y i j ∈ (List.range (T.el i)).map (y i):=List.mem_map.2 ⟨j,List.mem_range.2 hj,rfl⟩
 obtain ⟨q,hq,e⟩:=List.mem_map.1 ((h i hi).1.mem_iff.1 hm)
 rw [List.mem_range] at hq;rw [<-e]
 have h1:=hP.nm_lt (by omega) (hP.frL hi hq).1
 have h2:=hP.nm_lt (i:=i+1) (by omega) (hP.toL hi hq).1
 have h3:=(hP.shape.wid (i:=i) (by omega)).2
 have h4:=(hP.shape.wid (i:=i+1) (by omega)).2
 have h5:=hP.lbL hi hq
 refine ⟨⟨?_,?_⟩,⟨?_,?_⟩,⟨?_,?_⟩⟩
 ·show (-9223372036854775808:Int)<=(T.nm i (T.fr i q).toNat:Nat); omega
 ·show ((T.nm i (T.fr i q).toNat:Nat):Int)<=9223372036854775807; omega
 ·show (-9223372036854775808:Int)<=T.lb i q; omega
 ·show T.lb i q<=(9223372036854775807:Int); omega
 ·show (-9223372036854775808:Int)<=(T.nm (i+1) (T.to i q).toNat:Nat); omega
 ·show ((T.nm (i+1) (T.to i q).toNat:Nat):Int)<=9223372036854775807; omega
theorem IsRen.reads {T:Trel} (hP:T.Proper) {y:Nat->Nat->Int × Int × Int} (h:IsRen T y) {w:World} {base:Nat} {v wv:Value} (hE:ETab w base v T.n T.el y) (hA:Own w base 3 1 wv T.nw (fun k _=>.int .i64 (T.W k))) :
  ∃ A B c d,wv=.slice A T.nw c/\v=.slice B T.n d/\(T.re y).Reads w A B/\T.nw<=c/\c<=maxLen/\T.n<=d/\d<=maxLen:=by
 have hnw:=hP.shape.nw
 have hn:=hP.shape.n64
 refine ETab.reads (T:=T.re y) hE hA (fun i hi=>?_) (fun i hi j hj=>h.in64 hP hi hj) (by show T.nw<=_; omega) (by show T.n<=_; omega) (fun i hi=>by have:=hP.shape.elb hi; show T.el i<=_; omega)
 have hi':i<T.nw:=hi
 have:=hP.shape.wid (i:=i) (by omega)
 refine ⟨?_,?_⟩
 ·show (-9223372036854775808:Int)<=T.W i; omega
 ·show T.W i<=(9223372036854775807:Int); omega
theorem RenOut.reads {T:Trel} (hP:T.Proper) {y:Nat->Nat->Int × Int × Int} (hy:IsRen T y) {w:World} {A B:Option Addr} {c d:Nat} (h:RenOut T y w A B c d):(T.re y).Reads w A B/\T.nw<=c/\c<=maxLen/\T.n<=d/\d<=maxLen:=by
 obtain ⟨A',B',c',d',e1,e2,hR,k1,k2,k3,k4⟩:=hy.reads hP h.1 h.2
 injection e1 with e1 _ e1'
 subst e1 e1'
 injection e2 with e2 _ e2'
 subst e2 e2'
 exact ⟨hR,k1,k2,k3,k4⟩
open Go.ChangeShapes Go.WideShapes Go.ChangeAt
section
variable {T:Trel} {y:Nat->Nat->Int × Int × Int}
theorem IsRen.from_old (h:IsRen T y) {i j:Nat} (hi:i<T.n) (hj:j<T.el i):∃ p,p<T.el i/\y i p=T.tri i j:=by
 have:=(h i hi).1.mem_iff.2 (List.mem_map.2 ⟨j,List.mem_range.2 hj,rfl⟩)
 obtain ⟨p,hp,e⟩:=List.mem_map.1 this
 exact ⟨p,List.mem_range.1 hp,e⟩
theorem IsRen.to_old (h:IsRen T y) {i p:Nat} (hi:i<T.n) (hp:p<T.el i):∃ j,j<T.el i/\y i p=T.tri i j:=by
 have:=(h i hi).1.mem_iff.1 (List.mem_map.2 ⟨p,List.mem_range.2 hp,rfl⟩)
 obtain ⟨j,hj,e⟩:=List.mem_map.1 this
 exact ⟨j,List.mem_range.1 hj,e.symm⟩
theorem Trel.Proper.nm_surj (hP:T.Proper) {i:Nat} (hi:i<=T.n) {t:Nat} (ht:t<(T.W i).toNat):∃ v,v<(T.W i).toNat/\T.nm i v=t:=by
 match i with
 | 0 =>
  rw [hP.w0] at ht ⊢
  have e1:(1:Int).toNat=1:=rfl
  rw [e1] at ht
  exact ⟨0,by rw [e1]; omega,by show 0=t; omega⟩
 | i+1 =>
  obtain ⟨h1,h2⟩:=hP.next_perm (i:=i) (by omega)
  have hl:=h1.length_eq
  rw [List.length_range] at hl
  have hm:(firsts ((T.vis i).map fun j=>(T.to i j).toNat))[t]'(by omega) ∈ List.range (T.W (i+1)).toNat:=h1.mem_iff.1 (List.getElem_mem _)
  have hv:=List.mem_range.1 hm
  refine ⟨_,hv,?_⟩
  rw [<-h2 _ hv]
  have hnd:(firsts ((T.vis i).map fun j=>(T.to i j).toNat)).Nodup:=h1.nodup_iff.2 List.nodup_range
  exact hnd.idxOf_getElem t (by omega)
theorem IsRen.proper (hP:T.Proper) (h:IsRen T y):(T.re y).Proper:=by
 have hs:=hP.shape
 have eW:∀ k,(T.re y).sumW k=T.sumW k:=fun k=>by
  induction k with
  | zero=>rfl
  | succ k ih=>show (T.re y).sumW k+T.W k=T.sumW k+T.W k; rw [ih]
 have eE:∀ k,(T.re y).sumE k=T.sumE k:=fun k=>by
  induction k with
  | zero=>rfl
  | succ k ih=>show (T.re y).sumE k+T.el k=T.sumE k+T.el k; rw [ih]
 have hold:∀ i,i<T.n->∀ p,p<T.el i->∃ j,j<T.el i/\(y i p).1=((T.nm i (T.fr i j).toNat:Nat):Int)/\(y i p).2.1=T.lb i j/\(y i p).2.2=((T.nm (i+1) (T.to i j).toNat:Nat):Int):=fun i hi p hp=>by
  obtain ⟨j,hj,e⟩:=h.to_old hi hp
  rw [e]
  exact ⟨j,hj,rfl,rfl,rfl⟩
 refine ⟨⟨hs.n64,hs.nw,hs.w1,(eW _).symm ▸ hs.sW,(eE _).symm ▸ hs.sE,fun i hi p hp=>?_⟩,hP.w0,hP.wn,fun i hi=>⟨fun p hp=>?_,fun v hv=>?_,fun v hv=>?_⟩⟩
 ·have hi:i<T.n:=hi
  have hp:p<T.el i:=hp
  obtain ⟨j,hj,e1,_,e3⟩:=hold i hi p hp
  have k1:=hP.nm_lt (i:=i) (by omega) (hP.frL hi hj).1
  have k2:=hP.nm_lt (i:=i+1) (by omega) (hP.toL hi hj).1
  show 0<=(y i p).1/\(y i p).1<T.W i/\0<=(y i p).2.2/\(y i p).2.2<T.W (i+1)
  omega
 ·have hi:i<T.n:=hi
  have hp:p<T.el i:=hp
  obtain ⟨j,hj,_,e2,_⟩:=hold i hi p hp
  have k:=(hP.sec i hi).1 j hj
  refine ⟨by show 0<=(y i p).2.1; rw [e2]; exact k.1,by show (y i p).2.1<256; rw [e2]; exact k.2.1,fun h0=>?_⟩
  exact (h i hi).2 (p - 1) p (by omega) hp
 ·have hi:i<T.n:=hi
  have hv:v<(T.W i).toNat:=hv
  obtain ⟨u,hu,e⟩:=hP.nm_surj (i:=i) (by omega) hv
  obtain ⟨j,hj,e2⟩:=zcM.1 ((hP.sec i hi).2.1 u hu)
  obtain ⟨p,hp,e3⟩:=h.from_old hi hj
  refine zcM.2 ⟨p,hp,?_⟩
  show (y i p).1=(v:Nat)
  rw [e3]
  show ((T.nm i (T.fr i j).toNat:Nat):Int)=_
  rw [e2,Int.toNat_natCast,e]
 ·have hi:i<T.n:=hi
  have hv:v<(T.W (i+1)).toNat:=hv
  obtain ⟨u,hu,e⟩:=hP.nm_surj (i:=i+1) (by omega) hv
  obtain ⟨j,hj,e2⟩:=zcM.1 ((hP.sec i hi).2.2 u hu)
  obtain ⟨p,hp,e3⟩:=h.from_old hi hj
  refine zcM.2 ⟨p,hp,?_⟩
  show (y i p).2.2=(v:Nat)
  rw [e3]
  show ((T.nm (i+1) (T.to i j).toNat:Nat):Int)=_
  rw [e2,Int.toNat_natCast,e]
theorem IsRen.path (hP:T.Proper) (h:IsRen T y) {x:Nat->Nat}:(T.re y).PathW x↔T.PathW x:=by
 constructor
 ·rintro ⟨nd,h0,hp⟩
  have hp:∀ i,i<T.n->∃ p,p<T.el i/\(y i p).1=(nd i:Nat)/\(y i p).2.1=(x i:Nat)/\(y i p).2.2=(nd (i+1):Nat):=hp
  have hq:∀ i,∃ j,i<T.n->j<T.el i/\T.nm i (T.fr i j).toNat=nd i/\T.lb i j=(x i:Nat)/\T.nm (i+1) (T.to i j).toNat=nd (i+1):=fun i=>by
   by_cases hi:i<T.n
   ·obtain ⟨p,h1,h2,h3,h4⟩:=hp i hi
    obtain ⟨j,hj,e⟩:=h.to_old hi h1
    rw [e] at h2 h3 h4
    have h2:((T.nm i (T.fr i j).toNat:Nat):Int)=(nd i:Nat):=h2
    have h3:T.lb i j=(x i:Nat):=h3
    have h4:((T.nm (i+1) (T.to i j).toNat:Nat):Int)=(nd (i+1):Nat):=h4
    exact ⟨j,fun _=>⟨hj,by omega,h3,by omega⟩⟩
   ·exact ⟨0,fun g=>absurd g hi⟩
  obtain ⟨q,hq⟩:=Classical.axiomOfChoice hq
  refine ⟨fun i=>match i with | 0=>0 | i+1=>(T.to i (q i)).toNat,rfl,fun i hi=>?_⟩
  obtain ⟨k1,k2,k3,k4⟩:=hq i hi
  refine ⟨q i,k1,?_,k3,by rw [(hP.toL hi k1).2]⟩
  match i with
  | 0 =>
   have:=hP.frL hi k1
   rw [hP.w0] at this
   have e1:(1:Int).toNat=1:=rfl
   show T.fr 0 (q 0)=((0:Nat):Int)
   omega
  | i+1 =>
   obtain ⟨m1,_,_,m4⟩:=hq i (by omega)
   have:=hP.nm_inj (i:=i+1) (by omega) _ _ (hP.frL hi k1).1 (hP.toL (by omega) m1).1 (by omega)
   have e2:=(hP.frL hi k1).2
   show T.fr (i+1) (q (i+1))=(((T.to i (q i)).toNat:Nat):Int)
   omega
 ·rintro ⟨nd,h0,hp⟩
  refine ⟨fun i=>T.nm i (nd i),rfl,fun i hi=>?_⟩
  have hi:i<T.n:=hi
  obtain ⟨j,hj,h1,h2,h3⟩:=hp i hi
  obtain ⟨p,hp2,e⟩:=h.from_old hi hj
  refine ⟨p,hp2,?_,?_,?_⟩
  ·show (y i p).1=_
   rw [e]
   show ((T.nm i (T.fr i j).toNat:Nat):Int)=_
   rw [h1,Int.toNat_natCast]
  ·show (y i p).2.1=_
   rw [e]
   exact h2
  ·show (y i p).2.2=_
   rw [e]
   show ((T.nm (i+1) (T.to i j).toNat:Nat):Int)=_
   rw [h3,Int.toNat_natCast]
end
def ITabPost (T:Trel) (x:Nat->Nat->Int) (w:World) (e:Ending) (w':World):Prop :=
 ∃ g F,e=.returned (.slice (some ⟨g,0,none⟩) T.nw T.nw)/\w.heap.size<=g/\IntTab w' g (g+1) T.nw F (fun v=>(T.W v).toNat) x/\Below w.heap.size w w'
theorem ya9 (T:Trel) (A B:Option Addr) (c d:Nat) (w:World) (h:T.Reads w A B) (hs:T.Shape) :
  Calls Tryz.prog 182 #[.agg #[],.agg #[.slice A T.nw c,.slice B T.n d]] w (ITabPost T (fun _ _=>4611686018427387904) w):=by
 obtain ⟨O1,hO1⟩:∃ o,o=(Obj.cells #[] 158):=⟨_,rfl⟩
 obtain ⟨O2,hO2⟩:∃ o,o=(Obj.cells #[.slice A T.nw c,.slice B T.n d] 53):=⟨_,rfl⟩
 have hB0:Below (w.heap.size+2) ((w.alloc O1).alloc O2) ((w.alloc O1).alloc O2):=Below.refl _ _
 have HS:Hid (∀ w',Below (w.heap.size+2) ((w.alloc O1).alloc O2) w'->(w'.cell? ⟨w.heap.size+1,0,none⟩=some (.slice A T.nw c)/\w'.cell? ⟨w.heap.size+1,1,none⟩=some (.slice B T.n d))/\Below w.heap.size w w'):=fun w' hB=>by
  have hB':=zeY hB
  subst hO2
  have hr:=zfQ hB
  exact ⟨⟨hr.cell (i:=0) (by simp),hr.cell (i:=1) (by simp)⟩,hB'⟩
 obtain ⟨⟨p0,p1⟩,hW⟩:=HS.out _ hB0
 have hn64:=hs.n64
 have hnw:=hs.nw
 have hmk:=fun W=>zah (P:=Tryz.prog) 25 22 _ 24 Tryz.underlying25 Tryz.infoInts rfl (T.nw:Int) (by omega) (by omega) (by omega) W
 simp only [Int.toNat_natCast] at hmk
 have HR:=hid h
 have HSH:=hid hs
 have hnw65:T.nw<=65:=by omega
 clear h hs hnw
 go_enter Tryz.func182, Tryz.ntmps182
 go_wp2_with fail
 rw [<-hO1,<-hO2]
 go_upto_region 2 with fail
 obtain ⟨W2,hW2⟩:∃ W,W=(w.alloc O1).alloc O2:=⟨_,rfl⟩
 have hsz2:W2.heap.size=w.heap.size+2:=by rw [hW2]; simp
 have HS2:Hid (∀ w',Below (w.heap.size+2) W2 w'->(w'.cell? ⟨w.heap.size+1,0,none⟩=some (.slice A T.nw c)/\w'.cell? ⟨w.heap.size+1,1,none⟩=some (.slice B T.n d))/\Below w.heap.size w w'):=by rw [hW2]; exact HS
 rw [<-hW2] at hB0 ⊢
 obtain ⟨g,hg⟩:∃ g,g=w.heap.size+1+1:=⟨_,rfl⟩
 have hgz:g=W2.heap.size:=by omega
 have hr3:=World.rowIs_made W2 (.slice none 0 0) T.nw 22
 have hB3:=zaZ hB0 (Nat.le_of_eq hsz2.symm) ((Below.refl W2.heap.size W2).alloc (Nat.le_refl _) (Obj.cells (madeCells #[Value.slice none 0 0] T.nw) 22))
 have hl3:w.heap.size+2<(W2.alloc (Obj.cells (madeCells #[Value.slice none 0 0] T.nw) 22)).heap.size:=by simp; omega
 obtain ⟨W3,hW3⟩:∃ W,W=W2.alloc (Obj.cells (madeCells #[Value.slice none 0 0] T.nw) 22):=⟨_,rfl⟩
 rw [<-hgz] at hr3;rw [<-hW3] at hr3 hB3 hl3 ⊢;rw [<-hg]
 have hT3:IntTab W3 g (g+1) T.nw (fun _=>.slice none 0 0) (fun v=>if v<0 then (T.W v).toNat else 0) (fun _ _=>4611686018427387904):=(zet hr3).congr (fun v _=>(if_neg (by omega)).symm) (fun v _ k hk=>rfl)
 have hg2:w.heap.size+2<=g:=by omega
 clear hW3 hgz hg hr3 hW2 HS hB0 hmk hO1 hO2 hsz2
 go_loopg [15] T.nw (fun gg iv wx=>∃ (k:Nat) (F:Nat->Value),iv=.int .i64 (k:Nat)/\k<=T.nw/\T.nw<=k+gg/\IntTab wx g (g+1) T.nw F (fun v=>if v<k then (T.W v).toNat else 0) (fun _ _=>4611686018427387904)/\Below (w.heap.size+2) W2 wx/\w.heap.size+2<wx.heap.size)
 case atStart=>exact ⟨0,_,rfl,by omega,by omega,hT3,hB3,hl3⟩
 case round =>
  clear hW p0 p1 hT3 hB3 hl3
  obtain ⟨gK,hgK⟩:∃ g,g=gk:=⟨_,rfl⟩
  subst hgK
  obtain ⟨k,F,rfl,hk,hkg,hT,hB,hl⟩:=hrel
  obtain ⟨wk,hwk⟩:∃ W,W=wr:=⟨_,rfl⟩
  subst hwk
  have hk0:(0:Int)<=(k:Int):=by omega
  obtain ⟨⟨p0,p1⟩,hW⟩:=HS2.out _ hB
  by_cases hlt:k<T.nw
  ·have hlt':(k:Int)<(T.nw:Int):=by omega
   obtain ⟨wb,wo,rfl,hwb,y0,hy1,hy2⟩:=(HR.out.on hW).width hlt
   have hwid:=HSH.out.wid (i:=k) (by have:=HSH.out.nw; omega)
   obtain ⟨n1,hn1⟩:∃ n:Nat,(n:Int)=T.W k:=⟨(T.W k).toNat,by omega⟩
   rw [<-hn1] at y0 hwid
   have HN1:=hid hn1
   clear hn1 hy1 hy2
   have hT0:IntTab wk g (g+1) T.nw F (fun v=>if v<k then (T.W v).toNat else if v=k then 0 else 0) (fun _ _=>4611686018427387904):=hT.congr (fun v _=>by split <;> simp) (fun v _ q hq=>rfl)
   clear hT
   go_wp2
   go_loopg [21] n1 (fun gg jv wx=>∃ (j:Nat) (F:Nat->Value),jv=.int .i64 (j:Nat)/\j<=n1/\n1<=j+gg/\IntTab wx g (g+1) T.nw F (fun v=>if v<k then (T.W v).toNat else if v=k then j else 0) (fun _ _=>4611686018427387904)/\Below (w.heap.size+2) W2 wx/\w.heap.size+2<wx.heap.size)
   case atStart=>exact ⟨0,F,rfl,by omega,by omega,hT0,hB,hl⟩
   case round =>
    clear hW p0 p1 hT0 hB hl y0
    obtain ⟨j,F2,rfl,hj,hjg,hT,hB,hl⟩:=hrel
    have hj0:(0:Int)<=(j:Int):=by omega
    obtain ⟨⟨p0,p1⟩,hW⟩:=HS2.out _ hB
    by_cases hltj:j<n1
    ·have hltj':(j:Int)<(n1:Int):=by omega
     obtain ⟨fk,hfk⟩:∃ v,v=F2 k:=⟨_,rfl⟩
     have q0:wr.cell? ⟨g,k,none⟩=some fk:=by rw [hfk]; exact hT.row.cell hlt
     have HFK:=hid hfk
     clear hfk p0 p1 hW
     rename World=>w50
     go_upto_region 7 with fail
     refine wp_region_held_drew (S:=fun _=>True) (by kernel_rfl) trivial (fun hHeld=>?_)
     obtain ⟨w51,hw⟩:∃ W,W=World.drew w50:=⟨_,rfl⟩
     have kb:Below w50.heap.size w50 w51:=by rw [hw]; exact (Below.refl _ _).drew
     rw [<-hw];clear hw;replace hB:=zaZ hB (Nat.le_of_lt hl) kb;replace hl:=Nat.lt_of_lt_of_le hl kb.size;replace hT:=hT.on kb;replace q0:=cellS kb q0;clear kb
     refine tkq 0 (h:=tkq 1 (h:=tkq 2 (h:=tkq 3 (h:=tkq 4 (h:=tkq 6 (h:=tkq 7 (h:=?_)))))))
     refine rdq2 5 8 (h:=fun K hK=>?_) (h2:=fun K hK=>?_)
     ·go_simp
      refine bkq hK trivial (h:=fun hHeld=>?_)
      clear hK K
      refine rdq 8 (h:=fun K hK=>?_)
      go_simp
      go_wp2_with fail
      refine (yam w51).mono ?_
      rintro e w52 ⟨rfl,kb⟩
      replace hB:=zaZ hB (Nat.le_of_lt hl) kb;replace hl:=Nat.lt_of_lt_of_le hl kb.size;replace hT:=hT.on kb;replace q0:=cellS kb q0;clear kb
      refine bkq hK trivial (h:=fun hHeld=>?_)
      clear hK K
      refine rdq 9 (h:=fun K hK=>?_)
      go_simp
      obtain ⟨w53,hw⟩:∃ W,W=World.alloc w52 (Obj.cells #[Value.int .i64 4611686018427387904] 3):=⟨_,rfl⟩
      have kb:Below w52.heap.size w52 w53:=by rw [hw]; exact (Below.refl _ _).alloc (Nat.le_refl _) _
      have n1c:w53.cell? ⟨w52.heap.size,0,none⟩=some (Value.int .i64 4611686018427387904):=by rw [hw]; simp
      rw [<-hw];clear hw
      obtain ⟨nb_n1c,hnb⟩:∃ b,b=w52.heap.size:=⟨_,rfl⟩
      rw [<-hnb] at n1c ⊢;clear hnb;replace hB:=zaZ hB (Nat.le_of_lt hl) kb;replace hl:=Nat.lt_of_lt_of_le hl kb.size;replace hT:=hT.on kb;replace q0:=cellS kb q0;clear kb
      refine bkq hK trivial (h:=fun hHeld=>?_)
      clear hK K
      refine rdq 10 (h:=fun K hK=>?_)
      have hOwn:Own w53 (g+1) 3 1 fk j (fun _ _=>.int .i64 4611686018427387904):=by
       have:=hT.own k hlt
       rw [if_neg (Nat.lt_irrefl k),if_pos rfl,<-HFK.out] at this
       exact this
      have hgl:g+1<=w53.heap.size:=hT.row.lt
      refine yaa (by rfl) (.tmp 28) (.tmp 32) (by rfl) (g+1) fk j (fun _=>4611686018427387904) (by rfl) hOwn hgl (by omega) nb_n1c 1 (by rfl) n1c ?_
      intro v9 w9 o1 o2 o3
      obtain ⟨A9,c9,hv9⟩:=o1.shape
      subst hv9
      have hfo:∀ q,fk.ownBlock=some q->g+1<=q:=fun q e=>(hOwn.lt q e).1
      have q9:w9.cell? ⟨g,k,none⟩=some fk:=zac q0 o2 fun e=>by have:=hfo g e; omega
      have z9:w9.frozen? ⟨g,k,none⟩=false:=by
       have:=(hT.row.of_block (o2.block g hT.row.lt fun e=>by have:=hfo g e.symm; omega)).frozen k
       exact this
      have hB9:Below (w.heap.size+2) W2 w9:=hB.grown o2 (Nat.le_of_lt hl) fun q e=>by have:=hfo q e; omega
      have hl9:w.heap.size+2<w9.heap.size:=Nat.lt_of_lt_of_le hl o2.size
      have hPut:=hid (hT.put (by omega) hlt o1 (by rw [<-HFK.out]; exact o2) (by rw [<-HFK.out]; exact o3))
      refine bkq hK trivial (h:=fun hHeld=>?_)
      clear hK K
      refine tkq 11 (h:=?_)
      refine rdq 12 (h:=fun K hK=>?_)
      go_simp
      refine bkq hK trivial (h:=fun hHeld=>?_)
      clear hK K
      refine wpAnyH_done (by kernel_rfl) ?_ _
      clear hHeld
      have hN:=hPut.out.congr (n':=fun v=>if v<k then (T.W v).toNat else if v=k then j+1 else 0) (x':=fun _ _=>4611686018427387904) (fun v _=>by
        by_cases e:v=k
        ·subst e; simp
        ·simp [e]) (fun v _ q hq=>by split <;> rfl)
      have HN:=hid hN
      have hBf:=hB9.setCell (p:=⟨g,k,none⟩) hg2 (.slice A9 (j+1) c9)
      have hlf:w.heap.size+2<(w9.setCell ⟨g,k,none⟩ (.slice A9 (j+1) c9)).heap.size:=by simp; exact hl9
      clear hPut hN q9 z9 hB9
      go_wp2
      go_roundg (gk - 1)
      case measure=>omega
      case rel=>exact ⟨j+1,_,by go_num,by omega,by omega,HN.out,hBf,hlf⟩
     ·go_simp
      go_wp2_with fail
      refine (yam w51).mono ?_
      rintro e w52 ⟨rfl,kb⟩
      replace hB:=zaZ hB (Nat.le_of_lt hl) kb;replace hl:=Nat.lt_of_lt_of_le hl kb.size;replace hT:=hT.on kb;replace q0:=cellS kb q0;clear kb
      refine bkq hK trivial (h:=fun hHeld=>?_)
      clear hK K
      refine rdq2 5 9 (h:=fun K hK=>?_) (h2:=fun K hK=>?_)
      ·go_simp
       refine bkq hK trivial (h:=fun hHeld=>?_)
       clear hK K
       refine rdq 9 (h:=fun K hK=>?_)
       go_simp
       obtain ⟨w53,hw⟩:∃ W,W=World.alloc w52 (Obj.cells #[Value.int .i64 4611686018427387904] 3):=⟨_,rfl⟩
       have kb:Below w52.heap.size w52 w53:=by rw [hw]; exact (Below.refl _ _).alloc (Nat.le_refl _) _
       have n1c:w53.cell? ⟨w52.heap.size,0,none⟩=some (Value.int .i64 4611686018427387904):=by rw [hw]; simp
       rw [<-hw];clear hw
       obtain ⟨nb_n1c,hnb⟩:∃ b,b=w52.heap.size:=⟨_,rfl⟩
       rw [<-hnb] at n1c ⊢;clear hnb;replace hB:=zaZ hB (Nat.le_of_lt hl) kb;replace hl:=Nat.lt_of_lt_of_le hl kb.size;replace hT:=hT.on kb;replace q0:=cellS kb q0;clear kb
       refine bkq hK trivial (h:=fun hHeld=>?_)
       clear hK K
       refine rdq 10 (h:=fun K hK=>?_)
       have hOwn:Own w53 (g+1) 3 1 fk j (fun _ _=>.int .i64 4611686018427387904):=by
        have:=hT.own k hlt
        rw [if_neg (Nat.lt_irrefl k),if_pos rfl,<-HFK.out] at this
        exact this
       have hgl:g+1<=w53.heap.size:=hT.row.lt
       refine yaa (by rfl) (.tmp 28) (.tmp 32) (by rfl) (g+1) fk j (fun _=>4611686018427387904) (by rfl) hOwn hgl (by omega) nb_n1c 1 (by rfl) n1c ?_
       intro v9 w9 o1 o2 o3
       obtain ⟨A9,c9,hv9⟩:=o1.shape
       subst hv9
       have hfo:∀ q,fk.ownBlock=some q->g+1<=q:=fun q e=>(hOwn.lt q e).1
       have q9:w9.cell? ⟨g,k,none⟩=some fk:=zac q0 o2 fun e=>by have:=hfo g e; omega
       have z9:w9.frozen? ⟨g,k,none⟩=false:=by
        have:=(hT.row.of_block (o2.block g hT.row.lt fun e=>by have:=hfo g e.symm; omega)).frozen k
        exact this
       have hB9:Below (w.heap.size+2) W2 w9:=hB.grown o2 (Nat.le_of_lt hl) fun q e=>by have:=hfo q e; omega
       have hl9:w.heap.size+2<w9.heap.size:=Nat.lt_of_lt_of_le hl o2.size
       have hPut:=hid (hT.put (by omega) hlt o1 (by rw [<-HFK.out]; exact o2) (by rw [<-HFK.out]; exact o3))
       refine bkq hK trivial (h:=fun hHeld=>?_)
       clear hK K
       refine tkq 11 (h:=?_)
       refine rdq 12 (h:=fun K hK=>?_)
       go_simp
       refine bkq hK trivial (h:=fun hHeld=>?_)
       clear hK K
       refine wpAnyH_done (by kernel_rfl) ?_ _
       clear hHeld
       have hN:=hPut.out.congr (n':=fun v=>if v<k then (T.W v).toNat else if v=k then j+1 else 0) (x':=fun _ _=>4611686018427387904) (fun v _=>by
         by_cases e:v=k
         ·subst e; simp
         ·simp [e]) (fun v _ q hq=>by split <;> rfl)
       have HN:=hid hN
       have hBf:=hB9.setCell (p:=⟨g,k,none⟩) hg2 (.slice A9 (j+1) c9)
       have hlf:w.heap.size+2<(w9.setCell ⟨g,k,none⟩ (.slice A9 (j+1) c9)).heap.size:=by simp; exact hl9
       clear hPut hN q9 z9 hB9
       go_wp2
       go_roundg (gk - 1)
       case measure=>omega
       case rel=>exact ⟨j+1,_,by go_num,by omega,by omega,HN.out,hBf,hlf⟩
      ·go_simp
       obtain ⟨w53,hw⟩:∃ W,W=World.alloc w52 (Obj.cells #[Value.int .i64 4611686018427387904] 3):=⟨_,rfl⟩
       have kb:Below w52.heap.size w52 w53:=by rw [hw]; exact (Below.refl _ _).alloc (Nat.le_refl _) _
       have n1c:w53.cell? ⟨w52.heap.size,0,none⟩=some (Value.int .i64 4611686018427387904):=by rw [hw]; simp
       rw [<-hw];clear hw
       obtain ⟨nb_n1c,hnb⟩:∃ b,b=w52.heap.size:=⟨_,rfl⟩
       rw [<-hnb] at n1c ⊢;clear hnb;replace hB:=zaZ hB (Nat.le_of_lt hl) kb;replace hl:=Nat.lt_of_lt_of_le hl kb.size;replace hT:=hT.on kb;replace q0:=cellS kb q0;clear kb
       refine bkq hK trivial (h:=fun hHeld=>?_)
       clear hK K
       refine rdq 5 (h:=fun K hK=>?_)
       go_simp
       refine bkq hK trivial (h:=fun hHeld=>?_)
       clear hK K
       refine rdq 10 (h:=fun K hK=>?_)
       have hOwn:Own w53 (g+1) 3 1 fk j (fun _ _=>.int .i64 4611686018427387904):=by
        have:=hT.own k hlt
        rw [if_neg (Nat.lt_irrefl k),if_pos rfl,<-HFK.out] at this
        exact this
       have hgl:g+1<=w53.heap.size:=hT.row.lt
       refine yaa (by rfl) (.tmp 28) (.tmp 32) (by rfl) (g+1) fk j (fun _=>4611686018427387904) (by rfl) hOwn hgl (by omega) nb_n1c 1 (by rfl) n1c ?_
       intro v9 w9 o1 o2 o3
       obtain ⟨A9,c9,hv9⟩:=o1.shape
       subst hv9
       have hfo:∀ q,fk.ownBlock=some q->g+1<=q:=fun q e=>(hOwn.lt q e).1
       have q9:w9.cell? ⟨g,k,none⟩=some fk:=zac q0 o2 fun e=>by have:=hfo g e; omega
       have z9:w9.frozen? ⟨g,k,none⟩=false:=by
        have:=(hT.row.of_block (o2.block g hT.row.lt fun e=>by have:=hfo g e.symm; omega)).frozen k
        exact this
       have hB9:Below (w.heap.size+2) W2 w9:=hB.grown o2 (Nat.le_of_lt hl) fun q e=>by have:=hfo q e; omega
       have hl9:w.heap.size+2<w9.heap.size:=Nat.lt_of_lt_of_le hl o2.size
       have hPut:=hid (hT.put (by omega) hlt o1 (by rw [<-HFK.out]; exact o2) (by rw [<-HFK.out]; exact o3))
       refine bkq hK trivial (h:=fun hHeld=>?_)
       clear hK K
       refine tkq 11 (h:=?_)
       refine rdq 12 (h:=fun K hK=>?_)
       go_simp
       refine bkq hK trivial (h:=fun hHeld=>?_)
       clear hK K
       refine wpAnyH_done (by kernel_rfl) ?_ _
       clear hHeld
       have hN:=hPut.out.congr (n':=fun v=>if v<k then (T.W v).toNat else if v=k then j+1 else 0) (x':=fun _ _=>4611686018427387904) (fun v _=>by
         by_cases e:v=k
         ·subst e; simp
         ·simp [e]) (fun v _ q hq=>by split <;> rfl)
       have HN:=hid hN
       have hBf:=hB9.setCell (p:=⟨g,k,none⟩) hg2 (.slice A9 (j+1) c9)
       have hlf:w.heap.size+2<(w9.setCell ⟨g,k,none⟩ (.slice A9 (j+1) c9)).heap.size:=by simp; exact hl9
       clear hPut hN q9 z9 hB9
       go_wp2
       go_roundg (gk - 1)
       case measure=>omega
       case rel=>exact ⟨j+1,_,by go_num,by omega,by omega,HN.out,hBf,hlf⟩
    ·have hltj':¬ (j:Int)<(n1:Int):=by omega
     have hje:j=n1:=by omega
     have hT1:Hid (IntTab wr g (g+1) T.nw F2 (fun v=>if v<k+1 then (T.W v).toNat else 0) (fun _ _=>4611686018427387904)):=hT.congr (fun v _=>by
      by_cases e:v<k
      ·rw [if_pos e,if_pos (by omega)]
      ·rw [if_neg e]
       by_cases e2:v=k
       ·subst e2
        rw [if_pos rfl,if_pos (by omega),hje]
        have:=HN1.out
        omega
       ·rw [if_neg e2,if_neg (by omega)]) (fun v _ q hq=>rfl)
     have HB:=hid hB
     clear hT hB hje
     go_wp2
     go_roundg (gK - 1)
     case measure=>omega
     case rel=>exact ⟨k+1,F2,by go_num,by omega,by omega,hT1.out,HB.out,hl⟩
  ·have hlt':¬ (k:Int)<(T.nw:Int):=by omega
   have hTf:Hid (IntTab wk g (g+1) T.nw F (fun v=>(T.W v).toNat) (fun _ _=>4611686018427387904)):=hT.congr (fun v hv=>if_pos (by omega)) (fun v _ q hq=>rfl)
   clear hT
   go_wp2
   go_ret
   exact ⟨g,F,rfl,by omega,hTf.out,hW⟩
def Trel.bwE (T:Trel) (y:Nat->Nat->Int) (next:Nat->Int) (i:Nat):Nat->Nat->Int
 | 0,_=>4611686018427387904
 | j+1,v=>if (T.fr i j).toNat=v then min (T.bwE y next i j v) (capI (y i j) (next (T.to i j).toNat)) else T.bwE y next i j v
def Trel.bw (T:Trel) (y:Nat->Nat->Int):Nat->Nat->Int
 | 0,v=>if v=0 then 0 else 4611686018427387904
 | r+1,v=>T.bwE y (T.bw y r) (T.n - (r+1)) (T.el (T.n - (r+1))) v
def Trel.bwX (T:Trel) (y:Nat->Nat->Int) (i j u v:Nat):Int:=if i<u then T.bw y (T.n - u) v else if u=i then T.bwE y (T.bw y (T.n - (i+1))) i j v else 4611686018427387904
def Costs (T:Trel) (y:Nat->Nat->Int):Prop:=∀ i,i<T.n->∀ j,j<T.el i->0<=y i j/\y i j<=2147483648
section
variable {T:Trel} {y:Nat->Nat->Int}
theorem Trel.bwE_cost {next:Nat->Int} {i:Nat} (hn:∀ v,Cost (next v)):∀ j,(∀ q,q<j->Cost (y i q))->∀ v,Cost (T.bwE y next i j v):=by
 intro j
 induction j with
 | zero=>intro _ v; show Cost 4611686018427387904; unfold Cost; omega
 | succ j ih =>
  intro hy v
  have h1:=ih (fun q hq=>hy q (by omega)) v
  show Cost (if _ then _ else _)
  split
  ·exact ybp h1 (yav (hy j (by omega)) (hn _))
  ·exact h1
theorem Costs.cost (h:Costs T y) {i j:Nat} (hi:i<T.n) (hj:j<T.el i):Cost (y i j):=by
 have:=h i hi j hj
 unfold Cost
 omega
theorem Trel.bw_cost (h:Costs T y):∀ r,r<=T.n->∀ v,Cost (T.bw y r v):=by
 intro r
 induction r with
 | zero=>intro _ v; show Cost (if v=0 then 0 else _); unfold Cost; split <;> omega
 | succ r ih =>
  intro hr v
  exact Trel.bwE_cost (ih (by omega)) _ (fun q hq=>h.cost (by omega) hq) v
theorem Trel.bwX_cost (h:Costs T y) {i j:Nat} (hi:i<T.n) (hj:j<=T.el i) (u v:Nat):Cost (T.bwX y i j u v):=by
 unfold Trel.bwX
 split
 ·exact Trel.bw_cost h _ (by omega) _
 ·split
  ·exact Trel.bwE_cost (Trel.bw_cost h _ (by omega)) _ (fun q hq=>h.cost hi (by omega)) _
  ·unfold Cost; omega
theorem Trel.bwX_put (i j u v:Nat) {fn tn:Nat} (hf:(T.fr i j).toNat=fn) (ht:(T.to i j).toNat=tn) :
  (fun u' j'=>if u'=i/\j'=fn then min (T.bwX y i j i fn) (capI (y i j) (T.bwX y i j (i+1) tn)) else T.bwX y i j u' j') u v=T.bwX y i (j+1) u v:=by
 have e1:T.bwX y i j i fn=T.bwE y (T.bw y (T.n - (i+1))) i j fn:=by
  unfold Trel.bwX
  rw [if_neg (by omega),if_pos rfl]
 have e2:T.bwX y i j (i+1) tn=T.bw y (T.n - (i+1)) tn:=by
  unfold Trel.bwX
  rw [if_pos (by omega)]
 simp only [e1,e2]
 by_cases h:i<u
 ·rw [if_neg (by omega)]
  unfold Trel.bwX
  rw [if_pos h,if_pos h]
 ·by_cases h2:u=i
  ·subst h2
   have e3:T.bwX y u (j+1) u v=if (T.fr u j).toNat=v then min (T.bwE y (T.bw y (T.n - (u+1))) u j v) (capI (y u j) (T.bw y (T.n - (u+1)) (T.to u j).toNat)) else T.bwE y (T.bw y (T.n - (u+1))) u j v:=by
    show (if u<u then _ else if u=u then T.bwE y (T.bw y (T.n - (u+1))) u (j+1) v else _)=_
    rw [if_neg (by omega),if_pos rfl]
    rfl
   rw [e3,hf,ht]
   by_cases h3:v=fn
   ·subst h3
    rw [if_pos ⟨rfl,rfl⟩,if_pos rfl]
   ·rw [if_neg fun hh=>h3 hh.2,if_neg fun hh=>h3 hh.symm]
    unfold Trel.bwX
    rw [if_neg (by omega),if_pos rfl]
  ·rw [if_neg fun hh=>h2 hh.1]
   unfold Trel.bwX
   rw [if_neg h,if_neg h2,if_neg h,if_neg h2]
theorem Trel.bwX_next {i:Nat} (hi:i<T.n) (u v:Nat):T.bwX y i (T.el i) u v=if i<=u then T.bw y (T.n - u) v else 4611686018427387904:=by
 unfold Trel.bwX
 by_cases h:i<u
 ·rw [if_pos h,if_pos (by omega)]
 ·rw [if_neg h]
  by_cases h2:u=i
  ·subst h2
   rw [if_pos rfl,if_pos (Nat.le_refl _)]
   have e:T.n - u=(T.n - (u+1))+1:=by omega
   rw [e]
   show _=T.bwE y (T.bw y (T.n - (u+1))) (T.n - (T.n - (u+1)+1)) (T.el (T.n - (T.n - (u+1)+1))) v
   rw [show T.n - (T.n - (u+1)+1)=u by omega]
  ·rw [if_neg h2,if_neg (by omega)]
theorem Trel.bwX_first {i:Nat} (u v:Nat):T.bwX y i 0 u v=if i+1<=u then T.bw y (T.n - u) v else 4611686018427387904:=by
 unfold Trel.bwX
 by_cases h:i<u
 ·rw [if_pos h,if_pos (by omega)]
 ·rw [if_neg h,if_neg (show ¬ i+1<=u by omega)]
  split
  ·rfl
  ·rfl
end
theorem yaE (T:Trel) (A B V:Option Addr) (c d vc:Nat) (y:Nat->Nat->Int) (w:World) (h:T.Reads w A B) (hs:T.shapeE=0) (hv:IntRows w V T.n T.el y) :
  Calls Tryz.prog 181 #[.agg #[.slice A T.nw c,.slice B T.n d],.slice V T.n vc] w fun e w'=>e=.returned (.int .i64 0)/\Below w.heap.size w w':=by
 obtain ⟨RB,hRB⟩:∃ o,o=(Obj.cells #[.slice A T.nw c,.slice B T.n d] 53):=⟨_,rfl⟩
 have hB0:Below (w.heap.size+1) (w.alloc RB) (w.alloc RB):=Below.refl _ _
 have HS:Hid (∀ w',Below (w.heap.size+1) (w.alloc RB) w'->(w'.cell? ⟨w.heap.size,0,none⟩=some (.slice A T.nw c)/\w'.cell? ⟨w.heap.size,1,none⟩=some (.slice B T.n d))/\Below w.heap.size w w'):=fun w' hB=>by
  have hB':=zaO hB
  subst hRB
  exact ⟨⟨tbox hB rfl,tbox hB rfl⟩,hB'⟩
 obtain ⟨⟨p0,p1⟩,hW⟩:=HS.out _ hB0
 go_enter Tryz.func181, Tryz.ntmps181
 go_wp2_with fail
 rw [<-hRB]
 refine (zdY T A B c d _ (h.on hW)).mono ?_
 rintro e w1 ⟨rfl,hb⟩
 have hB1:=zav hB0 hb
 rw [hs]
 have HR:=hid h
 have HV:=hid hv
 have hn64:=(Trel.shape_of hs).n64
 clear hW p0 p1 hb hB0 hRB h hv hs
 obtain ⟨⟨p0,p1⟩,hW⟩:=HS.out _ hB1
 go_wp2
 go_loopg [22] T.n (fun gg iv wx=>∃ k:Nat,iv=.int .i64 (k:Nat)/\k<=T.n/\T.n<=k+gg/\Below w1.heap.size w1 wx)
 case atStart=>exact ⟨0,rfl,by omega,by omega,Below.refl _ _⟩
 case round =>
  obtain ⟨k,rfl,hk,hkg,hb⟩:=hrel
  have hk0:(0:Int)<=(k:Int):=by omega
  replace p0:=cellS hb p0;replace p1:=cellS hb p1
  have hWr:=onS hW hb
  clear hW
  by_cases hlt:k<T.n
  ·have hlt':(k:Int)<(T.n:Int):=by omega
   obtain ⟨b,o,E,ec,rfl,_,x0,_,_,_,_⟩:=(HR.out.on hWr).sec hlt
   obtain ⟨vb,vo,R,rc,rfl,_,x1,_,_,_,_⟩:=(HV.out.on hWr) k hlt
   have hne:((T.el k:Int) != (T.el k:Int))=false:=by simp
   go_wp2
   go_roundg (gk - 1)
   case measure=>omega
   case rel=>exact ⟨k+1,by go_num,by omega,by omega,hb⟩
  ·have hlt':¬ (k:Int)<(T.n:Int):=by omega
   go_wp2
   go_ret
   exact ⟨rfl,hWr⟩
def BwdPost (T:Trel) (x:Nat->Nat->Int) (w:World) (e:Ending) (w':World):Prop :=
 ∃ g F,e=.returned (.tuple #[.slice (some ⟨g,0,none⟩) T.nw T.nw,.int .i64 0])/\w.heap.size<=g/\IntTab w' g (g+1) T.nw F (fun v=>(T.W v).toNat) x/\Below w.heap.size w w'
theorem yba (T:Trel) (A B V:Option Addr) (c d vc:Nat) (y:Nat->Nat->Int) (w:World) (h:T.Reads w A B) (hs:T.shapeE=0) (hv:IntRows w V T.n T.el y) (hy:Costs T y) :
  Calls Tryz.prog 123 #[.agg #[],.agg #[.slice A T.nw c,.slice B T.n d],.slice V T.n vc] w (BwdPost T (fun u v=>T.bw y (T.n - u) v) w):=by
 obtain ⟨O1,hO1⟩:∃ o,o=(Obj.cells #[] 158):=⟨_,rfl⟩
 obtain ⟨O2,hO2⟩:∃ o,o=(Obj.cells #[.slice A T.nw c,.slice B T.n d] 53):=⟨_,rfl⟩
 have hB0:Below (w.heap.size+2) ((w.alloc O1).alloc O2) ((w.alloc O1).alloc O2):=Below.refl _ _
 have HS:Hid (∀ w',Below (w.heap.size+2) ((w.alloc O1).alloc O2) w'->(w'.cell? ⟨w.heap.size+1,0,none⟩=some (.slice A T.nw c)/\w'.cell? ⟨w.heap.size+1,1,none⟩=some (.slice B T.n d))/\Below w.heap.size w w'):=fun w' hB=>by
  have hB':=zeY hB
  subst hO2
  have hr:=zfQ hB
  exact ⟨⟨hr.cell (i:=0) (by simp),hr.cell (i:=1) (by simp)⟩,hB'⟩
 obtain ⟨⟨p0,p1⟩,hW⟩:=HS.out _ hB0
 have HSH:=hid (Trel.shape_of hs)
 have HSE:=hid hs
 have HR:=hid h
 have HV:=hid hv
 have HY:=hid hy
 clear h hs hv hy
 go_enter Tryz.func123, Tryz.ntmps123
 go_wp2_with fail
 rw [<-hO1,<-hO2]
 refine (yaE T A B V c d vc y _ (HR.out.on hW) HSE.out (HV.out.on hW)).mono ?_
 rintro e w1 ⟨rfl,kb⟩
 have hB1:=zjb hB0 kb
 clear p0 p1 hW kb hB0 hO1 hO2
 obtain ⟨⟨p0,p1⟩,hW⟩:=HS.out _ hB1
 go_wp2_with fail
 refine (ya9 T A B c d _ (HR.out.on hW) HSH.out).mono ?_
 rintro e w2 ⟨g,F,rfl,hg,hT,kb⟩
 have hB2:=zjb hB1 kb
 have hl1:=zja hB1
 have hg2:w.heap.size+2<=g:=by omega
 have hl2:w.heap.size+2<w2.heap.size:=by have:=hT.row.lt; omega
 obtain ⟨W2,hW2⟩:∃ W,W=(w.alloc O1).alloc O2:=⟨_,rfl⟩
 have HS2:Hid (∀ w',Below (w.heap.size+2) W2 w'->(w'.cell? ⟨w.heap.size+1,0,none⟩=some (.slice A T.nw c)/\w'.cell? ⟨w.heap.size+1,1,none⟩=some (.slice B T.n d))/\Below w.heap.size w w'):=by rw [hW2]; exact HS
 rw [<-hW2] at hB2;clear p0 p1 hW kb hB1 hl1 hg hW2 HS
 obtain ⟨⟨p0,p1⟩,hW⟩:=HS2.out _ hB2
 have hn64:=HSH.out.n64
 have HNW:=hid HSH.out.nw
 have hnw0:T.n<T.nw:=by have:=HNW.out; omega
 have hnw0':(T.n:Int)<(T.nw:Int):=by omega
 have hn00:(0:Int)<=(T.n:Int):=by omega
 have hw0:=HSH.out.w1 T.n (Nat.le_refl _)
 have hw0n:0<(T.W T.n).toNat:=by omega
 obtain ⟨b0,o0,d0,hF0,hb0,hbl0,q0,z0⟩:=hT.at (v:=T.n) hnw0 (k:=0) hw0n
 obtain ⟨n0,hn0⟩:∃ n,n=(T.W T.n).toNat:=⟨_,rfl⟩
 have HN0:=hid hn0
 have r0:=hT.row.cell hnw0
 rw [hF0] at r0
 change w2.cell? ⟨g,T.n,none⟩=some (.slice (some ⟨b0,o0,none⟩) (T.W T.n).toNat d0) at r0
 rw [<-hn0] at hw0n r0
 have hw0n':(0:Int)<(n0:Int):=by omega
 clear hn0
 go_upto_region 5 with fail
 have hl:=hl2
 refine wp_region_held_drew (S:=fun w'=>w'.cell? ⟨g,T.n,none⟩=some (.slice (some ⟨b0,o0,none⟩) n0 d0)/\w'.cell? ⟨w.heap.size+1,1,none⟩=some (.slice B T.n d)) (by kernel_rfl) ⟨cellS (Below.refl _ _).drew r0,cellS (Below.refl _ _).drew p1⟩ (fun hHeld=>?_)
 obtain ⟨w3,hw⟩:∃ W,W=World.drew w2:=⟨_,rfl⟩
 have kb:Below w2.heap.size w2 w3:=by rw [hw]; exact (Below.refl _ _).drew
 rw [<-hw] at hHeld ⊢;clear hw;replace hB2:=zaZ hB2 (Nat.le_of_lt hl) kb;replace hl:=Nat.lt_of_lt_of_le hl kb.size;replace hT:=hT.on kb;replace r0:=cellS kb r0;replace q0:=cellS kb q0;replace p1:=cellS kb p1;clear kb
 refine tkq 0 (h:=tkq 1 (h:=tkq 2 (h:=tkq 3 (h:=tkq 4 (h:=tkq 5 (h:=tkq 6 (h:=tkq 7 (h:=?_))))))))
 refine rdq 8 (h:=fun K hK=>?_)
 go_simp
 go_wp2_with fail
 refine (ya4 w3).mono ?_
 rintro e w4 ⟨rfl,kb⟩
 replace hB2:=zaZ hB2 (Nat.le_of_lt hl) kb;replace hl:=Nat.lt_of_lt_of_le hl kb.size;replace hT:=hT.on kb;replace r0:=cellS kb r0;replace q0:=cellS kb q0;replace p1:=cellS kb p1;clear kb
 refine bkq hK ⟨r0,p1⟩ (h:=fun hHeld=>?_)
 clear hK K
 refine tkq 9 (h:=?_)
 refine rdq 10 (h:=fun K hK=>?_)
 have zf:w4.frozen? ⟨b0,o0,none⟩=false:=by
  obtain ⟨b9,o9,d9,hF9,_,_,_,z9⟩:=hT.at (v:=T.n) hnw0 (k:=0) (by rw [<-HN0.out]; exact hw0n)
  rw [hF0] at hF9
  injection hF9 with e1 _ _
  injection e1 with e1
  injection e1 with e1 e2
  subst e1 e2
  exact z9
 rw [Nat.add_zero] at q0
 go_simp
 replace r0:=zaa (p:=⟨b0,o0,none⟩) (u:=.int .i64 0) r0 (by show g≠b0; omega)
 replace p1:=zaa (p:=⟨b0,o0,none⟩) (u:=.int .i64 0) p1 (by show w.heap.size+1≠b0; omega)
 have hT9:=hT.set (y:=0) (by omega) hnw0 (k:=0) (by rw [<-HN0.out]; exact hw0n) hF0
 rw [Nat.add_zero] at hT9
 have hB9:=hB2.setCell (p:=⟨b0,o0,none⟩) (by show w.heap.size+2<=b0; omega) (.int .i64 0)
 have hl9:w.heap.size+2<(World.setCell w4 ⟨b0,o0,none⟩ (.int .i64 0)).heap.size:=by simp; exact hl
 refine bkq hK ⟨r0,p1⟩ (h:=fun hHeld=>?_)
 clear hK K
 refine wpAnyH_done (by kernel_rfl) ?_ _
 clear hHeld
 obtain ⟨w9,hw9⟩:∃ W,W=World.setCell w4 ⟨b0,o0,none⟩ (.int .i64 0):=⟨_,rfl⟩
 rw [<-hw9] at hT9 hB9 hl9 ⊢;clear hw9 hT hB2 hl r0 q0
 have hT0:IntTab w9 g (g+1) T.nw F (fun v=>(T.W v).toNat) (fun u v=>if T.n<=u then T.bw y (T.n - u) v else 4611686018427387904):=hT9.congr (fun v _=>rfl) (fun u hu v hv=>by
  show updI _ T.n 0 0 u v=if T.n<=u then T.bw y (T.n - u) v else 4611686018427387904
  unfold updI
  by_cases e:u=T.n
  ·subst e
   rw [if_pos (Nat.le_refl _),Nat.sub_self]
   show _=if v=0 then 0 else 4611686018427387904
   by_cases e2:v=0
   ·rw [if_pos ⟨rfl,e2⟩,if_pos e2]
   ·rw [if_neg (fun h=>e2 h.2),if_neg e2]
  ·have:=HNW.out
   rw [if_neg (fun h=>e h.1),if_neg (by omega)])
 clear hT9 hw0n hw0n' z0 hbl0 HN0 hw0 p0 p1 hW
 obtain ⟨⟨p0,p1⟩,hW⟩:=HS2.out _ hB9
 go_wp2
 go_loopg [10] T.n (fun gg iv wx=>∃ i:Nat,iv=.int .i64 ((i:Int) - 1)/\i<=T.n/\i<=gg/\IntTab wx g (g+1) T.nw F (fun v=>(T.W v).toNat) (fun u v=>if i<=u then T.bw y (T.n - u) v else 4611686018427387904)/\Below (w.heap.size+2) W2 wx/\w.heap.size+2<wx.heap.size)
 case atStart=>exact ⟨T.n,by go_num,by omega,by omega,hT0,hB9,hl9⟩
 case round =>
  clear hW p0 p1 hT0 hB9 hl9
  obtain ⟨gK,hgK⟩:∃ g,g=gk:=⟨_,rfl⟩
  subst hgK
  obtain ⟨i,rfl,hk,hkg,hT,hB,hl⟩:=hrel
  obtain ⟨wk,hwk⟩:∃ W,W=wr:=⟨_,rfl⟩
  subst hwk
  obtain ⟨⟨p0,p1⟩,hW⟩:=HS2.out _ hB
  by_cases hlt0:0<i
  ·obtain ⟨k,rfl⟩:∃ k,i=k+1:=⟨i - 1,by omega⟩
   have eiv:(((k+1:Nat):Int) - 1)=(k:Int):=by omega
   rw [eiv]
   have hlt:k<T.n:=by omega
   have hk0:(0:Int)<=(k:Int):=by omega
   have hlt':(k:Int)<(T.n:Int):=by omega
   have hk1:k+1<T.nw:=by have:=HNW.out; omega
   have hkw:k<T.nw:=by omega
   have hk1':(k:Int)+1<(T.nw:Int):=by omega
   have hkw':(k:Int)<(T.nw:Int):=by omega
   have hk01:(0:Int)<=(k:Int)+1:=by omega
   have hwk1:IntKind.i64.wrap ((k:Int)+1)=(k:Int)+1:=IntWalk.i64_in _ (by omega)
   obtain ⟨eb,eo,E,ec,rfl,heb,x0w,he1,he2,he3,he4⟩:=HR.out.sec hlt
   obtain ⟨vb,vo,R,rc,rfl,hvb,y0w,hv1,hv2,hvt,hvr⟩:=HV.out k hlt
   have hel:=HSH.out.elb hlt
   have HE3:=hid he3
   have HVT:=hid hvt
   have HX0:=hid x0w
   have HY0:=hid y0w
   have x0:=cellS hW x0w
   have hT1:IntTab wk g (g+1) T.nw F (fun v=>(T.W v).toNat) (T.bwX y k 0):=hT.congr (fun v _=>rfl) (fun u _ v _=>(Trel.bwX_first u v).symm)
   clear he3 he4 he2 hvt x0w y0w eiv hT hv1 hv2 hvr
   go_wp2
   go_loopg [46] (T.el k) (fun gg jv wx=>∃ j:Nat,jv=.int .i64 (j:Nat)/\j<=T.el k/\T.el k<=j+gg/\IntTab wx g (g+1) T.nw F (fun v=>(T.W v).toNat) (T.bwX y k j)/\Below (w.heap.size+2) W2 wx/\w.heap.size+2<wx.heap.size)
   case atStart=>exact ⟨0,rfl,by omega,by omega,hT1,hB,hl⟩
   case round =>
    clear p0 p1 hT1 hB hl x0 hW
    obtain ⟨j,rfl,hj,hjg,hT,hB,hl⟩:=hrel
    have hj0:(0:Int)<=(j:Int):=by omega
    by_cases hltj:j<T.el k
    ·have hltj':(j:Int)<(T.el k:Int):=by omega
     have hW:=(HS2.out _ hB).2
     obtain ⟨fb,fo,rfl,hfb,e0,e1,e2⟩:=zc1 ((Rd.below HE3.out hW (Nat.le_refl _)).mono hW.size) hltj
     obtain ⟨i1,i2,i3,i4⟩:=HSH.out.ins k hlt j hltj
     obtain ⟨fn,hfn⟩:∃ n:Nat,(n:Int)=T.fr k j:=⟨(T.fr k j).toNat,by omega⟩
     obtain ⟨tn,htn⟩:∃ n:Nat,(n:Int)=T.to k j:=⟨(T.to k j).toNat,by omega⟩
     obtain ⟨lb,hlb⟩:∃ z,z=T.lb k j:=⟨_,rfl⟩
     obtain ⟨n1,hn1⟩:∃ n,n=(T.W k).toNat:=⟨_,rfl⟩
     obtain ⟨n2,hn2⟩:∃ n,n=(T.W (k+1)).toNat:=⟨_,rfl⟩
     have hfl:fn<n1:=by omega
     have htl:tn<n2:=by omega
     have hfl':(fn:Int)<(n1:Int):=by omega
     have htl':(tn:Int)<(n2:Int):=by omega
     have hf0:(0:Int)<=(fn:Int):=by omega
     have ht0:(0:Int)<=(tn:Int):=by omega
     obtain ⟨ab,ao,ad,hFa,hab,habl,aq,zq⟩:=hT.at (v:=k) hkw (k:=fn) (by omega)
     obtain ⟨bb,bo,bd,hFb,hbb,hbbl,bq,_⟩:=hT.at (v:=k+1) hk1 (k:=tn) (by omega)
     obtain ⟨rb,ro,rfl,hrb,vq⟩:=(HVT.out.on hW).at hltj
     have hrow1:=hT.row.cell hkw
     have hrow2:=hT.row.cell hk1
     have y0:=cellS hW HY0.out
     have hapart:=hT.apart k (k+1) hkw hk1 (by omega)
     rw [hFa] at hrow1;rw [hFb] at hrow2
     have hne:bb≠ab:=fun e=>by
      rw [hFa,hFb,e] at hapart
      simp [Value.ownBlock] at hapart
     have d1:=Trel.bwX_cost HY.out hlt hj k fn
     have d2:=Trel.bwX_cost HY.out hlt hj (k+1) tn
     have d3:=HY.out.cost hlt hltj
     have HPUT:Hid (∀ u v,updI (T.bwX y k j) k fn (min (T.bwX y k j k fn) (capI (y k j) (T.bwX y k j (k+1) tn))) u v=T.bwX y k (j+1) u v):=fun u v=>Trel.bwX_put (T:=T) (y:=y) k j u v (by omega) (by omega)
     obtain ⟨av,hav⟩:∃ z,z=T.bwX y k j k fn:=⟨_,rfl⟩
     obtain ⟨bv,hbv⟩:∃ z,z=T.bwX y k j (k+1) tn:=⟨_,rfl⟩
     obtain ⟨yv,hyv2⟩:∃ z,z=y k j:=⟨_,rfl⟩
     rw [<-hav] at aq d1 HPUT;rw [<-hbv] at bq d2 HPUT;rw [<-hyv2] at vq d3 HPUT
     have HD1:=hid d1
     have HD2:=hid d2
     have HD3:=hid d3
     have HD4:=hid (yav d3 d2)
     change wr.cell? ⟨g,k,none⟩=some (.slice (some ⟨ab,ao,none⟩) (T.W k).toNat ad) at hrow1
     change wr.cell? ⟨g,k+1,none⟩=some (.slice (some ⟨bb,bo,none⟩) (T.W (k+1)).toNat bd) at hrow2
     have x0:=cellS hW HX0.out
     rw [<-hn1] at hrow1;rw [<-hn2] at hrow2;rw [<-hfn] at e0;rw [<-hlb] at e1;rw [<-htn] at e2
     have hgab:g≠ab:=by omega
     have hbx:wr.heap.size≠ab:=by omega
     have hvab:vb≠ab:=by omega
     have hWs:=hW.size
     have HSET:Hid (F k=.slice (some ⟨ab,ao,none⟩) (T.W k).toNat ad):=hFa
     have HTL:Hid (fn<(T.W k).toNat):=by rw [<-hn1]; exact hfl
     have hrab:rb≠ab:=by
      obtain ⟨_,_,e8,h8,_⟩:=HVT.out.at hltj
      injection e8 with e8
      injection e8 with e8
      omega
     clear hapart hFa hFb hav hbv hyv2 hfn htn hlb i1 i2 i3 i4 hn1 hn2 hW d1 d2 d3
     go_upto_region 12 with fail
     obtain ⟨OB,hOB⟩:∃ o,o=(Obj.cells #[.int .i64 (fn:Int),.int .i64 lb,.int .i64 (tn:Int)] 90):=⟨_,rfl⟩
     have hq:∀ i v,(#[Value.int .i64 (fn:Int),.int .i64 lb,.int .i64 (tn:Int)]:Array Value)[i]?=some v->(wr.alloc OB).cell? ⟨wr.heap.size,i,none⟩=some v:=fun i v hv=>by subst hOB; exact tbox (Below.refl _ _) hv
     have s0:=hq 0 _ rfl
     have s2:=hq 2 _ rfl
     have kb:Below wr.heap.size wr (wr.alloc OB):=(Below.refl _ _).alloc (Nat.le_refl _) _
     rw [<-hOB]
     obtain ⟨w50,hw50⟩:∃ W,W=wr.alloc OB:=⟨_,rfl⟩
     rw [<-hw50] at s0 s2 kb ⊢;replace hT:=hT.on kb;replace hB:=zaZ hB (Nat.le_of_lt hl) kb;replace hl:=Nat.lt_of_lt_of_le hl kb.size;replace aq:=cellS kb aq;replace bq:=cellS kb bq;replace vq:=cellS kb vq;replace y0:=cellS kb y0;replace hrow1:=cellS kb hrow1;replace hrow2:=cellS kb hrow2
     obtain ⟨bx,hbx2⟩:∃ b,b=wr.heap.size:=⟨_,rfl⟩
     rw [<-hbx2] at s0 s2 hbx ⊢;clear hq hw50 hOB kb x0 e0 e1 e2 hbx2 zq
     refine wp_region_held_drew (S:=fun w'=>w'.cell? ⟨g,k,none⟩=some (.slice (some ⟨ab,ao,none⟩) n1 ad)/\w'.cell? ⟨g,k+1,none⟩=some (.slice (some ⟨bb,bo,none⟩) n2 bd)/\w'.cell? ⟨bx,0,none⟩=some (.int .i64 (fn:Int))/\w'.cell? ⟨bx,2,none⟩=some (.int .i64 (tn:Int))/\w'.cell? ⟨vb,vo+k,none⟩=some (.slice (some ⟨rb,ro,none⟩) (T.el k) rc)/\w'.cell? ⟨rb,ro+j,none⟩=some (.int .i64 yv)/\w'.cell? ⟨bb,bo+tn,none⟩=some (.int .i64 bv)) (by kernel_rfl) ⟨cellS (Below.refl _ _).drew hrow1,cellS (Below.refl _ _).drew hrow2,cellS (Below.refl _ _).drew s0,cellS (Below.refl _ _).drew s2,cellS (Below.refl _ _).drew y0,cellS (Below.refl _ _).drew vq,cellS (Below.refl _ _).drew bq⟩ (fun hHeld=>?_)
     obtain ⟨w51,hw⟩:∃ W,W=World.drew w50:=⟨_,rfl⟩
     have kb:Below w50.heap.size w50 w51:=by rw [hw]; exact (Below.refl _ _).drew
     rw [<-hw] at hHeld ⊢;clear hw;replace hB:=zaZ hB (Nat.le_of_lt hl) kb;replace hl:=Nat.lt_of_lt_of_le hl kb.size;replace hT:=hT.on kb;replace aq:=cellS kb aq;replace bq:=cellS kb bq;replace vq:=cellS kb vq;replace y0:=cellS kb y0;replace hrow1:=cellS kb hrow1;replace hrow2:=cellS kb hrow2;replace s0:=cellS kb s0;replace s2:=cellS kb s2;clear kb
     refine tkq 0 (h:=tkq 1 (h:=tkq 2 (h:=tkq 3 (h:=tkq 4 (h:=tkq 5 (h:=tkq 6 (h:=tkq 7 (h:=tkq 8 (h:=tkq 9 (h:=tkq 10 (h:=tkq 11 (h:=tkq 12 (h:=tkq 13 (h:=tkq 14 (h:=tkq 16 (h:=tkq 17 (h:=tkq 18 (h:=tkq 19 (h:=tkq 20 (h:=tkq 21 (h:=tkq 22 (h:=tkq 23 (h:=tkq 24 (h:=tkq 25 (h:=tkq 26 (h:=tkq 27 (h:=tkq 28 (h:=tkq 29 (h:=tkq 30 (h:=tkq 31 (h:=tkq 32 (h:=tkq 33 (h:=?_)))))))))))))))))))))))))))))))))
     refine rdq2 15 34 (h:=fun K hK=>?_) (h2:=fun K hK=>?_)
     ·go_simp
      refine bkq hK ⟨hrow1,hrow2,s0,s2,y0,vq,bq⟩ (h:=fun hHeld=>?_)
      clear hK K
      refine rdq 34 (h:=fun K hK=>?_)
      go_simp
      go_wp2_with fail
      refine (yax yv bv w51 HD3.out HD2.out).mono ?_
      rintro e w52 ⟨rfl,kb⟩
      replace hB:=zaZ hB (Nat.le_of_lt hl) kb;replace hl:=Nat.lt_of_lt_of_le hl kb.size;replace hT:=hT.on kb;replace aq:=cellS kb aq;replace bq:=cellS kb bq;replace vq:=cellS kb vq;replace y0:=cellS kb y0;replace hrow1:=cellS kb hrow1;replace hrow2:=cellS kb hrow2;replace s0:=cellS kb s0;replace s2:=cellS kb s2;clear kb
      refine bkq hK ⟨hrow1,hrow2,s0,s2,y0,vq,bq⟩ (h:=fun hHeld=>?_)
      clear hK K
      refine rdq 35 (h:=fun K hK=>?_)
      go_simp
      go_wp2_with fail
      refine (yaw av (capI yv bv) w52 HD1.out HD4.out).mono ?_
      rintro e w53 ⟨rfl,kb⟩
      replace hB:=zaZ hB (Nat.le_of_lt hl) kb;replace hl:=Nat.lt_of_lt_of_le hl kb.size;replace hT:=hT.on kb;replace aq:=cellS kb aq;replace bq:=cellS kb bq;replace vq:=cellS kb vq;replace y0:=cellS kb y0;replace hrow1:=cellS kb hrow1;replace hrow2:=cellS kb hrow2;replace s0:=cellS kb s0;replace s2:=cellS kb s2;clear kb
      refine bkq hK ⟨hrow1,hrow2,s0,s2,y0,vq,bq⟩ (h:=fun hHeld=>?_)
      clear hK K
      refine tkq 36 (h:=?_)
      refine rdq 37 (h:=fun K hK=>?_)
      have zf:w53.frozen? ⟨ab,ao+fn,none⟩=false:=by
       obtain ⟨b9,o9,d9,hF9,_,_,_,z9⟩:=hT.at (v:=k) hkw (k:=fn) HTL.out
       rw [HSET.out] at hF9
       injection hF9 with e1 _ _
       injection e1 with e1
       injection e1 with e1 e2
       subst e1 e2
       exact z9
      obtain ⟨nv,hnv⟩:∃ z,z=min av (capI yv bv):=⟨_,rfl⟩
      rw [<-hnv] at HPUT ⊢;clear hnv
      go_simp
      replace hrow1:=zaa (p:=⟨ab,ao+fn,none⟩) (u:=.int .i64 nv) hrow1 (by simpa using hgab)
      replace hrow2:=zaa (p:=⟨ab,ao+fn,none⟩) (u:=.int .i64 nv) hrow2 (by simpa using hgab)
      replace s0:=zaa (p:=⟨ab,ao+fn,none⟩) (u:=.int .i64 nv) s0 (by simpa using hbx)
      replace s2:=zaa (p:=⟨ab,ao+fn,none⟩) (u:=.int .i64 nv) s2 (by simpa using hbx)
      replace y0:=zaa (p:=⟨ab,ao+fn,none⟩) (u:=.int .i64 nv) y0 (by simpa using hvab)
      replace vq:=zaa (p:=⟨ab,ao+fn,none⟩) (u:=.int .i64 nv) vq (by simpa using hrab)
      replace bq:=zaa (p:=⟨ab,ao+fn,none⟩) (u:=.int .i64 nv) bq (by simpa using hne)
      have hT9:=hT.set (y:=nv) (by omega) hkw (k:=fn) HTL.out HSET.out
      have hB9:=hB.setCell (p:=⟨ab,ao+fn,none⟩) (by show w.heap.size+2<=ab; omega) (.int .i64 nv)
      have hl9:w.heap.size+2<(World.setCell w53 ⟨ab,ao+fn,none⟩ (.int .i64 nv)).heap.size:=by simp; exact hl
      refine bkq hK ⟨hrow1,hrow2,s0,s2,y0,vq,bq⟩ (h:=fun hHeld=>?_)
      clear hK K
      refine wpAnyH_done (by kernel_rfl) ?_ _
      clear hHeld
      have hN:=hid (hT9.congr (x':=T.bwX y k (j+1)) (fun v _=>rfl) (fun u _ v _=>HPUT.out u v))
      have HB9:=hid hB9
      clear hT9 hT hB9 hB aq
      go_wp2
      go_roundg (gk - 1)
      case measure=>omega
      case rel=>exact ⟨j+1,by go_num,by omega,by omega,hN.out,HB9.out,hl9⟩
     ·go_simp
      go_wp2_with fail
      refine (yax yv bv w51 HD3.out HD2.out).mono ?_
      rintro e w52 ⟨rfl,kb⟩
      replace hB:=zaZ hB (Nat.le_of_lt hl) kb;replace hl:=Nat.lt_of_lt_of_le hl kb.size;replace hT:=hT.on kb;replace aq:=cellS kb aq;replace bq:=cellS kb bq;replace vq:=cellS kb vq;replace y0:=cellS kb y0;replace hrow1:=cellS kb hrow1;replace hrow2:=cellS kb hrow2;replace s0:=cellS kb s0;replace s2:=cellS kb s2;clear kb
      refine bkq hK ⟨hrow1,hrow2,s0,s2,y0,vq,bq⟩ (h:=fun hHeld=>?_)
      clear hK K
      refine rdq 15 (h:=fun K hK=>?_)
      go_simp
      refine bkq hK ⟨hrow1,hrow2,s0,s2,y0,vq,bq⟩ (h:=fun hHeld=>?_)
      clear hK K
      refine rdq 35 (h:=fun K hK=>?_)
      go_simp
      go_wp2_with fail
      refine (yaw av (capI yv bv) w52 HD1.out HD4.out).mono ?_
      rintro e w53 ⟨rfl,kb⟩
      replace hB:=zaZ hB (Nat.le_of_lt hl) kb;replace hl:=Nat.lt_of_lt_of_le hl kb.size;replace hT:=hT.on kb;replace aq:=cellS kb aq;replace bq:=cellS kb bq;replace vq:=cellS kb vq;replace y0:=cellS kb y0;replace hrow1:=cellS kb hrow1;replace hrow2:=cellS kb hrow2;replace s0:=cellS kb s0;replace s2:=cellS kb s2;clear kb
      refine bkq hK ⟨hrow1,hrow2,s0,s2,y0,vq,bq⟩ (h:=fun hHeld=>?_)
      clear hK K
      refine tkq 36 (h:=?_)
      refine rdq 37 (h:=fun K hK=>?_)
      have zf:w53.frozen? ⟨ab,ao+fn,none⟩=false:=by
       obtain ⟨b9,o9,d9,hF9,_,_,_,z9⟩:=hT.at (v:=k) hkw (k:=fn) HTL.out
       rw [HSET.out] at hF9
       injection hF9 with e1 _ _
       injection e1 with e1
       injection e1 with e1 e2
       subst e1 e2
       exact z9
      obtain ⟨nv,hnv⟩:∃ z,z=min av (capI yv bv):=⟨_,rfl⟩
      rw [<-hnv] at HPUT ⊢;clear hnv
      go_simp
      replace hrow1:=zaa (p:=⟨ab,ao+fn,none⟩) (u:=.int .i64 nv) hrow1 (by simpa using hgab)
      replace hrow2:=zaa (p:=⟨ab,ao+fn,none⟩) (u:=.int .i64 nv) hrow2 (by simpa using hgab)
      replace s0:=zaa (p:=⟨ab,ao+fn,none⟩) (u:=.int .i64 nv) s0 (by simpa using hbx)
      replace s2:=zaa (p:=⟨ab,ao+fn,none⟩) (u:=.int .i64 nv) s2 (by simpa using hbx)
      replace y0:=zaa (p:=⟨ab,ao+fn,none⟩) (u:=.int .i64 nv) y0 (by simpa using hvab)
      replace vq:=zaa (p:=⟨ab,ao+fn,none⟩) (u:=.int .i64 nv) vq (by simpa using hrab)
      replace bq:=zaa (p:=⟨ab,ao+fn,none⟩) (u:=.int .i64 nv) bq (by simpa using hne)
      have hT9:=hT.set (y:=nv) (by omega) hkw (k:=fn) HTL.out HSET.out
      have hB9:=hB.setCell (p:=⟨ab,ao+fn,none⟩) (by show w.heap.size+2<=ab; omega) (.int .i64 nv)
      have hl9:w.heap.size+2<(World.setCell w53 ⟨ab,ao+fn,none⟩ (.int .i64 nv)).heap.size:=by simp; exact hl
      refine bkq hK ⟨hrow1,hrow2,s0,s2,y0,vq,bq⟩ (h:=fun hHeld=>?_)
      clear hK K
      refine wpAnyH_done (by kernel_rfl) ?_ _
      clear hHeld
      have hN:=hid (hT9.congr (x':=T.bwX y k (j+1)) (fun v _=>rfl) (fun u _ v _=>HPUT.out u v))
      have HB9:=hid hB9
      clear hT9 hT hB9 hB aq
      go_wp2
      go_roundg (gk - 1)
      case measure=>omega
      case rel=>exact ⟨j+1,by go_num,by omega,by omega,hN.out,HB9.out,hl9⟩
    ·have hltj':¬ (j:Int)<(T.el k:Int):=by omega
     have hje:j=T.el k:=by omega
     rw [hje] at hT
     have hT1:=hid (hT.congr (x':=fun u v=>if k<=u then T.bw y (T.n - u) v else 4611686018427387904) (fun v _=>rfl) (fun u _ v _=>Trel.bwX_next hlt u v))
     have HB:=hid hB
     clear hT hB hje
     go_wp2
     go_roundg (gK - 1)
     case measure=>omega
     case rel=>exact ⟨k,by go_num,by omega,by omega,hT1.out,HB.out,hl⟩
  ·obtain rfl:i=0:=by omega
   have eiv:(((0:Nat):Int) - 1) = -1:=by omega
   rw [eiv]
   have hTf:=hid (hT.congr (x':=fun u v=>T.bw y (T.n - u) v) (fun v _=>rfl) (fun u hu v _=>if_pos (Nat.zero_le _)))
   clear hT eiv
   go_wp2
   go_ret2
   exact ⟨g,F,rfl,by omega,hTf.out,hW⟩
def Trel.yOf (T:Trel) (C:Nat->Nat->Int) (i j:Nat):Int:=C i (T.lb i j).toNat
def Trel.Fit (T:Trel) (ln:Nat->Nat):Prop:=∀ i,i<T.n->∀ j,j<T.el i->0<=T.lb i j/\T.lb i j<(ln i:Nat)
theorem yak (CA:Option Addr) (M cc cb i a:Nat) (ln:Nat->Nat) (C:Nat->Nat->Int) (w:World) (h:IntRows w CA M ln C) (hc:w.cell? ⟨cb,0,none⟩=some (.slice CA M cc)) (hi:i<M) (ha:a<ln i) :
  Calls Tryz.prog 122 #[.int .i64 (i:Nat),.int .i64 (a:Nat),.pointer (some ⟨cb,0,none⟩)] w fun e w'=>e=.returned (.int .i64 (C i a))/\Below w.heap.size w w':=by
 obtain ⟨b,o,R,rc,rfl,hb,x0,h1,h2,h3,h4⟩:=h i hi
 obtain ⟨rb,ro,rfl,hrb,x1⟩:=h3.at ha
 obtain ⟨n1,hn1⟩:∃ n,n=ln i:=⟨_,rfl⟩
 obtain ⟨v,hv⟩:∃ v,v=C i a:=⟨_,rfl⟩
 rw [<-hn1] at x0 ha;rw [<-hv] at x1
 have HV:=hid hv
 have hi0:(0:Int)<=(i:Int):=by omega
 have ha0:(0:Int)<=(a:Int):=by omega
 have hi1:(i:Int)<(M:Int):=by omega
 have ha1:(a:Int)<(n1:Int):=by omega
 clear h h3 h4 hv hn1 h1
 go_enter Tryz.func122, Tryz.ntmps122
 go_wp2
 go_ret
 exact ⟨by rw [<-HV.out]; rfl,Below.refl _ _⟩
def SecPost (T:Trel) (x:Nat->Nat->Int) (w:World) (e:Ending) (w':World):Prop :=
 ∃ g F,e=.returned (.slice (some ⟨g,0,none⟩) T.n T.n)/\w.heap.size<=g/\IntTab w' g (g+1) T.n F T.el x/\Below w.heap.size w w'
theorem ybb (T:Trel) (A B CA:Option Addr) (c d M cc cb:Nat) (ln:Nat->Nat) (C:Nat->Nat->Int) (w:World) (h:T.Reads w A B) (hs:T.Shape) (hC:IntRows w CA M ln C) (hM:M=T.n) (hF:T.Fit ln) (hcb:w.cell? ⟨cb,0,none⟩=some (.slice CA M cc)) :
  Calls Tryz.prog 116 #[.agg #[.slice A T.nw c,.slice B T.n d],.func (.func 122) #[] #[.pointer (some ⟨cb,0,none⟩)]] w (SecPost T (T.yOf C) w):=by
 have hcf:∀ (x y p:Value) (W:World),(callFunc 122 #[x,y,p]).run Tryz.prog W=.ok (.enter 122 #[x,y,p]) W:=fun _ _ _ _=>by kernel_rfl
 obtain ⟨RB,hRB⟩:∃ o,o=(Obj.cells #[.slice A T.nw c,.slice B T.n d] 53):=⟨_,rfl⟩
 have hB0:Below (w.heap.size+1) (w.alloc RB) (w.alloc RB):=Below.refl _ _
 have HS:Hid (∀ w',Below (w.heap.size+1) (w.alloc RB) w'->(w'.cell? ⟨w.heap.size,0,none⟩=some (.slice A T.nw c)/\w'.cell? ⟨w.heap.size,1,none⟩=some (.slice B T.n d))/\Below w.heap.size w w'):=fun w' hB=>by
  have hB':=zaO hB
  subst hRB
  exact ⟨⟨tbox hB rfl,tbox hB rfl⟩,hB'⟩
 obtain ⟨⟨p0,p1⟩,hW⟩:=HS.out _ hB0
 have hn64:=hs.n64
 have hmk:=fun W=>zah (P:=Tryz.prog) 25 22 _ 24 Tryz.underlying25 Tryz.infoInts rfl (T.n:Int) (by omega) (by omega) (by omega) W
 simp only [Int.toNat_natCast] at hmk
 have HR:=hid h
 have HSH:=hid hs
 have HC:=hid hC
 have HF:=hid hF
 have HM:=hid hM
 have HCB:=hid hcb
 clear h hs hC hF hM hcb
 have hl0:w.heap.size<(w.alloc RB).heap.size:=by simp
 go_enter Tryz.func116, Tryz.ntmps116
 go_wp2_with fail
 rw [<-hRB]
 go_upto_region 2 with fail
 obtain ⟨W2,hW2⟩:∃ W,W=w.alloc RB:=⟨_,rfl⟩
 have hsz2:W2.heap.size=w.heap.size+1:=by rw [hW2]; simp
 have HS2:Hid (∀ w',Below (w.heap.size+1) W2 w'->(w'.cell? ⟨w.heap.size,0,none⟩=some (.slice A T.nw c)/\w'.cell? ⟨w.heap.size,1,none⟩=some (.slice B T.n d))/\Below w.heap.size w w'):=by rw [hW2]; exact HS
 rw [<-hW2] at hB0 ⊢
 obtain ⟨g,hg⟩:∃ g,g=w.heap.size+1:=⟨_,rfl⟩
 have hgz:g=W2.heap.size:=by omega
 have hr3:=World.rowIs_made W2 (.slice none 0 0) T.n 22
 have hB3:=zaZ hB0 (Nat.le_of_eq hsz2.symm) ((Below.refl W2.heap.size W2).alloc (Nat.le_refl _) (Obj.cells (madeCells #[Value.slice none 0 0] T.n) 22))
 have hl3:w.heap.size+1<(W2.alloc (Obj.cells (madeCells #[Value.slice none 0 0] T.n) 22)).heap.size:=by simp; omega
 obtain ⟨W3,hW3⟩:∃ W,W=W2.alloc (Obj.cells (madeCells #[Value.slice none 0 0] T.n) 22):=⟨_,rfl⟩
 rw [<-hgz] at hr3;rw [<-hW3] at hr3 hB3 hl3 ⊢;rw [<-hg]
 have hT3:IntTab W3 g (g+1) T.n (fun _=>.slice none 0 0) (fun v=>if v<0 then T.el v else 0) (T.yOf C):=(zet hr3).congr (fun v _=>(if_neg (by omega)).symm) (fun v _ k hk=>rfl)
 have hg2:w.heap.size+1<=g:=by omega
 clear hW3 hgz hg hr3 hW2 HS hB0 hmk hRB hsz2 hl0 p0 p1 hW
 obtain ⟨⟨p0,p1⟩,hW⟩:=HS2.out _ hB3
 go_wp2
 go_loopg [17] T.n (fun gg iv wx=>∃ (k:Nat) (F:Nat->Value),iv=.int .i64 (k:Nat)/\k<=T.n/\T.n<=k+gg/\IntTab wx g (g+1) T.n F (fun v=>if v<k then T.el v else 0) (T.yOf C)/\Below (w.heap.size+1) W2 wx/\w.heap.size+1<wx.heap.size)
 case atStart=>exact ⟨0,_,rfl,by omega,by omega,hT3,hB3,hl3⟩
 case round =>
  clear hW p0 p1 hT3 hB3 hl3
  obtain ⟨gK,hgK⟩:∃ g,g=gk:=⟨_,rfl⟩
  subst hgK
  obtain ⟨k,F,rfl,hk,hkg,hT,hB,hl⟩:=hrel
  obtain ⟨wk,hwk⟩:∃ W,W=wr:=⟨_,rfl⟩
  subst hwk
  have hk0:(0:Int)<=(k:Int):=by omega
  obtain ⟨⟨p0,p1⟩,hW⟩:=HS2.out _ hB
  by_cases hlt:k<T.n
  ·have hlt':(k:Int)<(T.n:Int):=by omega
   obtain ⟨eb,eo,E,ec,rfl,heb,x0w,he1,he2,he3,he4⟩:=HR.out.sec hlt
   have x0:=cellS hW x0w
   have hel:=HSH.out.elb hlt
   obtain ⟨n1,hn1⟩:∃ n:Nat,n=T.el k:=⟨_,rfl⟩
   rw [<-hn1] at x0 hel
   have HN1:=hid hn1
   have HE3:=hid he3
   have hT0:IntTab wk g (g+1) T.n F (fun v=>if v<k then T.el v else if v=k then 0 else 0) (T.yOf C):=hT.congr (fun v _=>by split <;> simp) (fun v _ q hq=>rfl)
   clear hT hn1 he3 he4 x0w he1 he2
   go_wp2
   go_loopg [24] n1 (fun gg jv wx=>∃ (j:Nat) (F:Nat->Value),jv=.int .i64 (j:Nat)/\j<=n1/\n1<=j+gg/\IntTab wx g (g+1) T.n F (fun v=>if v<k then T.el v else if v=k then j else 0) (T.yOf C)/\Below (w.heap.size+1) W2 wx/\w.heap.size+1<wx.heap.size)
   case atStart=>exact ⟨0,F,rfl,by omega,by omega,hT0,hB,hl⟩
   case round =>
    clear hW p0 p1 hT0 hB hl x0
    obtain ⟨j,F2,rfl,hj,hjg,hT,hB,hl⟩:=hrel
    have hj0:(0:Int)<=(j:Int):=by omega
    have hW:=(HS2.out _ hB).2
    by_cases hltj:j<n1
    ·have hltj':(j:Int)<(n1:Int):=by omega
     obtain ⟨fb,fo,rfl,hfb,e0,e1,e2⟩:=zc1 ((Rd.below HE3.out hW (Nat.le_refl _)).mono hW.size) (show j<T.el k by rw [<-HN1.out]; exact hltj)
     have hfit:=HF.out k hlt j (by rw [<-HN1.out]; exact hltj)
     obtain ⟨la,hla⟩:∃ n:Nat,(n:Int)=T.lb k j:=⟨(T.lb k j).toNat,by omega⟩
     have hY:Hid (C k la=T.yOf C k j):=by show C k la=C k (T.lb k j).toNat; rw [<-hla]; rfl
     have hlal:la<ln k:=by omega
     rw [<-hla] at e1
     obtain ⟨fv,hfv⟩:∃ z,z=T.fr k j:=⟨_,rfl⟩
     obtain ⟨tv,htv⟩:∃ z,z=T.to k j:=⟨_,rfl⟩
     rw [<-hfv] at e0;rw [<-htv] at e2
     obtain ⟨fk,hfk⟩:∃ v,v=F2 k:=⟨_,rfl⟩
     have q0:wr.cell? ⟨g,k,none⟩=some fk:=by rw [hfk]; exact hT.row.cell hlt
     have HFK:=hid hfk
     have hCr:=HC.out.on hW
     have hcb:=cellS hW HCB.out
     have hkM:k<M:=by rw [HM.out]; exact hlt
     clear hfk hfv htv hla hfit hW
     go_upto_region 8 with fail
     obtain ⟨OB,hOB⟩:∃ o,o=(Obj.cells #[.int .i64 fv,.int .i64 (la:Int),.int .i64 tv] 90):=⟨_,rfl⟩
     have s1:(wr.alloc OB).cell? ⟨wr.heap.size,1,none⟩=some (.int .i64 (la:Int)):=by subst hOB; exact tbox (Below.refl _ _) rfl
     have kb:Below wr.heap.size wr (wr.alloc OB):=(Below.refl _ _).alloc (Nat.le_refl _) _
     rw [<-hOB]
     obtain ⟨w50,hw50⟩:∃ W,W=wr.alloc OB:=⟨_,rfl⟩
     rw [<-hw50] at s1 kb ⊢
     have hbxl:∀ q,fk.ownBlock=some q->q<wr.heap.size:=fun q e=>by
      have:=(hT.own k hlt).lt q (by rw [<-HFK.out]; exact e)
      exact this.2
     have hxg:wr.heap.size≠g:=by have:=hT.row.lt; omega
     replace hT:=hT.on kb;replace hB:=zaZ hB (Nat.le_of_lt hl) kb;replace hl:=Nat.lt_of_lt_of_le hl kb.size;replace q0:=cellS kb q0;replace hCr:=hCr.on kb;replace hcb:=cellS kb hcb
     obtain ⟨bx,hbx2⟩:∃ b,b=wr.heap.size:=⟨_,rfl⟩
     rw [<-hbx2] at s1 hxg hbxl ⊢
     have HBXL:=hid hbxl
     clear hw50 hOB kb e0 e1 e2 hbx2 hbxl
     refine wp_region_held_drew (S:=fun w'=>w'.cell? ⟨bx,1,none⟩=some (.int .i64 (la:Int))) (by kernel_rfl) (cellS (Below.refl _ _).drew s1) (fun hHeld=>?_)
     obtain ⟨w51,hw⟩:∃ W,W=World.drew w50:=⟨_,rfl⟩
     have kb:Below w50.heap.size w50 w51:=by rw [hw]; exact (Below.refl _ _).drew
     rw [<-hw] at hHeld ⊢;clear hw;replace hB:=zaZ hB (Nat.le_of_lt hl) kb;replace hl:=Nat.lt_of_lt_of_le hl kb.size;replace hT:=hT.on kb;replace q0:=cellS kb q0;replace s1:=cellS kb s1;replace hCr:=hCr.on kb;replace hcb:=cellS kb hcb;clear kb
     refine tkq 0 (h:=tkq 1 (h:=tkq 2 (h:=tkq 3 (h:=tkq 4 (h:=tkq 6 (h:=tkq 7 (h:=tkq 8 (h:=tkq 9 (h:=?_)))))))))
     refine rdq2 5 10 (h:=fun K hK=>?_) (h2:=fun K hK=>?_)
     ·go_simp
      refine bkq hK s1 (h:=fun hHeld=>?_)
      clear hK K
      refine rdq 10 (h:=fun K hK=>?_)
      go_simp
      go_wp2_with fail
      refine (yak CA M cc cb k la ln C w51 hCr hcb hkM hlal).mono ?_
      rintro e w52 ⟨rfl,kb⟩
      replace hB:=zaZ hB (Nat.le_of_lt hl) kb;replace hl:=Nat.lt_of_lt_of_le hl kb.size;replace hT:=hT.on kb;replace q0:=cellS kb q0;replace s1:=cellS kb s1;replace hCr:=hCr.on kb;replace hcb:=cellS kb hcb;clear kb;rw [hY.out]
      obtain ⟨yv,hyv⟩:∃ z,z=T.yOf C k j:=⟨_,rfl⟩
      rw [<-hyv]
      have HYV:=hid hyv
      clear hyv
      refine bkq hK s1 (h:=fun hHeld=>?_)
      clear hK K
      refine rdq 11 (h:=fun K hK=>?_)
      go_simp
      obtain ⟨w53,hw⟩:∃ W,W=World.alloc w52 (Obj.cells #[Value.int .i64 yv] 3):=⟨_,rfl⟩
      have kb:Below w52.heap.size w52 w53:=by rw [hw]; exact (Below.refl _ _).alloc (Nat.le_refl _) _
      have n1c:w53.cell? ⟨w52.heap.size,0,none⟩=some (Value.int .i64 yv):=by rw [hw]; simp
      rw [<-hw];clear hw
      obtain ⟨nb_n1c,hnb⟩:∃ b,b=w52.heap.size:=⟨_,rfl⟩
      rw [<-hnb] at n1c ⊢;clear hnb;replace hB:=zaZ hB (Nat.le_of_lt hl) kb;replace hl:=Nat.lt_of_lt_of_le hl kb.size;replace hT:=hT.on kb;replace q0:=cellS kb q0;replace s1:=cellS kb s1;replace hCr:=hCr.on kb;replace hcb:=cellS kb hcb;clear kb
      refine bkq hK s1 (h:=fun hHeld=>?_)
      clear hK K
      refine rdq 12 (h:=fun K hK=>?_)
      have hOwn:Own w53 (g+1) 3 1 fk j (fun i _=>.int .i64 (T.yOf C k i)):=by
       have:=hT.own k hlt
       rw [if_neg (Nat.lt_irrefl k),if_pos rfl,<-HFK.out] at this
       exact this
      have hgl:g+1<=w53.heap.size:=hT.row.lt
      rw [HYV.out] at n1c
      refine yaa (by rfl) (.tmp 33) (.tmp 39) (by rfl) (g+1) fk j (fun i=>T.yOf C k i) (by rfl) hOwn hgl (by omega) nb_n1c 1 (by rfl) n1c ?_
      intro v9 w9 o1 o2 o3
      obtain ⟨A9,c9,hv9⟩:=o1.shape
      subst hv9
      have hfo:∀ q,fk.ownBlock=some q->g+1<=q:=fun q e=>(hOwn.lt q e).1
      have q9:w9.cell? ⟨g,k,none⟩=some fk:=zac q0 o2 fun e=>by have:=hfo g e; omega
      have z9:w9.frozen? ⟨g,k,none⟩=false:=by
       have:=(hT.row.of_block (o2.block g hT.row.lt fun e=>by have:=hfo g e.symm; omega)).frozen k
       exact this
      have hB9:Below (w.heap.size+1) W2 w9:=hB.grown o2 (Nat.le_of_lt hl) fun q e=>by have:=hfo q e; omega
      have hl9:w.heap.size+1<w9.heap.size:=Nat.lt_of_lt_of_le hl o2.size
      have s1:=zac s1 o2 fun e=>absurd (HBXL.out _ e) (Nat.lt_irrefl _)
      have hPut:=hid (hT.put (by omega) hlt o1 (by rw [<-HFK.out]; exact o2) (by rw [<-HFK.out]; exact o3))
      refine bkq hK s1 (h:=fun hHeld=>?_)
      clear hK K
      refine tkq 13 (h:=?_)
      refine rdq 14 (h:=fun K hK=>?_)
      go_simp
      replace s1:=zaa (p:=⟨g,k,none⟩) (u:=.slice A9 (j+1) c9) s1 hxg
      refine bkq hK s1 (h:=fun hHeld=>?_)
      clear hK K
      refine wpAnyH_done (by kernel_rfl) ?_ _
      clear hHeld
      have hN:=hPut.out.congr (n':=fun v=>if v<k then T.el v else if v=k then j+1 else 0) (x':=T.yOf C) (fun v _=>by
        by_cases e:v=k
        ·subst e; simp
        ·simp [e]) (fun v _ q hq=>by
        by_cases e:v=k
        ·rw [if_pos e,e]
        ·rw [if_neg e])
      have HN:=hid hN
      have hBf:=hB9.setCell (p:=⟨g,k,none⟩) hg2 (.slice A9 (j+1) c9)
      have hlf:w.heap.size+1<(w9.setCell ⟨g,k,none⟩ (.slice A9 (j+1) c9)).heap.size:=by simp; exact hl9
      clear hPut hN q9 z9 hB9
      go_wp2
      go_roundg (gk - 1)
      case measure=>omega
      case rel=>exact ⟨j+1,_,by go_num,by omega,by omega,HN.out,hBf,hlf⟩
     ·go_simp
      go_wp2_with fail
      refine (yak CA M cc cb k la ln C w51 hCr hcb hkM hlal).mono ?_
      rintro e w52 ⟨rfl,kb⟩
      replace hB:=zaZ hB (Nat.le_of_lt hl) kb;replace hl:=Nat.lt_of_lt_of_le hl kb.size;replace hT:=hT.on kb;replace q0:=cellS kb q0;replace s1:=cellS kb s1;replace hCr:=hCr.on kb;replace hcb:=cellS kb hcb;clear kb;rw [hY.out]
      obtain ⟨yv,hyv⟩:∃ z,z=T.yOf C k j:=⟨_,rfl⟩
      rw [<-hyv]
      have HYV:=hid hyv
      clear hyv
      refine bkq hK s1 (h:=fun hHeld=>?_)
      clear hK K
      refine rdq2 5 11 (h:=fun K hK=>?_) (h2:=fun K hK=>?_)
      ·go_simp
       refine bkq hK s1 (h:=fun hHeld=>?_)
       clear hK K
       refine rdq 11 (h:=fun K hK=>?_)
       go_simp
       obtain ⟨w53,hw⟩:∃ W,W=World.alloc w52 (Obj.cells #[Value.int .i64 yv] 3):=⟨_,rfl⟩
       have kb:Below w52.heap.size w52 w53:=by rw [hw]; exact (Below.refl _ _).alloc (Nat.le_refl _) _
       have n1c:w53.cell? ⟨w52.heap.size,0,none⟩=some (Value.int .i64 yv):=by rw [hw]; simp
       rw [<-hw];clear hw
       obtain ⟨nb_n1c,hnb⟩:∃ b,b=w52.heap.size:=⟨_,rfl⟩
       rw [<-hnb] at n1c ⊢;clear hnb;replace hB:=zaZ hB (Nat.le_of_lt hl) kb;replace hl:=Nat.lt_of_lt_of_le hl kb.size;replace hT:=hT.on kb;replace q0:=cellS kb q0;replace s1:=cellS kb s1;replace hCr:=hCr.on kb;replace hcb:=cellS kb hcb;clear kb
       refine bkq hK s1 (h:=fun hHeld=>?_)
       clear hK K
       refine rdq 12 (h:=fun K hK=>?_)
       have hOwn:Own w53 (g+1) 3 1 fk j (fun i _=>.int .i64 (T.yOf C k i)):=by
        have:=hT.own k hlt
        rw [if_neg (Nat.lt_irrefl k),if_pos rfl,<-HFK.out] at this
        exact this
       have hgl:g+1<=w53.heap.size:=hT.row.lt
       rw [HYV.out] at n1c
       refine yaa (by rfl) (.tmp 33) (.tmp 39) (by rfl) (g+1) fk j (fun i=>T.yOf C k i) (by rfl) hOwn hgl (by omega) nb_n1c 1 (by rfl) n1c ?_
       intro v9 w9 o1 o2 o3
       obtain ⟨A9,c9,hv9⟩:=o1.shape
       subst hv9
       have hfo:∀ q,fk.ownBlock=some q->g+1<=q:=fun q e=>(hOwn.lt q e).1
       have q9:w9.cell? ⟨g,k,none⟩=some fk:=zac q0 o2 fun e=>by have:=hfo g e; omega
       have z9:w9.frozen? ⟨g,k,none⟩=false:=by
        have:=(hT.row.of_block (o2.block g hT.row.lt fun e=>by have:=hfo g e.symm; omega)).frozen k
        exact this
       have hB9:Below (w.heap.size+1) W2 w9:=hB.grown o2 (Nat.le_of_lt hl) fun q e=>by have:=hfo q e; omega
       have hl9:w.heap.size+1<w9.heap.size:=Nat.lt_of_lt_of_le hl o2.size
       have s1:=zac s1 o2 fun e=>absurd (HBXL.out _ e) (Nat.lt_irrefl _)
       have hPut:=hid (hT.put (by omega) hlt o1 (by rw [<-HFK.out]; exact o2) (by rw [<-HFK.out]; exact o3))
       refine bkq hK s1 (h:=fun hHeld=>?_)
       clear hK K
       refine tkq 13 (h:=?_)
       refine rdq 14 (h:=fun K hK=>?_)
       go_simp
       replace s1:=zaa (p:=⟨g,k,none⟩) (u:=.slice A9 (j+1) c9) s1 hxg
       refine bkq hK s1 (h:=fun hHeld=>?_)
       clear hK K
       refine wpAnyH_done (by kernel_rfl) ?_ _
       clear hHeld
       have hN:=hPut.out.congr (n':=fun v=>if v<k then T.el v else if v=k then j+1 else 0) (x':=T.yOf C) (fun v _=>by
         by_cases e:v=k
         ·subst e; simp
         ·simp [e]) (fun v _ q hq=>by
         by_cases e:v=k
         ·rw [if_pos e,e]
         ·rw [if_neg e])
       have HN:=hid hN
       have hBf:=hB9.setCell (p:=⟨g,k,none⟩) hg2 (.slice A9 (j+1) c9)
       have hlf:w.heap.size+1<(w9.setCell ⟨g,k,none⟩ (.slice A9 (j+1) c9)).heap.size:=by simp; exact hl9
       clear hPut hN q9 z9 hB9
       go_wp2
       go_roundg (gk - 1)
       case measure=>omega
       case rel=>exact ⟨j+1,_,by go_num,by omega,by omega,HN.out,hBf,hlf⟩
      ·go_simp
       obtain ⟨w53,hw⟩:∃ W,W=World.alloc w52 (Obj.cells #[Value.int .i64 yv] 3):=⟨_,rfl⟩
       have kb:Below w52.heap.size w52 w53:=by rw [hw]; exact (Below.refl _ _).alloc (Nat.le_refl _) _
       have n1c:w53.cell? ⟨w52.heap.size,0,none⟩=some (Value.int .i64 yv):=by rw [hw]; simp
       rw [<-hw];clear hw
       obtain ⟨nb_n1c,hnb⟩:∃ b,b=w52.heap.size:=⟨_,rfl⟩
       rw [<-hnb] at n1c ⊢;clear hnb;replace hB:=zaZ hB (Nat.le_of_lt hl) kb;replace hl:=Nat.lt_of_lt_of_le hl kb.size;replace hT:=hT.on kb;replace q0:=cellS kb q0;replace s1:=cellS kb s1;replace hCr:=hCr.on kb;replace hcb:=cellS kb hcb;clear kb
       refine bkq hK s1 (h:=fun hHeld=>?_)
       clear hK K
       refine rdq 5 (h:=fun K hK=>?_)
       go_simp
       refine bkq hK s1 (h:=fun hHeld=>?_)
       clear hK K
       refine rdq 12 (h:=fun K hK=>?_)
       have hOwn:Own w53 (g+1) 3 1 fk j (fun i _=>.int .i64 (T.yOf C k i)):=by
        have:=hT.own k hlt
        rw [if_neg (Nat.lt_irrefl k),if_pos rfl,<-HFK.out] at this
        exact this
       have hgl:g+1<=w53.heap.size:=hT.row.lt
       rw [HYV.out] at n1c
       refine yaa (by rfl) (.tmp 33) (.tmp 39) (by rfl) (g+1) fk j (fun i=>T.yOf C k i) (by rfl) hOwn hgl (by omega) nb_n1c 1 (by rfl) n1c ?_
       intro v9 w9 o1 o2 o3
       obtain ⟨A9,c9,hv9⟩:=o1.shape
       subst hv9
       have hfo:∀ q,fk.ownBlock=some q->g+1<=q:=fun q e=>(hOwn.lt q e).1
       have q9:w9.cell? ⟨g,k,none⟩=some fk:=zac q0 o2 fun e=>by have:=hfo g e; omega
       have z9:w9.frozen? ⟨g,k,none⟩=false:=by
        have:=(hT.row.of_block (o2.block g hT.row.lt fun e=>by have:=hfo g e.symm; omega)).frozen k
        exact this
       have hB9:Below (w.heap.size+1) W2 w9:=hB.grown o2 (Nat.le_of_lt hl) fun q e=>by have:=hfo q e; omega
       have hl9:w.heap.size+1<w9.heap.size:=Nat.lt_of_lt_of_le hl o2.size
       have s1:=zac s1 o2 fun e=>absurd (HBXL.out _ e) (Nat.lt_irrefl _)
       have hPut:=hid (hT.put (by omega) hlt o1 (by rw [<-HFK.out]; exact o2) (by rw [<-HFK.out]; exact o3))
       refine bkq hK s1 (h:=fun hHeld=>?_)
       clear hK K
       refine tkq 13 (h:=?_)
       refine rdq 14 (h:=fun K hK=>?_)
       go_simp
       replace s1:=zaa (p:=⟨g,k,none⟩) (u:=.slice A9 (j+1) c9) s1 hxg
       refine bkq hK s1 (h:=fun hHeld=>?_)
       clear hK K
       refine wpAnyH_done (by kernel_rfl) ?_ _
       clear hHeld
       have hN:=hPut.out.congr (n':=fun v=>if v<k then T.el v else if v=k then j+1 else 0) (x':=T.yOf C) (fun v _=>by
         by_cases e:v=k
         ·subst e; simp
         ·simp [e]) (fun v _ q hq=>by
         by_cases e:v=k
         ·rw [if_pos e,e]
         ·rw [if_neg e])
       have HN:=hid hN
       have hBf:=hB9.setCell (p:=⟨g,k,none⟩) hg2 (.slice A9 (j+1) c9)
       have hlf:w.heap.size+1<(w9.setCell ⟨g,k,none⟩ (.slice A9 (j+1) c9)).heap.size:=by simp; exact hl9
       clear hPut hN q9 z9 hB9
       go_wp2
       go_roundg (gk - 1)
       case measure=>omega
       case rel=>exact ⟨j+1,_,by go_num,by omega,by omega,HN.out,hBf,hlf⟩
    ·have hltj':¬ (j:Int)<(n1:Int):=by omega
     have hje:j=n1:=by omega
     have hT1:Hid (IntTab wr g (g+1) T.n F2 (fun v=>if v<k+1 then T.el v else 0) (T.yOf C)):=hT.congr (fun v _=>by
      by_cases e:v<k
      ·rw [if_pos e,if_pos (by omega)]
      ·rw [if_neg e]
       by_cases e2:v=k
       ·subst e2
        rw [if_pos rfl,if_pos (by omega),hje]
        exact HN1.out
       ·rw [if_neg e2,if_neg (by omega)]) (fun v _ q hq=>rfl)
     have HB:=hid hB
     clear hT hB hje hW
     go_wp2
     go_roundg (gK - 1)
     case measure=>omega
     case rel=>exact ⟨k+1,F2,by go_num,by omega,by omega,hT1.out,HB.out,hl⟩
  ·have hlt':¬ (k:Int)<(T.n:Int):=by omega
   have hTf:Hid (IntTab wk g (g+1) T.n F T.el (T.yOf C)):=hT.congr (fun v hv=>if_pos (by omega)) (fun v _ q hq=>rfl)
   clear hT
   go_wp2
   go_ret
   exact ⟨g,F,rfl,by omega,hTf.out,hW⟩
end Go.Proofs.YtgekjfpapmlndaaGreat