/- Merged texts of a claim: LeastTr, CmpLex, Wt11, Has12, Rest10, Cost49, DecLaw, SameC, LeastPl, CovPl, AppSome, Find47, FsPl, FsCov. -/
import Derived.Test.YtgekjfpapmlndaaGreatTX17
namespace Go.Proofs.YtgekjfpapmlndaaGreat
set_option maxRecDepth 100000
set_option maxHeartbeats 32000000
open KA KB KC KD KE KF
section
variable {q n N a:Nat} {add mul:Nat->Nat->Nat} {neg:Nat->Nat} {pv:Nat->Nat} {R V H:Nat->Nat->Nat}
theorem zeW (hL:FieldLaws q add mul) (h:SpanF q n N pv R) {c d:Nat->Nat} (hc:∀ s,s<n->c s<q) (hd:∀ s,s<n->d s<q) {i:Nat} (he:∀ j,j<i->j<N->spE add mul R c n j=spE add mul R d n j) :
  ∀ m s,s<m->s<n->pv s<i->c s=d s:=by
 intro m
 induction m with
 | zero=>intro s hs; omega
 | succ m ih =>
  intro s hs hsn hp
  by_cases e:s<m
  ·exact ih s e hsn hp
  ·have e1:=he (pv s) hp (h.pvlt s hsn)
   have a:=zeR hL (R:=R) (c:=c) (c':=d) (j:=pv s) (s:=s) n hsn (fun t ht hne=>?_) e1
   ·rw [h.one s hsn,hL.mulOne (hc s hsn),hL.mulOne (hd s hsn)] at a
    exact a
   ·by_cases g:t<s
    ·rw [ih t (by omega) ht (by have:=h.inc t s g hsn; omega)]
    ·have:R t (pv s)=0:=h.low t ht _ (h.inc s t (by omega) ht)
     rw [this,hL.mulZero (hc t ht),hL.mulZero (hd t ht)]
theorem zi9 (hL:FieldLaws q add mul) (h:SpanF q n N pv R) (hdis:∀ i j,i<j->j<n->lE (R i) N≠lE (R j) N) {c d:Nat->Nat} (hc:∀ s,s<n->c s<q) (hd:∀ s,s<n->d s<q) {i:Nat} (he:∀ j,i<=j->j<N->spE add mul R c n j=spE add mul R d n j) :
  ∀ m s,N<=(lE (R s) N).toNat+m->s<n->(i:Int)<=lE (R s) N->c s=d s:=by
 intro m
 induction m with
 | zero =>
  intro s hs hsn _
  have:=ziN (u:=R s) N
  have:=h.pos hsn
  omega
 | succ m ih =>
  intro s hs hsn hp
  have h1:=ziN (u:=R s) N
  have h2:=zkx (u:=R s) N (lE (R s) N).toNat (by omega)
  have e1:=he (lE (R s) N).toNat (by omega) h2.1
  have a:=zeR hL (R:=R) (c:=c) (c':=d) (j:=(lE (R s) N).toNat) (s:=s) n hsn (fun t ht hne=>?_) e1
  ·exact zf2 hL (hc s hsn) (hd s hsn) (h.lt s hsn _ h2.1) h2.2 a
  ·have b:lE (R t) N≠lE (R s) N:=by
    rcases Nat.lt_or_ge t s with g | g
    ·exact hdis t s g hsn
    ·exact (hdis s t (by omega) ht).symm
   by_cases g:lE (R s) N<lE (R t) N
   ·rw [ih t (by omega) ht (by omega)]
   ·have:R t (lE (R s) N).toNat=0:=zbv (n:=N) h2.1 (by omega)
    rw [this,hL.mulZero (hc t ht),hL.mulZero (hd t ht)]
def mixW (u u':Nat->Nat) (i j:Nat):Nat:=if j<i then u j else u' j
theorem zlt (hL:FieldLaws q add mul) (hneg:∀ x,x<q->neg x<q/\add x (neg x)=0) (hV:RrefN q n N V) (hp:NullRel q add mul neg n N V a H) {u u':Nat->Nat} (hu:InSp q add mul n N V u) (hu':InSp q add mul n N V u') {i:Nat} (hi:i<=N)
  (he:∀ k,k<a->dotN add mul u (H k) i=dotN add mul u' (H k) i):InSp q add mul n N V (mixW u u' i):=by
 have c:∀ j,j<N->mixW u u' i j<q:=fun j hj=>by
  unfold mixW
  split
  ·exact hu.lt hL hj
  ·exact hu'.lt hL hj
 refine (zcm hL hneg hV hp c).2 fun k hk=>?_
 have h1:=(zcm hL hneg hV hp (fun j hj=>hu'.lt hL hj)).1 hu' k hk
 have b:∀ m,dotN add mul (mixW u u' i) (H k) (i+m)=dotN add mul u' (H k) (i+m):=by
  intro m
  induction m with
  | zero =>
   rw [Nat.add_zero,<-he k hk]
   exact zbA i fun j hj=>by unfold mixW; rw [if_pos hj]
  | succ m ih =>
   show add (dotN add mul (mixW u u' i) (H k) (i+m)) (mul (mixW u u' i (i+m)) (H k (i+m)))=add (dotN add mul u' (H k) (i+m)) (mul (u' (i+m)) (H k (i+m)))
   rw [ih]
   unfold mixW
   rw [if_neg (by omega)]
 have:=b (N - i)
 rw [show i+(N - i)=N by omega] at this
 rw [this,h1]
theorem zja (hL:FieldLaws q add mul) (hneg:∀ x,x<q->neg x<q/\add x (neg x)=0) (hV:RrefN q n N V) (hp:NullRel q add mul neg n N V a H) (hsp:SameSp q add mul N n n V R) (h:SpanF q n N pv R) (hdis:∀ i j,i<j->j<n->lE (R i) N≠lE (R j) N)
  {c c':Nat->Nat} (hc:∀ s,s<n->c s<q) (hc':∀ s,s<n->c' s<q) {i k:Nat} (hi:i<=N) (he:∀ t,t<a->dotN add mul (spE add mul R c n) (H t) i=dotN add mul (spE add mul R c' n) (H t) i) (hj:∀ j,i<=j->j<k->j<N->spE add mul R c n j=spE add mul R c' n j) :
  ∀ s,s<n->pv s<k->(i:Int)<=lE (R s) N->c s=c' s:=by
 have hu:InSp q add mul n N V (spE add mul R c n):=(hsp _).2 ⟨c,hc,fun _ _=>rfl⟩
 have e:InSp q add mul n N V (spE add mul R c' n):=(hsp _).2 ⟨c',hc',fun _ _=>rfl⟩
 obtain ⟨d,hd,b⟩:=(hsp _).1 (zlt hL hneg hV hp hu e hi he)
 intro s hs h1 h2
 have e1:c s=d s:=zeW hL h hc hd (i:=k) (fun j hjk hjN=>by
  rw [<-b j hjN]
  unfold mixW
  by_cases g:j<i
  ·rw [if_pos g]
  ·rw [if_neg g]; exact hj j (by omega) hjk hjN) (s+1) s (by omega) hs h1
 have e2:d s=c' s:=zi9 hL h hdis hd hc' (i:=i) (fun j hjk hjN=>by
  rw [<-b j hjN]
  unfold mixW
  rw [if_neg (by omega)]) N s (by omega) hs h2
 rw [e1,e2]
end
open Go.RowKit
theorem zef (A B:Option Addr) (n c d:Nat) (f g:Nat->Int) (w:World) (ha:IntsR w w.heap.size A n f) (hb:IntsR w w.heap.size B n g) (hn:n<=140737488351232) :
  Calls Tryz.prog 20 #[.slice A n c,.slice B n d] w fun e w'=>∃ r:Int,e=.returned (.int .i64 r)/\((r = -1/\LexLt f g n)∨(r=1/\LexLt g f n)∨(r=0/\∀ i,i<n->f i=g i))/\Below w.heap.size w w':=by
 have HA:=hid ha
 have HB:=hid hb
 clear ha hb
 go_enter Tryz.func20, Tryz.ntmps20
 go_wp2
 go_loopg [5] n (fun gg iv wx=>∃ k:Nat,iv=.int .i64 (k:Nat)/\k<=n/\n<=k+gg/\(∀ i,i<k->f i=g i)/\Below w.heap.size w wx)
 case atStart=>exact ⟨0,rfl,by omega,by omega,fun i hi=>absurd hi (by omega),Below.refl _ _⟩
 obtain ⟨k,rfl,hk,l,h,hW⟩:=hrel
 have m:(0:Int)<=(k:Int):=by omega
 have a:=hid h
 clear h
 by_cases hlt:k<n
 rotate_left
 ·have b:¬ (k:Int)<(n:Int):=by omega
  have hd:decide ((k:Int)<(n:Int))=false:=by simp; omega
  have h3:¬ (n:Int)<(n:Int):=by omega
  have h4:¬ (n:Int) > (n:Int):=by omega
  go_wp2
  go_ret
  exact ⟨0,rfl,.inr (.inr ⟨rfl,fun i hi=>a.out i (by omega)⟩),hW⟩
 have b:(k:Int)<(n:Int):=by omega
 have hd:decide ((k:Int)<(n:Int))=true:=by simp; omega
 obtain ⟨ab,ao,rfl,p,x0⟩:=(HA.out.on hW).at hlt
 obtain ⟨bb,bo,rfl,o,y0⟩:=(HB.out.on hW).at hlt
 obtain ⟨x,hx⟩:=exx (f k)
 obtain ⟨y,hy⟩:=exx (g k)
 rw [<-hx] at x0;rw [<-hy] at y0
 have HX:=hid hx
 have HY:=hid hy
 clear hx hy
 by_cases h1:x<y
 ·go_wp2
  go_quiet (fail)
  go_wp2
  go_ret
  exact ⟨-1,rfl,.inl ⟨rfl,k,hlt,a.out,by rw [<-HX.out,<-HY.out]; omega⟩,zac hW _⟩
 by_cases h2:y<x
 ·have j:x > y:=h2
  go_wp2
  go_quiet (fail)
  go_wp2
  go_quiet (fail)
  go_wp2
  go_ret
  exact ⟨1,rfl,.inr (.inl ⟨rfl,k,hlt,fun t ht=>(a.out t ht).symm,by rw [<-HX.out,<-HY.out]; omega⟩),zac (zac hW _) _⟩
 have j:¬ x > y:=h2
 go_wp2
 go_quiet (fail)
 go_wp2
 go_quiet (fail)
 go_wp2
 go_roundg (gk - 1)
 case measure=>omega
 refine ⟨k+1,by go_num,by omega,by omega,fun i hi=>?_,zac hW _⟩
 by_cases e:i=k
 ·subst e; rw [<-HX.out,<-HY.out]; omega
 ·exact a.out i (by omega)
open Go.ChangeShapes Go.WideShapes Go.ChangeAt
theorem zgI {q n x i:Nat} (h:i<n):msgD q (n+1) x i=msgD q n (x / q) i:=by
 unfold msgD
 rw [show n+1 - 1 - i=(n - 1 - i)+1 by omega,zc6]
theorem zh2 {q n x:Nat}:msgD q (n+1) x n=x % q:=by
 unfold msgD
 rw [show n+1 - 1 - n=0 by omega,zcf]
theorem zf9 {q:Nat} (hq:0<q):∀ {n s t:Nat},s<t->t<q ^ n->∃ i,i<n/\(∀ j,j<i->msgD q n s j=msgD q n t j)/\msgD q n s i<msgD q n t i
 | 0,s,t,h,ht=>by rw [Nat.pow_zero] at ht; omega
 | n + 1, s, t, h, ht => by
  have ht2:t / q<q ^ n:=Nat.div_lt_of_lt_mul (by rw [Nat.mul_comm,<-Nat.pow_succ]; exact ht)
  by_cases e:s / q=t / q
  ·refine ⟨n,by omega,fun j hj=>by rw [zgI hj,zgI hj,e],?_⟩
   rw [zh2,zh2]
   have h1:=Nat.div_add_mod s q
   have h2:=Nat.div_add_mod t q
   rw [e] at h1
   omega
  ·have hlt:s / q<t / q:=by
    have:=Nat.div_le_div_right (c:=q) (Nat.le_of_lt h)
    omega
   obtain ⟨i,h1,h2,h3⟩:=zf9 hq hlt ht2
   exact ⟨i,by omega,fun j hj=>by rw [zgI (by omega),zgI (by omega)]; exact h2 j hj,by rw [zgI h1,zgI h1]; exact h3⟩
section
variable {q n N:Nat} {add mul:Nat->Nat->Nat} {V:Nat->Nat->Nat}
theorem zh3 (hL:FieldLaws q add mul) (hV:RrefN q n N V) {s t:Nat} (h:s<t) (ht:t<q ^ n) :
  LexLt (fun j=>((spE add mul V (msgD q n s) n j:Nat):Int)) (fun j=>((spE add mul V (msgD q n t) n j:Nat):Int)) N:=by
 have hq:0<q:=by have:=hL.two; omega
 obtain ⟨pv,hE⟩:=hV
 obtain ⟨i,hi,h1,h2⟩:=zf9 hq h ht
 refine ⟨pv i,hE.pvlt i hi,fun j hj=>?_,?_⟩
 ·show ((spE add mul V (msgD q n s) n j:Nat):Int)=((spE add mul V (msgD q n t) n j:Nat):Int)
  rw [zbO n fun u hu=>?_]
  by_cases g:u<i
  ·rw [h1 u g]
  have a:V u j=0:=hE.lead u hu j (by
   by_cases e:u=i
   ·rw [e]; exact hj
   ·have:=hE.inc i u (by omega) hu
    omega)
  rw [a,hL.mulZero (zbJ hq),hL.mulZero (zbJ hq)]
 show ((spE add mul V (msgD q n s) n (pv i):Nat):Int)<((spE add mul V (msgD q n t) n (pv i):Nat):Int)
 rw [hE.spE_pv hL (fun _ _=>zbJ hq) hi,hE.spE_pv hL (fun _ _=>zbJ hq) hi]
 omega
theorem zku {x:Nat->Nat} (hx:InSp q add mul n N V x):∃ t,t<q ^ n/\∀ j,j<N->x j=spE add mul V (msgD q n t) n j:=by
 obtain ⟨c,h1,h2⟩:=hx
 refine ⟨valN q (fun j=>c (n - 1 - j)) n,zbl fun i hi=>h1 _ (by omega),fun j hj=>?_⟩
 rw [h2 j hj]
 refine zbO n fun u hu=>?_
 unfold msgD
 rw [za8 (fun i hi=>h1 _ (by omega)) _ (by omega),show n - 1 - (n - 1 - u)=u by omega]
theorem zjB (hL:FieldLaws q add mul) (t:Nat):InSp q add mul n N V (fun j=>spE add mul V (msgD q n t) n j):=⟨msgD q n t,fun _ _=>zbJ (by have:=hL.two; omega),fun _ _=>rfl⟩
end
structure Cov (T:Trel) (mw:Nat) (x a:Nat->Nat->Nat):Prop where
 lt:∀ i,i<=T.n->∀ t,t<mw->((a t i:Nat):Int)<T.W i
 onto:∀ i,i<=T.n->∀ v:Nat,(v:Int)<T.W i->∃ t,t<mw/\a t i=v
 out:∀ i,i<T.n->∀ t,t<mw->∃ j,j<T.el i/\T.fr i j=(a t i:Nat)/\T.lb i j=(x t i:Nat)/\T.to i j=(a t (i+1):Nat)
 inn:∀ i,i<T.n->∀ j,j<T.el i->∃ t,t<mw/\T.fr i j=(a t i:Nat)/\T.lb i j=(x t i:Nat)/\T.to i j=(a t (i+1):Nat)
 srt:∀ i,i<T.n->∀ p q,p<q->q<T.el i->ltE (T.eD i p) (T.eD i q)
theorem zh4 {mw A:Nat} {a:Nat->Nat} (ho:∀ v,v<A->∃ t,t<mw/\a t=v):∃ S:Nat->Nat,∀ v,v<A->S v<mw/\a (S v)=v:=by
 have hs:∀ v,∃ t,v<A->t<mw/\a t=v:=fun v=>by
  by_cases g:v<A
  ·obtain ⟨t,h⟩:=ho v g
   exact ⟨t,fun _=>h⟩
  ·exact ⟨0,fun k=>absurd k g⟩
 exact Classical.axiomOfChoice hs
theorem zlc {mw A B:Nat} {a b:Nat->Nat} (hb:∀ t,t<mw->b t<B) (ho:∀ v,v<A->∃ t,t<mw/\a t=v) (he:∀ t t',t<mw->t'<mw->b t=b t'->a t=a t'):A<=B:=by
 obtain ⟨S,hS⟩:=zh4 ho
 have c:((List.range A).map fun v=>b (S v)).Nodup:=zaS List.nodup_range fun y hy z hz e=>by
  have hy:=hS y (List.mem_range.1 hy)
  have hz:=hS z (List.mem_range.1 hz)
  have:=he _ _ hy.1 hz.1 e
  omega
 have:=zfh (m:=List.range B) c fun x hx=>by
  obtain ⟨y,hy,rfl⟩:=List.mem_map.1 hx
  exact List.mem_range.2 (hb _ (hS y (List.mem_range.1 hy)).1)
 simpa using this
theorem zh5 {mw A:Nat} {a b:Nat->Nat} {k l:Nat->Nat} (hb:∀ t,t<mw->b t<A) (oa:∀ v,v<A->∃ t,t<mw/\a t=v) (he:∀ t t',t<mw->t'<mw->b t=b t'->a t=a t') (hkl:∀ t,t<mw->l (b t)=k (a t)) {t:Nat} (ht:t<mw):rankOf l A (b t)=rankOf k A (a t):=by
 obtain ⟨S,hS⟩:=zh4 oa
 have hp:((List.range A).map fun v=>b (S v)).Perm (List.range A):=zbP (zaS List.nodup_range fun y hy z hz e=>by
   have hy:=hS y (List.mem_range.1 hy)
   have hz:=hS z (List.mem_range.1 hz)
   have:=he _ _ hy.1 hz.1 e
   omega) (fun x hx=>by
   obtain ⟨y,hy,rfl⟩:=List.mem_map.1 hx
   exact List.mem_range.2 (hb _ (hS y (List.mem_range.1 hy)).1)) (by simp)
 unfold rankOf
 rw [<-hp.countP_eq,List.countP_map]
 refine List.countP_congr fun u hu=>?_
 have h1:=hS u (List.mem_range.1 hu)
 have h2:=hkl (S u) h1.1
 rw [h1.2] at h2
 simp only [Function.comp,h2,hkl t ht]
section
variable {T U:Trel} {mw:Nat} {x a b:Nat->Nat->Nat}
theorem Cov.uniq (h:Cov T mw x a) {i:Nat} (hi:i<T.n) {j q:Nat} (hj:j<T.el i) (hq:q<T.el i) (e1:T.fr i j=T.fr i q) (e2:T.lb i j=T.lb i q):j=q:=by
 rcases Nat.lt_trichotomy j q with g | g | g
 ·have h1:T.fr i j<T.fr i q∨T.fr i j=T.fr i q/\T.lb i j<T.lb i q:=h.srt i hi j q g hq
  omega
 ·exact g
 ·have h1:T.fr i q<T.fr i j∨T.fr i q=T.fr i j/\T.lb i q<T.lb i j:=h.srt i hi q j g hj
  omega
theorem Cov.pick (h:Cov T mw x a) {i:Nat} (hi:i<T.n):∃ e:Nat->Nat,∀ t,t<mw->e t<T.el i/\T.fr i (e t)=(a t i:Nat)/\T.lb i (e t)=(x t i:Nat)/\T.to i (e t)=(a t (i+1):Nat):=by
 have hs:∀ t,∃ j,t<mw->j<T.el i/\T.fr i j=(a t i:Nat)/\T.lb i j=(x t i:Nat)/\T.to i j=(a t (i+1):Nat):=fun t=>by
  by_cases g:t<mw
  ·obtain ⟨j,hj⟩:=h.out i hi t g
   exact ⟨j,fun _=>hj⟩
  ·exact ⟨0,fun k=>absurd k g⟩
 exact Classical.axiomOfChoice hs
theorem Cov.el_le (hT:Cov T mw x a) (hU:Cov U mw x b) (hn:U.n=T.n) (hk:∀ i,i<=T.n->∀ t t',t<mw->t'<mw->b t i=b t' i->a t i=a t' i) {i:Nat} (hi:i<T.n):T.el i<=U.el i:=by
 obtain ⟨e,he⟩:=hT.pick hi
 obtain ⟨f,hf⟩:=hU.pick (i:=i) (by omega)
 refine zlc (mw:=mw) (a:=e) (b:=f) (fun t ht=>(hf t ht).1) (fun v hv=>?_) (fun t t' ht ht' g=>?_)
 ·obtain ⟨t,ht,h1,h2,_⟩:=hT.inn i hi v hv
  obtain ⟨k1,k2,k3,_⟩:=he t ht
  exact ⟨t,ht,hT.uniq hi k1 hv (by omega) (by omega)⟩
 obtain ⟨k1,k2,k3,_⟩:=he t ht
 obtain ⟨l1,l2,l3,_⟩:=he t' ht'
 obtain ⟨_,m2,m3,_⟩:=hf t ht
 obtain ⟨_,n2,n3,_⟩:=hf t' ht'
 rw [g] at m2 m3
 have:=hk i (by omega) t t' ht ht' (by omega)
 exact hT.uniq hi k1 l1 (by omega) (by omega)
theorem Cov.w_le (hT:Cov T mw x a) (hU:Cov U mw x b) (hn:U.n=T.n) (hk:∀ i,i<=T.n->∀ t t',t<mw->t'<mw->b t i=b t' i->a t i=a t' i) {i:Nat} (hi:i<=T.n):(T.W i).toNat<=(U.W i).toNat :=
 zlc (mw:=mw) (a:=fun t=>a t i) (b:=fun t=>b t i) (fun t ht=>by have:=hU.lt i (by omega) t ht; show b t i<_; omega) (fun v hv=>hT.onto i hi v (by omega)) (fun t t' ht ht' g=>hk i hi t t' ht ht' g)
theorem Cov.proper (hP:T.Proper) (hT:Cov T mw x a) (hU:Cov U mw x b) (hn:U.n=T.n) (hk:∀ i,i<=T.n->∀ t t',t<mw->t'<mw->(b t i=b t' i↔a t i=a t' i)) (hnw:U.nw=T.nw) (hW0:∀ i,i<=T.n->0<=U.W i) :
  (∀ i,i<=T.n->U.W i=T.W i)/\(∀ i,i<T.n->U.el i=T.el i)/\U.Proper:=by
 have hw:∀ i,i<=T.n->U.W i=T.W i:=fun i hi=>by
  have h1:=hT.w_le hU hn (fun i hi t t' ht ht'=>(hk i hi t t' ht ht').1) hi
  have h2:=hU.w_le hT hn.symm (fun i hi t t' ht ht'=>(hk i (by omega) t t' ht ht').2) (i:=i) (by omega)
  have:=hW0 i hi
  have:=(hP.shape.wid hi).1
  omega
 have he:∀ i,i<T.n->U.el i=T.el i:=fun i hi=>by
  have h1:=hT.el_le hU hn (fun i hi t t' ht ht'=>(hk i hi t t' ht ht').1) hi
  have h2:=hU.el_le hT hn.symm (fun i hi t t' ht ht'=>(hk i (by omega) t t' ht ht').2) (i:=i) (by omega)
  omega
 have sW:∀ k,k<=T.n+1->U.sumW k=T.sumW k:=by
  intro k
  induction k with
  | zero=>intro _; rfl
  | succ k ih=>intro h; show U.sumW k+U.W k=T.sumW k+T.W k; rw [ih (by omega),hw k (by omega)]
 have sE:∀ k,k<=T.n->U.sumE k=T.sumE k:=by
  intro k
  induction k with
  | zero=>intro _; rfl
  | succ k ih=>intro h; show U.sumE k+U.el k=T.sumE k+T.el k; rw [ih (by omega),he k (by omega)]
 refine ⟨hw,he,⟨⟨by rw [hn]; exact hP.shape.n64,by rw [hn,hnw]; exact hP.shape.nw,fun i hi=>by rw [hw i (by omega)]; exact hP.shape.w1 i (by omega),by rw [hn,sW _ (Nat.le_refl _)]; exact hP.shape.sW,by rw [hn,sE _ (Nat.le_refl _)]; exact hP.shape.sE,fun i hi j hj=>?_⟩,
  by rw [hw 0 (by omega)]; exact hP.w0,by rw [hn,hw _ (Nat.le_refl _)]; exact hP.wn,fun i hi=>⟨fun j hj=>?_,fun v hv=>?_,fun v hv=>?_⟩⟩⟩
 ·obtain ⟨t,ht,h1,_,h3⟩:=hU.inn i hi j hj
  have k1:=hU.lt i (by omega) t ht
  have k2:=hU.lt (i+1) hi t ht
  unfold Trel.inside
  omega
 ·obtain ⟨t,ht,h1,h2,_⟩:=hU.inn i hi j hj
  obtain ⟨p,hp,_,k2,_⟩:=hT.out i (by omega) t ht
  have k:=(hP.sec i (by omega)).1 p hp
  exact ⟨by rw [h2]; omega,by rw [h2,<-k2]; exact k.2.1,fun h0=>hU.srt i hi (j - 1) j (by omega) hj⟩
 ·obtain ⟨t,ht,e⟩:=hU.onto i (by omega) v (by omega)
  obtain ⟨p,hp,k1,_⟩:=hU.out i hi t ht
  exact za2.2 ⟨p,hp,by rw [k1,e]⟩
 obtain ⟨t,ht,e⟩:=hU.onto (i+1) hi v (by omega)
 obtain ⟨p,hp,_,_,k3⟩:=hU.out i hi t ht
 exact za2.2 ⟨p,hp,by rw [k3,e]⟩
theorem Cov.kt_le (hP:T.Proper) (hT:Cov T mw x a) (hU:Cov U mw x b) (hn:U.n=T.n) (hk:∀ i,i<=T.n->∀ t t',t<mw->t'<mw->(b t i=b t' i↔a t i=a t' i)) {i:Nat} (hi:i<T.n) (ih:∀ t,t<mw->U.nm i (b t i)=T.nm i (a t i)) {t:Nat} (ht:t<mw) :
  U.kt (U.nm i) i (U.el i) (b t (i+1))<=T.kt (T.nm i) i (T.el i) (a t (i+1)):=by
 obtain ⟨q,hq,e1,e2⟩:=hP.kt_hit hi (v:=a t (i+1)) (by have:=hT.lt (i+1) hi t ht; omega)
 obtain ⟨s,hs,h1,h2,h3⟩:=hT.inn i hi q hq
 rw [h3,Int.toNat_natCast] at e1
 have e3:=(hk (i+1) hi s t hs ht).2 e1
 obtain ⟨p,hp,k1,k2,k3⟩:=hU.out i (by omega) s hs
 have h4:=Trel.kt_le (T:=U) (f:=U.nm i) (i:=i) hp
 rw [k3,Int.toNat_natCast,e3] at h4
 have h5:U.code (U.nm i) i p=T.code (T.nm i) i q:=by
  unfold Trel.code
  rw [k1,k2,h1,h2]
  simp only [Int.toNat_natCast,ih s hs]
 omega
theorem Cov.nm_eq (hP:T.Proper) (hPU:U.Proper) (hT:Cov T mw x a) (hU:Cov U mw x b) (hn:U.n=T.n) (hk:∀ i,i<=T.n->∀ t t',t<mw->t'<mw->(b t i=b t' i↔a t i=a t' i)) (hw:∀ i,i<=T.n->U.W i=T.W i):∀ i,i<=T.n->∀ t,t<mw->U.nm i (b t i)=T.nm i (a t i):=by
 intro i
 induction i with
 | zero=>intro _ _ _; rfl
 | succ i ih =>
  intro hi t ht
  have ih:=ih (by omega)
  show rankOf (U.kt (U.nm i) i (U.el i)) (U.W (i+1)).toNat (b t (i+1))=rankOf (T.kt (T.nm i) i (T.el i)) (T.W (i+1)).toNat (a t (i+1))
  rw [hw (i+1) hi]
  refine zh5 (mw:=mw) (a:=fun t=>a t (i+1)) (b:=fun t=>b t (i+1)) (fun t ht=>?_) (fun v hv=>hT.onto (i+1) hi v (by omega)) (fun t t' ht ht'=>(hk (i+1) hi t t' ht ht').1) (fun t ht=>Nat.le_antisymm ?_ ?_) ht
  ·have:=hU.lt (i+1) (by omega) t ht
   rw [hw (i+1) hi] at this
   show b t (i+1)<_
   omega
  ·exact Cov.kt_le hP hT hU hn hk hi ih ht
  ·exact Cov.kt_le hPU hU hT hn.symm (fun i hi t t' ht ht'=>(hk i (by omega) t t' ht ht').symm) (by omega) (fun t ht=>(ih t ht).symm) ht
theorem Cov.tri_mem (hT:Cov T mw x a) {i:Nat} (hi:i<T.n) (y:Int × Int × Int):y ∈ (List.range (T.el i)).map (T.tri i)↔∃ t,t<mw/\y=(((T.nm i (a t i):Nat):Int),((x t i:Nat):Int),((T.nm (i+1) (a t (i+1)):Nat):Int)):=by
 constructor
 ·intro h
  obtain ⟨j,hj,rfl⟩:=List.mem_map.1 h
  obtain ⟨t,ht,h1,h2,h3⟩:=hT.inn i hi j (List.mem_range.1 hj)
  refine ⟨t,ht,?_⟩
  unfold Trel.tri
  simp only [h1,h2,h3,Int.toNat_natCast]
 rintro ⟨t,ht,rfl⟩
 obtain ⟨j,hj,h1,h2,h3⟩:=hT.out i hi t ht
 refine List.mem_map.2 ⟨j,List.mem_range.2 hj,?_⟩
 unfold Trel.tri
 simp only [h1,h2,h3,Int.toNat_natCast]
theorem Trel.Proper.tri_nodup (hP:T.Proper) {i:Nat} (hi:i<T.n):((List.range (T.el i)).map (T.tri i)).Nodup :=
 zaj.2 fun p q hpq hq e=>by
  have:=hP.tri_inj hi (by omega) hq (congrArg Prod.fst e) (congrArg (fun t=>t.2.1) e)
  omega
theorem Cov.ren (hP:T.Proper) (hPU:U.Proper) (hT:Cov T mw x a) (hU:Cov U mw x b) (hn:U.n=T.n) (hk:∀ i,i<=T.n->∀ t t',t<mw->t'<mw->(b t i=b t' i↔a t i=a t' i)) (hw:∀ i,i<=T.n->U.W i=T.W i) (he:∀ i,i<T.n->U.el i=T.el i) {z:Nat->Nat->Int × Int × Int} (h:IsRen U z):IsRen T z:=fun i hi=>by
 obtain ⟨h1,h2⟩:=h i (by omega)
 have hnm:=Cov.nm_eq hP hPU hT hU hn hk hw
 have hp:((List.range (U.el i)).map (U.tri i)).Perm ((List.range (T.el i)).map (T.tri i)):=by
  refine (List.perm_ext_iff_of_nodup (hPU.tri_nodup (by omega)) (hP.tri_nodup hi)).2 fun y=>?_
  rw [hT.tri_mem hi,hU.tri_mem (by omega)]
  constructor
  ·rintro ⟨t,ht,e⟩
   exact ⟨t,ht,by rw [e,hnm i (by omega) t ht,hnm (i+1) hi t ht]⟩
  ·rintro ⟨t,ht,e⟩
   exact ⟨t,ht,by rw [e,hnm i (by omega) t ht,hnm (i+1) hi t ht]⟩
 have h3:=h1.trans hp
 rw [he i hi] at h3 h2
 exact ⟨h3,h2⟩
theorem IsRen.cov (hP:T.Proper) (hT:Cov T mw x a) {y:Nat->Nat->Int × Int × Int} (h:IsRen T y):Cov (T.re y) mw x (fun t i=>T.nm i (a t i)) where
 lt i hi t ht:=by
  have h1:=hT.lt i hi t ht
  have h2:=hP.nm_lt (i:=i) (v:=a t i) hi (by omega)
  show ((T.nm i (a t i):Nat):Int)<T.W i
  omega
 onto i hi v hv:=by
  have hv:(v:Int)<T.W i:=hv
  obtain ⟨u,hu,e⟩:=hP.nm_surj (i:=i) hi (t:=v) (by omega)
  obtain ⟨t,ht,e2⟩:=hT.onto i hi u (by omega)
  exact ⟨t,ht,by show T.nm i (a t i)=v; rw [e2,e]⟩
 out i hi t ht:=by
  have hi:i<T.n:=hi
  obtain ⟨j,hj,h1,h2,h3⟩:=hT.out i hi t ht
  obtain ⟨p,hp,e⟩:=h.from_old hi hj
  refine ⟨p,hp,?_,?_,?_⟩
  ·show (y i p).1=_
   rw [e]
   show ((T.nm i (T.fr i j).toNat:Nat):Int)=_
   rw [h1,Int.toNat_natCast]
  ·show (y i p).2.1=_
   rw [e]
   exact h2
  ·show (y i p).2.2=_
   rw [e]
   show ((T.nm (i+1) (T.to i j).toNat:Nat):Int)=_
   rw [h3,Int.toNat_natCast]
 inn i hi p hp:=by
  have hi:i<T.n:=hi
  have hp:p<T.el i:=hp
  obtain ⟨j,hj,e⟩:=h.to_old hi hp
  obtain ⟨t,ht,h1,h2,h3⟩:=hT.inn i hi j hj
  refine ⟨t,ht,?_,?_,?_⟩
  ·show (y i p).1=_
   rw [e]
   show ((T.nm i (T.fr i j).toNat:Nat):Int)=_
   rw [h1,Int.toNat_natCast]
  ·show (y i p).2.1=_
   rw [e]
   exact h2
  ·show (y i p).2.2=_
   rw [e]
   show ((T.nm (i+1) (T.to i j).toNat:Nat):Int)=_
   rw [h3,Int.toNat_natCast]
 srt i hi p q hpq hq:=(h i hi).2 p q hpq hq
end
section
variable {T:Trel} {mw q r:Nat} {add mul:Nat->Nat->Nat} {H x a:Nat->Nat->Nat}
theorem Cov.synv (hT:Cov T mw x a) (hs:∀ i,i<=T.n->∀ t t',t<mw->t'<mw->a t i=a t' i->∀ k,k<r->dotN add mul (x t) (H k) i=dotN add mul (x t') (H k) i) {i:Nat} (hi:i<T.n) (hS:∀ t,t<mw->∀ k,k<r->T.syn add mul H i (a t i) k=dotN add mul (x t) (H k) i)
  {j:Nat} (hj:j<T.el i) {t:Nat} (ht:t<mw) (e:(T.to i j).toNat=a t (i+1)) {k:Nat} (hk:k<r):T.synv add mul H (T.syn add mul H i) i j k=dotN add mul (x t) (H k) (i+1):=by
 obtain ⟨s,b,h1,h2,h3⟩:=hT.inn i hi j hj
 rw [h3,Int.toNat_natCast] at e;rw [<-hs (i+1) hi s t b ht e k hk]
 unfold Trel.synv
 rw [h1,h2,Int.toNat_natCast,Int.toNat_natCast,hS s b k hk]
 rfl
theorem Cov.synL (hT:Cov T mw x a) (hs:∀ i,i<=T.n->∀ t t',t<mw->t'<mw->a t i=a t' i->∀ k,k<r->dotN add mul (x t) (H k) i=dotN add mul (x t') (H k) i) {i:Nat} (hi:i<T.n) (hS:∀ t,t<mw->∀ k,k<r->T.syn add mul H i (a t i) k=dotN add mul (x t) (H k) i) :
  ∀ m,m<=T.el i->∀ t,t<mw->T.asg i m (a t (i+1))->∀ k,k<r->T.synL add mul H (T.syn add mul H i) i m (a t (i+1)) k=dotN add mul (x t) (H k) (i+1)
 | 0,_,_,_,h,_,_=>absurd h Trel.asg_zero
 | m + 1, hm, t, ht, h, k, hk => by
  show (if (T.to i m).toNat=a t (i+1) then T.synv add mul H (T.syn add mul H i) i m k else T.synL add mul H (T.syn add mul H i) i m (a t (i+1)) k)=_
  by_cases e:(T.to i m).toNat=a t (i+1)
  ·rw [if_pos e]
   exact hT.synv hs hi hS (by omega) ht e hk
  ·rw [if_neg e]
   rcases Trel.asg_succ.1 h with g | g
   ·exact Cov.synL hT hs hi hS m (by omega) t ht g k hk
   ·exact absurd g e
theorem Cov.syn (hT:Cov T mw x a) (hs:∀ i,i<=T.n->∀ t t',t<mw->t'<mw->a t i=a t' i->∀ k,k<r->dotN add mul (x t) (H k) i=dotN add mul (x t') (H k) i):∀ i,i<=T.n->∀ t,t<mw->∀ k,k<r->T.syn add mul H i (a t i) k=dotN add mul (x t) (H k) i
 | 0,_,_,_,_,_=>rfl
 | i+1,hi,t,ht,k,hk=>by
  obtain ⟨j,hj,_,_,h3⟩:=hT.out i hi t ht
  exact hT.synL hs hi (Cov.syn hT hs i (by omega)) (T.el i) (Nat.le_refl _) t ht ⟨j,hj,by rw [h3,Int.toNat_natCast]⟩ k hk
theorem Cov.synOk (hT:Cov T mw x a) (hx:∀ t i,x t i<q) (hs:∀ i,i<=T.n->∀ t t',t<mw->t'<mw->a t i=a t' i->∀ k,k<r->dotN add mul (x t) (H k) i=dotN add mul (x t') (H k) i):T.SynOk add mul H q r:=fun i hi j hj=>by
 obtain ⟨t,ht,h1,h2,h3⟩:=hT.inn i hi j hj
 have hxt:=hx t i
 have hS:=hT.syn hs i (by omega)
 refine ⟨⟨by rw [h2]; omega,by rw [h2]; omega⟩,fun hz k hk=>?_⟩
 rw [h3,Int.toNat_natCast] at hz ⊢
 rw [hT.synL hs hi hS j (by omega) t ht hz k hk,hT.synv hs hi hS hj ht (by rw [h3,Int.toNat_natCast]) hk]
theorem Trel.path_lev {e:Nat->Nat} {nd u:Nat->Int} (h0:nd 0=0) (hp:∀ t,t<T.n->e t<T.el t/\T.fr t (e t)=nd t/\T.to t (e t)=nd (t+1)/\T.lb t (e t)=u t):∀ i,i<=T.n->((List.range i).map u,nd i) ∈ T.lev i
 | 0,_=>by simp [Trel.lev,h0]
 | i+1,hi=>by
  obtain ⟨h1,h2,h3,h4⟩:=hp i (by omega)
  have ih:=Trel.path_lev h0 hp i (by omega)
  show _ ∈ (T.lev i).flatMap (T.ext i (T.el i))
  refine List.mem_flatMap.2 ⟨_,ih,?_⟩
  unfold Trel.ext
  refine List.mem_map.2 ⟨e i,Trel.outs_mem.2 ⟨h1,h2⟩,?_⟩
  rw [List.range_succ,List.map_append,h3,h4]
  rfl
end
section
variable {T:Trel} {q n r:Nat} {add mul:Nat->Nat->Nat} {neg:Nat->Nat} {H V a:Nat->Nat->Nat}
theorem Cov.isTr (hL:FieldLaws q add mul) (hneg:∀ x,x<q->neg x<q/\add x (neg x)=0) (hV:RrefN q n T.n V) (hrel:NullRel q add mul neg n T.n V r H) (hP:T.Proper) (hT:Cov T (q ^ n) (fun t=>spE add mul V (msgD q n t) n) a)
  (hs:∀ i,i<=T.n->∀ t t',t<q ^ n->t'<q ^ n->a t i=a t' i->∀ k,k<r->dotN add mul (spE add mul V (msgD q n t) n) (H k) i=dotN add mul (spE add mul V (msgD q n t') n) (H k) i):IsTr q r add mul H T n:=by
 have w:0<q:=by have:=hL.two; omega
 have m:0<q ^ n:=Nat.pow_pos w
 have h:=hT.synOk (fun t i=>za6 hL _ _ _) hs
 have hz:∀ k,k<r->T.syn add mul H T.n 0 k=0:=fun k hk=>by
  have h1:=hT.syn hs T.n (Nat.le_refl _) 0 m k hk
  have h2:=hT.lt T.n (Nat.le_refl _) 0 m
  rw [hP.wn] at h2
  rw [show a 0 T.n=0 by omega] at h1
  rw [h1]
  exact (zcm hL hneg hV hrel (fun j _=>za6 hL _ _ _)).1 (zjB hL 0) k hk
 refine ⟨h,hz,?_⟩
 obtain ⟨C,hC⟩:∃ C,C=(List.range (q ^ n)).map fun i=>(List.range T.n).map fun j=>((spE add mul V (msgD q n i) n j:Nat):Int):=⟨_,rfl⟩
 have p:C.length=q ^ n:=by rw [hC]; simp
 obtain ⟨A,z⟩:=Trel.lev_uniq hP T.n (Nat.le_refl _)
 have hW:((T.lev T.n).map (·.1)).Nodup:=zaS A fun x hx y hy e=>z x hx y hy e
 have o:((T.lev T.n).map (·.1)).length=T.fwd (fun _ _=>1) T.n 0:=by rw [Trel.lev_words,Trel.words_len hP]
 have d:∀ x,x ∈ (T.lev T.n).map (·.1)->x ∈ C:=fun x hx=>by
  obtain ⟨y,hy,rfl⟩:=List.mem_map.1 hx
  obtain ⟨g1,g2,g3⟩:=Trel.lev_in hP T.n (Nat.le_refl _) y hy
  obtain ⟨g4,g5⟩:=Trel.lev_syn hP h T.n (Nat.le_refl _) y hy
  have v:y.2.toNat=0:=by have:=hP.wn; omega
  have b:∀ j,j<T.n->0<=y.1.getD j 0/\y.1.getD j 0<(q:Int):=fun j hj=>by
   rw [List.getD_eq_getElem?_getD,List.getElem?_eq_getElem (by omega),Option.getD_some]
   exact g4 _ (List.getElem_mem _)
  have B:∀ j,j<T.n->symW y.1 j<q:=fun j hj=>by
   have:=b j hj
   unfold symW
   omega
  have D:=(zcm hL hneg hV hrel B).2 fun k hk=>by rw [<-g5 k hk,v]; exact hz k hk
  rw [hC]
  exact ziR D g1 fun j hj=>by
   have:=b j hj
   unfold symW
   omega
 have hE:∃ e:Nat->Nat->Nat,∀ i,i<T.n->∀ t,t<q ^ n->e i t<T.el i/\T.fr i (e i t)=(a t i:Nat)/\T.lb i (e i t)=(spE add mul V (msgD q n t) n i:Nat)/\T.to i (e i t)=(a t (i+1):Nat):=by
  have hs:∀ i,∃ e:Nat->Nat,i<T.n->∀ t,t<q ^ n->e t<T.el i/\T.fr i (e t)=(a t i:Nat)/\T.lb i (e t)=(spE add mul V (msgD q n t) n i:Nat)/\T.to i (e t)=(a t (i+1):Nat):=fun i=>by
   by_cases g:i<T.n
   ·obtain ⟨e,he⟩:=hT.pick g
    exact ⟨e,fun _=>he⟩
   ·exact ⟨fun _=>0,fun k=>absurd k g⟩
  exact Classical.axiomOfChoice hs
 obtain ⟨e,he⟩:=hE
 have c:∀ x,x ∈ C->x ∈ (T.lev T.n).map (·.1):=fun x hx=>by
  rw [hC] at hx
  obtain ⟨t,ht,rfl⟩:=List.mem_map.1 hx
  have ht:=List.mem_range.1 ht
  have h0:((a t 0:Nat):Int)=0:=by
   have:=hT.lt 0 (Nat.zero_le _) t ht
   rw [hP.w0] at this
   omega
  exact List.mem_map.2 ⟨_,Trel.path_lev (T:=T) (e:=fun i=>e i t) (nd:=fun i=>(a t i:Nat)) (u:=fun i=>(spE add mul V (msgD q n t) n i:Nat)) h0 (fun i hi=>by
   obtain ⟨k1,k2,k3,k4⟩:=he i hi t ht
   exact ⟨k1,k2,k4,k3⟩) T.n (Nat.le_refl _),rfl⟩
 have f:C.Nodup:=by
  rw [hC]
  refine zaj.2 fun s t hst ht e=>?_
  obtain ⟨i,hi,_,h2⟩:=zh3 hL hV hst ht
  have h3:=congrArg (fun l:List Int=>l.getD i 0) e
  dsimp only at h2
  simp [hi] at h3
  omega
 have l1:=zfh hW d
 have l2:=zfh f c
 omega
end
section
variable {q n N r:Nat} {add mul:Nat->Nat->Nat} {neg:Nat->Nat} {pv:Nat->Nat} {R V H:Nat->Nat->Nat} {T:Trel}
theorem zh6 (hL:FieldLaws q add mul) {x y z:Nat} (hx:x<q) (hy:y<q) (hz:z<q) (h:add x z=add y z):x=y:=by
 obtain ⟨z',a,e⟩:=hL.neg z hz
 have h1:add (add x z) z'=add (add y z) z':=by rw [h]
 rw [hL.addAssoc x z z' hx hz a,hL.addAssoc y z z' hy hz a,e,hL.addComm x 0,hL.addComm y 0,hL.zeroAdd x hx,hL.zeroAdd y hy] at h1
 exact h1
theorem zga (hL:FieldLaws q add mul) {u u' y:Nat->Nat} {i:Nat}:∀ m,(∀ j,i<=j->j<i+m->u j=u' j)->dotN add mul u y (i+m)=dotN add mul u' y (i+m)->dotN add mul u y i=dotN add mul u' y i
 | 0,_,h=>h
 | m+1,he,h=>by
  have h:add (dotN add mul u y (i+m)) (mul (u (i+m)) (y (i+m)))=add (dotN add mul u' y (i+m)) (mul (u' (i+m)) (y (i+m))):=h
  rw [he (i+m) (by omega) (by omega)] at h
  exact zga hL m (fun j h1 h2=>he j h1 (by omega)) (zh6 hL (zeH hL _ _ _) (zeH hL _ _ _) (hL.mulLt _ _) h)
theorem MinT.coefs (hL:FieldLaws q add mul) (hsp:SameSp q add mul N n n V R):∃ C:Nat->Nat->Nat,(∀ t s,C t s<q)/\∀ t j,j<N->spE add mul V (msgD q n t) n j=spE add mul R (C t) n j:=by
 have a:0<q:=by have:=hL.two; omega
 have hs:∀ t,∃ c:Nat->Nat,(∀ s,c s<q)/\∀ j,j<N->spE add mul V (msgD q n t) n j=spE add mul R c n j:=fun t=>by
  obtain ⟨c,h1,h2⟩:=(hsp _).1 (zjB hL t)
  refine ⟨fun s=>if s<n then c s else 0,fun s=>?_,fun j hj=>?_⟩
  ·show (if s<n then c s else 0)<q
   split
   ·exact h1 s (by assumption)
   ·exact a
  have h3:spE add mul V (msgD q n t) n j=spE add mul R c n j:=h2 j hj
  rw [h3]
  exact zbO n fun s hs=>by show mul (c s) _=mul (if s<n then c s else 0) _; rw [if_pos hs]
 obtain ⟨C,hC⟩:=Classical.axiomOfChoice hs
 exact ⟨C,fun t=>(hC t).1,fun t=>(hC t).2⟩
theorem MinT.cov (hL:FieldLaws q add mul) (h:SpanF q n N pv R) (hM:MinT q add mul n N pv R T) (hsp:SameSp q add mul N n n V R) {C:Nat->Nat->Nat} (hC:∀ t s,C t s<q) (hW:∀ t j,j<N->spE add mul V (msgD q n t) n j=spE add mul R (C t) n j) :
  Cov T (q ^ n) (fun t=>spE add mul V (msgD q n t) n) (fun t i=>packB q (actA pv R N i) (C t) n):=by
 have b:0<q:=by have:=hL.two; omega
 have e:=hM.nN
 have a:∀ c:Nat->Nat,(∀ s,c s<q)->∃ t,t<q ^ n/\∀ s,s<n->C t s=c s:=fun c hc=>by
  obtain ⟨t,ht,h1⟩:=zku ((hsp (spE add mul R c n)).2 ⟨c,fun s _=>hc s,fun _ _=>rfl⟩)
  refine ⟨t,ht,fun s hs=>?_⟩
  exact zeW hL h (c:=C t) (d:=c) (fun s _=>hC t s) (fun s _=>hc s) (i:=N) (fun j _ hj=>by rw [<-hW t j hj,<-h1 j hj]) (s+1) s (by omega) hs (h.pvlt s hs)
 refine ⟨fun i hi t ht=>?_,fun i hi v hv=>?_,fun i hi t ht=>?_,fun i hi j hj=>?_,fun i hi=>hM.srt i (by omega)⟩
 ·rw [hM.w i (by omega)]
  have:=zbN (D:=actA pv R N i) (c:=C t) n fun s _=>hC t s
  omega
 ·rw [hM.w i (by omega)] at hv
  obtain ⟨c,h1,_,h2⟩:=zaN b (D:=actA pv R N i) n v (by omega)
  obtain ⟨t,ht,h3⟩:=a c h1
  exact ⟨t,ht,by rw [<-h2]; exact zaV n fun s hs _=>h3 s hs⟩
 ·obtain ⟨j,hj,h1,h2,h3⟩:=hM.edge (i:=i) (by omega) (hC t)
  exact ⟨j,hj,h1,by rw [h2,hW t i (by omega)],h3⟩
 obtain ⟨c,h1,h2⟩:=hM.inn i (by omega) j hj
 simp only [Trel.eD,secE,Prod.mk.injEq] at h2
 obtain ⟨t,ht,h3⟩:=a c h1
 refine ⟨t,ht,?_,?_,?_⟩
 ·rw [h2.1,zaV (c':=C t) n fun s hs _=>(h3 s hs).symm]
 ·rw [h2.2.1,hW t i (by omega),zbO (c':=C t) n fun s hs=>by rw [h3 s hs]]
 ·rw [h2.2.2,zaV (c':=C t) n fun s hs _=>(h3 s hs).symm]
theorem MinT.ker (hL:FieldLaws q add mul) (hneg:∀ x,x<q->neg x<q/\add x (neg x)=0) (hV:RrefN q n N V) (hp:NullRel q add mul neg n N V r H) (hsp:SameSp q add mul N n n V R) (h:SpanF q n N pv R) (hdis:∀ i j,i<j->j<n->lE (R i) N≠lE (R j) N)
  {C:Nat->Nat->Nat} (hC:∀ t s,C t s<q) (hW:∀ t j,j<N->spE add mul V (msgD q n t) n j=spE add mul R (C t) n j) {i:Nat} (hi:i<=N) (t t':Nat) :
  (∀ k,k<r->dotN add mul (spE add mul V (msgD q n t) n) (H k) i=dotN add mul (spE add mul V (msgD q n t') n) (H k) i)↔packB q (actA pv R N i) (C t) n=packB q (actA pv R N i) (C t') n:=by
 have hd:∀ t k,dotN add mul (spE add mul V (msgD q n t) n) (H k) i=dotN add mul (spE add mul R (C t) n) (H k) i:=fun t k=>zbA i fun j hj=>hW t j (by omega)
 constructor
 ·intro he
  have e2:=zja hL hneg hV hp hsp h hdis (c:=C t) (c':=C t') (fun s _=>hC t s) (fun s _=>hC t' s) (k:=i) hi (fun k hk=>by rw [<-hd,<-hd]; exact he k hk) (fun j h1 h2 _=>absurd h1 (by omega))
  exact zaV n fun s hs hA=>e2 s hs ((zaM i s).1 hA).1 ((zaM i s).1 hA).2
 intro he k hk
 have a:=zc1 n (fun s _=>hC t s) (fun s _=>hC t' s) he
 rw [hd,hd]
 obtain ⟨d,b⟩:∃ d:Nat->Nat,d=fun s=>if pv s<i then C t s else C t' s:=⟨_,rfl⟩
 have f:∀ s,d s<q:=fun s=>by
  rw [b]
  show (if pv s<i then C t s else C t' s)<q
  split
  ·exact hC _ _
  ·exact hC _ _
 have h1:∀ j,j<i->spE add mul R d n j=spE add mul R (C t) n j:=fun j hj=>zbO n fun s hs=>by
  rw [b]
  show mul (if pv s<i then C t s else C t' s) _=_
  split
  ·rfl
  ·rw [h.low s hs j (by omega),hL.mulZero (hC _ _),hL.mulZero (hC _ _)]
 have h2:∀ j,i<=j->j<N->spE add mul R d n j=spE add mul R (C t') n j:=fun j hij hj=>zbO n fun s hs=>by
  rw [b]
  show mul (if pv s<i then C t s else C t' s) _=_
  split
  ·rename_i g
   by_cases g2:(i:Int)<=lE (R s) N
   ·rw [a s hs ((zaM i s).2 ⟨g,g2⟩)]
   ·have:R s j=0:=zbv (n:=N) hj (by omega)
    rw [this,hL.mulZero (hC _ _),hL.mulZero (hC _ _)]
  ·rfl
 have e:∀ c:Nat->Nat,(∀ s,c s<q)->dotN add mul (spE add mul R c n) (H k) N=0:=fun c hc =>
  (zcm hL hneg hV hp (fun j _=>za6 hL _ _ _)).1 ((hsp _).2 ⟨c,fun s _=>hc s,fun _ _=>rfl⟩) k hk
 have h3:=zga hL (u:=spE add mul R d n) (u':=spE add mul R (C t') n) (y:=H k) (i:=i) (N - i) (fun j h3 h4=>h2 j h3 (by omega)) (by
  rw [show i+(N - i)=N by omega,e d f,e _ (hC t')])
 rw [<-h3]
 exact zbA i fun j hj=>(h1 j hj).symm
end
section
variable {P:Program} (w:World)
theorem zlu {t e:TypeId} {i:TypeInfo} (ht:P.underlying t=some (.slice e)) (hsize:i.size=1) {A:Option Addr} {m c:Nat} {g:Nat->Value} (hsrc:Rd w w.heap.size A m 1 (fun k _=>g k)) (h1:∀ k,k<m->(g k).oneCell'=true) :
  Src P i.size t (.slice A m c) m ((List.range m).map g) w:=by
 cases A with
 | none =>
  cases m with
  | zero=>exact Src.ofNil w ht c
  | succ m =>
   obtain ⟨b,off,e1,_⟩:=hsrc 0 (by omega)
   cases e1
 | some a =>
  refine Src.ofSlice w (e':=e) ht a m c _ (by simp [hsize]) (fun j u hu=>?_) fun u hu=>?_
  ·have hj:j<m:=by have:=(List.getElem?_eq_some_iff.1 hu).1; simpa using this
   rw [List.getElem?_map,List.getElem?_range hj] at hu
   simp only [Option.map_some,Option.some.injEq] at hu
   subst hu
   obtain ⟨b,off,e1,_,hc⟩:=hsrc j hj
   injection e1 with e1
   subst e1
   have d:(⟨b,off,none⟩:Addr).add j=⟨b,off+j,none⟩:=by unfold Addr.add; split <;> simp_all
   rw [d]
   have:=hc 0 (by omega)
   rw [Nat.mul_one,Nat.add_zero] at this
   exact this
  ·obtain ⟨j,hj,rfl⟩:=List.mem_map.1 hu
   exact h1 j (List.mem_range.1 hj)
theorem zdy (base:Nat) (t ty e:TypeId) (i:TypeInfo) (z:Value) (bytes:Nat) (ht:P.underlying t=some (.slice e)) (hi:P.info? e=some i) (hz:i.zero=some z)
  (hsize:i.size=1) (hby:i.bytes=bytes) (hzs:z.cells.size=1)
  (g0 o0 n cap0:Nat) (f:Nat->Value) (hown:Own w base e 1 (.slice (some ⟨g0,o0,none⟩) n cap0) n (fun k _=>f k))
  (A:Option Addr) (m c:Nat) (g:Nat->Value) (hsrc:Rd w w.heap.size A m 1 (fun k _=>g k)) (h1:∀ k,k<m->(g k).oneCell'=true)
  (h63:n+m<=maxLen) (hbytes:(n+m)*bytes<=140737488355328) (hbase:base<=w.heap.size) :
  ∃ v' w',(Builtin.append_ #[t,t] ty #[.slice (some ⟨g0,o0,none⟩) n cap0,.slice A m c]).run P w=.ok v' w'/\Own w' base e 1 v' (n+m) (fun k _=>if k<n then f k else g (k - n))/\w.grownBy w' (some g0):=by
 have d:n+m<=9223372036854775807:=by simp only [maxLen] at h63; omega
 have hs:=zlu (P:=P) w (t:=t) (e:=e) (i:=i) ht hsize (c:=c) hsrc h1
 rcases hown with ⟨h,_⟩ | ⟨gg,o,cap,cur,hv,hb,hg,y,x,p,q⟩
 ·simp at h
 simp only [Value.slice.injEq,Option.some.injEq,Addr.mk.injEq,and_true,true_and] at hv
 obtain ⟨⟨rfl,rfl⟩,rfl⟩:=hv
 have a:∀ k,k<n->cur[o0+k]?=some (f k):=fun k hk=>by have:=q k hk 0 (by omega); rwa [Nat.mul_one,Nat.add_zero] at this
 rw [Nat.mul_one] at p
 by_cases hroom:n+m<=cap0
 ·have B:∀ j,j<m->o0+n+j<cur.size:=fun j hj=>by omega
  have s:=run_storeCells_at P g0 (o0+n*i.size) e ((List.range m).map g) 0 cur w hg (by simp [hsize]; omega) hs.one
  have b:(Builtin.append_ #[t,t] ty #[.slice (some ⟨g0,o0,none⟩) n cap0,.slice A m c]).run P w=.ok (.slice (some ⟨g0,o0,none⟩) (n+m) cap0) (w.setRow g0 (cur.toList.take (o0+n*i.size) ++ (List.range m).map g ++ cur.toList.drop (o0+n*i.size+((List.range m).map g).length)).toArray):=by
   simp only [Nat.add_zero] at s
   rcases hs.kind with ⟨e',hk⟩ | hk <;> simp [Builtin.append_,run_underlying ht,sizeOf,typeInfo,hi,hs.len,hroom,hs.cells,Addr.add_lit,s]
  refine ⟨_,_,b,.inr ⟨g0,o0,cap0,_,rfl,hb,zbi hg,hroom,x,?_,fun k hk j hj=>?_⟩,zca w g0 _⟩
  ·simp [hsize]; omega
  obtain rfl:j=0:=by omega
  rw [Nat.mul_one,Nat.add_zero,List.getElem?_toArray,hsize,Nat.mul_one]
  have v:(cur.toList.take (o0+n)).length=o0+n:=by simp; omega
  by_cases hkn:k<n
  ·dsimp only
   rw [if_pos hkn,List.append_assoc,List.getElem?_append_left (by omega),List.getElem?_take,if_pos (by omega),Array.getElem?_toList]
   exact a k hkn
  dsimp only
  rw [if_neg hkn,List.append_assoc,List.getElem?_append_right (by omega),v,List.getElem?_append_left (by simp; omega),List.getElem?_map,show o0+k - (o0+n)=k - n by omega,List.getElem?_range (by omega)]
  rfl
 have l:(Builtin.firstCells i.size n (.slice (some ⟨g0,o0,none⟩) n cap0)).run P w.drew=.ok ((List.range n).map f).toArray w.drew:=by
  refine run_firstCells_some (P:=P) w.drew i.size n ⟨g0,o0,none⟩ n cap0 ((List.range n).map f) (by simp [hsize]) fun j u hu=>?_
  have hj:j<n:=by have:=(List.getElem?_eq_some_iff.1 hu).1; simpa using this
  rw [List.getElem?_map,List.getElem?_range hj] at hu
  simp only [Option.map_some,Option.some.injEq] at hu
  subst hu
  have r:(⟨g0,o0,none⟩:Addr).add j=⟨g0,o0+j,none⟩:=by unfold Addr.add; split <;> simp_all
  rw [r]
  show w.cell? ⟨g0,o0+j,none⟩=_
  rw [cell_of_row w g0 _ cur e (0,0) hg,a j hj]
 have b:=run_append_grow_src (P:=P) w t t ty e i z ht hi hz (some ⟨g0,o0,none⟩) n cap0 ((List.range n).map f) l (.slice A m c) m ((List.range m).map g) hs (by omega) (by omega) (growslice_fits (by omega) (by rw [hby]; exact hbytes))
 refine ⟨_,_,b,.inr ⟨w.heap.size,0,_,_,rfl,hbase,heap_alloc_new w.drew _,grownCap_ge w (n+m) cap0 e,grownCap_le_maxLen w (n+m) cap0 e h63,?_,fun k hk j hj=>?_⟩,⟨rfl,rfl,rfl,by simp,fun k hk _=>Below.heap_alloc w.drew _ k hk⟩⟩
 ·have C:=grownCap_ge w (n+m) cap0 e
  simp [size_zeroCells,hzs]
  omega
 obtain rfl:j=0:=by omega
 rw [Nat.mul_one,Nat.add_zero,Nat.zero_add,Array.getElem?_append_left (by simp; omega),List.getElem?_toArray]
 by_cases hkn:k<n
 ·dsimp only
  rw [if_pos hkn,List.getElem?_append_left (by simp; omega),List.getElem?_map,List.getElem?_range hkn]
  rfl
 dsimp only
 rw [if_neg hkn,List.getElem?_append_right (by simp; omega),List.getElem?_map]
 simp only [List.length_map,List.length_range]
 rw [List.getElem?_range (by omega)]
 rfl
theorem zaD {ops:Array Oper} {rest:List Oper} {o:Oper} {a:Act} {Q:Exit->Act->World->Prop} (hgd:o.guard=none) (sl x:Operand) (t:TypeId)
  (ho:o.op=.call { callee:=.builtin .append,args:=#[sl,x],argTypes:=#[t,t] })
  (base:Nat) (e:TypeId) (i:TypeInfo) (z:Value) (bytes:Nat) (ht:P.underlying t=some (.slice e)) (hi:P.info? e=some i) (hz:i.zero=some z)
  (hsize:i.size=1) (hby:i.bytes=bytes) (hzs:z.cells.size=1)
  (g0 o0 n cap0:Nat) (f:Nat->Value) (hv:a.eval sl=.slice (some ⟨g0,o0,none⟩) n cap0) (hown:Own w base e 1 (.slice (some ⟨g0,o0,none⟩) n cap0) n (fun k _=>f k))
  (A:Option Addr) (m c:Nat) (g:Nat->Value) (hx:a.eval x=.slice A m c) (hsrc:Rd w w.heap.size A m 1 (fun k _=>g k)) (h1:∀ k,k<m->(g k).oneCell'=true)
  (h63:n+m<=maxLen) (hbytes:(n+m)*bytes<=140737488355328) (hbase:base<=w.heap.size)
  (h:∀ v' w',Own w' base e 1 v' (n+m) (fun k _=>if k<n then f k else g (k - n))->w.grownBy w' (some g0)->wpList P ops Q rest (a.put o.dst v') w'):wpList P ops Q (o :: rest) a w:=by
 refine wpList_plain hgd fun K hK=>?_
 obtain ⟨v',w',b,h2,h3⟩:=zdy (P:=P) w base t o.type e i z bytes ht hi hz hsize hby hzs g0 o0 n cap0 f hown A m c g hsrc h1 h63 hbytes hbase
 unfold Oper.wp execOp
 simp only [ho,resolve,invoke,builtin,Sem.run_bind,Sem.run_pure,Result.andThen_ok,List.map_toArray,List.map_cons,List.map_nil,hv,hx,b]
 exact hK _ _ (h v' w' h2 h3)
end
def ltL (r:Nat) (x y:List Int):Prop:=LexLt (fun j=>x.getD j 0) (fun j=>y.getD j 0) r
theorem ltL.irr {r:Nat} {x:List Int} (h:ltL r x x):False:=by
 obtain ⟨i,_,_,h3⟩:=h
 exact absurd h3 (Int.lt_irrefl _)
theorem ltL.trans {r:Nat} {x y z:List Int} (h:ltL r x y) (h':ltL r y z):ltL r x z:=by
 obtain ⟨i,hi,a1,a2⟩:=h
 obtain ⟨j,hj,b1,b2⟩:=h'
 dsimp only at a1 a2 b1 b2
 rcases Nat.lt_trichotomy i j with e | e | e
 ·exact ⟨i,hi,fun t ht=>by dsimp only; rw [a1 t ht,b1 t (by omega)],by dsimp only; rw [<-b1 i e]; exact a2⟩
 ·subst e
  exact ⟨i,hi,fun t ht=>by dsimp only; rw [a1 t ht,b1 t ht],by dsimp only; omega⟩
 ·exact ⟨j,hj,fun t ht=>by dsimp only; rw [a1 t (by omega),b1 t ht],by dsimp only; rw [a1 j e]; exact b2⟩
theorem ltL.asymm {r:Nat} {x y:List Int} (h:ltL r x y) (h':ltL r y x):False:=(h.trans h').irr
def IsPos (r:Nat) (L:List (List Int)) (x:List Int) (i:Nat):Prop :=
 i<=L.length/\(∀ j,j<i->ltL r (L.getD j []) x)/\(i<L.length->¬ ltL r (L.getD i []) x)
theorem IsPos.unique {r:Nat} {L:List (List Int)} {x:List Int} {i j:Nat} (h:IsPos r L x i) (h':IsPos r L x j):i=j:=by
 rcases Nat.lt_trichotomy i j with e | e | e
 ·exact absurd (h'.2.1 i e) (h.2.2 (by have:=h'.1; omega))
 ·exact e
 ·exact absurd (h.2.1 j e) (h'.2.2 (by have:=h.1; omega))
def FindPost (r:Nat) (L:List (List Int)) (x:List Int) (w:World) (e:Ending) (w':World):Prop :=
 Below w.heap.size w w'/\∃ (i:Nat) (b:Bool),e=.returned (.tuple #[.int .i64 (i:Nat),.bool b])/\IsPos r L x i/\(b=true↔i<L.length/\∀ j,j<r->(L.getD i []).getD j 0=x.getD j 0)
theorem zfz (r:Nat) (A:Option Addr) (c:Nat) (L:List (List Int)) (B:Option Addr) (d:Nat) (x:List Int) (w:World) (h:IntRows w A L.length (fun _=>r) (fun i j=>(L.getD i []).getD j 0)) (hx:IntsR w w.heap.size B r (fun j=>x.getD j 0)) (hL:L.length<=1048576) (hr:r<=1048576) :
  Calls Tryz.prog 91 #[.slice A L.length c,.slice B r d] w (FindPost r L x w):=by
 obtain ⟨n,hn⟩:=exx L.length
 rw [<-hn] at h hL ⊢
 have HN:=hid hn
 have HT:=hid h
 have HX:=hid hx
 clear h hx hn
 go_enter Tryz.func91, Tryz.ntmps91
 go_upto_region 2 with fail
 go_loopg [6] n (fun gg iv wx=>∃ k:Nat,iv=.int .i64 (k:Nat)/\k<=n/\n<=k+gg/\Hid (∀ j,j<k->ltL r (L.getD j []) x)/\Below w.heap.size w wx)
 case atStart=>exact ⟨0,rfl,by omega,by omega,hid fun j h=>absurd h (by omega),Below.refl _ _⟩
 obtain ⟨k,rfl,hk,E,o,p⟩:=hrel
 have F:(0:Int)<=(k:Int):=by omega
 have K:=hid p
 obtain ⟨w1,u⟩:=exx wr
 subst u
 clear p
 by_cases hlt:k<n
 rotate_left
 ·have g:¬ (k:Int)<(n:Int):=by omega
  obtain rfl:k=n:=by omega
  go_wp2
  go_ret2
  exact ⟨K.out,k,false,rfl,⟨by rw [<-HN.out]; omega,o.out,fun h=>by rw [<-HN.out] at h; omega⟩,⟨(fun h=>by cases h),fun h=>by have:=HN.out; omega⟩⟩
 have g:(k:Int)<(n:Int):=by omega
 obtain ⟨tb,to0,RA,rc,y,v,t0,_,_,a,_⟩:=(HT.out.on K.out) k hlt
 subst y
 have l:=hid a
 clear a v
 go_wp2_with fail
 refine (zef RA B r rc d (fun j=>(L.getD k []).getD j 0) (fun j=>x.getD j 0) w1 l.out (HX.out.on K.out) (by omega)).mono ?_
 rintro e w2 ⟨z,rfl,hz,kb⟩
 have HZ:=hid hz
 replace K:=hid (onS K.out kb);clear hz kb t0
 by_cases hz1:z<0
 ·have t:¬ (z ≥ 0):=by omega
  have s:decide (z ≥ 0)=false:=by simp; omega
  have m:Hid (∀ j,j<k+1->ltL r (L.getD j []) x):=hid fun j hj=>by
   by_cases e:j=k
   ·subst e
    rcases HZ.out with ⟨_,h⟩ | ⟨h,_⟩ | ⟨h,_⟩
    ·exact h
    ·omega
    ·omega
   ·exact o.out j (by omega)
  go_wp2
  go_roundg (gk - 1)
  case measure=>omega
  case rel=>exact ⟨k+1,by go_num,by omega,by omega,m,K.out⟩
 have t:z ≥ 0:=by omega
 have s:decide (z ≥ 0)=true:=by simp; omega
 have D:Hid (¬ ltL r (L.getD k []) x):=hid fun h=>by
  rcases HZ.out with ⟨h1,_⟩ | ⟨_,h1⟩ | ⟨_,h1⟩
  ·omega
  ·exact ltL.asymm h h1
  obtain ⟨i,hi,_,h3⟩:=h
  dsimp only at h3
  rw [h1 i hi] at h3
  omega
 obtain ⟨zb,b⟩:∃ zb:Bool,zb=(z == 0):=⟨_,rfl⟩
 have q:Hid (zb=true↔∀ j,j<r->(L.getD k []).getD j 0=x.getD j 0):=hid (by
  rw [b]
  rcases HZ.out with ⟨h1,_⟩ | ⟨h1,h2⟩ | ⟨h1,h2⟩
  ·omega
  ·subst h1
   refine ⟨fun h=>by simp at h,fun h=>?_⟩
   obtain ⟨i,hi,_,h3⟩:=h2
   dsimp only at h3
   rw [h i hi] at h3
   omega
  ·subst h1
   exact ⟨fun _=>h2,fun _=>rfl⟩)
 have C:=hid b.symm
 clear b
 go_wp2
 rw [C.out]
 go_ret2
 exact ⟨K.out,k,zb,rfl,⟨by rw [<-HN.out]; omega,o.out,fun _=>D.out⟩,⟨fun h=>⟨by rw [<-HN.out]; omega,q.out.1 h⟩,fun h=>q.out.2 h.2⟩⟩
def RowV (base:Nat) (w:World) (v:Value) (r:Nat) (f:Nat->Int):Prop :=
 Own w base 3 1 v r (fun j _=>.int .i64 (f j))/\∀ j,j<r -> -9223372036854775808<=f j/\f j<=9223372036854775807
theorem RowV.on {base:Nat} {w w':World} {v:Value} {r:Nat} {f:Nat->Int} (h:RowV base w v r f) (hb:Below w.heap.size w w'):RowV base w' v r f:=⟨h.1.on hb,h.2⟩
theorem RowV.mono {base b':Nat} {w:World} {v:Value} {r:Nat} {f:Nat->Int} (h:RowV base w v r f) (hb:b'<=base):RowV b' w v r f:=⟨h.1.mono hb,h.2⟩
theorem RowV.one {base:Nat} {w:World} {v:Value} {r:Nat} {f:Nat->Int} (h:RowV base w v r f):v.oneCell'=true:=by
 obtain ⟨A,c,rfl⟩:=h.1.shape
 rfl
theorem RowV.congr {base:Nat} {w:World} {v:Value} {r:Nat} {f f':Nat->Int} (h:RowV base w v r f) (e:∀ j,j<r->f j=f' j):RowV base w v r f':=⟨h.1.congr fun j hj _ _=>by rw [e j hj],fun j hj=>by rw [<-e j hj]; exact h.2 j hj⟩
theorem zjb {w:World} {b m base s n:Nat} {t e:TypeId} {F:Nat->Value} {v:Value} {f:Nat->Nat->Value} (hr:w.rowIs b t m F) (h:Own w base e s v n f) (hne:t≠e):v.ownBlock≠some b:=by
 rcases h with ⟨rfl,_⟩ | ⟨g,o,cap,cur,rfl,_,hg,_⟩
 ·intro h; cases h
 intro h
 simp only [Value.ownBlock,Option.some.injEq] at h
 subst h
 obtain ⟨cs,h2,_⟩:=hr
 rw [hg] at h2
 simp only [Option.some.injEq,Obj.cells.injEq] at h2
 exact hne h2.2.1.symm
theorem RowV.setCell {base:Nat} {w:World} {v:Value} {r:Nat} {f:Nat->Int} (h:RowV base w v r f) {b m i:Nat} {t:TypeId} {F:Nat->Value} (hr:w.rowIs b t m F) (hne:t ≠ 3) (u:Value):RowV base (w.setCell ⟨b,i,none⟩ u) v r f :=
 ⟨h.1.setCell (a:=⟨b,i,none⟩) (zjb hr h.1 hne) u,h.2⟩
def LTabO (w:World) (base:Nat) (v:Value) (r:Nat) (L:List (List Int)):Prop :=
 ∃ R:Nat->Value,Own w 0 22 1 v L.length (fun k _=>R k)/\∀ k,k<L.length->RowV base w (R k) r (fun j=>(L.getD k []).getD j 0)
theorem LTabO.on {w w':World} {base:Nat} {v:Value} {r:Nat} {L:List (List Int)} (h:LTabO w base v r L) (hb:Below w.heap.size w w'):LTabO w' base v r L:=by
 obtain ⟨R,h1,h2⟩:=h
 exact ⟨R,h1.on hb,fun k hk=>(h2 k hk).on hb⟩
theorem LTabO.mono {w:World} {base b':Nat} {v:Value} {r:Nat} {L:List (List Int)} (h:LTabO w base v r L) (hb:b'<=base):LTabO w b' v r L:=by
 obtain ⟨R,h1,h2⟩:=h
 exact ⟨R,h1,fun k hk=>(h2 k hk).mono hb⟩
theorem LTabO.shape {w:World} {base:Nat} {v:Value} {r:Nat} {L:List (List Int)} (h:LTabO w base v r L):∃ A c,v=.slice A L.length c:=h.choose_spec.1.shape
theorem LTabO.nil (w:World) (base r:Nat):LTabO w base (.slice none 0 0) r []:=⟨fun _=>undef,Own.nil _ _ _ _ _,fun i hi=>absurd hi (by simp)⟩
theorem LTabO.setCell {w:World} {base:Nat} {v:Value} {r:Nat} {L:List (List Int)} (h:LTabO w base v r L) {b m i:Nat} {t:TypeId} {F:Nat->Value} (hr:w.rowIs b t m F) (hne:t ≠ 3) (hv:v.ownBlock≠some b) (u:Value):LTabO (w.setCell ⟨b,i,none⟩ u) base v r L:=by
 obtain ⟨R,h1,h2⟩:=h
 exact ⟨R,h1.setCell (a:=⟨b,i,none⟩) hv u,fun k hk=>(h2 k hk).setCell hr hne u⟩
theorem LTabO.rows {w:World} {base:Nat} {A:Option Addr} {n c r:Nat} {L:List (List Int)} (h:LTabO w base (.slice A n c) r L):IntRows w A L.length (fun _=>r) (fun i j=>(L.getD i []).getD j 0):=fun k hk=>by
 obtain ⟨R,h1,h2⟩:=h
 have hn:n=L.length:=by
  obtain ⟨_,_,e⟩:=h1.shape
  injection e
 subst hn
 obtain ⟨b,off,e1,hb,hc⟩:=Own.rd h1 rfl k hk
 obtain ⟨RA,rc,e2⟩:=(h2 k hk).1.shape
 have:=hc 0 (by omega)
 dsimp only at this
 rw [Nat.mul_one,Nat.add_zero,e2] at this
 have h3:=(h2 k hk).1
 rw [e2] at h3
 have a:=Own.capL h3
 exact ⟨b,off,RA,rc,e1,hb,this,a.1,a.2,Own.rd h3 rfl,(h2 k hk).2⟩
theorem zjc {w:World} {base b e s:Nat} {f:Nat->Nat->Value} (hb:base<=b) (h:w.heap[b]?=some (.cells #[] e (0,0))):Own w base e s (.slice (some ⟨b,0,none⟩) 0 0) 0 f :=
 .inr ⟨b,0,0,#[],rfl,hb,h,Nat.le_refl _,by unfold maxLen; omega,by simp,fun i hi=>absurd hi (by omega)⟩
def InsR (r:Nat) (L:List (List Int)) (x:List Int) (L':List (List Int)):Prop :=
 ∃ i,IsPos r L x i/\(((i<L.length/\∀ j,j<r->(L.getD i []).getD j 0=x.getD j 0)/\L'=L)∨(¬ (i<L.length/\∀ j,j<r->(L.getD i []).getD j 0=x.getD j 0)/\L'=L.take i ++ x :: L.drop i))
def InsPost (base:Nat) (v0:Value) (r:Nat) (L:List (List Int)) (x:List Int) (w:World) (e:Ending) (w':World):Prop :=
 Below w.heap.size w w'/\∃ v L',e=.returned v/\InsR r L x L'/\L'.length<=L.length+1/\LTabO w' base v r L'/\(v=v0∨∀ q,v.ownBlock=some q->w.heap.size<=q)
theorem zbw {L:List (List Int)} {x:List Int} {i k:Nat} (hi:i<=L.length):(L.take i ++ x :: L.drop i).getD k []=if k<i then L.getD k [] else if k=i then x else L.getD (k - 1) []:=by
 have hl:(L.take i).length=i:=by simp; omega
 simp only [List.getD_eq_getElem?_getD]
 by_cases h1:k<i
 ·rw [if_pos h1,List.getElem?_append_left (by omega),List.getElem?_take,if_pos h1]
 rw [if_neg h1,List.getElem?_append_right (by omega),hl]
 by_cases h2:k=i
 ·subst h2
  rw [if_pos rfl,Nat.sub_self]
  rfl
 rw [if_neg h2]
 obtain ⟨t,rfl⟩:∃ t,k=i+(t+1):=⟨k - i - 1,by omega⟩
 rw [show i+(t+1) - i=t+1 by omega,List.getElem?_cons_succ,List.getElem?_drop]
 rfl
theorem zeX (base r:Nat) (A:Option Addr) (c:Nat) (L:List (List Int)) (B:Option Addr) (d:Nat) (x:List Int) (w:World) (h:LTabO w base (.slice A L.length c) r L) (hx:RowV base w (.slice B r d) r (fun j=>x.getD j 0)) (hL:L.length<=1048575) (hr:r<=1048576) :
  Calls Tryz.prog 90 #[.slice A L.length c,.slice B r d] w (InsPost base (.slice A L.length c) r L x w):=by
 have a9:=hid h
 have U:=hid hx
 have HT:=hid h.rows
 have HX:Hid (IntsR w w.heap.size B r (fun j=>x.getD j 0)):=hid (Own.rd hx.1 rfl)
 have ae:=hid hx.2
 obtain ⟨Y,hd⟩:=Own.capL hx.1
 obtain ⟨R,W,a0⟩:=h
 obtain ⟨a7,hc⟩:=Own.capL W
 obtain ⟨n,hn⟩:=exx L.length
 have HN:=hid hn
 have HR:Hid (Rd w w.heap.size A n 1 (fun k _=>R k)):=hid (by rw [hn]; exact Own.rd W rfl)
 have D:Hid (∀ k,k<n->RowV base w (R k) r (fun j=>(L.getD k []).getD j 0)):=hid (by rw [hn]; exact a0)
 clear hx W a0;rw [<-hn] at hL a7 ⊢
 have G:=zfz r A c L B d x w HT.out HX.out (by omega) hr
 rw [<-hn] at G
 go_enter Tryz.func90, Tryz.ntmps90
 clear hn
 go_wp2_with fail
 refine G.mono ?_
 clear G
 rintro e w1 ⟨kb,i,b,rfl,P,hb⟩
 have H:=hid P
 have X:=hid hb
 have K:=hid kb
 have aa:i<=n:=by have:=P.1; rw [<-HN.out] at this; exact this
 clear P hb kb
 cases b with
 | true =>
  go_wp2
  go_ret
  have a5:Value.slice A n c=Value.slice A L.length c:=by rw [<-HN.out]
  exact ⟨K.out,_,L,rfl,⟨i,H.out,.inl ⟨X.out.1 trivial,rfl⟩⟩,Nat.le_succ _,by have:=a9.out.on K.out; rw [<-a5] at this; exact this,.inl rfl⟩
 | false =>
  have V:Hid (¬ (i<L.length/\∀ j,j<r->(L.getD i []).getD j 0=x.getD j 0)):=hid fun h=>by
   have:=X.out.2 h
   cases this
  clear X
  go_upto_region 4 with fail
  have ab:i<=c:=by omega
  have ad:(0:Int)<=(i:Int):=by omega
  have a6:=Y
  clear Y
  obtain ⟨i0,qi0,qz0,qz1,qz2⟩:=info_parts Tryz.infoInts
  cases A with
  | none =>
   obtain rfl:n=0:=by
    by_cases e:n=0
    ·exact e
    ·obtain ⟨b,off,e1,_⟩:=HR.out 0 (by omega)
     cases e1
   obtain rfl:i=0:=by omega
   go_upto_region 5 with (first | (at_builtin; refine zaF rfl (.tmp 16) (.tmp 19) _ rfl _ i0 Tryz.underlying25 qi0 w1.heap.size 0 rfl none c rfl ?_))
   have HO:Hid (Own (w1.alloc (Obj.cells #[] 22)) w1.heap.size 22 1 (.slice (some ⟨w1.heap.size,0,none⟩) 0 0) 0 (fun k _=>R k)):=hid (zjc (Nat.le_refl _) (heap_alloc_new w1 _))
   have K2:Hid (Below w1.heap.size w1 (w1.alloc (Obj.cells #[] 22))):=hid ((Below.refl _ _).alloc (Nat.le_refl _) _)
   obtain ⟨w2,M⟩:=exx (w1.alloc (Obj.cells #[] 22))
   rw [<-M] at HO K2 ⊢;clear M
   obtain ⟨g,hg⟩:=exx w1.heap.size
   obtain ⟨cp,a8⟩:∃ cp,cp=0:=⟨_,rfl⟩
   have a1:(0:Nat)<=1048576:=by omega
   have kb:=(Below.refl w2.heap.size w2).alloc (Nat.le_refl _) (Obj.cells #[Value.slice B r d] 22)
   have I:Hid (Own (w2.alloc (Obj.cells #[Value.slice B r d] 22)) w1.heap.size 22 1 (.slice (some ⟨w1.heap.size,0,none⟩) 0 0) 0 (fun k _=>if k=0 then Value.slice B r d else R k)):=hid ((HO.out.on kb).congr fun k hk _ _=>by rw [if_neg (by omega)])
   have O:Hid (∀ j,j<1->(w2.alloc (Obj.cells #[Value.slice B r d] 22)).cell? ((⟨w2.heap.size,0,none⟩:Addr).add j)=some (if 0=0 then Value.slice B r d else R 0)):=hid fun j hj=>by
    obtain rfl:j=0:=by omega
    rw [if_pos rfl]
    exact tbox2
   have s:Hid (∀ j,j<1->(if 0=0 then Value.slice B r d else R 0).oneCell'=true):=hid fun j hj=>by rw [if_pos rfl]; rfl
   have v:Hid (0+1<=maxLen):=hid (by unfold maxLen; omega)
   have u:Hid ((0+1)*24<=140737488355328):=hid (by omega)
   have K8:=hid (onS K2.out kb)
   have o:Hid (w1.heap.size<=(w2.alloc (Obj.cells #[Value.slice B r d] 22)).heap.size):=hid K8.out.size
   clear kb
   go_upto_region 6 with (first | (at_builtin; (refine zah _ rfl (.tmp 21) (.tmp 23) _ rfl w1.heap.size 22 i0 _ 1 24 Tryz.underlying25 qi0 qz0 qz1 qz2 rfl (by omega) _ 0 (fun k _=>if k=0 then Value.slice B r d else R k) rfl I.out ⟨w2.heap.size,0,none⟩ 1 rfl O.out s.out v.out u.out o.out ?_); intro v9 w9 o1 o2 o3))
   have z:=hid o1
   have K9:=hid (K8.out.grown o2 o.out fun q e=>(I.out.lt _ e).1)
   obtain ⟨g9,f9,c9,S,_,_,_,_,_⟩:=o1.form (by omega)
   subst S
   clear o1 o2 o3 I O s v u K8 o HO K2
   have E:Hid (Rd w9 w9.heap.size none (0) 1 (fun k _=>R (0+k))):=hid fun k hk=>by
    obtain ⟨b,off,e1,hb,N⟩:=HR.out (0+k) (by omega)
    have kb:=onS K.out K9.out
    cases e1
   have s:Hid (∀ k,k<0->(R (0+k)).oneCell'=true):=hid fun k hk=>(D.out (0+k) (by omega)).one
   have v:Hid (0+1+(0)<=maxLen):=hid (by unfold maxLen; omega)
   have u:Hid ((0+1+(0))*24<=140737488355328):=hid (by omega)
   have o:Hid (w1.heap.size<=w9.heap.size):=hid K9.out.size
   go_wp2_with (first | (at_builtin; (refine zaD _ rfl (.tmp 25) (.tmp 28) _ rfl w1.heap.size 22 i0 _ 24 Tryz.underlying25 qi0 qz0 qz1 qz2 rfl g9 f9 (0+1) c9 (fun k=>if k=0 then Value.slice B r d else R k) rfl z.out none (0) c (fun k=>R (0+k)) rfl E.out s.out v.out u.out o.out ?_); intro v10 w10 o1 o2))
   have l:=hid o1
   have F:=hid (K9.out.grown o2 o.out fun q e=>by
    injection e with e
    subst e
    exact (z.out.lt _ rfl).1)
   obtain ⟨A10,c10,y⟩:=o1.shape
   subst y
   clear o1 o2 E s v u o z K9
   go_wp2
   go_ret
   have J:=Own.capL l.out
   have m:(L.take 0 ++ x :: L.drop 0).length=0+1:=by
    rw [List.length_append,List.length_take,List.length_cons,List.length_drop,<-HN.out]
    omega
   have e10:0+1+(0)=0+1:=by omega
   refine ⟨onS K.out F.out,_,L.take 0 ++ x :: L.drop 0,rfl,⟨0,H.out,.inr ⟨V.out,rfl⟩⟩,by rw [m,HN.out]; exact Nat.le_refl _,⟨fun k=>if k<0+1 then (if k=0 then Value.slice B r d else R k) else R (0+(k - (0+1))),?_,?_⟩,.inr fun q e=>Nat.le_trans K.out.size (l.out.lt q e).1⟩
   ·rw [m]
    have h9:=l.out.mono (Nat.zero_le _)
    first | exact h9 | (rw [<-e10]; exact h9)
   ·rw [m]
    intro k hk
    have Q:∀ j,((L.take 0 ++ x :: L.drop 0).getD k []).getD j 0=(if k<0 then L.getD k [] else if k=0 then x else L.getD (k - 1) []).getD j 0:=fun j=>by rw [zbw (by rw [<-HN.out]; omega)]
    have kb:=onS K.out F.out
    have C:(fun j=>((L.take 0 ++ x :: L.drop 0).getD k []).getD j 0)=fun j=>(if k<0 then L.getD k [] else if k=0 then x else L.getD (k - 1) []).getD j 0:=funext Q
    rw [C]
    by_cases h1:k<0
    ·simp only [if_pos h1,if_pos (show k<0+1 by omega),if_neg (show ¬ k=0 by omega)]
     exact (D.out k (by omega)).on kb
    ·by_cases h2:k=0
     ·subst h2
      simp only [if_pos (Nat.lt_succ_self _),if_true,Nat.lt_irrefl,if_false]
      exact U.out.on kb
     ·simp only [if_neg (show ¬ k<0+1 by omega),if_neg h1,if_neg h2,show 0+(k - (0+1))=k - 1 by omega]
      exact (D.out (k - 1) (by omega)).on kb
  | some a =>
   by_cases hi00:i=0
   ·subst hi00
    go_upto_region 5 with (first | (at_builtin; refine zaF rfl (.tmp 16) (.tmp 19) _ rfl _ i0 Tryz.underlying25 qi0 w1.heap.size 0 rfl (some a) c rfl ?_))
    have HO:Hid (Own (w1.alloc (Obj.cells #[] 22)) w1.heap.size 22 1 (.slice (some ⟨w1.heap.size,0,none⟩) 0 0) 0 (fun k _=>R k)):=hid (zjc (Nat.le_refl _) (heap_alloc_new w1 _))
    have K2:Hid (Below w1.heap.size w1 (w1.alloc (Obj.cells #[] 22))):=hid ((Below.refl _ _).alloc (Nat.le_refl _) _)
    obtain ⟨w2,M⟩:=exx (w1.alloc (Obj.cells #[] 22))
    rw [<-M] at HO K2 ⊢;clear M
    obtain ⟨g,hg⟩:=exx w1.heap.size
    obtain ⟨cp,a8⟩:∃ cp,cp=0:=⟨_,rfl⟩
    have a1:(0:Nat)<=1048576:=by omega
    have kb:=(Below.refl w2.heap.size w2).alloc (Nat.le_refl _) (Obj.cells #[Value.slice B r d] 22)
    have I:Hid (Own (w2.alloc (Obj.cells #[Value.slice B r d] 22)) w1.heap.size 22 1 (.slice (some ⟨w1.heap.size,0,none⟩) 0 0) 0 (fun k _=>if k=0 then Value.slice B r d else R k)):=hid ((HO.out.on kb).congr fun k hk _ _=>by rw [if_neg (by omega)])
    have O:Hid (∀ j,j<1->(w2.alloc (Obj.cells #[Value.slice B r d] 22)).cell? ((⟨w2.heap.size,0,none⟩:Addr).add j)=some (if 0=0 then Value.slice B r d else R 0)):=hid fun j hj=>by
     obtain rfl:j=0:=by omega
     rw [if_pos rfl]
     exact tbox2
    have s:Hid (∀ j,j<1->(if 0=0 then Value.slice B r d else R 0).oneCell'=true):=hid fun j hj=>by rw [if_pos rfl]; rfl
    have v:Hid (0+1<=maxLen):=hid (by unfold maxLen; omega)
    have u:Hid ((0+1)*24<=140737488355328):=hid (by omega)
    have K8:=hid (onS K2.out kb)
    have o:Hid (w1.heap.size<=(w2.alloc (Obj.cells #[Value.slice B r d] 22)).heap.size):=hid K8.out.size
    clear kb
    go_upto_region 6 with (first | (at_builtin; (refine zah _ rfl (.tmp 21) (.tmp 23) _ rfl w1.heap.size 22 i0 _ 1 24 Tryz.underlying25 qi0 qz0 qz1 qz2 rfl (by omega) _ 0 (fun k _=>if k=0 then Value.slice B r d else R k) rfl I.out ⟨w2.heap.size,0,none⟩ 1 rfl O.out s.out v.out u.out o.out ?_); intro v9 w9 o1 o2 o3))
    have z:=hid o1
    have K9:=hid (K8.out.grown o2 o.out fun q e=>(I.out.lt _ e).1)
    obtain ⟨g9,f9,c9,S,_,_,_,_,_⟩:=o1.form (by omega)
    subst S
    clear o1 o2 o3 I O s v u K8 o HO K2
    by_cases hci:c=0
    focus
     obtain rfl:n=0:=by omega
     obtain rfl:0=c:=by omega
     have E:Hid (Rd w9 w9.heap.size (some a) (0) 1 (fun k _=>R (0+k))):=hid fun k hk=>by
      obtain ⟨b,off,e1,hb,N⟩:=HR.out (0+k) (by omega)
      have kb:=onS K.out K9.out
      omega
     have s:Hid (∀ k,k<0->(R (0+k)).oneCell'=true):=hid fun k hk=>(D.out (0+k) (by omega)).one
     have v:Hid (0+1+(0)<=maxLen):=hid (by unfold maxLen; omega)
     have u:Hid ((0+1+(0))*24<=140737488355328):=hid (by omega)
     have o:Hid (w1.heap.size<=w9.heap.size):=hid K9.out.size
     go_wp2_with (first | (at_builtin; (refine zaD _ rfl (.tmp 25) (.tmp 28) _ rfl w1.heap.size 22 i0 _ 24 Tryz.underlying25 qi0 qz0 qz1 qz2 rfl g9 f9 (0+1) c9 (fun k=>if k=0 then Value.slice B r d else R k) rfl z.out (some a) (0) 0 (fun k=>R (0+k)) rfl E.out s.out v.out u.out o.out ?_); intro v10 w10 o1 o2))
     have l:=hid o1
     have F:=hid (K9.out.grown o2 o.out fun q e=>by
      injection e with e
      subst e
      exact (z.out.lt _ rfl).1)
     obtain ⟨A10,c10,y⟩:=o1.shape
     subst y
     clear o1 o2 E s v u o z K9
     go_wp2
     go_ret
     have J:=Own.capL l.out
     have m:(L.take 0 ++ x :: L.drop 0).length=0+1:=by
      rw [List.length_append,List.length_take,List.length_cons,List.length_drop,<-HN.out]
      omega
     have e10:0+1+(0)=0+1:=by omega
    rotate_left
    focus
     have E:Hid (Rd w9 w9.heap.size (some (a.add 0)) (n - 0) 1 (fun k _=>R (0+k))):=hid fun k hk=>by
      obtain ⟨b,off,e1,hb,N⟩:=HR.out (0+k) (by omega)
      have kb:=onS K.out K9.out
      refine ⟨b,off+0,by injection e1 with e1; subst e1; rfl,Nat.lt_of_lt_of_le hb kb.size,fun j hj=>?_⟩
      have h9:=(kb.cell (p:=⟨b,_,none⟩) hb).trans (N j hj)
      rw [show off+0+k*1+j=off+(0+k)*1+j by omega]
      exact h9
     have s:Hid (∀ k,k<n - 0->(R (0+k)).oneCell'=true):=hid fun k hk=>(D.out (0+k) (by omega)).one
     have v:Hid (0+1+(n - 0)<=maxLen):=hid (by unfold maxLen; omega)
     have u:Hid ((0+1+(n - 0))*24<=140737488355328):=hid (by omega)
     have o:Hid (w1.heap.size<=w9.heap.size):=hid K9.out.size
     go_wp2_with (first | (at_builtin; (refine zaD _ rfl (.tmp 25) (.tmp 28) _ rfl w1.heap.size 22 i0 _ 24 Tryz.underlying25 qi0 qz0 qz1 qz2 rfl g9 f9 (0+1) c9 (fun k=>if k=0 then Value.slice B r d else R k) rfl z.out (some (a.add 0)) (n - 0) (c - 0) (fun k=>R (0+k)) rfl E.out s.out v.out u.out o.out ?_); intro v10 w10 o1 o2))
     have l:=hid o1
     have F:=hid (K9.out.grown o2 o.out fun q e=>by
      injection e with e
      subst e
      exact (z.out.lt _ rfl).1)
     obtain ⟨A10,c10,y⟩:=o1.shape
     subst y
     clear o1 o2 E s v u o z K9
     go_wp2
     go_ret
     have J:=Own.capL l.out
     have m:(L.take 0 ++ x :: L.drop 0).length=n+1:=by
      rw [List.length_append,List.length_take,List.length_cons,List.length_drop,<-HN.out]
      omega
     have e10:0+1+(n - 0)=n+1:=by omega
    rotate_left
    all_goals
     refine ⟨onS K.out F.out,_,L.take 0 ++ x :: L.drop 0,rfl,⟨0,H.out,.inr ⟨V.out,rfl⟩⟩,by rw [m,HN.out]; exact Nat.le_refl _,⟨fun k=>if k<0+1 then (if k=0 then Value.slice B r d else R k) else R (0+(k - (0+1))),?_,?_⟩,.inr fun q e=>Nat.le_trans K.out.size (l.out.lt q e).1⟩
     ·rw [m]
      have h9:=l.out.mono (Nat.zero_le _)
      first | exact h9 | (rw [<-e10]; exact h9)
     ·rw [m]
      intro k hk
      have Q:∀ j,((L.take 0 ++ x :: L.drop 0).getD k []).getD j 0=(if k<0 then L.getD k [] else if k=0 then x else L.getD (k - 1) []).getD j 0:=fun j=>by rw [zbw (by rw [<-HN.out]; omega)]
      have kb:=onS K.out F.out
      have C:(fun j=>((L.take 0 ++ x :: L.drop 0).getD k []).getD j 0)=fun j=>(if k<0 then L.getD k [] else if k=0 then x else L.getD (k - 1) []).getD j 0:=funext Q
      rw [C]
      by_cases h1:k<0
      ·simp only [if_pos h1,if_pos (show k<0+1 by omega),if_neg (show ¬ k=0 by omega)]
       exact (D.out k (by omega)).on kb
      ·by_cases h2:k=0
       ·subst h2
        simp only [if_pos (Nat.lt_succ_self _),if_true,Nat.lt_irrefl,if_false]
        exact U.out.on kb
       ·simp only [if_neg (show ¬ k<0+1 by omega),if_neg h1,if_neg h2,show 0+(k - (0+1))=k - 1 by omega]
        exact (D.out (k - 1) (by omega)).on kb
   ·have ac:0<i:=by omega
    have a3:Hid (Rd (w1.alloc (Obj.cells #[] 22)) (w1.alloc (Obj.cells #[] 22)).heap.size (some a) i 1 (fun k _=>R k)):=hid fun k hk=>by
     obtain ⟨b,off,e1,hb,N⟩:=HR.out k (by omega)
     have kb:=onS K.out ((Below.refl w1.heap.size w1).alloc (Nat.le_refl _) (Obj.cells #[] 22))
     exact ⟨b,off,e1,Nat.lt_of_lt_of_le hb kb.size,fun j hj=>(kb.cell (p:=⟨b,_,none⟩) hb).trans (N j hj)⟩
    have a4:Hid (∀ k,k<i->∀ j,j<1->(R k).oneCell'=true):=hid fun k hk _ _=>(D.out k (by omega)).one
    have T:Hid (Below w1.heap.size w1 (w1.alloc (Obj.cells #[] 22))):=hid ((Below.refl _ _).alloc (Nat.le_refl _) _)
    have a2:Hid (i<=maxLen):=hid (by unfold maxLen; omega)
    have Z:Hid (i*24<=140737488355328):=hid (by omega)
    go_upto_region 5 with (first | (at_builtin; refine zak rfl (.tmp 16) (.tmp 19) _ rfl _ i0 _ 1 24 Tryz.underlying25 qi0 qz0 qz1 qz2 rfl (by omega) (some ⟨w1.heap.size,0,none⟩) rfl (some a) i c (fun k _=>R k) rfl a3.out (by omega) a4.out a2.out Z.out ?_; intro cp cur c1 c2 c3 c4))
    have HO:Hid (Own (World.drew (World.alloc (w1.alloc (Obj.cells #[] 22)) (Obj.cells cur 22))) w1.heap.size 22 1 (.slice (some ⟨(w1.alloc (Obj.cells #[] 22)).heap.size,0,none⟩) i cp) i (fun k _=>R k)):=hid (Own.new (w:=World.drew (w1.alloc (Obj.cells #[] 22))) T.out.size c1 c2 c3 c4)
    have K2:Hid (Below w1.heap.size w1 (World.drew (World.alloc (w1.alloc (Obj.cells #[] 22)) (Obj.cells cur 22)))):=hid (T.out.alloc T.out.size _).drew
    clear a3 a4 T a2 Z c1 c2 c3 c4
    obtain ⟨w2,M⟩:=exx (World.drew (World.alloc (w1.alloc (Obj.cells #[] 22)) (Obj.cells cur 22)))
    simp only [World.size_alloc] at HO
    rw [<-M] at HO K2 ⊢;clear M
    obtain ⟨g,hg⟩:=exx (w1.heap.size+1)
    rw [<-hg] at HO ⊢
    have a1:(i:Nat)<=1048576:=by omega
    have kb:=(Below.refl w2.heap.size w2).alloc (Nat.le_refl _) (Obj.cells #[Value.slice B r d] 22)
    have I:Hid (Own (w2.alloc (Obj.cells #[Value.slice B r d] 22)) w1.heap.size 22 1 (.slice (some ⟨g,0,none⟩) i cp) i (fun k _=>if k=i then Value.slice B r d else R k)):=hid ((HO.out.on kb).congr fun k hk _ _=>by rw [if_neg (by omega)])
    have O:Hid (∀ j,j<1->(w2.alloc (Obj.cells #[Value.slice B r d] 22)).cell? ((⟨w2.heap.size,0,none⟩:Addr).add j)=some (if i=i then Value.slice B r d else R i)):=hid fun j hj=>by
     obtain rfl:j=0:=by omega
     rw [if_pos rfl]
     exact tbox2
    have s:Hid (∀ j,j<1->(if i=i then Value.slice B r d else R i).oneCell'=true):=hid fun j hj=>by rw [if_pos rfl]; rfl
    have v:Hid (i+1<=maxLen):=hid (by unfold maxLen; omega)
    have u:Hid ((i+1)*24<=140737488355328):=hid (by omega)
    have K8:=hid (onS K2.out kb)
    have o:Hid (w1.heap.size<=(w2.alloc (Obj.cells #[Value.slice B r d] 22)).heap.size):=hid K8.out.size
    clear kb
    go_upto_region 6 with (first | (at_builtin; (refine zah _ rfl (.tmp 21) (.tmp 23) _ rfl w1.heap.size 22 i0 _ 1 24 Tryz.underlying25 qi0 qz0 qz1 qz2 rfl (by omega) _ i (fun k _=>if k=i then Value.slice B r d else R k) rfl I.out ⟨w2.heap.size,0,none⟩ 1 rfl O.out s.out v.out u.out o.out ?_); intro v9 w9 o1 o2 o3))
    have z:=hid o1
    have K9:=hid (K8.out.grown o2 o.out fun q e=>(I.out.lt _ e).1)
    obtain ⟨g9,f9,c9,S,_,_,_,_,_⟩:=o1.form (by omega)
    subst S
    clear o1 o2 o3 I O s v u K8 o HO K2
    by_cases hci:c=i
    ·obtain rfl:n=i:=by omega
     obtain rfl:n=c:=by omega
     have E:Hid (Rd w9 w9.heap.size (some a) (0) 1 (fun k _=>R (n+k))):=hid fun k hk=>by
      obtain ⟨b,off,e1,hb,N⟩:=HR.out (n+k) (by omega)
      have kb:=onS K.out K9.out
      omega
     have s:Hid (∀ k,k<0->(R (n+k)).oneCell'=true):=hid fun k hk=>(D.out (n+k) (by omega)).one
     have v:Hid (n+1+(0)<=maxLen):=hid (by unfold maxLen; omega)
     have u:Hid ((n+1+(0))*24<=140737488355328):=hid (by omega)
     have o:Hid (w1.heap.size<=w9.heap.size):=hid K9.out.size
     go_wp2_with (first | (at_builtin; (refine zaD _ rfl (.tmp 25) (.tmp 28) _ rfl w1.heap.size 22 i0 _ 24 Tryz.underlying25 qi0 qz0 qz1 qz2 rfl g9 f9 (n+1) c9 (fun k=>if k=n then Value.slice B r d else R k) rfl z.out (some a) (0) 0 (fun k=>R (n+k)) rfl E.out s.out v.out u.out o.out ?_); intro v10 w10 o1 o2))
     have l:=hid o1
     have F:=hid (K9.out.grown o2 o.out fun q e=>by
      injection e with e
      subst e
      exact (z.out.lt _ rfl).1)
     obtain ⟨A10,c10,y⟩:=o1.shape
     subst y
     clear o1 o2 E s v u o z K9
     go_wp2
     go_ret
     have J:=Own.capL l.out
     have m:(L.take n ++ x :: L.drop n).length=n+1:=by
      rw [List.length_append,List.length_take,List.length_cons,List.length_drop,<-HN.out]
      omega
     have e10:n+1+(0)=n+1:=by omega
     refine ⟨onS K.out F.out,_,L.take n ++ x :: L.drop n,rfl,⟨n,H.out,.inr ⟨V.out,rfl⟩⟩,by rw [m,HN.out]; exact Nat.le_refl _,⟨fun k=>if k<n+1 then (if k=n then Value.slice B r d else R k) else R (n+(k - (n+1))),?_,?_⟩,.inr fun q e=>Nat.le_trans K.out.size (l.out.lt q e).1⟩
     ·rw [m]
      have h9:=l.out.mono (Nat.zero_le _)
      first | exact h9 | (rw [<-e10]; exact h9)
     ·rw [m]
      intro k hk
      have Q:∀ j,((L.take n ++ x :: L.drop n).getD k []).getD j 0=(if k<n then L.getD k [] else if k=n then x else L.getD (k - 1) []).getD j 0:=fun j=>by rw [zbw (by rw [<-HN.out]; omega)]
      have kb:=onS K.out F.out
      have C:(fun j=>((L.take n ++ x :: L.drop n).getD k []).getD j 0)=fun j=>(if k<n then L.getD k [] else if k=n then x else L.getD (k - 1) []).getD j 0:=funext Q
      rw [C]
      by_cases h1:k<n
      ·simp only [if_pos h1,if_pos (show k<n+1 by omega),if_neg (show ¬ k=n by omega)]
       exact (D.out k (by omega)).on kb
      ·by_cases h2:k=n
       ·subst h2
        simp only [if_pos (Nat.lt_succ_self _),if_true,Nat.lt_irrefl,if_false]
        exact U.out.on kb
       ·simp only [if_neg (show ¬ k<n+1 by omega),if_neg h1,if_neg h2,show n+(k - (n+1))=k - 1 by omega]
        exact (D.out (k - 1) (by omega)).on kb
    ·have E:Hid (Rd w9 w9.heap.size (some (a.add i)) (n - i) 1 (fun k _=>R (i+k))):=hid fun k hk=>by
      obtain ⟨b,off,e1,hb,N⟩:=HR.out (i+k) (by omega)
      have kb:=onS K.out K9.out
      refine ⟨b,off+i,by injection e1 with e1; subst e1; unfold Addr.add; simp; omega,Nat.lt_of_lt_of_le hb kb.size,fun j hj=>?_⟩
      have h9:=(kb.cell (p:=⟨b,_,none⟩) hb).trans (N j hj)
      rw [show off+i+k*1+j=off+(i+k)*1+j by omega]
      exact h9
     have s:Hid (∀ k,k<n - i->(R (i+k)).oneCell'=true):=hid fun k hk=>(D.out (i+k) (by omega)).one
     have v:Hid (i+1+(n - i)<=maxLen):=hid (by unfold maxLen; omega)
     have u:Hid ((i+1+(n - i))*24<=140737488355328):=hid (by omega)
     have o:Hid (w1.heap.size<=w9.heap.size):=hid K9.out.size
     go_wp2_with (first | (at_builtin; (refine zaD _ rfl (.tmp 25) (.tmp 28) _ rfl w1.heap.size 22 i0 _ 24 Tryz.underlying25 qi0 qz0 qz1 qz2 rfl g9 f9 (i+1) c9 (fun k=>if k=i then Value.slice B r d else R k) rfl z.out (some (a.add i)) (n - i) (c - i) (fun k=>R (i+k)) rfl E.out s.out v.out u.out o.out ?_); intro v10 w10 o1 o2))
     have l:=hid o1
     have F:=hid (K9.out.grown o2 o.out fun q e=>by
      injection e with e
      subst e
      exact (z.out.lt _ rfl).1)
     obtain ⟨A10,c10,y⟩:=o1.shape
     subst y
     clear o1 o2 E s v u o z K9
     go_wp2
     go_ret
     have J:=Own.capL l.out
     have m:(L.take i ++ x :: L.drop i).length=n+1:=by
      rw [List.length_append,List.length_take,List.length_cons,List.length_drop,<-HN.out]
      omega
     have e10:i+1+(n - i)=n+1:=by omega
     refine ⟨onS K.out F.out,_,L.take i ++ x :: L.drop i,rfl,⟨i,H.out,.inr ⟨V.out,rfl⟩⟩,by rw [m,HN.out]; exact Nat.le_refl _,⟨fun k=>if k<i+1 then (if k=i then Value.slice B r d else R k) else R (i+(k - (i+1))),?_,?_⟩,.inr fun q e=>Nat.le_trans K.out.size (l.out.lt q e).1⟩
     ·rw [m]
      have h9:=l.out.mono (Nat.zero_le _)
      first | exact h9 | (rw [<-e10]; exact h9)
     ·rw [m]
      intro k hk
      have Q:∀ j,((L.take i ++ x :: L.drop i).getD k []).getD j 0=(if k<i then L.getD k [] else if k=i then x else L.getD (k - 1) []).getD j 0:=fun j=>by rw [zbw (by rw [<-HN.out]; omega)]
      have kb:=onS K.out F.out
      have C:(fun j=>((L.take i ++ x :: L.drop i).getD k []).getD j 0)=fun j=>(if k<i then L.getD k [] else if k=i then x else L.getD (k - 1) []).getD j 0:=funext Q
      rw [C]
      by_cases h1:k<i
      ·simp only [if_pos h1,if_pos (show k<i+1 by omega),if_neg (show ¬ k=i by omega)]
       exact (D.out k (by omega)).on kb
      ·by_cases h2:k=i
       ·subst h2
        simp only [if_pos (Nat.lt_succ_self _),if_true,Nat.lt_irrefl,if_false]
        exact U.out.on kb
       ·simp only [if_neg (show ¬ k<i+1 by omega),if_neg h1,if_neg h2,show i+(k - (i+1))=k - 1 by omega]
        exact (D.out (k - 1) (by omega)).on kb
theorem zld (r:Nat) (x y:List Int):ltL r x y∨ltL r y x∨∀ j,j<r->x.getD j 0=y.getD j 0:=by
 induction r with
 | zero=>exact .inr (.inr fun j hj=>absurd hj (by omega))
 | succ r ih =>
  rcases ih with ⟨i,hi,h1,h2⟩ | ⟨i,hi,h1,h2⟩ | h
  ·exact .inl ⟨i,by omega,h1,h2⟩
  ·exact .inr (.inl ⟨i,by omega,h1,h2⟩)
  ·rcases Int.lt_trichotomy (x.getD r 0) (y.getD r 0) with e | e | e
   ·exact .inl ⟨r,by omega,h,e⟩
   ·exact .inr (.inr fun j hj=>by
     by_cases e2:j=r
     ·rw [e2]; exact e
     ·exact h j (by omega))
   ·exact .inr (.inl ⟨r,by omega,fun t ht=>(h t ht).symm,e⟩)
theorem zh7 {r:Nat} {x y:List Int} (hx:x.length=r) (hy:y.length=r) (h:∀ j,j<r->x.getD j 0=y.getD j 0):x=y:=by
 refine List.ext_getElem (by omega) fun i h1 h2=>?_
 have:=h i (by omega)
 rw [List.getD_eq_getElem?_getD,List.getD_eq_getElem?_getD,List.getElem?_eq_getElem h1,List.getElem?_eq_getElem h2] at this
 exact this
structure SetL (r:Nat) (L:List (List Int)) (S:List Int->Prop):Prop where
 ord:∀ p q,p<q->q<L.length->ltL r (L.getD p []) (L.getD q [])
 mem:∀ p,p<L.length->S (L.getD p [])
 all:∀ l,S l->∃ p,p<L.length/\L.getD p []=l
 len:∀ l,S l->l.length=r
theorem SetL.nil (r:Nat):SetL r [] (fun _=>False):=⟨fun p q _ h=>absurd h (by simp),fun p h=>absurd h (by simp),fun _ h=>h.elim,fun _ h=>h.elim⟩
theorem SetL.one (r:Nat) (x:List Int) (hx:x.length=r):SetL r [x] (fun l=>l=x) :=
 ⟨fun p q h1 h2=>by simp at h2; omega,fun p h=>(by
  have e:p=0:=by simpa using h
  rw [e]
  rfl),fun l h=>⟨0,by simp,h.symm⟩,fun l h=>by rw [h,hx]⟩
theorem SetL.congr {r:Nat} {L:List (List Int)} {S S':List Int->Prop} (h:SetL r L S) (e:∀ l,S l↔S' l):SetL r L S' :=
 ⟨h.ord,fun p hp=>(e _).1 (h.mem p hp),fun l hl=>h.all l ((e l).2 hl),fun l hl=>h.len l ((e l).2 hl)⟩
theorem SetL.pos {r:Nat} {L:List (List Int)} {S:List Int->Prop} (h:SetL r L S) {p:Nat} (hp:p<L.length):IsPos r L (L.getD p []) p :=
 ⟨by omega,fun j hj=>h.ord j p hj hp,fun _=>ltL.irr⟩
theorem SetL.ins {r:Nat} {L L':List (List Int)} {S:List Int->Prop} {x:List Int} (h:SetL r L S) (hx:x.length=r) (hi:InsR r L x L'):SetL r L' (fun l=>S l∨l=x):=by
 obtain ⟨i,hp,⟨⟨h1,h2⟩,rfl⟩ | ⟨c,rfl⟩⟩:=hi
 ·have b:L'.getD i []=x:=zh7 (h.len _ (h.mem i h1)) hx h2
  refine h.congr fun l=>⟨.inl,?_⟩
  rintro (hl | rfl)
  ·exact hl
  ·rw [<-b]; exact h.mem i h1
 have a:(L.take i ++ x :: L.drop i).length=L.length+1:=by
  have:=hp.1
  rw [List.length_append,List.length_take,List.length_cons,List.length_drop]
  omega
 have d:∀ j,i<=j->j<L.length->ltL r x (L.getD j []):=fun j hj hjl=>by
  have h1:ltL r x (L.getD i []):=by
   rcases zld r x (L.getD i []) with h1 | h1 | h1
   ·exact h1
   ·exact absurd h1 (hp.2.2 (by omega))
   ·exact absurd ⟨by omega,fun j hj=>(h1 j hj).symm⟩ c
  by_cases e:i=j
  ·rw [<-e]; exact h1
  ·exact h1.trans (h.ord i j (by omega) hjl)
 refine ⟨fun p q hpq hq=>?_,fun p hpl=>?_,fun l hl=>?_,fun l hl=>?_⟩
 rotate_left
 ·rw [a] at hpl
  rw [zbw hp.1]
  by_cases b1:p<i
  ·rw [if_pos b1]; exact .inl (h.mem p (by have:=hp.1; omega))
  rw [if_neg b1]
  by_cases b2:p=i
  ·rw [if_pos b2]; exact .inr rfl
  ·rw [if_neg b2]; exact .inl (h.mem (p - 1) (by omega))
 ·rcases hl with hl | rfl
  ·obtain ⟨p,h1,h2⟩:=h.all l hl
   by_cases b1:p<i
   ·exact ⟨p,by omega,by rw [zbw hp.1,if_pos b1]; exact h2⟩
   ·exact ⟨p+1,by omega,by rw [zbw hp.1,if_neg (by omega),if_neg (by omega)]; exact h2⟩
  ·exact ⟨i,by have:=hp.1; omega,by rw [zbw hp.1,if_neg (Nat.lt_irrefl _),if_pos rfl]⟩
 ·rcases hl with hl | rfl
  ·exact h.len l hl
  ·exact hx
 rw [a] at hq;rw [zbw hp.1,zbw hp.1]
 by_cases a1:q<i
 ·rw [if_pos (by omega),if_pos a1]; exact h.ord p q hpq (by have:=hp.1; omega)
 rw [if_neg a1]
 by_cases a2:q=i
 ·rw [if_pos a2,if_pos (by omega)]; exact hp.2.1 p (by omega)
 rw [if_neg a2]
 by_cases b1:p<i
 ·rw [if_pos b1]; exact h.ord p (q - 1) (by omega) (by omega)
 rw [if_neg b1]
 by_cases b2:p=i
 ·rw [if_pos b2]; exact d (q - 1) (by omega) (by omega)
 ·rw [if_neg b2]; exact h.ord (p - 1) (q - 1) (by omega) (by omega)
noncomputable def posOf (r:Nat) (L:List (List Int)) (x:List Int):Nat:=by
 classical exact if h:∃ i,IsPos r L x i then h.choose else 0
theorem zeg {r:Nat} {L:List (List Int)} {x:List Int} {i:Nat} (h:IsPos r L x i):posOf r L x=i:=by
 unfold posOf
 have h2:∃ i,IsPos r L x i:=⟨i,h⟩
 rw [dif_pos h2]
 exact h2.choose_spec.unique h
theorem SetL.posOf_lt {r:Nat} {L:List (List Int)} {S:List Int->Prop} (h:SetL r L S) {x:List Int} (hx:S x):posOf r L x<L.length/\L.getD (posOf r L x) []=x:=by
 obtain ⟨p,h1,rfl⟩:=h.all x hx
 rw [zeg (h.pos h1)]
 exact ⟨h1,rfl⟩
theorem SetL.posOf_inj {r:Nat} {L:List (List Int)} {S:List Int->Prop} (h:SetL r L S) {x y:List Int} (hx:S x) (hy:S y) (e:posOf r L x=posOf r L y):x=y:=by
 rw [<-(h.posOf_lt hx).2,e,(h.posOf_lt hy).2]
def syP (P M:Nat) (m:Nat->Nat) (wd:Nat->Nat) (H:Nat->Nat->Nat):Nat->Nat->Nat
 | 0,_=>0
 | i+1,k=>atF P M m (wd i) (syP P M m wd H i) (fun k=>H k i) k
def keyS (r:Nat) (s:Nat->Nat):List Int:=(List.range r).map fun k=>((s k:Nat):Int)
theorem zeh (r:Nat) (s:Nat->Nat):(keyS r s).length=r:=by simp [keyS]
theorem zbS {r:Nat} {s:Nat->Nat} {k:Nat} (hk:k<r):(keyS r s).getD k 0=((s k:Nat):Int):=by
 rw [List.getD_eq_getElem?_getD,keyS,List.getElem?_map,List.getElem?_range hk]
 rfl
theorem zh8 {r:Nat} {s s':Nat->Nat} (h:keyS r s=keyS r s') {k:Nat} (hk:k<r):s k=s' k:=by
 have h1:=zbS (s:=s) hk
 rw [h,zbS hk] at h1
 omega
theorem zdt {r:Nat} {s s':Nat->Nat} (h:∀ k,k<r->s k=s' k):keyS r s=keyS r s' :=
 zh7 (zeh _ _) (zeh _ _) fun j hj=>by rw [zbS hj,zbS hj,h j hj]
structure FsRel (r mw:Nat) (key:Nat->Nat->List Int) (wd:Nat->Nat->Nat) (i:Nat) (St Tr:Nat->List (List Int)):Prop where
 st:∀ j,j<=i->SetL r (St j) (fun l=>∃ t,t<mw/\l=key t j)
 tr:∀ j,j<i->SetL 3 (Tr j) (fun l=>∃ t,t<mw/\l=[((posOf r (St j) (key t j):Nat):Int),((wd t j:Nat):Int),((posOf r (St (j+1)) (key t (j+1)):Nat):Int)])
def fsT (N:Nat) (St Tr:Nat->List (List Int)):Trel :=
 ⟨N+1,fun i=>((St i).length:Nat),N,fun i=>(Tr i).length,fun i j=>((Tr i).getD j []).getD 0 0,fun i j=>((Tr i).getD j []).getD 1 0,fun i j=>((Tr i).getD j []).getD 2 0⟩
theorem zh9 {P M:Nat} {m wd:Nat->Nat} {H:Nat->Nat->Nat} (hL:FieldLaws (P ^ M) (addF P M) (mulF P M m)) (hw:∀ j,wd j<P ^ M) {k:Nat}:∀ i,syP P M m wd H i k=dotN (addF P M) (mulF P M m) wd (H k) i
 | 0=>rfl
 | i+1=>by
  have ih:=zh9 (H:=H) hL hw (k:=k) i
  show atF P M m (wd i) (syP P M m wd H i) (fun k=>H k i) k=addF P M (dotN (addF P M) (mulF P M m) wd (H k) i) (mulF P M m (wd i) (H k i))
  rw [zkT hL (hw i) (by rw [ih]; exact zeH hL _ _ _),ih]
theorem zle {P M:Nat} {m wd:Nat->Nat} {H:Nat->Nat->Nat} (hL:FieldLaws (P ^ M) (addF P M) (mulF P M m)) (hw:∀ j,wd j<P ^ M) (i k:Nat):syP P M m wd H i k<P ^ M:=by
 rw [zh9 hL hw]
 exact zeH hL _ _ _
theorem zlf {r mw N:Nat} {key:Nat->Nat->List Int} {wd:Nat->Nat->Nat} {St Tr:Nat->List (List Int)} (h:FsRel r mw key wd N St Tr) (hst:∀ i,i<N->∀ t t',t<mw->t'<mw->key t i=key t' i->wd t i=wd t' i->key t (i+1)=key t' (i+1)) :
  Cov (fsT N St Tr) mw wd (fun t i=>posOf r (St i) (key t i)) where
 lt i hi t ht:=by
  have:=((h.st i hi).posOf_lt (x:=key t i) ⟨t,ht,rfl⟩).1
  show ((posOf r (St i) (key t i):Nat):Int)<(((St i).length:Nat):Int)
  omega
 onto i hi v hv:=by
  have hv:(v:Int)<(((St i).length:Nat):Int):=hv
  have a:v<(St i).length:=by omega
  obtain ⟨t,ht,e⟩:=(h.st i hi).mem v a
  exact ⟨t,ht,by show posOf r (St i) (key t i)=v; rw [<-e]; exact zeg ((h.st i hi).pos a)⟩
 out i hi t ht:=by
  obtain ⟨p,hp,e⟩:=(h.tr i hi).all _ ⟨t,ht,rfl⟩
  refine ⟨p,hp,?_,?_,?_⟩
  ·show ((Tr i).getD p []).getD 0 0=_
   rw [e]
   rfl
  ·show ((Tr i).getD p []).getD 1 0=_
   rw [e]
   rfl
  ·show ((Tr i).getD p []).getD 2 0=_
   rw [e]
   rfl
 inn i hi j hj:=by
  obtain ⟨t,ht,e⟩:=(h.tr i hi).mem j hj
  refine ⟨t,ht,?_,?_,?_⟩
  ·show ((Tr i).getD j []).getD 0 0=_
   rw [e]
   rfl
  ·show ((Tr i).getD j []).getD 1 0=_
   rw [e]
   rfl
  ·show ((Tr i).getD j []).getD 2 0=_
   rw [e]
   rfl
 srt i hi p q hpq hq:=by
  have hi:i<N:=hi
  have d:q<(Tr i).length:=hq
  obtain ⟨t,ht,e⟩:=(h.tr i hi).mem p (by omega)
  obtain ⟨t',c,e'⟩:=(h.tr i hi).mem q d
  obtain ⟨k,hk,h1,h2⟩:=(h.tr i hi).ord p q hpq d
  show ((Tr i).getD p []).getD 0 0<((Tr i).getD q []).getD 0 0∨((Tr i).getD p []).getD 0 0=((Tr i).getD q []).getD 0 0/\((Tr i).getD p []).getD 1 0<((Tr i).getD q []).getD 1 0
  match k,hk with
  | 0,_=>exact .inl h2
  | 1,_=>exact .inr ⟨h1 0 (by omega),h2⟩
  | 2,_ =>
   exfalso
   have a0:=h1 0 (by omega)
   have a1:=h1 1 (by omega)
   rw [e,e'] at a0 a1 h2
   have a0:((posOf r (St i) (key t i):Nat):Int)=((posOf r (St i) (key t' i):Nat):Int):=a0
   have a1:((wd t i:Nat):Int)=((wd t' i:Nat):Int):=a1
   have a2:((posOf r (St (i+1)) (key t (i+1)):Nat):Int)<((posOf r (St (i+1)) (key t' (i+1)):Nat):Int):=h2
   have b:=(h.st i (by omega)).posOf_inj (x:=key t i) (y:=key t' i) ⟨t,ht,rfl⟩ ⟨t',c,rfl⟩ (by omega)
   rw [hst i hi t t' ht c b (by omega)] at a2
   omega
theorem zlv {P M n N r:Nat} {m:Nat->Nat} {pv:Nat->Nat} {R V H:Nat->Nat->Nat} {T:Trel} {St Tr:Nat->List (List Int)} (hL:FieldLaws (P ^ M) (addF P M) (mulF P M m)) (hneg:∀ x,x<P ^ M->negF P M x<P ^ M/\addF P M x (negF P M x)=0)
  (hV:RrefN (P ^ M) n N V) (hp:NullRel (P ^ M) (addF P M) (mulF P M m) (negF P M) n N V r H) (hsp:SameSp (P ^ M) (addF P M) (mulF P M m) N n n V R) (h:SpanF (P ^ M) n N pv R) (hdis:∀ i j,i<j->j<n->lE (R i) N≠lE (R j) N)
  (hM:MinT (P ^ M) (addF P M) (mulF P M m) n N pv R T) (hP:T.Proper)
  (hrel:FsRel r ((P ^ M) ^ n) (fun t i=>keyS r (syP P M m (spE (addF P M) (mulF P M m) V (msgD (P ^ M) n t) n) H i)) (fun t=>spE (addF P M) (mulF P M m) V (msgD (P ^ M) n t) n) N St Tr) :
  (fsT N St Tr).Proper/\(∀ i,i<=N->(fsT N St Tr).W i=T.W i)/\(∀ i,i<N->(fsT N St Tr).el i=T.el i)/\∀ z,IsRen (fsT N St Tr) z->IsRen T z:=by
 have hn:=hM.nN
 subst hn
 obtain ⟨C,hC,hW⟩:=MinT.coefs hL hsp
 have b:=fun {i:Nat} (hi:i<=T.n) t t'=>MinT.ker hL hneg hV hp hsp h hdis hC hW hi t t'
 have hT:=hM.cov hL h hsp hC hW
 have a:∀ t i k,syP P M m (spE (addF P M) (mulF P M m) V (msgD (P ^ M) n t) n) H i k=dotN (addF P M) (mulF P M m) (spE (addF P M) (mulF P M m) V (msgD (P ^ M) n t) n) (H k) i:=fun t i k=>zh9 hL (fun j=>za6 hL _ _ _) i
 have hU:=zlf hrel fun i hi t t' _ _ e1 e2=>zdt fun k hk=>by
  have e3:=zh8 e1 hk
  rw [a,a] at e3 ⊢
  show addF P M (dotN _ _ _ (H k) i) (mulF P M m (spE _ _ V (msgD (P ^ M) n t) n i) (H k i))=addF P M (dotN _ _ _ (H k) i) (mulF P M m (spE _ _ V (msgD (P ^ M) n t') n i) (H k i))
  rw [e3,e2]
 have hk:∀ i,i<=T.n->∀ t t',t<(P ^ M) ^ n->t'<(P ^ M) ^ n->(posOf r (St i) (keyS r (syP P M m (spE (addF P M) (mulF P M m) V (msgD (P ^ M) n t) n) H i))=posOf r (St i) (keyS r (syP P M m (spE (addF P M) (mulF P M m) V (msgD (P ^ M) n t') n) H i)) ↔
   packB (P ^ M) (actA pv R T.n i) (C t) n=packB (P ^ M) (actA pv R T.n i) (C t') n):=fun i hi t t' ht ht'=>by
  rw [<-b hi]
  constructor
  ·intro e k hk
   have e2:=(hrel.st i hi).posOf_inj (x:=keyS r (syP P M m (spE (addF P M) (mulF P M m) V (msgD (P ^ M) n t) n) H i)) (y:=keyS r (syP P M m (spE (addF P M) (mulF P M m) V (msgD (P ^ M) n t') n) H i)) ⟨t,ht,rfl⟩ ⟨t',ht',rfl⟩ e
   have e3:=zh8 e2 hk
   rw [a,a] at e3
   exact e3
  ·intro e
   have e2:keyS r (syP P M m (spE (addF P M) (mulF P M m) V (msgD (P ^ M) n t) n) H i)=keyS r (syP P M m (spE (addF P M) (mulF P M m) V (msgD (P ^ M) n t') n) H i):=zdt fun k hk=>by
    rw [a,a]
    exact e k hk
   rw [e2]
 obtain ⟨hw,he,c⟩:=Cov.proper hP hT hU rfl hk (by show T.n+1=T.nw; rw [hP.shape.nw]) (fun i _=>by show (0:Int)<=((St i).length:Nat); omega)
 exact ⟨c,hw,he,fun z hz=>Cov.ren hP c hT hU rfl hk hw he hz⟩
theorem zlw {q n N r:Nat} {add mul:Nat->Nat->Nat} {neg:Nat->Nat} {pv:Nat->Nat} {R V H:Nat->Nat->Nat} {T:Trel} {y:Nat->Nat->Int × Int × Int} (hL:FieldLaws q add mul) (hneg:∀ x,x<q->neg x<q/\add x (neg x)=0)
  (hV:RrefN q n N V) (hp:NullRel q add mul neg n N V r H) (hsp:SameSp q add mul N n n V R) (h:SpanF q n N pv R) (hdis:∀ i j,i<j->j<n->lE (R i) N≠lE (R j) N)
  (hM:MinT q add mul n N pv R T) (hP:T.Proper) (hy:IsRen T y):IsTr q r add mul H (T.re y) n:=by
 have hn:=hM.nN
 subst hn
 obtain ⟨C,hC,hW⟩:=MinT.coefs hL hsp
 have hT:=hM.cov hL h hsp hC hW
 exact Cov.isTr (T:=T.re y) hL hneg hV hp (hy.proper hP) (hy.cov hP hT) fun i hi t t' ht ht' e k hk=>by
  have hi:i<=T.n:=hi
  have h1:=hT.lt i hi t ht
  have h2:=hT.lt i hi t' ht'
  exact (MinT.ker hL hneg hV hp hsp h hdis hC hW hi t t').2 (hP.nm_inj hi _ _ (by omega) (by omega) e) k hk
end Go.Proofs.YtgekjfpapmlndaaGreat