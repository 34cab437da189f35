/- Merged texts of a claim: MargMath, MargLaw. -/
import Derived.Test.YtgekjfpapmlndaaGreatTZ16
namespace Go.Proofs.YtgekjfpapmlndaaGreat
set_option maxRecDepth 100000
set_option maxHeartbeats 32000000
open KA KB KC KD KE KF
theorem zdS (a b:Int):capI a b<=a+b:=by
 unfold capI
 split <;> omega
theorem zdi {b:Int} (h:0<=b):capI 4611686018427387904 b=4611686018427387904:=by
 unfold capI
 split <;> omega
theorem zeK {a:Int} (h:0<=a):capI a 4611686018427387904=4611686018427387904:=by
 unfold capI
 split <;> omega
def Trel.onE (T:Trel) (nd x:Nat->Nat) (i:Nat):Prop:=∃ j,j<T.el i/\T.fr i j=(nd i:Nat)/\T.lb i j=(x i:Nat)/\T.to i j=(nd (i+1):Nat)
section
variable {T:Trel} {y:Nat->Nat->Int} {C:Nat->Nat->Int}
theorem Trel.fwE_le {prev:Nat->Int} {i:Nat} {v:Nat}:∀ j q,q<j->(T.to i q).toNat=v->T.fwE y prev i j v<=capI (prev (T.fr i q).toNat) (y i q):=by
 intro j
 induction j with
 | zero=>intro q hq; omega
 | succ j ih =>
  intro q hq hf
  show (if (T.to i j).toNat=v then _ else _)<=_
  by_cases e:q=j
  ·subst e
   rw [if_pos hf]
   exact Int.min_le_right _ _
  ·have:=ih q (by omega) hf
   split
   ·exact Int.le_trans (Int.min_le_left _ _) this
   ·exact this
theorem Trel.fwE_att {prev:Nat->Int} {i:Nat} {v:Nat}:∀ j,T.fwE y prev i j v=4611686018427387904∨∃ q,q<j/\(T.to i q).toNat=v/\T.fwE y prev i j v=capI (prev (T.fr i q).toNat) (y i q):=by
 intro j
 induction j with
 | zero=>exact .inl rfl
 | succ j ih =>
  have e:T.fwE y prev i (j+1) v=if (T.to i j).toNat=v then min (T.fwE y prev i j v) (capI (prev (T.fr i j).toNat) (y i j)) else T.fwE y prev i j v:=rfl
  rw [e]
  by_cases h:(T.to i j).toNat=v
  ·rw [if_pos h]
   by_cases h2:T.fwE y prev i j v<=capI (prev (T.fr i j).toNat) (y i j)
   ·rw [Int.min_eq_left h2]
    rcases ih with h3 | ⟨q,h3,h4,h5⟩
    ·exact .inl h3
    ·exact .inr ⟨q,by omega,h4,h5⟩
   ·rw [Int.min_eq_right (by omega)]
    exact .inr ⟨j,by omega,h,rfl⟩
  ·rw [if_neg h]
   rcases ih with h3 | ⟨q,h3,h4,h5⟩
   ·exact .inl h3
   ·exact .inr ⟨q,by omega,h4,h5⟩
theorem Trel.mrE_le {i:Nat} {a:Nat}:∀ j q,q<j->(T.lb i q).toNat=a->T.mrE y i j a<=T.thr y i q:=by
 intro j
 induction j with
 | zero=>intro q hq; omega
 | succ j ih =>
  intro q hq hf
  show (if (T.lb i j).toNat=a then _ else _)<=_
  by_cases e:q=j
  ·subst e
   rw [if_pos hf]
   exact Int.min_le_right _ _
  ·have:=ih q (by omega) hf
   split
   ·exact Int.le_trans (Int.min_le_left _ _) this
   ·exact this
theorem Trel.mrE_att {i:Nat} {a:Nat}:∀ j,T.mrE y i j a=4611686018427387904∨∃ q,q<j/\(T.lb i q).toNat=a/\T.mrE y i j a=T.thr y i q:=by
 intro j
 induction j with
 | zero=>exact .inl rfl
 | succ j ih =>
  have e:T.mrE y i (j+1) a=if (T.lb i j).toNat=a then min (T.mrE y i j a) (T.thr y i j) else T.mrE y i j a:=rfl
  rw [e]
  by_cases h:(T.lb i j).toNat=a
  ·rw [if_pos h]
   by_cases h2:T.mrE y i j a<=T.thr y i j
   ·rw [Int.min_eq_left h2]
    rcases ih with h3 | ⟨q,h3,h4,h5⟩
    ·exact .inl h3
    ·exact .inr ⟨q,by omega,h4,h5⟩
   ·rw [Int.min_eq_right (by omega)]
    exact .inr ⟨j,by omega,h,rfl⟩
  ·rw [if_neg h]
   rcases ih with h3 | ⟨q,h3,h4,h5⟩
   ·exact .inl h3
   ·exact .inr ⟨q,by omega,h4,h5⟩
theorem Trel.fw_le {nd x:Nat->Nat} (h0:nd 0=0):∀ i,i<=T.n->(∀ t,t<i->T.onE nd x t)->T.fwI (T.yOf C) i (nd i)<=costW C x i:=by
 intro i
 induction i with
 | zero =>
  intro _ _
  rw [h0]
  show (if 0=0 then (0:Int) else _)<=0
  rw [if_pos rfl]
  omega
 | succ i ih =>
  intro hi hp
  obtain ⟨j,hj,h1,h2,h3⟩:=hp i (by omega)
  have k1:=ih (by omega) fun t ht=>hp t (by omega)
  have k2:=Trel.fwE_le (T:=T) (y:=T.yOf C) (prev:=T.fwI (T.yOf C) i) (i:=i) (v:=nd (i+1)) (T.el i) j hj (by rw [h3,Int.toNat_natCast])
  rw [h1,Int.toNat_natCast] at k2
  have k3:T.yOf C i j=C i (x i):=by unfold Trel.yOf; rw [h2,Int.toNat_natCast]
  have k4:=zdS (T.fwI (T.yOf C) i (nd i)) (T.yOf C i j)
  have k5:costW C x (i+1)=costW C x i+C i (x i):=rfl
  show T.fwE (T.yOf C) (T.fwI (T.yOf C) i) i (T.el i) (nd (i+1))<=_
  omega
theorem Trel.fw_att (hP:T.Proper) (hy:Costs T (T.yOf C)):∀ i,i<=T.n->∀ v,T.fwI (T.yOf C) i v=4611686018427387904 ∨
  ∃ nd x,nd 0=0/\nd i=v/\(∀ t,t<i->T.onE nd x t)/\T.fwI (T.yOf C) i v=costW C x i/\T.fwI (T.yOf C) i v<=(i:Int)*2147483648:=by
 intro i
 induction i with
 | zero =>
  intro _ v
  by_cases e:v=0
  ·subst e
   exact .inr ⟨fun _=>0,fun _=>0,rfl,rfl,fun t ht=>absurd ht (by omega),rfl,by show (0:Int)<=_; omega⟩
  ·exact .inl (if_neg e)
 | succ i ih =>
  intro hi v
  have n64:=hP.shape.n64
  rcases Trel.fwE_att (T:=T) (y:=T.yOf C) (prev:=T.fwI (T.yOf C) i) (i:=i) (v:=v) (T.el i) with h | ⟨q,hq,hv,he⟩
  ·exact .inl h
  ·have a:=hy i (by omega) q hq
   rcases ih (by omega) (T.fr i q).toNat with h | ⟨nd,x,h0,h1,h2,h3,h4⟩
   ·refine .inl ?_
    show T.fwE (T.yOf C) (T.fwI (T.yOf C) i) i (T.el i) v=_
    rw [he,h,zdi a.1]
   ·refine .inr ⟨fun t=>if t<=i then nd t else v,fun t=>if t<i then x t else (T.lb i q).toNat,?_,?_,?_,?_,?_⟩
    ·exact (if_pos (Nat.zero_le _)).trans h0
    ·exact if_neg (by omega)
    ·intro t ht
     by_cases e:t=i
     ·subst e
      refine ⟨q,hq,?_,?_,?_⟩
      ·show _=(((if t<=t then nd t else v:Nat)):Int)
       rw [if_pos (Nat.le_refl _),h1,(hP.frL (by omega) hq).2]
      ·show _=(((if t<t then x t else (T.lb t q).toNat:Nat)):Int)
       rw [if_neg (Nat.lt_irrefl _),(hP.lbL (by omega) hq).2]
      ·show _=(((if t+1<=t then nd (t+1) else v:Nat)):Int)
       rw [if_neg (by omega),<-hv,(hP.toL (by omega) hq).2]
     ·obtain ⟨j,hj,k1,k2,k3⟩:=h2 t (by omega)
      refine ⟨j,hj,?_,?_,?_⟩
      ·show _=(((if t<=i then nd t else v:Nat)):Int)
       rw [if_pos (by omega)]; exact k1
      ·show _=(((if t<i then x t else (T.lb i q).toNat:Nat)):Int)
       rw [if_pos (by omega)]; exact k2
      ·show _=(((if t+1<=i then nd (t+1) else v:Nat)):Int)
       rw [if_pos (by omega)]; exact k3
    ·have e1:costW C (fun t=>if t<i then x t else (T.lb i q).toNat) i=costW C x i:=zbc i fun t ht=>if_pos ht
     show T.fwE (T.yOf C) (T.fwI (T.yOf C) i) i (T.el i) v=costW C (fun t=>if t<i then x t else (T.lb i q).toNat) i+C i (if i<i then x i else (T.lb i q).toNat)
     rw [e1,if_neg (Nat.lt_irrefl _),he,zbu (by omega),h3]
     rfl
    ·show T.fwE (T.yOf C) (T.fwI (T.yOf C) i) i (T.el i) v<=_
     rw [he]
     have:=zdS (T.fwI (T.yOf C) i (T.fr i q).toNat) (T.yOf C i q)
     have h8:((i+1:Nat):Int)*2147483648=(i:Int)*2147483648+2147483648:=by omega
     omega
theorem zdT {x x':Nat->Nat} {a:Nat}:∀ b,a<=b->(∀ t,a<=t->t<b->x t=x' t)->costW C x b - costW C x a=costW C x' b - costW C x' a:=by
  intro b
  induction b with
  | zero => intro h _; obtain rfl : a = 0 := by omega
            omega
  | succ b ih =>
    intro h hx
    by_cases e:a=b+1
    · subst e; omega
    · have h1:=ih (by omega) fun t k1 k2=>hx t k1 (by omega)
      have h2:costW C x (b+1)=costW C x b+C b (x b):=rfl
      have h3:costW C x' (b+1)=costW C x' b+C b (x' b):=rfl
      rw [hx b (by omega) (by omega)] at h2
      omega
theorem Trel.bw_att (hP:T.Proper) (hy:Costs T (T.yOf C)):∀ r,r<=T.n->∀ v,T.bw (T.yOf C) r v=4611686018427387904 ∨
  ∃ nd x,nd (T.n - r)=v/\nd T.n=0/\(∀ t,T.n - r<=t->t<T.n->T.onE nd x t)/\T.bw (T.yOf C) r v=costW C x T.n - costW C x (T.n - r)/\T.bw (T.yOf C) r v<=(r:Int)*2147483648:=by
 intro r
 induction r with
 | zero =>
  intro _ v
  by_cases e:v=0
  ·subst e
   exact .inr ⟨fun _=>0,fun _=>0,rfl,rfl,fun t h1 h2=>absurd h1 (by omega),by rw [Nat.sub_zero,Int.sub_self]; rfl,by show (0:Int)<=_; omega⟩
  ·exact .inl (if_neg e)
 | succ r ih =>
  intro hr v
  have n64:=hP.shape.n64
  obtain ⟨i,hi⟩:=exx (T.n - (r+1))
  have e1:T.n - r=i+1:=by omega
  have e2:T.bw (T.yOf C) (r+1) v=T.bwE (T.yOf C) (T.bw (T.yOf C) r) i (T.el i) v:=by rw [hi]; rfl
  rw [e1] at ih;rw [e2,<-hi]
  rcases Trel.bwE_att (T:=T) (y:=T.yOf C) (next:=T.bw (T.yOf C) r) (i:=i) (v:=v) (T.el i) with h | ⟨q,hq,hv,he⟩
  ·exact .inl h
  ·have b:=hy i (by omega) q hq
   rcases ih (by omega) (T.to i q).toNat with h | ⟨nd,x,h0,h1,h2,h3,h4⟩
   ·refine .inl ?_
    rw [he,h,zeK b.1]
   ·refine .inr ⟨fun t=>if t<=i then v else nd t,fun t=>if t<=i then (T.lb i q).toNat else x t,?_,?_,?_,?_,?_⟩
    ·exact if_pos (Nat.le_refl _)
    ·exact (if_neg (by omega)).trans h1
    ·intro t ht ht2
     by_cases e:t=i
     ·subst e
      refine ⟨q,hq,?_,?_,?_⟩
      ·show _=(((if t<=t then v else nd t:Nat)):Int)
       rw [if_pos (Nat.le_refl _),<-hv,(hP.frL (by omega) hq).2]
      ·show _=(((if t<=t then (T.lb t q).toNat else x t:Nat)):Int)
       rw [if_pos (Nat.le_refl _),(hP.lbL (by omega) hq).2]
      ·show _=(((if t+1<=t then v else nd (t+1):Nat)):Int)
       rw [if_neg (by omega),h0,(hP.toL (by omega) hq).2]
     ·obtain ⟨j,hj,k1,k2,k3⟩:=h2 t (by omega) ht2
      refine ⟨j,hj,?_,?_,?_⟩
      ·show _=(((if t<=i then v else nd t:Nat)):Int)
       rw [if_neg (by omega)]; exact k1
      ·show _=(((if t<=i then (T.lb i q).toNat else x t:Nat)):Int)
       rw [if_neg (by omega)]; exact k2
      ·show _=(((if t+1<=i then v else nd (t+1):Nat)):Int)
       rw [if_neg (by omega)]; exact k3
    ·have k1:=zdT (C:=C) (x:=fun t=>if t<=i then (T.lb i q).toNat else x t) (x':=x) (a:=i+1) T.n (by omega) fun t k1 _=>if_neg (by omega)
     have k2:costW C (fun t=>if t<=i then (T.lb i q).toNat else x t) (i+1)=costW C (fun t=>if t<=i then (T.lb i q).toNat else x t) i+C i (if i<=i then (T.lb i q).toNat else x i):=rfl
     rw [if_pos (Nat.le_refl _)] at k2
     have k3:T.yOf C i q=C i (T.lb i q).toNat:=rfl
     rw [he,zbu (by omega),h3,k3]
     omega
    ·rw [he]
     have:=zdS (T.yOf C i q) (T.bw (T.yOf C) r (T.to i q).toNat)
     have h8:((r+1:Nat):Int)*2147483648=(r:Int)*2147483648+2147483648:=by omega
     omega
theorem Trel.thr_le (hP:T.Proper) {nd x:Nat->Nat} (h0:nd 0=0) (hp:∀ t,t<T.n->T.onE nd x t) {i j:Nat} (hi:i<T.n) (h1:T.fr i j=(nd i:Nat)) (h2:T.lb i j=(x i:Nat)) (h3:T.to i j=(nd (i+1):Nat)) :
  T.thr (T.yOf C) i j<=costW C x T.n:=by
 have hn:=zf0 hP h0 hp
 have k1:=Trel.fw_le (C:=C) h0 i (by omega) fun t ht=>hp t (by omega)
 have k2:=Trel.bw_path (C:=C) hp hn (T.n - (i+1)) (by omega)
 rw [show T.n - (T.n - (i+1))=i+1 by omega] at k2
 have k3:T.yOf C i j=C i (x i):=by unfold Trel.yOf; rw [h2,Int.toNat_natCast]
 have k5:costW C x (i+1)=costW C x i+C i (x i):=rfl
 unfold Trel.thr
 rw [h1,h3,Int.toNat_natCast,Int.toNat_natCast]
 have k6:=zdS (T.fwI (T.yOf C) i (nd i)) (T.yOf C i j)
 have k7:=zdS (capI (T.fwI (T.yOf C) i (nd i)) (T.yOf C i j)) (T.bw (T.yOf C) (T.n - (i+1)) (nd (i+1)))
 omega
theorem Trel.thr_att (hP:T.Proper) (hy:Costs T (T.yOf C)) {i j:Nat} (hi:i<T.n) (hj:j<T.el i) :
  T.thr (T.yOf C) i j=4611686018427387904∨∃ x,T.PathW x/\x i=(T.lb i j).toNat/\T.thr (T.yOf C) i j=costW C x T.n:=by
 have n64:=hP.shape.n64
 have b:=hy i hi j hj
 have hb:0<=T.bw (T.yOf C) (T.n - (i+1)) (T.to i j).toNat:=(Trel.bw_cost hy _ (by omega) _).1
 rcases Trel.fw_att hP hy i (by omega) (T.fr i j).toNat with h | ⟨nd,x,a0,a1,a2,a3,a4⟩
 ·refine .inl ?_
  unfold Trel.thr
  rw [h,zdi b.1,zdi hb]
 rcases Trel.bw_att hP hy (T.n - (i+1)) (by omega) (T.to i j).toNat with h | ⟨nd2,x2,b0,b1,b2,b3,b4⟩
 ·refine .inl ?_
  have ha:0<=T.fwI (T.yOf C) i (T.fr i j).toNat:=(Trel.fwI_cost hy _ (by omega) _).1
  have hc:0<=capI (T.fwI (T.yOf C) i (T.fr i j).toNat) (T.yOf C i j):=by unfold capI; split <;> omega
  unfold Trel.thr
  rw [h,zeK hc]
 refine .inr ⟨fun t=>if t<i then x t else if t=i then (T.lb i j).toNat else x2 t,⟨fun t=>if t<=i then nd t else nd2 t,(if_pos (Nat.zero_le _)).trans a0,?_⟩,?_,?_⟩
 rotate_left
 ·show (if i<i then x i else if i=i then (T.lb i j).toNat else x2 i)=_
  rw [if_neg (Nat.lt_irrefl _),if_pos rfl]
 ·rw [show T.n - (T.n - (i+1))=i+1 by omega] at b3
  have k1:=zdT (C:=C) (x:=fun t=>if t<i then x t else if t=i then (T.lb i j).toNat else x2 t) (x':=x2) (a:=i+1) T.n (by omega) fun t k1 _=>by
   show (if t<i then x t else if t=i then (T.lb i j).toNat else x2 t)=_
   rw [if_neg (by omega),if_neg (by omega)]
  have k2:costW C (fun t=>if t<i then x t else if t=i then (T.lb i j).toNat else x2 t) (i+1)=costW C (fun t=>if t<i then x t else if t=i then (T.lb i j).toNat else x2 t) i+C i (if i<i then x i else if i=i then (T.lb i j).toNat else x2 i):=rfl
  rw [if_neg (Nat.lt_irrefl _),if_pos rfl] at k2
  have k3:costW C (fun t=>if t<i then x t else if t=i then (T.lb i j).toNat else x2 t) i=costW C x i:=zbc i fun t ht=>if_pos ht
  have k4:T.yOf C i j=C i (T.lb i j).toNat:=rfl
  have k5:capI (T.fwI (T.yOf C) i (T.fr i j).toNat) (T.yOf C i j)=T.fwI (T.yOf C) i (T.fr i j).toNat+T.yOf C i j:=zbu (by omega)
  unfold Trel.thr
  rw [k5,zbu (by omega),a3,b3,k4]
  omega
 intro t ht
 rw [show T.n - (T.n - (i+1))=i+1 by omega] at b0 b2
 rcases Nat.lt_trichotomy t i with e | e | e
 ·obtain ⟨q,hq,k1,k2,k3⟩:=a2 t e
  refine ⟨q,hq,?_,?_,?_⟩
  ·show _=(((if t<=i then nd t else nd2 t:Nat)):Int)
   rw [if_pos (by omega)]; exact k1
  ·show _=(((if t<i then x t else if t=i then (T.lb i j).toNat else x2 t:Nat)):Int)
   rw [if_pos e]; exact k2
  ·show _=(((if t+1<=i then nd (t+1) else nd2 (t+1):Nat)):Int)
   rw [if_pos (by omega)]; exact k3
 ·subst e
  refine ⟨j,hj,?_,?_,?_⟩
  ·show _=(((if t<=t then nd t else nd2 t:Nat)):Int)
   rw [if_pos (Nat.le_refl _),a1,(hP.frL hi hj).2]
  ·show _=(((if t<t then x t else if t=t then (T.lb t j).toNat else x2 t:Nat)):Int)
   rw [if_neg (Nat.lt_irrefl _),if_pos rfl,(hP.lbL hi hj).2]
  ·show _=(((if t+1<=t then nd (t+1) else nd2 (t+1):Nat)):Int)
   rw [if_neg (by omega),b0,(hP.toL hi hj).2]
 obtain ⟨q,hq,k1,k2,k3⟩:=b2 t (by omega) ht
 refine ⟨q,hq,?_,?_,?_⟩
 ·show _=(((if t<=i then nd t else nd2 t:Nat)):Int)
  rw [if_neg (by omega)]; exact k1
 ·show _=(((if t<i then x t else if t=i then (T.lb i j).toNat else x2 t:Nat)):Int)
  rw [if_neg (by omega),if_neg (by omega)]; exact k2
 ·show _=(((if t+1<=i then nd (t+1) else nd2 (t+1):Nat)):Int)
  rw [if_neg (by omega)]; exact k3
theorem Trel.mr_le (hP:T.Proper) {x:Nat->Nat} (hx:T.PathW x) {i:Nat} (hi:i<T.n):T.mrE (T.yOf C) i (T.el i) (x i)<=costW C x T.n:=by
 obtain ⟨nd,h0,hp⟩:=hx
 obtain ⟨j,hj,h1,h2,h3⟩:=hp i hi
 exact Int.le_trans (Trel.mrE_le _ j hj (by rw [h2,Int.toNat_natCast])) (Trel.thr_le hP h0 hp hi h1 h2 h3)
theorem Trel.mr_att (hP:T.Proper) (hy:Costs T (T.yOf C)) {i:Nat} (hi:i<T.n) (a:Nat) :
  T.mrE (T.yOf C) i (T.el i) a=4611686018427387904∨∃ x,T.PathW x/\x i=a/\T.mrE (T.yOf C) i (T.el i) a=costW C x T.n:=by
 rcases Trel.mrE_att (T:=T) (y:=T.yOf C) (i:=i) (a:=a) (T.el i) with h | ⟨j,hj,hl,he⟩
 ·exact .inl h
 rcases Trel.thr_att hP hy hi hj with h | ⟨x,h1,h2,h3⟩
 ·exact .inl (he.trans h)
 ·exact .inr ⟨x,h1,h2.trans hl,he.trans h3⟩
end
section
variable {N:Nat} {Wd:Nat->Nat->Nat} {C:Nat->Nat->Int}
theorem zdj (i a:Nat):∀ k,refMr N Wd C k i a<=4611686018427387904
 | 0=>Int.le_refl _
 | k+1=>by
  show (if _ then _ else _)<=_
  split
  ·exact Int.le_trans (Int.min_le_left _ _) (zdj i a k)
  ·exact zdj i a k
theorem zf7 {i a t:Nat} (ha:Wd t i=a):∀ k,t<k->refMr N Wd C k i a<=costW C (Wd t) N
 | 0,h=>absurd h (by omega)
 | k + 1, h => by
  show (if Wd k i=a then _ else _)<=_
  by_cases e:t=k
  ·subst e
   rw [if_pos ha]
   exact Int.min_le_right _ _
  ·have:=zf7 ha k (by omega)
   split
   ·exact Int.le_trans (Int.min_le_left _ _) this
   ·exact this
theorem zeL (i a:Nat):∀ k,refMr N Wd C k i a=4611686018427387904∨∃ t,t<k/\Wd t i=a/\refMr N Wd C k i a=costW C (Wd t) N
 | 0=>.inl rfl
 | k + 1 => by
  have e:refMr N Wd C (k+1) i a=if Wd k i=a then min (refMr N Wd C k i a) (costW C (Wd k) N) else refMr N Wd C k i a:=rfl
  rw [e]
  have ih:=zeL i a k
  by_cases h:Wd k i=a
  ·rw [if_pos h]
   by_cases h2:refMr N Wd C k i a<=costW C (Wd k) N
   ·rw [Int.min_eq_left h2]
    rcases ih with h3 | ⟨q,h3,h4,h5⟩
    ·exact .inl h3
    ·exact .inr ⟨q,by omega,h4,h5⟩
   ·rw [Int.min_eq_right (by omega)]
    exact .inr ⟨k,by omega,h,rfl⟩
  ·rw [if_neg h]
   rcases ih with h3 | ⟨q,h3,h4,h5⟩
   ·exact .inl h3
   ·exact .inr ⟨q,by omega,h4,h5⟩
end
section
variable {q n N m:Nat} {add mul:Nat->Nat->Nat} {V:Nat->Nat->Nat} {T:Trel} {C:Nat->Nat->Int} {lc:Nat->Nat}
theorem Trel.mr_top (hy:Costs T (T.yOf C)) {i:Nat} (hi:i<T.n) (a:Nat):T.mrE (T.yOf C) i (T.el i) a<=4611686018427387904:=(Trel.mrE_cost hy hi _ (Nat.le_refl _) a).2
theorem zip (hL:FieldLaws q add mul) (hP:T.Proper) (hy:Costs T (T.yOf C)) (hN:T.n=N) (hpw:∀ x,T.PathW x↔InSp q add mul n N V x) {i a:Nat} (hi:i<N) :
  T.mrE (T.yOf C) i (T.el i) a=refMr N (fun t j=>spE add mul V (msgD q n t) n j) C (q ^ n) i a:=by
 have h1:=Trel.mr_att hP hy (i:=i) (by omega) a
 have h2:=zeL (N:=N) (Wd:=fun t j=>spE add mul V (msgD q n t) n j) (C:=C) i a (q ^ n)
 have h3:=Trel.mr_top (C:=C) hy (i:=i) (by omega) a
 have h4:=zdj (N:=N) (Wd:=fun t j=>spE add mul V (msgD q n t) n j) (C:=C) i a (q ^ n)
 have h5:∀ t,t<q ^ n->spE add mul V (msgD q n t) n i=a->T.mrE (T.yOf C) i (T.el i) a<=costW C (fun j=>spE add mul V (msgD q n t) n j) N:=fun t _ e=>by
  have:=Trel.mr_le (C:=C) hP ((hpw _).2 (zio (N:=N) (V:=V) (n:=n) hL t)) (i:=i) (by omega)
  rw [hN] at this;rw [<-e]
  exact this
 have h6:∀ x,T.PathW x->x i=a->refMr N (fun t j=>spE add mul V (msgD q n t) n j) C (q ^ n) i a<=costW C x N:=fun x hx e=>by
  obtain ⟨t,ht,b⟩:=zhR ((hpw x).1 hx)
  have k1:=zf7 (N:=N) (Wd:=fun t j=>spE add mul V (msgD q n t) n j) (C:=C) (i:=i) (a:=a) (t:=t) (by rw [<-e]; exact (b i hi).symm) (q ^ n) ht
  rw [zbc N b]
  exact k1
 refine Int.le_antisymm ?_ ?_
 ·rcases h2 with h | ⟨t,ht,e,h⟩
  ·omega
  ·rw [h]; exact h5 t ht e
 rcases h1 with h | ⟨x,hx,e,h⟩
 ·omega
 ·rw [h,hN]; exact h6 x hx e
theorem zhS (hP:T.Proper) (hy:Costs T (T.yOf C)) (hN:T.n=N) (hpw:∀ x,T.PathW x↔InSp q add mul n N V x) {x:Nat->Nat} (hx:InSp q add mul n N V x) (hopt:∀ z,InSp q add mul n N V z->costW C x N<=costW C z N) {i:Nat} (hi:i<N) (htop:costW C x N<=4611686018427387904) :
  T.mrE (T.yOf C) i (T.el i) (x i)=costW C x N/\∀ a,costW C x N<=T.mrE (T.yOf C) i (T.el i) a:=by
 have h1:∀ a,costW C x N<=T.mrE (T.yOf C) i (T.el i) a:=fun a=>by
  rcases Trel.mr_att hP hy (i:=i) (by omega) a with h | ⟨z,hz,_,h⟩
  ·omega
  ·rw [h,hN]; exact hopt z ((hpw z).1 hz)
 have h2:=Trel.mr_le (C:=C) hP ((hpw x).2 hx) (i:=i) (by omega)
 rw [hN] at h2
 exact ⟨Int.le_antisymm h2 (h1 _),h1⟩
end
open Go.RowKit Go.ChangeShapes Go.WideShapes Go.ChangeAt
theorem zgV {P M:Int} {A:Option Addr} {k:Nat} {f:Nat->Int} {N:Int} {TC:Option Addr} {n:Nat} {ln:Nat->Nat} {V:Nat->Nat->Int} {m:Nat} {lc:Nat->Nat} {C:Nat->Nat->Int} {w0 w w':World} {e:Ending} {v:Int} (hr:IntsR w0 w0.heap.size A k f) (h:IntRows w0 TC n ln V)
    (h1:MargPost P M k f N n ln V m lc C w e w') (h2:ArgsV P M k f N n ln V m lc C v) :
    (v ≠ 0 ∧ e = .returned (.tuple #[.slice none 0 0, .int .i64 v])) ∨ (v = 0 ∧ FirstErr (CodeErrs P M k f N n ln V) 0 ∧ ¬ BigC P M k f N n V ∧ ∃ P' M' N' : Nat, P = P' ∧ M = M' ∧ N = N' ∧ TabOk (P' ^ M') N' m lc ∧ PricedP m lc C ∧
      ∃ (U : Trel) (g : Nat) (F : Nat → Value), U.Proper ∧ U.n = N' ∧ U.Fit lc ∧ (∀ x, U.PathW x ↔ InSp (P' ^ M') (addF P' M') (mulF P' M' fun i => (f i).toNat) n N' (natT V) x) ∧
           e=.returned (.tuple #[.slice (some ⟨g,0,none⟩) N' N',.int .i64 0])/\w.heap.size<=g/\IntTab w' g (g+1) N' F (fun _=>P' ^ M') (fun i a=>U.mrE (U.yOf C) i (U.el i) a)):=by
  obtain ⟨_,u,hu,h1⟩:=h1
  obtain ⟨u2,l,h2⟩:=h2
  obtain rfl:u=u2:=FirstErr.unique hu l
  rcases h1 with ⟨h0,rfl⟩ | ⟨rfl,P',M',N',rfl,rfl,rfl,h1⟩
  · rcases h2 with ⟨_,rfl⟩ | ⟨h3,_⟩
    · exact .inl ⟨h0,rfl⟩
    · exact absurd h3 h0
  rcases h2 with ⟨h3,_⟩ | ⟨_,P2,M2,N2,e1,e2,e3,h2⟩
  · exact absurd rfl h3
  obtain rfl:P'=P2:=by omega
  obtain rfl:M'=M2:=by omega
  obtain rfl:N'=N2:=by omega
  rcases h1 with ⟨h3,rfl⟩ | ⟨h3,h4,rfl⟩ | ⟨h3,h4,pv,R,d,c,j,h1⟩
  · rcases h2 with ⟨_,rfl⟩ | ⟨h5,_⟩ | ⟨h5,_⟩
    · exact .inl ⟨by omega,rfl⟩
    · exact absurd h5 h3
    · exact absurd h5 h3
  · rcases h2 with ⟨h5,_⟩ | ⟨_,_,rfl⟩ | ⟨_,h5,_⟩
    · exact absurd h3 h5
    · exact .inl ⟨by omega,rfl⟩
    · exact absurd h5 h4
  rcases h2 with ⟨h5,_⟩ | ⟨_,h5,_⟩ | ⟨_,_,pr,se,hp,hs,h2⟩
  · exact absurd h3 h5
  · exact absurd h4 h5
  obtain ⟨P2,M2,N2,e1,e2,e3,hC⟩:=za1 hr h hu
  obtain rfl:P'=P2:=by omega
  obtain rfl:M'=M2:=by omega
  obtain rfl:N'=N2:=by omega
  have b:=zeh (fieldLaws hC.fld) d hC.rref.choose_spec.lt c j hp hs
  rcases h1 with ⟨h5,rfl⟩ | ⟨h5,h6⟩
  · rcases h2 with ⟨h7,_⟩ | ⟨_,rfl⟩
    · exact absurd (b.1 h7) h5
    · exact .inl ⟨by omega,rfl⟩
  rcases h2 with ⟨_,rfl⟩ | ⟨h7,_⟩
  · refine .inr ⟨rfl,hu,?_,P',M',N',rfl,rfl,rfl,h3,h4,h6⟩
    rintro ⟨P4,M4,N4,f1,f2,f3,pr2,se2,p,o,h8⟩
    obtain rfl:P'=P4:=by omega
    obtain rfl:M'=M4:=by omega
    obtain rfl:N'=N4:=by omega
    exact h8 ((zeh (fieldLaws hC.fld) d hC.rref.choose_spec.lt c j p o).2 h5)
  · exact absurd (b.2 h5) h7
def tabLs (m q:Nat) (x:Nat->Nat->Int):List (List Int):=(List.range m).map fun i=>(List.range q).map fun a=>x i a
theorem zhT {m q:Nat} {x:Nat->Nat->Int} {i:Nat} (hi:i<m):(tabLs m q x).getD i []=(List.range q).map fun a=>x i a:=by
 unfold tabLs
 simp [hi]
theorem IntTab.tabL {w:World} {g base m q:Nat} {F:Nat->Value} {x:Nat->Nat->Int} (h:IntTab w g base m F (fun _=>q) x) (hgb:g<base) (hm:m<=maxLen):TabL w g (.slice (some ⟨g,0,none⟩) m m) (tabLs m q x):=by
 refine ⟨F,?_,fun i hi=>?_⟩
 ·have:=zbe h.row (Nat.le_refl g) hm
  unfold tabLs
  rw [List.length_map,List.length_range]
  exact this
 have b:i<m:=by unfold tabLs at hi; simpa using hi
 have h1:=(h.own i b).mono (Nat.le_of_lt hgb)
 rw [zhT b]
 unfold OwnL
 rw [List.length_map,List.length_range]
 exact h1.congr fun a ha j hj=>by
  show Value.int .i64 (x i a)=_
  unfold listCell
  simp [ha]
theorem zfd {m q:Nat} {x x':Nat->Nat->Int} (h:∀ i,i<m->∀ a,a<q->x i a=x' i a):tabLs m q x=tabLs m q x':=by
 unfold tabLs
 refine List.map_congr_left fun i hi=>List.map_congr_left fun a ha=>h i (List.mem_range.1 hi) a (List.mem_range.1 ha)
theorem zcG (P M:Int) (A:Option Addr) (k c:Nat) (f:Nat->Int) (N:Int) (TC:Option Addr) (n d:Nat) (ln:Nat->Nat) (V:Nat->Nat->Int) (CA:Option Addr) (m cc:Nat) (lc:Nat->Nat) (C:Nat->Nat->Int) (w:World) (hr:IntsR w w.heap.size A k f) (h:IntRows w TC n ln V) (hC:IntRows w CA m lc C) :
  Calls Tryz.prog 10 #[.agg #[.int .i64 P,.int .i64 M,.slice A k c,.int .i64 N,.slice TC n d],.slice CA m cc] w fun e w'=>e=.returned (.bool true)/\Below w.heap.size w w':=by
 have HI:=hid hr
 have HT:=hid h
 have S:=hid hC
 clear hr h hC
 obtain ⟨w1,ah,hB,rf⟩:=zay w (.int .i64 P) (.int .i64 M) (.slice A k c) (.int .i64 N) (.slice TC n d) 27
 go_enter Tryz.func10, Tryz.ntmps10
 go_upto_region 1 with fail
 rw [<-ah];clear ah
 obtain ⟨b0,a6⟩:=exx w.heap.size
 rw [<-a6] at rf;rw [<-a6];clear a6
 have o:Hid (∀ X,Below w1.heap.size w1 X->(X.cell? ⟨b0,0,none⟩=some (.int .i64 P)/\X.cell? ⟨b0,1,none⟩=some (.int .i64 M)/\X.cell? ⟨b0,2,none⟩=some (.slice A k c)/\X.cell? ⟨b0,3,none⟩=some (.int .i64 N)/\X.cell? ⟨b0,4,none⟩=some (.slice TC n d))):=hid fun X hx =>
  ⟨(zab rf hx).cell (i:=0) (by omega),(zab rf hx).cell (i:=1) (by omega),(zab rf hx).cell (i:=2) (by omega),(zab rf hx).cell (i:=3) (by omega),(zab rf hx).cell (i:=4) (by omega)⟩
 have HB:=hid hB
 clear hB rf
 obtain ⟨q0,q1,q2,q3,q4⟩:=o.out _ (Below.refl _ _)
 go_wp2_with fail
 refine (zfc P M A k c f N TC n d ln V w1 (HI.out.on HB.out) (HT.out.on HB.out)).mono ?_
 rintro e w2 ⟨kb,b,rfl,aj⟩
 have az:=hid aj
 have KB:=hid kb
 clear kb aj q0 q1 q2 q3 q4
 cases b with
 | false =>
  go_wp2_with fail
  refine (zb0 _).mono ?_
  rintro e w3 ⟨rfl,kb⟩
  replace KB:=hid (onS KB.out kb);clear kb
  go_wp2
  go_ret
  exact ⟨rfl,onS HB.out KB.out⟩
 | true =>
  obtain ⟨q0,q1,q2,q3,q4⟩:=o.out _ KB.out
  go_wp2_with fail
  refine (zhP P M A k c f N TC n d ln V CA m cc lc C w2 (HI.out.on (onS HB.out KB.out)) (HT.out.on (onS HB.out KB.out)) (S.out.on (onS HB.out KB.out))).mono ?_
  rintro e w3 hh
  have kb:=hh.1
  have E:∃ (GA:Option Addr) (gn gc:Nat) (ev:Int),e=.returned (.tuple #[.slice GA gn gc,.int .i64 ev]):=by
   rcases hh.2 with ⟨u,_,⟨_,h⟩ | ⟨_,P',M',N',_,_,_,⟨_,h⟩ | ⟨_,_,h⟩ | ⟨_,_,pv,R,_,_,_,⟨_,h⟩ | ⟨_,U,g,F,_,_,_,_,h,_⟩⟩⟩⟩ <;> exact ⟨_,_,_,_,h⟩
  obtain ⟨GA,gn,gc,ev,rfl⟩:=E
  have HH:=hid hh
  have K3:=hid kb
  replace KB:=hid (onS KB.out kb);clear kb hh q0 q1 q2 q3 q4
  obtain ⟨q0,q1,q2,q3,q4⟩:=o.out _ KB.out
  go_wp2_with fail
  refine (zf6 P M A k c f N TC n d ln V CA m cc lc C w3 (HI.out.on (onS HB.out KB.out)) (HT.out.on (onS HB.out KB.out)) (S.out.on (onS HB.out KB.out))).mono ?_
  rintro e w4 ⟨kb,v,rfl,hv⟩
  have H:=zgV HI.out HT.out HH.out hv
  have HV:=hid hv
  have b2:=hid kb
  replace KB:=hid (onS KB.out kb);clear kb hv HH q0 q1 q2 q3 q4
  rcases H with ⟨ai,he⟩ | ⟨rfl,L,al,P',M',N',rfl,rfl,rfl,ap,au,U,g,F,an,ao,J,ar,he,_,I⟩
  ·have a4:(GA=none/\gn=0/\gc=0)/\ev=v:=by simpa using he
   obtain ⟨⟨rfl,rfl,rfl⟩,rfl⟩:=a4
   have b5:(ev != ev)=false:=by simp
   have bf:(ev != 0)=true:=by simpa using ai
   clear he ai
   go_wp2_with fail
   refine (zb0 _).mono ?_
   rintro e w5 ⟨rfl,kb⟩
   replace KB:=hid (onS KB.out kb);clear kb
   go_wp2
   go_ret
   exact ⟨rfl,onS HB.out KB.out⟩
  ·have a4:(GA=some ⟨g,0,none⟩/\gn=N'/\gc=N')/\ev=0:=by simpa using he
   obtain ⟨⟨rfl,rfl,rfl⟩,rfl⟩:=a4
   obtain ⟨P2,M2,N2,e1,e2,e3,hC⟩:=za1 HI.out HT.out L
   obtain rfl:P'=P2:=by omega
   obtain rfl:M'=M2:=by omega
   obtain rfl:gc=N2:=by omega
   have b4:(P' ^ M') ^ n<=512:=by
    rcases az.out trivial with h1 | h1 | h1
    ·exact absurd L h1
    ·simpa only [Int.toNat_natCast] using h1
    ·exact absurd h1 al
   obtain ⟨q,hq⟩:=exx (P' ^ M')
   have p:=hid (I.on b2.out)
   have HC:=hid hC
   have a8:=hC.ln2
   have Q:=hid ap
   have ad:=hid au
   have ay:=hid an
   have O:=hid ao
   have ae:=hid J
   have b1:=hid ar
   have bm:=hid L
   have HQ:=hid hq
   have ac:Hid (1<=q/\q<=256):=hid (by
    have h1:=hC.fld.1
    rw [hq]
    exact ⟨Nat.pow_pos (by have:=h1.1; omega),h1.2.2.2⟩)
   clear he L al ap au an ao J ar I hC b2 K3 az e1 e2 e3 hq
   have b5:((0:Int) != 0)=false:=by simp
   go_wp2_with fail
   refine (zb0 _).mono ?_
   rintro e w5 ⟨rfl,kb⟩
   replace p:=hid (p.out.on kb);replace KB:=hid (onS KB.out kb);clear kb
   obtain ⟨q0,q1,q2,q3,q4⟩:=o.out _ KB.out
   go_wp2_with fail
   refine (zeY P' M' (fun i=>(f i).toNat) A k c gc TC n d (natT V) w5 (HC.out.on (onS HB.out KB.out)) (by omega)).mono ?_
   rintro e w6 ⟨lv,rfl,hM,kb⟩
   obtain ⟨LA,lcp,b6⟩:=hM.shape
   subst b6
   have hL:=fieldLaws HC.out.fld
   have be:=hL.two
   have a1:=hM.rd HC.out.fld.1.2.2.2 (fun i _ j _=>zaZ hL _ _ _)
   obtain ⟨mw,a0⟩:∃ mw,mw=(P' ^ M') ^ n:=⟨_,rfl⟩
   rw [<-a0] at b4 a1 ⊢
   have bc:=hid a0
   have ba:Hid (IntRows w6 LA mw (fun _=>gc) (fun t j=>((spE (addF P' M') (mulF P' M' fun i=>(f i).toNat) (natT V) (msgD (P' ^ M') n t) n j:Nat):Int))):=hid a1
   replace p:=hid (p.out.on kb);replace KB:=hid (onS KB.out kb)
   have HL:=hid hL
   clear kb hM a1 a0 hL q0 q1 q2 q3 q4
   have b7:gc<=m:=by have:=Q.out.1; omega
   obtain ⟨q0,q1,q2,q3,q4⟩:=o.out _ KB.out
   go_wp2_with fail
   refine (zdR P' M' A k c gc q LA mw lcp (fun t j=>spE (addF P' M') (mulF P' M' fun i=>(f i).toNat) (natT V) (msgD (P' ^ M') n t) n j) CA m cc lc C w6 (by rw [HQ.out]; exact zbo HC.out.fld.1) ac.out ba.out (S.out.on (onS HB.out KB.out)) (by omega) b7 a8 (fun t _ j hj=>by rw [Q.out.2 j (by omega)]; exact zaZ HL.out _ _ _) (fun t _ j hj=>by rw [HQ.out]; exact zaZ HL.out _ _ _) ad.out).mono ?_
   rintro e w7 ⟨kb,g2,F2,rfl,_,aq⟩
   have af:Hid (Costs U (U.yOf C)):=hid (Costs.of (by rw [O.out]; exact Q.out.1) ae.out ad.out)
   have s:tabLs gc q (fun i a=>refMr gc (fun t j=>spE (addF P' M') (mulF P' M' fun i=>(f i).toNat) (natT V) (msgD (P' ^ M') n t) n j) C mw i a)=tabLs gc q (fun i a=>U.mrE (U.yOf C) i (U.el i) a):=zfd fun i hi a _=>by
    rw [bc.out]
    exact (zip HL.out ay.out af.out O.out b1.out hi).symm
   have ab:=hid (aq.tabL (Nat.lt_succ_self _) (by unfold maxLen; omega))
   rw [s] at ab;replace p:=hid (p.out.on kb);replace KB:=hid (onS KB.out kb);clear kb aq s q0 q1 q2 q3 q4
   go_wp2_with fail
   have a7:=p.out.tabL (Nat.lt_succ_self _) (by unfold maxLen; omega)
   rw [<-HQ.out] at a7
   refine (zdN g g2 _ _ _ w7 a7 ab.out (fun l hl=>by
    unfold tabLs at hl
    obtain ⟨i,_,rfl⟩:=List.mem_map.1 hl
    rw [List.length_map,List.length_range]
    have:=ac.out
    omega)).mono ?_
   rintro e w8 ⟨rfl,kb⟩
   replace p:=hid (p.out.on kb);replace KB:=hid (onS KB.out kb);clear kb a7 ab
   obtain ⟨q0,q1,q2,q3,q4⟩:=o.out _ KB.out
   go_wp2_with fail
   refine (zf3 (P':Int) (M':Int) A k c f (gc:Int) TC n d ln V CA m cc lc C w8 (HI.out.on (onS HB.out KB.out)) (HT.out.on (onS HB.out KB.out)) (S.out.on (onS HB.out KB.out))).mono ?_
   rintro e w9 B
   have kb:=B.1
   rcases zhQ HI.out HT.out B HV.out with ⟨h0,_⟩ | ⟨_,_,P3,M3,N3,e1,e2,e3,_,_,gd,x,rfl,_,_,K,D⟩
   ·exact absurd rfl h0
   obtain rfl:P'=P3:=by omega
   obtain rfl:M'=M3:=by omega
   obtain rfl:gc=N3:=by omega
   have am:=zei (C:=C) (x:=x) (m:=gc) (fun i hi=>ad.out i (by omega) (x i) (by
    obtain ⟨cf,_,a5⟩:=K
    rw [Q.out.2 i (by omega),a5 i hi]
    exact zaZ HL.out _ _ _)) gc (Nat.le_refl _)
   have b9:Hid (∀ i,i<gc->x i<q):=hid fun i hi=>by
    obtain ⟨cf,_,a5⟩:=K
    rw [HQ.out,a5 i hi]
    exact zaZ HL.out _ _ _
   have r:Hid (∀ i,i<gc->U.mrE (U.yOf C) i (U.el i) (x i)=costW C x gc/\∀ a,costW C x gc<=U.mrE (U.yOf C) i (U.el i) a):=hid fun i hi=>zhS ay.out af.out O.out b1.out K (fun z hz=>(D z hz).1) hi (by omega)
   have y:Hid (∀ i,i<gc->∀ a,U.mrE (U.yOf C) i (U.el i) a<=4611686018427387904):=hid fun i hi a=>Trel.mr_top af.out (by rw [O.out]; exact hi) a
   obtain ⟨cst,G⟩:=exx (costW C x gc)
   rw [<-G] at r am ⊢
   have bd:Hid (0<=cst/\cst<=4611686018427387904):=hid (by omega)
   obtain ⟨X,hX⟩:∃ X:Nat->Nat->Int,X=fun i a=>U.mrE (U.yOf C) i (U.el i) a:=⟨_,rfl⟩
   have aa:Hid (IntTab w9 g (g+1) gc F (fun _=>q) X):=hid (by
    have:=p.out.on kb
    rw [<-HQ.out,<-hX] at this
    exact this)
   have bb:Hid (∀ i,i<gc->X i (x i)=cst/\∀ a,cst<=X i a/\X i a<=4611686018427387904):=hid (by
    rw [hX]
    exact fun i hi=>⟨(r.out i hi).1,fun a=>⟨(r.out i hi).2 a,y.out i hi a⟩⟩)
   replace KB:=hid (onS KB.out kb);clear kb B K D am G hX r y q0 q1 q2 q3 q4 p
   go_upto_region 14 with fail
   go_loopg [13] gc (fun gg iv wx=>∃ i:Nat,iv=.int .i64 (i:Nat)/\i<=gc/\gc<=i+gg/\Below w9.heap.size w9 wx)
   case atStart=>exact ⟨0,rfl,by omega,by omega,Below.refl _ _⟩
   case round =>
    obtain ⟨i,rfl,hi,bi,aw⟩:=hrel
    have bj:(0:Int)<=(i:Int):=by omega
    have KX:=hid aw
    clear aw
    obtain ⟨gK,b8⟩:=exx gk
    subst b8
    obtain ⟨w10,Y⟩:=exx wr
    subst Y
    by_cases hlt:i<gc
    ·have a2:(i:Int)<(gc:Int):=by omega
     go_upto_region 18 with fail
     go_loopg [14,15] q (fun gg lv jv wx=>∃ (j:Nat) (z:Int),jv=.int .i64 (j:Nat)/\lv=.int .i64 z/\j<=q/\q<=j+gg/\Hid (cst<=z/\z<=4611686018427387904/\(x i<j->z<=cst))/\Hid (Below w9.heap.size w9 wx))
     case atStart=>exact ⟨0,4611686018427387904,rfl,rfl,by omega,by omega,hid ⟨bd.out.2,Int.le_refl _,fun h=>absurd h (by omega)⟩,KX⟩
     case round =>
      clear KX
      obtain ⟨j,z,rfl,rfl,hj,bg,HZ,KX⟩:=hrel
      have bh:(0:Int)<=(j:Int):=by omega
      obtain ⟨w11,W⟩:=exx wr
      subst W
      have Z:=cellS KX.out (aa.out.row.cell hlt)
      obtain ⟨rA,rc,a9⟩:=(aa.out.own i hlt).shape
      by_cases hlj:j<q
      ·have a3:(j:Int)<(q:Int):=by omega
       obtain ⟨rb,ro,rd,av,_,_,rqw,_⟩:=aa.out.at (v:=i) hlt (k:=j) hlj
       rw [av] at Z
       have T:=bb.out i hlt
       have ax:Hid (cst<=min z (X i j)/\min z (X i j)<=4611686018427387904/\(x i<j+1->min z (X i j)<=cst)):=hid (by
        have h1:=HZ.out
        have h2:=T.2 j
        refine ⟨by omega,by omega,fun h=>?_⟩
        by_cases e:x i=j
        ·have h3:=T.1
         rw [e] at h3
         omega
        ·have:=h1.2.2 (by omega)
         omega)
       obtain ⟨xv,ag⟩:=exx (X i j)
       have rq:w11.cell? ⟨rb,ro+j,none⟩=some (.int .i64 (X i j)):=cellS KX.out rqw
       have ak:q<=256:=ac.out.2
       rw [<-ag] at rq ax;clear av rqw T ag a9
       go_wp2
       go_roundg (gk - 1)
       case measure=>omega
       case rel=>exact ⟨j+1,min z xv,by go_num,rfl,by omega,by omega,ax,KX⟩
      ·have a3:¬ (j:Int)<(q:Int):=by omega
       obtain rfl:q=j:=by omega
       rw [a9] at Z
       have b3:z=cst:=by
        have h1:=HZ.out
        have h2:=h1.2.2 (b9.out i hlt)
        omega
       subst b3
       have bk:(z != z)=false:=by simp
       clear a9
       go_wp2
       clear Z
       go_roundg (gK - 1)
       case measure=>omega
       case rel=>exact ⟨i+1,by go_num,by omega,by omega,KX.out⟩
    ·have a2:¬ (i:Int)<(gc:Int):=by omega
     have bl:((0:Int) == 0)=true:=by simp
     go_wp2
     go_ret
     exact ⟨rfl,onS HB.out (onS KB.out KX.out)⟩
theorem viterbiMarginals_law {H:Type} {enc:TypeId × Value->H} {w:World} {cs:Array Value} {v:Value}
  (h:Sees enc Tryz.prog w 0 (fun _=>true) true 27 cs.toList) (hv:Sees enc Tryz.prog w 0 (fun _=>true) true 25 [v]) :
  Calls Tryz.prog 10 #[.agg cs,v] w fun e w'=>e=.returned (.bool true)/\Below w.heap.size w w':=by
 obtain ⟨cs⟩:=cs
 obtain ⟨P,M,A,k,c1,N,T1,n,d,f,ln,V,rfl,_,_,_,_,_,_,hr,ht⟩:=zgP h
 obtain ⟨CA,m,cc,lc,C,e,_,_,hR⟩:=zek hv
 injection e with e _
 subst e
 exact zcG P M A k c1 f N T1 n d ln V CA m cc lc C w hr ht hR
end Go.Proofs.YtgekjfpapmlndaaGreat