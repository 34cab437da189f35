/- Merged texts of a claim. -/
import Derived.Test.YtgekjfpapmlndaaGreatTM14
import Derived.Test.YtgekjfpapmlndaaGreatTQQ1
import Derived.Test.YtgekjfpapmlndaaGreatTQQ2
namespace Go.Proofs.YtgekjfpapmlndaaGreat
set_option maxRecDepth 100000
set_option maxHeartbeats 32000000
open Go.RowKit
section
variable {T:Trel} {y:Nat->Nat->Int}
theorem Trel.bwE_le {next:Nat->Int} {i:Nat} {v:Nat}:∀ j q,q<j->(T.fr i q).toNat=v->T.bwE y next i j v<=capI (y i q) (next (T.to i q).toNat):=by
 intro j
 induction j with
 | zero=>intro q hq; omega
 | succ j ih =>
  intro q hq hf
  show (if (T.fr i j).toNat=v then _ else _)<=_
  by_cases e:q=j
  ·subst e
   rw [if_pos hf]
   exact Int.min_le_right _ _
  ·have:=ih q (by omega) hf
   split
   ·exact Int.le_trans (Int.min_le_left _ _) this
   ·exact this
theorem Trel.bwE_att {next:Nat->Int} {i:Nat} {v:Nat}:∀ j,T.bwE y next i j v=4611686018427387904∨∃ q,q<j/\(T.fr i q).toNat=v/\T.bwE y next i j v=capI (y i q) (next (T.to i q).toNat):=by
 intro j
 induction j with
 | zero=>exact .inl rfl
 | succ j ih =>
  have e:T.bwE y next i (j+1) v=if (T.fr i j).toNat=v then min (T.bwE y next i j v) (capI (y i j) (next (T.to i j).toNat)) else T.bwE y next i j v:=rfl
  rw [e]
  by_cases h:(T.fr i j).toNat=v
  ·rw [if_pos h]
   by_cases h2:T.bwE y next i j v<=capI (y i j) (next (T.to i j).toNat)
   ·rw [Int.min_eq_left h2]
    rcases ih with h3 | ⟨q,h3,h4,h5⟩
    ·exact .inl h3
    ·exact .inr ⟨q,by omega,h4,h5⟩
   ·rw [Int.min_eq_right (by omega)]
    exact .inr ⟨j,by omega,h,rfl⟩
  ·rw [if_neg h]
   rcases ih with h3 | ⟨q,h3,h4,h5⟩
   ·exact .inl h3
   ·exact .inr ⟨q,by omega,h4,h5⟩
theorem Trel.bw_step (T:Trel) (y:Nat->Nat->Int) {i:Nat} (hi:i<T.n) (v:Nat):T.bw y (T.n - i) v=T.bwE y (T.bw y (T.n - (i+1))) i (T.el i) v:=by
 have e:T.n - i=(T.n - (i+1))+1:=by omega
 rw [e]
 show T.bwE y (T.bw y (T.n - (i+1))) (T.n - (T.n - (i+1)+1)) (T.el (T.n - (T.n - (i+1)+1))) v=_
 rw [show T.n - (T.n - (i+1)+1)=i by omega]
theorem Trel.bw_le (hP:T.Proper) (hy:Costs T y):∀ r,r<=T.n->∀ v:Nat,(v:Int)<T.W (T.n - r)->T.bw y r v<=(r:Int)*2147483648:=by
 intro r
 induction r with
 | zero =>
  intro _ v hv
  have:=hP.wn
  rw [Nat.sub_zero] at hv
  obtain rfl:v=0:=by omega
  show (if 0=0 then (0:Int) else _)<=_
  rw [if_pos rfl]
  omega
 | succ r ih =>
  intro hr v hv
  obtain ⟨j,hj⟩:=Trel.outs_pos hP (i:=T.n - (r+1)) (by omega) (by omega) hv
  obtain ⟨hj1,hj2⟩:=Trel.outs_mem.1 hj
  have h2:=hP.shape.ins (T.n - (r+1)) (by omega) j hj1
  unfold Trel.inside at h2
  have e:T.n - (r+1)+1=T.n - r:=by omega
  rw [e] at h2
  have h3:=ih (by omega) (T.to (T.n - (r+1)) j).toNat (by omega)
  have h4:=Trel.bwE_le (T:=T) (y:=y) (next:=T.bw y r) (i:=T.n - (r+1)) (v:=v) _ j hj1 (by omega)
  have h5:=hy (T.n - (r+1)) (by omega) j hj1
  have h6:=hP.shape.n64
  have h7:capI (y (T.n - (r+1)) j) (T.bw y r (T.to (T.n - (r+1)) j).toNat)=y (T.n - (r+1)) j+T.bw y r (T.to (T.n - (r+1)) j).toNat:=yaJ (by omega)
  show T.bwE y (T.bw y r) (T.n - (r+1)) (T.el (T.n - (r+1))) v<=_
  rw [h7] at h4
  have h8:((r+1:Nat):Int)*2147483648=(r:Int)*2147483648+2147483648:=by omega
  omega
def Trel.lp (T:Trel) (y:Nat->Nat->Int) (i v j:Nat):Bool:=(T.fr i j == (v:Int)) && (y i j+T.bw y (T.n - (i+1)) (T.to i j).toNat == T.bw y (T.n - i) v)
theorem Trel.lp_ex (hP:T.Proper) (hy:Costs T y) {i v:Nat} (hi:i<T.n) (hv:(v:Int)<T.W i):∃ j,j<T.el i/\T.lp y i v j=true:=by
 have h1:=Trel.bw_le hP hy (T.n - i) (by omega) v (by rw [show T.n - (T.n - i)=i by omega]; exact hv)
 have h2:=hP.shape.n64
 rw [Trel.bw_step T y hi] at h1
 rcases Trel.bwE_att (T:=T) (y:=y) (next:=T.bw y (T.n - (i+1))) (i:=i) (v:=v) (T.el i) with h3 | ⟨q,h3,h4,h5⟩
 ·omega
 ·refine ⟨q,h3,?_⟩
  have h6:=hP.shape.ins i hi q h3
  unfold Trel.inside at h6
  unfold Trel.lp
  rw [Trel.bw_step T y hi,h5,Bool.and_eq_true,beq_iff_eq,beq_iff_eq];rw [h5] at h1
  unfold capI at h1 ⊢
  refine ⟨by omega,?_⟩
  split
  ·rename_i h7
   rw [if_pos h7] at h1
   omega
  ·rfl
def firstOf (p:Nat->Bool) (m:Nat):Nat:=((List.range m).find? p).getD m
theorem yaO {p:Nat->Bool} {m j:Nat} (hj:j<m) (hp:p j=true) (hn:∀ q,q<j->p q=false):firstOf p m=j:=by
 unfold firstOf
 have:(List.range m).find? p=some j:=by
  rw [List.find?_range_eq_some]
  exact ⟨hp,List.mem_range.2 hj,fun q hq=>by rw [hn q hq]; rfl⟩
 rw [this]
 rfl
def Trel.nd (T:Trel) (y:Nat->Nat->Int):Nat->Nat
 | 0=>0
 | i+1=>(T.to i (firstOf (T.lp y i (T.nd y i)) (T.el i))).toNat
def Trel.wd (T:Trel) (y:Nat->Nat->Int) (i:Nat):Int:=T.lb i (firstOf (T.lp y i (T.nd y i)) (T.el i))
theorem Trel.nd_step {i j:Nat} (hj:j<T.el i) (hp:T.lp y i (T.nd y i) j=true) (hn:∀ q,q<j->T.lp y i (T.nd y i) q=false):T.nd y (i+1)=(T.to i j).toNat/\T.wd y i=T.lb i j:=by
 have:=yaO hj hp hn
 exact ⟨by show (T.to i (firstOf _ _)).toNat=_; rw [this],by show T.lb i (firstOf _ _)=_; rw [this]⟩
end
def costW (C:Nat->Nat->Int) (x:Nat->Nat):Nat->Int
 | 0=>0
 | k+1=>costW C x k+C k (x k)
theorem yab {C:Nat->Nat->Int} {x x':Nat->Nat}:∀ k,(∀ t,t<k->x t=x' t)->costW C x k=costW C x' k
 | 0,_=>rfl
 | k+1,h=>by
  show costW C x k+C k (x k)=costW C x' k+C k (x' k)
  rw [yab k fun t ht=>h t (by omega),h k (by omega)]
def LexLt (f g:Nat->Int) (n:Nat):Prop:=∃ i,i<n/\(∀ t,t<i->f t=g t)/\f i<g i
section
variable {T:Trel} {C:Nat->Nat->Int}
theorem Trel.bw_path {x nd:Nat->Nat} (hp:∀ i,i<T.n->∃ j,j<T.el i/\T.fr i j=(nd i:Nat)/\T.lb i j=(x i:Nat)/\T.to i j=(nd (i+1):Nat)) (hn:nd T.n=0) :
  ∀ r,r<=T.n->T.bw (T.yOf C) r (nd (T.n - r))<=costW C x T.n - costW C x (T.n - r):=by
 intro r
 induction r with
 | zero =>
  intro _
  rw [Nat.sub_zero,hn]
  show (if 0=0 then (0:Int) else _)<=_
  rw [if_pos rfl]
  omega
 | succ r ih =>
  intro hr
  obtain ⟨j,hj,h1,h2,h3⟩:=hp (T.n - (r+1)) (by omega)
  have ih:=ih (by omega)
  have e:T.n - r=T.n - (r+1)+1:=by omega
  rw [e] at ih
  have h4:=Trel.bwE_le (T:=T) (y:=T.yOf C) (next:=T.bw (T.yOf C) r) (i:=T.n - (r+1)) (v:=nd (T.n - (r+1))) (T.el (T.n - (r+1))) j hj (by rw [h1,Int.toNat_natCast])
  rw [h3,Int.toNat_natCast] at h4
  have h5:T.yOf C (T.n - (r+1)) j=C (T.n - (r+1)) (x (T.n - (r+1))):=by unfold Trel.yOf; rw [h2,Int.toNat_natCast]
  rw [h5] at h4
  have h6:capI (C (T.n - (r+1)) (x (T.n - (r+1)))) (T.bw (T.yOf C) r (nd (T.n - (r+1)+1)))<=C (T.n - (r+1)) (x (T.n - (r+1)))+T.bw (T.yOf C) r (nd (T.n - (r+1)+1)):=by
   unfold capI
   split <;> omega
  have h7:costW C x (T.n - (r+1)+1)=costW C x (T.n - (r+1))+C (T.n - (r+1)) (x (T.n - (r+1))):=rfl
  show T.bwE (T.yOf C) (T.bw (T.yOf C) r) (T.n - (r+1)) (T.el (T.n - (r+1))) (nd (T.n - (r+1)))<=_
  omega
theorem ybu (hP:T.Proper) {x nd:Nat->Nat} (h0:nd 0=0) (hp:∀ i,i<T.n->∃ j,j<T.el i/\T.fr i j=(nd i:Nat)/\T.lb i j=(x i:Nat)/\T.to i j=(nd (i+1):Nat)):nd T.n=0:=by
 by_cases e:T.n=0
 ·rw [e]; exact h0
 ·obtain ⟨j,hj,_,_,h3⟩:=hp (T.n - 1) (by omega)
  have:=(hP.toL (i:=T.n - 1) (by omega) hj).1
  rw [h3,show T.n - 1+1=T.n by omega,hP.wn,Int.toNat_natCast] at this
  have e1:(1:Int).toNat=1:=rfl
  omega
def Trel.wdN (T:Trel) (y:Nat->Nat->Int) (i:Nat):Nat:=(T.wd y i).toNat
theorem Trel.wd_edge (hP:T.Proper) (hy:Costs T (T.yOf C)) {i:Nat} (hi:i<T.n) (hw:((T.nd (T.yOf C) i:Nat):Int)<T.W i) :
  ∃ j,j<T.el i/\T.lp (T.yOf C) i (T.nd (T.yOf C) i) j=true/\(∀ q,q<j->T.lp (T.yOf C) i (T.nd (T.yOf C) i) q=false)/\T.fr i j=(T.nd (T.yOf C) i:Nat)/\T.lb i j=(T.wdN (T.yOf C) i:Nat)/\T.to i j=(T.nd (T.yOf C) (i+1):Nat):=by
 have hex:∃ j,j<T.el i/\T.lp (T.yOf C) i (T.nd (T.yOf C) i) j=true/\∀ q,q<j->T.lp (T.yOf C) i (T.nd (T.yOf C) i) q=false:=by
  have:∀ m,m<=T.el i->(∃ j,j<m/\T.lp (T.yOf C) i (T.nd (T.yOf C) i) j=true)->∃ j,j<T.el i/\T.lp (T.yOf C) i (T.nd (T.yOf C) i) j=true/\∀ q,q<j->T.lp (T.yOf C) i (T.nd (T.yOf C) i) q=false:=by
   intro m
   induction m with
   | zero=>rintro _ ⟨j,hj,_⟩; omega
   | succ m ih =>
    rintro hm ⟨j,hj,hl⟩
    by_cases g:∃ j,j<m/\T.lp (T.yOf C) i (T.nd (T.yOf C) i) j=true
    ·exact ih (by omega) g
    ·refine ⟨j,by omega,hl,fun q hq=>?_⟩
     cases hb:T.lp (T.yOf C) i (T.nd (T.yOf C) i) q with
     | false=>rfl
     | true=>exact absurd ⟨q,by omega,hb⟩ g
  exact this (T.el i) (Nat.le_refl _) (Trel.lp_ex hP hy hi hw)
 obtain ⟨j,hj,hl,hn⟩:=hex
 obtain ⟨e1,e2⟩:=Trel.nd_step hj hl hn
 have hfr:T.fr i j=(T.nd (T.yOf C) i:Nat):=by
  unfold Trel.lp at hl
  rw [Bool.and_eq_true,beq_iff_eq] at hl
  exact hl.1
 refine ⟨j,hj,hl,hn,hfr,?_,?_⟩
 ·unfold Trel.wdN
  rw [e2,(hP.lbL hi hj).2]
 ·rw [e1,(hP.toL hi hj).2]
theorem Trel.nd_lt (hP:T.Proper) (hy:Costs T (T.yOf C)):∀ i,i<=T.n->((T.nd (T.yOf C) i:Nat):Int)<T.W i
 | 0,_=>by rw [hP.w0]; show ((0:Nat):Int)<1; omega
 | i+1,hi=>by
  obtain ⟨j,hj,_,_,_,_,h3⟩:=Trel.wd_edge hP hy (i:=i) (by omega) (Trel.nd_lt hP hy i (by omega))
  have:=(hP.toL (i:=i) (by omega) hj).1
  rw [h3] at this
  omega
theorem Trel.wd_path (hP:T.Proper) (hy:Costs T (T.yOf C)):T.PathW (T.wdN (T.yOf C)) :=
 ⟨T.nd (T.yOf C),rfl,fun i hi=>by
  obtain ⟨j,hj,_,_,h1,h2,h3⟩:=Trel.wd_edge hP hy hi (Trel.nd_lt hP hy i (by omega))
  exact ⟨j,hj,h1,h2,h3⟩⟩
theorem Trel.wd_cost (hP:T.Proper) (hy:Costs T (T.yOf C)):∀ i,i<=T.n->T.bw (T.yOf C) T.n 0=costW C (T.wdN (T.yOf C)) i+T.bw (T.yOf C) (T.n - i) (T.nd (T.yOf C) i)
 | 0,_=>by
  show T.bw (T.yOf C) T.n 0=0+T.bw (T.yOf C) (T.n - 0) 0
  rw [Nat.sub_zero]; omega
 | i+1,hi=>by
  obtain ⟨j,hj,hl,_,h1,h2,h3⟩:=Trel.wd_edge hP hy (i:=i) (by omega) (Trel.nd_lt hP hy i (by omega))
  unfold Trel.lp at hl
  rw [Bool.and_eq_true,beq_iff_eq,beq_iff_eq,h3,Int.toNat_natCast] at hl
  have h5:T.yOf C i j=C i (T.wdN (T.yOf C) i):=by show C i (T.lb i j).toNat=_; rw [h2,Int.toNat_natCast]
  rw [h5] at hl
  have ih:=Trel.wd_cost hP hy i (by omega)
  show _=costW C (T.wdN (T.yOf C)) i+C i (T.wdN (T.yOf C) i)+_
  omega
theorem Trel.wd_total (hP:T.Proper) (hy:Costs T (T.yOf C)):T.bw (T.yOf C) T.n 0=costW C (T.wdN (T.yOf C)) T.n:=by
 have h:=Trel.wd_cost hP hy T.n (Nat.le_refl _)
 have h0:=Trel.nd_lt hP hy T.n (Nat.le_refl _)
 rw [hP.wn] at h0
 have e:T.nd (T.yOf C) T.n=0:=by omega
 rw [e,Nat.sub_self] at h
 have:T.bw (T.yOf C) 0 0=0:=rfl
 omega
theorem Trel.wd_least (hP:T.Proper) (hy:Costs T (T.yOf C)) {x:Nat->Nat} (hx:T.PathW x) :
  T.bw (T.yOf C) T.n 0<=costW C x T.n/\(costW C x T.n=T.bw (T.yOf C) T.n 0->(∀ t,t<T.n->T.wdN (T.yOf C) t=x t)∨LexLt (fun t=>(T.wdN (T.yOf C) t:Int)) (fun t=>(x t:Int)) T.n):=by
 obtain ⟨nd,h0,hp⟩:=hx
 have hb:=Trel.bw_path (C:=C) hp (ybu hP h0 hp)
 refine ⟨?_,fun he=>?_⟩
 ·have:=hb T.n (Nat.le_refl _)
  rw [Nat.sub_self,h0] at this
  have e:costW C x 0=0:=rfl
  omega
 ·have key:∀ i,i<=T.n->LexLt (fun t=>(T.wdN (T.yOf C) t:Int)) (fun t=>(x t:Int)) T.n∨(∀ t,t<i->T.wdN (T.yOf C) t=x t)/\nd i=T.nd (T.yOf C) i:=by
   intro i
   induction i with
   | zero=>intro _; exact .inr ⟨fun t ht=>absurd ht (by omega),h0⟩
   | succ i ih =>
    intro hi
    rcases ih (by omega) with h | ⟨h1,h2⟩
    ·exact .inl h
    ·have hi:i<T.n:=by omega
     obtain ⟨j,hj,hl,hn,k1,k2,k3⟩:=Trel.wd_edge hP hy hi (Trel.nd_lt hP hy i (by omega))
     obtain ⟨q,hq,m1,m2,m3⟩:=hp i hi
     have hbi:=hb (T.n - (i+1)) (by omega)
     rw [show T.n - (T.n - (i+1))=i+1 by omega] at hbi
     have hc:=Trel.wd_cost hP hy i (by omega)
     have hcc:=yab (C:=C) i h1
     have h5:T.yOf C i q=C i (x i):=by unfold Trel.yOf; rw [m2,Int.toNat_natCast]
     have h7:costW C x (i+1)=costW C x i+C i (x i):=rfl
     have h4:=Trel.bwE_le (T:=T) (y:=T.yOf C) (next:=T.bw (T.yOf C) (T.n - (i+1))) (i:=i) (v:=nd i) (T.el i) q hq (by rw [m1,Int.toNat_natCast])
     rw [<-Trel.bw_step T (T.yOf C) hi,m3,Int.toNat_natCast,h5] at h4
     have h6:capI (C i (x i)) (T.bw (T.yOf C) (T.n - (i+1)) (nd (i+1)))<=C i (x i)+T.bw (T.yOf C) (T.n - (i+1)) (nd (i+1)):=by
      unfold capI
      split <;> omega
     rw [<-h2] at hc
     have hlq:T.lp (T.yOf C) i (T.nd (T.yOf C) i) q=true:=by
      unfold Trel.lp
      rw [Bool.and_eq_true,beq_iff_eq,beq_iff_eq,m1,m3,Int.toNat_natCast,h5,<-h2]
      exact ⟨rfl,by omega⟩
     rcases Nat.lt_trichotomy q j with g | g | g
     ·rw [hn q g] at hlq; cases hlq
     ·subst g
      refine .inr ⟨fun t ht=>?_,by omega⟩
      by_cases et:t=i
      ·subst et; omega
      ·exact h1 t (by omega)
     ·refine .inl ⟨i,hi,fun t ht=>by show ((T.wdN (T.yOf C) t:Nat):Int)=_; rw [h1 t ht],?_⟩
      have:=Trel.ordP (hP.sec i hi) q j g hq
      show ((T.wdN (T.yOf C) i:Nat):Int)<(x i:Nat)
      omega
  rcases key T.n (Nat.le_refl _) with h | ⟨h,_⟩
  ·exact .inr h
  ·exact .inl h
end
def AlongPost (T:Trel) (y:Nat->Nat->Int) (w:World) (e:Ending) (w':World):Prop :=
 ∃ gw,e=.returned (.tuple #[.slice (some ⟨gw,0,none⟩) T.n T.n,.int .i64 (T.bw y T.n 0)])/\w'.rowIs gw 3 T.n (fun i=>.int .i64 (T.wd y i))/\w.heap.size<=gw/\Below w.heap.size w w'
theorem Costs.of {T:Trel} {M:Nat} {ln:Nat->Nat} {C:Nat->Nat->Int} (hM:M=T.n) (hF:T.Fit ln) (hC:∀ i,i<M->∀ a,a<ln i->0<=C i a/\C i a<=2147483648):Costs T (T.yOf C):=fun i hi j hj=>by
 have:=hF i hi j hj
 exact hC i (by omega) _ (by omega)
theorem yay (T:Trel) (A B CA:Option Addr) (c d M cc:Nat) (ln:Nat->Nat) (C:Nat->Nat->Int) (w:World) (h:T.Reads w A B) (hP:T.Proper) (hSE:T.shapeE=0) (hC:IntRows w CA M ln C) (hM:M=T.n) (hF:T.Fit ln) (hpr:∀ i,i<M->∀ a,a<ln i->0<=C i a/\C i a<=2147483648) :
  Calls Tryz.prog 59 #[.agg #[.slice A T.nw c,.slice B T.n d],.slice CA M cc] w (AlongPost T (T.yOf C) w):=by
 have HY:=hid (Costs.of hM hF hpr)
 obtain ⟨y,hy⟩:∃ y,y=T.yOf C:=⟨_,rfl⟩
 have HYC:=hid hy
 rw [<-hy] at HY ⊢
 obtain ⟨O1,hO1⟩:∃ o,o=(Obj.cells #[.slice A T.nw c,.slice B T.n d] 53):=⟨_,rfl⟩
 obtain ⟨O2,hO2⟩:∃ o,o=(Obj.cells #[.slice CA M cc] 25):=⟨_,rfl⟩
 have hB0:Below (w.heap.size+2) ((w.alloc O1).alloc O2) ((w.alloc O1).alloc O2):=Below.refl _ _
 have HS:Hid (∀ w',Below (w.heap.size+2) ((w.alloc O1).alloc O2) w'->(w'.cell? ⟨w.heap.size,0,none⟩=some (.slice A T.nw c)/\w'.cell? ⟨w.heap.size,1,none⟩=some (.slice B T.n d))/\w'.cell? ⟨w.heap.size+1,0,none⟩=some (.slice CA M cc)/\Below w.heap.size w w'):=fun w' hB=>by
  have hB':=zeY hB
  have hB1:=ybh hB
  subst hO2
  have hr:=zfQ hB
  subst hO1
  exact ⟨⟨tbox hB1 rfl,tbox hB1 rfl⟩,hr.cell (i:=0) (by simp),hB'⟩
 obtain ⟨⟨p0,p1⟩,p2,hW⟩:=HS.out _ hB0
 have HR:=hid h
 have HP:=hid hP
 have HSE:=hid hSE
 have HC:=hid hC
 have HM:=hid hM
 have HF:=hid hF
 clear h hP hSE hC hM hF hpr hy
 go_enter Tryz.func59, Tryz.ntmps59
 go_wp2_with fail
 rw [<-hO1,<-hO2]
 refine (ybb T A B CA c d M cc (w.heap.size+1) ln C _ (HR.out.on hW) HP.out.shape (HC.out.on hW) HM.out HF.out p2).mono ?_
 rintro e w1 ⟨g1,F1,rfl,hg1,hT1,kb⟩
 have hB1:=zjb hB0 kb
 rw [<-HYC.out] at hT1;clear p0 p1 p2 hW kb hB0 hO1 hO2 hg1
 obtain ⟨⟨p0,p1⟩,p2,hW⟩:=HS.out _ hB1
 have hrows:=hT1.rows fun i hi j hj=>by have:=HY.out i hi j hj; omega
 go_wp2_with fail
 refine (yba T A B (some ⟨g1,0,none⟩) c d T.n y w1 (HR.out.on hW) HSE.out hrows HY.out).mono ?_
 rintro e w2 ⟨g2,F2,rfl,hg2,hT2,kb⟩
 have hB2:=zjb hB1 kb
 replace hT1:=hT1.on kb;clear p0 p1 p2 hW kb hB1 hrows hg2
 obtain ⟨⟨p0,p1⟩,p2,hW⟩:=HS.out _ hB2
 have hl2:=zja hB2
 have hn64:=HP.out.shape.n64
 have hmk:=fun W=>zah (P:=Tryz.prog) 22 3 _ 8 Tryz.underlying22 Tryz.infoInt rfl (T.n:Int) (by omega) (by omega) (by omega) W
 simp only [Int.toNat_natCast] at hmk
 have HT1:=hid hT1
 have HT2:=hid hT2
 have HP1:=hid p1
 have HW2:=hid hW
 have hl2':w.heap.size<w2.heap.size:=by omega
 clear hT1 hT2
 go_upto_region 5 with fail
 have hr3:=World.rowIs_made w2 (.int .i64 0) T.n 3
 have kb3:Below w2.heap.size w2 (w2.alloc (Obj.cells (madeCells #[Value.int .i64 0] T.n) 3)):=(Below.refl _ _).alloc (Nat.le_refl _) _
 obtain ⟨w3,hw3⟩:∃ W,W=w2.alloc (Obj.cells (madeCells #[Value.int .i64 0] T.n) 3):=⟨_,rfl⟩
 obtain ⟨gw,hgw⟩:∃ b,b=w2.heap.size:=⟨_,rfl⟩
 have HGW:=hid hgw
 rw [<-hgw] at hr3;rw [<-hw3] at hr3 kb3 ⊢;rw [<-hgw];replace p1:=cellS kb3 p1
 have hr4:w3.rowIs gw 3 T.n (fun i=>.int .i64 (if i<0 then T.wd y i else 0)):=hr3.congr fun i _=>by rw [if_neg (by omega)]
 clear hw3 hgw hmk hr3 p0 p2 hB2
 go_wp2
 go_loopg [10,32] T.n (fun gg vv iv wx=>∃ k:Nat,iv=.int .i64 (k:Nat)/\k<=T.n/\T.n<=k+gg/\vv=.int .i64 (T.nd y k:Nat)/\Hid ((T.nd y k:Int)<T.W k)/\wx.rowIs gw 3 T.n (fun i=>.int .i64 (if i<k then T.wd y i else 0))/\Below w2.heap.size w2 wx)
 case atStart=>exact ⟨0,rfl,by omega,by omega,rfl,by show (0:Int)<T.W 0; have:=HP.out.w0; omega,hr4,kb3⟩
 case round =>
  clear p1 hr4 kb3
  obtain ⟨gK,hgK⟩:∃ g,g=gk:=⟨_,rfl⟩
  subst hgK
  obtain ⟨k,rfl,hk,hkg,rfl,HV,hrow,hB⟩:=hrel
  have hk0:(0:Int)<=(k:Int):=by omega
  obtain ⟨v,hv⟩:∃ v,v=T.nd y k:=⟨_,rfl⟩
  have HVN:=hid hv
  rw [<-hv] at HV ⊢;clear hv
  by_cases hlt:k<T.n
  ·have hlt':(k:Int)<(T.n:Int):=by omega
   obtain ⟨eb,eo,E,ec,rfl,heb,x0w,he1,he2,he3,he4⟩:=HR.out.sec hlt
   have hW3:=onS HW2.out hB
   have x0:=cellS hW3 x0w
   have hel:=HP.out.shape.elb hlt
   have HEX:=hid (Trel.lp_ex HP.out HY.out hlt HV.out)
   obtain ⟨n1,hn1⟩:∃ n:Nat,n=T.el k:=⟨_,rfl⟩
   rw [<-hn1] at x0 hel
   have HN1:=hid hn1
   have HE3:=hid he3
   clear hn1 he3 he4 x0w he1 he2 hW3
   go_wp2
   go_loopg [10,39] n1 (fun gg vv jv wx=>∃ j:Nat,vv=.int .i64 (v:Nat)/\jv=.int .i64 (j:Nat)/\j<=n1/\n1<=j+gg/\Hid (∀ q,q<j->T.lp y k v q=false)/\wx.rowIs gw 3 T.n (fun i=>.int .i64 (if i<k then T.wd y i else 0))/\Below w2.heap.size w2 wx)
   case atStart=>exact ⟨0,rfl,rfl,by omega,by omega,fun q hq=>absurd hq (by omega),hrow,hB⟩
   case round =>
    clear x0 hrow hB
    obtain ⟨j,rfl,rfl,hj,hjg,HN,hrow,hB⟩:=hrel
    have hj0:(0:Int)<=(j:Int):=by omega
    by_cases hltj:j<n1
    ·have hltj':(j:Int)<(n1:Int):=by omega
     have hjel:j<T.el k:=by rw [<-HN1.out]; exact hltj
     have hW:=onS HW2.out hB
     obtain ⟨fb,fo,rfl,hfb,e0,e1,e2⟩:=zc1 ((Rd.below HE3.out hW (Nat.le_refl _)).mono hW.size) hjel
     obtain ⟨i1,i2,i3,i4⟩:=HP.out.shape.ins k hlt j hjel
     obtain ⟨fn,hfn⟩:∃ n:Nat,(n:Int)=T.fr k j:=⟨(T.fr k j).toNat,by omega⟩
     obtain ⟨tn,htn⟩:∃ n:Nat,(n:Int)=T.to k j:=⟨(T.to k j).toNat,by omega⟩
     have hkw:k<T.nw:=by have:=HP.out.shape.nw; omega
     have hk1:k+1<T.nw:=by have:=HP.out.shape.nw; omega
     obtain ⟨ab,ao,ad,hFa,hab,habl,aq,_⟩:=(HT2.out.on hB).at (v:=k) hkw (k:=v) (by have:=HV.out; omega)
     obtain ⟨bb,bo,bd,hFb,hbb,hbbl,bq,_⟩:=(HT2.out.on hB).at (v:=k+1) hk1 (k:=tn) (by omega)
     obtain ⟨cb,co,cd,hFc,hcb,hcbl,cq,_⟩:=(HT1.out.on hB).at (v:=k) hlt (k:=j) hjel
     have hrow1:=(HT2.out.on hB).row.cell hkw
     have hrow2:=(HT2.out.on hB).row.cell hk1
     have hrow3:=(HT1.out.on hB).row.cell hlt
     rw [hFa] at hrow1;rw [hFb] at hrow2;rw [hFc] at hrow3
     change wr.cell? ⟨g2,k,none⟩=some (.slice (some ⟨ab,ao,none⟩) (T.W k).toNat ad) at hrow1
     change wr.cell? ⟨g2,k+1,none⟩=some (.slice (some ⟨bb,bo,none⟩) (T.W (k+1)).toNat bd) at hrow2
     have d1:=Trel.bw_cost HY.out (T.n - k) (by omega) v
     have d2:=Trel.bw_cost HY.out (T.n - (k+1)) (by omega) tn
     have d3:=HY.out k hlt j hjel
     have HLP:Hid (T.lp y k v j=((T.fr k j == (v:Int)) && (y k j+T.bw y (T.n - (k+1)) tn == T.bw y (T.n - k) v))):=by
      show T.lp y k v j=_
      unfold Trel.lp
      rw [show (T.to k j).toNat=tn by omega]
     obtain ⟨av,hav⟩:∃ z,z=T.bw y (T.n - k) v:=⟨_,rfl⟩
     obtain ⟨bv,hbv⟩:∃ z,z=T.bw y (T.n - (k+1)) tn:=⟨_,rfl⟩
     obtain ⟨yv,hyv⟩:∃ z,z=y k j:=⟨_,rfl⟩
     obtain ⟨lb,hlb⟩:∃ z,z=T.lb k j:=⟨_,rfl⟩
     obtain ⟨n2,hn2⟩:∃ n,n=(T.W k).toNat:=⟨_,rfl⟩
     obtain ⟨n3,hn3⟩:∃ n,n=(T.W (k+1)).toNat:=⟨_,rfl⟩
     have htl:tn<n3:=by omega
     have hvl:v<n2:=by have:=HV.out; omega
     rw [<-hav] at aq d1 HLP;rw [<-hbv] at bq d2 HLP;rw [<-hyv] at cq d3 HLP;rw [<-hfn] at e0 HLP;rw [<-hlb] at e1;rw [<-htn] at e2;rw [<-hn2] at hrow1;rw [<-hn3] at hrow2;rw [<-HN1.out] at hrow3
     have HTN:Hid (tn=(T.to k j).toNat):=by show tn=_; omega
     have HLB:=hid hlb
     have HTW:Hid ((tn:Int)<T.W (k+1)):=by show (tn:Int)<_; omega
     unfold Cost at d1 d2
     have hwk1:IntKind.i64.wrap ((k:Int)+1)=(k:Int)+1:=IntWalk.i64_in _ (by omega)
     have hws:IntKind.i64.wrap (yv+bv)=yv+bv:=IntWalk.i64_in _ (by omega)
     have htl':(tn:Int)<(n3:Int):=by omega
     have hvl':(v:Int)<(n2:Int):=by omega
     have ht0:(0:Int)<=(tn:Int):=by omega
     have hv0:(0:Int)<=(v:Int):=by omega
     have hk1':(k:Int)+1<(T.nw:Int):=by omega
     have hkw':(k:Int)<(T.nw:Int):=by omega
     have hk01:(0:Int)<=(k:Int)+1:=by omega
     clear hFa hFb hFc hav hbv hyv hlb hfn htn i1 i2 i3 i4 hn2 hn3 hW d1 d2 d3
     go_upto_region 11 with fail
     obtain ⟨OB,hOB⟩:∃ o,o=(Obj.cells #[.int .i64 (fn:Int),.int .i64 lb,.int .i64 (tn:Int)] 90):=⟨_,rfl⟩
     have hq:∀ i v,(#[Value.int .i64 (fn:Int),.int .i64 lb,.int .i64 (tn:Int)]:Array Value)[i]?=some v->(wr.alloc OB).cell? ⟨wr.heap.size,i,none⟩=some v:=fun i v hv=>by subst hOB; exact tbox (Below.refl _ _) hv
     have s0:=hq 0 _ rfl
     have s1:=hq 1 _ rfl
     have s2:=hq 2 _ rfl
     have kb:Below wr.heap.size wr (wr.alloc OB):=(Below.refl _ _).alloc (Nat.le_refl _) _
     rw [<-hOB]
     obtain ⟨w50,hw50⟩:∃ W,W=wr.alloc OB:=⟨_,rfl⟩
     rw [<-hw50] at s0 s1 s2 kb ⊢
     have hxg:wr.heap.size≠gw:=by have:=hrow.lt; omega
     replace hB:=onS hB kb;replace hrow:=zab hrow kb;replace aq:=cellS kb aq;replace bq:=cellS kb bq;replace cq:=cellS kb cq;replace hrow1:=cellS kb hrow1;replace hrow2:=cellS kb hrow2;replace hrow3:=cellS kb hrow3
     obtain ⟨bx,hbx2⟩:∃ b,b=wr.heap.size:=⟨_,rfl⟩
     rw [<-hbx2] at s0 s1 s2 hxg ⊢;clear hq hw50 hOB kb e0 e1 e2 hbx2 hfb
     by_cases hfv:(fn:Int)=(v:Int)
     ·have b1:((fn:Int) == (v:Int))=true:=by simpa using hfv
      rw [b1,Bool.true_and] at HLP;clear hfv
      by_cases hsm:yv+bv=av
      ·have b2:(yv+bv == av)=true:=by simpa using hsm
       rw [b2] at HLP
       have HND:Hid (T.nd y (k+1)=tn/\T.wd y k=lb):=by
        have:=Trel.nd_step (T:=T) (y:=y) (i:=k) (j:=j) hjel (by rw [<-HVN.out]; exact HLP.out) (by rw [<-HVN.out]; exact HN.out)
        rw [<-HTN.out,<-HLB.out] at this
        exact this
       clear hsm
       go_wp2
       go_quiet (fail)
       go_upto_region 12 with fail
       obtain ⟨w51,hw51⟩:∃ W,W=w50.drewN nq:=⟨_,rfl⟩
       have kb:Below w50.heap.size w50 w51:=by rw [hw51]; exact zae (Below.refl _ _) _
       rw [<-hw51];replace hB:=onS hB kb;replace hrow:=zab hrow kb;replace s1:=cellS kb s1;replace s2:=cellS kb s2;clear kb hw51 aq bq cq hrow1 hrow2 hrow3 s0 b1 b2 hws
       refine wp_region_held_drew (S:=fun w'=>w'.cell? ⟨bx,1,none⟩=some (.int .i64 lb)/\w'.cell? ⟨bx,2,none⟩=some (.int .i64 (tn:Int))) (by kernel_rfl) ⟨cellS (Below.refl _ _).drew s1,cellS (Below.refl _ _).drew s2⟩ (fun hHeld=>?_)
       obtain ⟨w52,hw⟩:∃ W,W=World.drew w51:=⟨_,rfl⟩
       have kb:Below w51.heap.size w51 w52:=by rw [hw]; exact (Below.refl _ _).drew
       rw [<-hw] at hHeld ⊢;clear hw;replace hB:=onS hB kb;replace s1:=cellS kb s1;replace s2:=cellS kb s2;replace hrow:=zab hrow kb;clear kb
       refine tkq 0 (h:=tkq 1 (h:=tkq 2 (h:=tkq 3 (h:=tkq 4 (h:=tkq 5 (h:=tkq 6 (h:=?_)))))))
       refine rdq 7 (h:=fun K hK=>?_)
       have q0:=hrow.cell hlt
       have z0:=hrow.frozen k
       go_simp
       replace s1:=zaa (p:=⟨gw,k,none⟩) (u:=.int .i64 lb) s1 hxg;replace s2:=zaa (p:=⟨gw,k,none⟩) (u:=.int .i64 lb) s2 hxg
       have hr9:=hid (hrow.set k (.int .i64 lb))
       have hB9:=hid (hB.setCell (p:=⟨gw,k,none⟩) (by show w2.heap.size<=gw; rw [HGW.out]; exact Nat.le_refl _) (.int .i64 lb))
       clear q0 z0
       refine bkq hK ⟨s1,s2⟩ (h:=fun hHeld=>?_)
       clear hK K
       refine tkq 8 (h:=?_)
       refine wpAnyH_done (by kernel_rfl) ?_ _
       clear hHeld
       have hr10:=hid (hr9.out.congr (g:=fun i=>.int .i64 (if i<k+1 then T.wd y i else 0)) fun i _=>by
         by_cases e:i=k
         ·subst e; rw [if_pos rfl,if_pos (Nat.lt_succ_self _),HND.out.2]
         ·rw [if_neg e]
          by_cases e2:i<k
          ·rw [if_pos e2,if_pos (by omega)]
          ·rw [if_neg e2,if_neg (by omega)])
       have HVF:Hid ((T.nd y (k+1):Int)<T.W (k+1)):=by rw [HND.out.1]; exact HTW
       clear hr9 hB hrow s1 s2
       go_wp2
       go_roundg (gK - 1)
       case measure=>omega
       case rel=>exact ⟨k+1,by go_num,by omega,by omega,by rw [HND.out.1],HVF,hr10.out,hB9.out⟩
      ·have b2:(yv+bv == av)=false:=by simpa using hsm
       rw [b2] at HLP
       have HN2:Hid (∀ q,q<j+1->T.lp y k v q=false):=fun q hq=>by
        by_cases e:q=j
        ·subst e; exact HLP.out
        ·exact HN.out q (by omega)
       clear hsm
       go_wp2
       go_quiet (fail)
       go_wp2
       go_roundg (gk - 1)
       case measure=>omega
       case rel=>exact ⟨j+1,rfl,by go_num,by omega,by omega,HN2,zab hrow (zae (Below.refl _ _) _),zae hB _⟩
     ·have b1:((fn:Int) == (v:Int))=false:=by simpa using hfv
      rw [b1,Bool.false_and] at HLP
      have HN2:Hid (∀ q,q<j+1->T.lp y k v q=false):=fun q hq=>by
       by_cases e:q=j
       ·subst e; exact HLP.out
       ·exact HN.out q (by omega)
      clear hfv
      go_wp2
      go_quiet (fail)
      go_wp2
      go_roundg (gk - 1)
      case measure=>omega
      case rel=>exact ⟨j+1,rfl,by go_num,by omega,by omega,HN2,zab hrow (zae (Below.refl _ _) _),zae hB _⟩
    ·exfalso
     obtain ⟨q,hq,hq2⟩:=HEX.out
     have:=HN.out q (by have:=HN1.out; omega)
     rw [this] at hq2
     cases hq2
  ·have hlt':¬ (k:Int)<(T.n:Int):=by omega
   obtain rfl:k=T.n:=by omega
   have hnw0:0<T.nw:=by have:=HP.out.shape.nw; omega
   have hw0:=HP.out.w0
   obtain ⟨ab,ao,ad,hFa,hab,habl,aq,_⟩:=(HT2.out.on hB).at (v:=0) hnw0 (k:=0) (by show 0<(T.W 0).toNat; omega)
   have hrow1:=(HT2.out.on hB).row.cell hnw0
   rw [hFa] at hrow1
   change wr.cell? ⟨g2,0,none⟩=some (.slice (some ⟨ab,ao,none⟩) (T.W 0).toNat ad) at hrow1
   obtain ⟨n2,hn2⟩:∃ n,n=(T.W 0).toNat:=⟨_,rfl⟩
   rw [<-hn2] at hrow1;rw [Nat.add_zero,Nat.sub_zero] at aq
   obtain ⟨av,hav⟩:∃ z,z=T.bw y T.n 0:=⟨_,rfl⟩
   have HAV:=hid hav
   rw [<-hav] at aq
   have hn2':(0:Int)<(n2:Int):=by omega
   have hnw0':(0:Int)<(T.nw:Int):=by omega
   have hrowf:=hid (hrow.congr (g:=fun i=>.int .i64 (T.wd y i)) fun i hi=>by rw [if_pos hi])
   have hWf:=hid (onS HW2.out hB)
   have hgz:Hid (w.heap.size<=gw):=by show _<=gw; rw [HGW.out]; omega
   clear hFa hn2 hav hw0 hrow HVN HV
   go_wp2
   go_quiet (fail)
   go_wp2
   go_ret2
   exact ⟨gw,by rw [<-HAV.out]; rfl,zab hrowf.out (zae (Below.refl _ _) _),hgz.out,zae hWf.out _⟩
theorem yat (A B:Option Addr) (n c d:Nat) (f:Nat->Int) (w:World) (ha:IntsR w w.heap.size A n f) (hb:IntsR w w.heap.size B n f) (hn:n<=1048576) :
  Calls Tryz.prog 20 #[.slice A n c,.slice B n d] w fun e w'=>e=.returned (.int .i64 0)/\Below w.heap.size w w':=by
 have HA:=hid ha
 have HB:=hid hb
 clear ha hb
 go_enter Tryz.func20, Tryz.ntmps20
 go_wp2
 go_loopg [5] n (fun g iv wx=>∃ k:Nat,iv=.int .i64 (k:Nat)/\k<=n/\n<=k+g/\Below w.heap.size w wx)
 case atStart=>exact ⟨0,rfl,by omega,by omega,Below.refl _ _⟩
 case round =>
  obtain ⟨k,rfl,hk,hkg,hW⟩:=hrel
  have hk0:(0:Int)<=(k:Int):=by omega
  by_cases hlt:k<n
  ·have hlt':(k:Int)<(n:Int):=by omega
   have hd:decide ((k:Int)<(n:Int))=true:=by simp; omega
   obtain ⟨ab,ao,rfl,hab,x0⟩:=(HA.out.on hW).at hlt
   obtain ⟨bb,bo,rfl,hbb,y0⟩:=(HB.out.on hW).at hlt
   obtain ⟨x,hx⟩:∃ x,x=f k:=⟨_,rfl⟩
   rw [<-hx] at x0 y0;clear hx
   have h1:¬ x<x:=by omega
   have h2:¬ x > x:=by omega
   go_wp2
   go_quiet (fail)
   go_wp2
   go_quiet (fail)
   go_wp2
   go_roundg (gk - 1)
   case measure=>omega
   case rel=>exact ⟨k+1,by go_num,by omega,by omega,zae hW _⟩
  ·have hlt':¬ (k:Int)<(n:Int):=by omega
   have hd:decide ((k:Int)<(n:Int))=false:=by simp; omega
   have hnn:¬ (n:Int)<(n:Int):=by omega
   obtain rfl:k=n:=by omega
   go_wp2
   go_ret
   exact ⟨rfl,hW⟩
def PricedP (M:Nat) (ln:Nat->Nat) (C:Nat->Nat->Int):Prop:=∀ i,i<M->∀ a,a<ln i->0<=C i a/\C i a<=2147483648
instance (M:Nat) (ln:Nat->Nat) (C:Nat->Nat->Int):Decidable (PricedP M ln C):=by unfold PricedP; exact inferInstance
theorem yar (CA : Option Addr) (M cc : Nat) (ln : Nat → Nat) (C : Nat → Nat → Int) (w : World) (h : IntRows w CA M ln C) (hM : M ≤ 1048576) :
  Calls Tryz.prog 58 #[.slice CA M cc] w fun e w'=>e=.returned (.int .i64 (if PricedP M ln C then 0 else 6))/\Below w.heap.size w w':=by
 have HC:=hid h
 clear h
 have HYES:Hid ((∀ i,i<M->∀ a,a<ln i->0<=C i a/\C i a<=2147483648)->(0:Int)=if PricedP M ln C then 0 else 6):=fun h=>(if_pos h).symm
 have HNO:Hid ((¬ ∀ i,i<M->∀ a,a<ln i->0<=C i a/\C i a<=2147483648)->(6:Int)=if PricedP M ln C then 0 else 6):=fun h=>(if_neg h).symm
 obtain ⟨r,hr⟩:∃ r:Int,r=if PricedP M ln C then 0 else 6:=⟨_,rfl⟩
 rw [<-hr] at HYES HNO ⊢;clear hr
 go_enter Tryz.func58, Tryz.ntmps58
 go_wp2
 go_loopg [9] M (fun g iv wx=>∃ k:Nat,iv=.int .i64 (k:Nat)/\k<=M/\M<=k+g/\Hid (∀ i,i<k->∀ a,a<ln i->0<=C i a/\C i a<=2147483648)/\Below w.heap.size w wx)
 case atStart=>exact ⟨0,rfl,by omega,by omega,fun i hi=>absurd hi (by omega),Below.refl _ _⟩
 case round =>
  obtain ⟨gK,hgK⟩:∃ g,g=gk:=⟨_,rfl⟩
  subst hgK
  obtain ⟨k,rfl,hk,hkg,HD,hW⟩:=hrel
  have hk0:(0:Int)<=(k:Int):=by omega
  by_cases hlt:k<M
  ·have hlt' : (k : Int) < (M : Int) := by omega
   obtain ⟨b,o,R,rc,rfl,hb,x0,h1,h2,h3,h4⟩:=(HC.out.on hW) k hlt
   obtain ⟨n1,hn1⟩:∃ n,n=ln k:=⟨_,rfl⟩
   rw [<-hn1] at x0 h1 h3
   have HN1:=hid hn1
   have HR:=hid h3
   have hmx:n1<=9223372036854775807:=by unfold maxLen at h2; omega
   obtain ⟨wa,hwa⟩:∃ W,W=wr:=⟨_,rfl⟩
   subst hwa
   clear hn1 h3 h4 h1 h2
   go_wp2
   go_loopg [15] n1 (fun g jv wx=>∃ j:Nat,jv=.int .i64 (j:Nat)/\j<=n1/\n1<=j+g/\Hid (∀ a,a<j->0<=C k a/\C k a<=2147483648)/\Below wa.heap.size wa wx)
   case atStart=>exact ⟨0,rfl,by omega,by omega,fun i hi=>absurd hi (by omega),Below.refl _ _⟩
   case round =>
    obtain ⟨j,rfl,hj,hjg,HE,hV⟩:=hrel
    have hj0:(0:Int)<=(j:Int):=by omega
    by_cases hltj:j<n1
    ·have hltj':(j:Int)<(n1:Int):=by omega
     have hjl:j<ln k:=by rw [<-HN1.out]; exact hltj
     obtain ⟨rb,ro,rfl,hrb,x1⟩:=((HR.out:IntsR _ _ _ _ _).on hV).at hltj
     obtain ⟨x,hx⟩:∃ x,x=C k j:=⟨_,rfl⟩
     rw [<-hx] at x1
     have HX:=hid hx
     clear hx x0
     by_cases h1:x<0
     ·have hf:=hid (HNO.out fun h=>by have:=h k hlt j hjl; rw [<-HX.out] at this; omega)
      have hWf:=hid (onS hW hV)
      go_wp2
      go_ret
      exact ⟨by rw [<-hf.out]; rfl,hWf.out⟩
     ·by_cases h2:2147483648<x
      ·have hf:=hid (HNO.out fun h=>by have:=h k hlt j hjl; rw [<-HX.out] at this; omega)
       have hWf:=hid (onS hW hV)
       go_wp2
       go_ret
       exact ⟨by rw [<-hf.out]; rfl,hWf.out⟩
      ·have HE2:Hid (∀ a,a<j+1->0<=C k a/\C k a<=2147483648):=fun a ha=>by
        by_cases e:a=j
        ·subst e; rw [<-HX.out]; omega
        ·exact HE.out a (by omega)
       go_wp2
       go_roundg (gk - 1)
       case measure=>omega
       case rel=>exact ⟨j+1,by go_num,by omega,by omega,HE2,hV⟩
    ·have hltj':¬ (j:Int)<(n1:Int):=by omega
     have HD2:Hid (∀ i,i<k+1->∀ a,a<ln i->0<=C i a/\C i a<=2147483648):=fun i hi a ha=>by
      by_cases e:i=k
      ·subst e; exact HE.out a (by have:=HN1.out; omega)
      ·exact HD.out i (by omega) a ha
     have hWf:=onS hW hV
     clear x0
     go_wp2
     go_roundg (gK - 1)
     case measure=>omega
     case rel=>exact ⟨k+1,by go_num,by omega,by omega,HD2,hWf⟩
  ·have hlt':¬ (k:Int)<(M:Int):=by omega
   obtain rfl:k=M:=by omega
   have HF:=hid (HYES.out HD.out)
   clear HD
   go_wp2
   go_ret
   exact ⟨by rw [<-HF.out]; rfl,hW⟩
def Trel.fitB (T:Trel) (ln:Nat->Nat):Prop:=∀ i,i<T.n->∀ j,j<T.el i->T.lb i j<(ln i:Nat)
instance (T:Trel) (ln:Nat->Nat):Decidable (T.fitB ln):=by unfold Trel.fitB; exact inferInstance
def Trel.alongE (T:Trel) (M:Nat) (ln:Nat->Nat) (C:Nat->Nat->Int):Int :=
 if T.properE≠0 then T.properE else if M≠T.n then 3 else if ¬ T.fitB ln then 3 else if PricedP M ln C then 0 else 6
def AlongRes (T:Trel) (M:Nat) (ln:Nat->Nat) (C:Nat->Nat->Int) (w:World) (e:Ending) (w':World):Prop :=
 Below w.heap.size w w' /\
 ((T.alongE M ln C≠0/\e=.returned (.tuple #[.slice none 0 0,.int .i64 0,.int .i64 (T.alongE M ln C)])) ∨
 (T.alongE M ln C=0/\∃ gw,e=.returned (.tuple #[.slice (some ⟨gw,0,none⟩) T.n T.n,.int .i64 (T.bw (T.yOf C) T.n 0),.int .i64 0])/\w'.rowIs gw 3 T.n (fun i=>.int .i64 (T.wd (T.yOf C) i))))
theorem Trel.alongE_zero {T:Trel} {M:Nat} {ln:Nat->Nat} {C:Nat->Nat->Int} (h:T.alongE M ln C=0):T.properE=0/\M=T.n/\T.fitB ln/\PricedP M ln C:=by
 unfold Trel.alongE at h
 by_cases h1:T.properE=0
 ·rw [if_neg (by simpa using h1)] at h
  by_cases h2:M=T.n
  ·rw [if_neg (by simpa using h2)] at h
   by_cases h3:T.fitB ln
   ·rw [if_neg (by simpa using h3)] at h
    by_cases h4:PricedP M ln C
    ·exact ⟨h1,h2,h3,h4⟩
    ·rw [if_neg h4] at h; omega
   ·rw [if_pos h3] at h; omega
  ·rw [if_pos h2] at h; omega
 ·rw [if_pos h1] at h; exact absurd h h1
theorem Trel.shapeE_of {T:Trel} (hp:T.properE=0):T.shapeE=0:=by
 cases Decidable.em (T.shapeE=0) with
 | inl h=>exact h
 | inr h=>exact absurd (Trel.properE_shape h ▸ hp) h
theorem yah (T:Trel) (A B CA:Option Addr) (c d M cc:Nat) (ln:Nat->Nat) (C:Nat->Nat->Int) (w:World) (h:T.Reads w A B) (hC:IntRows w CA M ln C) :
  Calls Tryz.prog 56 #[.agg #[.slice A T.nw c,.slice B T.n d],.slice CA M cc] w (AlongRes T M ln C w):=by
 obtain ⟨RB,hRB⟩:∃ o,o=(Obj.cells #[.slice A T.nw c,.slice B T.n d] 53):=⟨_,rfl⟩
 have hB0:Below (w.heap.size+1) (w.alloc RB) (w.alloc RB):=Below.refl _ _
 have HS:Hid (∀ w',Below (w.heap.size+1) (w.alloc RB) w'->(w'.cell? ⟨w.heap.size,0,none⟩=some (.slice A T.nw c)/\w'.cell? ⟨w.heap.size,1,none⟩=some (.slice B T.n d))/\Below w.heap.size w w'):=fun w' hB=>by
  have hB':=zaO hB
  subst hRB
  exact ⟨⟨tbox hB rfl,tbox hB rfl⟩,hB'⟩
 obtain ⟨⟨p0,p1⟩,hW⟩:=HS.out _ hB0
 have HE0:Hid (T.properE≠0->T.properE=T.alongE M ln C):=fun h=>(if_pos h).symm
 have HE1:Hid (T.properE=0->M≠T.n->(3:Int)=T.alongE M ln C):=fun h h1=>by unfold Trel.alongE; rw [if_neg (by simpa using h),if_pos h1]
 have HE2:Hid (T.properE=0->M=T.n->(¬ T.fitB ln)->(3:Int)=T.alongE M ln C):=fun h h1 h2=>by unfold Trel.alongE; rw [if_neg (by simpa using h),if_neg (by simpa using h1),if_pos h2]
 have HE3:Hid (T.properE=0->M=T.n->T.fitB ln->(if PricedP M ln C then (0:Int) else 6)=T.alongE M ln C):=fun h h1 h2=>(show T.alongE M ln C=_ by unfold Trel.alongE; rw [if_neg (by simpa using h),if_neg (by simpa using h1),if_neg (by simpa using h2)]).symm
 have HRES:Hid (∀ w' r,Below w.heap.size w w'->r=T.alongE M ln C->r≠0->∀ e,e=.returned (.tuple #[.slice none 0 0,.int .i64 0,.int .i64 r])->AlongRes T M ln C w e w'):=fun w' r hB hr h0 e he=>by subst hr; exact ⟨hB,.inl ⟨h0,he⟩⟩
 go_enter Tryz.func56, Tryz.ntmps56
 go_wp2_with fail
 rw [<-hRB]
 refine (zd1 T A B c d _ (h.on hW)).mono ?_
 rintro e w1 ⟨rfl,kb⟩
 have hB1:=zav hB0 kb
 have HR:=hid h
 have HC:=hid hC
 clear p0 p1 hW kb hB0 hRB h hC
 obtain ⟨⟨p0,p1⟩,hW⟩:=HS.out _ hB1
 by_cases hp:T.properE=0
 ·have HP := hid (Trel.proper_of hp)
  have HP0:=hid hp
  rw [hp];clear hp
  by_cases hM:M=T.n
  ·have hMn:((M:Int) != (T.n:Int))=false:=by simp [hM]
   have HM:=hid hM
   have hn64:=HP.out.shape.n64
   obtain ⟨n,hn⟩:∃ n,n=T.n:=⟨_,rfl⟩
   have HN:=hid hn
   rw [<-hn] at hn64 p1 hMn ⊢;clear hM hn
   go_wp2
   go_loopg [29] n (fun g iv wx=>∃ k:Nat,iv=.int .i64 (k:Nat)/\k<=n/\n<=k+g/\Hid (∀ i,i<k->∀ j,j<T.el i->T.lb i j<(ln i:Nat))/\Below (w.heap.size+1) (w.alloc RB) wx)
   case atStart=>exact ⟨0,rfl,by omega,by omega,fun i hi=>absurd hi (by omega),hB1⟩
   case round =>
    clear p0 p1 hW hB1
    obtain ⟨gK,hgK⟩:∃ g,g=gk:=⟨_,rfl⟩
    subst hgK
    obtain ⟨k,rfl,hk,hkg,HD,hB⟩:=hrel
    have hk0:(0:Int)<=(k:Int):=by omega
    obtain ⟨⟨p0,p1⟩,hW⟩:=HS.out _ hB
    rw [<-HN.out] at p1
    by_cases hlt:k<n
    ·have hlt':(k:Int)<(n:Int):=by omega
     have hltn:k<T.n:=by rw [<-HN.out]; exact hlt
     have hltM:k<M:=by rw [HM.out]; exact hltn
     have hltM':(k:Int)<(M:Int):=by omega
     have hel:=HP.out.shape.elb hltn
     obtain ⟨eb,eo,E,ec,rfl,heb,x0w,he1,he2,he3w,he4⟩:=HR.out.sec hltn
     have x0:=cellS hW x0w
     obtain ⟨el,hele⟩:∃ n,n=T.el k:=⟨_,rfl⟩
     have HEL:=hid hele
     rw [<-hele] at hel x0
     have HE3R:=hid he3w
     clear hele he3w he4 he1 he2 x0w
     go_wp2
     go_loopg [36] el (fun g jv wx=>∃ j:Nat,jv=.int .i64 (j:Nat)/\j<=el/\el<=j+g/\Hid (∀ q,q<j->T.lb k q<(ln k:Nat))/\Below (w.heap.size+1) (w.alloc RB) wx)
     case atStart=>exact ⟨0,rfl,by omega,by omega,fun i hi=>absurd hi (by omega),hB⟩
     case round =>
      clear hB p0 p1 hW x0
      obtain ⟨j,rfl,hj,hjg,HE,hB⟩:=hrel
      have hj0:(0:Int)<=(j:Int):=by omega
      obtain ⟨⟨p0,p1⟩,hW⟩:=HS.out _ hB
      by_cases hltj:j<el
      ·have hltj':(j:Int)<(el:Int):=by omega
       obtain ⟨fb,fo,rfl,hfb,e0,e1,e2⟩:=zc1 ((Rd.below HE3R.out hW (Nat.le_refl _)).mono hW.size) (show j<T.el k by rw [<-HEL.out]; exact hltj)
       obtain ⟨cb,co,R,rc,rfl,hcb,y0,h1,h2,h3,h4⟩:=(HC.out.on hW) k hltM
       obtain ⟨lv,hlv⟩:∃ z,z=T.lb k j:=⟨_,rfl⟩
       obtain ⟨lk,hlk⟩:∃ z,z=ln k:=⟨_,rfl⟩
       rw [<-hlv] at e1;rw [<-hlk] at y0
       have HLV:=hid hlv
       have HLK:=hid hlk
       obtain ⟨fv,hfv⟩:∃ z,z=T.fr k j:=⟨_,rfl⟩
       obtain ⟨tv,htv⟩:∃ z,z=T.to k j:=⟨_,rfl⟩
       rw [<-hfv] at e0;rw [<-htv] at e2;clear hlv hlk h1 h2 h3 h4 p0 p1 hfv htv
       go_upto_region 12 with fail
       obtain ⟨OB,hOB⟩:∃ o,o=(Obj.cells #[.int .i64 fv,.int .i64 lv,.int .i64 tv] 90):=⟨_,rfl⟩
       have s1:(wr.alloc OB).cell? ⟨wr.heap.size,1,none⟩=some (.int .i64 lv):=by subst hOB; exact tbox (Below.refl _ _) rfl
       have kb:Below wr.heap.size wr (wr.alloc OB):=(Below.refl _ _).alloc (Nat.le_refl _) _
       rw [<-hOB]
       obtain ⟨w50,hw50⟩:∃ W,W=wr.alloc OB:=⟨_,rfl⟩
       rw [<-hw50] at s1 kb ⊢;replace hB:=zav hB kb;replace hW:=onS hW kb;replace y0:=cellS kb y0
       obtain ⟨bx,hbx2⟩:∃ b,b=wr.heap.size:=⟨_,rfl⟩
       rw [<-hbx2] at s1 ⊢;clear hbx2 hw50 hOB kb e0 e1 e2 hfb
       by_cases hge:lv ≥ (lk:Int)
       ·have b1:decide (lv ≥ (lk:Int))=true:=by simp; omega
        have b2:decide ((lk:Int)<=lv)=true:=by simp; omega
        have hf:=hid (HE2.out HP0.out HM.out fun hh=>by have:=hh k hltn j (by rw [<-HEL.out]; exact hltj); rw [<-HLV.out,<-HLK.out] at this; omega)
        go_wp2
        go_quiet (fail)
        go_wp2
        go_ret3
        exact HRES.out _ 3 (zae hW _) hf.out (by omega) _ rfl
       ·have b1:decide (lv ≥ (lk:Int))=false:=by simp; omega
        have b2:decide ((lk:Int)<=lv)=false:=by simp; omega
        have HE2:Hid (∀ q,q<j+1->T.lb k q<(ln k:Nat)):=fun q hq=>by
         by_cases e:q=j
         ·subst e; rw [<-HLV.out,<-HLK.out]; omega
         ·exact HE.out q (by omega)
        go_wp2
        go_quiet (fail)
        go_wp2
        go_roundg (gk - 1)
        case measure=>omega
        case rel=>exact ⟨j+1,by go_num,by omega,by omega,HE2,zae hB _⟩
      ·have hltj':¬ (j:Int)<(el:Int):=by omega
       have HD2:Hid (∀ i,i<k+1->∀ j,j<T.el i->T.lb i j<(ln i:Nat)):=fun i hi q hq=>by
        by_cases e:i=k
        ·subst e; exact HE.out q (by have:=HEL.out; omega)
        ·exact HD.out i (by omega) q hq
       go_wp2
       go_roundg (gK - 1)
       case measure=>omega
       case rel=>exact ⟨k+1,by go_num,by omega,by omega,HD2,hB⟩
    ·have hlt':¬ (k:Int)<(n:Int):=by omega
     have HFB:Hid (T.fitB ln):=fun i hi=>HD.out i (by have:=HN.out; omega)
     have hf:=hid (HE3.out HP0.out HM.out HFB.out)
     have hM20:M<=1048576:=by have:=HM.out; have:=HN.out; omega
     clear HD
     go_wp2_with fail
     refine (yar CA M cc ln C wr (HC.out.on hW) hM20).mono ?_
     rintro e w2 ⟨rfl,kb⟩
     have hB2:=zav hB kb
     clear kb p0 p1 hW hB
     obtain ⟨⟨p0,p1⟩,hW⟩:=HS.out _ hB2
     by_cases hpr:PricedP M ln C
     ·rw [if_pos hpr] at hf
      rw [if_pos hpr]
      have HPR:Hid (PricedP M ln C):=hpr
      have hFit:T.Fit ln:=fun i hi j hj=>⟨((HP.out.sec i hi).1 j hj).1,HFB.out i hi j hj⟩
      have HRR:=HR.out.on hW
      have HCC:=HC.out.on hW
      clear hpr
      go_wp2_with fail
      refine (yay T A B CA c d M cc ln C w2 HRR HP.out (Trel.shapeE_of HP0.out) HCC HM.out hFit HPR.out).mono ?_
      rintro e w3 ⟨gw,rfl,hrow,_,kb⟩
      have hW3:=hid (onS hW kb)
      obtain ⟨bv,hbv⟩:∃ z,z=T.bw (T.yOf C) T.n 0:=⟨_,rfl⟩
      have HBV:=hid hbv
      have HROW:=hid hrow
      rw [<-hbv];clear hbv hrow kb p0 p1 hW HRR HCC hB2 hFit
      go_wp2
      go_ret3
      exact ⟨hW3.out,.inr ⟨hf.out.symm,gw,by rw [<-HBV.out]; rfl,HROW.out⟩⟩
     ·rw [if_neg hpr] at hf
      rw [if_neg hpr];clear hpr
      go_wp2
      go_ret3
      exact HRES.out _ 6 hW hf.out (by omega) _ rfl
  ·have hMn:((M:Int) != (T.n:Int))=true:=by
    rw [bne_iff_ne]
    omega
   have hf:=hid (HE1.out HP0.out hM)
   clear hM
   go_wp2
   go_ret3
   exact HRES.out _ 3 hW hf.out (by omega) _ rfl
 ·have hne:(T.properE != 0)=true:=by simpa using hp
  have hf:=hid (HE0.out hp)
  have hp':=hid hp
  obtain ⟨x,hx⟩:∃ x,x=T.properE:=⟨_,rfl⟩
  rw [<-hx] at hne hf hp' ⊢;clear hp hx
  go_wp2
  go_ret3
  exact HRES.out _ x hW hf.out hp'.out _ rfl
def parT:Trel:=⟨2,fun _=>1,1,fun _=>2,fun _ _=>0,fun _ j=>if j=0 then 0 else 1,fun _ _=>0⟩
def parC:Nat->Nat->Int:=fun _ a=>if a=0 then 5 else 3
theorem yaP:parT.alongE 1 (fun _=>2) parC=0:=of_decide_eq_true (by kernel_rfl)
theorem ybD:parT.bw (parT.yOf parC) parT.n 0=3:=of_decide_eq_true (by kernel_rfl)
theorem ybE:parT.wd (parT.yOf parC) 0=1:=of_decide_eq_true (by kernel_rfl)
theorem ybc {w:World} {b1 b2 b3:Nat} (h1:b1<w.heap.size) (h2:b2<w.heap.size) (h3:b3<w.heap.size) (c0:w.cell? ⟨b1,0,none⟩=some (.int .i64 1)) (c1:w.cell? ⟨b1,1,none⟩=some (.int .i64 1))
  (e:∀ j,j<2->∀ k,k<3->w.cell? ⟨b2,j*3+k,none⟩=some (parT.edge 0 j k)) (s:w.cell? ⟨b3,0,none⟩=some (.slice (some ⟨b2,0,none⟩) 2 2)):parT.Reads w (some ⟨b1,0,none⟩) (some ⟨b3,0,none⟩):=by
 refine ⟨fun i hi=>⟨b1,0,rfl,h1,fun j hj=>?_⟩,fun i _=>⟨by show (-9223372036854775808:Int)<=1; omega,by show (1:Int)<=_; omega⟩,fun i hi=>?_,by show (2:Nat)<=_; omega,by show (1:Nat)<=_; omega,fun i _=>by show (2:Nat)<=_; omega⟩
 ·obtain rfl:j=0:=by omega
  have hi:i<2:=hi
  match i,hi with
  | 0,_=>exact c0
  | 1,_=>exact c1
 ·have hi:i<1:=hi
  obtain rfl:i=0:=by omega
  refine ⟨b3,0,some ⟨b2,0,none⟩,2,rfl,h3,s,Nat.le_refl _,by unfold maxLen; omega,fun j hj=>⟨b2,0,rfl,h2,fun k hk=>?_⟩,fun j hj=>?_⟩
  ·have:=e j hj k hk
   rwa [Nat.zero_add]
  ·unfold InI64
   refine ⟨⟨by show (-9223372036854775808:Int)<=0; omega,by show (0:Int)<=_; omega⟩,?_,⟨by show (-9223372036854775808:Int)<=0; omega,by show (0:Int)<=_; omega⟩⟩
   have e:parT.lb 0 j=if j=0 then (0:Int) else 1:=rfl
   rw [e]
   split <;> omega
theorem ybv {w:World} {b4 b5:Nat} (h4:b4<w.heap.size) (h5:b5<w.heap.size) (c0:w.cell? ⟨b4,0,none⟩=some (.int .i64 5)) (c1:w.cell? ⟨b4,1,none⟩=some (.int .i64 3)) (s:w.cell? ⟨b5,0,none⟩=some (.slice (some ⟨b4,0,none⟩) 2 2)) :
  IntRows w (some ⟨b5,0,none⟩) 1 (fun _=>2) parC:=fun i hi=>by
 obtain rfl:i=0:=by omega
 refine ⟨b5,0,some ⟨b4,0,none⟩,2,rfl,h5,s,Nat.le_refl _,by unfold maxLen; omega,fun j hj=>⟨b4,0,rfl,h4,fun k hk=>?_⟩,fun j hj=>?_⟩
 ·obtain rfl:k=0:=by omega
  match j,hj with
  | 0,_=>exact c0
  | 1,_=>exact c1
 ·unfold parC
  split <;> omega
theorem yac (w:World):Calls Tryz.prog 14 #[] w fun e w'=>e=.returned (.bool true)/\Below w.heap.size w w':=by
 go_enter Tryz.func14, Tryz.ntmps14
 go_wp2_with fail
 obtain ⟨O1,hO1⟩:∃ o,o=(Obj.cells #[Value.int .i64 1,Value.int .i64 1] 3):=⟨_,rfl⟩
 obtain ⟨O2,hO2⟩:∃ o,o=(Obj.cells #[Value.int .i64 0,Value.int .i64 0,Value.int .i64 0,Value.int .i64 0,Value.int .i64 1,Value.int .i64 0] 90):=⟨_,rfl⟩
 obtain ⟨O3,hO3⟩:∃ o,o=(Obj.cells #[Value.slice (some ⟨w.heap.size+1,0,none⟩) 2 2] 86):=⟨_,rfl⟩
 obtain ⟨O4,hO4⟩:∃ o,o=(Obj.cells #[Value.int .i64 5,Value.int .i64 3] 3):=⟨_,rfl⟩
 obtain ⟨O5,hO5⟩:∃ o,o=(Obj.cells #[Value.slice (some ⟨w.heap.size+1+1+1,0,none⟩) 2 2] 22):=⟨_,rfl⟩
 rw [<-hO1,<-hO2,<-hO3,<-hO4,<-hO5]
 have s1:(w.alloc O1).heap.size=w.heap.size+1:=by simp
 have s2:((w.alloc O1).alloc O2).heap.size=w.heap.size+1+1:=by simp
 have s3:(((w.alloc O1).alloc O2).alloc O3).heap.size=w.heap.size+1+1+1:=by simp
 have s4:((((w.alloc O1).alloc O2).alloc O3).alloc O4).heap.size=w.heap.size+1+1+1+1:=by simp
 have k1:Below w.heap.size w (w.alloc O1):=(Below.refl _ _).alloc (Nat.le_refl _) _
 have k2:Below (w.alloc O1).heap.size (w.alloc O1) ((w.alloc O1).alloc O2):=(Below.refl _ _).alloc (Nat.le_refl _) _
 have k3:Below ((w.alloc O1).alloc O2).heap.size ((w.alloc O1).alloc O2) (((w.alloc O1).alloc O2).alloc O3):=(Below.refl _ _).alloc (Nat.le_refl _) _
 have k4:Below (((w.alloc O1).alloc O2).alloc O3).heap.size (((w.alloc O1).alloc O2).alloc O3) ((((w.alloc O1).alloc O2).alloc O3).alloc O4):=(Below.refl _ _).alloc (Nat.le_refl _) _
 have k5:Below ((((w.alloc O1).alloc O2).alloc O3).alloc O4).heap.size ((((w.alloc O1).alloc O2).alloc O3).alloc O4) (((((w.alloc O1).alloc O2).alloc O3).alloc O4).alloc O5):=(Below.refl _ _).alloc (Nat.le_refl _) _
 have k45:=onS k4 k5
 have k345:=onS k3 k45
 have k2345:=onS k2 k345
 have hW:=onS k1 k2345
 have a1:∀ i v,(#[Value.int .i64 1,Value.int .i64 1]:Array Value)[i]?=some v->(w.alloc O1).cell? ⟨w.heap.size,i,none⟩=some v:=fun i v hv=>by rw [hO1]; rw [World.cell?_alloc_at _ _ _ _ rfl]; exact hv
 have a2:∀ i v,(#[Value.int .i64 0,Value.int .i64 0,Value.int .i64 0,Value.int .i64 0,Value.int .i64 1,Value.int .i64 0]:Array Value)[i]?=some v->((w.alloc O1).alloc O2).cell? ⟨w.heap.size+1,i,none⟩=some v:=fun i v hv=>by rw [hO2]; rw [World.cell?_alloc_at _ _ _ _ (by simp)]; exact hv
 have a3:(((w.alloc O1).alloc O2).alloc O3).cell? ⟨w.heap.size+1+1,0,none⟩=some (.slice (some ⟨w.heap.size+1,0,none⟩) 2 2):=by rw [hO3]; rw [World.cell?_alloc_at _ _ _ _ (by simp)]; rfl
 have a4:∀ i v,(#[Value.int .i64 5,Value.int .i64 3]:Array Value)[i]?=some v->((((w.alloc O1).alloc O2).alloc O3).alloc O4).cell? ⟨w.heap.size+1+1+1,i,none⟩=some v:=fun i v hv=>by rw [hO4]; rw [World.cell?_alloc_at _ _ _ _ (by simp)]; exact hv
 have a5:(((((w.alloc O1).alloc O2).alloc O3).alloc O4).alloc O5).cell? ⟨w.heap.size+1+1+1+1,0,none⟩=some (.slice (some ⟨w.heap.size+1+1+1,0,none⟩) 2 2):=by rw [hO5]; rw [World.cell?_alloc_at _ _ _ _ (by simp)]; rfl
 obtain ⟨w5,hw5⟩:∃ W,W=((((w.alloc O1).alloc O2).alloc O3).alloc O4).alloc O5:=⟨_,rfl⟩
 have s5:w5.heap.size=w.heap.size+1+1+1+1+1:=by rw [hw5]; simp
 rw [<-hw5] at k5 k45 k345 k2345 hW a5 ⊢
 have hreads:parT.Reads w5 (some ⟨w.heap.size,0,none⟩) (some ⟨w.heap.size+1+1,0,none⟩):=by
  refine ybc (by omega) (b2:=w.heap.size+1) (by omega) (by omega) (cellS k2345 (a1 0 _ rfl)) (cellS k2345 (a1 1 _ rfl)) (fun j hj k hk=>?_) (cellS k45 a3)
  refine cellS k345 (a2 (j*3+k) _ ?_)
  match j,hj,k,hk with
  | 0,_,0,_=>rfl
  | 0,_,1,_=>rfl
  | 0,_,2,_=>rfl
  | 1,_,0,_=>rfl
  | 1,_,1,_=>rfl
  | 1,_,2,_=>rfl
 have hcosts:IntRows w5 (some ⟨w.heap.size+1+1+1+1,0,none⟩) 1 (fun _=>2) parC:=ybv (b4:=w.heap.size+1+1+1) (by omega) (by omega) (cellS k5 (a4 0 _ rfl)) (cellS k5 (a4 1 _ rfl)) a5
 have HW:=hid hW
 clear a1 a2 a3 a4 a5 k1 k2 k3 k4 k5 k45 k345 k2345 s1 s2 s3 s4 s5 hw5 hO1 hO2 hO3 hO4 hO5 hW
 refine (yah parT _ _ _ 2 1 1 1 (fun _=>2) parC w5 hreads hcosts).mono ?_
 rintro e w6 ⟨kb,hpost⟩
 have hW6:=onS HW.out kb
 rcases hpost with ⟨h0,_⟩ | ⟨_,gw,rfl,hrow⟩
 ·exact absurd yaP h0
 have q0:=hrow.cell (i:=0) (by show 0<1; omega)
 rw [ybE] at q0;rw [ybD]
 change w6.cell? ⟨gw,0,none⟩=some (.int .i64 1) at q0
 have HW6:=hid hW6
 clear hrow hreads hcosts kb HW hW6
 have en:parT.n=1:=rfl
 rw [en]
 go_wp2
 go_ret
 exact ⟨rfl,HW6.out⟩
open Go.ChangeShapes Go.WideShapes Go.ChangeAt
def TabOk (q N m:Nat) (lc:Nat->Nat):Prop:=m=N/\∀ i,i<m->lc i=q
def VTabPost (P M:Int) (k:Nat) (f:Nat->Int) (N:Int) (n:Nat) (ln:Nat->Nat) (V:Nat->Nat->Int) (m:Nat) (lc:Nat->Nat) (w:World) (e:Ending) (w':World):Prop :=
 Below w.heap.size w w'/\∃ u,FirstErr (CodeErrs P M k f N n ln V) u/\((u≠0/\e=.returned (.tuple #[.pointer none,.int .i64 u])) ∨
  (u=0/\∃ P' M' N':Nat,P=P'/\M=M'/\N=N'/\((¬ TabOk (P' ^ M') N' m lc/\e=.returned (.tuple #[.pointer none,.int .i64 3])) ∨
   (TabOk (P' ^ M') N' m lc/\∃ g,GF w' w'.heap.size g P' M' (fun i=>(f i).toNat)/\e=.returned (.tuple #[.pointer (some ⟨g,0,none⟩),.int .i64 0])))))
theorem ybd (P M:Int) (A:Option Addr) (k c:Nat) (f:Nat->Int) (N:Int) (TC:Option Addr) (n d:Nat) (ln:Nat->Nat) (V:Nat->Nat->Int) (CA:Option Addr) (m cc:Nat) (lc:Nat->Nat) (C:Nat->Nat->Int) (w:World) (hr:IntsR w w.heap.size A k f) (h:IntRows w TC n ln V) (hC:IntRows w CA m lc C) :
  Calls Tryz.prog 57 #[.agg #[.int .i64 P,.int .i64 M,.slice A k c,.int .i64 N,.slice TC n d],.slice CA m cc] w (VTabPost P M k f N n ln V m lc w):=by
 have HI:=hid hr
 have HT:=hid h
 have HCC:=hid hC
 clear hr h hC
 have rf:=zai (w:=w) (a:=.int .i64 P) (b:=.int .i64 M) (c:=.slice A k c) (d:=.int .i64 N) (e:=.slice TC n d) (T := 27)
 have hB:Below w.heap.size w (w.alloc (.cells #[.int .i64 P,.int .i64 M,.slice A k c,.int .i64 N,.slice TC n d] 27)):=(Below.refl _ _).alloc (Nat.le_refl _) _
 obtain ⟨w1,hw1⟩:∃ W,W=w.alloc (.cells #[.int .i64 P,.int .i64 M,.slice A k c,.int .i64 N,.slice TC n d] 27):=⟨_,rfl⟩
 rw [<-hw1] at hB rf
 go_enter Tryz.func57, Tryz.ntmps57
 go_upto_region 1 with fail
 rw [<-hw1];clear hw1
 obtain ⟨b0,hb0⟩:∃ b,b=w.heap.size:=⟨_,rfl⟩
 rw [<-hb0] at rf;rw [<-hb0];clear hb0
 have HBOX:Hid (∀ X,Below w1.heap.size w1 X->(X.cell? ⟨b0,0,none⟩=some (.int .i64 P)/\X.cell? ⟨b0,1,none⟩=some (.int .i64 M)/\X.cell? ⟨b0,2,none⟩=some (.slice A k c)/\X.cell? ⟨b0,3,none⟩=some (.int .i64 N)/\X.cell? ⟨b0,4,none⟩=some (.slice TC n d))):=hid fun X hx =>
  ⟨(zab rf hx).cell (i:=0) (by omega),(zab rf hx).cell (i:=1) (by omega),(zab rf hx).cell (i:=2) (by omega),(zab rf hx).cell (i:=3) (by omega),(zab rf hx).cell (i:=4) (by omega)⟩
 have HB:=hid hB
 clear hB rf
 obtain ⟨q0,q1,q2,q3,q4⟩:=HBOX.out _ (Below.refl _ _)
 go_wp2_with fail
 refine (zcI P M A k c f N TC n d ln V w1 (HI.out.on HB.out) (HT.out.on HB.out)).mono ?_
 rintro e w2 ⟨u,rfl,hu,kb⟩
 have HU:=hid hu
 have KB:=hid kb
 clear kb hu q0 q1 q2 q3 q4
 by_cases hu0:u=0
 rotate_left
 ·have hub:(u != 0)=true:=by simpa using hu0
  have HU0:=hid hu0
  clear hu0
  go_wp2
  go_ret2
  exact ⟨onS HB.out KB.out,u,HU.out,.inl ⟨HU0.out,rfl⟩⟩
 subst hu0
 have hub:((0:Int) != 0)=false:=by simp
 obtain ⟨P',M',N',rfl,rfl,rfl,hC⟩:=zb5 HI.out HT.out HU.out
 have HC:=hid hC
 have hN64:=hC.ln2
 clear hC
 obtain ⟨q0,q1,q2,q3,q4⟩:=HBOX.out _ KB.out
 go_wp2_with fail
 refine (zbP (P':Int) (M':Int) A k c f w2 (HI.out.on (onS HB.out KB.out))).mono ?_
 rintro e w3 ⟨kb,hcase⟩
 rcases hcase with ⟨hbad,_⟩ | ⟨_,gf,P2,M2,hP2,hM2,rfl,_,hG⟩
 ·refine absurd ?_ hbad
  rcases HU.out with ⟨_,h9⟩ | ⟨h1,_⟩
  ·cases h9
  ·exact h1
 obtain rfl:P'=P2:=by omega
 obtain rfl:M'=M2:=by omega
 have HG:=hid hG.gf
 replace KB:=hid (onS KB.out kb);clear kb q0 q1 q2 q3 q4 hP2 hM2 hG hub
 obtain ⟨q,hq⟩:∃ q,q=P' ^ M':=⟨_,rfl⟩
 have HQ:=hid hq
 clear hq
 obtain ⟨q0,q1,q2,q3,q4⟩:=HBOX.out _ KB.out
 by_cases hmn:m=N'
 rotate_left
 ·have hmn':(((m:Nat):Int) != (N':Int))=true:=by simp; omega
  have HNO:Hid (¬ TabOk (P' ^ M') N' m lc):=hid fun h=>hmn h.1
  go_wp2
  go_ret2
  exact ⟨onS HB.out KB.out,0,HU.out,.inr ⟨rfl,P',M',N',rfl,rfl,rfl,.inl ⟨HNO.out,rfl⟩⟩⟩
 have hmn':(((m:Nat):Int) != (N':Int))=false:=by simp; omega
 have HMN:=hid hmn
 have hm64:m<=64:=by omega
 clear hmn
 go_upto_region 8 with fail
 clear q0 q1 q2 q3 q4
 go_loopg [29] m (fun gg iv wx=>∃ i:Nat,iv=.int .i64 (i:Nat)/\i<=m/\m<=i+gg/\Hid (∀ j,j<i->lc j=P' ^ M')/\Below w3.heap.size w3 wx)
 case atStart=>exact ⟨0,rfl,by omega,by omega,hid fun _ h=>absurd h (by omega),Below.refl _ _⟩
 case round =>
  obtain ⟨i,rfl,hi,hig,HLE,hBx⟩:=hrel
  have hi0:(0:Int)<=(i:Int):=by omega
  have K3:=hid hBx
  obtain ⟨w4,hw4⟩:∃ X,X=wr:=⟨_,rfl⟩
  subst hw4
  clear hBx
  by_cases hin:i<m
  ·have hin':(i:Int)<(m:Int):=by omega
   obtain ⟨b1,o1,RA,rc,hTe,hb1,x0,h1,h2,h3,h4⟩:=HCC.out i hin
   subst hTe
   replace x0:=cellS (onS HB.out (onS KB.out K3.out)) x0;clear h1 h2 h3 h4 hb1
   obtain ⟨li,hli⟩:∃ l,l=lc i:=⟨_,rfl⟩
   rw [<-hli] at x0
   have HLI:=hid hli
   clear hli
   go_wp2_with fail
   clear x0
   refine (zeN (HG.out.on K3.out)).mono ?_
   rintro e w5 ⟨he,kb⟩
   rw [<-HQ.out] at he
   subst he
   replace K3:=hid (onS K3.out kb);clear kb
   by_cases hlq:li=q
   ·have hne:(((li:Nat):Int) != (q:Int))=false:=by simp; omega
    have HLE2:Hid (∀ j,j<i+1->lc j=P' ^ M'):=hid fun j hj=>by
     by_cases e:j=i
     ·rw [e,<-HLI.out,hlq,HQ.out]
     ·exact HLE.out j (by omega)
    clear hlq
    go_wp2
    go_roundg (gk - 1)
    case measure=>omega
    case rel=>exact ⟨i+1,by go_num,by omega,by omega,HLE2,K3.out⟩
   ·have hne:(((li:Nat):Int) != (q:Int))=true:=by simp; omega
    have HNO:Hid (¬ TabOk (P' ^ M') N' m lc):=hid fun h=>hlq (by rw [HLI.out,HQ.out]; exact h.2 i hin)
    clear hlq
    go_wp2
    go_ret2
    exact ⟨onS HB.out (onS KB.out K3.out),0,HU.out,.inr ⟨rfl,P',M',N',rfl,rfl,rfl,.inl ⟨HNO.out,rfl⟩⟩⟩
  ·have hin':¬ (i:Int)<(m:Int):=by omega
   obtain rfl:m=i:=by omega
   have HOK:Hid (TabOk (P' ^ M') N' m lc):=hid ⟨HMN.out,HLE.out⟩
   go_wp2
   go_ret2
   exact ⟨onS HB.out (onS KB.out K3.out),0,HU.out,.inr ⟨rfl,P',M',N',rfl,rfl,rfl,.inr ⟨HOK.out,gf,HG.out.on K3.out,rfl⟩⟩⟩
theorem ybw {q n N:Nat} {add mul:Nat->Nat->Nat} {pv:Nat->Nat} {V R:Nat->Nat->Nat} {T:Trel} {y:Nat->Nat->Int × Int × Int} (hL:FieldLaws q add mul) (hS:SpanF q n N pv R) (hM:MinT q add mul n N pv R T) (hP:T.Proper) (hy:IsRen T y) (hsp:SameSp q add mul N n n V R) (x:Nat->Nat):(T.re y).PathW x↔InSp q add mul n N V x :=
 (hy.path hP).trans ((hM.path_iff hL hS).trans (hsp x).symm)
theorem ybB {q n N:Nat} {add mul:Nat->Nat->Nat} {pv:Nat->Nat} {R:Nat->Nat->Nat} {T:Trel} {y:Nat->Nat->Int × Int × Int} (hL:FieldLaws q add mul) (hM:MinT q add mul n N pv R T) (hy:IsRen T y) {i j:Nat} (hi:i<T.n) (hj:j<T.el i):0<=(y i j).2.1/\(y i j).2.1<(q:Int):=by
 obtain ⟨p,hp,e⟩:=hy.to_old hi hj
 obtain ⟨c,h1,h2⟩:=hM.inn i (by rw [<-hM.nN]; exact hi) p hp
 simp only [Trel.eD,secE,Prod.mk.injEq] at h2
 have h3:=zbb hL (V:=R) c n i
 have e2:(y i j).2.1=T.lb i p:=by rw [e]; rfl
 rw [e2,h2.2.1]
 omega
theorem Trel.wd_nat {T:Trel} {C:Nat->Nat->Int} (hP:T.Proper) (hy:Costs T (T.yOf C)) {i:Nat} (hi:i<T.n):T.wd (T.yOf C) i=((T.wdN (T.yOf C) i:Nat):Int):=by
 obtain ⟨j,hj,hl,hn,_,h2,_⟩:=Trel.wd_edge hP hy hi (Trel.nd_lt hP hy i (by omega))
 rw [(Trel.nd_step hj hl hn).2,h2]
def DecPost (P M : Int) (k : Nat) (f : Nat → Int) (N : Int) (n : Nat) (ln : Nat → Nat) (V : Nat → Nat → Int) (m : Nat) (lc : Nat → Nat) (C : Nat → Nat → Int) (w : World) (e : Ending) (w' : World) : Prop :=
  Below w.heap.size w w' ∧ ∃ u, FirstErr (CodeErrs P M k f N n ln V) u ∧ ((u ≠ 0 ∧ e = .returned (.tuple #[.slice none 0 0, .int .i64 0, .int .i64 u])) ∨
    (u = 0 ∧ ∃ P' M' N' : Nat, P = P' ∧ M = M' ∧ N = N' ∧ ((¬ TabOk (P' ^ M') N' m lc ∧ e = .returned (.tuple #[.slice none 0 0, .int .i64 0, .int .i64 3])) ∨
      (TabOk (P' ^ M') N' m lc/\¬ PricedP m lc C/\e=.returned (.tuple #[.slice none 0 0,.int .i64 0,.int .i64 6])) ∨
      (TabOk (P' ^ M') N' m lc/\PricedP m lc C/\∃ pv R,SpanF (P' ^ M') n N' pv R/\SameSp (P' ^ M') (addF P' M') (mulF P' M' fun i=>(f i).toNat) N' n n (natT V) R/\(∀ i j,i<j->j<n->lE (R i) N'≠lE (R j) N') /\
        ((¬ SizeIn (P' ^ M') n N' pv R/\e=.returned (.tuple #[.slice none 0 0,.int .i64 0,.int .i64 8])) ∨
         (SizeIn (P' ^ M') n N' pv R/\∃ g x,e=.returned (.tuple #[.slice (some ⟨g,0,none⟩) N' N',.int .i64 (costW C x N'),.int .i64 0])/\w'.rowIs g 3 N' (fun i=>.int .i64 ((x i:Nat):Int))/\w.heap.size<=g/\InSp (P' ^ M') (addF P' M') (mulF P' M' fun i=>(f i).toNat) n N' (natT V) x /\
           ∀ z,InSp (P' ^ M') (addF P' M') (mulF P' M' fun i=>(f i).toNat) n N' (natT V) z->costW C x N'<=costW C z N'/\(costW C z N'=costW C x N'->(∀ t,t<N'->x t=z t)∨LexLt (fun t=>((x t:Nat):Int)) (fun t=>((z t:Nat):Int)) N')))))))
theorem yaQ (P M:Int) (A:Option Addr) (k c:Nat) (f:Nat->Int) (N:Int) (TC:Option Addr) (n d:Nat) (ln:Nat->Nat) (V:Nat->Nat->Int) (CA:Option Addr) (m cc:Nat) (lc:Nat->Nat) (C:Nat->Nat->Int) (w:World) (hr:IntsR w w.heap.size A k f) (h:IntRows w TC n ln V) (hC:IntRows w CA m lc C) :
  Calls Tryz.prog 15 #[.agg #[.int .i64 P,.int .i64 M,.slice A k c,.int .i64 N,.slice TC n d],.slice CA m cc] w (DecPost P M k f N n ln V m lc C w):=by
 have HI:=hid hr
 have HT:=hid h
 have HCC:=hid hC
 clear hr h hC
 have rf:=zai (w:=w) (a:=.int .i64 P) (b:=.int .i64 M) (c:=.slice A k c) (d:=.int .i64 N) (e:=.slice TC n d) (T := 27)
 have hB:Below w.heap.size w (w.alloc (.cells #[.int .i64 P,.int .i64 M,.slice A k c,.int .i64 N,.slice TC n d] 27)):=(Below.refl _ _).alloc (Nat.le_refl _) _
 obtain ⟨w1,hw1⟩:∃ W,W=w.alloc (.cells #[.int .i64 P,.int .i64 M,.slice A k c,.int .i64 N,.slice TC n d] 27):=⟨_,rfl⟩
 rw [<-hw1] at hB rf
 go_enter Tryz.func15, Tryz.ntmps15
 go_upto_region 1 with fail
 rw [<-hw1];clear hw1
 obtain ⟨b0,hb0⟩:∃ b,b=w.heap.size:=⟨_,rfl⟩
 rw [<-hb0] at rf;rw [<-hb0];clear hb0
 have HBOX:Hid (∀ X,Below w1.heap.size w1 X->(X.cell? ⟨b0,0,none⟩=some (.int .i64 P)/\X.cell? ⟨b0,1,none⟩=some (.int .i64 M)/\X.cell? ⟨b0,2,none⟩=some (.slice A k c)/\X.cell? ⟨b0,3,none⟩=some (.int .i64 N)/\X.cell? ⟨b0,4,none⟩=some (.slice TC n d))):=hid fun X hx =>
  ⟨(zab rf hx).cell (i:=0) (by omega),(zab rf hx).cell (i:=1) (by omega),(zab rf hx).cell (i:=2) (by omega),(zab rf hx).cell (i:=3) (by omega),(zab rf hx).cell (i:=4) (by omega)⟩
 have HB:=hid hB
 clear hB rf
 obtain ⟨q0,q1,q2,q3,q4⟩:=HBOX.out _ (Below.refl _ _)
 go_wp2_with fail
 refine (ybd P M A k c f N TC n d ln V CA m cc lc C w1 (HI.out.on HB.out) (HT.out.on HB.out) (HCC.out.on HB.out)).mono ?_
 rintro e w2 ⟨kb,u,hu,he⟩
 have HU:=hid hu
 have KB:=hid kb
 clear kb hu q0 q1 q2 q3 q4
 rcases he with ⟨hu0,rfl⟩ | ⟨rfl,P',M',N',rfl,rfl,rfl,⟨hNO,rfl⟩ | ⟨hTO,g,_,rfl⟩⟩
 ·have hub:(u != 0)=true:=by simpa using hu0
  have HU0:=hid hu0
  clear hu0
  go_wp2
  go_ret3
  exact ⟨onS HB.out KB.out,u,HU.out,.inl ⟨HU0.out,rfl⟩⟩
 ·have hub:((3:Int) != 0)=true:=by simp
  have HNO:=hid hNO
  clear hNO
  go_wp2
  go_ret3
  exact ⟨onS HB.out KB.out,0,HU.out,.inr ⟨rfl,P',M',N',rfl,rfl,rfl,.inl ⟨HNO.out,rfl⟩⟩⟩
 have HTO:=hid hTO
 clear hTO
 have hub:((0:Int) != 0)=false:=by simp
 obtain ⟨P2,M2,N2,e1,e2,e3,hC⟩:=zb5 HI.out HT.out HU.out
 obtain rfl:P'=P2:=by omega
 obtain rfl:M'=M2:=by omega
 obtain rfl:N'=N2:=by omega
 have HC:=hid hC
 have hN64:=hC.ln2
 have hm:m<=64:=by have:=HTO.out.1; omega
 clear hC e1 e2 e3
 obtain ⟨pe,hpe⟩:∃ pe:Int,pe=if PricedP m lc C then 0 else 6:=⟨_,rfl⟩
 go_wp2_with fail
 refine (yar CA m cc lc C w2 (HCC.out.on (onS HB.out KB.out)) (by omega)).mono ?_
 rintro e w3 ⟨he,kb⟩
 rw [<-hpe] at he
 subst he
 have HPE:=hid hpe
 replace KB:=hid (onS KB.out kb);clear kb hpe
 by_cases hpr:PricedP m lc C
 rotate_left
 ·have h6:pe=6:=by rw [HPE.out,if_neg hpr]
  subst h6
  have hub6:((6:Int) != 0)=true:=by simp
  have HNP:=hid hpr
  clear hpr HPE
  go_wp2
  go_ret3
  exact ⟨onS HB.out KB.out,0,HU.out,.inr ⟨rfl,P',M',N',rfl,rfl,rfl,.inr (.inl ⟨HTO.out,HNP.out,rfl⟩)⟩⟩
 have h6:pe=0:=by rw [HPE.out,if_pos hpr]
 subst h6
 have HPR:=hid hpr
 clear hpr HPE
 obtain ⟨q0,q1,q2,q3,q4⟩:=HBOX.out _ KB.out
 go_wp2_with fail
 refine (zfw (P':Int) (M':Int) A k c f (N':Int) TC n d ln V w3 (HI.out.on (onS HB.out KB.out)) (HT.out.on (onS HB.out KB.out))).mono ?_
 rintro e w4 ⟨kb,u2,hu2,he⟩
 obtain rfl:u2=0:=FirstErr.unique hu2 HU.out
 replace KB:=hid (onS KB.out kb);clear kb hu2 q0 q1 q2 q3 q4
 rcases he with ⟨hu0,_⟩ | ⟨_,P2,M2,N2,hP2,hM2,hN2,pv,R,hSF,hSP,hDI,⟨hSZ,rfl⟩ | ⟨hSZ,T,y,WA,WB,wc,wd,hMT,hPR,hRE,hOUT,rfl⟩⟩
 ·exact absurd rfl hu0
 ·obtain rfl:P'=P2:=by omega
  obtain rfl:M'=M2:=by omega
  obtain rfl:N'=N2:=by omega
  have hub8:((8:Int) != 0)=true:=by simp
  have HSF:=hid hSF
  have HSP:=hid hSP
  have HDI:=hid hDI
  have HSZ:=hid hSZ
  clear hSF hSP hDI hSZ hP2 hM2 hN2
  go_wp2
  go_ret3
  exact ⟨onS HB.out (onS KB.out ((Below.refl _ _).alloc (Nat.le_refl _) _)),0,HU.out,.inr ⟨rfl,P',M',N',rfl,rfl,rfl,.inr (.inr ⟨HTO.out,HPR.out,pv,R,HSF.out,HSP.out,HDI.out,.inl ⟨HSZ.out,rfl⟩⟩)⟩⟩
 ·obtain rfl:P'=P2:=by omega
  obtain rfl:M'=M2:=by omega
  obtain rfl:N'=N2:=by omega
  have HSF:=hid hSF
  have HSP:=hid hSP
  have HDI:=hid hDI
  have HSZ:=hid hSZ
  have hL:=fieldLaws HC.out.fld
  have hUP:=hRE.proper hPR
  have hTn:(T.re y).n=N':=hMT.nN
  have HN:=hid hTn
  have HFIT:Hid ((T.re y).Fit lc):=hid fun i hi j hj=>by
   have h1:=ybB hL hMT hRE hi hj
   have h2:=HTO.out.2 i (by rw [HTO.out.1,<-hTn]; exact hi)
   rw [h2]
   exact h1
  have HPATH:Hid (∀ x,(T.re y).PathW x↔InSp (P' ^ M') (addF P' M') (mulF P' M' fun i=>(f i).toNat) n N' (natT V) x):=hid fun x=>ybw hL hSF hMT hPR hRE hSP x
  have HRD:=hid (hOUT.reads hPR hRE)
  have HUP:=hid hUP
  have htw:T.nw=(T.re y).nw:=rfl
  have htn:T.n=(T.re y).n:=rfl
  rw [htw,htn]
  obtain ⟨U,hU⟩:∃ U,U=T.re y:=⟨_,rfl⟩
  rw [<-hU] at HFIT HPATH HRD HUP HN ⊢;clear hSF hSP hDI hSZ hP2 hM2 hN2 hMT hPR hRE hOUT hUP hTn hL htw htn hU
  go_upto_region 8 with fail
  have rd:=World.rowIs_alloc w4 #[Value.slice WA U.nw wc,Value.slice WB U.n wd] 53 (fun j=>if j=0 then .slice WA U.nw wc else .slice WB U.n wd) (fun j hj=>by
   match j,hj with
   | 0,_=>rfl
   | 1,_=>rfl)
  have kb:Below w4.heap.size w4 (w4.alloc (Obj.cells #[Value.slice WA U.nw wc,Value.slice WB U.n wd] 53)):=(Below.refl _ _).alloc (Nat.le_refl _) _
  obtain ⟨w5,hw5⟩:∃ W,W=w4.alloc (Obj.cells #[Value.slice WA U.nw wc,Value.slice WB U.n wd] 53):=⟨_,rfl⟩
  rw [<-hw5] at rd kb ⊢
  obtain ⟨tb,htb⟩:∃ b,b=w4.heap.size:=⟨_,rfl⟩
  rw [<-htb] at rd ⊢
  have t0:=rd.cell (i:=0) (by simp)
  have t1:=rd.cell (i:=1) (by simp)
  rw [if_pos rfl] at t0
  rw [if_neg (by omega)] at t1
  have HRD5:=hid (HRD.out.1.on kb)
  replace KB:=hid (onS KB.out kb);clear kb rd hw5 htb
  go_wp2_with fail
  clear t0 t1
  refine (yay U WA WB CA wc wd m cc lc C w5 HRD5.out HUP.out HUP.out.shape.E0 (HCC.out.on (onS HB.out KB.out)) (by rw [HN.out]; exact HTO.out.1) HFIT.out HPR.out).mono ?_
  rintro e w6 ⟨gw,rfl,hrow,hgw,kb⟩
  have hm2:m=U.n:=by rw [HN.out]; exact HTO.out.1
  have HCO:=hid (Costs.of hm2 HFIT.out HPR.out)
  have hcost:=Trel.wd_total HUP.out HCO.out
  rw [HN.out] at hcost hrow ⊢;rw [hcost]
  have HG1:Hid (w6.rowIs gw 3 N' (fun i=>.int .i64 ((U.wdN (U.yOf C) i:Nat):Int))):=hid (hrow.congr fun i hi=>by rw [Trel.wd_nat HUP.out HCO.out (by rw [HN.out]; exact hi)])
  have HIN:Hid (InSp (P' ^ M') (addF P' M') (mulF P' M' fun i=>(f i).toNat) n N' (natT V) (U.wdN (U.yOf C))):=hid ((HPATH.out _).1 (Trel.wd_path HUP.out HCO.out))
  have HLE:Hid (∀ z,InSp (P' ^ M') (addF P' M') (mulF P' M' fun i=>(f i).toNat) n N' (natT V) z->costW C (U.wdN (U.yOf C)) N'<=costW C z N'/\(costW C z N'=costW C (U.wdN (U.yOf C)) N'->(∀ t,t<N'->U.wdN (U.yOf C) t=z t)∨LexLt (fun t=>((U.wdN (U.yOf C) t:Nat):Int)) (fun t=>((z t:Nat):Int)) N')):=hid fun z hz=>by
   have h:=Trel.wd_least HUP.out HCO.out ((HPATH.out z).2 hz)
   rw [HN.out,hcost] at h
   exact h
  have HGW:Hid (w.heap.size<=gw):=hid (Nat.le_trans (onS HB.out KB.out).size hgw)
  obtain ⟨x,hx⟩:∃ x,x=U.wdN (U.yOf C):=⟨_,rfl⟩
  rw [<-hx] at HG1 HIN HLE ⊢
  obtain ⟨cst,hcs⟩:∃ s,s=costW C x N':=⟨_,rfl⟩
  rw [<-hcs]
  have HCS:=hid hcs
  replace KB:=hid (onS KB.out kb);clear kb hrow hgw hcost hm2 hx hcs
  go_wp2
  go_ret3
  exact ⟨onS HB.out KB.out,0,HU.out,.inr ⟨rfl,P',M',N',rfl,rfl,rfl,.inr (.inr ⟨HTO.out,HPR.out,pv,R,HSF.out,HSP.out,HDI.out,.inr ⟨HSZ.out,gw,x,by rw [<-HCS.out]; rfl,HG1.out,HGW.out,HIN.out,HLE.out⟩⟩)⟩⟩
def SizeV (P M:Int) (k:Nat) (f:Nat->Int) (N:Int) (n:Nat) (ln:Nat->Nat) (V:Nat->Nat->Int) (v:Int):Prop :=
 ∃ u,FirstErr (CodeErrs P M k f N n ln V) u/\((u≠0/\v=u)∨(u=0/\∃ P' M' N':Nat,P=P'/\M=M'/\N=N'/\∃ pr se:Nat->Nat,ProfIs (P' ^ M') (addF P' M') (mulF P' M' fun i=>(f i).toNat) n N' (natT V) pr/\SecsIs (P' ^ M') (addF P' M') (mulF P' M' fun i=>(f i).toNat) n N' (natT V) se/\((SizeOk (P' ^ M') N' pr se/\v=0)∨(¬ SizeOk (P' ^ M') N' pr se/\v=8))))
theorem yaR (P M:Int) (A:Option Addr) (k c:Nat) (f:Nat->Int) (N:Int) (TC:Option Addr) (n d:Nat) (ln:Nat->Nat) (V:Nat->Nat->Int) (w:World) (hr:IntsR w w.heap.size A k f) (h:IntRows w TC n ln V) :
  Calls Tryz.prog 61 #[.agg #[.int .i64 P,.int .i64 M,.slice A k c,.int .i64 N,.slice TC n d]] w fun e w'=>Below w.heap.size w w'/\∃ v,e=.returned (.int .i64 v)/\SizeV P M k f N n ln V v:=by
 have HI:=hid hr
 have HT:=hid h
 clear hr h
 have rf:=zai (w:=w) (a:=.int .i64 P) (b:=.int .i64 M) (c:=.slice A k c) (d:=.int .i64 N) (e:=.slice TC n d) (T := 27)
 have hB:Below w.heap.size w (w.alloc (.cells #[.int .i64 P,.int .i64 M,.slice A k c,.int .i64 N,.slice TC n d] 27)):=(Below.refl _ _).alloc (Nat.le_refl _) _
 obtain ⟨w1,hw1⟩:∃ W,W=w.alloc (.cells #[.int .i64 P,.int .i64 M,.slice A k c,.int .i64 N,.slice TC n d] 27):=⟨_,rfl⟩
 rw [<-hw1] at hB rf
 go_enter Tryz.func61, Tryz.ntmps61
 go_upto_region 1 with fail
 rw [<-hw1];clear hw1
 obtain ⟨b0,hb0⟩:∃ b,b=w.heap.size:=⟨_,rfl⟩
 rw [<-hb0] at rf;rw [<-hb0];clear hb0
 have HBOX:Hid (∀ X,Below w1.heap.size w1 X->(X.cell? ⟨b0,0,none⟩=some (.int .i64 P)/\X.cell? ⟨b0,1,none⟩=some (.int .i64 M)/\X.cell? ⟨b0,2,none⟩=some (.slice A k c)/\X.cell? ⟨b0,3,none⟩=some (.int .i64 N)/\X.cell? ⟨b0,4,none⟩=some (.slice TC n d))):=hid fun X hx =>
  ⟨(zab rf hx).cell (i:=0) (by omega),(zab rf hx).cell (i:=1) (by omega),(zab rf hx).cell (i:=2) (by omega),(zab rf hx).cell (i:=3) (by omega),(zab rf hx).cell (i:=4) (by omega)⟩
 have HB:=hid hB
 clear hB rf
 obtain ⟨q0,q1,q2,q3,q4⟩:=HBOX.out _ (Below.refl _ _)
 go_wp2_with fail
 refine (zgQ P M A k c f N TC n d ln V w1 (HI.out.on HB.out) (HT.out.on HB.out)).mono ?_
 rintro e w2 ⟨kb,u,hu,he⟩
 have hef:∃ x v:Int,e=.returned (.tuple #[.int .i64 x,.int .i64 v])/\SizeV P M k f N n ln V v:=by
  rcases he with ⟨h0,h1⟩ | ⟨h0,P',M',N',e1,e2,e3,pr,se,h1,h2,⟨h3,h4⟩ | ⟨h3,h4⟩⟩
  ·exact ⟨_,_,h1,u,hu,.inl ⟨h0,rfl⟩⟩
  ·exact ⟨_,_,h4,u,hu,.inr ⟨h0,P',M',N',e1,e2,e3,pr,se,h1,h2,.inl ⟨h3,rfl⟩⟩⟩
  ·exact ⟨_,_,h4,u,hu,.inr ⟨h0,P',M',N',e1,e2,e3,pr,se,h1,h2,.inr ⟨h3,rfl⟩⟩⟩
 obtain ⟨x,v,rfl,hv⟩:=hef
 have HV:=hid hv
 have KB:=hid kb
 clear kb hu he hv q0 q1 q2 q3 q4
 go_wp2
 go_ret
 exact ⟨onS HB.out KB.out,v,rfl,HV.out⟩
theorem yaS {q n N:Nat} {add mul:Nat->Nat->Nat} {pv:Nat->Nat} {V R:Nat->Nat->Nat} {pr se:Nat->Nat} (hL:FieldLaws q add mul) (h:SpanF q n N pv R) (hV:∀ i,i<n->∀ j,j<N->V i j<q) (hS:SameSp q add mul N n n V R) (hd:∀ i j,i<j->j<n->lE (R i) N≠lE (R j) N)
  (hp:ProfIs q add mul n N V pr) (hs:SecsIs q add mul n N V se):SizeOk q N pr se↔SizeIn q n N pv R:=by
 have e1:powS q pr (N+1)=powS q (fun i=>cntB (actA pv R N i) n) (N+1):=zcO (N+1) fun i hi=>by
  obtain ⟨a,b,ha,hb,e⟩:=hp i hi
  have:=SpanF.prof hL h hV hS hd (i:=i) (by omega) ha hb
  omega
 have e2:powS q se N=powS q (fun i=>cntB (actE pv R N i) n) N:=zcO N fun i hi=>by
  obtain ⟨a,b,ha,hb,e⟩:=hs i hi
  have:=SpanF.sects hL h hV hS hd hi ha hb
  omega
 unfold SizeOk SizeIn
 rw [e1,e2]
theorem yaF (P M:Int) (A:Option Addr) (k c:Nat) (f:Nat->Int) (N:Int) (TC:Option Addr) (n d:Nat) (ln:Nat->Nat) (V:Nat->Nat->Int) (U:Option Addr) (l uc:Nat) (u:Nat->Int) (w:World) (hr:IntsR w w.heap.size A k f) (h:IntRows w TC n ln V) (hu:IntsR w w.heap.size U l u) (hl:l<=9223372036854775807) :
  Calls Tryz.prog 37 #[.agg #[.int .i64 P,.int .i64 M,.slice A k c,.int .i64 N,.slice TC n d],.slice U l uc] w fun e w'=>Below w.heap.size w w'/\∃ v,e=.returned (.int .i64 v)/\WordV P M k f N n ln V l u v:=by
 have HI:=hid hr
 have HT:=hid h
 have HU:=hid hu
 clear hr h hu
 have rf:=zai (w:=w) (a:=.int .i64 P) (b:=.int .i64 M) (c:=.slice A k c) (d:=.int .i64 N) (e:=.slice TC n d) (T := 27)
 have hB:Below w.heap.size w (w.alloc (.cells #[.int .i64 P,.int .i64 M,.slice A k c,.int .i64 N,.slice TC n d] 27)):=(Below.refl _ _).alloc (Nat.le_refl _) _
 obtain ⟨w1,hw1⟩:∃ W,W=w.alloc (.cells #[.int .i64 P,.int .i64 M,.slice A k c,.int .i64 N,.slice TC n d] 27):=⟨_,rfl⟩
 rw [<-hw1] at hB rf
 go_enter Tryz.func37, Tryz.ntmps37
 go_upto_region 1 with fail
 rw [<-hw1];clear hw1
 obtain ⟨b0,hb0⟩:∃ b,b=w.heap.size:=⟨_,rfl⟩
 rw [<-hb0] at rf;rw [<-hb0];clear hb0
 have HBOX:Hid (∀ X,Below w1.heap.size w1 X->(X.cell? ⟨b0,0,none⟩=some (.int .i64 P)/\X.cell? ⟨b0,1,none⟩=some (.int .i64 M)/\X.cell? ⟨b0,2,none⟩=some (.slice A k c)/\X.cell? ⟨b0,3,none⟩=some (.int .i64 N)/\X.cell? ⟨b0,4,none⟩=some (.slice TC n d))):=hid fun X hx =>
  ⟨(zab rf hx).cell (i:=0) (by omega),(zab rf hx).cell (i:=1) (by omega),(zab rf hx).cell (i:=2) (by omega),(zab rf hx).cell (i:=3) (by omega),(zab rf hx).cell (i:=4) (by omega)⟩
 have HB:=hid hB
 clear hB rf
 obtain ⟨q0,q1,q2,q3,q4⟩:=HBOX.out _ (Below.refl _ _)
 go_wp2_with fail
 refine (zbz P M A k c f N TC n d ln V w1 (HI.out.on HB.out) (HT.out.on HB.out)).mono ?_
 rintro e w2 ⟨v,rfl,hv,kb⟩
 have HV:=hid hv
 have KB:=hid kb
 clear kb hv q0 q1 q2 q3 q4
 by_cases hv0:v=0
 rotate_left
 ·have hub:(v == 0)=false:=by simpa using hv0
  have HV0:=hid hv0
  clear hv0
  go_wp2
  go_ret
  exact ⟨onS HB.out KB.out,v,rfl,v,HV.out,.inl ⟨HV0.out,rfl⟩⟩
 subst hv0
 have hub:((0:Int) == 0)=true:=by simp
 obtain ⟨P',M',N',rfl,rfl,rfl,hC⟩:=zb5 HI.out HT.out HV.out
 have hfo:=hC.fld.1
 have HC:=hid hC
 clear hC
 obtain ⟨q0,q1,q2,q3,q4⟩:=HBOX.out _ KB.out
 go_wp2_with fail
 refine (yaI P' M' A k c U l uc N' u w2 hfo (HU.out.on (onS HB.out KB.out)) hl).mono ?_
 rintro e w3 ⟨v,rfl,hv,kb⟩
 have HW:=hid hv
 replace KB:=hid (onS KB.out kb);clear hv kb q0 q1 q2 q3 q4
 go_wp2
 go_ret
 exact ⟨onS HB.out KB.out,v,rfl,0,HV.out,.inr ⟨rfl,P',M',N',rfl,rfl,rfl,HW.out⟩⟩
def HardV (P M:Int) (k:Nat) (f:Nat->Int) (N:Int) (n:Nat) (ln:Nat->Nat) (V:Nat->Nat->Int) (l:Nat) (u:Nat->Int) (v:Int):Prop :=
 ∃ x,WordV P M k f N n ln V l u x/\((x≠0/\v=x)∨(x=0/\SizeV P M k f N n ln V v))
theorem ybe (P M:Int) (A:Option Addr) (k c:Nat) (f:Nat->Int) (N:Int) (TC:Option Addr) (n d:Nat) (ln:Nat->Nat) (V:Nat->Nat->Int) (U:Option Addr) (l uc:Nat) (u:Nat->Int) (w:World) (hr:IntsR w w.heap.size A k f) (h:IntRows w TC n ln V) (hu:IntsR w w.heap.size U l u) (hl:l<=9223372036854775807) :
  Calls Tryz.prog 53 #[.agg #[.int .i64 P,.int .i64 M,.slice A k c,.int .i64 N,.slice TC n d],.slice U l uc] w fun e w'=>Below w.heap.size w w'/\∃ v,e=.returned (.int .i64 v)/\HardV P M k f N n ln V l u v:=by
 have HI:=hid hr
 have HT:=hid h
 have HU:=hid hu
 clear hr h hu
 have rf:=zai (w:=w) (a:=.int .i64 P) (b:=.int .i64 M) (c:=.slice A k c) (d:=.int .i64 N) (e:=.slice TC n d) (T := 27)
 have hB:Below w.heap.size w (w.alloc (.cells #[.int .i64 P,.int .i64 M,.slice A k c,.int .i64 N,.slice TC n d] 27)):=(Below.refl _ _).alloc (Nat.le_refl _) _
 obtain ⟨w1,hw1⟩:∃ W,W=w.alloc (.cells #[.int .i64 P,.int .i64 M,.slice A k c,.int .i64 N,.slice TC n d] 27):=⟨_,rfl⟩
 rw [<-hw1] at hB rf
 go_enter Tryz.func53, Tryz.ntmps53
 go_upto_region 1 with fail
 rw [<-hw1];clear hw1
 obtain ⟨b0,hb0⟩:∃ b,b=w.heap.size:=⟨_,rfl⟩
 rw [<-hb0] at rf;rw [<-hb0];clear hb0
 have HBOX:Hid (∀ X,Below w1.heap.size w1 X->(X.cell? ⟨b0,0,none⟩=some (.int .i64 P)/\X.cell? ⟨b0,1,none⟩=some (.int .i64 M)/\X.cell? ⟨b0,2,none⟩=some (.slice A k c)/\X.cell? ⟨b0,3,none⟩=some (.int .i64 N)/\X.cell? ⟨b0,4,none⟩=some (.slice TC n d))):=hid fun X hx =>
  ⟨(zab rf hx).cell (i:=0) (by omega),(zab rf hx).cell (i:=1) (by omega),(zab rf hx).cell (i:=2) (by omega),(zab rf hx).cell (i:=3) (by omega),(zab rf hx).cell (i:=4) (by omega)⟩
 have HB:=hid hB
 clear hB rf
 obtain ⟨q0,q1,q2,q3,q4⟩:=HBOX.out _ (Below.refl _ _)
 go_wp2_with fail
 refine (yaF P M A k c f N TC n d ln V U l uc u w1 (HI.out.on HB.out) (HT.out.on HB.out) (HU.out.on HB.out) hl).mono ?_
 rintro e w2 ⟨kb,v,rfl,hv⟩
 have HV:=hid hv
 have KB:=hid kb
 clear kb hv q0 q1 q2 q3 q4
 by_cases hv0:v=0
 rotate_left
 ·have hub:(v == 0)=false:=by simpa using hv0
  have HV0:=hid hv0
  clear hv0
  go_wp2
  go_ret
  exact ⟨onS HB.out KB.out,v,rfl,v,HV.out,.inl ⟨HV0.out,rfl⟩⟩
 subst hv0
 have hub:((0:Int) == 0)=true:=by simp
 obtain ⟨q0,q1,q2,q3,q4⟩:=HBOX.out _ KB.out
 go_wp2_with fail
 refine (yaR P M A k c f N TC n d ln V w2 (HI.out.on (onS HB.out KB.out)) (HT.out.on (onS HB.out KB.out))).mono ?_
 rintro e w3 ⟨kb,v,rfl,hv⟩
 have HW:=hid hv
 replace KB:=hid (onS KB.out kb);clear hv kb q0 q1 q2 q3 q4
 go_wp2
 go_ret
 exact ⟨onS HB.out KB.out,v,rfl,0,HV.out,.inr ⟨rfl,HW.out⟩⟩
def hardC (u:Nat->Int) (i a:Nat):Int:=if (a:Int)=u i then 0 else 1
def HardPost (P M:Int) (k:Nat) (f:Nat->Int) (N:Int) (n:Nat) (ln:Nat->Nat) (V:Nat->Nat->Int) (l:Nat) (u:Nat->Int) (w:World) (e:Ending) (w':World):Prop :=
 Below w.heap.size w w'/\∃ v,WordV P M k f N n ln V l u v/\((v≠0/\e=.returned (.tuple #[.slice none 0 0,.int .i64 0,.int .i64 v])) ∨
  (v=0/\∃ P' M':Nat,P=P'/\M=M'/\N=(l:Int)/\AllIn (P' ^ M') l u/\∃ w2,w.heap.size<=w2.heap.size/\DecPost P M k f N n ln V l (fun _=>P' ^ M') (hardC u) w2 e w'))
theorem ybx (P M:Int) (A:Option Addr) (k c:Nat) (f:Nat->Int) (N:Int) (TC:Option Addr) (n d:Nat) (ln:Nat->Nat) (V:Nat->Nat->Int) (U:Option Addr) (l uc:Nat) (u:Nat->Int) (w:World) (hr:IntsR w w.heap.size A k f) (h:IntRows w TC n ln V) (hu:IntsR w w.heap.size U l u) (hlu:l<=uc) :
  Calls Tryz.prog 52 #[.agg #[.int .i64 P,.int .i64 M,.slice A k c,.int .i64 N,.slice TC n d],.slice U l uc] w (HardPost P M k f N n ln V l u w):=by
 have HI:=hid hr
 have HT:=hid h
 have HU:=hid hu
 clear hr h hu
 have rf:=zai (w:=w) (a:=.int .i64 P) (b:=.int .i64 M) (c:=.slice A k c) (d:=.int .i64 N) (e:=.slice TC n d) (T := 27)
 have hB:Below w.heap.size w (w.alloc (.cells #[.int .i64 P,.int .i64 M,.slice A k c,.int .i64 N,.slice TC n d] 27)):=(Below.refl _ _).alloc (Nat.le_refl _) _
 obtain ⟨w1,hw1⟩:∃ W,W=w.alloc (.cells #[.int .i64 P,.int .i64 M,.slice A k c,.int .i64 N,.slice TC n d] 27):=⟨_,rfl⟩
 rw [<-hw1] at hB rf
 go_enter Tryz.func52, Tryz.ntmps52
 go_upto_region 1 with fail
 rw [<-hw1];clear hw1
 obtain ⟨b0,hb0⟩:∃ b,b=w.heap.size:=⟨_,rfl⟩
 rw [<-hb0] at rf;rw [<-hb0];clear hb0
 have HBOX:Hid (∀ X,Below w1.heap.size w1 X->(X.cell? ⟨b0,0,none⟩=some (.int .i64 P)/\X.cell? ⟨b0,1,none⟩=some (.int .i64 M)/\X.cell? ⟨b0,2,none⟩=some (.slice A k c)/\X.cell? ⟨b0,3,none⟩=some (.int .i64 N)/\X.cell? ⟨b0,4,none⟩=some (.slice TC n d))):=hid fun X hx =>
  ⟨(zab rf hx).cell (i:=0) (by omega),(zab rf hx).cell (i:=1) (by omega),(zab rf hx).cell (i:=2) (by omega),(zab rf hx).cell (i:=3) (by omega),(zab rf hx).cell (i:=4) (by omega)⟩
 have HB:=hid hB
 clear hB rf
 obtain ⟨q0,q1,q2,q3,q4⟩:=HBOX.out _ (Below.refl _ _)
 go_wp2_with fail
 refine (ybs P M A k c f N TC n d ln V U l uc u w1 (HI.out.on HB.out) (HT.out.on HB.out) (HU.out.on HB.out) hlu).mono ?_
 rintro e w2 ⟨kb,b,v,rfl,hv,_⟩
 have HV:=hid hv
 have KB:=hid kb
 clear kb hv q0 q1 q2 q3 q4
 by_cases hv0:v=0
 rotate_left
 ·have hub:(v != 0)=true:=by simpa using hv0
  have HV0:=hid hv0
  clear hv0
  go_wp2
  go_ret3
  exact ⟨onS HB.out KB.out,v,HV.out,.inl ⟨HV0.out,rfl⟩⟩
 subst hv0
 have hub:((0:Int) != 0)=false:=by simp
 obtain ⟨x,hx,⟨h0,h1⟩ | ⟨rfl,P',M',N',rfl,rfl,rfl,hW⟩⟩:=HV.out
 ·exact absurd h1.symm h0
 obtain ⟨hlN,hAI⟩:l=N'/\AllIn (P' ^ M') l u:=by
  rcases hW with ⟨_,h9⟩ | ⟨h1,⟨_,h9⟩ | ⟨h2,_⟩⟩
  ·cases h9
  ·cases h9
  ·exact ⟨h1,h2⟩
 subst hlN
 obtain ⟨P2,M2,N2,e1,e2,e3,hC⟩:=zb5 HI.out HT.out hx
 obtain rfl:P'=P2:=by omega
 obtain rfl:M'=M2:=by omega
 obtain rfl:l=N2:=by omega
 have hN64:=hC.ln2
 have hok:=hC.fld
 have HX:=hid hx
 have HAI:=hid hAI
 clear hx hW hAI hC e1 e2 e3
 obtain ⟨q0,q1,q2,q3,q4⟩:=HBOX.out _ KB.out
 go_wp2_with fail
 refine (zbP (P':Int) (M':Int) A k c f w2 (HI.out.on (onS HB.out KB.out))).mono ?_
 rintro e w3 ⟨kb,hcase⟩
 rcases hcase with ⟨hbad,_⟩ | ⟨_,gf,P2,M2,hP2,hM2,rfl,_,hG⟩
 ·refine absurd ?_ hbad
  rcases HX.out with ⟨_,h9⟩ | ⟨h1,_⟩
  ·cases h9
  ·exact h1
 obtain rfl:P'=P2:=by omega
 obtain rfl:M'=M2:=by omega
 have HG:=hid hG.gf
 replace KB:=hid (onS KB.out kb);clear kb q0 q1 q2 q3 q4 hP2 hM2 hG
 obtain ⟨q,hq⟩:∃ q,q=P' ^ M':=⟨_,rfl⟩
 have HQ:=hid hq
 have hq2:2<=q:=by rw [hq]; exact (fieldLaws hok).two
 have hq256:q<=256:=by rw [hq]; exact hok.1.2.2.2
 clear hq hok
 obtain ⟨q0,q1,q2,q3,q4⟩:=HBOX.out _ KB.out
 have hmk:=fun W=>zah (P:=Tryz.prog) 25 22 _ 24 Tryz.underlying25 Tryz.infoInts rfl (l:Int) (by omega) (by omega) (by omega) W
 simp only [Int.toNat_natCast] at hmk
 go_upto_region 6 with fail
 clear q0 q1 q2 q3 q4
 have rz:World.rowIs (World.alloc w3 (Obj.cells (madeCells #[Value.slice none 0 0] l) 22)) w3.heap.size 22 l (fun _=>.slice none 0 0):=World.rowIs_made _ (.slice none 0 0) l 22
 have kb:Below w3.heap.size w3 (World.alloc w3 (Obj.cells (madeCells #[Value.slice none 0 0] l) 22)):=(Below.refl _ _).alloc (Nat.le_refl _) _
 have hs6:(World.alloc w3 (Obj.cells (madeCells #[Value.slice none 0 0] l) 22)).heap.size=w3.heap.size+1:=by simp
 obtain ⟨w4,hw6⟩:∃ W,W=World.alloc w3 (Obj.cells (madeCells #[Value.slice none 0 0] l) 22):=⟨_,rfl⟩
 rw [<-hw6] at rz kb hs6 ⊢
 have K7:=hid kb
 obtain ⟨lt,hlt⟩:∃ x,x=w3.heap.size:=⟨_,rfl⟩
 rw [<-hlt] at rz hs6 ⊢
 have HLT5:Hid (lt=w3.heap.size):=hid hlt
 have HTB:Hid (IntTab w4 lt (lt+1) l (fun _=>.slice none 0 0) (fun v=>if v<0 then q else 0) (hardC u)):=hid ((zet (x:=hardC u) rz).congr (fun v _=>by rw [if_neg (by omega)]) fun _ _ _ _=>rfl)
 have hbase7:lt+1<=w4.heap.size:=by omega
 clear rz kb hs6 hw6 hmk hlt
 go_upto_region 7 with fail
 go_loopg [34] l (fun gg iv wx=>∃ (i:Nat) (F:Nat->Value),iv=.int .i64 (i:Nat)/\i<=l/\l<=i+gg/\Hid (IntTab wx lt (lt+1) l F (fun v=>if v<i then q else 0) (hardC u))/\lt+1<=wx.heap.size/\Below w3.heap.size w3 wx)
 case atStart=>exact ⟨0,_,rfl,by omega,by omega,HTB,hbase7,K7.out⟩
 case round =>
  clear HTB K7 hbase7
  obtain ⟨i,F,rfl,hi,hig,HTB,hbase,hBx⟩:=hrel
  have hi0:(0:Int)<=(i:Int):=by omega
  have K7:=hid hBx
  obtain ⟨w5,hw5⟩:∃ X,X=wr:=⟨_,rfl⟩
  subst hw5
  clear hBx
  have HKB:Hid (Below w.heap.size w w5):=hid (onS HB.out (onS KB.out K7.out))
  by_cases hin:i<l
  ·have hin':(i:Int)<(l:Int):=by omega
   obtain ⟨ub,uo,hUe,hub2,u0⟩:=(HU.out.on HKB.out).at hin
   subst hUe
   obtain ⟨x,hx⟩:∃ x:Nat,u i=(x:Int):=⟨(u i).toNat,by have:=(HAI.out i hin).1; omega⟩
   rw [hx] at u0
   have hxq:x<q:=by rw [HQ.out]; have:=(HAI.out i hin).2; omega
   have HXI:=hid hx
   clear hx hub2
   go_upto_region 9 with fail
   clear u0
   have kb:=(Below.refl w5.heap.size w5).alloc (Nat.le_refl _) (Obj.cells #[Value.int .i64 1] 3)
   have hc:=(tbox2:(w5.alloc (Obj.cells #[Value.int .i64 1] 3)).cell? ((⟨w5.heap.size,0,none⟩:Addr).add 0)=some (.int .i64 1))
   rw [zcv,Nat.zero_add] at hc
   have HCC:=hid hc
   have K8:=hid kb
   clear kb hc
   go_wp2_with fail
   refine (zeN (HG.out.on (onS K7.out K8.out))).mono ?_
   rintro e w7 ⟨he,kb⟩
   rw [<-HQ.out] at he
   subst he
   have HCC7:=hid (cellS kb HCC.out)
   have K9:=hid (onS K8.out kb)
   clear kb HCC
   go_wp2_with fail
   refine (yaC w5.heap.size (.int .i64 1) q 1 w7 HCC7.out rfl (by omega) (by omega)).mono ?_
   rintro e w8 ⟨g,rfl,hg,hrow,kb⟩
   have HOWN:Hid (Own w8 w5.heap.size 3 1 (.slice (some ⟨g,0,none⟩) q q) q (fun _ _=>.int .i64 1)):=hid (zbe hrow (Nat.le_trans K9.out.size hg) (by unfold maxLen; omega))
   have K10:=hid (onS K9.out kb)
   clear kb hrow hg K8 K9 HCC7
   have r0:=(HTB.out.on K10.out).row.cell hin
   have z0:=(HTB.out.on K10.out).row.frozen i
   go_upto_region 10 with fail
   clear r0 z0
   have hn:=HTB.out.fresh (by omega) hbase K10.out hin (y:=fun _=>1) HOWN.out
   have hn2:=hn.set (by omega) (v:=i) (k:=x) (b:=g) (o:=0) (d:=q) (y:=0) hin (by rw [if_pos rfl]; exact hxq) (by simp only [if_true])
   have kb:=(onS K7.out K10.out).setCell (p:=⟨lt,i,none⟩) (by have:=HLT5.out; show _<=lt; omega) (.slice (some ⟨g,0,none⟩) q q)
   obtain ⟨w9,hw⟩:∃ W,W=w8.setCell ⟨lt,i,none⟩ (.slice (some ⟨g,0,none⟩) q q):=⟨_,rfl⟩
   rw [<-hw] at hn hn2 kb ⊢
   have hsz:w9.heap.size=w8.heap.size:=by rw [hw]; simp
   have hbase9:lt+1<=w9.heap.size:=by have:=K10.out.size; omega
   have hgw:w3.heap.size<=g:=by
    have h1:=(HOWN.out.lt g rfl).1
    have h2:=K7.out.size
    omega
   have r0:w9.cell? ⟨lt,i,none⟩=some (.slice (some ⟨g,0,none⟩) q q):=by have:=hn.row.cell hin; rw [if_pos rfl] at this; exact this
   obtain ⟨g9,o9,d9,hF9,_,_,c0,z0⟩:=hn.at (v:=i) (k:=x) hin (by rw [if_pos rfl]; exact hxq)
   simp only [if_true,Value.slice.injEq,Option.some.injEq,Addr.mk.injEq,true_and,and_true] at hF9
   obtain ⟨⟨rfl,rfl⟩,-⟩:=hF9
   rw [Nat.zero_add] at c0 z0 hn2;clear hw hsz
   have hxq':(x:Int)<(q:Int):=by omega
   have hx0:(0:Int)<=(x:Int):=by omega
   go_upto_region 11 with fail
   clear r0 c0 z0
   have kb9:=kb.setCell (p:=⟨g,x,none⟩) hgw (.int .i64 0)
   obtain ⟨w10,hw⟩:∃ W,W=w9.setCell ⟨g,x,none⟩ (.int .i64 0):=⟨_,rfl⟩
   rw [<-hw] at hn2 kb9 ⊢
   have hsz:w10.heap.size=w9.heap.size:=by rw [hw]; simp
   have hbase10:lt+1<=w10.heap.size:=by omega
   have HN:=hid (hn2.congr (n':=fun v=>if v<i+1 then q else 0) (x':=hardC u) (fun v hv=>by
    by_cases e:v=i
    ·subst e
     rw [if_pos rfl,if_pos (by omega)]
    ·have h1:(v<i)↔(v<i+1):=by omega
     simp only [if_neg e,h1]) fun v hv a ha=>by
    by_cases e1:v=i/\a=x
    ·rw [e1.1,e1.2,zje]
     show 0=if ((x:Nat):Int)=u i then 0 else 1
     rw [if_pos HXI.out.symm]
    ·rw [zgG e1]
     by_cases e:v=i
     ·subst e
      simp only [if_true]
      show 1=if ((a:Nat):Int)=u v then 0 else 1
      rw [if_neg];rw [HXI.out]
      intro h
      exact e1 ⟨rfl,by omega⟩
     ·simp only [if_neg e])
   have K11:=hid kb9
   clear hn hn2 kb kb9 hw hsz hxq' hx0
   go_wp2
   go_roundg (gk - 1)
   case measure=>omega
   case rel=>exact ⟨i+1,_,by go_num,by omega,by omega,HN,hbase10,K11.out⟩
  ·have hin':¬ (i:Int)<(l:Int):=by omega
   obtain rfl:i=l:=by omega
   have HTR:Hid (IntRows w5 (some ⟨lt,0,none⟩) i (fun _=>P' ^ M') (hardC u)):=hid ((HTB.out.congr (n':=fun _=>P' ^ M') (x':=hardC u) (fun v hv=>by rw [if_pos hv,HQ.out]) fun _ _ _ _=>rfl).rows fun v hv a ha=>by
    unfold hardC
    split <;> omega)
   obtain ⟨q0,q1,q2,q3,q4⟩:=HBOX.out _ (onS KB.out K7.out)
   go_wp2_with fail
   refine (yaQ (P':Int) (M':Int) A k c f (i:Int) TC n d ln V (some ⟨lt,0,none⟩) i i (fun _=>P' ^ M') (hardC u) w5 (HI.out.on HKB.out) (HT.out.on HKB.out) HTR.out).mono ?_
   rintro e w6 hdec
   have hform:∃ (GA:Option Addr) (gn gc:Nat) (cst ev:Int),e=.returned (.tuple #[.slice GA gn gc,.int .i64 cst,.int .i64 ev]):=by
    rcases hdec.2 with ⟨u,_,⟨_,h⟩ | ⟨_,P',M',N',_,_,_,⟨_,h⟩ | ⟨_,_,h⟩ | ⟨_,_,pv,R,_,_,_,⟨_,h⟩ | ⟨_,g,x,h,_⟩⟩⟩⟩ <;> exact ⟨_,_,_,_,_,h⟩
   obtain ⟨GA,gn,gc,cst,ev,rfl⟩:=hform
   have HD:=hid hdec
   have K8:=hid (onS HKB.out hdec.1)
   clear hdec q0 q1 q2 q3 q4
   go_wp2
   go_ret3
   exact ⟨K8.out,0,HV.out,.inr ⟨rfl,P',M',rfl,rfl,rfl,HAI.out,w5,HKB.out.size,HD.out⟩⟩
theorem LexLt.asymm {f g:Nat->Int} {n:Nat} (h:LexLt f g n) (h':LexLt g f n):False:=by
 obtain ⟨i,hi,h2,h3⟩:=h
 obtain ⟨j,hj,k2,k3⟩:=h'
 rcases Nat.lt_trichotomy i j with g1 | g1 | g1
 ·have:=k2 i g1; omega
 ·subst g1; omega
 ·have:=h2 j g1; omega
theorem yau (A B:Option Addr) (n c d:Nat) (f:Nat->Int) (w:World) (ha:IntsR w w.heap.size A n f) (hb:IntsR w w.heap.size B n f) (hn:n<=1048576) :
  Calls Tryz.prog 24 #[.slice A n c,.slice B n d] w fun e w'=>e=.returned (.bool true)/\Below w.heap.size w w':=by
 have H1:=hid ha
 have H2:=hid hb
 clear ha hb
 go_enter Tryz.func24, Tryz.ntmps24
 go_wp2_with fail
 refine (yat A B n c d f w H1.out H2.out hn).mono ?_
 rintro e w1 ⟨rfl,kb⟩
 have HB:=hid kb
 clear kb
 go_wp2
 go_ret
 exact ⟨rfl,HB.out⟩
theorem yaG {q n x i:Nat} (h:i<n):msgD q (n+1) x i=msgD q n (x / q) i:=by
 unfold msgD
 rw [show n+1 - 1 - i=(n - 1 - i)+1 by omega,zc5]
theorem yaT {q n x:Nat}:msgD q (n+1) x n=x % q:=by
 unfold msgD
 rw [show n+1 - 1 - n=0 by omega,zcm]
theorem yaz {q:Nat} (hq:0<q):∀ {n s t:Nat},s<t->t<q ^ n->∃ i,i<n/\(∀ j,j<i->msgD q n s j=msgD q n t j)/\msgD q n s i<msgD q n t i
 | 0,s,t,h,ht=>by rw [Nat.pow_zero] at ht; omega
 | n + 1, s, t, h, ht => by
  have ht2:t / q<q ^ n:=Nat.div_lt_of_lt_mul (by rw [Nat.mul_comm,<-Nat.pow_succ]; exact ht)
  by_cases e:s / q=t / q
  ·refine ⟨n,by omega,fun j hj=>by rw [yaG hj,yaG hj,e],?_⟩
   rw [yaT,yaT]
   have h1:=Nat.div_add_mod s q
   have h2:=Nat.div_add_mod t q
   rw [e] at h1
   omega
  ·have hlt:s / q<t / q:=by
    have:=Nat.div_le_div_right (c:=q) (Nat.le_of_lt h)
    omega
   obtain ⟨i,h1,h2,h3⟩:=yaz hq hlt ht2
   exact ⟨i,by omega,fun j hj=>by rw [yaG (by omega),yaG (by omega)]; exact h2 j hj,by rw [yaG h1,yaG h1]; exact h3⟩
section
variable {q n N:Nat} {add mul:Nat->Nat->Nat} {V:Nat->Nat->Nat}
theorem yaU (hL:FieldLaws q add mul) (hV:RrefN q n N V) {s t:Nat} (h:s<t) (ht:t<q ^ n) :
  LexLt (fun j=>((spE add mul V (msgD q n s) n j:Nat):Int)) (fun j=>((spE add mul V (msgD q n t) n j:Nat):Int)) N:=by
 have hq:0<q:=by have:=hL.two; omega
 obtain ⟨pv,hE⟩:=hV
 obtain ⟨i,hi,h1,h2⟩:=yaz hq h ht
 refine ⟨pv i,hE.pvlt i hi,fun j hj=>?_,?_⟩
 ·show ((spE add mul V (msgD q n s) n j:Nat):Int)=((spE add mul V (msgD q n t) n j:Nat):Int)
  rw [zgv n fun u hu=>?_]
  by_cases g:u<i
  ·rw [h1 u g]
  ·have hlead:V u j=0:=hE.lead u hu j (by
    by_cases e:u=i
    ·rw [e]; exact hj
    ·have:=hE.inc i u (by omega) hu
     omega)
   rw [hlead,hL.mulZero (zdU hq),hL.mulZero (zdU hq)]
 ·show ((spE add mul V (msgD q n s) n (pv i):Nat):Int)<((spE add mul V (msgD q n t) n (pv i):Nat):Int)
  rw [hE.spE_pv hL (fun _ _=>zdU hq) hi,hE.spE_pv hL (fun _ _=>zdU hq) hi]
  omega
theorem yby {x:Nat->Nat} (hx:InSp q add mul n N V x):∃ t,t<q ^ n/\∀ j,j<N->x j=spE add mul V (msgD q n t) n j:=by
 obtain ⟨c,h1,h2⟩:=hx
 refine ⟨valN q (fun j=>c (n - 1 - j)) n,za1 fun i hi=>h1 _ (by omega),fun j hj=>?_⟩
 rw [h2 j hj]
 refine zgv n fun u hu=>?_
 unfold msgD
 rw [zaW (fun i hi=>h1 _ (by omega)) _ (by omega),show n - 1 - (n - 1 - u)=u by omega]
theorem ybC (hL:FieldLaws q add mul) (t:Nat):InSp q add mul n N V (fun j=>spE add mul V (msgD q n t) n j):=⟨msgD q n t,fun _ _=>zdU (by have:=hL.two; omega),fun _ _=>rfl⟩
theorem yaH (hL:FieldLaws q add mul) (hV:RrefN q n N V) {C:Nat->Nat->Int} {x:Nat->Nat} (hx:InSp q add mul n N V x)
  (hopt:∀ z,InSp q add mul n N V z->costW C x N<=costW C z N/\(costW C z N=costW C x N->(∀ t,t<N->x t=z t)∨LexLt (fun t=>((x t:Nat):Int)) (fun t=>((z t:Nat):Int)) N))
  {b:Nat} (hb:b<q ^ n) (hmin:∀ t,t<q ^ n->costW C (fun j=>spE add mul V (msgD q n b) n j) N<=costW C (fun j=>spE add mul V (msgD q n t) n j) N)
  (hfirst:∀ t,t<b->costW C (fun j=>spE add mul V (msgD q n b) n j) N<costW C (fun j=>spE add mul V (msgD q n t) n j) N) :
  costW C x N=costW C (fun j=>spE add mul V (msgD q n b) n j) N/\∀ j,j<N->x j=spE add mul V (msgD q n b) n j:=by
 obtain ⟨t,ht,hxt⟩:=yby hx
 have e1:costW C x N=costW C (fun j=>spE add mul V (msgD q n t) n j) N:=yab N hxt
 have h1:=hmin t ht
 have h2:=hopt _ (ybC (N:=N) hL b)
 have e2:costW C x N=costW C (fun j=>spE add mul V (msgD q n b) n j) N:=by omega
 refine ⟨e2,?_⟩
 rcases h2.2 e2.symm with h3 | h3
 ·exact h3
 ·rcases Nat.lt_trichotomy t b with g | g | g
  ·have:=hfirst t g; omega
  ·subst g; exact hxt
  ·have h4:=yaU hL hV g ht
   exfalso
   have h5:LexLt (fun j=>((spE add mul V (msgD q n b) n j:Nat):Int)) (fun j=>((x j:Nat):Int)) N:=by
    obtain ⟨i,k1,k2,k3⟩:=h4
    exact ⟨i,k1,fun j hj=>by
     have:=k2 j hj
     show _=((x j:Nat):Int)
     rw [hxt j (by omega)]; exact this,by
     show _<((x i:Nat):Int)
     rw [hxt i k1]; exact k3⟩
   exact h5.asymm h3
end
theorem yaV (A B:Option Addr) (n c c':Nat) (f g:Nat->Int) (w:World) (h:IntsR w w.heap.size A n f) (h':IntsR w w.heap.size B n g) (hn:n<=1048576) :
  Calls Tryz.prog 121 #[.slice A n c,.slice B n c'] w fun e w'=>e=.returned (.int .i64 (disN f g n:Nat))/\Below w.heap.size w w':=by
 have HA:=hid h
 have HC:=hid h'
 clear h h'
 go_enter Tryz.func121, Tryz.ntmps121
 go_upto_region 3 with fail
 go_loopg [5,6] n (fun gg ov iv wx=>∃ k:Nat,iv=.int .i64 (k:Nat)/\ov=.int .i64 (disN f g k:Nat)/\k<=n/\n<=k+gg/\Below w.heap.size w wx)
 case atStart=>exact ⟨0,rfl,rfl,by omega,by omega,Below.refl _ _⟩
 case round =>
  obtain ⟨k,rfl,rfl,hk,hkg,hBx⟩:=hrel
  have hk0:(0:Int)<=(k:Int):=by omega
  have HB:=hid hBx
  obtain ⟨w3,hw3⟩:∃ X,X=wr:=⟨_,rfl⟩
  subst hw3
  clear hBx
  obtain ⟨D,hD⟩:∃ D,D=disN f g k:=⟨_,rfl⟩
  have hdl:=ybz f g k
  rw [<-hD] at hdl ⊢
  by_cases hlt:k<n
  ·have hlt':(k:Int)<(n:Int):=by omega
   have hlt2:decide ((k:Int)<(n:Int))=true:=by simp [hlt]
   obtain ⟨b,o,hAe,hb,e0⟩:=(HA.out.on HB.out).at hlt
   obtain ⟨b2,o2,hBe,hb2,e2⟩:=(HC.out.on HB.out).at hlt
   subst hAe hBe
   obtain ⟨x,hx⟩:∃ x,x=f k:=⟨_,rfl⟩
   obtain ⟨y,hy⟩:∃ y,y=g k:=⟨_,rfl⟩
   rw [<-hx] at e0;rw [<-hy] at e2
   have hnx:disN f g (k+1)=D+if x=y then 0 else 1:=by rw [hD,hx,hy]; rfl
   have HNX:=hid hnx
   clear hx hy hD hnx
   go_upto_region 5 with fail
   refine wp_region_held_drew (S:=fun X=>X.cell? ⟨b,o+k,none⟩=some (.int .i64 x)/\X.cell? ⟨b2,o2+k,none⟩=some (.int .i64 y)) (by kernel_rfl) ⟨cellS (Below.refl _ _).drew e0,cellS (Below.refl _ _).drew e2⟩ (fun hHeld=>?_)
   obtain ⟨w4,hw⟩:∃ W,W=World.drew w3:=⟨_,rfl⟩
   have kb:Below w3.heap.size w3 w4:=by rw [hw]; exact (Below.refl _ _).drew
   rw [<-hw] at hHeld ⊢;clear hw e0 e2;replace HB:=hid (onS HB.out kb);clear kb
   by_cases hxy:x=y
   ·have hne:(x != y)=false:=by simp [hxy]
    have HN2:=hid (HNX.out.trans (by rw [if_pos hxy]))
    clear hxy
    refine tkq 0 (h:=tkq 1 (h:=tkq 2 (h:=tkq 3 (h:=tkq 4 (h:=tkq 5 (h:=tkq 6 (h:=tkq 7 (h:=tkq 8 (h:=?_)))))))))
    refine wpAnyH_done (by kernel_rfl) ?_ _
    clear hHeld
    go_wp2
    go_roundg (gk - 1)
    case measure=>omega
    case rel=>exact ⟨k+1,by go_num,by rw [HN2.out]; rfl,by omega,by omega,HB.out⟩
   ·have hne:(x != y)=true:=by simp [hxy]
    have HN2:=hid (HNX.out.trans (by rw [if_neg hxy]))
    clear hxy
    refine tkq 0 (h:=tkq 1 (h:=tkq 2 (h:=tkq 3 (h:=tkq 4 (h:=tkq 5 (h:=tkq 6 (h:=tkq 7 (h:=tkq 8 (h:=?_)))))))))
    refine wpAnyH_done (by kernel_rfl) ?_ _
    clear hHeld
    go_wp2
    go_roundg (gk - 1)
    case measure=>omega
    case rel=>exact ⟨k+1,by go_num,by rw [HN2.out]; go_num,by omega,by omega,HB.out⟩
  ·have hlt':¬ (k:Int)<(n:Int):=by omega
   have hlt2:decide ((k:Int)<(n:Int))=false:=by simp; omega
   obtain rfl:k=n:=by omega
   have HD:=hid hD
   clear hD
   go_wp2
   go_ret
   exact ⟨by rw [HD.out]; rfl,HB.out⟩
def nearI (D:Nat->Nat) (oth:Bool):Nat->Option Nat
 | 0=>none
 | i+1=>if oth=true/\D i=0 then nearI D oth i else match nearI D oth i with
  | none=>some i
  | some b=>if D i<D b then some i else some b
theorem yas {D:Nat->Nat} {oth:Bool}:∀ m,(nearI D oth m=none->∀ i,i<m->oth=true/\D i=0)/\∀ b,nearI D oth m=some b->b<m/\¬ (oth=true/\D b=0)/\∀ i,i<m->¬ (oth=true/\D i=0)->D b<=D i/\(i<b->D b<D i)
 | 0=>⟨fun _ i h=>absurd h (by omega),fun b h=>by simp [nearI] at h⟩
 | m + 1 => by
  obtain ⟨h1,h2⟩:=yas (D:=D) (oth:=oth) m
  have hd:nearI D oth (m+1)=if oth=true/\D m=0 then nearI D oth m else match nearI D oth m with
   | none=>some m
   | some b=>if D m<D b then some m else some b:=rfl
  rw [hd]
  by_cases hs:oth=true/\D m=0
  ·rw [if_pos hs]
   refine ⟨fun h i hi=>?_,fun b h=>?_⟩
   ·by_cases e:i=m
    ·rw [e]; exact hs
    ·exact h1 h i (by omega)
   ·obtain ⟨g1,g2,g3⟩:=h2 b h
    refine ⟨by omega,g2,fun i hi hn=>?_⟩
    by_cases e:i=m
    ·rw [e] at hn; exact absurd hs hn
    ·exact g3 i (by omega) hn
  ·rw [if_neg hs]
   cases hn:nearI D oth m with
   | none =>
    refine ⟨fun h=>(nomatch h),fun b h=>?_⟩
    injection h with h
    subst h
    refine ⟨by omega,hs,fun i hi hne=>?_⟩
    by_cases e:i=m
    ·rw [e]; exact ⟨Nat.le_refl _,fun h=>absurd h (by omega)⟩
    ·exact absurd (h1 hn i (by omega)) hne
   | some b0 =>
    obtain ⟨g1,g2,g3⟩:=h2 b0 hn
    refine ⟨fun h=>?_,fun b h=>?_⟩
    ·have h:(if D m<D b0 then some m else some b0)=none:=h
     by_cases hl:D m<D b0
     ·rw [if_pos hl] at h; cases h
     ·rw [if_neg hl] at h; cases h
    ·have h:(if D m<D b0 then some m else some b0)=some b:=h
     by_cases hl:D m<D b0
     ·rw [if_pos hl] at h
      injection h with h
      subst h
      refine ⟨by omega,hs,fun i hi hne=>?_⟩
      by_cases e:i=m
      ·rw [e]; exact ⟨Nat.le_refl _,fun h=>absurd h (by omega)⟩
      ·have:=g3 i (by omega) hne
       exact ⟨by omega,fun _=>by omega⟩
     ·rw [if_neg hl] at h
      injection h with h
      subst h
      refine ⟨by omega,g2,fun i hi hne=>?_⟩
      by_cases e:i=m
      ·rw [e]; exact ⟨by omega,fun h=>absurd h (by omega)⟩
      ·exact g3 i (by omega) hne
def NearAt (D:Nat->Nat) (m N:Nat) (U:Nat->Nat->Int) (o:Option Nat) (w:World) (wv bv:Value):Prop :=
 (o=none/\wv=.slice none 0 0/\bv=.int .i64 (-1))∨∃ b RA rc,o=some b/\b<m/\wv=.slice RA N rc/\bv=.int .i64 (D b:Nat)/\IntsR w w.heap.size RA N (U b)
theorem NearAt.on {D:Nat->Nat} {m N:Nat} {U:Nat->Nat->Int} {o:Option Nat} {w w':World} {wv bv:Value} (h:NearAt D m N U o w wv bv) (hb:Below w.heap.size w w'):NearAt D m N U o w' wv bv:=by
 rcases h with h | ⟨b,RA,rc,h1,h2,h3,h4,h5⟩
 ·exact .inl h
 ·exact .inr ⟨b,RA,rc,h1,h2,h3,h4,h5.on hb⟩
def NearPost (D:Nat->Nat) (m N:Nat) (U:Nat->Nat->Int) (oth:Bool) (w:World) (e:Ending) (w':World):Prop :=
 ∃ wv bv,e=.returned (.tuple #[wv,bv])/\NearAt D m N U (nearI D oth m) w' wv bv/\Below w.heap.size w w'
theorem yaW (oth:Bool) (T Y:Option Addr) (m d N yc:Nat) (U:Nat->Nat->Int) (y:Nat->Int) (w:World) (h:IntRows w T m (fun _=>N) U) (hy:IntsR w w.heap.size Y N y) (hm:m<=1048576) (hN:N<=1048576) :
  Calls Tryz.prog 54 #[.slice T m d,.slice Y N yc,.bool oth] w (NearPost (fun i=>disN (U i) y N) m N U oth w):=by
 have HT:=hid h
 have HY:=hid hy
 clear h hy
 obtain ⟨D,hD⟩:∃ D:Nat->Nat,D=fun i=>disN (U i) y N:=⟨_,rfl⟩
 rw [<-hD]
 have HD:Hid (∀ i,disN (U i) y N=D i):=hid fun i=>by rw [hD]
 clear hD
 go_enter Tryz.func54, Tryz.ntmps54
 go_upto_region 4 with fail
 go_loopg [8,9,10] m (fun gg bv wv iv wx=>∃ i:Nat,iv=.int .i64 (i:Nat)/\i<=m/\m<=i+gg/\Hid (NearAt D m N U (nearI D oth i) wx wv bv)/\Below w.heap.size w wx)
 case atStart=>exact ⟨0,rfl,by omega,by omega,.inl ⟨rfl,rfl,rfl⟩,Below.refl _ _⟩
 case round =>
  obtain ⟨i,rfl,hi,hig,HN,hBx⟩:=hrel
  have hi0:(0:Int)<=(i:Int):=by omega
  have HB:=hid hBx
  obtain ⟨w3,hw3⟩:∃ X,X=wr:=⟨_,rfl⟩
  subst hw3
  clear hBx
  by_cases hin:i<m
  ·have hin':(i:Int)<(m:Int):=by omega
   obtain ⟨pb,po,RA,rc,hTe,_,x0,hc1,hc2,hrow,hrng⟩:=HT.out i hin
   subst hTe
   have HX0:=hid x0
   replace x0:=cellS HB.out x0
   have HROW:=hid hrow
   clear hrow hrng hc1 hc2
   go_wp2_with fail
   refine (yaV RA Y N rc yc (U i) y w3 (HROW.out.on HB.out) (HY.out.on HB.out) hN).mono ?_
   rintro e w4 ⟨rfl,kb⟩
   rw [HD.out i];replace HN:=hid (HN.out.on kb);replace HB:=hid (onS HB.out kb);clear kb x0
   obtain ⟨dv,hdv⟩:∃ x,x=D i:=⟨_,rfl⟩
   rw [<-hdv]
   have hstep:nearI D oth (i+1)=if oth=true/\D i=0 then nearI D oth i else match nearI D oth i with
    | none=>some i
    | some b=>if D i<D b then some i else some b:=rfl
   have SKIP:oth=true->dv=0->Hid (NearAt D m N U (nearI D oth (i+1)) w4 u9 u8):=fun h1 h2=>by
    rw [hstep,if_pos ⟨h1,by rw [<-hdv]; exact h2⟩]; exact HN
   have TAKE:¬ (oth=true/\dv=0)->(∀ b,nearI D oth i=some b->dv<D b)->Hid (NearAt D m N U (nearI D oth (i+1)) w4 (.slice RA N rc) (.int .i64 (dv:Nat))):=fun h1 h2=>by
    rw [hstep,if_neg (by rw [<-hdv]; exact h1)]
    refine hid (.inr ⟨i,RA,rc,?_,hin,rfl,by rw [hdv],HROW.out.on HB.out⟩)
    cases hn:nearI D oth i with
    | none=>rfl
    | some b =>
     show (if D i<D b then some i else some b)=some i
     rw [if_pos (by rw [<-hdv]; exact h2 b hn)]
   have KEEP:¬ (oth=true/\dv=0)->∀ b,nearI D oth i=some b->¬ dv<D b->Hid (NearAt D m N U (nearI D oth (i+1)) w4 u9 u8):=fun h1 b hn h2=>by
    have:nearI D oth (i+1)=nearI D oth i:=by
     rw [hstep,if_neg (by rw [<-hdv]; exact h1),hn]
     show (if D i<D b then some i else some b)=some b
     rw [if_neg (by rw [<-hdv]; exact h2)]
    rw [this]
    exact HN
   have HS:=hid SKIP
   have HTK:=hid TAKE
   have HK:=hid KEEP
   clear SKIP TAKE KEEP hstep hdv
   by_cases hsk:oth=true/\dv=0
   ·obtain ⟨h1,h2⟩:=hsk
    have HN2:=HS.out h1 h2
    clear HS HTK HK
    subst h1
    have hz:((dv:Int) == 0)=true:=by simp [h2]
    clear h2
    go_wp2
    go_roundg (gk - 1)
    case measure=>omega
    case rel=>exact ⟨i+1,by go_num,by omega,by omega,HN2,HB.out⟩
   ·have HSK:=hid hsk
    have hor:oth=false∨oth=true/\¬ dv=0:=by
     cases oth
     ·exact .inl rfl
     ·exact .inr ⟨rfl,fun h=>hsk ⟨rfl,h⟩⟩
    clear hsk
    have x0:=cellS HB.out HX0.out
    rcases HN.out with ⟨hn,rfl,rfl⟩ | ⟨b,RB,rb,hn,hbm,rfl,rfl,hrb⟩
    ·have HN2:=HTK.out HSK.out (fun b h=>by rw [hn] at h; cases h)
     clear HS HTK HK hn HN
     rcases hor with h1 | ⟨h1,h2⟩
     ·subst h1
      go_wp2
      go_roundg (gk - 1)
      case measure=>omega
      case rel=>exact ⟨i+1,by go_num,by omega,by omega,HN2,HB.out⟩
     ·subst h1
      have hz:((dv:Int) == 0)=false:=by simp [h2]
      clear h2
      go_wp2
      go_roundg (gk - 1)
      case measure=>omega
      case rel=>exact ⟨i+1,by go_num,by omega,by omega,HN2,HB.out⟩
    ·obtain ⟨Db,hDb⟩:∃ x,x=D b:=⟨_,rfl⟩
     have hneg:decide ((Db:Int)<0)=false:=by simp
     have hneg2:¬ (Db:Int)<0:=by omega
     by_cases hl:dv<Db
     ·have HN2:=HTK.out HSK.out (fun b2 h=>by rw [hn] at h; injection h with h; rw [<-h,<-hDb]; exact hl)
      rw [<-hDb]
      have hl':decide ((dv:Int)<(Db:Int))=true:=by simp [hl]
      have hl2:(dv:Int)<(Db:Int):=by omega
      clear HS HTK HK hn hrb HN hDb hl
      rcases hor with h1 | ⟨h1,h2⟩
      ·subst h1
       go_wp2
       go_roundg (gk - 1)
       case measure=>omega
       case rel=>exact ⟨i+1,by go_num,by omega,by omega,HN2,HB.out⟩
      ·subst h1
       have hz:((dv:Int) == 0)=false:=by simp [h2]
       clear h2
       go_wp2
       go_roundg (gk - 1)
       case measure=>omega
       case rel=>exact ⟨i+1,by go_num,by omega,by omega,HN2,HB.out⟩
     ·have HN2:=HK.out HSK.out b hn (by rw [<-hDb]; exact hl)
      rw [<-hDb] at HN2 ⊢
      have hl':decide ((dv:Int)<(Db:Int))=false:=by simp; omega
      have hl2:¬ (dv:Int)<(Db:Int):=by omega
      clear HS HTK HK hn hrb HN hDb hl x0
      rcases hor with h1 | ⟨h1,h2⟩
      ·subst h1
       go_wp2
       go_roundg (gk - 1)
       case measure=>omega
       case rel=>exact ⟨i+1,by go_num,by omega,by omega,HN2,HB.out⟩
      ·subst h1
       have hz:((dv:Int) == 0)=false:=by simp [h2]
       clear h2
       go_wp2
       go_roundg (gk - 1)
       case measure=>omega
       case rel=>exact ⟨i+1,by go_num,by omega,by omega,HN2,HB.out⟩
  ·have hin':¬ (i:Int)<(m:Int):=by omega
   obtain rfl:i=m:=by omega
   go_wp2
   go_ret2
   exact ⟨_,_,rfl,HN.out,HB.out⟩
end Go.Proofs.YtgekjfpapmlndaaGreat