/- Merged texts of a claim. -/
import Derived.Test.YtgekjfpapmlndaaGreatTM14
import Derived.Test.YtgekjfpapmlndaaGreatRows
import Derived.WalkKit
import Derived.WalkSpells
import Derived.WalkLawsBesides
import Derived.Deep.OwnRows
import Derived.ProofKit
import Derived.Deep.RegionHeld3
import Derived.Deep.Slices
import Derived.Lib.SmallJoins
import Derived.Deep.LoopGhost
import Derived.Deep.QuietTactic
import Derived.BigQuiet
import Derived.Deep.Cut
import Derived.Deep.CutBlock
import Derived.Deep.DeepCutAuto
import Derived.IntWalk
import Derived.StillTailTactics
import Derived.SizedLaws
import Derived.Deep.AppendSrc
import Derived.Maps.AppendAt
import Derived.Laws.Bits64b
import Derived.Shelf.Small.Bits
import Derived.Laws.CopyOwn
namespace Go.Proofs.YtgekjfpapmlndaaGreat
set_option maxRecDepth 100000
set_option maxHeartbeats 32000000
open Go.RowKit
open Go.ChangeShapes Go.WideShapes Go.ChangeAt
open Go.Shelf
def Tryz.lays128_ren:Go.Shelf.Ren:=⟨fun | 128 => 219 | n=>n,fun | 51 => 109 | 3 => 3 | 4 => 4 | 46 => 200 | 5 => 5 | 9 => 9 | n=>n,fun | n=>n⟩
theorem Tryz.lays128:Go.Proofs.Lays.n128 Tryz.prog Tryz.lays128_ren:={
 mixed:=by kernel_rfl
 f128:=Tryz.func219.trans (congrArg some (by kernel_rfl))
 t3:=Tryz.underlying3
 a3:=Tryz.isAgg3
 z3:=Tryz.sizeOf3
 v3:=Tryz.zeroValue3
 t4:=Tryz.underlying4
 a4:=Tryz.isAgg4
 z4:=Tryz.sizeOf4
 v4:=Tryz.zeroValue4
 t5:=Tryz.underlying5
 a5:=Tryz.isAgg5
 z5:=Tryz.sizeOf5
 v5:=Tryz.zeroValue5
 t9:=Tryz.underlying9
 a9:=Tryz.isAgg9
 z9:=Tryz.sizeOf9
 v9:=Tryz.zeroValue9
 t46:=Tryz.underlying200
 a46:=Tryz.isAgg200
 z46:=Tryz.sizeOf200
 v46:=Tryz.zeroValue200
 t51:=Tryz.underlying109
 a51:=Tryz.isAgg109
 z51:=Tryz.sizeOf109
 v51:=Tryz.zeroValue109 }
theorem Tryz.bits_Len32 (x:Int) (w:World) (h0:0<=x) (h1:x<=4294967295) :
  Calls Tryz.prog 219 #[.int .u32 x] w fun e w'=>e=.returned (.int .i64 (Lib.bitLen x.toNat))/\w'=w:=Any.bits_Len32 Tryz.lays128 x w h0 h1
def nlen (x:Nat):Nat:=if h:x=0 then 0 else nlen (x / 2)+1
termination_by x
decreasing_by exact Nat.div_lt_self (by omega) (by omega)
theorem yaa:nlen 0=0:=by unfold nlen; simp
theorem yah {x:Nat} (h:x≠0):nlen x=nlen (x / 2)+1:=by rw [nlen]; simp [h]
theorem yae {x:Nat}:nlen x=0↔x=0:=by
 constructor
 ·intro h
  rcases Nat.eq_zero_or_pos x with h0 | h0
  ·exact h0
  ·rw [yah (by omega)] at h; omega
 ·intro h; rw [h]; exact yaa
theorem ybH:nlen 1=1:=by rw [yah (by omega)]; simp [yaa]
theorem yat {x:Nat}:nlen x=1↔x=1:=by
 constructor
 ·intro h
  have h0:x≠0:=fun e=>by rw [e,yaa] at h; omega
  rw [yah h0] at h
  have:=yae.1 (show nlen (x / 2)=0 by omega)
  omega
 ·intro h; rw [h]; exact ybH
theorem ya2 {x k:Nat} (h:x<2 ^ k):nlen x<=k:=by
  induction k generalizing x with
  | zero => have : x = 0 := by simpa using h
            rw [this,yaa]; omega
  | succ k ih =>
    by_cases h0:x=0
    · rw [h0,yaa]; omega
    · rw [yah h0]
      have:=ih (x:=x / 2) (by rw [Nat.pow_succ] at h; omega)
      omega
theorem ya3 (k:Nat) {x:Nat} (h:2 ^ k<=x):nlen x=k+nlen (x / 2 ^ k):=by
 induction k generalizing x with
 | zero=>simp
 | succ k ih =>
  have hp:0<2 ^ k:=Nat.pow_pos (by omega)
  rw [Nat.pow_succ] at h
  rw [yah (by omega),ih (x:=x / 2) (by omega),Nat.pow_succ,Nat.mul_comm (2 ^ k) 2,<-Nat.div_div_eq_div_mul]
  omega
theorem ybz {x:Nat} (h:x≠0):nlen x=32*(dl x - 1)+nlen (dg x (dl x - 1)):=by
 induction x using Nat.strongRecOn with
 | _ x ih =>
  rw [zfH h,Nat.add_sub_cancel]
  by_cases h1:x / 4294967296=0
  ·rw [h1,zbM,zdd]
   have:x<4294967296:=by omega
   rw [Nat.mod_eq_of_lt this]; omega
  ·have h2:=ih (x / 4294967296) (Nat.div_lt_self (by omega) (by omega)) h1
   have h3:=zfH h1
   have h4:dl (x / 4294967296)=dl (x / 4294967296) - 1+1:=by omega
   rw [ya3 32 (show 2 ^ 32<=x by omega),show (2:Nat) ^ 32=4294967296 from rfl,h2]
   rw [show dg x (dl (x / 4294967296))=dg (x / 4294967296) (dl (x / 4294967296) - 1) by rw [<-zfG,<-h4]]
   omega
theorem yaT {x:Nat} (h:x<2 ^ 64):Lib.bitLen x=nlen x:=by
 induction x using Nat.strongRecOn with
 | _ x ih =>
  by_cases h0:x=0
  ·rw [h0,yaa]; rfl
  ·rw [Lib.bitLen_half x h0 h,yah h0,ih (x / 2) (Nat.div_lt_self (by omega) (by omega)) (by omega)]
   omega
theorem yaU (A:Option Addr) (c x:Nat) (w:World) (h:NatOk w w.heap.size A x) (hc:dl x<=c) (hm:c<=maxLen) (hn:dl x<=1073741824) :
  Calls Tryz.prog 175 #[.slice A (dl x) c] w fun e w'=>e=.returned (.int .i64 (nlen x:Nat))/\w=w':=by
 go_enter Tryz.func175, Tryz.ntmps175
 go_wp2_with fail
 refine (zeH A c x w h hc hm).mono ?_
 rintro e w1 ⟨rfl,rfl⟩
 by_cases h0:x=0
 ·have hd:dl x=0:=by rw [h0]; exact zbM
  have H:=hid (show nlen x=0 by rw [h0]; exact yaa)
  rw [hd];clear h0 hd
  go_wp2
  go_ret
  exact ⟨zas (by rw [H.out]; rfl),rfl⟩
 ·have hd:0<dl x:=by have:=mt zfI.1 h0; omega
  obtain ⟨b,o,rfl,hb,e0⟩:=Lims.at h (i:=dl x - 1) (by omega)
  have HL:=hid (ybz h0)
  have hg:=zjz x (dl x - 1)
  have HB:=hid (yaT (x:=dg x (dl x - 1)) (by omega))
  have hnl:=ya2 (x:=dg x (dl x - 1)) (k:=32) hg
  obtain ⟨n,hn'⟩:∃ n,n=dl x:=⟨_,rfl⟩
  obtain ⟨v,hv⟩:∃ v,v=dg x (dl x - 1):=⟨_,rfl⟩
  rw [<-hv] at hg HB hnl e0 HL;rw [<-hn'] at e0 hd HL hn hc ⊢
  have hw2:((n:Int) - 1).toNat=n - 1:=by omega
  have hn0:((n:Int) == 0)=false:=by simp; omega
  clear hn' hv h h0
  go_wp2_with fail
  refine (Tryz.bits_Len32 (v:Int) w (by omega) (by omega)).mono ?_
  rintro e w1 ⟨rfl,rfl⟩
  rw [Int.toNat_natCast,HB.out]
  go_wp2
  go_ret
  exact ⟨zas (by rw [HL.out]; omega),rfl⟩
namespace Fie
variable {K:Type} [Add K] [Mul K] [Neg K] [Zero K] [One K] (F:Fie K)
include F
theorem cancelR {x y z:K} (h:y+x=z+x):y=z:=F.cancel (x:=x) (by rw [F.addC,h,F.addC])
theorem negOne (x:K) : -1*x = -x:=by rw [F.negMul,F.oneM]
end Fie
section
variable {α β:Type} {g h:α->Rat}
theorem yaV (l m:List α):sumM g (l ++ m)=sumM g l+sumM g m:=by
 induction l with
 | nil=>show sumM g m=0+sumM g m; grind
 | cons a l ih=>show g a+sumM g (l ++ m)=g a+sumM g l+sumM g m; rw [ih]; grind
theorem yaJ (k:β->List α) (l:List β):sumM g (l.flatMap k)=sumM (fun b=>sumM g (k b)) l:=by
 induction l with
 | nil=>rfl
 | cons a l ih=>rw [List.flatMap_cons,yaV,ih]; rfl
theorem yav (l:List α):sumM (fun x=>g x+h x) l=sumM g l+sumM h l:=by
 induction l with
 | nil=>show (0:Rat)=0+0; grind
 | cons a l ih=>show g a+h a+sumM (fun x=>g x+h x) l=g a+sumM g l+(h a+sumM h l); rw [ih]; grind
theorem yao (c:Rat) (l:List α):sumM (fun x=>c*g x) l=c*sumM g l:=by
 induction l with
 | nil=>show (0:Rat)=c*0; grind
 | cons a l ih=>show c*g a+sumM (fun x=>c*g x) l=c*(g a+sumM g l); rw [ih]; grind
theorem yag (l:List α):sumM (fun _=>(0:Rat)) l=0:=by
 induction l with
 | nil=>rfl
 | cons a l ih=>show (0:Rat)+sumM (fun _=>(0:Rat)) l=0; rw [ih]; grind
theorem ybp (l:List α) (m:List β) (k:α->β->Rat):sumM (fun a=>sumM (k a) m) l=sumM (fun b=>sumM (fun a=>k a b) l) m:=by
 induction l with
 | nil=>exact (yag m).symm
 | cons a l ih=>show sumM (k a) m+sumM (fun a=>sumM (k a) m) l=sumM (fun b=>k a b+sumM (fun a=>k a b) l) m; rw [ih,yav]
end
open Classical in
theorem yaw {α:Type} {l:List α} (hn:l.Nodup) {a:α} (ha:a ∈ l) (p:α->Prop) (hp:∀ x,p x↔x=a) (g:α->Rat):sumM (fun x=>if p x then g x else 0) l=g a:=by
 induction l with
 | nil=>cases ha
 | cons b l ih =>
  rw [List.nodup_cons] at hn
  show (if p b then g b else 0)+sumM _ l=g a
  by_cases e:b=a
  ·subst e
   rw [if_pos ((hp b).2 rfl),zfU (h:=fun _=>0) (fun x hx=>if_neg fun h=>hn.1 (by rw [<-(hp x).1 h]; exact hx)),yag]
   grind
  ·rw [if_neg (fun h=>e ((hp b).1 h)),ih hn.2 ((List.mem_cons.1 ha).resolve_left fun h=>e h.symm)]
   grind
open Classical in
theorem yaL {α:Type} (l:List α) (p:α->Prop) (hp:∀ x,¬ p x) (g:α->Rat):sumM (fun x=>if p x then g x else 0) l=0:=by
 rw [zfU (h:=fun _=>0) (fun x _=>if_neg (hp x)),yag]
theorem yaf {K:Type} (L:List K) (n:Nat) (g:List K->Rat):sumM g (allW L (n+1))=sumM (fun w=>sumM (fun a=>g (a :: w)) L) (allW L n):=by
 show sumM g ((allW L n).flatMap _)=_
 rw [yaJ]
 exact zfU fun w _=>by rw [zie]
section
variable {K:Type} [Add K] [Mul K] [Neg K] [Zero K] [One K]
def dotW:List K->List K->K
 | a :: x,b :: y=>a*b+dotW x y
 | _,_=>0
structure LinC (n:Nat) (C:List K->Prop):Prop where
 len:∀ x,C x->x.length=n
 zero:C (List.replicate n 0)
 add:∀ x y,C x->C y->C (addW x y)
 smul:∀ a x,C x->C (smulW a x)
def perpW (n:Nat) (C:List K->Prop) (x:List K):Prop:=x.length=n/\∀ y,C y->dotW x y=0
open Classical in
noncomputable def wtW (s t:Rat):List K->Rat
 | []=>1
 | a :: x=>(if a=0 then s else t)*wtW s t x
open Classical in
noncomputable def zW (L:List K) (n:Nat) (C:List K->Prop) (s t:Rat):Rat:=sumM (fun x=>if C x then wtW s t x else 0) (allW L n)
variable (F:Fie K)
include F
theorem ya4:∀ x:List K,∀ n,dotW x (List.replicate n 0)=0:=by
 intro x
 induction x with
 | nil=>intro n; rfl
 | cons a x ih =>
  intro n
  cases n with
  | zero=>rfl
  | succ n=>show a*0+dotW x (List.replicate n 0)=0; rw [F.mulZ,ih,F.addZ]
theorem ybA:∀ x y z:List K,y.length=z.length->dotW x (addW y z)=dotW x y+dotW x z:=by
 intro x
 induction x with
 | nil=>intro y z _; show (0:K)=0+0; rw [F.addZ]
 | cons a x ih =>
  intro y z h
  cases y with
  | nil =>
   cases z with
   | nil=>show (0:K)=0+0; rw [F.addZ]
   | cons c z=>simp at h
  | cons b y =>
   cases z with
   | nil=>simp at h
   | cons c z =>
    show a*(b+c)+dotW x (addW y z)=a*b+dotW x y+(a*c+dotW x z)
    rw [ih y z (by simpa using h),F.dist,F.addA,F.addA,F.addL (a*c)]
theorem ya5 (c:K):∀ x y:List K,dotW x (smulW c y)=c*dotW x y:=by
 intro x
 induction x with
 | nil=>intro y; show (0:K)=c*0; rw [F.mulZ]
 | cons a x ih =>
  intro y
  cases y with
  | nil=>show (0:K)=c*0; rw [F.mulZ]
  | cons b y =>
   show a*(c*b)+dotW x (smulW c y)=c*(a*b+dotW x y)
   rw [ih,F.dist,F.mulL]
theorem ya6:∀ x y z:List K,x.length=y.length->dotW (addW x y) z=dotW x z+dotW y z:=by
 intro x
 induction x with
 | nil =>
  intro y z h
  cases y with
  | nil=>show (0:K)=0+0; rw [F.addZ]
  | cons b y=>simp at h
 | cons a x ih =>
  intro y z h
  cases y with
  | nil=>simp at h
  | cons b y =>
   cases z with
   | nil=>show (0:K)=0+0; rw [F.addZ]
   | cons c z =>
    show (a+b)*c+dotW (addW x y) z=a*c+dotW x z+(b*c+dotW y z)
    rw [ih y z (by simpa using h),F.distR,F.addA,F.addA,F.addL (b*c)]
theorem yaM (c:K):∀ x y:List K,dotW (smulW c x) y=c*dotW x y:=by
 intro x
 induction x with
 | nil=>intro y; show (0:K)=c*0; rw [F.mulZ]
 | cons a x ih =>
  intro y
  cases y with
  | nil=>show (0:K)=c*0; rw [F.mulZ]
  | cons b y =>
   show (c*a)*b+dotW (smulW c x) y=c*(a*b+dotW x y)
   rw [ih,F.dist,F.mulA]
theorem ya7 (c:K) (n:Nat):smulW c (List.replicate n (0:K))=List.replicate n 0:=by
 unfold smulW
 rw [List.map_replicate,F.mulZ]
theorem ybO:∀ x:List K,addW x (List.replicate x.length 0)=x:=by
 intro x
 induction x with
 | nil=>rfl
 | cons a x ih=>show (a+0) :: addW x (List.replicate x.length 0)=a :: x; rw [F.addZ,ih]
theorem ybq {L:List K} (hn:L.Nodup) (hc:∀ a,a ∈ L):∀ n (y:List K),y.length=n->∀ g:List K->Rat,sumM (fun x=>g (addW x y)) (allW L n)=sumM g (allW L n):=by
 intro n
 induction n with
 | zero =>
  intro y hy g
  obtain rfl:y=[]:=List.length_eq_zero_iff.1 hy
  rfl
 | succ n ih =>
  intro y hy g
  cases y with
  | nil=>simp at hy
  | cons b y =>
   rw [yaf,yaf]
   have hp:(L.map (·+b)).Perm L:=perm_of_nodup' (by
    rw [List.Nodup,List.pairwise_map]
    exact hn.imp fun h e=>h (F.cancelR e)) (fun x _=>hc x) (by simp)
   have e1:∀ w,sumM (fun a=>g (addW (a :: w) (b :: y))) L=sumM (fun a=>g (a :: addW w y)) L:=fun w=>by
    rw [<-zg8 (g:=fun a=>g (a :: addW w y)) hp,zie]
    rfl
   rw [zfU (fun w _=>e1 w)]
   exact ih y (by simpa using hy) fun w=>sumM (fun a=>g (a :: w)) L
end
theorem yaC {K:Type} [Zero K] {L:List K} (hn:L.Nodup) (h0:(0:K) ∈ L) {n:Nat} {P Q:List K->Prop} (h:∀ a w,w.length=n->(P (a :: w)↔Q w)) :
  cntW L (n+1) P=(L.length:Nat)*cntW L n Q/\∀ s t,zW L (n+1) P s t=(s+(((L.length:Nat):Rat) - 1)*t)*zW L n Q s t:=by
 classical
 constructor
 ·unfold cntW
  rw [yaf,<-yao]
  refine zfU fun w hw=>?_
  have hl:=zif L n w hw
  by_cases hQ:Q w
  ·rw [if_pos hQ,zfU (h:=fun _=>1) (fun a _=>if_pos ((h a w hl).2 hQ)),zdK]; grind
  ·rw [if_neg hQ,zfU (h:=fun _=>0) (fun a _=>if_neg fun e=>hQ ((h a w hl).1 e)),yag]; grind
 ·intro s t
  unfold zW
  rw [yaf,<-yao]
  refine zfU fun w hw=>?_
  have hl:=zif L n w hw
  by_cases hQ:Q w
  ·rw [if_pos hQ,zfU (h:=fun a=>wtW s t w*(if a=0 then s else t)) (fun a _=>by
    rw [if_pos ((h a w hl).2 hQ)]
    show (if a=0 then s else t)*wtW s t w=_
    grind),yao]
   have e1:sumM (fun a:K=>if a=0 then s else t) L=s+(((L.length:Nat):Rat) - 1)*t:=by
    have e2:sumM (fun a:K=>if a=0 then s else t) L=sumM (fun a:K=>(if a=0 then s - t else 0)+t) L:=zfU fun a _=>by
     by_cases e:a=0
     ·rw [if_pos e,if_pos e]; grind
     ·rw [if_neg e,if_neg e]; grind
    rw [e2,yav,zdK,yaw hn h0 (fun a=>a=0) (fun _=>Iff.rfl) (fun _=>s - t)]
    grind
   rw [e1]; grind
  ·rw [if_neg hQ,zfU (h:=fun _=>0) (fun a _=>if_neg fun e=>hQ ((h a w hl).1 e)),yag]; grind
theorem yad {K:Type} [Zero K] {L:List K} (hn:L.Nodup) (hc:∀ a,a ∈ L) {n:Nat} {P Q R:List K->Prop} (h1:∀ w,w.length=n->(Q w↔∃ a,P (a :: w))) (h2:∀ a b w,w.length=n->P (a :: w)->P (b :: w)->a=b) (h3:∀ w,w.length=n->(R w↔P (0 :: w))) :
  cntW L (n+1) P=cntW L n Q/\∀ s t,zW L (n+1) P s t=t*zW L n Q s t+(s - t)*zW L n R s t:=by
 classical
 constructor
 ·unfold cntW
  rw [yaf]
  refine zfU fun w hw=>?_
  have hl:=zif L n w hw
  by_cases hQ:Q w
  ·obtain ⟨a,ha⟩:=(h1 w hl).1 hQ
   rw [if_pos hQ,yaw hn (hc a) (fun b=>P (b :: w)) (fun b=>⟨fun e=>h2 b a w hl e ha,fun e=>by rw [e]; exact ha⟩) (fun _=>1)]
  ·rw [if_neg hQ,yaL L (fun b=>P (b :: w)) (fun b e=>hQ ((h1 w hl).2 ⟨b,e⟩)) (fun _=>1)]
 ·intro s t
  unfold zW
  rw [yaf,<-yao,<-yao,<-yav]
  refine zfU fun w hw=>?_
  have hl:=zif L n w hw
  by_cases hQ:Q w
  ·obtain ⟨a,ha⟩:=(h1 w hl).1 hQ
   rw [if_pos hQ,yaw hn (hc a) (fun b=>P (b :: w)) (fun b=>⟨fun e=>h2 b a w hl e ha,fun e=>by rw [e]; exact ha⟩) (fun b=>wtW s t (b :: w))]
   show (if a=0 then s else t)*wtW s t w=_
   by_cases e:a=0
   ·subst e
    rw [if_pos rfl,if_pos ((h3 w hl).2 ha)]; grind
   ·rw [if_neg e,if_neg fun hr=>e (h2 _ _ w hl ha ((h3 w hl).1 hr))]; grind
  ·rw [if_neg hQ,if_neg (fun hr=>hQ ((h1 w hl).2 ⟨0,(h3 w hl).1 hr⟩)),yaL L (fun b=>P (b :: w)) (fun b e=>hQ ((h1 w hl).2 ⟨b,e⟩)) (fun b=>wtW s t (b :: w))]; grind
def rpow (q:Rat):Nat->Rat
 | 0=>1
 | n+1=>q*rpow q n
theorem ybB {q:Rat} (h:q≠0):∀ n,rpow q n≠0:=by
 intro n
 induction n with
 | zero=>show (1:Rat)≠0; decide
 | succ n ih =>
  intro e
  have e:q*rpow q n=0:=e
  rcases Rat.mul_eq_zero.1 e with h1 | h1
  ·exact h h1
  ·exact ih h1
theorem LinC.punct {K:Type} [Add K] [Mul K] [Zero K] {n:Nat} {C:List K->Prop} (h:LinC (n+1) C):LinC n fun w=>∃ a,C (a :: w):=by
 refine ⟨fun x ⟨a,hx⟩=>by have:=h.len _ hx; simpa using this,⟨0,h.zero⟩,fun x y ⟨a,hx⟩ ⟨b,hy⟩=>⟨a+b,h.add _ _ hx hy⟩,fun c x ⟨a,hx⟩=>⟨c*a,h.smul c _ hx⟩⟩
theorem yab {K:Type} [Add K] [Mul K] [Zero K] {n:Nat} {C:List K->Prop} (h:LinC (n+1) C) {a:K} {w:List K}:perpW (n+1) C (a :: w)↔w.length=n/\∀ b v,C (b :: v)->a*b+dotW w v=0:=by
 constructor
 ·rintro ⟨h1,h2⟩
  exact ⟨by simpa using h1,fun b v hv=>h2 _ hv⟩
 ·rintro ⟨h1,h2⟩
  refine ⟨by simp [h1],fun y hy=>?_⟩
  have hl:=h.len y hy
  cases y with
  | nil=>simp at hl
  | cons b v=>exact h2 b v hy
section
variable {K:Type} [Add K] [Mul K] [Neg K] [Zero K] [One K] (F:Fie K)
include F
theorem LinC.short {n:Nat} {C:List K->Prop} (h:LinC (n+1) C):LinC n fun w=>C (0 :: w):=by
 refine ⟨fun x hx=>by have:=h.len _ hx; simpa using this,h.zero,fun x y hx hy=>?_,fun a x hx=>?_⟩
 ·have:C ((0+0) :: addW x y):=h.add _ _ hx hy
  rwa [F.addZ] at this
 ·have:C ((a*0) :: smulW a x):=h.smul a _ hx
  rwa [F.mulZ] at this
theorem yaK:∀ w:List K,addW w (smulW (-1) w)=List.replicate w.length 0:=by
 intro w
 induction w with
 | nil=>rfl
 | cons a w ih =>
  show (a + -1*a) :: addW w (smulW (-1) w)=0 :: List.replicate w.length 0
  rw [ih,F.negOne,F.addN]
theorem mac {L:List K} (hn:L.Nodup) (hc:∀ a,a ∈ L):∀ (n:Nat) (C:List K->Prop),LinC n C ->
  cntW L n C*cntW L n (perpW n C)=rpow (L.length:Nat) n/\∀ s t,cntW L n (perpW n C)*zW L n C s t=zW L n (perpW n C) (s+(((L.length:Nat):Rat) - 1)*t) (s - t):=by
 classical
 have hq0:((L.length:Nat):Rat)≠0:=by
  intro e
  have:L.length=0:=by simpa using e
  have hL:=List.length_eq_zero_iff.1 this
  have:=hc 0
  rw [hL] at this
  cases this
 intro n
 induction n with
 | zero =>
  intro C hC
  have h0:C []:=hC.zero
  have h1:perpW 0 C []:=⟨rfl,fun y _=>rfl⟩
  have e1:cntW L 0 C=1:=by
   show (if C [] then (1:Rat) else 0)+0=1
   rw [if_pos h0]; grind
  have e2:cntW L 0 (perpW 0 C)=1:=by
   show (if perpW 0 C [] then (1:Rat) else 0)+0=1
   rw [if_pos h1]; grind
  have e3:∀ s t,zW L 0 C s t=1:=fun s t=>by
   show (if C [] then (1:Rat) else 0)+0=1
   rw [if_pos h0]; grind
  have e4:∀ s t,zW L 0 (perpW 0 C) s t=1:=fun s t=>by
   show (if perpW 0 C [] then (1:Rat) else 0)+0=1
   rw [if_pos h1]; grind
  refine ⟨by rw [e1,e2]; show (1:Rat)*1=1; grind,fun s t=>by rw [e2,e3,e4]; grind⟩
 | succ n ih =>
  intro C hC
  obtain ⟨q,hq⟩:∃ q:Rat,q=((L.length:Nat):Rat):=⟨_,rfl⟩
  rw [<-hq] at hq0 ih ⊢
  obtain ⟨i1,i2⟩:=ih _ (hC.short F)
  by_cases hL:∀ a w,C (a :: w)->a=0
  ·have g1:=yad (L:=L) hn hc (n:=n) (P:=C) (Q:=fun w=>C (0 :: w)) (R:=fun w=>C (0 :: w)) (fun w _=>⟨fun h=>⟨0,h⟩,fun ⟨a,h⟩=>by have:=hL a w h; subst this; exact h⟩) (fun a b w _ ha hb=>by rw [hL a w ha,hL b w hb]) (fun _ _=>Iff.rfl)
   have g2:=yaC (L:=L) hn (hc 0) (n:=n) (P:=perpW (n+1) C) (Q:=perpW n fun w=>C (0 :: w)) (fun a w hw=>by
    rw [yab hC]
    constructor
    ·rintro ⟨h1,h2⟩
     refine ⟨h1,fun v hv=>?_⟩
     have:=h2 0 v hv
     rwa [F.mulZ,F.zeroA] at this
    ·rintro ⟨h1,h2⟩
     refine ⟨h1,fun b v hv=>?_⟩
     have hb:=hL b v hv
     subst hb
     rw [F.mulZ,F.zeroA]
     exact h2 v hv)
   rw [<-hq] at g2
   refine ⟨?_,fun s t=>?_⟩
   ·rw [g1.1,g2.1]
    show _=q*rpow q n
    rw [<-i1]; grind
   ·rw [g1.2,g2.1,g2.2,<-i2]; grind
  ·obtain ⟨y,hy⟩:∃ y,C (1 :: y):=by
    simp only [Classical.not_forall] at hL
    obtain ⟨a,w,h,ha⟩:=hL
    obtain ⟨b,hb⟩:=F.inv a ha
    have:=hC.smul b _ h
    have e:smulW b (a :: w)=(b*a) :: smulW b w:=rfl
    rw [e,F.mulC,hb] at this
    exact ⟨_,this⟩
   have hyl:y.length=n:=by have:=hC.len _ hy; simpa using this
   by_cases hco:C (1 :: List.replicate n 0)
   ·have hfr:∀ a w,w.length=n->(C (a :: w)↔C (0 :: w)):=fun a w hw=>by
     have key:∀ a b,C (a :: w)->C ((a+b) :: w):=fun a b h=>by
      have h1:=hC.add _ _ h (hC.smul b _ hco)
      have e:addW (a :: w) (smulW b (1 :: List.replicate n 0))=(a+b*1) :: addW w (smulW b (List.replicate n 0)):=rfl
      rw [e,F.mulOne,ya7 F] at h1
      have e2:=ybO F w
      rw [hw] at e2
      rwa [e2] at h1
     constructor
     ·intro h
      have:=key a (-a) h
      rwa [F.addN] at this
     ·intro h
      have:=key 0 a h
      rwa [F.zeroA] at this
    have g1:=yaC (L:=L) hn (hc 0) (n:=n) (P:=C) (Q:=fun w=>C (0 :: w)) hfr
    have hz:∀ a w,w.length=n->perpW (n+1) C (a :: w)->a=0:=fun a w hw h=>by
     have:=((yab hC).1 h).2 1 _ hco
     rwa [F.mulOne,ya4 F,F.addZ] at this
    have hd:∀ w,w.length=n->((perpW n fun w=>C (0 :: w)) w↔perpW (n+1) C (0 :: w)):=fun w hw=>by
     rw [yab hC]
     constructor
     ·rintro ⟨h1,h2⟩
      refine ⟨h1,fun b v hv=>?_⟩
      have hvl:v.length=n:=by have:=hC.len _ hv; simpa using this
      rw [F.zMul,F.zeroA]
      exact h2 v ((hfr b v hvl).1 hv)
     ·rintro ⟨h1,h2⟩
      refine ⟨h1,fun v hv=>?_⟩
      have:=h2 0 v hv
      rwa [F.mulZ,F.zeroA] at this
    have g2:=yad (L:=L) hn hc (n:=n) (P:=perpW (n+1) C) (Q:=perpW n fun w=>C (0 :: w)) (R:=perpW n fun w=>C (0 :: w)) (fun w hw=>⟨fun h=>⟨0,(hd w hw).1 h⟩,fun ⟨a,h⟩=>by
     have:=hz a w hw h
     subst this
     exact (hd w hw).2 h⟩) (fun a b w hw ha hb=>by rw [hz a w hw ha,hz b w hw hb]) hd
    rw [<-hq] at g1
    refine ⟨?_,fun s t=>?_⟩
    ·rw [g1.1,g2.1]
     show _=q*rpow q n
     rw [<-i1]; grind
    ·rw [g1.2,g2.1,g2.2,<-i2]; grind
   ·obtain ⟨j1,j2⟩:=ih _ hC.punct
    have huq:∀ a b w,w.length=n->C (a :: w)->C (b :: w)->a=b:=fun a b w hw ha hb=>by
     have h1:=hC.add _ _ ha (hC.smul (-1) _ hb)
     have e:addW (a :: w) (smulW (-1) (b :: w))=(a + -1*b) :: addW w (smulW (-1) w):=rfl
     rw [e,F.negOne,yaK F,hw] at h1
     by_cases hab:a + -b=0
     ·exact F.subEq hab
     ·obtain ⟨c,hcc⟩:=F.inv _ hab
      have h2:=hC.smul c _ h1
      have e2:smulW c ((a + -b) :: List.replicate n (0:K))=(c*(a + -b)) :: smulW c (List.replicate n 0):=rfl
      rw [e2,ya7 F,F.mulC,hcc] at h2
      exact absurd h2 hco
    have g1:=yad (L:=L) hn hc (n:=n) (P:=C) (Q:=fun w=>∃ a,C (a :: w)) (R:=fun w=>C (0 :: w)) (fun _ _=>Iff.rfl) huq (fun _ _=>Iff.rfl)
    have hcnt:cntW L (n+1) C=q*cntW L n fun w=>C (0 :: w):=by
     have e0:cntW L (n+1) C=sumM (fun a=>sumM (fun w=>if C (a :: w) then 1 else 0) (allW L n)) L:=by
      unfold cntW
      rw [yaf,ybp]
     rw [e0,zfU (h:=fun _=>cntW L n fun w=>C (0 :: w)) (fun a _=>?_),zdK,<-hq]
     ·grind
     ·rw [<-ybq F hn hc n (smulW a y) (by rw [zdn,hyl])]
      refine zfU fun w hw=>?_
      have hl:=zif L n w hw
      have hiff:C (a :: addW w (smulW a y))↔C (0 :: w):=by
       constructor
       ·intro h
        have h1:=hC.add _ _ h (hC.smul (-a) _ hy)
        have e:addW (a :: addW w (smulW a y)) (smulW (-a) (1 :: y))=(a + -a*1) :: addW (addW w (smulW a y)) (smulW (-a) y):=rfl
        rw [e,F.mulOne,F.addN,zig F a w y (by rw [hl,hyl])] at h1
        exact h1
       ·intro h
        have h1:=hC.add _ _ h (hC.smul a _ hy)
        have e:addW (0 :: w) (smulW a (1 :: y))=(0+a*1) :: addW w (smulW a y):=rfl
        rw [e,F.mulOne,F.zeroA] at h1
        exact h1
      by_cases hP:C (0 :: w)
      ·rw [if_pos (hiff.2 hP),if_pos hP]
      ·rw [if_neg (fun h=>hP (hiff.1 h)),if_neg hP]
    have g2:=yad (L:=L) hn hc (n:=n) (P:=perpW (n+1) C) (Q:=perpW n fun w=>C (0 :: w)) (R:=perpW n fun w=>∃ a,C (a :: w)) (fun w hw=>by
     constructor
     ·rintro ⟨h1,h2⟩
      refine ⟨-dotW w y,(yab hC).2 ⟨h1,fun b v hv=>?_⟩⟩
      have hvl:v.length=n:=by have:=hC.len _ hv; simpa using this
      have h3:=hC.add _ _ hv (hC.smul (-b) _ hy)
      have e:addW (b :: v) (smulW (-b) (1 :: y))=(b + -b*1) :: addW v (smulW (-b) y):=rfl
      rw [e,F.mulOne,F.addN] at h3
      have h4:=h2 _ h3
      rw [ybA F w v _ (by rw [zdn,hvl,hyl]),ya5 F,F.negMul] at h4
      rw [F.negMul,F.addC,F.mulC]
      exact h4
     ·rintro ⟨a,h⟩
      obtain ⟨h1,h2⟩:=(yab hC).1 h
      refine ⟨h1,fun v hv=>?_⟩
      have:=h2 0 v hv
      rwa [F.mulZ,F.zeroA] at this) (fun a b w hw ha hb=>by
     have h1:=((yab hC).1 ha).2 1 y hy
     have h2:=((yab hC).1 hb).2 1 y hy
     rw [F.mulOne] at h1 h2
     exact F.cancelR (x:=dotW w y) (h1.trans h2.symm)) (fun w hw=>by
     rw [yab hC]
     constructor
     ·rintro ⟨h1,h2⟩
      exact ⟨h1,fun b v hv=>by rw [F.zMul,F.zeroA]; exact h2 v ⟨b,hv⟩⟩
     ·rintro ⟨h1,h2⟩
      refine ⟨h1,fun v ⟨b,hv⟩=>?_⟩
      have:=h2 b v hv
      rwa [F.zMul,F.zeroA] at this)
    have hrn:=ybB hq0 n
    have hk:cntW L n (perpW n fun w=>C (0 :: w))=q*cntW L n (perpW n fun w=>∃ a,C (a :: w)):=by
     have hcc:cntW L n (fun w=>∃ a,C (a :: w))=q*cntW L n fun w=>C (0 :: w):=by rw [<-g1.1,hcnt]
     rw [hcc] at j1
     have h0:cntW L n (fun w=>C (0 :: w))≠0:=fun e=>hrn (by rw [<-i1,e]; grind)
     have e3:cntW L n (fun w=>C (0 :: w))*(cntW L n (perpW n fun w=>C (0 :: w)) - q*cntW L n (perpW n fun w=>∃ a,C (a :: w)))=0:=by grind
     rcases Rat.mul_eq_zero.1 e3 with h | h
     ·exact absurd h h0
     ·grind
    refine ⟨?_,fun s t=>?_⟩
    ·rw [hcnt,g2.1]
     show _=q*rpow q n
     rw [<-i1]; grind
    ·have k1:=i2 s t
     have k2:=j2 s t
     rw [g1.2,g2.1,g2.2,<-k1,<-k2,hk]; grind
end
theorem Gen.linC {K:Type} [Add K] [Mul K] [Zero K] {k n:Nat} {r:Nat->List K} (hr:∀ i,i<n->(r i).length=k):LinC k (Gen k n r):=by
 refine ⟨fun x hx=>?_,.zero,fun _ _ hx hy=>.add hx hy,fun a _ hx=>.smul a hx⟩
 induction hx with
 | zero=>simp
 | row i hi=>exact hr i hi
 | add _ _ h1 h2=>rw [zfV (by rw [h1,h2]),h1]
 | smul a _ h=>rw [zdn,h]
section
variable {K:Type} [Add K] [Mul K] [Neg K] [Zero K] [One K] (F:Fie K)
include F
theorem Gen.perp {k n:Nat} {r:Nat->List K} (hl:∀ i,i<n->(r i).length=k) {x:List K} (h:∀ i,i<n->dotW x (r i)=0):∀ y,Gen k n r y->dotW x y=0:=by
 have hlen:=(Gen.linC hl).len
 intro y hy
 induction hy with
 | zero=>exact ya4 F x k
 | row i hi=>exact h i hi
 | add h1 h2 i1 i2=>rw [ybA F x _ _ (by rw [hlen _ h1,hlen _ h2]),i1,i2,F.addZ]
 | smul a _ ih=>rw [ya5 F,ih,F.mulZ]
end
section
variable {K:Type} [Add K] [Mul K] [Neg K] [Zero K] [One K]
variable (F:Fie K)
include F
theorem ybI {n t u:Nat} {f:Nat->K} (ht:t<n) (hu:u<n) (htu:t≠u) (h:∀ i,i<n->i≠t->i≠u->f i=0):sumK n f=f t+f u:=by
 induction n with
 | zero=>omega
 | succ n ih =>
  show sumK n f+f n=f t+f u
  by_cases e:t=n
  ·subst e
   rw [zeh F (t:=u) (by omega) fun i hi hne=>h i (by omega) (by omega) hne,F.addC]
  ·by_cases e2:u=n
   ·subst e2
    rw [zeh F (t:=t) (by omega) fun i hi hne=>h i (by omega) hne (by omega)]
   ·rw [ih (by omega) (by omega) fun i hi=>h i (by omega),h n (by omega) (by omega) (by omega),F.addZ]
theorem ybJ (n:Nat) (f:Nat->K):sumK n (fun i => - f i) = - sumK n f:=by
 rw [<-F.negOne (sumK n f),<-zf4 F]
 exact zbq fun i _=>(F.negOne _).symm
theorem ya8 (n:Nat) (f:Nat->K):sumK (n+1) f=f 0+sumK n (fun i=>f (i+1)):=by
 induction n with
 | zero=>show 0+f 0=f 0+0; rw [F.zeroA,F.addZ]
 | succ n ih =>
  show sumK (n+1) f+f (n+1)=f 0+(sumK n (fun i=>f (i+1))+f (n+1))
  rw [ih,F.addA]
theorem yap:∀ {k:Nat} {x y:List K},x.length=k->y.length=k->dotW x y=sumK k (fun j=>ent x j*ent y j):=by
 intro k
 induction k with
 | zero=>intro x y hx hy; rw [List.length_eq_zero_iff] at hx hy; subst hx hy; rfl
 | succ k ih =>
  intro x y hx hy
  match x,y,hx,hy with
  | a :: x,b :: y,hx,hy =>
   rw [ya8 F]
   show a*b+dotW x y=_
   rw [ih (by simpa using hx) (by simpa using hy)]
   rfl
end
section
variable {K:Type} [Add K] [Mul K] [Neg K] [Zero K] [One K] (F:Fie K)
include F
theorem ya9 {k:Nat} {y:List K} (hy:y.length=k):dotW (List.replicate k (0:K)) y=0:=by
 rw [yap F (by simp) hy]
 exact zcr F fun j _=>by rw [zeQ,F.zMul]
end
structure NullK {K:Type} [Neg K] [Zero K] [One K] (k a:Nat) (pv:Nat->Nat) (R:Nat->Nat->K) (f:Nat) (fr:Nat->Nat) (N:Nat->Nat->K):Prop where
 lt:∀ u,u<f->fr u<k
 ne:∀ u,u<f->∀ s,s<a->pv s≠fr u
 cover:∀ j,j<k->(∃ s,s<a/\pv s=j)∨∃ u,u<f/\fr u=j
 one:∀ u,u<f->N u (fr u)=1
 piv:∀ u,u<f->∀ s,s<a->N u (pv s) = - R s (fr u)
 other:∀ u,u<f->∀ v,v<f->v≠u->fr v≠fr u/\N u (fr v)=0
section
variable {K:Type} [Add K] [Mul K] [Neg K] [Zero K] [One K] (F:Fie K)
include F
theorem NullK.dot {k a f:Nat} {pv fr:Nat->Nat} {R N:Nat->Nat->K} (h:EchK k a pv R) (hn:NullK k a pv R f fr N) {u i:Nat} (hu:u<f) (hi:i<a):dotW (wd k (N u)) (wd k (R i))=0:=by
 rw [yap F (zff _ _) (zff _ _),ybI F (hn.lt u hu) (h.pvlt i hi) (fun e=>hn.ne u hu i hi e.symm) fun j hj h1 h2=>?_]
 ·rw [zbG (hn.lt u hu),zbG (hn.lt u hu),zbG (h.pvlt i hi),zbG (h.pvlt i hi),hn.one u hu,hn.piv u hu i hi,h.one i hi,F.oneM,F.mulOne,F.addN]
 ·rw [zbG hj,zbG hj]
  rcases hn.cover j hj with ⟨s,hs,e⟩ | ⟨v,hv,e⟩
  ·rw [<-e,h.zero s i hs hi (fun e2=>h2 (by rw [<-e,e2])),F.mulZ]
  ·rw [<-e,(hn.other u hu v hv (fun e2=>h1 (by rw [<-e,e2]))).2,F.zMul]
theorem NullK.perp {k a f:Nat} {pv fr:Nat->Nat} {R N:Nat->Nat->K} (h:EchK k a pv R) (hn:NullK k a pv R f fr N) (x:List K):perpW k (Gen k a (fun i=>wd k (R i))) x↔Gen k f (fun i=>wd k (N i)) x:=by
 have hl:=(Gen.linC (n:=a) (r:=fun i=>wd k (R i)) (k:=k) fun i _=>zff k (R i)).len
 have back:∀ x,Gen k f (fun i=>wd k (N i)) x->x.length=k/\∀ y,Gen k a (fun i=>wd k (R i)) y->dotW x y=0:=by
  intro x hx
  induction hx with
  | zero=>exact ⟨by simp,fun y hy=>ya9 F (hl y hy)⟩
  | row i hi=>exact ⟨zff _ _,Gen.perp F (fun i _=>zff k (R i)) fun s hs=>hn.dot F h hi hs⟩
  | add h1 h2 i1 i2=>exact ⟨by rw [zfV (by rw [i1.1,i2.1]),i1.1],fun y hy=>by rw [ya6 F _ _ _ (by rw [i1.1,i2.1]),i1.2 y hy,i2.2 y hy,F.addZ]⟩
  | smul c h1 i1=>exact ⟨by rw [zdn,i1.1],fun y hy=>by rw [yaM F,i1.2 y hy,F.mulZ]⟩
 refine ⟨fun hx=>?_,fun hx=>back x hx⟩
 obtain ⟨hxl,hx⟩:=hx
 have hc:=zim k N (fun u=>ent x (fr u)) f (Nat.le_refl f)
 have hcl:=zei k N (fun u=>ent x (fr u)) f
 have hfr:∀ v,v<f->ent (comb k N (fun u=>ent x (fr u)) f) (fr v)=ent x (fr v):=fun v hv=>by
  rw [zb3 _ _ (hn.lt v hv),zeh F hv fun u hu hne=>by rw [(hn.other u hu v hv (fun e=>hne e.symm)).2,F.mulZ],hn.one v hv,F.mulOne]
 have e:x=comb k N (fun u=>ent x (fr u)) f:=by
  refine zeP hxl hcl fun j hj=>?_
  rcases hn.cover j hj with ⟨s,hs,e⟩ | ⟨v,hv,e⟩
  ·subst e
   have d1:=hx _ (.row (r:=fun i=>wd k (R i)) s hs)
   have d2:=(back _ hc).2 _ (.row (r:=fun i=>wd k (R i)) s hs)
   rw [yap F hxl (zff _ _)] at d1;rw [yap F hcl (zff _ _)] at d2
   have d3:sumK k (fun j=>ent x j*ent (wd k (R s)) j + - (ent (comb k N (fun u=>ent x (fr u)) f) j*ent (wd k (R s)) j))=0:=by
    rw [zf3 F,ybJ F,d1,d2,F.addN]
   rw [zeh F (h.pvlt s hs) fun j hj hne=>?_] at d3
   ·rw [zbG (h.pvlt s hs),h.one s hs,F.mulOne,F.mulOne] at d3
    exact F.subEq d3
   ·rcases hn.cover j hj with ⟨t,ht,e⟩ | ⟨v,hv,e⟩
    ·rw [zbG hj,<-e,h.zero t s ht hs (fun e2=>hne (by rw [<-e,e2])),F.mulZ,F.mulZ,F.addN]
    ·rw [<-e,hfr v hv,F.addN]
  ·subst e
   exact (hfr v hv).symm
 rw [e]
 exact hc
end
theorem yba {w w':World} {g:Nat} {T:TypeId} {f:Nat->Value} {a b c:Value} (h:w.rowIs g T 3 f) (hw:w'=((w.setCell ⟨g,0,none⟩ a).setCell ⟨g,1,none⟩ b).setCell ⟨g,2,none⟩ c):w'.rowIs g T 3 (fldCell a b c)/\w.grownBy w' (some g):=by
 rw [hw]
 refine ⟨(((h.set 0 _).set 1 _).set 2 _).congr fun j hj=>?_,zaC (zaC (zcl _ _ _ _) _ _) _ _⟩
 match j,hj with
 | 0,_=>rfl
 | 1,_=>rfl
 | 2,_=>rfl
theorem yaq {w w':World} {g:Nat} {T:TypeId} {f:Nat->Value} {a b c d e:Value} (h:w.rowIs g T 5 f) (hw:w'=((((w.setCell ⟨g,0,none⟩ a).setCell ⟨g,1,none⟩ b).setCell ⟨g,2,none⟩ c).setCell ⟨g,3,none⟩ d).setCell ⟨g,4,none⟩ e):w'.rowIs g T 5 (codCell a b c d e)/\w.grownBy w' (some g):=by
 rw [hw]
 refine ⟨(((((h.set 0 _).set 1 _).set 2 _).set 3 _).set 4 _).congr fun j hj=>?_,zaC (zaC (zaC (zaC (zcl _ _ _ _) _ _) _ _) _ _) _ _⟩
 match j,hj with
 | 0,_=>rfl
 | 1,_=>rfl
 | 2,_=>rfl
 | 3,_=>rfl
 | 4,_=>rfl
def FieldPost (P M:Int) (k:Nat) (f:Nat->Int) (w:World) (e:Ending) (w':World):Prop :=
 ∃ v,e=.returned (.agg #[.int .i64 P,.int .i64 M,v])/\Own w' w.heap.size 3 1 v k (fun j _=>.int .i64 (f j))/\Below w.heap.size w w'
def leadF (p:Nat->Nat):Nat->Nat->Int
 | 0,_ => -1
 | s+1,t=>if t=p s then (s:Int) else leadF p s t
theorem ybr {p:Nat->Nat} {t:Nat}:∀ a,leadF p a t<0↔∀ s,s<a->p s≠t
 | 0=>⟨fun _ s hs=>absurd hs (by omega),fun _=>by show (-1:Int)<0; omega⟩
 | a + 1 => by
  show (if t=p a then (a:Int) else leadF p a t)<0↔_
  split
  ·rename_i h
   exact ⟨fun h2=>absurd h2 (by omega),fun h2=>absurd h.symm (h2 a (by omega))⟩
  ·rename_i h
   rw [ybr a]
   constructor
   ·intro h2 s hs
    by_cases e:s=a
    ·subst e; exact fun e=>h e.symm
    ·exact h2 s (by omega)
   ·exact fun h2 s hs=>h2 s (by omega)
def nrow (neg:Nat->Nat) (p:Nat->Nat) (W:Nat->Nat->Nat) (c:Nat):Nat->Nat->Nat
 | 0,j=>if j=c then 1 else 0
 | s+1,j=>if j=p s then neg (W s c) else nrow neg p W c s j
structure NullN (neg:Nat->Nat) (k a:Nat) (p:Nat->Nat) (W:Nat->Nat->Nat) (c f:Nat) (fr:Nat->Nat) (N:Nat->Nat->Nat):Prop where
 le:f<=c
 lt:∀ u,u<f->fr u<c
 inc:∀ u v,u<v->v<f->fr u<fr v
 ne:∀ u,u<f->∀ s,s<a->p s≠fr u
 cover:∀ j,j<c->(∃ s,s<a/\p s=j)∨∃ u,u<f/\fr u=j
 row:∀ u,u<f->∀ j,j<k->N u j=nrow neg p W (fr u) a j
section
variable {neg:Nat->Nat} {k a c f:Nat} {p fr:Nat->Nat} {W N:Nat->Nat->Nat}
theorem NullN.start:NullN neg k a p W 0 0 fr N:=⟨Nat.le_refl _,fun _ h=>absurd h (by omega),fun _ _ _ h=>absurd h (by omega),fun _ h=>absurd h (by omega),fun _ h=>absurd h (by omega),fun _ h=>absurd h (by omega)⟩
theorem NullN.skip (h:NullN neg k a p W c f fr N) (hp:∃ s,s<a/\p s=c):NullN neg k a p W (c+1) f fr N :=
 ⟨Nat.le_succ_of_le h.le,fun u hu=>Nat.lt_succ_of_lt (h.lt u hu),h.inc,h.ne,fun j hj=>by
  by_cases e:j=c
  ·subst e; exact .inl hp
  ·exact h.cover j (by omega),h.row⟩
theorem NullN.next {x:Nat->Nat} (h:NullN neg k a p W c f fr N) (hp:∀ s,s<a->p s≠c) (hx:∀ j,j<k->x j=nrow neg p W c a j):NullN neg k a p W (c+1) (f+1) (fun u=>if u=f then c else fr u) (fun u=>if u=f then x else N u):=by
 refine ⟨by have:=h.le; omega,fun u hu=>?_,fun u v huv hv=>?_,fun u hu s hs=>?_,fun j hj=>?_,fun u hu j hj=>?_⟩
 ·show (if u=f then c else fr u)<c+1
  split
  ·omega
  ·have:=h.lt u (by omega); omega
 ·show (if u=f then c else fr u)<if v=f then c else fr v
  rw [if_neg (by omega)]
  split
  ·exact h.lt u (by omega)
  ·exact h.inc u v huv (by omega)
 ·show p s≠if u=f then c else fr u
  split
  ·exact hp s hs
  ·exact h.ne u (by omega) s hs
 ·by_cases e:j=c
  ·subst e; exact .inr ⟨f,by omega,if_pos rfl⟩
  ·rcases h.cover j (by omega) with h1 | ⟨u,hu,h1⟩
   ·exact .inl h1
   ·exact .inr ⟨u,by omega,by show (if u=f then c else fr u)=j; rw [if_neg (by omega)]; exact h1⟩
 ·show (if u=f then x else N u) j=nrow neg p W (if u=f then c else fr u) a j
  split
  ·exact hx j hj
  ·exact h.row u (by omega) j hj
theorem ybC {q:Nat} (hq:1<q) (hn:∀ x,neg x<q) (c:Nat):∀ a j,nrow neg p W c a j<q
 | 0,j=>by unfold nrow; split <;> omega
 | a+1,j=>by
  unfold nrow
  split
  ·exact hn _
  ·exact ybC hq hn c a j
end
section
variable {w w':World} {P M k N n:Nat} {m:Nat->Nat} {A T:Option Addr} {V:Nat->Nat->Nat}
theorem CodeR.k_le (h:CodeR w P M m A k N T n V):k<=8:=by
 have:=h.fld.1.2.2.1
 rcases h.kM with ⟨_,h1⟩ | ⟨_,h2,_⟩ <;> omega
end
def NullRel (q:Nat) (add mul:Nat->Nat->Nat) (neg:Nat->Nat) (n k:Nat) (V:Nat->Nat->Nat) (a2:Nat) (W2:Nat->Nat->Nat):Prop :=
 ∃ a p W f fr N p2,EchN q n k k a p W/\RowOps q add mul n k V W/\NullN neg k a p W k f fr N/\EchN q f k k a2 p2 W2/\RowOps q add mul f k N W2
theorem NullRel.rref {q n k a2:Nat} {add mul:Nat->Nat->Nat} {neg:Nat->Nat} {V W2:Nat->Nat->Nat} (h:NullRel q add mul neg n k V a2 W2):RrefN q a2 k W2:=by
 obtain ⟨a,p,W,f,fr,N,p2,_,_,_,h7,_⟩:=h
 exact ⟨p2,h7.top⟩
def DualPost (P M:Nat) (m:Nat->Nat) (k n N:Nat) (V:Nat->Nat->Nat) (w:World) (e:Ending) (w':World):Prop :=
 ∃ v lv a W,e=.returned (.tuple #[.agg #[.int .i64 (P:Nat),.int .i64 (M:Nat),v,.int .i64 (N:Nat),lv],.int .i64 0])/\Own w' w.heap.size 3 1 v k (fun j _=>.int .i64 (m j:Nat))/\MTab w' w.heap.size lv a N W/\Below w.heap.size w w' /\
  NullRel (P ^ M) (addF P M) (mulF P M m) (negF P M) n N V a W
theorem ybb (n:Int):bits .and .i64 n 1=n % 2:=by
 have h1:(BitVec.ofInt 64 1).toNat=2 ^ 1 - 1:=by decide
 have key:(BitVec.ofInt 64 n &&& BitVec.ofInt 64 1).toNat=(n % ((2 ^ 64:Nat):Int)).toNat % 2 ^ 1:=by
  rw [BitVec.toNat_and,BitVec.toNat_ofInt,h1,Nat.and_two_pow_sub_one_eq_mod]
 show IntKind.i64.wrap ((BitVec.ofInt 64 n &&& BitVec.ofInt 64 1).toNat:Nat)=n % 2
 rw [key,IntKind.wrap_i64]
 omega
theorem yaN (X:World) (o:Obj):Below X.heap.size X (X.alloc o):=(Below.refl _ _).alloc (Nat.le_refl _) _
def NatOkPost (x:Nat) (w:World) (e:Ending) (w':World):Prop :=
 ∃ A c,e=.returned (.tuple #[.slice A (dl x) c,.int .i64 0])/\dl x<=c/\c<=maxLen/\NatOk w' w'.heap.size A x/\Below w.heap.size w w'
theorem ybP {o s x n k:Nat} (h:o*s ^ k=x ^ n) (hk:k % 2=1):o*s*(s*s) ^ (k / 2)=x ^ n:=by
 rw [<-h,<-Nat.pow_two,<-Nat.pow_mul,Nat.mul_assoc,<-Nat.pow_add_one']
 congr 2
 omega
theorem ybK {o s x n k:Nat} (h:o*s ^ k=x ^ n) (hk:k % 2=0):o*(s*s) ^ (k / 2)=x ^ n:=by
 rw [<-h,<-Nat.pow_two,<-Nat.pow_mul]
 congr 2
 omega
theorem ybc {o s x n k:Nat} (h:o*s ^ k=x ^ n) (hk:0<k) (hx:0<x):o<=x ^ n/\s<=x ^ n:=by
 have hp:0<x ^ n:=Nat.pow_pos hx
 have ho:0<o:=by
  rcases Nat.eq_zero_or_pos o with e | e
  ·rw [e] at h; simp at h; omega
  ·exact e
 have hs:0<s:=by
  rcases Nat.eq_zero_or_pos s with e | e
  ·rw [e,Nat.zero_pow hk] at h; simp at h; omega
  ·exact e
 constructor
 ·rw [<-h]; exact Nat.le_mul_of_pos_right _ (Nat.pow_pos hs)
 ·rw [<-h]
  have h1:s<=s ^ k:=Nat.le_self_pow (by omega) s
  exact Nat.le_trans h1 (Nat.le_mul_of_pos_left _ ho)
theorem ybd (A:Option Addr) (c x n:Nat) (w:World) (h:NatOk w w.heap.size A x) (hc:dl x<=c) (hm:c<=maxLen) (hn:dl x<=1048576) (hnn:n<=131072) (hsz:nlen x<=1∨(nlen x - 1)*n<131072) (hbig:dl (x ^ n)<=4096) :
  Calls Tryz.prog 113 #[.slice A (dl x) c,.int .i64 (n:Nat)] w (NatOkPost (x ^ n) w):=by
 have hone:=zeI (w:=w) 109 (x:=1) (by omega) (by omega)
 have d1:=hid (zcz (x:=1) (by omega) (by omega))
 go_enter Tryz.func113, Tryz.ntmps113
 go_wp2_with fail
 refine (yaU A c x w h hc hm (by omega)).mono ?_
 rintro e w1 ⟨rfl,rfl⟩
 have hlb:nlen x<=33554432:=by
  by_cases e:x=0
  ·rw [e,yaa]; omega
  ·have:=ybz e
   have:=ya2 (x:=dg x (dl x - 1)) (k:=32) (zjz _ _)
   omega
 by_cases h0:n=0
 ·subst h0
  have H:=hid (show x ^ 0=1 from Nat.pow_zero x)
  go_wp2
  go_ret2
  exact ⟨_,1,by rw [H.out,d1.out]; rfl,by rw [H.out,d1.out]; omega,by unfold maxLen; omega,by rw [H.out]; exact hone,(Below.refl _ _).alloc (Nat.le_refl _) _⟩
 ·have n0 : ((n : Int) == 0) = false := by simp; omega
  by_cases h1:x=1
  ·have H:=hid (show x ^ n=1 by rw [h1]; exact Nat.one_pow n)
   have hl:nlen x=1:=yat.2 h1
   rw [hl];clear hl h1
   go_wp2
   go_ret2
   exact ⟨_,1,by rw [H.out,d1.out]; rfl,by rw [H.out,d1.out]; omega,by unfold maxLen; omega,by rw [H.out]; exact hone,(Below.refl _ _).alloc (Nat.le_refl _) _⟩
  ·by_cases h2:x=0
   ·have H:=hid (show x ^ n=0 by rw [h2]; exact Nat.zero_pow (by omega))
    have hl:nlen x=0:=yae.2 h2
    rw [hl];clear hl h1 h2
    go_wp2
    go_ret2
    exact ⟨none,0,by rw [H.out,zbM]; rfl,by rw [H.out,zbM]; omega,by unfold maxLen; omega,by rw [H.out]; exact fun i hi=>absurd hi (by rw [zbM]; omega),Below.refl _ _⟩
   ·have hl0:=mt yae.1 h2
    have hl1:=mt yat.1 h1
    have hx0:0<x:=by omega
    obtain ⟨l,hl⟩:∃ l,l=nlen x:=⟨_,rfl⟩
    rw [<-hl] at hl0 hl1 hsz hlb ⊢
    have hs1:(l - 1)*n<131072:=by omega
    have hs2:((l:Int) - 1)*(n:Int)=(((l - 1)*n:Nat):Int):=by rw [Int.natCast_mul]; congr 1; omega
    have hs3:(0:Int)<=((l:Int) - 1)*(n:Int):=by omega
    have hs4:((l:Int) - 1)*(n:Int)<131072:=by omega
    have l0:((l:Int) == 0)=false:=by simp; omega
    have l1:((l:Int) == 1)=false:=by simp; omega
    clear hl hs2 hs1 hsz hl0 hl1 h1 h2
    have hA1:=NatOk.on h (yaN w (Obj.cells #[Value.int .u32 ((1:Nat):Int)] 109))
    go_wp2_with fail
    refine (zeH A c x _ hA1 hc hm).mono ?_
    rintro e w1 ⟨rfl,rfl⟩
    have HBG:=hid hbig
    have hBA:=yaN w (Obj.cells #[Value.int .u32 ((1:Nat):Int)] 109)
    have hl4:dl x<=536870912:=by omega
    go_wp2
    go_loopg [1,7,8] n (fun gg nv ov sv wx=>∃ k o s:Nat,∃ Ao co As cs,nv=.int .i64 (k:Nat)/\ov=.slice Ao (dl o) co/\sv=.slice As (dl s) cs/\0<k/\k<=gg/\k<=n/\Hid (o*s ^ k=x ^ n)/\(dl o<=co/\co<=maxLen)/\NatOk wx wx.heap.size Ao o/\NatOk wx wx.heap.size As s/\Below w.heap.size w wx)
    case atStart=>exact ⟨n,1,x,_,1,A,dl x,rfl,by rw [d1.out],rfl,by omega,by omega,by omega,hid (Nat.one_mul _),⟨by rw [d1.out]; omega,by unfold maxLen; omega⟩,hone,hA1,hBA⟩
    case round =>
     clear hone hA1 hBA h
     obtain ⟨k,o,s,Ao,co,As,cs,rfl,rfl,rfl,hk,hkg,hkn,HV,⟨ho1,ho2⟩,hAo,hAs,hB⟩:=hrel
     obtain ⟨hb1,hb2⟩:=ybc HV.out hk hx0
     have hdo:dl o<=536870912:=by have:=zi1 hb1; have:=HBG.out; omega
     have hds:dl s<=536870912:=by have:=zi1 hb2; have:=HBG.out; omega
     clear hb1 hb2
     have hk2:((k:Int) / 2)=((k / 2:Nat):Int):=by omega
     have HK2:=hid hk2
     clear hk2
     by_cases hpar:k % 2=1
     ·have ha:bits .and .i64 (k:Int) 1=1:=by rw [ybb]; omega
      by_cases h1:k=1
      ·subst h1
       have HE:Hid (o*s=x ^ n):=by have:=HV.out; rwa [Nat.pow_one] at this
       go_wp2_with fail
       refine (zg6 Ao As co cs o s wr hAo hAs hdo hds).mono ?_
       rintro e w2 ⟨A2,c2,rfl,g1,g2,g3,g4⟩
       rw [HE.out] at g1 g3 ⊢
       have hB2:=onS hB g4
       have hbig4:((dl (x ^ n):Nat):Int)<=4096:=by have:=HBG.out; omega
       clear g4 hAo hAs hB
       go_wp2_with fail
       refine (zfL A2 c2 (x ^ n) w2 g3 g1 g2 (by omega)).mono ?_
       rintro e w3 ⟨A3,c3,rfl,f1,f2,f3,f4⟩
       have hB3:=onS hB2 f4
       clear f4
       go_wp2
       go_ret2
       exact ⟨A3,c3,rfl,f1,f2,f3,hB3⟩
      ·have hne:((k:Int) / 2 == 0)=false:=by simp; omega
       have HE:=hid (ybP HV.out hpar)
       go_wp2_with fail
       refine (zg6 Ao As co cs o s wr hAo hAs hdo hds).mono ?_
       rintro e w2 ⟨A2,c2,rfl,g1,g2,g3,g4⟩
       have hB2:=onS hB g4
       have hAs2:=hAs.on g4
       clear g4 hAo hAs hB
       go_wp2_with fail
       refine (zg6 As As cs cs s s w2 hAs2 hAs2 hds hds).mono ?_
       rintro e w3 ⟨A3,c3,rfl,f1,f2,f3,f4⟩
       have hB3:=onS hB2 f4
       have g5:=g3.on f4
       clear f4 hAs2 hB2
       go_wp2
       go_roundg (gk - 1)
       case measure=>omega
       case rel=>exact ⟨k / 2,o*s,s*s,A2,c2,A3,c3,by rw [HK2.out],rfl,rfl,by omega,by omega,by omega,HE,⟨g1,g2⟩,g5,f3,hB3⟩
     ·have ha:bits .and .i64 (k:Int) 1=0:=by rw [ybb]; omega
      have hne:((k:Int) / 2 == 0)=false:=by simp; omega
      have HE:=hid (ybK HV.out (by omega))
      go_wp2_with fail
      refine (zg6 As As cs cs s s wr hAs hAs hds hds).mono ?_
      rintro e w3 ⟨A3,c3,rfl,f1,f2,f3,f4⟩
      have hB3:=onS hB f4
      have g5:=hAo.on f4
      clear f4 hAs hB
      go_wp2
      go_roundg (gk - 1)
      case measure=>omega
      case rel=>exact ⟨k / 2,o,s*s,Ao,co,A3,c3,by rw [HK2.out],rfl,rfl,by omega,by omega,by omega,HE,⟨ho1,ho2⟩,g5,f3,hB3⟩
def cmpN (x y:Nat):Int:=if x<y then -1 else if y<x then 1 else 0
theorem ybD {x y:Nat} (h:x<y):cmpN x y = -1:=by simp [cmpN,h]
theorem ybE {x y:Nat} (h:y<x):cmpN x y=1:=by unfold cmpN; rw [if_neg (by omega),if_pos h]
theorem ybQ {x y:Nat} (h:x=y):cmpN x y=0:=by unfold cmpN; rw [if_neg (by omega),if_neg (by omega)]
theorem ybR {f g:Nat->Nat} {n k:Nat} (hf:∀ i,i<n->f i<4294967296) (hk:k<n) (he:∀ j,k<j->j<n->f j=g j) (hl:f k<g k):nv f n<nv g n:=by
 induction n with
 | zero=>omega
 | succ n ih =>
  simp only [nv]
  by_cases e:k=n
  ·subst e
   have h1:=ziX (f:=f) (n:=k) fun i hi=>hf i (by omega)
   have h2:(f k+1)*4294967296 ^ k<=g k*4294967296 ^ k:=Nat.mul_le_mul_right _ hl
   rw [Nat.add_mul,Nat.one_mul] at h2
   omega
  ·have h1:=ih (fun i hi=>hf i (by omega)) (by omega) fun j h1 h2=>he j h1 (by omega)
   rw [he n (by omega) (by omega)]
   omega
theorem ybe {x y:Nat} (h:dl x<dl y):x<y:=by
 rcases Nat.lt_or_ge x y with h1 | h1
 ·exact h1
 ·have:=zi1 h1; omega
theorem ybf (A A2:Option Addr) (c c2 x y:Nat) (w:World) (h:NatOk w w.heap.size A x) (h2:NatOk w w.heap.size A2 y) (hc:dl x<=c) (hm:c<=maxLen) (hc2:dl y<=c2) (hm2:c2<=maxLen) (hn2:dl y<=1073741824) :
  Calls Tryz.prog 114 #[.slice A (dl x) c,.slice A2 (dl y) c2] w fun e w'=>e=.returned (.int .i64 (cmpN x y))/\Below w.heap.size w w':=by
 go_enter Tryz.func114, Tryz.ntmps114
 go_wp2_with fail
 refine (zeH A c x w h hc hm).mono ?_
 rintro e w1 ⟨rfl,rfl⟩
 go_wp2_with fail
 refine (zeH A2 c2 y w h2 hc2 hm2).mono ?_
 rintro e w1 ⟨rfl,rfl⟩
 by_cases hd:dl x=dl y
 ·obtain ⟨n,hn'⟩:∃ n,n=dl y:=⟨_,rfl⟩
  have hX:nv (dg x) n=x:=by rw [hn',<-hd,zhT]
  have hY:nv (dg y) n=y:=by rw [hn',zhT]
  have HX:=hid hX
  have HY:=hid hY
  have h3:Lims w w.heap.size A n (dg x):=by rw [hn',<-hd]; exact h
  have h4:Lims w w.heap.size A2 n (dg y):=by rw [hn']; exact h2
  rw [hd,<-hn'];rw [<-hn'] at hn2;clear hX hY h h2 hc hc2 hd hn'
  go_wp2
  go_loopg [5] n (fun gg iv wx=>∃ k:Nat,iv=.int .i64 ((k:Nat) - 1:Int)/\k<=n/\k<=gg/\Hid (∀ j,k<=j->j<n->dg x j=dg y j)/\Below w.heap.size w wx)
  case atStart=>exact ⟨n,rfl,by omega,by omega,hid fun j h1 h2=>absurd h1 (by omega),Below.refl _ _⟩
  case round =>
   obtain ⟨k,rfl,hk,hkg,HE,hB⟩:=hrel
   by_cases h0:0<k
   ·obtain ⟨k,rfl⟩:∃ k',k=k'+1:=⟨k - 1,by omega⟩
    have ek:(((k+1:Nat):Int) - 1)=(k:Int):=by omega
    rw [ek]
    obtain ⟨b,o,rfl,hb,e0⟩:=(h3.on hB).at (i:=k) (by omega)
    obtain ⟨b2,o2,rfl,hb2,e2⟩:=(h4.on hB).at (i:=k) (by omega)
    have hk0:(0:Int)<=(k:Int):=by omega
    have hk1:(k:Int)<(n:Int):=by omega
    have he:=HE.out
    by_cases c1:dg x k<dg y k
    ·have HC:=hid (ybD (x:=x) (y:=y) (by have:=ybR (f:=dg x) (g:=dg y) (n:=n) (k:=k) (fun i _=>zjz x i) (by omega) (fun j h1 h2=>he j (by omega) h2) c1; rwa [HX.out,HY.out] at this))
     obtain ⟨u,hu⟩:∃ u,u=dg x k:=⟨_,rfl⟩
     obtain ⟨v,hv⟩:∃ v,v=dg y k:=⟨_,rfl⟩
     rw [<-hu] at e0 c1;rw [<-hv] at e2 c1;clear ek he hu hv
     go_wp2
     go_quiet (fail)
     go_wp2
     go_ret
     exact ⟨zas HC.out.symm,zae hB _⟩
    ·by_cases c2:dg y k<dg x k
     ·have HC:=hid (ybE (x:=x) (y:=y) (by have:=ybR (f:=dg y) (g:=dg x) (n:=n) (k:=k) (fun i _=>zjz y i) (by omega) (fun j h1 h2=>(he j (by omega) h2).symm) c2; rwa [HX.out,HY.out] at this))
      obtain ⟨u,hu⟩:∃ u,u=dg x k:=⟨_,rfl⟩
      obtain ⟨v,hv⟩:∃ v,v=dg y k:=⟨_,rfl⟩
      rw [<-hu] at e0 c1 c2;rw [<-hv] at e2 c1 c2;clear ek he hu hv
      go_wp2
      go_quiet (fail)
      go_wp2
      go_quiet (fail)
      go_wp2
      go_ret
      exact ⟨zas HC.out.symm,zae (zae hB _) _⟩
     ·have heq:dg x k=dg y k:=by omega
      have HN:Hid (∀ j,k<=j->j<n->dg x j=dg y j):=fun j h1 h2=>by
       by_cases e:j=k
       ·rw [e]; exact heq
       ·exact he j (by omega) h2
      rw [heq] at e0
      obtain ⟨v,hv⟩:∃ v,v=dg y k:=⟨_,rfl⟩
      rw [<-hv] at e0 e2;clear ek he hv heq c1 c2
      go_wp2
      go_quiet (fail)
      go_wp2
      go_quiet (fail)
      go_wp2
      go_roundg (gk - 1)
      case measure=>omega
      case rel=>exact ⟨k,rfl,by omega,by omega,HN,zae hB _⟩
   ·obtain rfl:k=0:=by omega
    have HC:=hid (ybQ (x:=x) (y:=y) (by rw [<-HX.out,<-HY.out]; exact zfF fun i hi=>HE.out i (by omega) hi))
    go_wp2
    go_ret
    exact ⟨zas HC.out.symm,hB⟩
 ·by_cases hlt:dl x<dl y
  ·have HC:=hid (ybD (ybe hlt))
   have d1:((dl x:Nat):Int)<((dl y:Nat):Int):=by omega
   have d2:(((dl x:Nat):Int) != ((dl y:Nat):Int))=true:=by simp; omega
   clear h h2
   go_wp2
   go_ret
   exact ⟨zas HC.out.symm,Below.refl _ _⟩
  ·have HC:=hid (ybE (ybe (x:=y) (y:=x) (by omega)))
   have d1:¬ ((dl x:Nat):Int)<((dl y:Nat):Int):=by omega
   have d2:(((dl x:Nat):Int) != ((dl y:Nat):Int))=true:=by simp; omega
   clear h h2
   go_wp2
   go_ret
   exact ⟨zas HC.out.symm,Below.refl _ _⟩
open Go
section
variable {q n k:Nat} {add mul:Nat->Nat->Nat} {V:Nat->Nat->Nat}
theorem yac {neg:Nat->Nat} {p:Nat->Nat} {W:Nat->Nat->Nat} {c j:Nat}:∀ a,(∀ s,s<a->p s≠j)->nrow neg p W c a j=if j=c then 1 else 0
 | 0,_=>rfl
 | a+1,h=>by
  unfold nrow
  rw [if_neg (fun e=>h a (by omega) e.symm)]
  exact yac a fun s hs=>h s (by omega)
theorem yaO {neg:Nat->Nat} {p:Nat->Nat} {W:Nat->Nat->Nat} {c s:Nat}:∀ a,(∀ t u,t<u->u<a->p t<p u)->s<a->nrow neg p W c a (p s)=neg (W s c)
 | 0,_,h=>absurd h (by omega)
 | a + 1, hi, hs => by
  unfold nrow
  by_cases e:s=a
  ·subst e; rw [if_pos rfl]
  ·have:=hi s a (by omega) (by omega)
   rw [if_neg (by omega)]
   exact yaO a (fun t u h1 h2=>hi t u h1 (by omega)) (by omega)
end
section
variable {q n N a2:Nat} {add mul:Nat->Nat->Nat} {neg:Nat->Nat} {V W2:Nat->Nat->Nat} (hq:0<q) [iA:Add (El q)] [iM:Mul (El q)] [iN:Neg (El q)] [i0:Zero (El q)] [i1:One (El q)] (O:OnEl q add mul)
include O
variable (hL:FieldLaws q add mul)
include hL
theorem NullRel.perp (hneg:∀ x,x<q->neg x<q/\add x (neg x)=0) (hV:∀ i,i<n->∀ j,j<N->V i j<q) (h:NullRel q add mul neg n N V a2 W2) (x:List (El q)) :
  perpW N (Gen N n fun i=>wordK q hq N (V i)) x↔Gen N a2 (fun i=>wordK q hq N (W2 i)) x:=by
 obtain ⟨a,p,W,f,fr,Nn,p2,hE,hR,hN,hE2,hR2⟩:=h
 obtain ⟨hs,hWl⟩:=hR.sp hL hV
 have hle:=hE.le
 have hq2:=hL.two
 have hNl:∀ u,u<f->∀ j,j<N->Nn u j<q:=fun u hu j hj=>by
  rw [hN.row u hu j hj]
  have hfu:=hN.lt u hu
  rcases hN.cover j hj with ⟨s,hs,e⟩ | ⟨v,hv,e⟩
  ·rw [<-e,yaO a hE.inc hs]
   exact (hneg _ (hWl s (by omega) _ hfu)).1
  ·rw [yac a fun s hs e2=>hN.ne v hv s hs (e2.trans e.symm)]
   split <;> omega
 obtain ⟨hs2,hWl2⟩:=hR2.sp hL hNl
 have s1:=ziq hq O hL hV (hE.top.lt) (fun x=>(hs x).trans (hE.sp_top hL x)) x
 have s1':∀ x,Gen N n (fun i=>wordK q hq N (V i)) x↔Gen N a (fun i=>wordK q hq N (W i)) x:=ziq hq O hL hV (hE.top.lt) (fun x=>(hs x).trans (hE.sp_top hL x))
 have s2:=ziq hq O hL hNl (hE2.top.lt) (fun x=>(hs2 x).trans (hE2.sp_top hL x)) x
 rw [<-s2]
 have hK:NullK N a p (fun i j=>toEl q hq (W i j)) f fr (fun i j=>toEl q hq (Nn i j)):=by
  refine ⟨hN.lt,hN.ne,hN.cover,fun u hu=>?_,fun u hu s hs=>?_,fun u hu v hv hne=>?_⟩
  ·rw [hN.row u hu _ (hN.lt u hu),yac a (hN.ne u hu),if_pos rfl]
   exact El.ext' (by rw [zat hq (by omega),O.h1])
  ·rw [hN.row u hu _ (hE.pvlt s hs),yaO a hE.inc hs]
   obtain ⟨g1,g2⟩:=hneg _ (hE.lt s (by omega) _ (hN.lt u hu))
   refine O.fie.negOf (El.ext' ?_)
   rw [O.ha,zat hq (hE.lt s (by omega) _ (hN.lt u hu)),zat hq g1,g2,O.h0]
  ·have hne2:fr v≠fr u:=by
    rcases Nat.lt_or_gt_of_ne hne with h1 | h1
    ·have:=hN.inc v u h1 hu; omega
    ·have:=hN.inc u v h1 hv; omega
   refine ⟨hne2,?_⟩
   rw [hN.row u hu _ (hN.lt v hv),yac a (hN.ne v hv),if_neg hne2]
   exact El.ext' (by rw [zat hq hq,O.h0])
 have:=NullK.perp O.fie (hE.toK hq O.h0 O.h1) hK x
 refine Iff.trans ?_ this
 constructor
 ·rintro ⟨g1,g2⟩; exact ⟨g1,fun y hy=>g2 y ((s1' y).2 hy)⟩
 ·rintro ⟨g1,g2⟩; exact ⟨g1,fun y hy=>g2 y ((s1' y).1 hy)⟩
end
section
variable {q n k:Nat} {add mul:Nat->Nat->Nat} {V:Nat->Nat->Nat}
theorem yax (hL:FieldLaws q add mul) {a s j:Nat} {c:Nat->Nat} (hc:∀ i,i<a->c i<q) (hs:s<a) (h1:V s j=1) (h0:∀ t,t<a->t≠s->V t j=0):spE add mul V c a j=c s:=by
 have key:∀ t,t<=a->spE add mul V c t j=if s<t then c s else 0:=by
  intro t
  induction t with
  | zero=>intro _; rfl
  | succ t ih =>
   intro ht
   show add (spE add mul V c t j) (mul (c t) (V t j))=_
   rw [ih (by omega)]
   by_cases e:t=s
   ·subst e
    rw [if_neg (by omega),if_pos (by omega),h1,hL.mulOne (hc t hs),hL.zeroAdd _ (hc t hs)]
   ·rw [h0 t (by omega) e,hL.mulZero (hc t (by omega))]
    by_cases e2:s<t
    ·rw [if_pos e2,if_pos (by omega),hL.addZero (hc s hs)]
    ·rw [if_neg e2,if_neg (by omega),hL.addZero (by have:=hL.two; omega)]
 rw [key a (Nat.le_refl _),if_pos hs]
theorem ybS (hL:FieldLaws q add mul) {U W:Nat->Nat->Nat} {f a N:Nat} {fr p:Nat->Nat} (hf:∀ u,u<f->fr u<N) (hp:∀ s,s<a->p s<N)
  (u1:∀ s,s<f->U s (fr s)=1) (u0:∀ s,s<f->∀ t,t<f->t≠s->U t (fr s)=0) (w1:∀ s,s<a->W s (p s)=1) (w0:∀ s,s<a->∀ t,t<a->t≠s->W t (p s)=0)
  (hS:SameSp q add mul N f a U W):f<=a:=by
 have hq:=hL.two
 have hle:q ^ f<=q ^ a:=by
  refine pigeon (f:=fun i=>code q (fun s=>spE add mul U (msgD q f i) f (p s)) a) (fun i _=>zcx fun s _=>zbb hL _ _ _) fun i i' hi hi' e=>?_
  have e1:=zc7 (fun s _=>zbb hL _ _ _) (fun s _=>zbb hL _ _ _) e
  have hin:∀ i,InSp q add mul a N W (spE add mul U (msgD q f i) f):=fun i=>(hS _).1 ⟨msgD q f i,fun _ _=>zdU (by omega),fun _ _=>rfl⟩
  obtain ⟨c,hc,ec⟩:=hin i
  obtain ⟨d,hd,ed⟩:=hin i'
  have ecd:∀ s,s<a->c s=d s:=fun s hs=>by
   have:=e1 s hs
   rw [ec _ (hp s hs),ed _ (hp s hs),yax hL hc hs (w1 s hs) (w0 s hs),yax hL hd hs (w1 s hs) (w0 s hs)] at this
   exact this
  have em:∀ u,u<f->msgD q f i u=msgD q f i' u:=fun u hu=>by
   have h1:=yax (V:=U) hL (fun t _=>zdU (q:=q) (n:=f) (x:=i) (t:=t) (by omega)) hu (u1 u hu) (u0 u hu)
   have h2:=yax (V:=U) hL (fun t _=>zdU (q:=q) (n:=f) (x:=i') (t:=t) (by omega)) hu (u1 u hu) (u0 u hu)
   rw [<-h1,<-h2,ec _ (hf u hu),ed _ (hf u hu)]
   exact zbO a fun s hs=>⟨ecd s hs,rfl⟩
  refine zgb (by omega) hi hi' fun t ht=>?_
  have:=em (f - 1 - t) (by omega)
  unfold msgD at this
  rwa [show f - 1 - (f - 1 - t)=t by omega] at this
 exact (Nat.pow_le_pow_iff_right hq).1 hle
theorem NullRel.count {neg:Nat->Nat} {N a2:Nat} {W2:Nat->Nat->Nat} (hL:FieldLaws q add mul) (hneg:∀ x,x<q->neg x<q/\add x (neg x)=0) (hV:RrefN q n N V) (h:NullRel q add mul neg n N V a2 W2):n+a2=N:=by
 obtain ⟨pv,hv⟩:=hV
 obtain ⟨a,p,W,f,fr,Nn,p2,hE,hR,hN,hE2,hR2⟩:=h
 have hq:=hL.two
 have hle:=hE.le
 obtain ⟨hs,hWl⟩:=hR.sp hL hv.lt
 have hNl:∀ u,u<f->∀ j,j<N->Nn u j<q:=fun u hu j hj=>by
  rw [hN.row u hu j hj]
  have hfu:=hN.lt u hu
  rcases hN.cover j hj with ⟨s,hs,e⟩ | ⟨v,hv,e⟩
  ·rw [<-e,yaO a hE.inc hs]
   exact (hneg _ (hWl s (by omega) _ hfu)).1
  ·rw [yac a fun s hs e2=>hN.ne v hv s hs (e2.trans e.symm)]
   split <;> omega
 obtain ⟨hs2,-⟩:=hR2.sp hL hNl
 have ea:n=a:=(zfg hL hv hE.top fun x=>(hs x).trans (hE.sp_top hL x)).1
 have hle2:=hE2.le
 have u1:∀ s,s<f->Nn s (fr s)=1:=fun s hs=>by rw [hN.row s hs _ (hN.lt s hs),yac a (hN.ne s hs),if_pos rfl]
 have u0:∀ s,s<f->∀ t,t<f->t≠s->Nn t (fr s)=0:=fun s hs t ht hne=>by
  rw [hN.row t ht _ (hN.lt s hs),yac a (hN.ne s hs),if_neg]
  intro e
  rcases Nat.lt_or_gt_of_ne hne with h1 | h1
  ·have:=hN.inc t s h1 hs; omega
  ·have:=hN.inc s t h1 ht; omega
 have w0:∀ s,s<a2->∀ t,t<a2->t≠s->W2 t (p2 s)=0:=fun s hs t ht hne=>hE2.zero s hs t (by omega) hne
 have hS:SameSp q add mul N f a2 Nn W2:=fun x=>(hs2 x).trans (hE2.sp_top hL x)
 have f1:f<=a2:=ybS hL hN.lt hE2.pvlt u1 u0 hE2.one w0 hS
 have f3:a+f<=N:=by
  refine pigeon (f:=fun i=>if i<a then p i else fr (i - a)) (fun i hi=>?_) fun i j hi hj e=>?_
  ·show (if i<a then p i else fr (i - a))<N
   split
   ·rename_i h; exact hE.pvlt i h
   ·exact hN.lt _ (by omega)
  ·have e':(if i<a then p i else fr (i - a))=(if j<a then p j else fr (j - a)):=e
   by_cases h1:i<a
   ·rw [if_pos h1] at e'
    by_cases h2:j<a
    ·rw [if_pos h2] at e'
     rcases Nat.lt_trichotomy i j with h3 | h3 | h3
     ·have:=hE.inc i j h3 h2; omega
     ·exact h3
     ·have:=hE.inc j i h3 h1; omega
    ·rw [if_neg h2] at e'
     exact absurd e' (hN.ne _ (by omega) _ h1)
   ·rw [if_neg h1] at e'
    by_cases h2:j<a
    ·rw [if_pos h2] at e'
     exact absurd e'.symm (hN.ne _ (by omega) _ h2)
    ·rw [if_neg h2] at e'
     rcases Nat.lt_trichotomy (i - a) (j - a) with h3 | h3 | h3
     ·have:=hN.inc _ _ h3 (by omega); omega
     ·omega
     ·have:=hN.inc _ _ h3 (by omega); omega
 have f4:N<=a+f:=by
  have hch:∀ j,∃ i,j<N->i<a+f/\(if i<a then p i else fr (i - a))=j:=fun j=>by
   by_cases hj:j<N
   ·rcases hN.cover j hj with ⟨s,hs,e⟩ | ⟨u,hu,e⟩
    ·exact ⟨s,fun _=>⟨by omega,by rw [if_pos hs]; exact e⟩⟩
    ·exact ⟨a+u,fun _=>⟨by omega,by rw [if_neg (by omega),show a+u - a=u by omega]; exact e⟩⟩
   ·exact ⟨0,fun h=>absurd h hj⟩
  obtain ⟨g,hg⟩:=Classical.skolem.1 hch
  refine pigeon (f:=g) (fun j hj=>(hg j hj).1) fun i j hi hj e=>?_
  have h1:=(hg i hi).2
  have h2:=(hg j hj).2
  rw [e] at h1
  omega
 omega
end
theorem ybF {α:Type} {f g:α->Rat}:∀ {l:List α},(∀ x,x ∈ l->f x<=g x)->sumM f l<=sumM g l
 | [],_=>Rat.le_refl
 | a :: l,h=>by
  have h1:=h a (by simp)
  have h2:=ybF (f:=f) (g:=g) (l:=l) fun x hx=>h x (by simp [hx])
  show f a+sumM f l<=g a+sumM g l
  grind
def IndexPost (n:Nat) (f:Nat->Int) (v:Int) (w:World) (e:Ending) (w':World):Prop :=
 ∃ x:Int,e=.returned (.int .i64 x)/\Below w.heap.size w w'/\((x = -1/\∀ i,i<n->f i≠v)∨∃ i:Nat,x=i/\i<n/\f i=v/\∀ j,j<i->f j≠v)
theorem yaD (T:Option Addr) (n d:Nat) (f:Nat->Int) (v:Int) (w:World) (h:IntsR w w.heap.size T n f) (hn:n<=1048576) :
  Calls Tryz.prog 241 #[.slice T n d,.int .i64 v] w (IndexPost n f v w):=by
 have HR:=hid h
 clear h
 go_enter Tryz.func241, Tryz.ntmps241
 go_wp2
 go_loopg [8] n (fun gg iv wx=>∃ i:Nat,iv=.int .i64 (i:Nat)/\i<=n/\n<=i+gg/\Hid (∀ j,j<i->f j≠v)/\wx=w)
 case atStart=>exact ⟨0,rfl,by omega,by omega,fun t ht=>absurd ht (by omega),rfl⟩
 case round =>
  obtain ⟨i,rfl,hi,hig,HA,hwx⟩:=hrel
  subst hwx
  have hi0:(0:Int)<=(i:Int):=by omega
  by_cases hlt:i<n
  ·have hlt':(i:Int)<(n:Int):=by omega
   obtain ⟨b,o,rfl,_,x0⟩:=HR.out.at hlt
   obtain ⟨x,hx⟩:∃ x,x=f i:=⟨_,rfl⟩
   rw [<-hx] at x0
   by_cases he:v=x
   ·have hd:(v == x)=true:=by simpa using he
    have HP:Hid (∃ i2:Nat,(i:Int)=i2/\i2<n/\f i2=v/\∀ j,j<i2->f j≠v):=⟨i,rfl,hlt,by rw [<-hx,he],HA.out⟩
    clear he hx
    go_wp2
    go_ret
    exact ⟨_,rfl,Below.refl _ _,.inr HP.out⟩
   ·have hd:(v == x)=false:=by simpa using he
    have HA2:Hid (∀ j,j<i+1->f j≠v):=fun j hj=>by
     by_cases e:j=i
     ·rw [e,<-hx]; exact fun h=>he h.symm
     ·exact HA.out j (by omega)
    clear he hx
    go_wp2
    go_roundg (gk - 1)
    case measure=>omega
    case rel=>exact ⟨i+1,by go_num,by omega,by omega,HA2,rfl⟩
  ·have hlt':¬ (i:Int)<(n:Int):=by omega
   have HP:Hid (∀ j,j<n->f j≠v):=fun j hj=>HA.out j (by omega)
   go_wp2
   go_ret
   exact ⟨_,rfl,Below.refl _ _,.inl ⟨rfl,HP.out⟩⟩
theorem yar (T:Option Addr) (n d:Nat) (f:Nat->Int) (v:Int) (w:World) (h:IntsR w w.heap.size T n f) (hn:n<=1048576) :
  Calls Tryz.prog 206 #[.slice T n d,.int .i64 v] w (IffPost (∃ i,i<n/\f i=v) w):=by
 go_enter Tryz.func206, Tryz.ntmps206
 go_wp2_with fail
 refine (yaD T n d f v w h hn).mono ?_
 rintro e w1 ⟨x,rfl,hB,hx⟩
 have HX:=hid hx
 clear hx h
 by_cases hx0:0<=x
 ·have hd:decide (0<=x)=true:=by simpa using hx0
  have HY:Hid (∃ i,i<n/\f i=v):=by
   rcases HX.out with ⟨h1,_⟩ | ⟨i,_,h2,h3,_⟩
   ·omega
   ·exact ⟨i,h2,h3⟩
  clear hx0
  go_wp2
  go_ret
  exact za3 HY.out hB
 ·have hd:decide (0<=x)=false:=by simpa using hx0
  have HY:Hid (¬ ∃ i,i<n/\f i=v):=by
   rcases HX.out with ⟨_,h1⟩ | ⟨i,h1,_,_,_⟩
   ·rintro ⟨i,h2,h3⟩; exact h1 i h2 h3
   ·omega
  clear hx0
  go_wp2
  go_ret
  exact zau HY.out hB
def MKerPost (P M : Int) (k : Nat) (f : Nat → Int) (cols : Int) (n : Nat) (ln : Nat → Nat) (V : Nat → Nat → Int) (w : World) (e : Ending) (w' : World) : Prop :=
 Below w.heap.size w w'/\∃ v:Int,FirstErr (MatErrs P M k f cols n ln V) v /\
  ((v≠0/\e=.returned (.tuple #[.agg #[.int .i64 0,.slice none 0 0],.int .i64 v])) ∨
   (v=0/\∃ (P' M' C:Nat) (lv:Value) (a:Nat) (W:Nat->Nat->Nat),P=P'/\M=M'/\cols=C/\e=.returned (.tuple #[.agg #[.int .i64 (C:Nat),lv],.int .i64 0]) /\
    MTab w' w.heap.size lv a C W/\NullRel (P' ^ M') (addF P' M') (mulF P' M' fun i=>(f i).toNat) (negF P' M') n C (natT V) a W))
theorem yai (P M:Int) (A:Option Addr) (k c:Nat) (f:Nat->Int) (cols:Int) (T:Option Addr) (n d:Nat) (ln:Nat->Nat) (V:Nat->Nat->Int) (w:World) (hr:IntsR w w.heap.size A k f) (h:IntRows w T n ln V) (hc1:1<=cols) :
  Calls Tryz.prog 153 #[.agg #[.int .i64 P,.int .i64 M,.slice A k c],.agg #[.int .i64 cols,.slice T n d]] w (MKerPost P M k f cols n ln V w):=by
 have HR:=hid hr
 have HT:=hid h
 clear hr h
 have rf:=zaf (w:=w) (a:=.int .i64 P) (b:=.int .i64 M) (c:=.slice A k c) (T := 24)
 have hB:Below w.heap.size w (w.alloc (.cells #[.int .i64 P,.int .i64 M,.slice A k c] 24)):=(Below.refl _ _).alloc (Nat.le_refl _) _
 have hsz:(w.alloc (.cells #[.int .i64 P,.int .i64 M,.slice A k c] 24)).heap.size=w.heap.size+1:=by simp
 obtain ⟨w0,hw0⟩:∃ W,W=w.alloc (.cells #[.int .i64 P,.int .i64 M,.slice A k c] 24):=⟨_,rfl⟩
 have rm:=zaB (w:=w0) (a:=.int .i64 cols) (b:=.slice T n d) (T := 106)
 have kb:Below w0.heap.size w0 (w0.alloc (.cells #[.int .i64 cols,.slice T n d] 106)):=(Below.refl _ _).alloc (Nat.le_refl _) _
 have hsz1:(w0.alloc (.cells #[.int .i64 cols,.slice T n d] 106)).heap.size=w0.heap.size+1:=by simp
 obtain ⟨w1,hw1⟩:∃ W,W=w0.alloc (.cells #[.int .i64 cols,.slice T n d] 106):=⟨_,rfl⟩
 have ro:=zaB (w:=w1) (a:=.int .i64 0) (b:=.slice none 0 0) (T := 106)
 have kb2:Below w1.heap.size w1 (w1.alloc (.cells #[.int .i64 0,.slice none 0 0] 106)):=(Below.refl _ _).alloc (Nat.le_refl _) _
 obtain ⟨w2,hw2⟩:∃ W,W=w1.alloc (.cells #[.int .i64 0,.slice none 0 0] 106):=⟨_,rfl⟩
 rw [<-hw0] at hB rf hsz;rw [<-hw1] at rm kb hsz1;rw [<-hw2] at ro kb2;rw [hsz1,hsz] at ro;rw [hsz] at rm;replace rf:=zab (zab rf kb) kb2;replace rm:=zab rm kb2;replace hB:=onS (onS hB kb) kb2
 go_enter Tryz.func153, Tryz.ntmps153
 go_upto_region 1 with fail
 rw [<-hw0,<-hw1,<-hw2];clear hw0 hw1 hw2 kb kb2 hsz hsz1
 obtain ⟨b0,hb0⟩:∃ b,b=w.heap.size:=⟨_,rfl⟩
 obtain ⟨b1,hb1⟩:∃ b,b=w.heap.size+1:=⟨_,rfl⟩
 obtain ⟨b2,hb2⟩:∃ b,b=w.heap.size+1+1:=⟨_,rfl⟩
 have hb2w:w.heap.size<=b2:=by omega
 rw [<-hb0] at rf;rw [<-hb1] at rm;rw [<-hb2] at ro;rw [<-hb2,<-hb1,<-hb0];clear hb0 hb1 hb2
 have q0:w2.cell? ⟨b0,0,none⟩=some (.int .i64 P):=rf.cell (i:=0) (by omega)
 have q1:w2.cell? ⟨b0,1,none⟩=some (.int .i64 M):=rf.cell (i:=1) (by omega)
 have q2:w2.cell? ⟨b0,2,none⟩=some (.slice A k c):=rf.cell (i:=2) (by omega)
 have p0:w2.cell? ⟨b1,0,none⟩=some (.int .i64 cols):=rm.cell (i:=0) (by omega)
 have p1:w2.cell? ⟨b1,1,none⟩=some (.slice T n d):=rm.cell (i:=1) (by omega)
 go_wp2_with fail
 have kb3:Below w2.heap.size w2 (w2.alloc (Obj.cells #[.int .i64 cols,.slice T n d] 106)):=(Below.refl _ _).alloc (Nat.le_refl _) _
 have rl:=zaB (w:=w2) (a:=.int .i64 cols) (b:=.slice T n d) (T := 106)
 obtain ⟨w3,hw3⟩:∃ W,W=w2.alloc (Obj.cells #[.int .i64 cols,.slice T n d] 106):=⟨_,rfl⟩
 rw [<-hw3] at kb3 rl ⊢;replace hB:=onS hB kb3;replace rf:=zab rf kb3;replace rm:=zab rm kb3;replace ro:=zab ro kb3;clear hw3 kb3 q0 q1 q2 p0 p1
 refine (zhl P M A k c f cols T n d w2.heap.size 1 ln V w3 (HR.out.on hB) (HT.out.on hB) (rl.cell (i:=0) (by omega)) (rl.cell (i:=1) (by omega))).mono ?_
 rintro e w4 ⟨kb,v,hv,hcase⟩
 replace hB:=onS hB kb;replace rm:=zab rm kb;replace ro:=zab ro kb
 have HV:=hid hv
 clear kb rl rf hv
 rcases hcase with ⟨hv0,rfl⟩ | ⟨rfl,g,P,M,rfl,rfl,rfl,hG⟩
 ·have hvn:(v != 0)=true:=by simpa using hv0
  have HV0:=hid hv0
  clear hv0 rm
  have r0:=ro.frozen 0
  have s0:w4.cell? ⟨b2,0,none⟩=some _:=ro.cell (i:=0) (by omega)
  have r1:=ro.frozen 1
  have s1:w4.cell? ⟨b2,1,none⟩=some _:=ro.cell (i:=1) (by omega)
  go_wp2
  clear r0 s0 r1 s1
  generalize hw9:World.setCell _ _ _=w5
  obtain ⟨row9,hg9⟩:=zcG ro hw9.symm
  clear hw9
  have hB9:=hB.grown hg9 hB.size (fun q e=>by injection e with e; omega)
  have e0:w5.cell? ⟨b2,0,none⟩=some (.int .i64 0):=row9.cell (i:=0) (by omega)
  have e1:w5.cell? ⟨b2,1,none⟩=some (.slice none 0 0):=row9.cell (i:=1) (by omega)
  refine bodyPost_ret (v:=.tuple #[.agg #[.int .i64 0,.slice none 0 0],.int .i64 v]) (by simp [results,Tryz.results153, go_sem,e0,e1]) rfl ?_
  exact ⟨hB9,v,HV.out,.inl ⟨HV0.out,rfl⟩⟩
 ·have hok:=HV.out
  rcases hok with ⟨_,h9⟩ | ⟨hgood,⟨_,h9⟩ | ⟨hs,⟨_,h9⟩ | ⟨he,_⟩⟩⟩
  ·cases h9
  ·cases h9
  ·cases h9
  obtain ⟨C,rfl⟩:∃ C:Nat,cols=C:=⟨cols.toNat,by omega⟩
  rw [Int.toNat_natCast,Int.toNat_natCast] at he
  obtain ⟨hm,hlt⟩:=zcE (HT.out.on hB) hs he
  have hC1:0<C:=by omega
  have hC2:C<=1048576:=by have:=hs.2.1; omega
  have hn2:n<=1048576:=by have:=hs.2.2.1; omega
  have p0:w4.cell? ⟨b1,0,none⟩=some (.int .i64 (C:Nat)):=rm.cell (i:=0) (by omega)
  have p1:w4.cell? ⟨b1,1,none⟩=some (.slice T n d):=rm.cell (i:=1) (by omega)
  have HOK:=hid hgood.field.1
  have HG:=hid hG
  have HMM:=hid hm
  have HLT:=hid hlt
  have HC:Hid (C<=256):=by show _<=_; have:=hs.2.1; omega
  have HB4:=hid hB
  clear hs he hgood hG hm hlt hB
  go_wp2_with fail
  refine (zgk P M g _ T n d C C (natT V) w4 HG.out HMM.out HLT.out (Nat.le_refl _) hC1 hC2 hn2).mono ?_
  rintro e w5 ⟨lv,pv,a,p,W,rfl,hMT,hP,kb,hE,hR⟩
  have HB5:=hid (onS HB4.out kb)
  have HG5:=hid (HG.out.on kb)
  replace ro:=zab ro kb;replace rm:=zab rm kb
  have HE:=hid hE
  have HRO:=hid hR
  obtain ⟨LA,lc,hlv⟩:=hMT.shape
  subst hlv
  obtain ⟨PA,pc,hpv⟩:=hP.shape
  subst hpv
  have HMB:=hid hMT
  have HPB:=hid hP
  have haC:=hE.le_c
  have HRM:=hid rm
  have HRO2:=hid ro
  clear kb hMT hP hE hR HMM HLT HG p0 p1 rm ro
  have p0:w5.cell? ⟨b1,0,none⟩=some (.int .i64 (C:Nat)):=HRM.out.cell (i:=0) (by omega)
  have hL:=hid (fieldLaws HOK.out)
  have hP0:0<P:=by have:=HOK.out.1.1; omega
  have HQN:Hid (∀ x,negF P M x<P ^ M):=fun x=>zbp hP0
  have H0:=hid (MTab.nil w5 w5.heap.size C (fun _ _=>0))
  have hmk:=fun W=>zah (P:=Tryz.prog) 22 3 _ 8 Tryz.underlying22 Tryz.infoInt rfl (C:Int) (by omega) (by omega) (by omega) W
  simp only [Int.toNat_natCast] at hmk
  go_wp2
  clear p0
  obtain ⟨nv,hnv⟩:∃ x:Value,x=.slice none 0 0:=⟨_,rfl⟩
  rw [<-hnv] at H0;rw [<-hnv];clear hnv
  go_loopg [10,37] C (fun gg ov cv wx=>∃ (c0 f0:Nat) (fr:Nat->Nat) (NW:Nat->Nat->Nat),cv=.int .i64 (c0:Nat)/\c0<=C/\C<=c0+gg/\f0<=c0/\Hid (NullN (negF P M) C a p W c0 f0 fr NW)/\Hid (MTab wx w5.heap.size ov f0 C NW)/\Hid (Below w5.heap.size w5 wx))
  case atStart=>exact ⟨0,0,fun _=>0,fun _ _=>0,rfl,by omega,by omega,by omega,hid NullN.start,H0,Below.refl _ _⟩
  case round =>
   clear H0
   obtain ⟨c0,f0,fr,NW,rfl,hc,hcg,hfc,HN,HO,HB2⟩:=hrel
   have hc00:(0:Int)<=(c0:Int):=by omega
   obtain ⟨gO,hgO⟩:∃ x,x=gk:=⟨_,rfl⟩
   rw [<-hgO] at hcg
   have p0:wr.cell? ⟨b1,0,none⟩=some (.int .i64 (C:Nat)):=cellS HB2.out (HRM.out.cell (i:=0) (by omega))
   by_cases hcl:c0<C
   ·have hcl':(c0:Int)<(C:Int):=by omega
    go_wp2_with fail
    refine (yar PA a pc (fun s=>((p s:Nat):Int)) (c0:Int) wr ((show IntsR w5 w5.heap.size PA a (fun s=>((p s:Nat):Int)) from HPB.out.rd rfl).on HB2.out) (by omega)).mono ?_
    rintro e wC ⟨b,rfl,hb,kb⟩
    have HBC:=hid (onS HB2.out kb)
    have HOC:=hid (HO.out.on kb)
    have HBB:=hid hb
    clear kb hb HO HB2 p0
    cases b
    ·have HFREE:Hid (∀ s,s<a->p s≠c0):=fun s hs e=>by have:=HBB.out.2 ⟨s,hs,by rw [e]⟩; cases this
     have p0:wC.cell? ⟨b1,0,none⟩=some (.int .i64 (C:Nat)):=cellS HBC.out (HRM.out.cell (i:=0) (by omega))
     go_upto_region 11 with fail
     have rx:=World.rowIs_made wC (.int .i64 0) C 3
     have kb:=(Below.refl wC.heap.size wC).alloc (Nat.le_refl _) (Obj.cells (madeCells #[Value.int .i64 0] C) 3)
     obtain ⟨w6,hw6⟩:∃ W,W=wC.alloc (Obj.cells (madeCells #[Value.int .i64 0] C) 3):=⟨_,rfl⟩
     obtain ⟨xb,hxb⟩:∃ b,b=wC.heap.size:=⟨_,rfl⟩
     rw [<-hw6] at kb rx ⊢;rw [<-hxb] at rx ⊢
     have hxb1:wC.heap.size<=xb:=by omega
     clear hw6 hxb p0
     have y0:=rx.cell hcl
     have z0:=rx.frozen c0
     have HRX:=hid ((rx.set c0 (.int .i64 1)).congr (g:=fun t=>.int .i64 ((nrow (negF P M) p W c0 0 t:Nat):Int)) fun t _=>by
      show (if t=c0 then Value.int .i64 1 else .int .i64 0)=.int .i64 (((if t=c0 then 1 else 0:Nat)):Int)
      split <;> rfl)
     have HKB:=hid (kb.setCell (p:=⟨xb,c0,none⟩) hxb1 (.int .i64 1))
     clear rx kb
     go_wp2
     clear y0 z0
     obtain ⟨w7,hw7⟩:∃ W,W=w6.setCell ⟨xb,c0,none⟩ (.int .i64 1):=⟨_,rfl⟩
     rw [<-hw7] at HRX HKB ⊢;clear hw7
     go_loopg [51] a (fun gg iv wx=>∃ t:Nat,iv=.int .i64 (t:Nat)/\t<=a/\a<=t+gg/\Hid (wx.rowIs xb 3 C (fun j=>.int .i64 ((nrow (negF P M) p W c0 t j:Nat):Int)))/\Hid (Below wC.heap.size wC wx))
     case atStart=>exact ⟨0,rfl,by omega,by omega,HRX,HKB⟩
     case round =>
      clear HRX HKB
      obtain ⟨t,rfl,ht,htg,HRX,HKB⟩:=hrel
      have ht0:(0:Int)<=(t:Int):=by omega
      by_cases htl:t<a
      ·have htl':(t:Int)<(a:Int):=by omega
       obtain ⟨pb,po,hPA,hpb,x0⟩:=(show IntsR w5 w5.heap.size PA a (fun s=>((p s:Nat):Int)) from HPB.out.rd rfl).at htl
       subst hPA
       obtain ⟨tb,to0,RA,rc,hLA,_,htb,y0,_,hrow⟩:=HMB.out.row htl
       subst hLA
       obtain ⟨rb,ro,hRA,hrb,y1⟩:=(show IntsR w5 w5.heap.size RA C (fun j=>((W t j:Nat):Int)) from hrow.rd rfl).at (i:=c0) hcl
       subst hRA
       clear hrow
       obtain ⟨pt,hpt⟩:∃ x,x=p t:=⟨_,rfl⟩
       obtain ⟨y,hy⟩:∃ y,y=W t c0:=⟨_,rfl⟩
       rw [<-hpt] at x0;rw [<-hy] at y1
       have hptN:pt<C:=by rw [hpt]; exact HE.out.pvlt t htl
       have hptN':(pt:Int)<(C:Int):=by omega
       have hpt0:(0:Int)<=(pt:Int):=by omega
       have HIY:=hid (zak (q:=P ^ M) (x:=y) (by rw [hy]; exact HE.out.lt t (by have:=HE.out.le; omega) c0 hcl))
       have HPT:=hid hpt
       have HY:=hid hy
       clear hpt hy
       have HBX:=hid (onS HBC.out HKB.out)
       replace x0:=cellS HBX.out x0;replace y0:=cellS HBX.out y0;replace y1:=cellS HBX.out y1
       go_wp2_with fail
       refine (zdo (y:Int) (HG5.out.on HBX.out)).mono ?_
       rintro e w8 ⟨rfl,kb⟩
       rw [HIY.out]
       have HRX8:=hid (zab HRX.out kb)
       have HKB8:=hid (onS HKB.out kb)
       obtain ⟨r,hr⟩:∃ r,r=negF P M y:=⟨_,rfl⟩
       rw [<-hr]
       have HRR:=hid hr
       clear kb hr x0 y0 y1 HRX HKB HBX
       have y0:=HRX8.out.cell hptN
       have z0:=HRX8.out.frozen pt
       have HRX9:=hid ((HRX8.out.set pt (.int .i64 (r:Nat))).congr (g:=fun j=>.int .i64 ((nrow (negF P M) p W c0 (t+1) j:Nat):Int)) fun j _=>by
        show (if j=pt then Value.int .i64 (r:Nat) else .int .i64 (nrow (negF P M) p W c0 t j:Nat))=.int .i64 (((if j=p t then negF P M (W t c0) else nrow (negF P M) p W c0 t j:Nat)):Int)
        rw [HPT.out]
        split
        ·rw [HRR.out,HY.out]
        ·rfl)
       have HKB9:=hid (HKB8.out.setCell (p:=⟨xb,pt,none⟩) hxb1 (.int .i64 (r:Nat)))
       clear HRX8 HKB8
       go_wp2
       go_roundg (gk - 1)
       case measure=>omega
       case rel=>exact ⟨t+1,by go_num,by omega,by omega,HRX9,HKB9⟩
      ·have htl':¬ (t:Int)<(a:Int):=by omega
       have hta:t=a:=by omega
       have HX9:Hid (Own wr w5.heap.size 3 1 (.slice (some ⟨xb,0,none⟩) C C) C (fun j _=>.int .i64 ((nrow (negF P M) p W c0 a j:Nat):Int))):=by
        have h:=zbe HRX.out (Nat.le_trans HBC.out.size hxb1) (show C<=maxLen by unfold maxLen; have:=HC.out; omega)
        rw [hta] at h
        exact h
       clear hta
       have HO9:=hid (HOC.out.on HKB.out)
       have HB9:=hid (onS HBC.out HKB.out)
       have kb3:Below wr.heap.size wr (wr.alloc (Obj.cells #[.slice (some ⟨xb,0,none⟩) C C] 22)):=(Below.refl _ _).alloc (Nat.le_refl _) _
       have HXA:=hid (HX9.out.on kb3)
       have HOA:=hid (HO9.out.on kb3)
       have HBA:=hid (onS HB9.out kb3)
       have HZA:=hid HBA.out.size
       have HCA:Hid ((wr.alloc (Obj.cells #[.slice (some ⟨xb,0,none⟩) C C] 22)).cell? ((⟨wr.heap.size,0,none⟩:Addr).add 0)=some (.slice (some ⟨xb,0,none⟩) C C)):=tbox2
       have HL:Hid (f0<=1048576):=by show _<=_; have:=HC.out; omega
       clear kb3 HX9 HO9 HB9 HRX HKB
       go_wp2_with (first | (at_builtin; (refine zbY rfl (.tmp 69) (.tmp 71) rfl HOA.out rfl (ad:=⟨wr.heap.size,0,none⟩) (c:=1) rfl HCA.out rfl HXA.out HZA.out HL.out ?_); intro v9 w9 o1 o2 o3))
       have HN9:=hid (HN.out.next HFREE.out (x:=fun j=>nrow (negF P M) p W c0 a j) (fun j _=>rfl))
       have HO9:=hid o1
       have HB9:=hid (HBA.out.grown o2 HZA.out o3)
       clear o1 o2 o3
       go_wp2
       go_roundg (gO - 1)
       case measure=>omega
       case rel=>exact ⟨c0+1,f0+1,_,_,by go_num,by omega,by omega,by omega,HN9,HO9,HB9⟩
    ·have HIN:Hid (∃ s,s<a/\p s=c0):=by
      obtain ⟨s,hs,e⟩:=HBB.out.1 rfl
      exact ⟨s,hs,by omega⟩
     have HNN:=hid (HN.out.skip HIN.out)
     go_wp2
     go_roundg (gO - 1)
     case measure=>omega
     case rel=>exact ⟨c0+1,f0,fr,NW,by go_num,by omega,by omega,by omega,HNN,HOC,HBC⟩
   ·have hcl':¬ (c0:Int)<(C:Int):=by omega
    have hcC:c0=C:=by omega
    have HNN:Hid (NullN (negF P M) C a p W C f0 fr NW):=by have h:=HN.out; rw [hcC] at h; exact h
    clear hcC
    obtain ⟨OA,oc,hov⟩:=HO.out.shape
    subst hov
    have HNL:Hid (∀ i,i<f0->∀ j,j<C->NW i j<P ^ M):=fun i hi j hj=>by
     rw [HNN.out.row i hi j hj]
     exact ybC hL.out.two HQN.out _ _ _
    have HMR:=hid (HO.out.rd (q:=P ^ M) HOK.out.1.2.2.2 HNL.out)
    have hf2:f0<=1048576:=by have:=HC.out; omega
    go_wp2_with fail
    refine (zgk P M g _ OA f0 oc C C NW wr (HG5.out.on HB2.out) HMR.out HNL.out (Nat.le_refl _) hC1 hC2 hf2).mono ?_
    rintro e w6 ⟨lv2,pv2,a2,p2,W2,rfl,hMT2,hP2,kb,hE2,hR2⟩
    have HREL:Hid (NullRel (P ^ M) (addF P M) (mulF P M fun i=>(f i).toNat) (negF P M) n C (natT V) a2 W2):=⟨a,p,W,f0,fr,NW,p2,HE.out,HRO.out,HNN.out,hE2,hR2⟩
    obtain ⟨LA2,lc2,hlv2⟩:=hMT2.shape
    subst hlv2
    obtain ⟨PA2,pc2,hpv2⟩:=hP2.shape
    subst hpv2
    have hsz5:=HB5.out.size
    have hsz2:=HB2.out.size
    have HM6:=hid (hMT2.mono (Nat.le_trans hsz5 hsz2))
    have HB6:=hid (onS (onS HB5.out HB2.out) kb)
    have ro:=zab (zab HRO2.out HB2.out) kb
    have p0:w6.cell? ⟨b1,0,none⟩=some (.int .i64 (C:Nat)):=cellS kb (cellS HB2.out (HRM.out.cell (i:=0) (by omega)))
    clear kb hMT2 hP2 hE2 hR2
    have r0:=ro.frozen 0
    have s0:w6.cell? ⟨b2,0,none⟩=some _:=ro.cell (i:=0) (by omega)
    have r1:=ro.frozen 1
    have s1:w6.cell? ⟨b2,1,none⟩=some _:=ro.cell (i:=1) (by omega)
    go_wp2
    clear r0 s0 r1 s1 p0
    generalize hw9:World.setCell _ _ _=w7
    obtain ⟨row9,hg9⟩:=zcG ro hw9.symm
    clear hw9
    have hB9:=HB6.out.grown hg9 HB6.out.size (fun q e=>by injection e with e; omega)
    have hM9:=HM6.out.kept hg9 ro (by decide) (by decide)
    have e0:w7.cell? ⟨b2,0,none⟩=some (.int .i64 (C:Nat)):=row9.cell (i:=0) (by omega)
    have e1:w7.cell? ⟨b2,1,none⟩=some (.slice LA2 a2 lc2):=row9.cell (i:=1) (by omega)
    refine bodyPost_ret (v:=.tuple #[.agg #[.int .i64 (C:Nat),.slice LA2 a2 lc2],.int .i64 0]) (by simp [results,Tryz.results153, go_sem,e0,e1]) rfl ?_
    exact ⟨hB9,0,HV.out,.inr ⟨rfl,P,M,C,_,a2,W2,rfl,rfl,rfl,rfl,hM9,HREL.out⟩⟩
theorem ybg {w:World} {g:Nat} {T:TypeId} {a b c:Value} (v:Value) (h:w.rowIs g T 3 (fldCell a b c)):(w.setCell ⟨g,2,none⟩ v).rowIs g T 3 (fldCell a b v):=(h.set 2 v).congr fun j hj=>by
 match j,hj with
 | 0,_=>rfl
 | 1,_=>rfl
 | 2,_=>rfl
theorem ybL (P M:Int) (A:Option Addr) (k c:Nat) (f:Nat->Int) (w:World) (h:IntsR w w.heap.size A k f) (hkc:k<=c) (hk:k<=1048576) :
  Calls Tryz.prog 207 #[.agg #[.int .i64 P,.int .i64 M,.slice A k c]] w (FieldPost P M k f w):=by
 have HR:=hid h
 clear h
 have rf:=zaf (w:=w) (a:=.int .i64 P) (b:=.int .i64 M) (c:=.slice A k c) (T := 24)
 have hB:Below w.heap.size w (w.alloc (.cells #[.int .i64 P,.int .i64 M,.slice A k c] 24)):=(Below.refl _ _).alloc (Nat.le_refl _) _
 have hsz:(w.alloc (.cells #[.int .i64 P,.int .i64 M,.slice A k c] 24)).heap.size=w.heap.size+1:=by simp
 obtain ⟨w0,hw0⟩:∃ W,W=w.alloc (.cells #[.int .i64 P,.int .i64 M,.slice A k c] 24):=⟨_,rfl⟩
 have rm:=zaf (w:=w0) (a:=.int .i64 0) (b:=.int .i64 0) (c:=.slice none 0 0) (T := 24)
 have kb:Below w0.heap.size w0 (w0.alloc (.cells #[.int .i64 0,.int .i64 0,.slice none 0 0] 24)):=(Below.refl _ _).alloc (Nat.le_refl _) _
 obtain ⟨w1,hw1⟩:∃ W,W=w0.alloc (.cells #[.int .i64 0,.int .i64 0,.slice none 0 0] 24):=⟨_,rfl⟩
 rw [<-hw0] at hB rf hsz;rw [<-hw1] at rm kb;rw [hsz] at rm;replace rf:=zab rf kb;replace hB:=onS hB kb
 go_enter Tryz.func207, Tryz.ntmps207
 go_upto_region 1 with fail
 rw [<-hw0,<-hw1];clear hw0 hw1 kb hsz
 have q2:w1.cell? ⟨w.heap.size,2,none⟩=some (.slice A k c):=rf.cell (i:=2) (by omega)
 go_wp2_with fail
 refine (zaA A k c f w1 (HR.out.on hB) hkc hk).mono ?_
 rintro e w2 ⟨A2,c2,rfl,hO,kb⟩
 have hB1:=hB.size
 replace hB:=onS hB kb;replace rf:=zab rf kb;replace rm:=zab rm kb
 have HO:=hid (hO.mono hB1)
 clear kb q2 hO hB1
 have r2:=rf.frozen 2
 have s2:w2.cell? ⟨w.heap.size,2,none⟩=some _:=rf.cell (i:=2) (by omega)
 go_upto_region 2 with fail
 clear r2 s2
 have rf3:=ybg (.slice A2 k c2) rf
 have rm3:=rm.setOther (a:=⟨w.heap.size,2,none⟩) (by simp) (.slice A2 k c2)
 have hO3:=HO.out.setCell (a:=⟨w.heap.size,2,none⟩) (fun e=>(za5 rf HO.out (by decide)).elim (fun h=>by rw [h] at e; cases e) fun h=>h e) (.slice A2 k c2)
 have hB3:=hB.setCell (p:=⟨w.heap.size,2,none⟩) (Nat.le_refl _) (.slice A2 k c2)
 obtain ⟨w3,hw3⟩:∃ W,W=w2.setCell ⟨w.heap.size,2,none⟩ (.slice A2 k c2):=⟨_,rfl⟩
 rw [<-hw3] at rf3 rm3 hO3 hB3 ⊢;clear hw3 rf rm HO hB
 have HO3:=hid hO3
 clear hO3
 have q0:w3.cell? ⟨w.heap.size,0,none⟩=some (.int .i64 P):=rf3.cell (i:=0) (by omega)
 have q1:w3.cell? ⟨w.heap.size,1,none⟩=some (.int .i64 M):=rf3.cell (i:=1) (by omega)
 have q2:w3.cell? ⟨w.heap.size,2,none⟩=some (.slice A2 k c2):=rf3.cell (i:=2) (by omega)
 have r0:=rm3.frozen 0
 have s0:w3.cell? ⟨w.heap.size+1,0,none⟩=some _:=rm3.cell (i:=0) (by omega)
 have r1:=rm3.frozen 1
 have s1:w3.cell? ⟨w.heap.size+1,1,none⟩=some _:=rm3.cell (i:=1) (by omega)
 have r2:=rm3.frozen 2
 have s2:w3.cell? ⟨w.heap.size+1,2,none⟩=some _:=rm3.cell (i:=2) (by omega)
 go_wp2
 clear r0 s0 r1 s1 r2 s2 q0 q1 q2
 generalize hw9:World.setCell _ _ _=w4
 obtain ⟨row9,hg9⟩:=yba rm3 hw9.symm
 clear hw9
 have hB9:=hB3.grown hg9 hB3.size (fun q e=>by injection e with e; omega)
 have hO9:=HO3.out.kept hg9 (za5 rm3 HO3.out (by decide))
 have e0:w4.cell? ⟨w.heap.size+1,0,none⟩=some (.int .i64 P):=row9.cell (i:=0) (by omega)
 have e1:w4.cell? ⟨w.heap.size+1,1,none⟩=some (.int .i64 M):=row9.cell (i:=1) (by omega)
 have e2:w4.cell? ⟨w.heap.size+1,2,none⟩=some (.slice A2 k c2):=row9.cell (i:=2) (by omega)
 refine bodyPost_ret (v:=.agg #[.int .i64 P,.int .i64 M,.slice A2 k c2]) (by simp [results,Tryz.results207, go_sem,e0,e1,e2]) rfl ?_
 exact ⟨_,rfl,hO9,hB9⟩
def OfPost (P M N:Int) (k n:Nat) (f:Nat->Int) (T:Option Addr) (d:Nat) (w:World) (e:Ending) (w':World):Prop :=
 ∃ v,e=.returned (.tuple #[.agg #[.int .i64 P,.int .i64 M,v,.int .i64 N,.slice T n d],.int .i64 0])/\Own w' w.heap.size 3 1 v k (fun j _=>.int .i64 (f j))/\Below w.heap.size w w'
theorem ybT (P M N:Int) (A:Option Addr) (k c:Nat) (f:Nat->Int) (T:Option Addr) (n d:Nat) (w:World) (h:IntsR w w.heap.size A k f) (hkc:k<=c) (hk:k<=1048576) :
  Calls Tryz.prog 154 #[.agg #[.int .i64 P,.int .i64 M,.slice A k c],.agg #[.int .i64 N,.slice T n d],.int .i64 0] w (OfPost P M N k n f T d w):=by
 have HR:=hid h
 clear h
 have rf:=zaf (w:=w) (a:=.int .i64 P) (b:=.int .i64 M) (c:=.slice A k c) (T := 24)
 have hB:Below w.heap.size w (w.alloc (.cells #[.int .i64 P,.int .i64 M,.slice A k c] 24)):=(Below.refl _ _).alloc (Nat.le_refl _) _
 have hsz:(w.alloc (.cells #[.int .i64 P,.int .i64 M,.slice A k c] 24)).heap.size=w.heap.size+1:=by simp
 obtain ⟨w0,hw0⟩:∃ W,W=w.alloc (.cells #[.int .i64 P,.int .i64 M,.slice A k c] 24):=⟨_,rfl⟩
 have rm:=zaB (w:=w0) (a:=.int .i64 N) (b:=.slice T n d) (T := 106)
 have kb:Below w0.heap.size w0 (w0.alloc (.cells #[.int .i64 N,.slice T n d] 106)):=(Below.refl _ _).alloc (Nat.le_refl _) _
 have hsz1:(w0.alloc (.cells #[.int .i64 N,.slice T n d] 106)).heap.size=w0.heap.size+1:=by simp
 obtain ⟨w1,hw1⟩:∃ W,W=w0.alloc (.cells #[.int .i64 N,.slice T n d] 106):=⟨_,rfl⟩
 have ro:=zai (w:=w1) (a:=.int .i64 0) (b:=.int .i64 0) (c:=.slice none 0 0) (d:=.int .i64 0) (e:=.slice none 0 0) (T := 27)
 have kb2:Below w1.heap.size w1 (w1.alloc (.cells #[.int .i64 0,.int .i64 0,.slice none 0 0,.int .i64 0,.slice none 0 0] 27)):=(Below.refl _ _).alloc (Nat.le_refl _) _
 obtain ⟨w2,hw2⟩:∃ W,W=w1.alloc (.cells #[.int .i64 0,.int .i64 0,.slice none 0 0,.int .i64 0,.slice none 0 0] 27):=⟨_,rfl⟩
 rw [<-hw0] at hB rf hsz;rw [<-hw1] at rm kb hsz1;rw [<-hw2] at ro kb2;rw [hsz1,hsz] at ro;rw [hsz] at rm;replace rf:=zab (zab rf kb) kb2;replace rm:=zab rm kb2;replace hB:=onS (onS hB kb) kb2
 go_enter Tryz.func154, Tryz.ntmps154
 go_upto_region 1 with fail
 rw [<-hw0,<-hw1,<-hw2];clear hw0 hw1 hw2 kb kb2 hsz hsz1
 obtain ⟨b0,hb0⟩:∃ b,b=w.heap.size:=⟨_,rfl⟩
 obtain ⟨b1,hb1⟩:∃ b,b=w.heap.size+1:=⟨_,rfl⟩
 obtain ⟨b2,hb2⟩:∃ b,b=w.heap.size+1+1:=⟨_,rfl⟩
 have hb2w:w.heap.size<=b2:=by omega
 rw [<-hb0] at rf;rw [<-hb1] at rm;rw [<-hb2] at ro;rw [<-hb2,<-hb1,<-hb0];clear hb0 hb1 hb2
 go_wp2
 refine wp_region_held_drew (S:=fun w'=>w'.cell? ⟨b0,0,none⟩=some (.int .i64 P)/\w'.cell? ⟨b0,1,none⟩=some (.int .i64 M)/\w'.cell? ⟨b0,2,none⟩=some (.slice A k c)/\w'.cell? ⟨b1,0,none⟩=some (.int .i64 N)/\w'.cell? ⟨b1,1,none⟩=some (.slice T n d)) (by kernel_rfl) ⟨cellS (Below.refl _ _).drew (rf.cell (i:=0) (by omega)),cellS (Below.refl _ _).drew (rf.cell (i:=1) (by omega)),cellS (Below.refl _ _).drew (rf.cell (i:=2) (by omega)),cellS (Below.refl _ _).drew (rm.cell (i:=0) (by omega)),cellS (Below.refl _ _).drew (rm.cell (i:=1) (by omega))⟩ (fun hHeld=>?_)
 obtain ⟨w3,hw⟩:∃ W,W=World.drew w2:=⟨_,rfl⟩
 have kb:Below w2.heap.size w2 w3:=by rw [hw]; exact (Below.refl _ _).drew
 rw [<-hw] at hHeld ⊢;clear hw;replace hB:=onS hB kb;replace rf:=zab rf kb;replace rm:=zab rm kb;replace ro:=zab ro kb;clear kb
 refine tkq 0 (h:=tkq 2 (h:=tkq 3 (h:=tkq 4 (h:=tkq 5 (h:=rdq 1 (h:=fun K hK=>?_))))))
 go_simp
 go_wp2_with fail
 refine (ybL P M A k c f w3 (HR.out.on hB) hkc hk).mono ?_
 rintro e w4 ⟨v,rfl,hO,kb⟩
 have hB3:=hB.size
 replace hB:=onS hB kb;replace rf:=zab rf kb;replace rm:=zab rm kb;replace ro:=zab ro kb
 obtain ⟨A2,c2,hv⟩:=hO.shape
 subst hv
 have HO:=hid (hO.mono hB3)
 clear kb hO hB3
 refine bkq hK ⟨rf.cell (i:=0) (by omega),rf.cell (i:=1) (by omega),rf.cell (i:=2) (by omega),rm.cell (i:=0) (by omega),rm.cell (i:=1) (by omega)⟩ (h:=fun hHeld=>?_)
 clear hK K
 refine tkq 6 (h:=rdq 7 (h:=fun K hK=>?_))
 have r0:=ro.frozen 0
 have s0:w4.cell? ⟨b2,0,none⟩=some _:=ro.cell (i:=0) (by omega)
 have r1:=ro.frozen 1
 have s1:w4.cell? ⟨b2,1,none⟩=some _:=ro.cell (i:=1) (by omega)
 have r2:=ro.frozen 2
 have s2:w4.cell? ⟨b2,2,none⟩=some _:=ro.cell (i:=2) (by omega)
 have r3:=ro.frozen 3
 have s3:w4.cell? ⟨b2,3,none⟩=some _:=ro.cell (i:=3) (by omega)
 have r4:=ro.frozen 4
 have s4:w4.cell? ⟨b2,4,none⟩=some _:=ro.cell (i:=4) (by omega)
 go_simp
 clear r0 s0 r1 s1 r2 s2 r3 s3 r4 s4
 generalize hw9:World.setCell _ _ _=w5
 obtain ⟨row9,hg9⟩:=yaq ro hw9.symm
 clear hw9
 have hB9:=hB.grown hg9 hB.size (fun q e=>by injection e with e; omega)
 have hO9:=HO.out.kept hg9 (za5 ro HO.out (by decide))
 have hf0:=rf.lt
 have hm0:=rm.lt
 have hnf:b0≠b2:=fun e=>by
  obtain ⟨cs,h1,_⟩:=rf
  obtain ⟨cs',h2,_⟩:=ro
  rw [e,h2] at h1
  injection h1 with h1
  injection h1 with _ h1
  exact absurd h1 (by decide)
 have hnm:b1≠b2:=fun e=>by
  obtain ⟨cs,h1,_⟩:=rm
  obtain ⟨cs',h2,_⟩:=ro
  rw [e,h2] at h1
  injection h1 with h1
  injection h1 with _ h1
  exact absurd h1 (by decide)
 have rf9:=zaw rf hg9 hnf
 have rm9:=zaw rm hg9 hnm
 clear ro rf rm hg9 hf0 hm0 hnf hnm HO hB
 have e0:w5.cell? ⟨b2,0,none⟩=some (.int .i64 P):=row9.cell (i:=0) (by omega)
 have e1:w5.cell? ⟨b2,1,none⟩=some (.int .i64 M):=row9.cell (i:=1) (by omega)
 have e2:w5.cell? ⟨b2,2,none⟩=some (.slice A2 k c2):=row9.cell (i:=2) (by omega)
 have e3:w5.cell? ⟨b2,3,none⟩=some (.int .i64 N):=row9.cell (i:=3) (by omega)
 have e4:w5.cell? ⟨b2,4,none⟩=some (.slice T n d):=row9.cell (i:=4) (by omega)
 refine bkq hK ⟨rf9.cell (i:=0) (by omega),rf9.cell (i:=1) (by omega),rf9.cell (i:=2) (by omega),rm9.cell (i:=0) (by omega),rm9.cell (i:=1) (by omega)⟩ (h:=fun hHeld=>?_)
 clear hK K
 refine tkq 8 (h:=?_)
 refine wpAnyH_done (by kernel_rfl) ?_ _
 clear hHeld
 go_wp2
 refine bodyPost_ret (v:=.tuple #[.agg #[.int .i64 P,.int .i64 M,.slice A2 k c2,.int .i64 N,.slice T n d],.int .i64 0]) (by simp [results,Tryz.results154, go_sem,e0,e1,e2,e3,e4]) rfl ?_
 exact ⟨_,rfl,hO9,hB9⟩
def CDualPost (P M:Int) (k:Nat) (f:Nat->Int) (N:Int) (n:Nat) (ln:Nat->Nat) (V:Nat->Nat->Int) (w:World) (e:Ending) (w':World):Prop :=
 Below w.heap.size w w'/\∃ v:Int,FirstErr (CodeErrs P M k f N n ln V) v /\
  ((v≠0/\e=.returned (.tuple #[.agg #[.int .i64 0,.int .i64 0,.slice none 0 0,.int .i64 0,.slice none 0 0],.int .i64 v])) ∨
   (v=0/\∃ P' M' N':Nat,P=P'/\M=M'/\N=N'/\DualPost P' M' (fun i=>(f i).toNat) k n N' (natT V) w e w'))
theorem ybs (P M:Int) (A:Option Addr) (k c:Nat) (f:Nat->Int) (N:Int) (T:Option Addr) (n d:Nat) (ln:Nat->Nat) (V:Nat->Nat->Int) (w:World) (hr:IntsR w w.heap.size A k f) (h:IntRows w T n ln V) (hkc:k<=c) :
  Calls Tryz.prog 79 #[.agg #[.int .i64 P,.int .i64 M,.slice A k c,.int .i64 N,.slice T n d]] w (CDualPost P M k f N n ln V w):=by
 have HR:=hid hr
 have HT:=hid h
 clear hr h
 have rf:=zai (w:=w) (a:=.int .i64 P) (b:=.int .i64 M) (c:=.slice A k c) (d:=.int .i64 N) (e:=.slice T n d) (T := 27)
 have hB:Below w.heap.size w (w.alloc (.cells #[.int .i64 P,.int .i64 M,.slice A k c,.int .i64 N,.slice T n d] 27)):=(Below.refl _ _).alloc (Nat.le_refl _) _
 have hsz:(w.alloc (.cells #[.int .i64 P,.int .i64 M,.slice A k c,.int .i64 N,.slice T n d] 27)).heap.size=w.heap.size+1:=by simp
 obtain ⟨w0,hw0⟩:∃ W,W=w.alloc (.cells #[.int .i64 P,.int .i64 M,.slice A k c,.int .i64 N,.slice T n d] 27):=⟨_,rfl⟩
 have ro:=zai (w:=w0) (a:=.int .i64 0) (b:=.int .i64 0) (c:=.slice none 0 0) (d:=.int .i64 0) (e:=.slice none 0 0) (T := 27)
 have kb:Below w0.heap.size w0 (w0.alloc (.cells #[.int .i64 0,.int .i64 0,.slice none 0 0,.int .i64 0,.slice none 0 0] 27)):=(Below.refl _ _).alloc (Nat.le_refl _) _
 obtain ⟨w1,hw1⟩:∃ W,W=w0.alloc (.cells #[.int .i64 0,.int .i64 0,.slice none 0 0,.int .i64 0,.slice none 0 0] 27):=⟨_,rfl⟩
 rw [<-hw0] at hB rf hsz;rw [<-hw1] at ro kb;rw [hsz] at ro;replace rf:=zab rf kb;replace hB:=onS hB kb
 go_enter Tryz.func79, Tryz.ntmps79
 go_upto_region 1 with fail
 rw [<-hw0,<-hw1];clear hw0 hw1 kb hsz
 obtain ⟨b0,hb0⟩:∃ b,b=w.heap.size:=⟨_,rfl⟩
 obtain ⟨b2,hb2⟩:∃ b,b=w.heap.size+1:=⟨_,rfl⟩
 have hb2w:w.heap.size<=b2:=by omega
 have hb02:b0≠b2:=by omega
 rw [<-hb0] at rf;rw [<-hb2] at ro;rw [<-hb2,<-hb0];clear hb0 hb2
 have q0:w1.cell? ⟨b0,0,none⟩=some (.int .i64 P):=rf.cell (i:=0) (by omega)
 have q1:w1.cell? ⟨b0,1,none⟩=some (.int .i64 M):=rf.cell (i:=1) (by omega)
 have q2:w1.cell? ⟨b0,2,none⟩=some (.slice A k c):=rf.cell (i:=2) (by omega)
 have q3:w1.cell? ⟨b0,3,none⟩=some (.int .i64 N):=rf.cell (i:=3) (by omega)
 have q4:w1.cell? ⟨b0,4,none⟩=some (.slice T n d):=rf.cell (i:=4) (by omega)
 go_wp2_with fail
 refine (zcI P M A k c f N T n d ln V w1 (HR.out.on hB) (HT.out.on hB)).mono ?_
 rintro e w2 ⟨v,rfl,hv,kb⟩
 replace hB:=onS hB kb;replace rf:=zab rf kb;replace ro:=zab ro kb
 have HV:=hid hv
 clear kb hv q0 q1 q2 q3 q4
 by_cases hv0:v=0
 ·subst hv0
  obtain ⟨P,M,N,rfl,rfl,rfl,hC⟩:=zb5 (HR.out.on hB) (HT.out.on hB) HV.out
  have HC:=hid hC
  have hN1:=hC.ln1
  have hk8:=hC.k_le
  clear hC
  have HKE:Hid (∀ {v:Int},FirstErr (MatErrs (P:Int) (M:Int) k f (N:Int) n ln V) v->v=0):=by
   have hh:=HV.out
   rcases hh with ⟨_,h9⟩ | ⟨h1,⟨_,h9⟩ | ⟨_,⟨_,h9⟩ | ⟨h3,⟨_,h9⟩ | ⟨h4,_⟩⟩⟩⟩
   ·cases h9
   ·cases h9
   ·cases h9
   ·cases h9
   intro v hf
   rcases hf with ⟨h,_⟩ | ⟨_,⟨h,_⟩ | ⟨_,⟨h,_⟩ | ⟨_,hf⟩⟩⟩
   ·exact absurd h1 h
   ·exact absurd h3 h
   ·exact absurd h4 h
   ·exact hf
  obtain ⟨w9,hw9⟩:∃ W,W=w2:=⟨_,rfl⟩
  go_wp2
  clear hw9 w9
  go_cut [5,6] (fun v5 v6 wx=>∃ (mb:Nat) (lv:Value) (a:Nat) (W:Nat->Nat->Nat),v5=.pointer (some ⟨mb,0,none⟩)/\v6=.int .i64 0/\wx.rowIs mb 106 2 (matCell (.int .i64 (N:Nat)) lv)/\MTab wx w.heap.size lv a N W/\NullRel (P ^ M) (addF P M) (mulF P M fun i=>(f i).toNat) (negF P M) n N (natT V) a W/\wx.rowIs b0 27 5 (codCell (.int .i64 (P:Nat)) (.int .i64 (M:Nat)) (.slice A k c) (.int .i64 (N:Nat)) (.slice T n d))/\wx.rowIs b2 27 5 (codCell (.int .i64 0) (.int .i64 0) (.slice none 0 0) (.int .i64 0) (.slice none 0 0))/\Below w.heap.size w wx)
  case first =>
   refine wp_region_held_drew (S:=fun w'=>w'.cell? ⟨b0,0,none⟩=some (.int .i64 (P:Nat))/\w'.cell? ⟨b0,1,none⟩=some (.int .i64 (M:Nat))/\w'.cell? ⟨b0,2,none⟩=some (.slice A k c)/\w'.cell? ⟨b0,3,none⟩=some (.int .i64 (N:Nat))/\w'.cell? ⟨b0,4,none⟩=some (.slice T n d)) (by kernel_rfl) ⟨cellS (Below.refl _ _).drew (rf.cell (i:=0) (by omega)),cellS (Below.refl _ _).drew (rf.cell (i:=1) (by omega)),cellS (Below.refl _ _).drew (rf.cell (i:=2) (by omega)),cellS (Below.refl _ _).drew (rf.cell (i:=3) (by omega)),cellS (Below.refl _ _).drew (rf.cell (i:=4) (by omega))⟩ (fun hHeld=>?_)
   obtain ⟨w3,hw⟩:∃ W,W=World.drew w2:=⟨_,rfl⟩
   have kb:Below w2.heap.size w2 w3:=by rw [hw]; exact (Below.refl _ _).drew
   rw [<-hw] at hHeld ⊢;clear hw;replace rf:=zab rf kb;replace ro:=zab ro kb;replace hB:=onS hB kb;clear kb
   refine tkq 0 (h:=tkq 1 (h:=tkq 2 (h:=?_)))
   refine rdq2 3 8 (h:=fun K hK=>?_) (h2:=fun K hK=>?_)
   ·go_simp
    go_wp2_with fail
    refine (zis (P:Int) (M:Int) (N:Int) A T k c n d w3).mono ?_
    rintro e w4 ⟨rfl,kb⟩
    replace rf:=zab rf kb;replace ro:=zab ro kb;replace hB:=onS hB kb;clear kb
    refine bkq hK ⟨rf.cell (i:=0) (by omega),rf.cell (i:=1) (by omega),rf.cell (i:=2) (by omega),rf.cell (i:=3) (by omega),rf.cell (i:=4) (by omega)⟩ (h:=fun hHeld=>?_)
    clear hK K
    refine rdq2 4 8 (h:=fun K hK=>?_) (h2:=fun K hK=>?_)
    ·go_simp
     go_wp2_with fail
     have hBs:=hB.size
     refine (yai (P:Int) (M:Int) A k c f (N:Int) T n d ln V w4 (HR.out.on hB) (HT.out.on hB) (by omega)).mono ?_
     rintro e w5 ⟨kb,v,hv,hcase⟩
     obtain rfl:=HKE.out hv
     rcases hcase with ⟨h0,_⟩ | ⟨_,P',M',C',lv,a,W,hPe,hMe,hCe,rfl,hM,hrel⟩
     ·exact absurd rfl h0
     obtain rfl:P=P':=by omega
     obtain rfl:M=M':=by omega
     obtain rfl:N=C':=by omega
     replace hM:=hM.mono hBs
     obtain ⟨LA,lc,hlv⟩:=hM.shape
     subst hlv
     clear hPe hMe hCe hv;replace rf:=zab rf kb;replace ro:=zab ro kb;replace hB:=onS hB kb;clear kb
     refine bkq hK ⟨rf.cell (i:=0) (by omega),rf.cell (i:=1) (by omega),rf.cell (i:=2) (by omega),rf.cell (i:=3) (by omega),rf.cell (i:=4) (by omega)⟩ (h:=fun hHeld=>?_)
     clear hK K
     refine tkq 5 (h:=tkq 6 (h:=tkq 7 (h:=?_)))
     refine rdq 8 (h:=fun K hK=>?_)
     go_simp
     obtain ⟨w6,hw⟩:∃ W,W=World.alloc w5 (Obj.cells #[.int .i64 0,.slice none 0 0] 106):=⟨_,rfl⟩
     have kb:Below w5.heap.size w5 w6:=by rw [hw]; exact (Below.refl _ _).alloc (Nat.le_refl _) _
     have rb:w6.rowIs w5.heap.size 106 2 (matCell (.int .i64 0) (.slice none 0 0)):=by rw [hw]; exact zaB
     have hmw:w.heap.size<=w5.heap.size:=hB.size
     have hm0:b0≠w5.heap.size:=by have:=rf.lt; omega
     have hm2:b2≠w5.heap.size:=by have:=ro.lt; omega
     rw [<-hw];clear hw
     obtain ⟨mb,hb⟩:∃ b,b=w5.heap.size:=⟨_,rfl⟩
     rw [<-hb] at rb hmw hm0 hm2 ⊢;clear hb;replace rf:=zab rf kb;replace ro:=zab ro kb;replace hB:=onS hB kb;replace hM:=hM.on kb;clear kb
     refine bkq hK ⟨rf.cell (i:=0) (by omega),rf.cell (i:=1) (by omega),rf.cell (i:=2) (by omega),rf.cell (i:=3) (by omega),rf.cell (i:=4) (by omega)⟩ (h:=fun hHeld=>?_)
     clear hK K
     refine rdq 9 (h:=fun K hK=>?_)
     have r0:=rb.frozen 0
     have s0:w6.cell? ⟨mb,0,none⟩=some _:=rb.cell (i:=0) (by omega)
     have r1:=rb.frozen 1
     have s1:w6.cell? ⟨mb,1,none⟩=some _:=rb.cell (i:=1) (by omega)
     go_simp
     clear r0 s0 r1 s1
     generalize hw9:World.setCell _ _ _=w7
     obtain ⟨row9,hg9⟩:=zcG rb hw9.symm
     clear hw9
     replace hM:=hM.kept hg9 rb (by decide) (by decide)
     replace hB:=hB.grown hg9 hB.size (fun q e=>by injection e with e; omega)
     replace rf:=zaw rf hg9 hm0;replace ro:=zaw ro hg9 hm2;clear hg9 rb
     refine bkq hK ⟨rf.cell (i:=0) (by omega),rf.cell (i:=1) (by omega),rf.cell (i:=2) (by omega),rf.cell (i:=3) (by omega),rf.cell (i:=4) (by omega)⟩ (h:=fun hHeld=>?_)
     clear hK K
     refine tkq 10 (h:=?_)
     refine wpAnyH_done (by kernel_rfl) ?_ _
     clear hHeld
     go_wp2
     go_meet
     exact ⟨mb,_,a,W,rfl,rfl,row9,hM,hrel,rf,ro,hB⟩
    ·go_simp
     obtain ⟨w5,hw⟩:∃ W,W=World.alloc w4 (Obj.cells #[.int .i64 0,.slice none 0 0] 106):=⟨_,rfl⟩
     have kb:Below w4.heap.size w4 w5:=by rw [hw]; exact (Below.refl _ _).alloc (Nat.le_refl _) _
     have rb:w5.rowIs w4.heap.size 106 2 (matCell (.int .i64 0) (.slice none 0 0)):=by rw [hw]; exact zaB
     have hmw:w.heap.size<=w4.heap.size:=hB.size
     have hm0:b0≠w4.heap.size:=by have:=rf.lt; omega
     have hm2:b2≠w4.heap.size:=by have:=ro.lt; omega
     rw [<-hw];clear hw
     obtain ⟨mb,hb⟩:∃ b,b=w4.heap.size:=⟨_,rfl⟩
     rw [<-hb] at rb hmw hm0 hm2 ⊢;clear hb;replace rf:=zab rf kb;replace ro:=zab ro kb;replace hB:=onS hB kb;clear kb
     refine bkq hK ⟨rf.cell (i:=0) (by omega),rf.cell (i:=1) (by omega),rf.cell (i:=2) (by omega),rf.cell (i:=3) (by omega),rf.cell (i:=4) (by omega)⟩ (h:=fun hHeld=>?_)
     clear hK K
     refine rdq 4 (h:=fun K hK=>?_)
     go_simp
     go_wp2_with fail
     have hBs:=hB.size
     refine (yai (P:Int) (M:Int) A k c f (N:Int) T n d ln V w5 (HR.out.on hB) (HT.out.on hB) (by omega)).mono ?_
     rintro e w6 ⟨kb,v,hv,hcase⟩
     obtain rfl:=HKE.out hv
     rcases hcase with ⟨h0,_⟩ | ⟨_,P',M',C',lv,a,W,hPe,hMe,hCe,rfl,hM,hrel⟩
     ·exact absurd rfl h0
     obtain rfl:P=P':=by omega
     obtain rfl:M=M':=by omega
     obtain rfl:N=C':=by omega
     replace hM:=hM.mono hBs
     obtain ⟨LA,lc,hlv⟩:=hM.shape
     subst hlv
     clear hPe hMe hCe hv;replace rf:=zab rf kb;replace ro:=zab ro kb;replace rb:=zab rb kb;replace hB:=onS hB kb;clear kb
     refine bkq hK ⟨rf.cell (i:=0) (by omega),rf.cell (i:=1) (by omega),rf.cell (i:=2) (by omega),rf.cell (i:=3) (by omega),rf.cell (i:=4) (by omega)⟩ (h:=fun hHeld=>?_)
     clear hK K
     refine tkq 5 (h:=tkq 6 (h:=tkq 7 (h:=?_)))
     refine rdq 9 (h:=fun K hK=>?_)
     have r0:=rb.frozen 0
     have s0:w6.cell? ⟨mb,0,none⟩=some _:=rb.cell (i:=0) (by omega)
     have r1:=rb.frozen 1
     have s1:w6.cell? ⟨mb,1,none⟩=some _:=rb.cell (i:=1) (by omega)
     go_simp
     clear r0 s0 r1 s1
     generalize hw9:World.setCell _ _ _=w7
     obtain ⟨row9,hg9⟩:=zcG rb hw9.symm
     clear hw9
     replace hM:=hM.kept hg9 rb (by decide) (by decide)
     replace hB:=hB.grown hg9 hB.size (fun q e=>by injection e with e; omega)
     replace rf:=zaw rf hg9 hm0;replace ro:=zaw ro hg9 hm2;clear hg9 rb
     refine bkq hK ⟨rf.cell (i:=0) (by omega),rf.cell (i:=1) (by omega),rf.cell (i:=2) (by omega),rf.cell (i:=3) (by omega),rf.cell (i:=4) (by omega)⟩ (h:=fun hHeld=>?_)
     clear hK K
     refine tkq 10 (h:=?_)
     refine wpAnyH_done (by kernel_rfl) ?_ _
     clear hHeld
     go_wp2
     go_meet
     exact ⟨mb,_,a,W,rfl,rfl,row9,hM,hrel,rf,ro,hB⟩
   ·go_simp
    obtain ⟨w4,hw⟩:∃ W,W=World.alloc w3 (Obj.cells #[.int .i64 0,.slice none 0 0] 106):=⟨_,rfl⟩
    have kb:Below w3.heap.size w3 w4:=by rw [hw]; exact (Below.refl _ _).alloc (Nat.le_refl _) _
    have rb:w4.rowIs w3.heap.size 106 2 (matCell (.int .i64 0) (.slice none 0 0)):=by rw [hw]; exact zaB
    have hmw:w.heap.size<=w3.heap.size:=hB.size
    have hm0:b0≠w3.heap.size:=by have:=rf.lt; omega
    have hm2:b2≠w3.heap.size:=by have:=ro.lt; omega
    rw [<-hw];clear hw
    obtain ⟨mb,hb⟩:∃ b,b=w3.heap.size:=⟨_,rfl⟩
    rw [<-hb] at rb hmw hm0 hm2 ⊢;clear hb;replace rf:=zab rf kb;replace ro:=zab ro kb;replace hB:=onS hB kb;clear kb
    refine bkq hK ⟨rf.cell (i:=0) (by omega),rf.cell (i:=1) (by omega),rf.cell (i:=2) (by omega),rf.cell (i:=3) (by omega),rf.cell (i:=4) (by omega)⟩ (h:=fun hHeld=>?_)
    clear hK K
    refine rdq 3 (h:=fun K hK=>?_)
    go_simp
    go_wp2_with fail
    refine (zis (P:Int) (M:Int) (N:Int) A T k c n d w4).mono ?_
    rintro e w5 ⟨rfl,kb⟩
    replace rf:=zab rf kb;replace ro:=zab ro kb;replace rb:=zab rb kb;replace hB:=onS hB kb;clear kb
    refine bkq hK ⟨rf.cell (i:=0) (by omega),rf.cell (i:=1) (by omega),rf.cell (i:=2) (by omega),rf.cell (i:=3) (by omega),rf.cell (i:=4) (by omega)⟩ (h:=fun hHeld=>?_)
    clear hK K
    refine rdq 4 (h:=fun K hK=>?_)
    go_simp
    go_wp2_with fail
    have hBs:=hB.size
    refine (yai (P:Int) (M:Int) A k c f (N:Int) T n d ln V w5 (HR.out.on hB) (HT.out.on hB) (by omega)).mono ?_
    rintro e w6 ⟨kb,v,hv,hcase⟩
    obtain rfl:=HKE.out hv
    rcases hcase with ⟨h0,_⟩ | ⟨_,P',M',C',lv,a,W,hPe,hMe,hCe,rfl,hM,hrel⟩
    ·exact absurd rfl h0
    obtain rfl:P=P':=by omega
    obtain rfl:M=M':=by omega
    obtain rfl:N=C':=by omega
    replace hM:=hM.mono hBs
    obtain ⟨LA,lc,hlv⟩:=hM.shape
    subst hlv
    clear hPe hMe hCe hv;replace rf:=zab rf kb;replace ro:=zab ro kb;replace rb:=zab rb kb;replace hB:=onS hB kb;clear kb
    refine bkq hK ⟨rf.cell (i:=0) (by omega),rf.cell (i:=1) (by omega),rf.cell (i:=2) (by omega),rf.cell (i:=3) (by omega),rf.cell (i:=4) (by omega)⟩ (h:=fun hHeld=>?_)
    clear hK K
    refine tkq 5 (h:=tkq 6 (h:=tkq 7 (h:=?_)))
    refine rdq 9 (h:=fun K hK=>?_)
    have r0:=rb.frozen 0
    have s0:w6.cell? ⟨mb,0,none⟩=some _:=rb.cell (i:=0) (by omega)
    have r1:=rb.frozen 1
    have s1:w6.cell? ⟨mb,1,none⟩=some _:=rb.cell (i:=1) (by omega)
    go_simp
    clear r0 s0 r1 s1
    generalize hw9:World.setCell _ _ _=w7
    obtain ⟨row9,hg9⟩:=zcG rb hw9.symm
    clear hw9
    replace hM:=hM.kept hg9 rb (by decide) (by decide)
    replace hB:=hB.grown hg9 hB.size (fun q e=>by injection e with e; omega)
    replace rf:=zaw rf hg9 hm0;replace ro:=zaw ro hg9 hm2;clear hg9 rb
    refine bkq hK ⟨rf.cell (i:=0) (by omega),rf.cell (i:=1) (by omega),rf.cell (i:=2) (by omega),rf.cell (i:=3) (by omega),rf.cell (i:=4) (by omega)⟩ (h:=fun hHeld=>?_)
    clear hK K
    refine tkq 10 (h:=?_)
    refine wpAnyH_done (by kernel_rfl) ?_ _
    clear hHeld
    go_wp2
    go_meet
    exact ⟨mb,_,a,W,rfl,rfl,row9,hM,hrel,rf,ro,hB⟩
  case rest =>
   clear hB rf ro
   obtain ⟨mb,lv,a,W,rfl,rfl,rm,hM,hrel,rf,ro,hB⟩:=hcut
   have HM:=hid hM
   have HREL:=hid hrel
   obtain ⟨LA,lc,hlv⟩:=hM.shape
   subst hlv
   clear hM hrel
   have q0:wc.cell? ⟨b0,0,none⟩=some (.int .i64 (P:Nat)):=rf.cell (i:=0) (by omega)
   have q1:wc.cell? ⟨b0,1,none⟩=some (.int .i64 (M:Nat)):=rf.cell (i:=1) (by omega)
   have q2:wc.cell? ⟨b0,2,none⟩=some (.slice A k c):=rf.cell (i:=2) (by omega)
   have m0:wc.cell? ⟨mb,0,none⟩=some (.int .i64 (N:Nat)):=rm.cell (i:=0) (by omega)
   have m1:wc.cell? ⟨mb,1,none⟩=some (.slice LA a lc):=rm.cell (i:=1) (by omega)
   go_wp2_with fail
   refine (ybT (P:Int) (M:Int) (N:Int) A k c f LA a lc wc (HR.out.on hB) hkc (by omega)).mono ?_
   rintro e w5 ⟨v,rfl,hO,kb⟩
   have hBs:=hB.size
   replace hB:=onS hB kb;replace ro:=zab ro kb
   have HM5:=hid (HM.out.on kb)
   obtain ⟨A2,c2,hv⟩:=hO.shape
   subst hv
   have HO:=hid (hO.mono hBs)
   clear kb hO hBs q0 q1 q2 m0 m1 rf rm HM
   have r0:=ro.frozen 0
   have s0:w5.cell? ⟨b2,0,none⟩=some _:=ro.cell (i:=0) (by omega)
   have r1:=ro.frozen 1
   have s1:w5.cell? ⟨b2,1,none⟩=some _:=ro.cell (i:=1) (by omega)
   have r2:=ro.frozen 2
   have s2:w5.cell? ⟨b2,2,none⟩=some _:=ro.cell (i:=2) (by omega)
   have r3:=ro.frozen 3
   have s3:w5.cell? ⟨b2,3,none⟩=some _:=ro.cell (i:=3) (by omega)
   have r4:=ro.frozen 4
   have s4:w5.cell? ⟨b2,4,none⟩=some _:=ro.cell (i:=4) (by omega)
   go_wp2
   clear r0 s0 r1 s1 r2 s2 r3 s3 r4 s4
   generalize hw9:World.setCell _ _ _=w6
   obtain ⟨row9,hg9⟩:=yaq ro hw9.symm
   clear hw9
   have hB9:=hB.grown hg9 hB.size (fun q e=>by injection e with e; omega)
   have hO9:=HO.out.kept hg9 (za5 ro HO.out (by decide))
   have hM9:=HM5.out.kept hg9 ro (by decide) (by decide)
   have e0:w6.cell? ⟨b2,0,none⟩=some (.int .i64 (P:Nat)):=row9.cell (i:=0) (by omega)
   have e1:w6.cell? ⟨b2,1,none⟩=some (.int .i64 (M:Nat)):=row9.cell (i:=1) (by omega)
   have e2:w6.cell? ⟨b2,2,none⟩=some (.slice A2 k c2):=row9.cell (i:=2) (by omega)
   have e3:w6.cell? ⟨b2,3,none⟩=some (.int .i64 (N:Nat)):=row9.cell (i:=3) (by omega)
   have e4:w6.cell? ⟨b2,4,none⟩=some (.slice LA a lc):=row9.cell (i:=4) (by omega)
   refine bodyPost_ret (v:=.tuple #[.agg #[.int .i64 (P:Nat),.int .i64 (M:Nat),.slice A2 k c2,.int .i64 (N:Nat),.slice LA a lc],.int .i64 0]) (by simp [results,Tryz.results79, go_sem,e0,e1,e2,e3,e4]) rfl ?_
   refine ⟨hB9,0,HV.out,.inr ⟨rfl,P,M,N,rfl,rfl,rfl,_,_,a,W,rfl,hO9.congr fun j hj q _=>?_,hM9,hB9,HREL.out⟩⟩
   have hg:=HV.out
   rcases hg with ⟨_,h9⟩ | ⟨⟨P',M',h1,h2,h3,h4,h5⟩,_⟩
   ·cases h9
   rcases h5 with ⟨_,e⟩ | ⟨_,e,h,_⟩
   ·omega
   ·have:=h j (by omega)
    show Value.int .i64 (f j)=.int .i64 (((f j).toNat:Nat):Int)
    rw [show (((f j).toNat:Nat):Int)=f j by omega]
 ·have hvn:(v != 0)=true:=by simpa using hv0
  have HV0:=hid hv0
  clear hv0 rf
  have r0:=ro.frozen 0
  have s0:w2.cell? ⟨b2,0,none⟩=some _:=ro.cell (i:=0) (by omega)
  have r1:=ro.frozen 1
  have s1:w2.cell? ⟨b2,1,none⟩=some _:=ro.cell (i:=1) (by omega)
  have r2:=ro.frozen 2
  have s2:w2.cell? ⟨b2,2,none⟩=some _:=ro.cell (i:=2) (by omega)
  have r3:=ro.frozen 3
  have s3:w2.cell? ⟨b2,3,none⟩=some _:=ro.cell (i:=3) (by omega)
  have r4:=ro.frozen 4
  have s4:w2.cell? ⟨b2,4,none⟩=some _:=ro.cell (i:=4) (by omega)
  go_wp2
  clear r0 s0 r1 s1 r2 s2 r3 s3 r4 s4
  generalize hw9:World.setCell _ _ _=w6
  obtain ⟨row9,hg9⟩:=yaq ro hw9.symm
  clear hw9
  have hB9:=hB.grown hg9 hB.size (fun q e=>by injection e with e; omega)
  have e0:w6.cell? ⟨b2,0,none⟩=some (.int .i64 0):=row9.cell (i:=0) (by omega)
  have e1:w6.cell? ⟨b2,1,none⟩=some (.int .i64 0):=row9.cell (i:=1) (by omega)
  have e2:w6.cell? ⟨b2,2,none⟩=some (.slice none 0 0):=row9.cell (i:=2) (by omega)
  have e3:w6.cell? ⟨b2,3,none⟩=some (.int .i64 0):=row9.cell (i:=3) (by omega)
  have e4:w6.cell? ⟨b2,4,none⟩=some (.slice none 0 0):=row9.cell (i:=4) (by omega)
  refine bodyPost_ret (v:=.tuple #[.agg #[.int .i64 0,.int .i64 0,.slice none 0 0,.int .i64 0,.slice none 0 0],.int .i64 v]) (by simp [results,Tryz.results79, go_sem,e0,e1,e2,e3,e4]) rfl ?_
  exact ⟨hB9,v,HV.out,.inl ⟨HV0.out,rfl⟩⟩
theorem ybh {q:Nat} {add mul:Nat->Nat->Nat} [Add (El q)] [Mul (El q)] [Neg (El q)] [Zero (El q)] [One (El q)] (hq:0<q) (O:OnEl q add mul) {x y:Nat->Nat}:∀ n,(∀ j,j<n->x j<q/\y j<q)->(sumK n (fun j=>toEl q hq (x j)*toEl q hq (y j))).val=dotN add mul x y n
 | 0,_=>O.h0
 | n+1,h=>by
  show (sumK n (fun j=>toEl q hq (x j)*toEl q hq (y j))+toEl q hq (x n)*toEl q hq (y n)).val=_
  rw [O.ha,O.hm,ybh hq O n fun j hj=>h j (by omega),zat hq (h n (by omega)).1,zat hq (h n (by omega)).2]
  rfl
section
variable {K:Type} [Add K] [Mul K] [Neg K] [Zero K] [One K] (F:Fie K)
include F
theorem dot_comm' {k:Nat} {x y:List K} (hx:x.length=k) (hy:y.length=k):dotW x y=dotW y x:=by
 rw [yap F hx hy,yap F hy hx]
 exact zbq fun i _=>F.mulC _ _
theorem ybM {n:Nat} {C:List K->Prop} (hC:LinC n C):LinC n (perpW n C):=by
 refine ⟨fun x h=>h.1,⟨by simp,fun y hy=>ya9 F (hC.len y hy)⟩,fun x y hx hy=>⟨by rw [zfV (by rw [hx.1,hy.1]),hx.1],fun z hz=>?_⟩,fun a x hx=>⟨by rw [zdn,hx.1],fun z hz=>?_⟩⟩
 ·rw [ya6 F x y z (by rw [hx.1,hy.1]),hx.2 z hz,hy.2 z hz,F.zeroA]
 ·rw [yaM F,hx.2 z hz,F.mulZ]
theorem ybt {L:List K} (hn:L.Nodup) (hc:∀ a,a ∈ L) {n:Nat} {C:List K->Prop} (hC:LinC n C) (x:List K):perpW n (perpW n C) x↔C x:=by
 classical
 have sub:∀ y,C y->perpW n (perpW n C) y:=fun y hy=>⟨hC.len y hy,fun z hz=>by rw [dot_comm' F (hC.len y hy) hz.1]; exact hz.2 y hy⟩
 refine ⟨fun h=>?_,sub x⟩
 by_cases hx:C x
 ·exact hx
 ·have h1:=(mac F hn hc n C hC).1
  have h2:=(mac F hn hc n (perpW n C) (ybM F hC)).1
  have hq0:rpow ((L.length:Nat):Rat) n≠0:=by
   refine ybB ?_ n
   intro e
   have e2:L.length=0:=by simpa using e
   have e3:=List.length_eq_zero_iff.1 e2
   have:=hc 0
   rw [e3] at this
   simp at this
  have h3:cntW L n (perpW n C)≠0:=fun e=>hq0 (by rw [<-h1,e,Rat.mul_zero])
  have h4:cntW L n C=cntW L n (perpW n (perpW n C)):=by
   have h5:cntW L n (perpW n C)*cntW L n C=cntW L n (perpW n C)*cntW L n (perpW n (perpW n C)):=by rw [h2,Rat.mul_comm,h1]
   have h6:cntW L n (perpW n C)*(cntW L n C - cntW L n (perpW n (perpW n C)))=0:=by grind
   rcases Rat.mul_eq_zero.1 h6 with h7 | h7
   ·exact absurd h7 h3
   ·grind
  have hone:=yaw (l:=allW L n) (zdV hn n) (a:=x) (zf9 hc n x h.1) (fun y=>y=x) (fun _=>Iff.rfl) (fun _=>(1:Rat))
  have hle:sumM (fun y=>(if C y then (1:Rat) else 0)+if y=x then (1:Rat) else 0) (allW L n)<=sumM (fun y=>if perpW n (perpW n C) y then (1:Rat) else 0) (allW L n):=ybF fun y _=>by
   by_cases e:y=x
   ·rw [e,if_neg hx,if_pos rfl,if_pos h]; decide +kernel
   ·rw [if_neg e]
    by_cases e2:C y
    ·rw [if_pos e2,if_pos (sub y e2)]; decide +kernel
    ·rw [if_neg e2]; split <;> decide +kernel
  have hone':sumM (fun y=>if y=x then (1:Rat) else 0) (allW L n)=1:=by
   refine Eq.trans (zfU fun y _=>?_) hone
   by_cases e:y=x
   ·rw [if_pos e,if_pos e]
   ·rw [if_neg e,if_neg e]
  rw [yav,hone'] at hle
  have h8:cntW L n C+1<=cntW L n (perpW n (perpW n C)):=hle
  rw [<-h4] at h8
  grind
end
section
variable {q n N ap:Nat} {add mul:Nat->Nat->Nat} {neg:Nat->Nat} {V Wp:Nat->Nat->Nat}
theorem yay (hL:FieldLaws q add mul) (hneg:∀ x,x<q->neg x<q/\add x (neg x)=0) (hV:RrefN q n N V) (hp:NullRel q add mul neg n N V ap Wp) {x:Nat->Nat} (hx:∀ j,j<N->x j<q) :
  InSp q add mul n N V x↔∀ k,k<ap->dotN add mul x (Wp k) N=0:=by
 have hq2:=hL.two
 have hq:0<q:=by omega
 obtain ⟨iA,iM,iN,i0,i1,F,hva,hvm,h0,h1⟩:=zha hL
 have O:OnEl q add mul:=⟨F,hva,hvm,h0,h1⟩
 obtain ⟨pv,hE⟩:=id hV
 obtain ⟨pp,hEp⟩:=hp.rref
 obtain ⟨L,hLd⟩:∃ L:List (El q),L=(List.range q).map (toEl q hq):=⟨_,rfl⟩
 have hn:L.Nodup:=by
  rw [hLd]
  exact za6 List.nodup_range fun a ha b hb e=>zcC hq (List.mem_range.1 ha) (List.mem_range.1 hb) e
 have hc:∀ a,a ∈ L:=fun a=>by
  rw [hLd]
  exact List.mem_map.2 ⟨a.val,List.mem_range.2 a.lt,El.ext' (zat hq a.lt)⟩
 have g2:=zaG hq F hL hva hvm h0 hE.lt hx
 have hlx:=zbx hq N x
 have hperpV:perpW N (Gen N ap fun i=>wordK q hq N (Wp i)) (wordK q hq N x)↔Gen N n (fun i=>wordK q hq N (V i)) (wordK q hq N x):=by
  rw [<-ybt F hn hc (Gen.linC fun i _=>zbx hq N (V i)) (wordK q hq N x)]
  constructor
  ·rintro ⟨h2,h3⟩
   exact ⟨h2,fun y hy=>h3 y ((NullRel.perp hq O hL hneg hE.lt hp y).1 hy)⟩
  ·rintro ⟨h2,h3⟩
   exact ⟨h2,fun y hy=>h3 y ((NullRel.perp hq O hL hneg hE.lt hp y).2 hy)⟩
 have hdot:∀ k,k<ap->(dotW (wordK q hq N x) (wordK q hq N (Wp k))=0↔dotN add mul x (Wp k) N=0):=fun k hk=>by
  have e1:=ybh hq O (x:=x) (y:=Wp k) N fun j hj=>⟨hx j hj,hEp.lt k hk j hj⟩
  have e2:dotW (wordK q hq N x) (wordK q hq N (Wp k))=sumK N (fun j=>toEl q hq (x j)*toEl q hq (Wp k j)):=by
   rw [yap F (zbx hq N _) (zbx hq N _)]
   exact zbq fun j hj=>by rw [zb4 hq,zb4 hq,zbG hj,zbG hj]
  rw [e2]
  constructor
  ·intro h
   rw [h,h0] at e1
   exact e1.symm
  ·intro h
   exact El.ext' (by rw [e1,h,h0])
 rw [g2,<-hperpV]
 constructor
 ·rintro ⟨h2,h3⟩ k hk
  exact (hdot k hk).1 (h3 _ (Gen.row (k:=N) (n:=ap) (r:=fun i=>wordK q hq N (Wp i)) k hk))
 ·intro h
  exact ⟨hlx,fun y hy=>Gen.perp F (fun i _=>zbx hq N _) (fun i hi=>(hdot i hi).2 (h i hi)) y hy⟩
end
end Go.Proofs.YtgekjfpapmlndaaGreat