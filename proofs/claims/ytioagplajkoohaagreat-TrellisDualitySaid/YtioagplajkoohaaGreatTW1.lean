/- Merged texts of a claim: Base, Tk, IntsAll, FldP, Own, Copy, NatLow, NatLo2, FldQ, TabRow, TabAll, ElAll, Elim, Same09, Chk12, Null, CodeE, Dual12, WordsAll, AppCells, NatA, NatB, NatC, RatA, RatB, Rat13, RatC, PolyA, PAddAll, PMulAll, RefEval, PolyC, WtsAll, PatAll, UndAll, DualPl, SeesCode, Gf1, Gf2, Gf3, Gf4, Gf5, GfObj, GfMul, GfDot, GfChk, GfNew, DTab, MAdd, MCl, MEach, MElim, MCan, MChk, MOpen, MCano, MKer, Spc, SpOpen, PCode, PDual, ExpN, Dot04, Word12, Syn12, Tab55, RefRight, Nats, Right, RightLaw, LeadPl, Leaders, Between55, LeadersLaw, RecMath, RecFirst, RecRed, RecFrom, Recover, FallsPl, RefRec, RecLaw, AppMany, Has12, Rest10, ConRow, ConCode, ConTab, ConRec, ConLaw, SeesW, Trel, Shape, Less, Proper, TrelProper, Repeat, NumTab, Counting, NumRows, Valued, Forward, Paths, FewT, RefForward, RefPaths, Same11, SynMem, Syn, Turn09, Cmp11, SameN, RefIs, Check47, Cont47, TChk, ChkLaw, WordsMath, ZeroV, ZeroR, BoundV, MaxV, Proves, RefCP, CheckP, SeesClaim, PotLaw, MinPlus, IntTab, Bwd, IRows, IValued, IBack, IVals, BwdMath, Along, AliveAll, PotTop, Wt11, SoundLaw, IRepeat, VPot, RPot, Near23, PotsLaw, Spans, Rank47, RankPl, SameC, SpansLaw, Info, Info2, Info3, Prof, Prof2. -/
import Derived.Test.YtioagplajkoohaaGreatTQ13
import Derived.Test.YtioagplajkoohaaGreatRows
import Derived.WalkKit
import Derived.WalkSpells
import Derived.WalkLawsBesides
import Derived.Deep.OwnRows
import Derived.ProofKit
import Derived.Deep.RegionHeld3
import Derived.Deep.Slices
import Derived.Lib.SmallJoins
import Derived.Deep.LoopGhost
import Derived.Deep.QuietTactic
import Derived.BigQuiet
import Derived.Deep.Cut
import Derived.Deep.CutBlock
import Derived.Deep.DeepCutAuto
import Derived.IntWalk
import Derived.StillTailTactics
import Derived.SizedLaws
import Derived.Deep.AppendSrc
import Derived.Maps.AppendAt
import Derived.Laws.Bits64b
import Derived.Shelf.Small.Bits
import Derived.Laws.CopyOwn
import Derived.Laws.StructEq
namespace Go.Proofs.YtioagplajkoohaaGreat
set_option maxRecDepth 100000
set_option maxHeartbeats 32000000
open Go.RowKit
open Go.ChangeShapes Go.WideShapes Go.ChangeAt
open Go.Shelf
theorem refSame_any (A A2:Option Addr) (c c2 x:Nat) (w:World) (h:NatOk w w.heap.size A x) (h2:NatOk w w.heap.size A2 x) (hn:dl x<=1073741824) :
  Calls Tryz.prog 92 #[.slice A (dl x) c,.slice A2 (dl x) c2] w fun e w'=>e=.returned (.bool true)/\Below w.heap.size w w':=by
 obtain ⟨n,hn'⟩:∃ n,n=dl x:=⟨_,rfl⟩
 have HN:=hid hn'
 rw [<-hn'] at hn ⊢
 clear hn'
 go_enter Tryz.func92, Tryz.ntmps92
 go_wp2
 go_loopg [5] n (fun gg iv wx=>∃ k:Nat,iv=.int .i64 (k:Nat)/\k<=n/\n<=k+gg/\Below w.heap.size w wx)
 case atStart=>exact ⟨0,rfl,by omega,by omega,Below.refl _ _⟩
 case round =>
  obtain ⟨k,rfl,hk,hkg,hB⟩:=hrel
  by_cases hlt:k<n
  ·obtain ⟨b,o,rfl,hb,e0⟩:=Lims.at (h.on hB) (i:=k) (by rw [<-HN.out]; exact hlt)
   obtain ⟨b2,o2,rfl,hb2,e2⟩:=Lims.at (h2.on hB) (i:=k) (by rw [<-HN.out]; exact hlt)
   have hlt':(k:Int)<(n:Int):=by omega
   have hk0:(0:Int)<=(k:Int):=by omega
   go_wp2
   go_quiet (fail)
   go_wp2
   go_roundg (gk - 1)
   case measure=>omega
   case rel=>exact ⟨k+1,by go_num,by omega,by omega,zac hB _⟩
  ·obtain rfl:k=n:=by omega
   go_wp2
   go_ret
   exact ⟨rfl,hB⟩
namespace Fie
variable {K:Type} [Add K] [Mul K] [Neg K] [Zero K] [One K] (F:Fie K)
include F
end Fie
open Go
open Classical in
theorem sumM_filter {α:Type} (C:α->Prop) (g:α->Rat):∀ l:List α,sumM (fun x=>if C x then g x else 0) l=sumM g (l.filter fun x=>decide (C x))
 | []=>rfl
 | a :: l => by
  have ih:=sumM_filter C g l
  show (if C a then g a else 0)+sumM _ l=_
  rw [ih]
  by_cases h:C a
  ·rw [if_pos h,List.filter_cons_of_pos (by simpa using h)]
   rfl
  ·rw [if_neg h,List.filter_cons_of_neg (by simpa using h)]
   grind
open Classical in
theorem sum_code {K:Type} {L:List K} (hn:L.Nodup) (hc:∀ a,a ∈ L) {N m:Nat} {C:List K->Prop} {W:Nat->List K} (hlen:∀ i,i<m->(W i).length=N) (hC:∀ i,i<m->C (W i)) (hinj:∀ i j,i<m->j<m->W i=W j->i=j) (hsur:∀ x,x.length=N->C x->∃ i,i<m/\W i=x) (g:List K->Rat) :
  sumM (fun x=>if C x then g x else 0) (allW L N)=sumM (fun i=>g (W i)) (List.range m):=by
 rw [sumM_filter]
 have h1:((List.range m).map W).Nodup:=zbc List.nodup_range fun a ha b hb e=>hinj a b (List.mem_range.1 ha) (List.mem_range.1 hb) e
 have h2:∀ x,x ∈ (List.range m).map W->x ∈ (allW L N).filter fun x=>decide (C x):=fun x hx=>by
  obtain ⟨i,hi,rfl⟩:=List.mem_map.1 hx
  rw [List.mem_range] at hi
  exact List.mem_filter.2 ⟨zgB hc N _ (hlen i hi),by simpa using hC i hi⟩
 have h3:∀ x,x ∈ (allW L N).filter (fun x=>decide (C x))->x ∈ (List.range m).map W:=fun x hx=>by
  obtain ⟨h4,h5⟩:=List.mem_filter.1 hx
  obtain ⟨i,hi,e⟩:=hsur x (zcJ L N x h4) (by simpa using h5)
  exact List.mem_map.2 ⟨i,List.mem_range.2 hi,e⟩
 have h6:((allW L N).filter fun x=>decide (C x)).Nodup:=(zed hn N).filter _
 rw [<-zhq (perm_of_nodup' h1 h2 (ziO h6 h3)),zgf]
section
variable {q n k:Nat} {add mul:Nat->Nat->Nat} {V:Nat->Nat->Nat}
theorem EchN.spE_pv (hL:FieldLaws q add mul) {a:Nat} {p:Nat->Nat} (h:EchN q n k k a p V) {c:Nat->Nat} (hc:∀ i,i<a->c i<q) {s:Nat} (hs:s<a):spE add mul V c a (p s)=c s:=by
 have hle:=h.le
 have key:∀ t,t<=a->spE add mul V c t (p s)=if s<t then c s else 0:=by
  intro t
  induction t with
  | zero=>intro _; rfl
  | succ t ih =>
   intro ht
   show add (spE add mul V c t (p s)) (mul (c t) (V t (p s)))=_
   rw [ih (by omega)]
   by_cases e:t=s
   ·subst e
    rw [if_neg (by omega),if_pos (by omega),h.one t hs,hL.mulOne (hc t hs),hL.zeroAdd _ (hc t hs)]
   ·rw [h.zero s hs t (by omega) e,hL.mulZero (hc t (by omega))]
    by_cases e2:s<t
    ·rw [if_pos e2,if_pos (by omega),hL.addZero (hc s hs)]
    ·have:=hL.two
     rw [if_neg e2,if_neg (by omega),hL.addZero (by omega)]
 rw [key a (Nat.le_refl _),if_pos hs]
end
section
variable {q n N:Nat} {add mul:Nat->Nat->Nat} {V:Nat->Nat->Nat} (hq:0<q)
theorem wordK_inj [i0:Zero (El q)] {x y:Nat->Nat} (hx:∀ j,j<N->x j<q) (hy:∀ j,j<N->y j<q) (e:wordK q hq N x=wordK q hq N y):∀ j,j<N->x j=y j:=fun j hj=>by
 have e2:=congrArg (fun l=>ent l j) e
 rw [zcf hq,zcf hq] at e2
 simp only [za2 hj] at e2
 exact zdx hq (hx j hj) (hy j hj) e2
end
theorem rpow_pow (q n:Nat):rpow ((q:Nat):Rat) n=((q ^ n:Nat):Rat):=by
 induction n with
 | zero=>rfl
 | succ n ih=>show (q:Rat)*rpow _ n=_; rw [ih,Nat.pow_succ]; push_cast; grind
section
variable {P M g:Nat} {m:Nat->Nat} {w:World}
theorem gfSub_any (x y:Int) (h:GF w w.heap.size g P M m) :
  Calls Tryz.prog 107 #[.pointer (some ⟨g,0,none⟩),.int .i64 x,.int .i64 y] w fun e w'=>e=.returned (.int .i64 (addF P M (inV (P ^ M) x) (negF P M (inV (P ^ M) y)):Nat))/\Below w.heap.size w w':=by
 have hP0:0<P:=by have:=h.ok.1.1; omega
 go_enter Tryz.func107, Tryz.ntmps107
 go_wp2_with fail
 refine (zdH y h).mono ?_
 rintro e w1 ⟨rfl,hB⟩
 have h1:=h.on hB
 clear h
 have hn:Hid (inV (P ^ M) ((negF P M (inV (P ^ M) y):Nat):Int)=negF P M (inV (P ^ M) y)):=zaE (za7 hP0)
 obtain ⟨Y,hY⟩:∃ Y,Y=negF P M (inV (P ^ M) y):=⟨_,rfl⟩
 rw [<-hY] at hn
 rw [<-hY]
 have HY:=hid hY
 clear hY
 go_wp2_with fail
 refine (zdG x (Y:Int) h1).mono ?_
 rintro e w2 ⟨rfl,kb⟩
 rw [hn.out]
 replace hB:=onS hB kb
 clear kb h1 hn
 obtain ⟨Z,hZ⟩:∃ Z,Z=addF P M (inV (P ^ M) x) Y:=⟨_,rfl⟩
 rw [<-hZ]
 have HZ:=hid hZ
 clear hZ
 go_wp2
 go_ret
 exact ⟨by rw [HZ.out,HY.out]; rfl,hB⟩
end
theorem disN_none {f g:Nat->Int} {n:Nat}:disN f g n=0↔∀ k,k<n->f k=g k:=by
 induction n with
 | zero=>exact ⟨fun _ k hk=>absurd hk (by omega),fun _=>rfl⟩
 | succ n ih =>
  show disN f g n+(if f n=g n then 0 else 1)=0↔_
  constructor
  ·intro h k hk
   by_cases e:k=n
   ·subst e
    by_cases h2:f k=g k
    ·exact h2
    ·rw [if_neg h2] at h; omega
   ·exact ih.1 (by omega) k (by omega)
  ·intro h
   rw [ih.2 fun k hk=>h k (by omega),if_pos (h n (by omega))]
theorem dotN_congr {add mul:Nat->Nat->Nat} {a a' b b':Nat->Nat}:∀ n,(∀ i,i<n->a i=a' i/\b i=b' i)->dotN add mul a b n=dotN add mul a' b' n
 | 0,_=>rfl
 | n+1,h=>by
  show add (dotN add mul a b n) (mul (a n) (b n))=add (dotN add mul a' b' n) (mul (a' n) (b' n))
  rw [dotN_congr n fun i hi=>h i (by omega),(h n (by omega)).1,(h n (by omega)).2]
def hornN (q:Nat) (s:Nat->Nat):Nat->Nat
 | 0=>0
 | i+1=>hornN q s i*q+s i
theorem hornN_lt {q:Nat} {s:Nat->Nat}:∀ {a:Nat},(∀ i,i<a->s i<q)->hornN q s a<q ^ a
 | 0,_=>by show 0<1; omega
 | a+1,h=>by
  have h1:=hornN_lt (a:=a) fun i hi=>h i (by omega)
  have h2:=h a (by omega)
  show hornN q s a*q+s a<q ^ (a+1)
  have h3:(hornN q s a+1)*q<=q ^ a*q:=Nat.mul_le_mul_right q h1
  rw [Nat.add_mul,Nat.one_mul] at h3
  rw [Nat.pow_succ]
  omega
theorem hornN_inj {q:Nat} {s t:Nat->Nat}:∀ {a:Nat},(∀ i,i<a->s i<q)->(∀ i,i<a->t i<q)->(hornN q s a=hornN q t a↔∀ i,i<a->s i=t i)
 | 0,_,_=>⟨fun _ i hi=>absurd hi (by omega),fun _=>rfl⟩
 | a + 1, h, h' => by
  have ih:=hornN_inj (a:=a) (fun i hi=>h i (by omega)) (fun i hi=>h' i (by omega))
  have h1:=h a (by omega)
  have h2:=h' a (by omega)
  have hq:0<q:=by omega
  show hornN q s a*q+s a=hornN q t a*q+t a↔_
  constructor
  ·intro e
   have e1:(hornN q s a*q+s a) % q=(hornN q t a*q+t a) % q:=by rw [e]
   rw [Nat.add_comm,Nat.add_mul_mod_self_right,Nat.mod_eq_of_lt h1,Nat.add_comm,Nat.add_mul_mod_self_right,Nat.mod_eq_of_lt h2] at e1
   rw [e1] at e
   have e2:hornN q s a=hornN q t a:=Nat.eq_of_mul_eq_mul_right hq (by omega)
   intro i hi
   by_cases e3:i=a
   ·rw [e3]; exact e1
   ·exact ih.1 e2 i (by omega)
  ·intro e
   rw [ih.2 fun i hi=>e i (by omega),e a (by omega)]
theorem dotN_comm {q:Nat} {add mul:Nat->Nat->Nat} (hL:FieldLaws q add mul) {a b:Nat->Nat}:∀ n,(∀ i,i<n->a i<q/\b i<q)->dotN add mul a b n=dotN add mul b a n
 | 0,_=>rfl
 | n+1,h=>by
  show add (dotN add mul a b n) (mul (a n) (b n))=add (dotN add mul b a n) (mul (b n) (a n))
  rw [dotN_comm hL n fun i hi=>h i (by omega),hL.mulComm _ _ (h n (by omega)).1 (h n (by omega)).2]
theorem add4 {q:Nat} {add mul:Nat->Nat->Nat} (hL:FieldLaws q add mul) {a b c d:Nat} (ha:a<q) (hb:b<q) (hc:c<q) (hd:d<q):add (add a b) (add c d)=add (add a c) (add b d):=by
 rw [hL.addAssoc a b _ ha hb (hL.addLt _ _),<-hL.addAssoc b c d hb hc hd,hL.addComm b c,hL.addAssoc c b d hc hb hd,<-hL.addAssoc a c _ ha hc (hL.addLt _ _)]
theorem dotN_add {q:Nat} {add mul:Nat->Nat->Nat} (hL:FieldLaws q add mul) {x v w:Nat->Nat}:∀ n,(∀ j,j<n->x j<q/\v j<q/\w j<q)->dotN add mul (fun j=>add (x j) (v j)) w n=add (dotN add mul x w n) (dotN add mul v w n)
 | 0,_=>by have:=hL.two; exact (hL.zeroAdd 0 (by omega)).symm
 | n+1,h=>by
  obtain ⟨h1,h2,h3⟩:=h n (by omega)
  show add (dotN add mul (fun j=>add (x j) (v j)) w n) (mul (add (x n) (v n)) (w n))=add (add (dotN add mul x w n) (mul (x n) (w n))) (add (dotN add mul v w n) (mul (v n) (w n)))
  rw [dotN_add hL n fun j hj=>h j (by omega),hL.mulComm _ _ (hL.addLt _ _) h3,hL.distrib _ _ _ h3 h1 h2,hL.mulComm _ _ h3 h1,hL.mulComm _ _ h3 h2]
  exact add4 hL (zjw hL _ _ _) (zjw hL _ _ _) (hL.mulLt _ _) (hL.mulLt _ _)
structure Tri (q k m:Nat) (B:Nat->Nat->Nat) (p:Nat->Nat):Prop where
 lt:∀ t,t<m->∀ j,j<k->B t j<q
 plt:∀ t,t<m->p t<k
 one:∀ t,t<m->B t (p t)=1
 low:∀ t,t<m->∀ j,j<p t->B t j=0
 zero:∀ t s,t<s->s<m->B s (p t)=0
def KerB (add mul:Nat->Nat->Nat) (k m:Nat) (B:Nat->Nat->Nat) (c:Nat->Nat):Prop:=∀ t,t<m->dotN add mul c (B t) k=0
section
variable {q k m:Nat} {add mul:Nat->Nat->Nat} {neg:Nat->Nat} {B:Nat->Nat->Nat} {p:Nat->Nat}
theorem dotN_upd (hL:FieldLaws q add mul) {c b:Nat->Nat} {j v:Nat} (hc:c j=0) (hv:v<q):∀ n,(∀ i,i<n->c i<q/\b i<q)->dotN add mul (fun i=>if i=j then v else c i) b n=add (dotN add mul c b n) (if j<n then mul v (b j) else 0)
 | 0,_=>by have:=hL.two; rw [if_neg (by omega)]; exact (hL.zeroAdd 0 (by omega)).symm
 | n + 1, h => by
  have hq:=hL.two
  obtain ⟨h1,h2⟩:=h n (by omega)
  show add (dotN add mul (fun i=>if i=j then v else c i) b n) (mul (if n=j then v else c n) (b n))=add (add (dotN add mul c b n) (mul (c n) (b n))) _
  rw [dotN_upd hL hc hv n fun i hi=>h i (by omega)]
  by_cases e:n=j
  ·subst e
   rw [if_pos rfl,if_neg (by omega),if_pos (by omega),hc,hL.mulComm 0 _ (by omega) h2,hL.mulZero h2]
  ·rw [if_neg e]
   by_cases e2:j<n
   ·rw [if_pos e2,if_pos (by omega)]
    have h3:=zjw hL c b n
    rw [hL.addAssoc _ _ _ h3 (hL.mulLt _ _) (hL.mulLt _ _),hL.addComm (mul v (b j)),<-hL.addAssoc _ _ _ h3 (hL.mulLt _ _) (hL.mulLt _ _)]
   ·rw [if_neg e2,if_neg (by omega),hL.addZero (zjw hL _ _ _),hL.addZero (hL.addLt _ _)]
theorem dotN_zero (hL:FieldLaws q add mul) {b:Nat->Nat}:∀ n,(∀ i,i<n->b i<q)->∀ c:Nat->Nat,(∀ i,i<n->c i=0)->dotN add mul c b n=0
 | 0,_,_,_=>rfl
 | n+1,h,c,hc=>by
  have hq:=hL.two
  show add (dotN add mul c b n) (mul (c n) (b n))=0
  rw [dotN_zero hL n (fun i hi=>h i (by omega)) c fun i hi=>hc i (by omega),hc n (by omega),hL.mulComm _ _ (by omega) (h n (by omega)),hL.mulZero (h n (by omega)),hL.zeroAdd 0 (by omega)]
theorem dotN_one (hL:FieldLaws q add mul) {c b:Nat->Nat} {j:Nat}:∀ n,j<n->(∀ i,i<n->c i<q/\b i<q)->(∀ i,i<n->i≠j->c i=0∨b i=0)->dotN add mul c b n=mul (c j) (b j)
 | 0,hj,_,_=>absurd hj (by omega)
 | n + 1, hj, h, h0 => by
  have hq:=hL.two
  obtain ⟨h1,h2⟩:=h n (by omega)
  show add (dotN add mul c b n) (mul (c n) (b n))=_
  have hz:∀ i,i<n+1->i≠j->mul (c i) (b i)=0:=fun i hi hne=>by
   obtain ⟨g1,g2⟩:=h i hi
   rcases h0 i hi hne with e | e
   ·rw [e,hL.mulComm _ _ (by omega) g2,hL.mulZero g2]
   ·rw [e,hL.mulZero g1]
  by_cases e:n=j
  ·subst e
   have key:∀ r,r<=n->dotN add mul c b r=0:=by
    intro r
    induction r with
    | zero=>intro _; rfl
    | succ r ih =>
     intro hr
     show add (dotN add mul c b r) (mul (c r) (b r))=0
     rw [ih (by omega),hz r (by omega) (by omega),hL.zeroAdd 0 (by omega)]
   rw [key n (Nat.le_refl _),hL.zeroAdd _ (hL.mulLt _ _)]
  ·rw [dotN_one hL n (by omega) (fun i hi=>h i (by omega)) fun i hi hne=>h0 i (by omega) hne,hz n (by omega) e,hL.addZero (hL.mulLt _ _)]
theorem Tri.ne (h:Tri q k m B p) {s t:Nat} (hst:s<t) (ht:t<m):p s≠p t:=fun e=>by
 have h1:=h.zero s t hst ht
 have h2:=h.one t ht
 rw [e] at h1
 omega
theorem Tri.inj (h:Tri q k m B p) {s t:Nat} (hs:s<m) (ht:t<m) (e:p s=p t):s=t:=by
 rcases Nat.lt_trichotomy s t with h1 | h1 | h1
 ·exact absurd e (h.ne h1 ht)
 ·exact h1
 ·exact absurd e.symm (h.ne h1 hs)
theorem Tri.le (h:Tri q k m B p):m<=k:=by
 have h1:((List.range m).map p).Nodup:=zbc List.nodup_range fun s hs t ht e=>h.inj (List.mem_range.1 hs) (List.mem_range.1 ht) e
 have h2:=ziO h1 (m:=List.range k) fun x hx=>by
  obtain ⟨t,ht,rfl⟩:=List.mem_map.1 hx
  exact List.mem_range.2 (h.plt t (List.mem_range.1 ht))
 simpa using h2
def redN (add mul:Nat->Nat->Nat) (neg:Nat->Nat) (B:Nat->Nat->Nat) (p:Nat->Nat) (v:Nat->Nat):Nat->Nat->Nat
 | 0,j=>v j
 | t+1,j=>if redN add mul neg B p v t (p t)=0 then redN add mul neg B p v t j else add (redN add mul neg B p v t j) (neg (mul (redN add mul neg B p v t (p t)) (B t j)))
theorem redN_lt (hL:FieldLaws q add mul) {v:Nat->Nat} (hv:∀ j,j<k->v j<q):∀ t j,j<k->redN add mul neg B p v t j<q
 | 0,j,hj=>hv j hj
 | t+1,j,hj=>by
  show (if redN add mul neg B p v t (p t)=0 then redN add mul neg B p v t j else _)<q
  split
  ·exact redN_lt hL hv t j hj
  ·exact hL.addLt _ _
theorem redN_zero (hL:FieldLaws q add mul) (hneg:∀ x,x<q->neg x<q/\add x (neg x)=0) (h:Tri q k m B p) {v:Nat->Nat} (hv:∀ j,j<k->v j<q):∀ t,t<=m->∀ s,s<t->redN add mul neg B p v t (p s)=0
 | 0,_,s,hs=>absurd hs (by omega)
 | t + 1, ht, s, hs => by
  have hq:=hL.two
  show (if redN add mul neg B p v t (p t)=0 then redN add mul neg B p v t (p s) else _)=0
  have hlt:=redN_lt (neg:=neg) (B:=B) (p:=p) hL hv t (p t) (h.plt t (by omega))
  by_cases e:s=t
  ·subst e
   split
   ·assumption
   ·rw [h.one s (by omega),hL.mulOne hlt]
    exact (hneg _ hlt).2
  ·have ih:=redN_zero hL hneg h hv t (by omega) s (by omega)
   split
   ·exact ih
   ·rw [ih,h.zero s t (by omega) (by omega),hL.mulZero hlt]
    exact (hneg 0 (by omega)).2
theorem redN_dot (hL:FieldLaws q add mul) (hneg:∀ x,x<q->neg x<q/\add x (neg x)=0) (h:Tri q k m B p) {v c:Nat->Nat} (hv:∀ j,j<k->v j<q) (hc:∀ j,j<k->c j<q) (hK:KerB add mul k m B c):∀ t,t<=m->dotN add mul c (redN add mul neg B p v t) k=dotN add mul c v k
 | 0,_=>rfl
 | t + 1, ht => by
  have hq:=hL.two
  by_cases e:redN add mul neg B p v t (p t)=0
  ·have e2:dotN add mul c (redN add mul neg B p v (t+1)) k=dotN add mul c (redN add mul neg B p v t) k:=dotN_congr k fun j _=>⟨rfl,if_pos e⟩
   rw [e2,redN_dot hL hneg h hv hc hK t (by omega)]
  ·obtain ⟨y,hy⟩:∃ y,y=redN add mul neg B p v t (p t):=⟨_,rfl⟩
   have hyq:y<q:=by rw [hy]; exact redN_lt hL hv t _ (h.plt t (by omega))
   have hng:∀ j,neg (mul y (B t j))<q:=fun j=>(hneg _ (hL.mulLt _ _)).1
   have e2:dotN add mul c (redN add mul neg B p v (t+1)) k=dotN add mul (fun j=>add (redN add mul neg B p v t j) (neg (mul y (B t j)))) c k:=by
    rw [dotN_comm hL k fun j hj=>⟨hc j hj,redN_lt hL hv _ j hj⟩]
    exact dotN_congr k fun j _=>⟨by rw [hy]; exact if_neg e,rfl⟩
   rw [e2,dotN_add (v:=fun j=>neg (mul y (B t j))) hL k fun j hj=>⟨redN_lt hL hv _ j hj,hng j,hc j hj⟩,dotN_comm hL k fun j hj=>⟨redN_lt hL hv _ j hj,hc j hj⟩,redN_dot hL hneg h hv hc hK t (by omega)]
   have z1:dotN add mul (fun j=>mul y (B t j)) c k=0:=by
    rw [zhJ hL hyq k fun j hj=>⟨h.lt t (by omega) j hj,hc j hj⟩,dotN_comm hL k fun j hj=>⟨h.lt t (by omega) j hj,hc j hj⟩,hK t (by omega),hL.mulZero hyq]
   have z2:=dotN_add (x:=fun j=>mul y (B t j)) (v:=fun j=>neg (mul y (B t j))) (w:=c) hL k fun j hj=>⟨hL.mulLt _ _,hng j,hc j hj⟩
   have z3:dotN add mul (fun j=>add (mul y (B t j)) (neg (mul y (B t j)))) c k=0:=dotN_zero hL k hc _ fun j _=>(hneg _ (hL.mulLt _ _)).2
   rw [z3,z1,hL.zeroAdd _ (zjw hL _ _ _)] at z2
   rw [<-z2,hL.addZero (zjw hL _ _ _)]
theorem Tri.start:Tri q k 0 B p:=⟨fun _ h=>absurd h (by omega),fun _ h=>absurd h (by omega),fun _ h=>absurd h (by omega),fun _ h=>absurd h (by omega),fun _ _ _ h=>absurd h (by omega)⟩
theorem Tri.same (hL:FieldLaws q add mul) (hneg:∀ x,x<q->neg x<q/\add x (neg x)=0) (h:Tri q k m B p) {v c:Nat->Nat} (hv:∀ j,j<k->v j<q) (hc:∀ j,j<k->c j<q) (hz:∀ j,j<k->redN add mul neg B p v m j=0):(KerB add mul k m B c/\dotN add mul c v k=0)↔KerB add mul k m B c:=by
 refine ⟨fun h=>h.1,fun hK=>⟨hK,?_⟩⟩
 rw [<-redN_dot (neg:=neg) hL hneg h hv hc hK m (Nat.le_refl _),dotN_comm hL k fun j hj=>⟨hc j hj,by have:=hL.two; rw [hz j hj]; omega⟩]
 exact dotN_zero hL k hc _ hz
theorem Tri.next (hL:FieldLaws q add mul) (hneg:∀ x,x<q->neg x<q/\add x (neg x)=0) (h:Tri q k m B p) {v b:Nat->Nat} {f i:Nat} (hv:∀ j,j<k->v j<q) (hf:f<k) (hlow:∀ j,j<f->redN add mul neg B p v m j=0) (hi:i<q) (h1:mul i (redN add mul neg B p v m f)=1) (hb:∀ j,j<k->b j=mul i (redN add mul neg B p v m j)) :
  Tri q k (m+1) (fun t=>if t=m then b else B t) (fun t=>if t=m then f else p t)/\∀ c,(∀ j,j<k->c j<q)->((KerB add mul k m B c/\dotN add mul c v k=0)↔KerB add mul k (m+1) (fun t=>if t=m then b else B t) c):=by
 have hq:=hL.two
 have hr:=redN_lt (neg:=neg) (B:=B) (p:=p) hL hv m
 refine ⟨⟨fun t ht j hj=>?_,fun t ht=>?_,fun t ht=>?_,fun t ht j hj=>?_,fun t s hts hs=>?_⟩,fun c hc=>?_⟩
 ·by_cases e:t=m
  ·simp only [if_pos e]; rw [hb j hj]; exact hL.mulLt _ _
  ·simp only [if_neg e]; exact h.lt t (by omega) j hj
 ·by_cases e:t=m
  ·simp only [if_pos e]; exact hf
  ·simp only [if_neg e]; exact h.plt t (by omega)
 ·by_cases e:t=m
  ·simp only [if_pos e]; rw [hb f hf]; exact h1
  ·simp only [if_neg e]; exact h.one t (by omega)
 ·by_cases e:t=m
  ·simp only [if_pos e] at hj ⊢; rw [hb j (by omega),hlow j hj]; exact hL.mulZero hi
  ·simp only [if_neg e] at hj ⊢; exact h.low t (by omega) j hj
 ·by_cases e:s=m
  ·simp only [if_pos e,if_neg (show t≠m by omega)]
   rw [hb _ (h.plt t (by omega)),redN_zero hL hneg h hv m (Nat.le_refl _) t (by omega)]
   exact hL.mulZero hi
  ·simp only [if_neg e,if_neg (show t≠m by omega)]
   exact h.zero t s hts (by omega)
 ·have hbd:dotN add mul c b k=mul i (dotN add mul c (redN add mul neg B p v m) k):=by
   have e1:dotN add mul c b k=dotN add mul (fun j=>mul i (redN add mul neg B p v m j)) c k:=by
    rw [dotN_comm hL k fun j hj=>⟨hc j hj,by rw [hb j hj]; exact hL.mulLt _ _⟩]
    exact dotN_congr k fun j hj=>⟨hb j hj,rfl⟩
   rw [e1,zhJ hL hi k fun j hj=>⟨hr j hj,hc j hj⟩,dotN_comm hL k fun j hj=>⟨hr j hj,hc j hj⟩]
  have hsp:∀ s,s<m->(fun t=>if t=m then b else B t) s=B s:=fun s hs=>if_neg (by omega)
  constructor
  ·rintro ⟨hK,hd⟩ t ht
   by_cases e:t=m
   ·simp only [if_pos e]
    rw [hbd,redN_dot hL hneg h hv hc hK m (Nat.le_refl _),hd]
    exact hL.mulZero hi
   ·simp only [if_neg e]
    exact hK t (by omega)
  ·intro hK
   have hK2:KerB add mul k m B c:=fun t ht=>by
    have:=hK t (by omega)
    simp only [if_neg (show t≠m by omega)] at this
    exact this
   refine ⟨hK2,?_⟩
   have h2:=hK m (by omega)
   simp only [if_true] at h2
   rw [hbd,redN_dot hL hneg h hv hc hK2 m (Nat.le_refl _)] at h2
   have hd:=zjw hL c v k
   have hyq:=hr f hf
   have e3:mul (redN add mul neg B p v m f) (mul i (dotN add mul c v k))=dotN add mul c v k:=by
    rw [<-hL.mulAssoc _ _ _ hyq hi hd,hL.mulComm _ i hyq hi,h1,hL.oneMul _ hd]
   rw [h2,hL.mulZero hyq] at e3
   exact e3.symm
end
theorem dotN_col {add mul:Nat->Nat->Nat} {V:Nat->Nat->Nat} {c:Nat->Nat} {j:Nat}:∀ n,dotN add mul c (fun t=>V t j) n=spE add mul V c n j
 | 0=>rfl
 | n+1=>by
  show add (dotN add mul c (fun t=>V t j) n) (mul (c n) (V n j))=add (spE add mul V c n j) (mul (c n) (V n j))
  rw [dotN_col n]
def twoT:Trel:=⟨2,fun _=>1,1,fun _=>2,fun _ _=>0,fun _ j=>(j:Nat),fun _ _=>0⟩
theorem twoT_proper:twoT.properE=0:=by decide +kernel
theorem twoT_fwd:twoT.fwd (fun _ _=>1) twoT.n 0=2:=by decide +kernel
theorem twoT_reads {w:World} {c d:Nat} {b1 b2 b3:Nat} (h1:w.cell? ⟨b1,0,none⟩=some (.int .i64 1)) (h2:w.cell? ⟨b1,1,none⟩=some (.int .i64 1))
  (h3:w.cell? ⟨b3,0,none⟩=some (.slice (some ⟨b2,0,none⟩) 2 c)) (hc:2<=c) (hc2:c<=maxLen)
  (h4:∀ j,j<2->w.cell? ⟨b2,j*3,none⟩=some (.int .i64 0)/\w.cell? ⟨b2,j*3+1,none⟩=some (.int .i64 (j:Nat))/\w.cell? ⟨b2,j*3+2,none⟩=some (.int .i64 0)) (_:d=1) :
  twoT.Reads w (some ⟨b1,0,none⟩) (some ⟨b3,0,none⟩):=by
 refine ⟨fun i hi=>⟨b1,0,rfl,World.block_lt_of_cell? _ _ h1,fun j hj=>?_⟩,fun i _=>⟨by show (-9223372036854775808:Int)<=1; omega,by show (1:Int)<=9223372036854775807; omega⟩,fun i hi=>?_,by show 2<=_; omega,by show 1<=_; omega,fun i _=>by show 2<=_; omega⟩
 ·obtain rfl:j=0:=by omega
  match i,hi with
  | 0,_=>exact h1
  | 1,_=>exact h2
 ·obtain rfl:i=0:=by have:i<1:=hi; omega
  refine ⟨b3,0,some ⟨b2,0,none⟩,c,rfl,World.block_lt_of_cell? _ _ h3,h3,hc,hc2,fun j hj=>⟨b2,0,rfl,World.block_lt_of_cell? _ _ (h4 0 (by omega)).1,fun q hq=>?_⟩,fun j hj=>⟨⟨by show (-9223372036854775808:Int)<=0; omega,by show (0:Int)<=9223372036854775807; omega⟩,⟨by show (-9223372036854775808:Int)<=(j:Nat); omega,by have:j<2:=hj; show ((j:Nat):Int)<=9223372036854775807; omega⟩,⟨by show (-9223372036854775808:Int)<=0; omega,by show (0:Int)<=9223372036854775807; omega⟩⟩⟩
  obtain ⟨k0,k1,k2⟩:=h4 j hj
  rw [Nat.zero_add]
  match q,hq with
  | 0,_=>exact k0
  | 1,_=>exact k1
  | 2,_=>exact k2
section
variable {w:World} {c1 c2 c3:Array Value} {t1 t2 t3:TypeId} {i:Nat} {v:Value}
theorem three_one (h:c1[i]?=some v):(((w.alloc (.cells c1 t1)).alloc (.cells c2 t2)).alloc (.cells c3 t3)).cell? ⟨w.heap.size,i,none⟩=some v:=by
 rw [World.cell?_alloc_lt _ _ _ (by simp; omega),World.cell?_alloc_lt _ _ _ (by simp),World.cell?_alloc_at _ _ _ _ rfl]
 exact h
theorem three_two (h:c2[i]?=some v):(((w.alloc (.cells c1 t1)).alloc (.cells c2 t2)).alloc (.cells c3 t3)).cell? ⟨w.heap.size+1,i,none⟩=some v:=by
 rw [World.cell?_alloc_lt _ _ _ (by simp),World.cell?_alloc_at _ _ _ _ (by simp)]
 exact h
theorem three_three (h:c3[i]?=some v):(((w.alloc (.cells c1 t1)).alloc (.cells c2 t2)).alloc (.cells c3 t3)).cell? ⟨w.heap.size+1+1,i,none⟩=some v:=by
 rw [World.cell?_alloc_at _ _ _ _ (by simp)]
 exact h
end
theorem alive47_any (w:World):Calls Tryz.prog 40 #[] w fun e w'=>e=.returned (.bool true)/\Below w.heap.size w w':=by
 go_enter Tryz.func40, Tryz.ntmps40
 go_wp2_with fail
 refine (zhS twoT (some ⟨w.heap.size,0,none⟩) (some ⟨w.heap.size+1+1,0,none⟩) 2 1 _ ?_).mono ?_
 ·exact twoT_reads (d:=1) (b2:=w.heap.size+1) (c:=2) (three_one rfl) (three_one rfl) (three_three rfl) (by omega) (by unfold maxLen; omega) (fun j hj=>by
   match j,hj with
   | 0,_=>exact ⟨three_two rfl,three_two rfl,three_two rfl⟩
   | 1,_=>exact ⟨three_two rfl,three_two rfl,three_two rfl⟩) rfl
 rintro e w1 (⟨h0,_⟩ | ⟨_,A,c,rfl,h1,h2,h3,hb⟩)
 ·exact absurd twoT_proper h0
 have hW:Below w.heap.size w w1:=onS ((((Below.refl _ _).alloc (Nat.le_refl _) _).alloc (by simp) _).alloc (by simp; omega) _) hb
 rw [twoT_fwd] at h1 h3 ⊢
 clear hb
 have hd:dl 2=1:=zbK (by omega) (by omega)
 have kb2:Below w1.heap.size w1 (w1.alloc (Obj.cells #[Value.int .u32 2] 110)):=(Below.refl _ _).alloc (Nat.le_refl _) _
 have key:=refSame_any A (some ⟨w1.heap.size,0,none⟩) c 1 2 (w1.alloc (Obj.cells #[Value.int .u32 2] 110)) (h3.on kb2) (zbW (w:=w1) 110 (x:=2) (by omega) (by omega)) (by omega)
 rw [hd] at key ⊢
 have HK:=hid key
 have hW2:=onS hW kb2
 clear hd h1 h2 h3 key kb2
 go_wp2_with fail
 refine HK.out.mono ?_
 rintro e w2 ⟨rfl,kb⟩
 have hW3:=onS hW2 kb
 clear kb hW2 HK
 go_wp2
 go_ret
 exact ⟨rfl,hW3⟩
theorem zeZ (A B:Option Addr) (n c d:Nat) (f:Nat->Int) (w:World) (ha:IntsR w w.heap.size A n f) (hb:IntsR w w.heap.size B n f) (hn:n<=1048576) :
  Calls Tryz.prog 114 #[.slice A n c,.slice B n d] w fun e w'=>e=.returned (.int .i64 0)/\Below w.heap.size w w':=by
 have HA:=hid ha
 have HB:=hid hb
 clear ha hb
 go_enter Tryz.func114, Tryz.ntmps114
 go_wp2
 go_loopg [5] n (fun g iv wx=>∃ k:Nat,iv=.int .i64 (k:Nat)/\k<=n/\n<=k+g/\Below w.heap.size w wx)
 case atStart=>exact ⟨0,rfl,by omega,by omega,Below.refl _ _⟩
 case round =>
  obtain ⟨k,rfl,hk,hkg,hW⟩:=hrel
  have hk0:(0:Int)<=(k:Int):=by omega
  by_cases hlt:k<n
  ·have hlt':(k:Int)<(n:Int):=by omega
   have hd:decide ((k:Int)<(n:Int))=true:=by simp; omega
   obtain ⟨ab,ao,rfl,hab,x0⟩:=(HA.out.on hW).at hlt
   obtain ⟨bb,bo,rfl,hbb,y0⟩:=(HB.out.on hW).at hlt
   obtain ⟨x,hx⟩:∃ x,x=f k:=⟨_,rfl⟩
   rw [<-hx] at x0 y0
   clear hx
   have h1:¬ x<x:=by omega
   have h2:¬ x > x:=by omega
   go_wp2
   go_quiet (fail)
   go_wp2
   go_quiet (fail)
   go_wp2
   go_roundg (gk - 1)
   case measure=>omega
   case rel=>exact ⟨k+1,by go_num,by omega,by omega,zac hW _⟩
  ·have hlt':¬ (k:Int)<(n:Int):=by omega
   have hd:decide ((k:Int)<(n:Int))=false:=by simp; omega
   have hnn:¬ (n:Int)<(n:Int):=by omega
   obtain rfl:k=n:=by omega
   go_wp2
   go_ret
   exact ⟨rfl,hW⟩
def idxP (p:Int->Bool) (f:Nat->Int):Nat->Int
 | 0 => -1
 | k+1=>if 0<=idxP p f k then idxP p f k else if p (f k) then k else -1
theorem zfq {p:Int->Bool} {f:Nat->Int} {k:Nat} (h:idxP p f k = -1) (hp:p (f k)=false):idxP p f (k+1) = -1:=by simp [idxP,h,hp]
theorem zg3 {p:Int->Bool} {f:Nat->Int} {k n:Nat} (h:idxP p f k = -1) (hp:p (f k)=true) (hn:k<n):idxP p f n=k:=by
 induction n with
 | zero=>omega
 | succ n ih =>
  by_cases e:k=n
  ·subst e; simp [idxP,h,hp]
  ·have:=ih (by omega); simp [idxP,this]
theorem zhU (p:Int->Bool) (f:Nat->Int) (n:Nat):(idxP p f n = -1/\∀ i,i<n->p (f i)=false)∨(∃ i,i<n/\idxP p f n=i/\p (f i)=true):=by
 induction n with
 | zero=>exact .inl ⟨rfl,fun i hi=>absurd hi (by omega)⟩
 | succ n ih =>
  rcases ih with ⟨h1,h2⟩ | ⟨i,hi,h1,h2⟩
  ·cases hp:p (f n)
   ·refine .inl ⟨zfq h1 hp,fun i hi=>?_⟩
    by_cases e:i=n
    ·subst e; exact hp
    ·exact h2 i (by omega)
   ·exact .inr ⟨n,by omega,zg3 h1 hp (by omega),hp⟩
  ·exact .inr ⟨i,by omega,by simp [idxP,h1],h2⟩
theorem zdP (fid:Nat) (p:Int->Bool) (hcf:∀ (x:Value) (W:World),(callFunc fid #[x]).run Tryz.prog W=.ok (.enter fid #[x]) W) (hp:∀ (x:Int) (W:World),Calls Tryz.prog fid #[.int .i64 x] W fun e W'=>e=.returned (.bool (p x))/\W=W')
  (F:Option Addr) (n d:Nat) (f:Nat->Int) (w:World) (hf:IntsR w w.heap.size F n f) (hn:n<=1024) :
  Calls Tryz.prog 190 #[.slice F n d,.func (.func fid) #[] #[]] w fun e w'=>e=.returned (.int .i64 (idxP p f n))/\w=w':=by
 have HP:=hid hp
 clear hp
 go_enter Tryz.func190, Tryz.ntmps190
 go_wp2
 go_loopw [8] (fun i wr=>∃ k:Nat,k<=n/\i=.int .i64 k/\idxP p f k = -1/\w=wr) (fun i _=>n - (intOf i).toNat)
 case atStart=>exact ⟨0,by omega,rfl,rfl,rfl⟩
 case round =>
  obtain ⟨k,hk,rfl,hi,rfl⟩:=hrel
  have hi':=hid hi
  clear hi
  by_cases hlt:k<n
  ·obtain ⟨b,off,rfl,hb,e0⟩:=hf.at hlt
   cases hq:p (f k)
   ·have HQ:=hid hq
    clear hq
    go_wp2_with fail
    refine (HP.out _ _).mono ?_
    rintro e w1 ⟨rfl,rfl⟩
    rw [HQ.out]
    go_wp2
    go_roundw
    case rel=>exact ⟨k+1,by omega,by go_num,zfq hi'.out HQ.out,by first | trivial | rfl⟩
    case measure=>simp [intOf]; omega
   ·have HQ:=hid hq
    clear hq
    go_wp2_with fail
    refine (HP.out _ _).mono ?_
    rintro e w1 ⟨rfl,rfl⟩
    rw [HQ.out]
    go_wp2
    go_ret
    exact ⟨zah (zg3 hi'.out HQ.out hlt).symm,rfl⟩
  ·obtain rfl:k=n:=by omega
   go_wp2
   go_ret
   exact ⟨zah hi'.out.symm,rfl⟩
def PricedP (M:Nat) (ln:Nat->Nat) (C:Nat->Nat->Int):Prop:=∀ i,i<M->∀ a,a<ln i->0<=C i a/\C i a<=2147483648
instance (M:Nat) (ln:Nat->Nat) (C:Nat->Nat->Int):Decidable (PricedP M ln C):=by unfold PricedP; exact inferInstance
def Trel.fitB (T:Trel) (ln:Nat->Nat):Prop:=∀ i,i<T.n->∀ j,j<T.el i->T.lb i j<(ln i:Nat)
instance (T:Trel) (ln:Nat->Nat):Decidable (T.fitB ln):=by unfold Trel.fitB; exact inferInstance
def cntB (D:Nat->Bool):Nat->Nat
 | 0=>0
 | n+1=>cntB D n+if D n then 1 else 0
theorem cntB_congr {D E:Nat->Bool}:∀ n,(∀ s,s<n->D s=E s)->cntB D n=cntB E n
 | 0,_=>rfl
 | n+1,h=>by
  show cntB D n+(if D n then 1 else 0)=cntB E n+if E n then 1 else 0
  rw [cntB_congr n fun s hs=>h s (by omega),h n (by omega)]
def packB (q:Nat) (D:Nat->Bool) (c:Nat->Nat):Nat->Nat
 | 0=>0
 | n+1=>if D n then packB q D c n*q+c n else packB q D c n
theorem packB_lt {q:Nat} {D:Nat->Bool} {c:Nat->Nat}:∀ n,(∀ s,s<n->c s<q)->packB q D c n<q ^ cntB D n
 | 0,_=>by show 0<q ^ 0; simp
 | n + 1, h => by
  have ih:=packB_lt (D:=D) n fun s hs=>h s (by omega)
  have h1:=h n (by omega)
  show (if D n then packB q D c n*q+c n else packB q D c n)<q ^ (cntB D n+if D n then 1 else 0)
  split
  ·rw [Nat.pow_succ]
   have:=Nat.mul_le_mul_right q (show packB q D c n+1<=q ^ cntB D n from ih)
   rw [Nat.add_mul,Nat.one_mul] at this
   omega
  ·exact ih
theorem packB_inj {q:Nat} {D:Nat->Bool} {c c':Nat->Nat}:∀ n,(∀ s,s<n->c s<q)->(∀ s,s<n->c' s<q)->packB q D c n=packB q D c' n->∀ s,s<n->D s=true->c s=c' s
 | 0,_,_,_,s,hs,_=>absurd hs (by omega)
 | n + 1, h, h', e, s, hs, hD => by
  have e:(if D n then packB q D c n*q+c n else packB q D c n)=if D n then packB q D c' n*q+c' n else packB q D c' n:=e
  have h1:=h n (by omega)
  have h2:=h' n (by omega)
  have ih:=packB_inj (D:=D) (c:=c) (c':=c') n (fun s hs=>h s (by omega)) (fun s hs=>h' s (by omega))
  by_cases hn:D n=true
  ·rw [if_pos hn,if_pos hn] at e
   have e1:c n=c' n:=by
    have:=congrArg (· % q) e
    simp only [Nat.mul_add_mod_self_right,Nat.mod_eq_of_lt h1,Nat.mod_eq_of_lt h2] at this
    exact this
   have e2:packB q D c n=packB q D c' n:=by
    rw [e1] at e
    exact Nat.eq_of_mul_eq_mul_right (show 0<q by omega) (by omega)
   by_cases en:s=n
   ·rw [en]; exact e1
   ·exact ih e2 s (by omega) hD
  ·rw [if_neg hn,if_neg hn] at e
   by_cases en:s=n
   ·rw [en] at hD; exact absurd hD hn
   ·exact ih e s (by omega) hD
theorem packB_congr {q:Nat} {D:Nat->Bool} {c c':Nat->Nat}:∀ n,(∀ s,s<n->D s=true->c s=c' s)->packB q D c n=packB q D c' n
 | 0,_=>rfl
 | n+1,h=>by
  show (if D n then packB q D c n*q+c n else packB q D c n)=if D n then packB q D c' n*q+c' n else packB q D c' n
  rw [packB_congr n fun s hs=>h s (by omega)]
  by_cases hn:D n=true
  ·rw [if_pos hn,if_pos hn,h n (by omega) hn]
  ·rw [if_neg hn,if_neg hn]
theorem packB_surj {q:Nat} (hq:0<q) {D:Nat->Bool}:∀ n y,y<q ^ cntB D n->∃ c:Nat->Nat,(∀ s,c s<q)/\(∀ s,D s=false->c s=0)/\packB q D c n=y
 | 0,y,h=>by
  have h:y<q ^ 0:=h
  rw [Nat.pow_zero] at h
  exact ⟨fun _=>0,fun _=>hq,fun _ _=>rfl,by show 0=y; omega⟩
 | n + 1, y, h => by
  have h:y<q ^ (cntB D n+if D n then 1 else 0):=h
  by_cases hn:D n=true
  ·rw [if_pos hn,Nat.pow_succ] at h
   obtain ⟨c,h1,h2,h3⟩:=packB_surj hq (D:=D) n (y / q) (Nat.div_lt_of_lt_mul (by rw [Nat.mul_comm]; exact h))
   refine ⟨fun s=>if s=n then y % q else c s,fun s=>?_,fun s hs=>?_,?_⟩
   ·show (if s=n then y % q else c s)<q
    split
    ·exact Nat.mod_lt _ hq
    ·exact h1 s
   ·show (if s=n then y % q else c s)=0
    rw [if_neg (fun e=>by rw [e,hn] at hs; cases hs)]
    exact h2 s hs
   ·show (if D n then packB q D (fun s=>if s=n then y % q else c s) n*q+(if n=n then y % q else c n) else _)=y
    rw [if_pos hn,if_pos rfl,packB_congr (c':=c) n fun s hs _=>if_neg (by omega),h3]
    exact Nat.div_add_mod' y q
  ·rw [if_neg hn,Nat.add_zero] at h
   obtain ⟨c,h1,h2,h3⟩:=packB_surj hq (D:=D) n y h
   refine ⟨c,h1,h2,?_⟩
   show (if D n then packB q D c n*q+c n else packB q D c n)=y
   rw [if_neg hn]; exact h3
section
variable {q n N:Nat} {add mul:Nat->Nat->Nat}
theorem add_left (hL:FieldLaws q add mul) {x y z:Nat} (hx:x<q) (hy:y<q) (hz:z<q) (h:add x y=add x z):y=z:=by
 obtain ⟨w,hw,e⟩:=hL.neg x hx
 have h2:add w (add x y)=add w (add x z):=by rw [h]
 rw [<-hL.addAssoc w x y hw hx hy,<-hL.addAssoc w x z hw hx hz,hL.addComm w x,e,hL.zeroAdd y hy,hL.zeroAdd z hz] at h2
 exact h2
end
theorem same11eq_any (A B:Option Addr) (n c d:Nat) (f:Nat->Int) (w:World) (ha:IntsR w w.heap.size A n f) (hb:IntsR w w.heap.size B n f) (hn:n<=1048576) :
  Calls Tryz.prog 44 #[.slice A n c,.slice B n d] w fun e w'=>e=.returned (.bool true)/\Below w.heap.size w w':=by
 have H1:=hid ha
 have H2:=hid hb
 clear ha hb
 go_enter Tryz.func44, Tryz.ntmps44
 go_wp2_with fail
 refine (zeZ A B n c d f w H1.out H2.out hn).mono ?_
 rintro e w1 ⟨rfl,kb⟩
 have HB:=hid kb
 clear kb
 go_wp2
 go_ret
 exact ⟨rfl,HB.out⟩
theorem column_any (P M:Nat) (m:Nat->Nat) (A:Option Addr) (k c N:Nat) (T:Option Addr) (n d:Nat) (V:Nat->Nat->Nat) (i:Nat) (w:World) (h:CodeR w P M m A k N T n V) (hi:i<N) :
  Calls Tryz.prog 256 #[.agg #[.int .i64 (P:Nat),.int .i64 (M:Nat),.slice A k c,.int .i64 (N:Nat),.slice T n d],.int .i64 (i:Nat)] w (RowPost n (fun r=>.int .i64 (V r i:Nat)) w):=by
 have HC:=hid h
 have hN64:=h.ln2
 have hnN:=h.n_le
 clear h
 have rf:=zam (w:=w) (a:=.int .i64 (P:Nat)) (b:=.int .i64 (M:Nat)) (c:=.slice A k c) (d:=.int .i64 (N:Nat)) (e:=.slice T n d) (T := 27)
 have hB:Below w.heap.size w (w.alloc (.cells #[.int .i64 (P:Nat),.int .i64 (M:Nat),.slice A k c,.int .i64 (N:Nat),.slice T n d] 27)):=(Below.refl _ _).alloc (Nat.le_refl _) _
 obtain ⟨w1,hw1⟩:∃ W,W=w.alloc (.cells #[.int .i64 (P:Nat),.int .i64 (M:Nat),.slice A k c,.int .i64 (N:Nat),.slice T n d] 27):=⟨_,rfl⟩
 rw [<-hw1] at hB rf
 have hmk:=fun W=>zaf (P:=Tryz.prog) 22 3 _ 8 Tryz.underlying22 Tryz.infoInt rfl (n:Int) (by omega) (by omega) (by omega) W
 simp only [Int.toNat_natCast] at hmk
 go_enter Tryz.func256, Tryz.ntmps256
 go_upto_region 1 with fail
 rw [<-hw1]
 clear hw1
 obtain ⟨b0,hb0⟩:∃ b,b=w.heap.size:=⟨_,rfl⟩
 rw [<-hb0] at rf
 rw [<-hb0]
 clear hb0
 have q4:w1.cell? ⟨b0,4,none⟩=some (.slice T n d):=rf.cell (i:=4) (by omega)
 go_upto_region 2 with fail
 have rz:World.rowIs (World.alloc w1 (Obj.cells (madeCells #[Value.int .i64 0] n) 3)) w1.heap.size 3 n (fun _=>.int .i64 0):=World.rowIs_made _ (.int .i64 0) n 3
 have kb:Below w1.heap.size w1 (World.alloc w1 (Obj.cells (madeCells #[Value.int .i64 0] n) 3)):=(Below.refl _ _).alloc (Nat.le_refl _) _
 obtain ⟨w2,hw2⟩:∃ W,W=World.alloc w1 (Obj.cells (madeCells #[Value.int .i64 0] n) 3):=⟨_,rfl⟩
 rw [<-hw2] at rz kb ⊢
 obtain ⟨go,hgo⟩:∃ g,g=w1.heap.size:=⟨_,rfl⟩
 have hgoB:w.heap.size<=go:=by rw [hgo]; exact hB.size
 have HGO:=hid hgo
 rw [<-hgo] at rz ⊢
 have HB:=hid hB
 have K2:=hid kb
 replace q4:=cellS kb q4
 clear kb hw2 hgo hmk hB rf
 go_upto_region 3 with fail
 clear q4
 go_loopg [15] n (fun gg iv wx=>∃ r:Nat,iv=.int .i64 (r:Nat)/\r<=n/\n<=r+gg/\Hid (wx.rowIs go 3 n (fun t=>.int .i64 ((if t<r then V t i else 0:Nat):Int)))/\Below w1.heap.size w1 wx)
 case atStart=>exact ⟨0,rfl,by omega,by omega,rz.congr fun t _=>by rw [if_neg (by omega)]; rfl,K2.out⟩
 case round =>
  clear rz K2
  obtain ⟨r,rfl,hr,hrg,HROW,hBx⟩:=hrel
  have hr0:(0:Int)<=(r:Int):=by omega
  have K2:=hid hBx
  obtain ⟨w3,hw3⟩:∃ X,X=wr:=⟨_,rfl⟩
  subst hw3
  clear hBx
  by_cases hrn:r<n
  ·have hrn':(r:Int)<(n:Int):=by omega
   have hi0:(0:Int)<=(i:Int):=by omega
   have hiN:(i:Int)<(N:Int):=by omega
   obtain ⟨pb,po,RA,rc,hTe,_,x0,hc1,hc2,hrow,hrng⟩:=(HC.out.on (onS HB.out K2.out)).rows r hrn
   subst hTe
   obtain ⟨ab,ao,hAe,_,y0⟩:=(show IntsR w3 w3.heap.size RA N (fun j=>((V r j:Nat):Int)) from hrow).at hi
   subst hAe
   obtain ⟨v,hv⟩:∃ x,x=V r i:=⟨_,rfl⟩
   rw [<-hv] at y0
   have u0:=HROW.out.cell (i:=r) hrn
   have u1:=HROW.out.frozen r
   have hrow2:=HROW.out.set r (.int .i64 (v:Nat))
   have kb:=K2.out.setCell (p:=⟨go,r,none⟩) (by rw [HGO.out]; exact Nat.le_refl _) (.int .i64 (v:Nat))
   obtain ⟨w4,hw4⟩:∃ W,W=w3.setCell ⟨go,r,none⟩ (.int .i64 (v:Nat)):=⟨_,rfl⟩
   rw [<-hw4] at hrow2 kb
   have HROW2:Hid (w4.rowIs go 3 n (fun t=>.int .i64 ((if t<r+1 then V t i else 0:Nat):Int))):=hid (hrow2.congr fun t _=>by
    by_cases et:t=r
    ·rw [if_pos et,if_pos (by omega),hv,et]
    ·have h1:(t<r)↔(t<r+1):=by omega
     rw [if_neg et]
     simp only [h1])
   have K4:=hid kb
   have HW4:=hid hw4
   clear hrow2 kb hw4 hv hrow hrng hc1 hc2
   go_wp2
   rw [<-HW4.out]
   go_roundg (gk - 1)
   case measure=>omega
   case rel=>exact ⟨r+1,by go_num,by omega,by omega,HROW2,K4.out⟩
  ·have hrn':¬ (r:Int)<(n:Int):=by omega
   obtain rfl:r=n:=by omega
   have HF:Hid (w3.rowIs go 3 r (fun t=>.int .i64 (V t i:Nat))):=hid (HROW.out.congr fun t ht=>by rw [if_pos ht])
   go_wp2
   go_ret
   exact ⟨go,rfl,hgoB,HF.out,onS HB.out K2.out⟩
theorem nzAdd_any (x:Int) (w:World):Calls Tryz.prog 268 #[.int .i64 x] w fun e w'=>e=.returned (.bool (x != 0))/\w=w':=by
 go_enter Tryz.func268, Tryz.ntmps268
 go_wp2
 go_ret
 exact ⟨rfl,rfl⟩
theorem idxP_low {p:Int->Bool} {f:Nat->Int}:∀ n i:Nat,idxP p f n=(i:Int)->∀ j,j<i->p (f j)=false
 | 0,i,h=>by
  have h:(-1:Int)=i:=h
  omega
 | n + 1, i, h => by
  have hd:idxP p f (n+1)=if 0<=idxP p f n then idxP p f n else if p (f n) then (n:Int) else -1:=rfl
  rw [hd] at h
  rcases zhU p f n with ⟨h1,h2⟩ | ⟨j,_,h1,_⟩
  ·rw [h1,if_neg (by omega)] at h
   intro l hl
   cases hp:p (f n)
   ·rw [hp,if_neg (by simp)] at h; omega
   ·rw [hp,if_pos rfl] at h
    exact h2 l (by omega)
  ·rw [h1,if_pos (by omega)] at h
   exact idxP_low n i (h1.trans h)
theorem own_of_rowI {w:World} {b n base:Nat} {t:TypeId} {F:Nat->Value} (h:w.rowIs b t n F) (hb:base<=b) (hn:n<=maxLen):Own w base t 1 (.slice (some ⟨b,0,none⟩) n n) n (fun i _=>F i):=by
 obtain ⟨cs,h1,h2,h3⟩:=h
 refine .inr ⟨b,0,n,cs,rfl,hb,h1,Nat.le_refl _,hn,by omega,fun i hi j hj=>?_⟩
 obtain rfl:j=0:=by omega
 rw [Nat.zero_add,Nat.mul_one,Nat.add_zero]
 exact h3 i hi
def MTabQ (w:World) (base:Nat) (v:Value) (n k:Nat) (W:Nat->Nat->Nat) (Q:Nat->Prop):Prop :=
 ∃ R:Nat->Value,Own w base 22 1 v n (fun i _=>R i)/\∀ i,i<n->Own w base 3 1 (R i) k (fun j _=>.int .i64 (W i j:Nat))/\∀ b,(R i).ownBlock=some b->Q b
section
variable {w w':World} {base n k:Nat} {v z:Value} {W:Nat->Nat->Nat} {Q Q':Nat->Prop}
theorem MTabQ.tab (h:MTabQ w base v n k W Q):MTab w base v n k W:=by
 obtain ⟨R,h1,h2⟩:=h
 exact ⟨R,h1,fun i hi=>(h2 i hi).1⟩
theorem MTabQ.on (h:MTabQ w base v n k W Q) (hb:Below w.heap.size w w'):MTabQ w' base v n k W Q:=by
 obtain ⟨R,h1,h2⟩:=h
 exact ⟨R,h1.on hb,fun i hi=>⟨(h2 i hi).1.on hb,(h2 i hi).2⟩⟩
theorem MTabQ.congr {W':Nat->Nat->Nat} (h:MTabQ w base v n k W Q) (e:∀ i,i<n->∀ j,j<k->W i j=W' i j):MTabQ w base v n k W' Q:=by
 obtain ⟨R,h1,h2⟩:=h
 exact ⟨R,h1,fun i hi=>⟨(h2 i hi).1.congr fun j hj _ _=>by rw [e i hi j hj],(h2 i hi).2⟩⟩
theorem MTabQ.far {q i:Nat} {x:Value} (h:MTabQ w base v n k W Q) (hq:q<base):MTabQ (w.setCell ⟨q,i,none⟩ x) base v n k W Q:=by
 obtain ⟨R,h1,h2⟩:=h
 exact ⟨R,h1.setCell (fun e=>absurd (h1.lt _ e).1 (Nat.not_le_of_lt hq)) x,fun j hj=>⟨(h2 j hj).1.setCell (fun e=>absurd ((h2 j hj).1.lt _ e).1 (Nat.not_le_of_lt hq)) x,(h2 j hj).2⟩⟩
theorem MTabQ.shape (h:MTabQ w base v n k W Q):∃ A c,v=.slice A n c:=h.choose_spec.1.shape
theorem MTabQ.grown {m:Nat} {f:Nat->Nat->Value} (h:MTabQ w base v n k W Q) (hz:Own w base 3 1 z m f) (hg:w.grownBy w' z.ownBlock) (hq:∀ b,b<w.heap.size->Q b->some b≠z.ownBlock/\Q' b):MTabQ w' base v n k W Q':=by
 obtain ⟨R,h1,h2⟩:=h
 have hne:v.ownBlock=none∨v.ownBlock≠z.ownBlock:=zc2 hz h1 (by decide)
 refine ⟨R,h1.kept hg hne,fun i hi=>⟨(h2 i hi).1.kept hg ?_,fun b e=>(hq b ((h2 i hi).1.lt b e).2 ((h2 i hi).2 b e)).2⟩⟩
 cases e:(R i).ownBlock with
 | none=>exact .inl rfl
 | some b=>exact .inr (hq b ((h2 i hi).1.lt b e).2 ((h2 i hi).2 b e)).1
theorem step_append_mrowQ {ops:Array Oper} {o:Oper} {a:Act} {K:Act->World->Prop} {Qx:Exit->Act->World->Prop} {E:Prop} (hgd:o.guard=none) (sl x:Operand)
  (ho:o.op=.call { callee:=.builtin .append,args:=#[sl,x],argTypes:=#[25, 25] })
  (h:MTabQ w base v n k W Q) (hv:a.eval sl=v) {ad:Addr} {c:Nat} {r:Value} {y:Nat->Nat} (hx:a.eval x=.slice (some ad) 1 c)
  (hcell:w.cell? (ad.add 0)=some r) (h1:r.oneCell'=true) (hrow:Own w base 3 1 r k (fun j _=>.int .i64 (y j:Nat))) (hrz:∀ b,r.ownBlock=some b->Q b) (hbase:base<=w.heap.size) (hN:n<=1048576)
  (K':∀ v' w',MTabQ w' base v' (n+1) k (fun u=>if u=n then y else W u) Q->(∀ u mu fu,Own w base 3 1 u mu fu->Own w' base 3 1 u mu fu)->w.grownBy w' v.ownBlock->(∀ q,v.ownBlock=some q->base<=q)->K (a.put o.dst v') w') :
  if Region.wanted o (yielded ops a.tmps)=true then Oper.wp Tryz.prog o a w K Qx else E:=by
 obtain ⟨R,hA,hB⟩:=h
 obtain ⟨i0,qi0,qz0,qz1,qz2⟩:=info_parts Tryz.infoInts
 have hown:Own w base 22 1 v n (fun i _=>if i=n then r else R i):=hA.congr fun i hi _ _=>by rw [if_neg (by omega)]
 refine zc0 w hgd sl x _ ho base 22 i0 _ 1 24 Tryz.underlying25 qi0 qz0 qz1 qz2 rfl (by omega) v n _ hv hown ad c hx (fun j hj=>by
   obtain rfl:j=0:=by omega
   rw [if_pos rfl]
   exact hcell) (fun _ _=>by rw [if_pos rfl]; exact h1) (by unfold maxLen; omega) (by omega) hbase ?_
 intro v' w3 hown3 hg3 _
 have ne:(22 : Nat) ≠ 3 := by decide
 refine K' v' w3 ⟨fun i=>if i=n then r else R i,hown3,fun i hi=>?_⟩ (fun u mu fu hu=>hu.kept hg3 (zc2 hA hu ne)) hg3 (fun q e=>(hA.lt q e).1)
 show Own w3 base _ 1 (if i=n then r else R i) k _/\∀ b,(if i=n then r else R i).ownBlock=some b->Q b
 by_cases e:i=n
 ·rw [if_pos e]
  simp only [if_pos e]
  exact ⟨hrow.kept hg3 (zc2 hA hrow ne),hrz⟩
 ·rw [if_neg e]
  simp only [if_neg e]
  exact ⟨(hB i (by omega)).1.kept hg3 (zc2 hA (hB i (by omega)).1 ne),(hB i (by omega)).2⟩
end
def Bas (w:World) (bb gf k m:Nat) (B:Nat->Nat->Nat) (p:Nat->Nat) (z:Value) (mz:Nat) (fz:Nat->Nat->Value):Prop :=
 ∃ rv pvv,w.rowIs bb 260 3 (fldCell (.pointer (some ⟨gf,0,none⟩)) rv pvv)/\MTabQ w (bb+1) rv m k B (fun b=>some b≠pvv.ownBlock/\some b≠z.ownBlock)/\Own w (bb+1) 3 1 pvv m (fun j _=>.int .i64 (p j:Nat))/\Own w (bb+1) 3 1 z mz fz/\∀ b,z.ownBlock=some b->some b≠pvv.ownBlock
theorem Bas.on {w w':World} {bb gf k m:Nat} {B:Nat->Nat->Nat} {p:Nat->Nat} {z:Value} {mz:Nat} {fz:Nat->Nat->Value} (h:Bas w bb gf k m B p z mz fz) (hb:Below w.heap.size w w'):Bas w' bb gf k m B p z mz fz:=by
 obtain ⟨rv,pvv,h1,h2,h3,h4,h5⟩:=h
 exact ⟨rv,pvv,zaa h1 hb,h2.on hb,h3.on hb,h4.on hb,h5⟩
theorem Bas.push {w w':World} {bb gf k m:Nat} {B:Nat->Nat->Nat} {p:Nat->Nat} {z z':Value} {mz mz':Nat} {fz fz':Nat->Nat->Value} (h:Bas w bb gf k m B p z mz fz) (hg:w.grownBy w' z.ownBlock) (ha:z'.ownBlock=z.ownBlock∨z'.ownBlock=some w.heap.size) (ho:Own w' (bb+1) 3 1 z' mz' fz'):Bas w' bb gf k m B p z' mz' fz':=by
 obtain ⟨rv,pvv,h1,h2,h3,h4,h5⟩:=h
 refine ⟨rv,pvv,h1.of_block (hg.block _ h1.lt fun e=>absurd (h4.lt _ e.symm).1 (Nat.not_le_of_lt (Nat.lt_succ_self bb))),h2.grown h4 hg fun b hb hq=>⟨hq.2,hq.1,fun e=>?_⟩,h3.kept hg ?_,ho,fun b e e2=>?_⟩
 ·rcases ha with ha | ha
  ·exact hq.2 (e.trans ha)
  ·rw [ha] at e; injection e with e; omega
 ·cases e:pvv.ownBlock with
  | none=>exact .inl rfl
  | some b=>exact .inr fun e2=>h5 b e2.symm e.symm
 ·rcases ha with ha | ha
  ·exact h5 b (ha.symm.trans e) e2
  ·rw [ha] at e; injection e with e
   have:=(h3.lt b e2.symm).2
   omega
def AddPost (q k m bb gf:Nat) (add mul:Nat->Nat->Nat) (neg:Nat->Nat) (B:Nat->Nat->Nat) (p v:Nat->Nat) (z:Value) (mz:Nat) (fz:Nat->Nat->Value) (w0:World) (e:Ending) (w':World):Prop :=
  Below w0.heap.size w0 w'/\bb<w'.heap.size /\
  ((e=.returned (.bool false)/\(∀ j,j<k->redN add mul neg B p v m j=0)/\Bas w' bb gf k m B p z mz fz) ∨
   (e=.returned (.bool true)/\∃ f i,f<k/\(∀ j,j<f->redN add mul neg B p v m j=0)/\i<q/\mul i (redN add mul neg B p v m f)=1 /\
     Bas w' bb gf k (m+1) (fun t=>if t=m then fun j=>mul i (redN add mul neg B p v m j) else B t) (fun t=>if t=m then f else p t) z mz fz))
theorem add_any (P M gf bb vb k m:Nat) (m':Nat->Nat) (B:Nat->Nat->Nat) (p v:Nat->Nat) (z:Value) (mz:Nat) (fz:Nat->Nat->Value) (w0 wv w:World) (hG:GF w0 w0.heap.size gf P M m') (hbb:w0.heap.size<=bb) (K0:Below w0.heap.size w0 wv) (hbas:Bas wv bb gf k m B p z mz fz) (hvb:wv.heap.size<=vb) (K1:Below wv.heap.size wv w)
  (hv:w.rowIs vb 3 k (fun j=>.int .i64 (v j:Nat))) (htri:Tri (P ^ M) k m B p) (hvq:∀ j,j<k->v j<P ^ M) (hk:k<=64) :
  Calls Tryz.prog 255 #[.pointer (some ⟨bb,0,none⟩),.slice (some ⟨vb,0,none⟩) k k] w (AddPost (P ^ M) k m bb gf (addF P M) (mulF P M m') (negF P M) B p v z mz fz w0):=by
 have hmk:=htri.le
 have hL:=fieldLaws hG.ok
 have hneg:∀ x,x<P ^ M->negF P M x<P ^ M/\addF P M x (negF P M x)=0:=fun x _=>⟨za7 (by have:=hG.ok.1.1; omega),zaR (by have:=hG.ok.1.1; omega)⟩
 have HL:=hid hL
 have HNG:=hid hneg
 have HG:=hid hG
 have HTR:=hid htri
 obtain ⟨rv,pvv,hrow,hMX,hO,hZ,hZA⟩:=hbas
 have hM:=hMX.tab
 obtain ⟨rA,rc,rfl⟩:=hM.shape
 obtain ⟨pA,pc,rfl⟩:=hO.shape
 have hbw:bb<wv.heap.size:=hrow.lt
 obtain ⟨R,hR1,hR2⟩:=id hM
 have HB0:Hid (∀ X,Below wv.heap.size wv X->X.cell? ⟨bb,0,none⟩=some (.pointer (some ⟨gf,0,none⟩))/\X.cell? ⟨bb,1,none⟩=some (.slice rA m rc)/\X.cell? ⟨bb,2,none⟩=some (.slice pA m pc)):=hid fun X hx=>⟨(zaa hrow hx).cell (i:=0) (by omega),(zaa hrow hx).cell (i:=1) (by omega),(zaa hrow hx).cell (i:=2) (by omega)⟩
 have HROW:=hid hrow
 have HM:=hid hMX
 have HO:=hid hO
 have HZ:=hid hZ
 have HZA:=hid hZA
 have HR1:=hid hR1
 have HR2:=hid hR2
 have HRL:Hid (∀ t j,j<k->redN (addF P M) (mulF P M m') (negF P M) B p v t j<P ^ M):=hid fun t j hj=>redN_lt hL hvq t j hj
 have HK0:=hid K0
 have K2:=hid K1
 have HV0:Hid (w.rowIs vb 3 k (fun j=>.int .i64 (redN (addF P M) (mulF P M m') (negF P M) B p v 0 j:Nat))):=hid hv
 have hvb0:bb≠vb:=by omega
 have HVB:=hid hvb
 have HVN:=hid hvb0
 obtain ⟨rd,hrdd⟩:∃ r,r=redN (addF P M) (mulF P M m') (negF P M) B p v:=⟨_,rfl⟩
 have HRS:Hid (∀ t j,rd (t+1) j=if rd t (p t)=0 then rd t j else addF P M (rd t j) (negF P M (mulF P M m' (rd t (p t)) (B t j)))):=hid fun t j=>by rw [hrdd]; rfl
 have HRD:=hid hrdd
 rw [<-hrdd] at HRL HV0
 clear hZ hZA hG K0 K1 hrow hM hMX hO hR1 hR2 hv htri hvq hL hneg hvb0 hrdd hvb
 go_enter Tryz.func255, Tryz.ntmps255
 obtain ⟨b0,b1,b2⟩:=HB0.out _ K2.out
 go_upto_region 2 with fail
 clear b0 b1 b2
 go_loopg [18] m (fun gg iv wx=>∃ t:Nat,iv=.int .i64 (t:Nat)/\t<=m/\m<=t+gg/\Hid (wx.rowIs vb 3 k (fun j=>.int .i64 (rd t j:Nat)))/\Below wv.heap.size wv wx)
 case atStart=>exact ⟨0,rfl,by omega,by omega,HV0,K2.out⟩
 case round =>
  clear HV0 K2
  obtain ⟨t,rfl,ht,htg,HV,hBx⟩:=hrel
  have ht0:(0:Int)<=(t:Int):=by omega
  have K2:=hid hBx
  obtain ⟨w3,hw3⟩:∃ X,X=wr:=⟨_,rfl⟩
  subst hw3
  clear hBx
  by_cases htm:t<m
  ·have htm':(t:Int)<(m:Int):=by omega
   obtain ⟨b0,b1,b2⟩:=HB0.out _ K2.out
   obtain ⟨rb,ro,hrA,_,hrc⟩:=(HR1.out.on K2.out).rd rfl t htm
   have c0:=hrc 0 (by omega)
   rw [Nat.mul_one,Nat.add_zero] at c0
   replace c0:w3.cell? ⟨rb,ro+t,none⟩=some (R t):=c0
   subst hrA
   obtain ⟨yA,yc,hRt⟩:=(HR2.out t htm).shape
   have hyo:=HR2.out t htm
   rw [hRt] at c0 hyo
   have HYR:Hid (IntsR wv wv.heap.size yA k (fun j=>((B t j:Nat):Int))):=hid (hyo.rd rfl)
   obtain ⟨pb,po,hpA,_,p0⟩:=(show IntsR wv wv.heap.size pA m (fun j=>((p j:Nat):Int)) from HO.out.rd rfl).at htm
   subst hpA
   replace p0:=cellS K2.out p0
   have hpk:=HTR.out.plt t htm
   obtain ⟨pt,hpt⟩:∃ x,x=p t:=⟨_,rfl⟩
   rw [<-hpt] at p0 hpk
   have hp0:(0:Int)<=(pt:Int):=by omega
   have hpk':(pt:Int)<(k:Int):=by omega
   have v0:=HV.out.cell (i:=pt) hpk
   obtain ⟨xv,hxv⟩:∃ x,x=rd t pt:=⟨_,rfl⟩
   rw [<-hxv] at v0
   have hst:∀ j,rd (t+1) j=if xv=0 then rd t j else addF P M (rd t j) (negF P M (mulF P M m' xv (B t j))):=fun j=>by rw [hxv,hpt]; exact HRS.out t j
   have hxq:xv<P ^ M:=by rw [hxv]; exact HRL.out t pt hpk
   have HST:=hid hst
   clear hst hxv hpt hrc hyo hRt
   go_upto_region 5 with fail
   clear b0 b1 b2 c0 p0 v0
   by_cases hx0:xv=0
   ·have hz:((xv:Int) != 0)=false:=by simp [hx0]
    have HV2:Hid (w3.rowIs vb 3 k (fun j=>.int .i64 (rd (t+1) j:Nat))):=hid (HV.out.congr fun j _=>by rw [HST.out j,if_pos hx0])
    clear hx0
    go_wp2
    go_roundg (gk - 1)
    case measure=>omega
    case rel=>exact ⟨t+1,by go_num,by omega,by omega,HV2,K2.out⟩
   ·have hz:((xv:Int) != 0)=true:=by simp [hx0]
    have HS2:Hid (∀ j,rd (t+1) j=addF P M (rd t j) (negF P M (mulF P M m' xv (B t j)))):=hid fun j=>by rw [HST.out j,if_neg hx0]
    clear hx0
    obtain ⟨gO,hgO⟩:∃ x,x=gk:=⟨_,rfl⟩
    subst hgO
    go_upto_region 7 with fail
    clear hz
    have HV1:Hid (w3.rowIs vb 3 k (fun j=>.int .i64 ((if j<0 then rd (t+1) j else rd t j:Nat):Int))):=hid (HV.out.congr fun j _=>by rw [if_neg (by omega)])
    go_loopg [37] k (fun gg iv wx=>∃ jj:Nat,iv=.int .i64 (jj:Nat)/\jj<=k/\k<=jj+gg/\Hid (wx.rowIs vb 3 k (fun j=>.int .i64 ((if j<jj then rd (t+1) j else rd t j:Nat):Int)))/\Below wv.heap.size wv wx)
    case atStart=>exact ⟨0,rfl,by omega,by omega,HV1,K2.out⟩
    case round =>
     clear HV1 HV K2
     obtain ⟨jj,rfl,hj,hjg,HV,hBx⟩:=hrel
     have hj0:(0:Int)<=(jj:Int):=by omega
     have K2:=hid hBx
     obtain ⟨w4,hw4⟩:∃ X,X=wr:=⟨_,rfl⟩
     subst hw4
     clear hBx
     by_cases hjk:jj<k
     ·have hjk':(jj:Int)<(k:Int):=by omega
      obtain ⟨yb,yo,hyA,_,y0⟩:=(HYR.out.on K2.out).at hjk
      subst hyA
      obtain ⟨yv,hyv⟩:∃ x,x=B t jj:=⟨_,rfl⟩
      obtain ⟨rvv,hrv⟩:∃ x,x=rd t jj:=⟨_,rfl⟩
      have hyq:yv<P ^ M:=by rw [hyv]; exact HTR.out.lt t htm jj hjk
      have hrq:rvv<P ^ M:=by rw [hrv]; exact HRL.out t jj hjk
      have hzz:=HS2.out jj
      rw [<-hyv] at y0 hzz
      rw [<-hrv] at hzz
      obtain ⟨mv,hmv⟩:∃ x,x=mulF P M m' xv yv:=⟨_,rfl⟩
      have hmq:mv<P ^ M:=by rw [hmv]; exact HL.out.mulLt _ _
      rw [<-hmv] at hzz
      obtain ⟨zv,hzv⟩:∃ x,x=addF P M rvv (negF P M mv):=⟨_,rfl⟩
      rw [<-hzv] at hzz
      have HIX:=hid (zaE hxq)
      have HIY:=hid (zaE hyq)
      have HIR:=hid (zaE hrq)
      have HIM:=hid (zaE hmq)
      have HMV:=hid hmv
      have HZV:=hid hzv
      have HZ1:=hid hzz
      have x0:=HV.out.cell (i:=jj) hjk
      rw [if_neg (Nat.lt_irrefl _),<-hrv] at x0
      have HX1:Hid (∀ X,Below w4.heap.size w4 X->X.cell? ⟨vb,jj,none⟩=some (.int .i64 (rvv:Nat))/\X.frozen? ⟨vb,jj,none⟩=false):=hid fun X hx=>⟨cellS hx x0,(zaa HV.out hx).frozen jj⟩
      have HS:Hid (∀ X,Below w4.heap.size w4 X->X.cell? ⟨bb,0,none⟩=some (.pointer (some ⟨gf,0,none⟩))):=hid fun X hx=>(HB0.out X (onS K2.out hx)).1
      clear hyv hrv hmv hzv hzz hyq hrq hmq x0
      go_upto_region 9 with fail
      clear y0
      refine wp_region_held_drew (S:=fun X=>X.cell? ⟨bb,0,none⟩=some (.pointer (some ⟨gf,0,none⟩))) (by kernel_rfl) (HS.out _ (Below.refl _ _).drew) (fun hHeld=>?_)
      obtain ⟨w5,hw⟩:∃ W,W=World.drew w4:=⟨_,rfl⟩
      have kb:Below w4.heap.size w4 w5:=by rw [hw]; exact (Below.refl _ _).drew
      rw [<-hw] at hHeld ⊢
      clear hw
      have K8:=hid kb
      clear kb
      have HGX:Hid (∀ X,Below w4.heap.size w4 X->GF X X.heap.size gf P M m'):=hid fun X hx=>by
       have h1:=onS HK0.out (onS K2.out hx)
       exact HG.out.at h1 h1.size
      refine tkq 0 (h:=tkq 1 (h:=tkq 2 (h:=tkq 3 (h:=tkq 4 (h:=tkq 5 (h:=tkq 6 (h:=tkq 7 (h:=tkq 8 (h:=tkq 10 (h:=tkq 11 (h:=tkq 12 (h:=tkq 13 (h:=tkq 14 (h:=tkq 15 (h:=?_)))))))))))))))
      clear hHeld
      refine rdq2 9 16 (h:=fun K hK=>?_) (h2:=fun K hK=>?_)
      focus
       obtain ⟨u0,_⟩:=HX1.out _ K8.out
       go_simp
       clear u0
       refine bkq hK (HS.out _ K8.out) (h:=fun hHeld=>?_)
       clear hK K hHeld
       refine rdq 16 (h:=fun K hK=>?_)
       go_simp
       go_wp2_with fail
       refine (zbG (xv:Int) (yv:Int) (HGX.out _ K8.out)).mono ?_
       rintro e w6 ⟨rfl,kb⟩
       rw [HIX.out,HIY.out,<-HMV.out]
       have K9:=hid (onS K8.out kb)
       clear kb
       refine bkq hK (HS.out _ K9.out) (h:=fun hHeld=>?_)
       clear hK K hHeld K8
      rotate_left
      focus
       go_simp
       go_wp2_with fail
       refine (zbG (xv:Int) (yv:Int) (HGX.out _ K8.out)).mono ?_
       rintro e w6 ⟨rfl,kb⟩
       rw [HIX.out,HIY.out,<-HMV.out]
       have K9:=hid (onS K8.out kb)
       clear kb
       refine bkq hK (HS.out _ K9.out) (h:=fun hHeld=>?_)
       clear hK K hHeld
       refine rdq 9 (h:=fun K hK=>?_)
       obtain ⟨u0,_⟩:=HX1.out _ K9.out
       go_simp
       clear u0
       refine bkq hK (HS.out _ K9.out) (h:=fun hHeld=>?_)
       clear hK K hHeld K8
      all_goals
       refine rdq 17 (h:=fun K hK=>?_)
       go_simp
       go_wp2_with fail
       refine (gfSub_any (rvv:Int) (mv:Int) (HGX.out _ K9.out)).mono ?_
       rintro e w7 ⟨rfl,kb⟩
       rw [HIR.out,HIM.out,<-HZV.out]
       have K10:=hid (onS K9.out kb)
       clear kb K9
       refine bkq hK (HS.out _ K10.out) (h:=fun hHeld=>?_)
       clear hK K
       refine tkq 18 (h:=?_)
       clear hHeld
       refine rdq 19 (h:=fun K hK=>?_)
       obtain ⟨u0,zf⟩:=HX1.out _ K10.out
       go_simp
       clear u0 zf
       have hrow2:=(zaa HV.out K10.out).set jj (.int .i64 (zv:Nat))
       have kb:=(onS K2.out K10.out).setCell (p:=⟨vb,jj,none⟩) HVB.out (.int .i64 (zv:Nat))
       have a0:=zab (p:=⟨vb,jj,none⟩) (u:=.int .i64 (zv:Nat)) (HS.out _ K10.out) HVN.out
       obtain ⟨w8,hw⟩:∃ W,W=w7.setCell ⟨vb,jj,none⟩ (.int .i64 (zv:Nat)):=⟨_,rfl⟩
       rw [<-hw] at hrow2 kb a0 ⊢
       have HV2:Hid (w8.rowIs vb 3 k (fun j=>.int .i64 ((if j<jj+1 then rd (t+1) j else rd t j:Nat):Int))):=hid (hrow2.congr fun j _=>by
        by_cases ej:j=jj
        ·rw [if_pos ej,ej,if_pos (Nat.lt_succ_self _),HZ1.out]
        ·have h1:(j<jj)↔(j<jj+1):=by omega
         rw [if_neg ej]
         simp only [h1])
       have K14:=hid kb
       clear hrow2 kb hw
       refine bkq hK a0 (h:=fun hHeld=>?_)
       clear hK K a0
       refine wpAnyH_done (by kernel_rfl) ?_ _
       clear hHeld
       go_wp2
       go_roundg (gk - 1)
       case measure=>omega
       case rel=>exact ⟨jj+1,by go_num,by omega,by omega,HV2,K14.out⟩
     ·have hjk':¬ (jj:Int)<(k:Int):=by omega
      obtain rfl:jj=k:=by omega
      have HV2:Hid (w4.rowIs vb 3 jj (fun j=>.int .i64 (rd (t+1) j:Nat))):=hid (HV.out.congr fun j hj=>by rw [if_pos hj])
      go_wp2
      go_roundg (gO - 1)
      case measure=>omega
      case rel=>exact ⟨t+1,by go_num,by omega,by omega,HV2,K2.out⟩
  ·have htm':¬ (t:Int)<(m:Int):=by omega
   obtain rfl:t=m:=by omega
   have HVI:Hid (IntsR w3 w3.heap.size (some ⟨vb,0,none⟩) k (fun j=>((rd t j:Nat):Int))):=hid (zbk HV.out)
   go_wp2_with fail
   refine (zdP 268 (fun x=>x != 0) (fun _ _=>by kernel_rfl) nzAdd_any (some ⟨vb,0,none⟩) k k (fun j=>((rd t j:Nat):Int)) w3 HVI.out (by omega)).mono ?_
   rintro e w4 ⟨rfl,rfl⟩
   obtain ⟨zi,hz⟩:∃ z,z=idxP (fun x=>x != 0) (fun j=>((rd t j:Nat):Int)) k:=⟨_,rfl⟩
   have hs:=zhU (fun x=>x != 0) (fun j=>((rd t j:Nat):Int)) k
   have hl:=idxP_low (p:=fun x=>x != 0) (f:=fun j=>((rd t j:Nat):Int)) k
   rw [<-hz] at hs hl ⊢
   clear hz
   rcases hs with ⟨hz1,hz2⟩ | ⟨f,hf,hz1,hz2⟩
   ·have hzn:zi<0:=by omega
    have HFALL:Hid (∀ j,j<k->rd t j=0):=hid fun j hj=>by
     have h1:=hz2 j hj
     have h2:((rd t j:Nat):Int)=0:=by simpa using h1
     omega
    clear hl hz2 hz1
    go_wp2
    go_ret
    refine ⟨onS HK0.out K2.out,Nat.lt_of_lt_of_le hbw K2.out.size,.inl ⟨rfl,?_,⟨_,_,zaa HROW.out K2.out,HM.out.on K2.out,HO.out.on K2.out,HZ.out.on K2.out,HZA.out⟩⟩⟩
    rw [<-HRD.out]
    exact HFALL.out
   ·subst hz1
    have hzn:¬ ((f:Nat):Int)<0:=by omega
    have hf0:(0:Int)<=((f:Nat):Int):=by omega
    have hfk:((f:Nat):Int)<(k:Int):=by omega
    have HLOW:Hid (∀ j,j<f->rd t j=0):=hid fun j hj=>by
     have h1:=hl f rfl j hj
     have h2:((rd t j:Nat):Int)=0:=by simpa using h1
     omega
    obtain ⟨xv,hxv⟩:∃ x,x=rd t f:=⟨_,rfl⟩
    have hx0:xv≠0:=by
     intro e
     rw [<-hxv,e] at hz2
     exact absurd hz2 (by decide)
    have hxq:xv<P ^ M:=by rw [hxv]; exact HRL.out t f hf
    have HIX:=hid (zaE hxq)
    have HX0:=hid hx0
    have v0:=HV.out.cell (i:=f) hf
    rw [<-hxv] at v0
    have HXV:=hid hxv
    have HXQ:=hid hxq
    have HS:Hid (∀ X,Below w3.heap.size w3 X->X.cell? ⟨bb,0,none⟩=some (.pointer (some ⟨gf,0,none⟩))/\X.cell? ⟨vb,f,none⟩=some (.int .i64 (xv:Nat))):=hid fun X hx=>⟨(HB0.out X (onS K2.out hx)).1,cellS hx v0⟩
    have HGX:Hid (∀ X,Below w3.heap.size w3 X->GF X X.heap.size gf P M m'):=hid fun X hx=>by
     have h1:=onS HK0.out (onS K2.out hx)
     exact HG.out.at h1 h1.size
    clear hl hz2 hxv hx0 hxq v0
    go_upto_region 15 with fail
    refine wp_region_held_drew (S:=fun X=>X.cell? ⟨bb,0,none⟩=some (.pointer (some ⟨gf,0,none⟩))/\X.cell? ⟨vb,f,none⟩=some (.int .i64 (xv:Nat))) (by kernel_rfl) (HS.out _ (Below.refl _ _).drew) (fun hHeld=>?_)
    obtain ⟨w5,hw⟩:∃ W,W=World.drew w3:=⟨_,rfl⟩
    have kb:Below w3.heap.size w3 w5:=by rw [hw]; exact (Below.refl _ _).drew
    rw [<-hw] at hHeld ⊢
    clear hw
    have K8:=hid kb
    clear kb
    refine tkq 0 (h:=tkq 1 (h:=tkq 2 (h:=tkq 3 (h:=tkq 4 (h:=tkq 5 (h:=tkq 6 (h:=tkq 7 (h:=?_))))))))
    clear hHeld
    refine rdq 8 (h:=fun K hK=>?_)
    go_simp
    go_wp2_with fail
    refine (zfl (xv:Int) (HGX.out _ K8.out)).mono ?_
    rintro e w6 ⟨kb,(⟨h0,_⟩ | ⟨h0,iv,rfl,hiq,hi0,h1⟩)⟩
    ·exact absurd (HIX.out.symm.trans h0) HX0.out
    rw [HIX.out] at h1
    have HMI:=hid h1
    have HIQ:=hid hiq
    have K9:=hid (onS K8.out kb)
    clear kb h0 h1 hi0 hiq
    refine bkq hK (HS.out _ K9.out) (h:=fun hHeld=>?_)
    clear hK K
    refine tkq 9 (h:=tkq 10 (h:=tkq 11 (h:=tkq 12 (h:=tkq 13 (h:=?_)))))
    refine wpAnyH_done (by kernel_rfl) ?_ _
    clear hHeld K8
    have HS1:Hid (∀ X,Below w6.heap.size w6 X->X.cell? ⟨bb,0,none⟩=some (.pointer (some ⟨gf,0,none⟩))/\X.cell? ⟨bb,1,none⟩=some (.slice rA t rc)):=hid fun X hx=>⟨(HB0.out X (onS K2.out (onS K9.out hx))).1,(HB0.out X (onS K2.out (onS K9.out hx))).2.1⟩
    have HVR:Hid (∀ X,Below w6.heap.size w6 X->IntsR X X.heap.size (some ⟨vb,0,none⟩) k (fun j=>((rd t j:Nat):Int))):=hid fun X hx=>zbk (zaa HV.out (onS K9.out hx))
    have HW6:Hid (Below wv.heap.size wv w6):=hid (onS K2.out K9.out)
    have HGY:Hid (∀ X,Below w6.heap.size w6 X->GF X X.heap.size gf P M m'):=hid fun X hx=>HGX.out X (onS K9.out hx)
    clear K2 K9
    go_upto_region 16 with fail
    refine wp_region_held_drew (S:=fun X=>X.cell? ⟨bb,0,none⟩=some (.pointer (some ⟨gf,0,none⟩))) (by kernel_rfl) (HS1.out _ (Below.refl _ _).drew).1 (fun hHeld=>?_)
    obtain ⟨w7,hw⟩:∃ W,W=World.drew w6:=⟨_,rfl⟩
    have kb:Below w6.heap.size w6 w7:=by rw [hw]; exact (Below.refl _ _).drew
    rw [<-hw] at hHeld ⊢
    clear hw
    have K8:=hid kb
    clear kb
    refine tkq 0 (h:=tkq 1 (h:=tkq 2 (h:=tkq 3 (h:=tkq 5 (h:=tkq 6 (h:=tkq 7 (h:=tkq 8 (h:=tkq 9 (h:=tkq 10 (h:=?_))))))))))
    clear hHeld
    refine rdq2 4 11 (h:=fun K hK=>?_) (h2:=fun K hK=>?_)
    focus
     obtain ⟨_,u0⟩:=HS1.out _ K8.out
     go_simp
     clear u0
     refine bkq hK (HS1.out _ K8.out).1 (h:=fun hHeld=>?_)
     clear hK K hHeld
     refine rdq 11 (h:=fun K hK=>?_)
     go_simp
     go_wp2_with fail
     refine (zfM iv k (some ⟨vb,0,none⟩) k (rd t) (HGY.out _ K8.out) HIQ.out (HVR.out _ K8.out) (fun j hj=>HRL.out t j hj) (by omega)).mono ?_
     rintro e w8 ⟨sb,rfl,hsb,hsr,kb⟩
     have HSBR:=hid hsr
     have HSBB:=hid (Nat.le_trans K8.out.size hsb)
     have K9:=hid (onS K8.out kb)
     clear kb hsb hsr
     refine bkq hK (HS1.out _ K9.out).1 (h:=fun hHeld=>?_)
     clear hK K hHeld K8
     refine rdq 12 (h:=fun K hK=>?_)
     go_simp
     obtain ⟨w9,hw⟩:∃ W,W=World.alloc w8 (Obj.cells #[.slice (some ⟨sb,0,none⟩) k k] 22):=⟨_,rfl⟩
     have kb:Below w8.heap.size w8 w9:=by rw [hw]; exact (Below.refl _ _).alloc (Nat.le_refl _) _
     have HC9:Hid (w9.cell? ((⟨w8.heap.size,0,none⟩:Addr).add 0)=some (.slice (some ⟨sb,0,none⟩) k k)):=by rw [hw]; exact tbox2
     rw [<-hw]
     clear hw
     have HSR9:=hid (zaa HSBR.out kb)
     have K10:=hid (onS K9.out kb)
     clear kb
     refine bkq hK (HS1.out _ K10.out).1 (h:=fun hHeld=>?_)
     clear hK K hHeld K9 HSBR
    rotate_left
    focus
     go_simp
     go_wp2_with fail
     refine (zfM iv k (some ⟨vb,0,none⟩) k (rd t) (HGY.out _ K8.out) HIQ.out (HVR.out _ K8.out) (fun j hj=>HRL.out t j hj) (by omega)).mono ?_
     rintro e w8 ⟨sb,rfl,hsb,hsr,kb⟩
     have HSBR:=hid hsr
     have HSBB:=hid (Nat.le_trans K8.out.size hsb)
     have K9:=hid (onS K8.out kb)
     clear kb hsb hsr
     refine bkq hK (HS1.out _ K9.out).1 (h:=fun hHeld=>?_)
     clear hK K hHeld
     refine rdq2 4 12 (h:=fun K hK=>?_) (h2:=fun K hK=>?_)
     focus
      obtain ⟨_,u0⟩:=HS1.out _ K9.out
      go_simp
      clear u0
      refine bkq hK (HS1.out _ K9.out).1 (h:=fun hHeld=>?_)
      clear hK K hHeld K8
      refine rdq 12 (h:=fun K hK=>?_)
      go_simp
      obtain ⟨w9,hw⟩:∃ W,W=World.alloc w8 (Obj.cells #[.slice (some ⟨sb,0,none⟩) k k] 22):=⟨_,rfl⟩
      have kb:Below w8.heap.size w8 w9:=by rw [hw]; exact (Below.refl _ _).alloc (Nat.le_refl _) _
      have HC9:Hid (w9.cell? ((⟨w8.heap.size,0,none⟩:Addr).add 0)=some (.slice (some ⟨sb,0,none⟩) k k)):=by rw [hw]; exact tbox2
      rw [<-hw]
      clear hw
      have HSR9:=hid (zaa HSBR.out kb)
      have K10:=hid (onS K9.out kb)
      clear kb
      refine bkq hK (HS1.out _ K10.out).1 (h:=fun hHeld=>?_)
      clear hK K hHeld K9 HSBR
     rotate_left
     focus
      go_simp
      obtain ⟨w9,hw⟩:∃ W,W=World.alloc w8 (Obj.cells #[.slice (some ⟨sb,0,none⟩) k k] 22):=⟨_,rfl⟩
      have kb:Below w8.heap.size w8 w9:=by rw [hw]; exact (Below.refl _ _).alloc (Nat.le_refl _) _
      have HC9:Hid (w9.cell? ((⟨w8.heap.size,0,none⟩:Addr).add 0)=some (.slice (some ⟨sb,0,none⟩) k k)):=by rw [hw]; exact tbox2
      rw [<-hw]
      clear hw
      have HSR9:=hid (zaa HSBR.out kb)
      have K10:=hid (onS K9.out kb)
      clear kb
      refine bkq hK (HS1.out _ K10.out).1 (h:=fun hHeld=>?_)
      clear hK K hHeld K9 HSBR
      refine rdq 4 (h:=fun K hK=>?_)
      obtain ⟨_,u0⟩:=HS1.out _ K10.out
      go_simp
      clear u0
      refine bkq hK (HS1.out _ K10.out).1 (h:=fun hHeld=>?_)
      clear hK K hHeld
    all_goals
     have HV10:=hid (onS HW6.out K10.out)
     have HM9:=hid (HM.out.on HV10.out)
     have HO9:=hid (HO.out.on HV10.out)
     have HRW9:=hid (zaa HROW.out HV10.out)
     have hbs:bb+1<=sb:=Nat.le_trans hbw (Nat.le_trans HW6.out.size HSBB.out)
     have HSO:=hid (own_of_rowI (base:=bb+1) HSR9.out hbs (Nat.le_trans hk (by decide)))
     have HZ9:=hid (HZ.out.on HV10.out)
     have HRZ:Hid (∀ b,(Value.slice (some ⟨sb,0,none⟩) k k).ownBlock=some b->some b≠(Value.slice pA t pc).ownBlock/\some b≠z.ownBlock):=hid fun b e=>by
      have e:some sb=some b:=e
      injection e with e
      subst e
      exact ⟨fun e=>absurd (HO.out.lt sb e.symm).2 (Nat.not_lt_of_le (Nat.le_trans HW6.out.size HSBB.out)),fun e=>absurd (HZ.out.lt sb e.symm).2 (Nat.not_lt_of_le (Nat.le_trans HW6.out.size HSBB.out))⟩
     have HBS:Hid (bb+1<=w9.heap.size):=hid HRW9.out.lt
     refine rdq 13 (h:=fun K hK=>?_)
     refine step_append_mrowQ rfl (.tmp 83) (.tmp 91) rfl HM9.out rfl (ad:=⟨w8.heap.size,0,none⟩) (c:=1) rfl HC9.out rfl HSO.out HRZ.out HBS.out (by omega) ?_
     intro v10 w10 o1 o0 o2 o3
     obtain ⟨ZA,zc,hv10⟩:=o1.shape
     subst hv10
     have HM10:=hid o1
     have HO10:=hid (o0 _ _ _ HO9.out)
     have HZ10:=hid (o0 _ _ _ HZ9.out)
     have K11:=hid ((onS HK0.out HV10.out).grown o2 (Nat.le_trans hbb (Nat.le_of_lt HBS.out)) (fun q e=>by have:=o3 q e; omega))
     have HRW10:=hid (HRW9.out.of_block (o2.block _ HRW9.out.lt fun e=>by have:=o3 _ e.symm; omega))
     have b10:=HRW10.out.cell (i:=0) (by omega)
     refine bkq hK b10 (h:=fun hHeld=>?_)
     clear hK K o1 o0 o2 o3 b10
     refine tkq 14 (h:=tkq 15 (h:=?_))
     clear hHeld
     refine rdq 16 (h:=fun K hK=>?_)
     have z1:=HRW10.out.cell (i:=1) (by omega)
     have z2:=HRW10.out.frozen 1
     go_simp
     clear z1 z2
     have hrw:=HRW10.out.set 1 (.slice ZA (t+1) zc)
     have HRW11:=hid hrw
     have HM11:=hid (HM10.out.far (i:=1) (x:=.slice ZA (t+1) zc) (Nat.lt_succ_self bb))
     have HO11:=hid (HO10.out.setCell (a:=⟨bb,1,none⟩) (fun e=>absurd (HO10.out.lt _ e).1 (Nat.not_le_of_lt (Nat.lt_succ_self bb))) (.slice ZA (t+1) zc))
     have HZ11:=hid (HZ10.out.setCell (a:=⟨bb,1,none⟩) (fun e=>absurd (HZ10.out.lt _ e).1 (Nat.not_le_of_lt (Nat.lt_succ_self bb))) (.slice ZA (t+1) zc))
     have K12:=hid (K11.out.setCell (p:=⟨bb,1,none⟩) hbb (.slice ZA (t+1) zc))
     clear hrw
     obtain ⟨w11,hw⟩:∃ W,W=w10.setCell ⟨bb,1,none⟩ (.slice ZA (t+1) zc):=⟨_,rfl⟩
     rw [<-hw] at HRW11 HM11 HO11 HZ11 K12 ⊢
     clear hw
     have b11:=HRW11.out.cell (i:=0) (by omega)
     refine bkq hK b11 (h:=fun hHeld=>?_)
     clear hK K b11
     refine wpAnyH_done (by kernel_rfl) ?_ _
     clear hHeld HRW10 HM10 HO10 HZ10 HZ9 K11 HRW9 HM9 HO9 HSO HRZ HBS HSR9 HC9 HV10 K10 HSBB HVR
     have q2:=HRW11.out.cell (i:=2) (by omega)
     go_upto_region 17 with fail
     have kb:=(Below.refl w11.heap.size w11).alloc (Nat.le_refl _) (Obj.cells #[Value.int .i64 ((f:Nat):Int)] 3)
     have HM12:=hid (HM11.out.on kb)
     have HO12:=hid (HO11.out.on kb)
     have HZ12':=hid (HZ11.out.on kb)
     have HRW12:=hid (zaa HRW11.out kb)
     have K13:=hid (onS K12.out kb)
     have HC12:Hid ((w11.alloc (Obj.cells #[Value.int .i64 ((f:Nat):Int)] 3)).cell? ((⟨w11.heap.size,0,none⟩:Addr).add 0)=some (.int .i64 ((f:Nat):Int))):=hid tbox2
     have HZ12:Hid (bb+1<=(w11.alloc (Obj.cells #[Value.int .i64 ((f:Nat):Int)] 3)).heap.size):=hid HRW12.out.lt
     have HTL:Hid (t<=1048576):=hid (by omega)
     clear kb
     go_wp2_with (first | (at_builtin; (refine zaA rfl (.tmp 99) (.tmp 101) rfl HO12.out rfl (ad:=⟨w11.heap.size,0,none⟩) (c:=1) rfl HC12.out HZ12.out HTL.out ?_); intro v9 w9 o1 o2 o3; obtain ⟨YA,yc,hv9⟩:=o1.shape; subst hv9; have HRW13:=hid (HRW12.out.of_block (o2.block _ HRW12.out.lt fun e=>absurd (HO12.out.lt _ e.symm).1 (Nat.not_le_of_lt (Nat.lt_succ_self bb)))); have z1:=HRW13.out.cell (i:=2) (by omega); have z2:=HRW13.out.frozen 2))
     have HA13:Hid (∀ b,b<(w11.alloc (Obj.cells #[Value.int .i64 ((f:Nat):Int)] 3)).heap.size->some b≠(Value.slice pA t pc).ownBlock->some b≠(Value.slice YA (t+1) yc).ownBlock):=hid fun b hb e e2=>by
      rcases o3 with o3 | o3
      ·exact e (e2.trans o3)
      ·rw [o3] at e2; injection e2 with e2; omega
     have HM13:=hid (HM12.out.grown (Q':=fun b=>some b≠(Value.slice YA (t+1) yc).ownBlock/\some b≠z.ownBlock) HO12.out o2 fun b hb hq=>⟨hq.1,HA13.out b hb hq.1,hq.2⟩)
     have HZ13:=hid (HZ12'.out.kept o2 (by
      cases e:z.ownBlock with
      | none=>exact .inl rfl
      | some b=>exact .inr (HZA.out b e)))
     have HZB:Hid (∀ b,z.ownBlock=some b->some b≠(Value.slice YA (t+1) yc).ownBlock):=hid fun b e=>HA13.out b (HZ12'.out.lt b e).2 (HZA.out b e)
     have HO13:=hid o1
     have K14:=hid (K13.out.grown o2 (Nat.le_trans hbb (Nat.le_of_lt HZ12.out)) fun q e=>Nat.le_trans (Nat.le_trans hbb (Nat.le_succ _)) (HO12.out.lt q e).1)
     have hrw:=HRW13.out.set 2 (.slice YA (t+1) yc)
     have HRW14:=hid hrw
     have HM14:=hid (HM13.out.far (i:=2) (x:=.slice YA (t+1) yc) (Nat.lt_succ_self bb))
     have HO14:=hid (HO13.out.setCell (a:=⟨bb,2,none⟩) (fun e=>absurd (HO13.out.lt _ e).1 (Nat.not_le_of_lt (Nat.lt_succ_self bb))) (.slice YA (t+1) yc))
     have HZ14:=hid (HZ13.out.setCell (a:=⟨bb,2,none⟩) (fun e=>absurd (HZ13.out.lt _ e).1 (Nat.not_le_of_lt (Nat.lt_succ_self bb))) (.slice YA (t+1) yc))
     have K15:=hid (K14.out.setCell (p:=⟨bb,2,none⟩) hbb (.slice YA (t+1) yc))
     clear hrw o1 o2 o3 z1 z2 K14 HM13 HO13 HZ13 HZ12' HRW13 K13 HM12 HO12 HRW12
     go_ret
     refine ⟨K15.out,HRW14.out.lt,.inr ⟨rfl,f,iv,hf,?_,HIQ.out,?_,⟨_,_,HRW14.out.congr ?_,HM14.out.congr ?_,HO14.out.congr ?_,HZ14.out,HZB.out⟩⟩⟩
     ·rw [<-HRD.out]; exact HLOW.out
     ·rw [<-HRD.out,<-HXV.out]; exact (HL.out.mulComm _ _ HIQ.out HXQ.out).trans HMI.out
     ·intro i hi
      match i,hi with
      | 0,_=>rfl
      | 1,_=>rfl
      | 2,_=>rfl
     ·intro u hu j hj
      rw [<-HRD.out]
     ·intro i hi j hj
      rfl
theorem Bas.side {w:World} {bb gf k m:Nat} {B:Nat->Nat->Nat} {p:Nat->Nat} {z:Value} {mz:Nat} {fz:Nat->Nat->Value} (h:Bas w bb gf k m B p z mz fz):Own w (bb+1) 3 1 z mz fz:=by
 obtain ⟨_,_,_,_,_,h4,_⟩:=h
 exact h4
theorem Bas.lt {w:World} {bb gf k m:Nat} {B:Nat->Nat->Nat} {p:Nat->Nat} {z:Value} {mz:Nat} {fz:Nat->Nat->Value} (h:Bas w bb gf k m B p z mz fz):bb<w.heap.size:=by
 obtain ⟨_,_,h1,_⟩:=h
 exact h1.lt
def OrthU (add mul:Nat->Nat->Nat) (V:Nat->Nat->Nat) (fc:Nat->Nat) (n r:Nat) (c:Nat->Nat):Prop:=∀ t,t<r->dotN add mul c (fun j=>V j (fc t)) n=0
def GreedyPost (q n a:Nat) (add mul:Nat->Nat->Nat) (V:Nat->Nat->Nat) (fc:Nat->Nat) (w:World) (e:Ending) (w':World):Prop :=
 ∃ mm B p A c,e=.returned (.slice A mm c)/\Tri q n mm B p/\(∀ c,(∀ j,j<n->c j<q)->(OrthU add mul V fc n a c↔KerB add mul n mm B c))/\Below w.heap.size w w'
theorem infGreedy_any (P M:Nat) (m:Nat->Nat) (A:Option Addr) (k c N:Nat) (T:Option Addr) (n d:Nat) (V:Nat->Nat->Nat) (gf:Nat) (F:Option Addr) (a fd:Nat) (fc:Nat->Nat) (w:World) (h:CodeR w P M m A k N T n V) (hG:GF w w.heap.size gf P M m)
  (hF:IntsR w w.heap.size F a (fun i=>(fc i:Nat))) (hfN:∀ i,i<a->fc i<N) (ha:a<=1048576) :
  Calls Tryz.prog 238 #[.pointer (some ⟨gf,0,none⟩),.agg #[.int .i64 (P:Nat),.int .i64 (M:Nat),.slice A k c,.int .i64 (N:Nat),.slice T n d],.slice F a fd] w (GreedyPost (P ^ M) n a (addF P M) (mulF P M m) V fc w):=by
 have hL:=fieldLaws hG.ok
 have hneg:∀ x,x<P ^ M->negF P M x<P ^ M/\addF P M x (negF P M x)=0:=fun x _=>⟨za7 (by have:=hG.ok.1.1; omega),zaR (by have:=hG.ok.1.1; omega)⟩
 have HL:=hid hL
 have HNG:=hid hneg
 have HC:=hid h
 have HG:=hid hG
 have HF:=hid hF
 have HFN:=hid hfN
 have hn64:n<=64:=Nat.le_trans h.n_le h.ln2
 have HVL:Hid (∀ i,i<N->∀ j,j<n->V j i<P ^ M):=hid fun i hi j hj=>h.lt j hj i hi
 clear hL hneg h hG hF hfN
 have rf:=zam (w:=w) (a:=.int .i64 (P:Nat)) (b:=.int .i64 (M:Nat)) (c:=.slice A k c) (d:=.int .i64 (N:Nat)) (e:=.slice T n d) (T := 27)
 have hB:Below w.heap.size w (w.alloc (.cells #[.int .i64 (P:Nat),.int .i64 (M:Nat),.slice A k c,.int .i64 (N:Nat),.slice T n d] 27)):=(Below.refl _ _).alloc (Nat.le_refl _) _
 obtain ⟨w1,hw1⟩:∃ W,W=w.alloc (.cells #[.int .i64 (P:Nat),.int .i64 (M:Nat),.slice A k c,.int .i64 (N:Nat),.slice T n d] 27):=⟨_,rfl⟩
 rw [<-hw1] at hB rf
 have rb:=zad (w:=w1) (a:=.pointer (some ⟨gf,0,none⟩)) (b:=.slice none 0 0) (c:=.slice none 0 0) (T := 260)
 go_enter Tryz.func238, Tryz.ntmps238
 go_upto_region 1 with fail
 rw [<-hw1]
 clear hw1
 obtain ⟨b0,hb0⟩:∃ b,b=w.heap.size:=⟨_,rfl⟩
 rw [<-hb0] at rf
 rw [<-hb0]
 clear hb0
 go_upto_region 3 with fail
 have kb:Below w1.heap.size w1 (w1.alloc (.cells #[.pointer (some ⟨gf,0,none⟩),.slice none 0 0,.slice none 0 0] 260)):=(Below.refl _ _).alloc (Nat.le_refl _) _
 obtain ⟨w2,hw2⟩:∃ W,W=w1.alloc (.cells #[.pointer (some ⟨gf,0,none⟩),.slice none 0 0,.slice none 0 0] 260):=⟨_,rfl⟩
 rw [<-hw2] at rb kb ⊢
 obtain ⟨bb,hbb⟩:∃ g,g=w1.heap.size:=⟨_,rfl⟩
 have hbb1:w1.heap.size<=bb:=by rw [hbb]; exact Nat.le_refl _
 rw [<-hbb] at rb ⊢
 have HBAS:Hid (Bas w2 bb gf n 0 (fun _ _=>0) (fun _=>0) (.slice none 0 0) 0 (fun j _=>.int .i64 ((0:Nat):Int))):=hid ⟨_,_,rb,⟨fun _=>undef,Own.nil _ _ _ _ _,fun i hi=>absurd hi (by omega)⟩,Own.nil _ _ _ _ _,Own.nil _ _ _ _ _,fun b e=>by cases e⟩
 have HTRI:Hid (Tri (P ^ M) n 0 (fun _ _=>0) (fun _=>0)):=hid Tri.start
 have HKER:Hid (∀ c,(∀ j,j<n->c j<P ^ M)->(OrthU (addF P M) (mulF P M m) V fc n 0 c↔KerB (addF P M) (mulF P M m) n 0 (fun _ _=>0) c)):=hid fun c _=>⟨fun _ t ht=>absurd ht (by omega),fun _ t ht=>absurd ht (by omega)⟩
 have HB:=hid hB
 have RF:=hid rf
 have K2:=hid kb
 clear kb hB rf rb hw2 hbb
 go_upto_region 4 with fail
 go_loopg [8,16] a (fun gg v8 iv wx=>∃ (r mm:Nat) (B:Nat->Nat->Nat) (p:Nat->Nat) (fz:Nat->Nat),iv=.int .i64 (r:Nat)/\r<=a/\a<=r+gg/\Hid (Bas wx bb gf n mm B p v8 mm (fun j _=>.int .i64 (fz j:Nat)))/\Hid (Tri (P ^ M) n mm B p)/\Hid (∀ c,(∀ j,j<n->c j<P ^ M)->(OrthU (addF P M) (mulF P M m) V fc n r c↔KerB (addF P M) (mulF P M m) n mm B c))/\Below w1.heap.size w1 wx)
 case atStart=>exact ⟨0,0,_,_,fun _=>0,rfl,by omega,by omega,HBAS,HTRI,HKER,K2.out⟩
 case round =>
  clear HBAS HTRI HKER K2
  obtain ⟨r,mm,B,p,fz,rfl,hr,hrg,HBAS,HTRI,HKER,hBx⟩:=hrel
  have hr0:(0:Int)<=(r:Int):=by omega
  have K2:=hid hBx
  obtain ⟨w3,hw3⟩:∃ X,X=wr:=⟨_,rfl⟩
  subst hw3
  clear hBx
  obtain ⟨ZA,zc,hv8⟩:=HBAS.out.side.shape
  subst hv8
  by_cases hra:r<a
  ·have hra':(r:Int)<(a:Int):=by omega
   obtain ⟨fb,fo,hFe,_,f0⟩:=(HF.out.on (onS HB.out K2.out)).at hra
   subst hFe
   obtain ⟨fv,hfv⟩:∃ x,x=fc r:=⟨_,rfl⟩
   have hfvN:fv<N:=by rw [hfv]; exact HFN.out r hra
   rw [<-hfv] at f0
   have HFV:=hid hfv
   have HFVN:=hid hfvN
   clear hfv hfvN
   have RF3:=zaa RF.out K2.out
   have q0:=RF3.cell (i:=0) (by omega)
   have q1:=RF3.cell (i:=1) (by omega)
   have q2:=RF3.cell (i:=2) (by omega)
   have q3:=RF3.cell (i:=3) (by omega)
   have q4:=RF3.cell (i:=4) (by omega)
   clear RF3
   go_wp2_with fail
   clear f0 q0 q1 q2 q3 q4
   refine (column_any P M m A k c N T n d V fv w3 (HC.out.on (onS HB.out K2.out)) HFVN.out).mono ?_
   rintro e w4 ⟨vb,rfl,hvb,hvr,kb⟩
   have HVB:=hid hvb
   have HVR:=hid hvr
   have K4:=hid kb
   clear kb hvb hvr
   go_wp2_with fail
   refine (add_any P M gf bb vb n mm m B p (fun j=>V j fv) (.slice ZA mm zc) mm (fun j _=>.int .i64 (fz j:Nat)) w1 w3 w4 (HG.out.on HB.out) hbb1 K2.out HBAS.out HVB.out K4.out HVR.out HTRI.out (HVL.out fv HFVN.out) hn64).mono ?_
   rintro e w5 ⟨kb,hbl,(⟨rfl,hz,hbas⟩ | ⟨rfl,f,i,hf,hlow,hi,h1,hbas⟩)⟩
   ·have HBAS5:=hid hbas
    have K5:=hid kb
    have HKER5:Hid (∀ c,(∀ j,j<n->c j<P ^ M)->(OrthU (addF P M) (mulF P M m) V fc n (r+1) c↔KerB (addF P M) (mulF P M m) n mm B c)):=hid fun c hc=>by
     have e1:=Tri.same HL.out HNG.out HTRI.out (HVL.out fv HFVN.out) hc hz
     have e2:=HKER.out c hc
     rw [HFV.out] at e1
     refine ⟨fun ho=>e2.1 fun t ht=>ho t (by omega),fun hk t ht=>?_⟩
     by_cases e:t=r
     ·subst e; exact (e1.2 hk).2
     ·exact e2.2 hk t (by omega)
    clear hz hbas kb
    go_wp2
    go_roundg (gk - 1)
    case measure=>omega
    case rel=>exact ⟨r+1,mm,B,p,fz,by go_num,by omega,by omega,HBAS5,HTRI,HKER5,K5.out⟩
   ·have HBAS5:=hid hbas
    have K5:=hid kb
    have hnx:=Tri.next HL.out HNG.out HTRI.out (HVL.out fv HFVN.out) hf hlow hi h1 (b:=fun j=>mulF P M m i (redN (addF P M) (mulF P M m) (negF P M) B p (fun j=>V j fv) mm j)) (fun j _=>rfl)
    obtain ⟨B2,hB2⟩:∃ X,X=(fun t=>if t=mm then fun j=>mulF P M m i (redN (addF P M) (mulF P M m) (negF P M) B p (fun j=>V j fv) mm j) else B t):=⟨_,rfl⟩
    obtain ⟨p2,hp2⟩:∃ X,X=(fun t=>if t=mm then f else p t):=⟨_,rfl⟩
    rw [<-hB2,<-hp2] at hnx HBAS5
    have HTRI5:=hid hnx.1
    have HKER5:Hid (∀ c,(∀ j,j<n->c j<P ^ M)->(OrthU (addF P M) (mulF P M m) V fc n (r+1) c↔KerB (addF P M) (mulF P M m) n (mm+1) B2 c)):=hid fun c hc=>by
     have e1:=hnx.2 c hc
     have e2:=HKER.out c hc
     rw [HFV.out] at e1
     refine ⟨fun ho=>e1.1 ⟨e2.1 fun t ht=>ho t (by omega),ho r (by omega)⟩,fun hk t ht=>?_⟩
     by_cases e:t=r
     ·subst e; exact (e1.2 hk).2
     ·exact e2.2 (e1.2 hk).1 t (by omega)
    have HTL:Hid (mm<=1048576):=hid (Nat.le_trans HTRI.out.le (Nat.le_trans hn64 (by decide)))
    clear hnx hB2 hp2 hbas kb hlow hi h1 hf
    go_upto_region 7 with fail
    have kb:=(Below.refl w5.heap.size w5).alloc (Nat.le_refl _) (Obj.cells #[Value.int .i64 (fv:Nat)] 3)
    have HB6:=hid (HBAS5.out.on kb)
    have K6:=hid (onS K5.out kb)
    have HO6:=hid HB6.out.side
    have HC6:Hid ((w5.alloc (Obj.cells #[Value.int .i64 (fv:Nat)] 3)).cell? ((⟨w5.heap.size,0,none⟩:Addr).add 0)=some (.int .i64 (fv:Nat))):=hid tbox2
    have HZ6:Hid (bb+1<=(w5.alloc (Obj.cells #[Value.int .i64 (fv:Nat)] 3)).heap.size):=hid HB6.out.lt
    clear kb
    go_wp2_with (first | (at_builtin; (refine zaA rfl (.tmp 25) (.tmp 27) rfl HO6.out rfl (ad:=⟨w5.heap.size,0,none⟩) (c:=1) rfl HC6.out HZ6.out HTL.out ?_); intro v9 w9 o1 o2 o3))
    have HB9:=hid (HB6.out.push o2 o3 o1)
    have K9:=hid (K6.out.grown o2 (Nat.le_trans hbb1 (Nat.le_of_lt HZ6.out)) fun q e=>Nat.le_trans (Nat.le_trans hbb1 (Nat.le_succ _)) (HO6.out.lt q e).1)
    clear o1 o2 o3 HO6 HB6
    go_wp2
    go_roundg (gk - 1)
    case measure=>omega
    case rel=>exact ⟨r+1,mm+1,B2,p2,fun j=>if j=mm then fv else fz j,by go_num,by omega,by omega,HB9,HTRI5,HKER5,K9.out⟩
  ·have hra':¬ (r:Int)<(a:Int):=by omega
   obtain rfl:r=a:=by omega
   go_wp2
   go_ret
   exact ⟨mm,B,p,ZA,zc,rfl,HTRI.out,HKER.out,onS HB.out K2.out⟩
def OpenPost (P M:Nat) (m:Nat->Nat) (w:World) (e:Ending) (w':World):Prop:=Below w.heap.size w w'/\∃ g,e=.returned (.tuple #[.pointer (some ⟨g,0,none⟩),.int .i64 0])/\GF w' w'.heap.size g P M m
theorem infOpen_any (P M:Nat) (m:Nat->Nat) (A:Option Addr) (k c N:Nat) (T:Option Addr) (n d:Nat) (V:Nat->Nat->Nat) (w:World) (h:CodeR w P M m A k N T n V) :
  Calls Tryz.prog 236 #[.agg #[.int .i64 (P:Nat),.int .i64 (M:Nat),.slice A k c,.int .i64 (N:Nat),.slice T n d]] w (OpenPost P M m w):=by
 have HC:=hid h
 clear h
 have rf:=zam (w:=w) (a:=.int .i64 (P:Nat)) (b:=.int .i64 (M:Nat)) (c:=.slice A k c) (d:=.int .i64 (N:Nat)) (e:=.slice T n d) (T := 27)
 have hB:Below w.heap.size w (w.alloc (.cells #[.int .i64 (P:Nat),.int .i64 (M:Nat),.slice A k c,.int .i64 (N:Nat),.slice T n d] 27)):=(Below.refl _ _).alloc (Nat.le_refl _) _
 obtain ⟨w1,hw1⟩:∃ W,W=w.alloc (.cells #[.int .i64 (P:Nat),.int .i64 (M:Nat),.slice A k c,.int .i64 (N:Nat),.slice T n d] 27):=⟨_,rfl⟩
 rw [<-hw1] at hB rf
 go_enter Tryz.func236, Tryz.ntmps236
 go_upto_region 1 with fail
 rw [<-hw1]
 clear hw1
 obtain ⟨b0,hb0⟩:∃ b,b=w.heap.size:=⟨_,rfl⟩
 rw [<-hb0] at rf
 rw [<-hb0]
 clear hb0
 have HBOX:Hid (∀ X,Below w1.heap.size w1 X->(X.cell? ⟨b0,0,none⟩=some (.int .i64 (P:Nat))/\X.cell? ⟨b0,1,none⟩=some (.int .i64 (M:Nat))/\X.cell? ⟨b0,2,none⟩=some (.slice A k c)/\X.cell? ⟨b0,3,none⟩=some (.int .i64 (N:Nat))/\X.cell? ⟨b0,4,none⟩=some (.slice T n d))):=hid fun X hx =>
  ⟨(zaa rf hx).cell (i:=0) (by omega),(zaa rf hx).cell (i:=1) (by omega),(zaa rf hx).cell (i:=2) (by omega),(zaa rf hx).cell (i:=3) (by omega),(zaa rf hx).cell (i:=4) (by omega)⟩
 have HB:=hid hB
 clear hB rf
 obtain ⟨q0,q1,q2,q3,q4⟩:=HBOX.out _ (Below.refl _ _)
 go_wp2_with fail
 refine (zgS (P:Int) (M:Int) A k c (fun i=>(m i:Int)) (N:Int) T n d (fun _=>N) (fun i j=>(V i j:Int)) w1 (HC.out.on HB.out).ints (HC.out.on HB.out).rows).mono ?_
 rintro e w2 ⟨u,rfl,hu,kb⟩
 obtain rfl:u=0:=FirstErr.unique hu HC.out.errs
 have KB:=hid kb
 clear kb hu q0 q1 q2 q3 q4
 obtain ⟨q0,q1,q2,q3,q4⟩:=HBOX.out _ KB.out
 go_wp2_with fail
 refine (zdJ (P:Int) (M:Int) A k c (fun i=>(m i:Int)) w2 (HC.out.on (onS HB.out KB.out)).ints).mono ?_
 rintro e w3 ⟨kb,hcase⟩
 rcases hcase with ⟨hbad,_⟩ | ⟨_,gf,P2,M2,hP2,hM2,rfl,_,hG⟩
 ·refine absurd ?_ hbad
  rcases HC.out.errs with ⟨_,h9⟩ | ⟨h1,_⟩
  ·cases h9
  ·exact h1
 obtain rfl:P=P2:=by omega
 obtain rfl:M=M2:=by omega
 have HG:=hid hG.gf
 have K3:=hid (onS HB.out (onS KB.out kb))
 clear kb q0 q1 q2 q3 q4 hP2 hM2 hG
 go_wp2
 go_ret2
 refine ⟨K3.out,gf,rfl,?_⟩
 have h9:=HG.out
 simp only [Int.toNat_natCast] at h9
 exact h9
theorem infSets_any (P M:Nat) (m:Nat->Nat) (A:Option Addr) (k c N:Nat) (T:Option Addr) (n d:Nat) (V:Nat->Nat->Nat) (tb:Nat) (F:Option Addr) (a fd:Nat) (fc:Nat->Nat) (w:World) (h:CodeR w P M m A k N T n V)
  (ht:w.cell? ((⟨tb,0,none⟩:Addr).add 0)=some (.slice F a fd)) (hF:IntsR w w.heap.size F a (fun i=>(fc i:Nat))) (hfN:∀ i,i<a->fc i<N) (hinc:∀ i,i+1<a->fc i<fc (i+1)) (ha:a<=1048576) :
  Calls Tryz.prog 237 #[.agg #[.int .i64 (P:Nat),.int .i64 (M:Nat),.slice A k c,.int .i64 (N:Nat),.slice T n d],.slice (some ⟨tb,0,none⟩) 1 1] w fun e w'=>e=.returned (.int .i64 0)/\Below w.heap.size w w':=by
 have hN64:=h.ln2
 have HF:=hid hF
 have HFN:=hid hfN
 have HIN:=hid hinc
 clear h hF hfN hinc
 have rf:=zam (w:=w) (a:=.int .i64 (P:Nat)) (b:=.int .i64 (M:Nat)) (c:=.slice A k c) (d:=.int .i64 (N:Nat)) (e:=.slice T n d) (T := 27)
 have hB:Below w.heap.size w (w.alloc (.cells #[.int .i64 (P:Nat),.int .i64 (M:Nat),.slice A k c,.int .i64 (N:Nat),.slice T n d] 27)):=(Below.refl _ _).alloc (Nat.le_refl _) _
 obtain ⟨w1,hw1⟩:∃ W,W=w.alloc (.cells #[.int .i64 (P:Nat),.int .i64 (M:Nat),.slice A k c,.int .i64 (N:Nat),.slice T n d] 27):=⟨_,rfl⟩
 rw [<-hw1] at hB rf
 go_enter Tryz.func237, Tryz.ntmps237
 go_upto_region 1 with fail
 rw [<-hw1]
 clear hw1
 obtain ⟨b0,hb0⟩:∃ b,b=w.heap.size:=⟨_,rfl⟩
 rw [<-hb0] at rf
 rw [<-hb0]
 clear hb0
 have q3:w1.cell? ⟨b0,3,none⟩=some (.int .i64 (N:Nat)):=rf.cell (i:=3) (by omega)
 have t0:w1.cell? ⟨tb,0,none⟩=some (.slice F a fd):=cellS hB ht
 have HF1:=hid (HF.out.on hB)
 have HB:=hid hB
 clear hB rf ht HF
 go_upto_region 2 with fail
 go_loopg [11] 1 (fun gg iv wx=>wx=w1/\∃ r:Nat,iv=.int .i64 (r:Nat)/\r<=1/\1<=r+gg)
 case atStart=>exact ⟨rfl,0,rfl,by omega,by omega⟩
 case round =>
  obtain ⟨rfl,r,rfl,hr,hrg⟩:=hrel
  by_cases hr1:r<1
  ·obtain rfl:r=0:=by omega
   obtain ⟨gO,hgO⟩:∃ x,x=gk:=⟨_,rfl⟩
   subst hgO
   go_upto_region 5 with fail
   go_loopg [17] a (fun gg iv wx=>wx=wr/\∃ i:Nat,iv=.int .i64 (i:Nat)/\i<=a/\a<=i+gg)
   case atStart=>exact ⟨rfl,0,rfl,by omega,by omega⟩
   case round =>
    obtain ⟨rfl,i,rfl,hi,hig⟩:=hrel
    have hi0:(0:Int)<=(i:Int):=by omega
    by_cases hia:i<a
    ·have hia':(i:Int)<(a:Int):=by omega
     obtain ⟨fb,fo,hFe,_,f0⟩:=HF1.out.at hia
     obtain ⟨x,hx⟩:∃ x,x=fc i:=⟨_,rfl⟩
     have hxN:x<N:=by rw [hx]; exact HFN.out i hia
     rw [<-hx] at f0
     have hx0:¬ ((x:Int)<0):=by omega
     have hxN':¬ ((N:Int)<=(x:Int)):=by omega
     by_cases hz:i=0
     ·subst hz
      subst hFe
      rw [Nat.add_zero] at f0
      go_wp2
      go_roundg (gk - 1)
      case measure=>omega
      case rel=>exact ⟨rfl,0+1,by go_num,by omega,by omega⟩
     ·obtain ⟨j,rfl⟩:∃ j,i=j+1:=⟨i - 1,by omega⟩
      obtain ⟨fb2,fo2,hFe2,_,f1⟩:=HF1.out.at (show j<a by omega)
      rw [hFe] at hFe2
      injection hFe2 with hFe2
      injection hFe2 with e1 e2
      subst e1 e2 hFe
      obtain ⟨y,hy⟩:∃ y,y=fc j:=⟨_,rfl⟩
      rw [<-hy] at f1
      have hxy:¬ ((x:Int)<=(y:Int)):=by have:=HIN.out j hia; omega
      have hj0:(0:Int)<((j+1:Nat):Int):=by omega
      have hm:((j+1:Nat):Int) - 1=(j:Int):=by omega
      have hjj:(0:Int)<=(j:Int):=by omega
      have hja:(j:Int)<(a:Int):=by omega
      go_wp2
      go_roundg (gk - 1)
      case measure=>omega
      case rel=>exact ⟨rfl,j+1+1,by go_num,by omega,by omega⟩
    ·have hia':¬ (i:Int)<(a:Int):=by omega
     obtain rfl:i=a:=by omega
     go_wp2
     go_roundg (gO - 1)
     case measure=>omega
     case rel=>exact ⟨rfl,0+1,by go_num,by omega,by omega⟩
  ·obtain rfl:r=1:=by omega
   go_wp2
   go_ret
   exact ⟨rfl,HB.out⟩
def RankPost (q n a:Nat) (add mul:Nat->Nat->Nat) (V:Nat->Nat->Nat) (fc:Nat->Nat) (w:World) (e:Ending) (w':World):Prop :=
 Below w.heap.size w w'/\∃ mm B p,e=.returned (.tuple #[.int .i64 (mm:Nat),.int .i64 0])/\Tri q n mm B p/\∀ c,(∀ j,j<n->c j<q)->(OrthU add mul V fc n a c↔KerB add mul n mm B c)
theorem infRank_any (P M:Nat) (m:Nat->Nat) (A:Option Addr) (k c N:Nat) (T:Option Addr) (n d:Nat) (V:Nat->Nat->Nat) (F:Option Addr) (a fd:Nat) (fc:Nat->Nat) (w:World) (h:CodeR w P M m A k N T n V)
  (hF:IntsR w w.heap.size F a (fun i=>(fc i:Nat))) (hfN:∀ i,i<a->fc i<N) (hinc:∀ i,i+1<a->fc i<fc (i+1)) (ha:a<=1048576) :
  Calls Tryz.prog 198 #[.agg #[.int .i64 (P:Nat),.int .i64 (M:Nat),.slice A k c,.int .i64 (N:Nat),.slice T n d],.slice F a fd] w (RankPost (P ^ M) n a (addF P M) (mulF P M m) V fc w):=by
 have HC:=hid h
 have HF:=hid hF
 have HFN:=hid hfN
 have HIN:=hid hinc
 clear h hF hfN hinc
 have rf:=zam (w:=w) (a:=.int .i64 (P:Nat)) (b:=.int .i64 (M:Nat)) (c:=.slice A k c) (d:=.int .i64 (N:Nat)) (e:=.slice T n d) (T := 27)
 have hB:Below w.heap.size w (w.alloc (.cells #[.int .i64 (P:Nat),.int .i64 (M:Nat),.slice A k c,.int .i64 (N:Nat),.slice T n d] 27)):=(Below.refl _ _).alloc (Nat.le_refl _) _
 obtain ⟨w1,hw1⟩:∃ W,W=w.alloc (.cells #[.int .i64 (P:Nat),.int .i64 (M:Nat),.slice A k c,.int .i64 (N:Nat),.slice T n d] 27):=⟨_,rfl⟩
 rw [<-hw1] at hB rf
 go_enter Tryz.func198, Tryz.ntmps198
 go_upto_region 1 with fail
 rw [<-hw1]
 clear hw1
 obtain ⟨b0,hb0⟩:∃ b,b=w.heap.size:=⟨_,rfl⟩
 rw [<-hb0] at rf
 rw [<-hb0]
 clear hb0
 have HBOX:Hid (∀ X,Below w1.heap.size w1 X->(X.cell? ⟨b0,0,none⟩=some (.int .i64 (P:Nat))/\X.cell? ⟨b0,1,none⟩=some (.int .i64 (M:Nat))/\X.cell? ⟨b0,2,none⟩=some (.slice A k c)/\X.cell? ⟨b0,3,none⟩=some (.int .i64 (N:Nat))/\X.cell? ⟨b0,4,none⟩=some (.slice T n d))):=hid fun X hx =>
  ⟨(zaa rf hx).cell (i:=0) (by omega),(zaa rf hx).cell (i:=1) (by omega),(zaa rf hx).cell (i:=2) (by omega),(zaa rf hx).cell (i:=3) (by omega),(zaa rf hx).cell (i:=4) (by omega)⟩
 have HB:=hid hB
 clear hB rf
 obtain ⟨q0,q1,q2,q3,q4⟩:=HBOX.out _ (Below.refl _ _)
 go_wp2_with fail
 refine (infOpen_any P M m A k c N T n d V w1 (HC.out.on HB.out)).mono ?_
 rintro e w2 ⟨kb,gf,rfl,hG⟩
 have HG:=hid hG
 have K2:=hid kb
 clear kb hG q0 q1 q2 q3 q4
 obtain ⟨q0,q1,q2,q3,q4⟩:=HBOX.out _ K2.out
 go_upto_region 3 with fail
 clear q0 q1 q2 q3 q4
 have kb:Below w2.heap.size w2 (w2.alloc (.cells #[.slice F a fd] 22)):=(Below.refl _ _).alloc (Nat.le_refl _) _
 have HT3:Hid ((w2.alloc (.cells #[.slice F a fd] 22)).cell? ((⟨w2.heap.size,0,none⟩:Addr).add 0)=some (.slice F a fd)):=hid tbox2
 obtain ⟨q0,q1,q2,q3,q4⟩:=HBOX.out _ K2.out
 have K3:=hid (onS K2.out kb)
 have HG3:=hid (HG.out.on kb)
 clear kb
 go_wp2_with fail
 refine (infSets_any P M m A k c N T n d V w2.heap.size F a fd fc _ (HC.out.on (onS HB.out K3.out)) HT3.out (HF.out.on (onS HB.out K3.out)) HFN.out HIN.out ha).mono ?_
 rintro e w4 ⟨rfl,kb⟩
 have K4:=hid (onS K3.out kb)
 have HG4:=hid (HG3.out.on kb)
 clear kb q0 q1 q2 q3 q4 HT3 HG3 HG K3
 obtain ⟨q0,q1,q2,q3,q4⟩:=HBOX.out _ K4.out
 go_wp2_with fail
 refine (infGreedy_any P M m A k c N T n d V gf F a fd fc w4 (HC.out.on (onS HB.out K4.out)) HG4.out (HF.out.on (onS HB.out K4.out)) HFN.out ha).mono ?_
 rintro e w5 ⟨mm,B,p,ZA,zc,rfl,htri,hker,kb⟩
 have K5:=hid (onS HB.out (onS K4.out kb))
 have HTR:=hid htri
 have HKE:=hid hker
 clear kb q0 q1 q2 q3 q4 htri hker
 go_wp2
 go_ret2
 exact ⟨K5.out,mm,B,p,rfl,HTR.out,HKE.out⟩
theorem tspan_any (lo hi:Nat) (w:World) (hl:lo<=hi) (hh:hi<=64) :
  Calls Tryz.prog 199 #[.int .i64 (lo:Nat),.int .i64 (hi:Nat)] w fun e w'=>∃ A c,e=.returned (.slice A (hi - lo) c)/\Own w' w.heap.size 3 1 (.slice A (hi - lo) c) (hi - lo) (fun j _=>.int .i64 ((lo+j:Nat):Int))/\Below w.heap.size w w':=by
 go_enter Tryz.func199, Tryz.ntmps199
 go_upto_region 3 with fail
 go_loopg [5,6] (hi - lo) (fun gg v5 iv wx=>∃ r:Nat,iv=.int .i64 (r:Nat)/\lo<=r/\r<=hi/\hi<=r+gg/\Hid (Own wx w.heap.size 3 1 v5 (r - lo) (fun j _=>.int .i64 ((lo+j:Nat):Int)))/\Below w.heap.size w wx)
 case atStart=>exact ⟨lo,rfl,by omega,by omega,by omega,by rw [Nat.sub_self]; exact hid (Own.nil _ _ _ _ _),Below.refl _ _⟩
 case round =>
  obtain ⟨r,rfl,hr1,hr2,hrg,HO,hB⟩:=hrel
  have HB:=hid hB
  clear hB
  obtain ⟨ZA,zc,hv⟩:=HO.out.shape
  subst hv
  by_cases hrh:r<hi
  ·have hrh':(r:Int)<(hi:Int):=by omega
   go_upto_region 5 with fail
   have kb:=(Below.refl wr.heap.size wr).alloc (Nat.le_refl _) (Obj.cells #[Value.int .i64 (r:Nat)] 3)
   have HO8:=hid (HO.out.on kb)
   have HB8:=hid (onS HB.out kb)
   have HC8:Hid ((wr.alloc (Obj.cells #[Value.int .i64 (r:Nat)] 3)).cell? ((⟨wr.heap.size,0,none⟩:Addr).add 0)=some (.int .i64 (r:Nat))):=tbox2
   have HZ8:Hid (w.heap.size<=(wr.alloc (Obj.cells #[Value.int .i64 (r:Nat)] 3)).heap.size):=HB8.out.size
   have HLL:Hid (r - lo<=1048576):=by show _<=_; omega
   clear kb
   go_wp2_with (first | (at_builtin; (refine zaA rfl (.tmp 13) (.tmp 15) rfl HO8.out rfl (ad:=⟨wr.heap.size,0,none⟩) (c:=1) rfl HC8.out HZ8.out HLL.out ?_); intro v9 w9 o1 o2 o3))
   have hs:r - lo+1=r+1 - lo:=by omega
   rw [hs] at o1
   have HO9:=hid (o1.congr (f':=fun j _=>.int .i64 ((lo+j:Nat):Int)) fun t _ _ _=>by
    by_cases e:t=r - lo
    ·rw [if_pos e,show r=lo+t by omega]
    ·rw [if_neg e])
   have HB9:=hid (HB8.out.grown o2 HZ8.out fun q e=>(HO8.out.lt _ e).1)
   clear o1 o2 o3 HO8 HB8 HC8 HZ8 HO HB
   go_wp2
   go_roundg (gk - 1)
   case measure=>omega
   case rel=>exact ⟨r+1,by go_num,by omega,by omega,by omega,HO9,HB9.out⟩
  ·have hrh':¬ (r:Int)<(hi:Int):=by omega
   obtain rfl:r=hi:=by omega
   go_wp2
   go_ret
   exact ⟨ZA,zc,rfl,HO.out,HB.out⟩
def RankOf (q n a:Nat) (add mul:Nat->Nat->Nat) (V:Nat->Nat->Nat) (fc:Nat->Nat) (r:Nat):Prop:=∃ B p,Tri q n r B p/\∀ c,(∀ j,j<n->c j<q)->(OrthU add mul V fc n a c↔KerB add mul n r B c)
theorem tranks_any (P M:Nat) (m:Nat->Nat) (A:Option Addr) (k c N:Nat) (T:Option Addr) (n d:Nat) (V:Nat->Nat->Nat) (t:Nat) (w:World) (h:CodeR w P M m A k N T n V) (ht:t<=N) :
  Calls Tryz.prog 125 #[.agg #[.int .i64 (P:Nat),.int .i64 (M:Nat),.slice A k c,.int .i64 (N:Nat),.slice T n d],.int .i64 (t:Nat)] w fun e w'=>Below w.heap.size w w'/\∃ r1 r2,e=.returned (.tuple #[.int .i64 (r1:Nat),.int .i64 (r2:Nat)])/\RankOf (P ^ M) n t (addF P M) (mulF P M m) V (fun i=>i) r1/\RankOf (P ^ M) n (N - t) (addF P M) (mulF P M m) V (fun i=>t+i) r2:=by
 have hN64:=h.ln2
 have HC:=hid h
 clear h
 have rf:=zam (w:=w) (a:=.int .i64 (P:Nat)) (b:=.int .i64 (M:Nat)) (c:=.slice A k c) (d:=.int .i64 (N:Nat)) (e:=.slice T n d) (T := 27)
 have hB:Below w.heap.size w (w.alloc (.cells #[.int .i64 (P:Nat),.int .i64 (M:Nat),.slice A k c,.int .i64 (N:Nat),.slice T n d] 27)):=(Below.refl _ _).alloc (Nat.le_refl _) _
 obtain ⟨w1,hw1⟩:∃ W,W=w.alloc (.cells #[.int .i64 (P:Nat),.int .i64 (M:Nat),.slice A k c,.int .i64 (N:Nat),.slice T n d] 27):=⟨_,rfl⟩
 rw [<-hw1] at hB rf
 go_enter Tryz.func125, Tryz.ntmps125
 go_upto_region 1 with fail
 rw [<-hw1]
 clear hw1
 obtain ⟨b0,hb0⟩:∃ b,b=w.heap.size:=⟨_,rfl⟩
 rw [<-hb0] at rf
 rw [<-hb0]
 clear hb0
 have HBOX:Hid (∀ X,Below w1.heap.size w1 X->(X.cell? ⟨b0,0,none⟩=some (.int .i64 (P:Nat))/\X.cell? ⟨b0,1,none⟩=some (.int .i64 (M:Nat))/\X.cell? ⟨b0,2,none⟩=some (.slice A k c)/\X.cell? ⟨b0,3,none⟩=some (.int .i64 (N:Nat))/\X.cell? ⟨b0,4,none⟩=some (.slice T n d))):=hid fun X hx =>
  ⟨(zaa rf hx).cell (i:=0) (by omega),(zaa rf hx).cell (i:=1) (by omega),(zaa rf hx).cell (i:=2) (by omega),(zaa rf hx).cell (i:=3) (by omega),(zaa rf hx).cell (i:=4) (by omega)⟩
 have HB:=hid hB
 clear hB rf
 refine wp_region_held_drew (S:=fun X=>(X.cell? ⟨b0,0,none⟩=some (.int .i64 (P:Nat))/\X.cell? ⟨b0,1,none⟩=some (.int .i64 (M:Nat))/\X.cell? ⟨b0,2,none⟩=some (.slice A k c)/\X.cell? ⟨b0,3,none⟩=some (.int .i64 (N:Nat))/\X.cell? ⟨b0,4,none⟩=some (.slice T n d))) (by kernel_rfl) (HBOX.out _ (Below.refl _ _).drew) (fun hHeld=>?_)
 obtain ⟨w2,hw⟩:∃ W,W=World.drew w1:=⟨_,rfl⟩
 have kb:Below w1.heap.size w1 w2:=by rw [hw]; exact (Below.refl _ _).drew
 rw [<-hw] at hHeld ⊢
 clear hw
 have K2:=hid kb
 clear kb
 refine tkq 0 (h:=tkq 1 (h:=?_))
 clear hHeld
 refine rdq 2 (h:=fun K hK=>?_)
 go_simp
 go_wp2_with fail
 refine (tspan_any 0 t w2 (by omega) (by omega)).mono ?_
 rintro e w3 ⟨SA,sc,rfl,hO,kb⟩
 rw [Nat.sub_zero] at hO ⊢
 have h0:IntsR w3 w3.heap.size SA t (fun i=>((0+i:Nat):Int)):=hO.rd rfl
 have HF3:Hid (IntsR w3 w3.heap.size SA t (fun i=>((i:Nat):Int))):=by
  simp only [Nat.zero_add] at h0
  exact hid h0
 clear h0
 have K3:=hid (onS K2.out kb)
 clear kb hO
 refine bkq hK (HBOX.out _ K3.out) (h:=fun hHeld=>?_)
 clear hK K hHeld K2
 refine rdq 3 (h:=fun K hK=>?_)
 go_simp
 go_wp2_with fail
 refine (infRank_any P M m A k c N T n d V SA t sc (fun i=>i) w3 (HC.out.on (onS HB.out K3.out)) HF3.out (fun i hi=>by omega) (fun i _=>by omega) (by omega)).mono ?_
 rintro e w4 ⟨kb,r1,B1,p1,rfl,h1,h2⟩
 have HR1:Hid (RankOf (P ^ M) n t (addF P M) (mulF P M m) V (fun i=>i) r1):=hid ⟨B1,p1,h1,h2⟩
 have K4:=hid (onS K3.out kb)
 clear kb h1 h2
 refine bkq hK (HBOX.out _ K4.out) (h:=fun hHeld=>?_)
 clear hK K K3 HF3
 refine tkq 4 (h:=tkq 5 (h:=tkq 6 (h:=tkq 7 (h:=tkq 8 (h:=?_)))))
 refine wpAnyH_done (by kernel_rfl) ?_ _
 clear hHeld
 go_upto_region 2 with fail
 refine wp_region_held_drew (S:=fun X=>(X.cell? ⟨b0,0,none⟩=some (.int .i64 (P:Nat))/\X.cell? ⟨b0,1,none⟩=some (.int .i64 (M:Nat))/\X.cell? ⟨b0,2,none⟩=some (.slice A k c)/\X.cell? ⟨b0,3,none⟩=some (.int .i64 (N:Nat))/\X.cell? ⟨b0,4,none⟩=some (.slice T n d))) (by kernel_rfl) (HBOX.out _ (onS K4.out (Below.refl _ _).drew)) (fun hHeld=>?_)
 obtain ⟨w5,hw⟩:∃ W,W=World.drew w4:=⟨_,rfl⟩
 have kb:Below w4.heap.size w4 w5:=by rw [hw]; exact (Below.refl _ _).drew
 rw [<-hw] at hHeld ⊢
 clear hw
 have K5:=hid (onS K4.out kb)
 clear kb
 refine tkq 0 (h:=tkq 1 (h:=tkq 2 (h:=tkq 3 (h:=?_))))
 clear hHeld
 refine rdq 4 (h:=fun K hK=>?_)
 go_simp
 go_wp2_with fail
 refine (tspan_any t N w5 ht hN64).mono ?_
 rintro e w6 ⟨SA,sc,rfl,hO,kb⟩
 have HF6:Hid (IntsR w6 w6.heap.size SA (N - t) (fun i=>((t+i:Nat):Int))):=hid (hO.rd rfl)
 have K6:=hid (onS K5.out kb)
 clear kb hO
 refine bkq hK (HBOX.out _ K6.out) (h:=fun hHeld=>?_)
 clear hK K hHeld K5
 refine rdq 5 (h:=fun K hK=>?_)
 go_simp
 go_wp2_with fail
 refine (infRank_any P M m A k c N T n d V SA (N - t) sc (fun i=>t+i) w6 (HC.out.on (onS HB.out K6.out)) HF6.out (fun i hi=>by omega) (fun i _=>by omega) (by omega)).mono ?_
 rintro e w7 ⟨kb,r2,B2,p2,rfl,h1,h2⟩
 have HR2:Hid (RankOf (P ^ M) n (N - t) (addF P M) (mulF P M m) V (fun i=>t+i) r2):=hid ⟨B2,p2,h1,h2⟩
 have K7:=hid (onS K6.out kb)
 clear kb h1 h2
 refine bkq hK (HBOX.out _ K7.out) (h:=fun hHeld=>?_)
 clear hK K K6 HF6
 refine tkq 6 (h:=tkq 7 (h:=tkq 8 (h:=tkq 9 (h:=tkq 10 (h:=?_)))))
 refine wpAnyH_done (by kernel_rfl) ?_ _
 clear hHeld
 go_wp2
 go_ret2
 exact ⟨onS HB.out K7.out,r1,r2,rfl,HR1.out,HR2.out⟩
def TrProfPost (P M : Int) (k : Nat) (f : Nat → Int) (N : Int) (n : Nat) (ln : Nat → Nat) (V : Nat → Nat → Int) (w : World) (e : Ending) (w' : World) : Prop :=
  Below w.heap.size w w'/\∃ u,FirstErr (CodeErrs P M k f N n ln V) u /\
    ((u≠0/\e=.returned (.tuple #[.slice none 0 0,.int .i64 u])) ∨
     (u=0/\∃ P' M' N':Nat,P=P'/\M=M'/\N=N'/\∃ (g:Nat) (R:Nat->Int),e=.returned (.tuple #[.slice (some ⟨g,0,none⟩) (N'+1) (N'+1),.int .i64 0])/\w.heap.size<=g/\w'.rowIs g 3 (N'+1) (fun t=>.int .i64 (R t)) /\
       ∀ t,t<=N'->∃ r1 r2:Nat,R t=(r1:Int)+(r2:Int) - (n:Int)/\RankOf (P' ^ M') n t (addF P' M') (mulF P' M' fun i=>(f i).toNat) (natT V) (fun i=>i) r1/\RankOf (P' ^ M') n (N' - t) (addF P' M') (mulF P' M' fun i=>(f i).toNat) (natT V) (fun i=>t+i) r2))
theorem RankOf.le {q n a r:Nat} {add mul:Nat->Nat->Nat} {V:Nat->Nat->Nat} {fc:Nat->Nat} (h:RankOf q n a add mul V fc r):r<=n:=by
 obtain ⟨B,p,h,_⟩:=h
 exact h.le
theorem profile_any (P M:Int) (A:Option Addr) (k c:Nat) (f:Nat->Int) (N:Int) (TC:Option Addr) (n d:Nat) (ln:Nat->Nat) (V:Nat->Nat->Int) (w:World) (hr:IntsR w w.heap.size A k f) (h:IntRows w TC n ln V) :
  Calls Tryz.prog 49 #[.agg #[.int .i64 P,.int .i64 M,.slice A k c,.int .i64 N,.slice TC n d]] w (TrProfPost P M k f N n ln V w):=by
 have HI:=hid hr
 have HT:=hid h
 clear hr h
 have rf:=zam (w:=w) (a:=.int .i64 P) (b:=.int .i64 M) (c:=.slice A k c) (d:=.int .i64 N) (e:=.slice TC n d) (T := 27)
 have hB:Below w.heap.size w (w.alloc (.cells #[.int .i64 P,.int .i64 M,.slice A k c,.int .i64 N,.slice TC n d] 27)):=(Below.refl _ _).alloc (Nat.le_refl _) _
 obtain ⟨w1,hw1⟩:∃ W,W=w.alloc (.cells #[.int .i64 P,.int .i64 M,.slice A k c,.int .i64 N,.slice TC n d] 27):=⟨_,rfl⟩
 rw [<-hw1] at hB rf
 go_enter Tryz.func49, Tryz.ntmps49
 go_upto_region 1 with fail
 rw [<-hw1]
 clear hw1
 obtain ⟨b0,hb0⟩:∃ b,b=w.heap.size:=⟨_,rfl⟩
 rw [<-hb0] at rf
 rw [<-hb0]
 clear hb0
 have HBOX:Hid (∀ X,Below w1.heap.size w1 X->(X.cell? ⟨b0,0,none⟩=some (.int .i64 P)/\X.cell? ⟨b0,1,none⟩=some (.int .i64 M)/\X.cell? ⟨b0,2,none⟩=some (.slice A k c)/\X.cell? ⟨b0,3,none⟩=some (.int .i64 N)/\X.cell? ⟨b0,4,none⟩=some (.slice TC n d))):=hid fun X hx =>
  ⟨(zaa rf hx).cell (i:=0) (by omega),(zaa rf hx).cell (i:=1) (by omega),(zaa rf hx).cell (i:=2) (by omega),(zaa rf hx).cell (i:=3) (by omega),(zaa rf hx).cell (i:=4) (by omega)⟩
 have HB:=hid hB
 clear hB rf
 obtain ⟨q0,q1,q2,q3,q4⟩:=HBOX.out _ (Below.refl _ _)
 go_wp2_with fail
 refine (zgS P M A k c f N TC n d ln V w1 (HI.out.on HB.out) (HT.out.on HB.out)).mono ?_
 rintro e w2 ⟨u,rfl,hu,kb⟩
 have HU:=hid hu
 have KB:=hid kb
 clear kb hu q0 q1 q2 q3 q4
 by_cases hu0:u=0
 rotate_left
 ·have hub:(u != 0)=true:=by simpa using hu0
  have HU0:=hid hu0
  clear hu0
  go_wp2
  go_ret2
  exact ⟨onS HB.out KB.out,u,HU.out,.inl ⟨HU0.out,rfl⟩⟩
 subst hu0
 have hub:((0:Int) != 0)=false:=by simp
 obtain ⟨P',M',N',rfl,rfl,rfl,hC⟩:=zbP HI.out HT.out HU.out
 have HC:=hid hC
 have hN64:=hC.ln2
 have hnN:=hC.n_le
 clear hC
 have hmk:=fun W=>zaf (P:=Tryz.prog) 22 3 _ 8 Tryz.underlying22 Tryz.infoInt rfl (((N'+1:Nat)):Int) (by omega) (by omega) (by omega) W
 simp only [Int.natCast_add,Int.cast_ofNat_Int] at hmk
 obtain ⟨q0,q1,q2,q3,q4⟩:=HBOX.out _ KB.out
 go_upto_region 5 with fail
 have rz:World.rowIs (World.alloc w2 (Obj.cells (madeCells #[Value.int .i64 0] (N'+1)) 3)) w2.heap.size 3 (N'+1) (fun _=>.int .i64 0):=World.rowIs_made _ (.int .i64 0) (N'+1) 3
 have kb:Below w2.heap.size w2 (World.alloc w2 (Obj.cells (madeCells #[Value.int .i64 0] (N'+1)) 3)):=(Below.refl _ _).alloc (Nat.le_refl _) _
 obtain ⟨w3,hw3⟩:∃ W,W=World.alloc w2 (Obj.cells (madeCells #[Value.int .i64 0] (N'+1)) 3):=⟨_,rfl⟩
 rw [<-hw3] at rz kb ⊢
 obtain ⟨g,hg⟩:∃ x,x=w2.heap.size:=⟨_,rfl⟩
 have hg1:w1.heap.size<=g:=by rw [hg]; exact KB.out.size
 rw [<-hg] at rz ⊢
 have HRZ:=hid rz
 have K3:=hid (onS KB.out kb)
 clear rz kb hw3 hg hmk q0 q1 q2 q3 q4
 go_upto_region 6 with fail
 go_loopg [20] (N'+1) (fun gg iv wx=>∃ (t:Nat) (R:Nat->Int),iv=.int .i64 (t:Nat)/\t<=N'+1/\N'+1<=t+gg/\Hid (wx.rowIs g 3 (N'+1) (fun i=>.int .i64 (R i)))/\Hid (∀ i,i<t->∃ r1 r2:Nat,R i=(r1:Int)+(r2:Int) - (n:Int)/\RankOf (P' ^ M') n i (addF P' M') (mulF P' M' fun i=>(f i).toNat) (natT V) (fun i=>i) r1/\RankOf (P' ^ M') n (N' - i) (addF P' M') (mulF P' M' fun i=>(f i).toNat) (natT V) (fun j=>i+j) r2)/\Below w1.heap.size w1 wx)
 case atStart=>exact ⟨0,fun _=>0,rfl,by omega,by omega,HRZ,hid fun i hi=>absurd hi (by omega),K3.out⟩
 case round =>
  clear HRZ K3
  obtain ⟨t,R,rfl,ht,htg,HR,HX,hBx⟩:=hrel
  have ht0:(0:Int)<=(t:Int):=by omega
  have K4:=hid hBx
  clear hBx
  by_cases htn:t<N'+1
  ·have htn':(t:Int)<((N':Nat):Int)+1:=by omega
   have htN:t<=N':=by omega
   obtain ⟨q0,q1,q2,q3,q4⟩:=HBOX.out _ K4.out
   go_wp2_with fail
   refine (tranks_any P' M' (fun i=>(f i).toNat) A k c N' TC n d (natT V) t wr (HC.out.on (onS HB.out K4.out)) htN).mono ?_
   rintro e w5 ⟨kb,r1,r2,rfl,h1,h2⟩
   clear q0 q1 q2 q3 q4
   have H1:=hid h1
   have H2:=hid h2
   have hl1:=h1.le
   have hl2:=h2.le
   have hrr:=zaa HR.out kb
   have K5:=hid (onS K4.out kb)
   clear kb h1 h2
   obtain ⟨q0,q1,q2,q3,q4⟩:=HBOX.out _ K5.out
   have z1:=hrr.cell (i:=t) htn
   have z2:=hrr.frozen t
   have hrow2:=hrr.set t (.int .i64 ((r1:Int)+(r2:Int) - (n:Int)))
   have kb:=K5.out.setCell (p:=⟨g,t,none⟩) hg1 (.int .i64 ((r1:Int)+(r2:Int) - (n:Int)))
   obtain ⟨w6,hw6⟩:∃ W,W=w5.setCell ⟨g,t,none⟩ (.int .i64 ((r1:Int)+(r2:Int) - (n:Int))):=⟨_,rfl⟩
   rw [<-hw6] at hrow2 kb
   have HR2:Hid (w6.rowIs g 3 (N'+1) (fun i=>.int .i64 (if i=t then (r1:Int)+(r2:Int) - (n:Int) else R i))):=hid (hrow2.congr fun i _=>by
    by_cases e:i=t
    ·rw [if_pos e,if_pos e]
    ·rw [if_neg e,if_neg e])
   have HX2:Hid (∀ i,i<t+1->∃ r1' r2':Nat,(if i=t then (r1:Int)+(r2:Int) - (n:Int) else R i)=(r1':Int)+(r2':Int) - (n:Int)/\RankOf (P' ^ M') n i (addF P' M') (mulF P' M' fun i=>(f i).toNat) (natT V) (fun i=>i) r1'/\RankOf (P' ^ M') n (N' - i) (addF P' M') (mulF P' M' fun i=>(f i).toNat) (natT V) (fun j=>i+j) r2'):=hid fun i hi=>by
    by_cases e:i=t
    ·subst e
     exact ⟨r1,r2,by rw [if_pos rfl],H1.out,H2.out⟩
    ·rw [if_neg e]
     exact HX.out i (by omega)
   have K6:=hid kb
   have HW6:=hid hw6
   clear hrow2 kb hw6 hrr
   go_wp2
   rw [<-HW6.out]
   go_roundg (gk - 1)
   case measure=>omega
   case rel=>exact ⟨t+1,_,by go_num,by omega,by omega,HR2,HX2,K6.out⟩
  ·have htn':¬ (t:Int)<((N':Nat):Int)+1:=by omega
   obtain rfl:t=N'+1:=by omega
   go_wp2
   go_ret2
   exact ⟨onS HB.out K4.out,0,HU.out,.inr ⟨rfl,P',M',N',rfl,rfl,rfl,g,R,rfl,Nat.le_trans HB.out.size hg1,HR.out,fun t ht=>HX.out t (by omega)⟩⟩
end Go.Proofs.YtioagplajkoohaaGreat