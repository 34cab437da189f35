/- Merged texts of a claim: Chk12, Null, CodeE, Dual12, Dot04, NatA, NatB, AppCells, WtsAll, Word12, WordsAll, NatC, RatA, RatB, Rat13, RatC, PolyA, PAddAll, PMulAll, RefEval, PolyC, PatAll, UndAll, DualPl, Syn12, Tab55, RefRight, Nats, GfDot, GfChk, GfNew. -/
import Derived.Test.YtgekjfpapmlndaaGreatTZ4
import Derived.Test.YtgekjfpapmlndaaGreatTZ5
import Derived.Deep.QuietTactic
import Derived.BigQuiet
import Derived.Deep.CutBlock
import Derived.Deep.DeepCutAuto
import Derived.Deep.LoopGhost
import Derived.StillTailTactics
import Derived.Deep.RegionHeld3
namespace Go.Proofs.YtgekjfpapmlndaaGreat
set_option maxRecDepth 100000
set_option maxHeartbeats 32000000
open KB KE KF
open Go.RowKit
def CanonPost (q:Nat) (add mul:Nat->Nat->Nat) (n k cols:Nat) (V:Nat->Nat->Nat) (w:World) (e:Ending) (w':World):Prop :=
 ∃ lv pv a p W,e=.returned (.tuple #[lv,pv])/\MTab w' w.heap.size lv a k W/\Own w' w.heap.size 3 1 pv a (fun j _=>.int .i64 (p j:Nat))/\Below w.heap.size w w' /\
  EchN q n k cols a p W/\RowOps q add mul n k V W
theorem EchN.full {q n k c a cols:Nat} {pv:Nat->Nat} {W:Nat->Nat->Nat} (h:EchN q n k c a pv W) (hc:c<=cols) (h2:c=cols∨a=n):EchN q n k cols a pv W:=by
 rcases h2 with h2 | h2
 ·rw [<-h2]; exact h
 ·exact ⟨h.le,h.lt,h.inc,fun s hs=>Nat.lt_of_lt_of_le (h.pvlt s hs) hc,h.one,h.zero,h.lead,fun i h1 h3=>by omega⟩
theorem MTab.take {w:World} {base n k b o c a:Nat} {W:Nat->Nat->Nat} (h:MTab w base (.slice (some ⟨b,o,none⟩) n c) n k W) (ha:a<=n):MTab w base (.slice (some ⟨b,o,none⟩) a c) a k W:=by
 obtain ⟨R,h1,h2⟩:=h
 refine ⟨R,?_,fun i hi=>h2 i (by omega)⟩
 rcases h1 with ⟨h1,_⟩ | ⟨g,o',cap,cur,h1,h3,h4,h5,h6,h7,h8⟩
 ·cases h1
 injection h1 with e1 e2 e3
 injection e1 with e1
 injection e1 with e1 e4
 subst e1 e4 e3
 exact .inr ⟨_,_,_,cur,rfl,h3,h4,by omega,h6,h7,fun i hi=>h8 i (by omega)⟩
theorem MTab.form {w:World} {base n k:Nat} {v:Value} {W:Nat->Nat->Nat} (h:MTab w base v n k W):(v=.slice none 0 0/\n=0)∨∃ b o c,v=.slice (some ⟨b,o,none⟩) n c/\n<=c/\c<=maxLen:=by
 obtain ⟨R,h1,_⟩:=h
 rcases h1 with h1 | ⟨g,o',cap,cur,h1,h3,h4,h5,h6,h7,h8⟩
 ·exact .inl h1
 ·exact .inr ⟨g,o',cap,h1,h5,h6⟩
theorem zez (P M:Nat) (A:Option Addr) (k c:Nat) (m:Nat->Nat) (T:Option Addr) (n d kc cols:Nat) (V:Nat->Nat->Nat) (w:World) (hf:FieldOk P M m) (hm:ModOk w P M A m) (hkM:M=1∨k=M)
  (h:MRows w T n kc V) (hV:∀ i,i<n->∀ j,j<kc->V i j<P ^ M) (hcK:cols<=kc) (hK:0<kc) (hK2:kc<=1048576) (hn:n<=1048576) :
  Calls Tryz.prog 136 #[.agg #[.int .i64 (P:Nat),.int .i64 (M:Nat),.slice A k c],.slice T n d,.int .i64 (cols:Nat)] w (CanonPost (P ^ M) (addF P M) (mulF P M m) n kc cols V w):=by
 obtain ⟨w0,q,hB,rf⟩:=zaj w (.int .i64 (P:Nat)) (.int .i64 (M:Nat)) (.slice A k c) 24
 go_enter Tryz.func136, Tryz.ntmps136
 go_upto_region 1 with fail
 rw [<-q];clear q
 have q0:=qc0 rf
 have q1:=qc1 rf
 have q2:=qc2 rf
 have r:MRows w0 T n kc V:=h.on hB
 have s:=zaL hm hB
 clear h
 go_wp2_with fail
 refine (zhq P M A k c m T n d kc cols V w0 hf s hkM r hV hcK hK hK2 hn).mono ?_
 rintro e w1 ⟨lv,pv,a,c0,p,W,rfl,hM,hP,kb,hc,u,hE,hR⟩
 have l:w.heap.size<=w0.heap.size:=hB.size
 replace hM:=(hM.mono l).tab;replace hP:=hP.mono l;replace hB:=onS hB kb
 have HE:=hid (hE.full hc u)
 have HR:=hid hR
 have z:=hE.le
 clear kb q0 q1 q2 r s hE hR hc u hV rf l
 obtain ⟨PA,pc,v⟩:=hP.shape
 subst v
 rcases hM.form with ⟨g,x⟩ | ⟨b,o,lc,g,B,y⟩
 ·subst g x
  obtain rfl:a=0:=by omega
  go_wp2
  go_ret2
  exact ⟨_,_,0,p,W,rfl,hM,hP,hB,HE.out,HR.out⟩
 subst g
 have D:(0:Int)<=(a:Int):=by omega
 have C:(a:Int)<=(lc:Int):=by omega
 unfold maxLen at y
 have HM:=hid (hM.take z)
 have HP:=hid hP
 clear hM hP
 go_wp2
 go_ret2
 exact ⟨_,_,a,p,W,rfl,HM.out,HP.out,hB,HE.out,HR.out⟩
def FirstErr:List (Prop × Int)->Int->Prop
 | [],v=>v=0
 | (p,e) :: r,v=>(¬ p/\v=e)∨(p/\FirstErr r v)
theorem FirstErr.unique:∀ {l:List (Prop × Int)} {v u:Int},FirstErr l v->FirstErr l u->v=u
 | [],_,_,h1,h2=>h1.trans h2.symm
 | (_, _) :: r, _, _, h1, h2 => by
  rcases h1 with ⟨a,h1⟩ | ⟨a,h1⟩
  ·rcases h2 with ⟨_,h2⟩ | ⟨b,_⟩
   ·exact h1.trans h2.symm
   ·exact absurd b a
  ·rcases h2 with ⟨b,_⟩ | ⟨_,h2⟩
   ·exact absurd a b
   ·exact FirstErr.unique (l:=r) h1 h2
def ErrsPost (l:List (Prop × Int)) (w:World) (e:Ending) (w':World):Prop:=∃ v:Int,e=.returned (.int .i64 v)/\FirstErr l v/\Below w.heap.size w w'
theorem errsPost {l:List (Prop × Int)} {w w':World} {v:Int} (h:FirstErr l v) (hB:Below w.heap.size w w'):ErrsPost l w (.returned (.int .i64 v)) w':=⟨v,rfl,h,hB⟩
def ShapeM (cols:Int) (n:Nat) (ln:Nat->Nat):Prop:=0<=cols/\cols<=256/\n<=256/\∀ i,i<n->(ln i:Int)=cols
def ElemsM (q n:Nat) (ln:Nat->Nat) (V:Nat->Nat->Int):Prop:=∀ i,i<n->AllIn q (ln i) (V i)
def matCell (a b:Value) (i:Nat):Value:=if i=0 then a else b
theorem KC.qc0 {w:World} {g:Nat} {T:TypeId} {a b:Value} (h:w.rowIs g T 2 (matCell a b)) : w.cell? ⟨g,0,none⟩=some a:=h.cell (i:=0) (by decide)
theorem KC.qc1 {w:World} {g:Nat} {T:TypeId} {a b:Value} (h:w.rowIs g T 2 (matCell a b)) : w.cell? ⟨g,1,none⟩=some b:=h.cell (i:=1) (by decide)
open KC
theorem zat {w:World} {a b:Value} {T:TypeId}:(w.alloc (.cells #[a,b] T)).rowIs w.heap.size T 2 (matCell a b) :=
 ⟨#[a,b],zaw rfl,rfl,fun i hi=>by
  rcases (show i=0∨i=1 by omega) with rfl | rfl <;> rfl⟩
theorem zeU (P M:Int) (A:Option Addr) (k c:Nat) (f:Nat->Int) (cols:Int) (T:Option Addr) (n d:Nat) (ln:Nat->Nat) (V:Nat->Nat->Int) (w:World) (hr:IntsR w w.heap.size A k f) (h:IntRows w T n ln V) :
  Calls Tryz.prog 135 #[.agg #[.int .i64 P,.int .i64 M,.slice A k c],.agg #[.int .i64 cols,.slice T n d]] w (ErrsPost [(GoodF P M k f,1),(ShapeM cols n ln,3),(ElemsM (P.toNat ^ M.toNat) n ln V,2)] w):=by
 have HT:=hid h
 clear h
 have rf:=zaq (w:=w) (a:=.int .i64 P) (b:=.int .i64 M) (c:=.slice A k c) (T := 24)
 have hB:=aly w (.cells #[.int .i64 P,.int .i64 M,.slice A k c] 24)
 have s:(w.alloc (.cells #[.int .i64 P,.int .i64 M,.slice A k c] 24)).heap.size=w.heap.size+1:=by simp
 obtain ⟨w0,r⟩:=exx (w.alloc (.cells #[.int .i64 P,.int .i64 M,.slice A k c] 24))
 have rm:=zat (w:=w0) (a:=.int .i64 cols) (b:=.slice T n d) (T := 106)
 have kb:=aly w0 (.cells #[.int .i64 cols,.slice T n d] 106)
 obtain ⟨w1,q⟩:=exx (w0.alloc (.cells #[.int .i64 cols,.slice T n d] 106))
 rw [<-r] at hB rf s;rw [<-q] at rm kb;rw [s] at rm;replace rf:=zab rf kb;replace hB:=onS hB kb
 go_enter Tryz.func135, Tryz.ntmps135
 go_upto_region 1 with fail
 rw [<-r,<-q];clear r q kb s
 have q0:=qc0 rf
 have q1:=qc1 rf
 have q2:=qc2 rf
 go_wp2_with fail
 have C:=hr.on hB
 refine (zcM P M A k c f w1 C).mono ?_
 rintro e w2 ⟨v,rfl,hv,kb⟩
 replace rf:=zab rf kb;replace rm:=zab rm kb;replace hB:=onS hB kb;clear kb q0 q1 q2 C
 rcases hv with ⟨rfl,hg⟩ | ⟨rfl,hg⟩
 rotate_left
 ·have g:Hid (FirstErr [(GoodF P M k f,1),(ShapeM cols n ln,3),(ElemsM (P.toNat ^ M.toNat) n ln V,2)] 1):=.inl ⟨hg,rfl⟩
  clear hg
  go_wp2
  go_ret
  exact errsPost g.out hB
 have HG:=hid hg
 obtain ⟨P',M',rfl,rfl,hf,_⟩:=hg
 have HF:=hid hf
 clear hf
 have m0:=qc0 rm
 have m1:=qc1 rm
 by_cases hc0:cols<0
 ·have g:Hid (FirstErr [(GoodF (P':Int) (M':Int) k f,1),(ShapeM cols n ln,3),(ElemsM ((P':Int).toNat ^ (M':Int).toNat) n ln V,2)] 3):=.inr ⟨HG.out,.inl ⟨fun h=>by have:=h.1; omega,rfl⟩⟩
  go_wp2
  go_ret
  exact errsPost g.out hB
 by_cases hc1:cols > 256
 ·have g:Hid (FirstErr [(GoodF (P':Int) (M':Int) k f,1),(ShapeM cols n ln,3),(ElemsM ((P':Int).toNat ^ (M':Int).toNat) n ln V,2)] 3):=.inr ⟨HG.out,.inl ⟨fun h=>by have:=h.2.1; omega,rfl⟩⟩
  go_wp2
  go_ret
  exact errsPost g.out hB
 by_cases hn1:n > 256
 ·have g:Hid (FirstErr [(GoodF (P':Int) (M':Int) k f,1),(ShapeM cols n ln,3),(ElemsM ((P':Int).toNat ^ (M':Int).toNat) n ln V,2)] 3):=.inr ⟨HG.out,.inl ⟨fun h=>by have:=h.2.2.1; omega,rfl⟩⟩
  have u:(n:Int) > 256:=by omega
  go_wp2
  go_ret
  exact errsPost g.out hB
 have u:¬ (n:Int) > 256:=by omega
 go_wp2
 go_loopg [6] n (fun gg iv wx=>∃ i:Nat,iv=.int .i64 (i:Nat)/\i<=n/\n<=i+gg/\Hid (∀ t,t<i->(ln t:Int)=cols)/\wx.rowIs w.heap.size 24 3 (fldCell (.int .i64 (P':Nat)) (.int .i64 (M':Nat)) (.slice A k c))/\wx.rowIs (w.heap.size+1) 106 2 (matCell (.int .i64 cols) (.slice T n d))/\Below w.heap.size w wx)
 case atStart=>exact ⟨0,rfl,by omega,by omega,fun t ht=>absurd ht (by omega),rf,rm,hB⟩
 clear rf rm hB m0 m1
 obtain ⟨i,rfl,hi,U,HQ,rf,rm,hB⟩:=hrel
 have W:(0:Int)<=(i:Int):=by omega
 have m0:=qc0 rm
 have m1:=qc1 rm
 by_cases hlt:i<n
 ·have x:(i:Int)<(n:Int):=by omega
  obtain ⟨b,o,RA,rc,hT,hb,x0,_,_,l,_⟩:=HT.out i hlt
  subst hT
  replace x0:=(hB.cell (p:=⟨b,o+i,none⟩) hb).trans x0
  obtain ⟨li,z⟩:=exx (ln i)
  rw [<-z] at x0
  have I:=hid z
  clear l z
  by_cases he:(li:Int)=cols
  ·have N:((li:Int) != cols)=false:=by simpa using he
   have HE:=hid he
   clear he
   go_wp2
   go_quiet (fail)
   go_wp2
   go_roundg (gk - 1)
   case measure=>omega
   refine ⟨i+1,by go_num,by omega,by omega,fun t ht=>?_,za8 rf _,za8 rm _,zad hB _⟩
   by_cases e:t=i
   ·subst e; rw [<-I.out]; exact HE.out
   ·exact HQ.out t (by omega)
  have N:((li:Int) != cols)=true:=by simpa using he
  have g:Hid (FirstErr [(GoodF (P':Int) (M':Int) k f,1),(ShapeM cols n ln,3),(ElemsM ((P':Int).toNat ^ (M':Int).toNat) n ln V,2)] 3):=.inr ⟨HG.out,.inl ⟨fun h=>he (by rw [I.out]; exact h.2.2.2 i hlt),rfl⟩⟩
  clear he
  go_wp2
  go_quiet (fail)
  go_wp2
  go_ret
  exact errsPost g.out (zad hB _)
 have x:¬ (i:Int)<(n:Int):=by omega
 obtain rfl:i=n:=by omega
 have F:Hid (ShapeM cols i ln):=⟨by omega,by omega,by omega,HQ.out⟩
 obtain ⟨gO,J⟩:=exx gk
 clear J
 go_wp2
 go_loopg [5,7] i (fun gg ev jv wx=>∃ j:Nat,ev=.int .i64 0/\jv=.int .i64 (j:Nat)/\j<=i/\i<=j+gg/\Hid (∀ t,t<j->AllIn (P' ^ M') (ln t) (V t))/\wx.rowIs w.heap.size 24 3 (fldCell (.int .i64 (P':Nat)) (.int .i64 (M':Nat)) (.slice A k c))/\wx.rowIs (w.heap.size+1) 106 2 (matCell (.int .i64 cols) (.slice T i d))/\Below w.heap.size w wx)
 case atStart=>exact ⟨0,rfl,rfl,by omega,by omega,fun t ht=>absurd ht (by omega),rf,rm,hB⟩
 clear rf rm hB m0 m1
 obtain ⟨j,rfl,rfl,hj,Q,G,rf,rm,hB⟩:=hrel
 have R:(0:Int)<=(j:Int):=by omega
 have m0:=qc0 rm
 have m1:=qc1 rm
 by_cases hjt:j<i
 rotate_left
 ·have B:¬ (j:Int)<(i:Int):=by omega
  obtain rfl:j=i:=by omega
  have g:Hid (FirstErr [(GoodF (P':Int) (M':Int) k f,1),(ShapeM cols j ln,3),(ElemsM ((P':Int).toNat ^ (M':Int).toNat) j ln V,2)] 0):=.inr ⟨HG.out,.inr ⟨F.out,.inr ⟨by rw [Int.toNat_natCast,Int.toNat_natCast]; exact G.out,rfl⟩⟩⟩
  go_wp2
  go_ret
  exact errsPost g.out hB
 have B:(j:Int)<(i:Int):=by omega
 obtain ⟨b,o,RA,rc,hT,hb,x0,L,E,l,_⟩:=HT.out j hjt
 subst hT
 replace x0:=(hB.cell (p:=⟨b,o+j,none⟩) hb).trans x0
 have D:ln j<=9223372036854775807:=by unfold maxLen at E; omega
 clear L E
 have m:=l.on hB
 obtain ⟨lj,y⟩:=exx (ln j)
 rw [<-y] at x0 D m
 have H:=hid y
 clear l y
 have q0:=qc0 rf
 have q1:=qc1 rf
 have q2:=qc2 rf
 obtain ⟨w1,q⟩:=exx wr
 rw [<-q] at hB rf rm x0 q0 q1 q2 m0 m1 m ⊢;clear q
 go_wp2
 refine wp_region_held_drew (S:=fun w'=>w'.cell? ⟨w.heap.size,0,none⟩=some (.int .i64 (P':Nat))/\w'.cell? ⟨w.heap.size,1,none⟩=some (.int .i64 (M':Nat))/\w'.cell? ⟨w.heap.size,2,none⟩=some (.slice A k c)/\w'.cell? ⟨w.heap.size+1,1,none⟩=some (.slice (some ⟨b,o,none⟩) i d)/\w'.cell? ⟨b,o+j,none⟩=some (.slice RA lj rc)) (by kernel_rfl) ⟨cellS (Below.refl _ _).drew q0,cellS (Below.refl _ _).drew q1,cellS (Below.refl _ _).drew q2,cellS (Below.refl _ _).drew m1,cellS (Below.refl _ _).drew x0⟩ (fun hHeld=>?_)
 obtain ⟨w2,hw,kb⟩:=dwx w1
 rw [<-hw] at hHeld ⊢;clear hw;replace rf:=zab rf kb;replace rm:=zab rm kb;replace hB:=onS hB kb;replace x0:=cellS kb x0;replace q0:=cellS kb q0;replace q1:=cellS kb q1;replace q2:=cellS kb q2;replace m0:=cellS kb m0;replace m1:=cellS kb m1;replace m:=m.on kb;clear kb
 refine tkq 0 (h:=tkq 1 (h:=tkq 2 (h:=tkq 3 (h:=tkq 4 (h:=tkq 5 (h:=?_))))))
 refine rdq 6 (h:=fun K hK=>?_)
 go_simp
 go_wp2_with fail
 refine (zdx P' M' A k c RA lj rc (V j) w2 HF.out m D).mono ?_
 rintro e w3 ⟨v,rfl,hv,kb⟩
 replace rf:=zab rf kb;replace rm:=zab rm kb;replace hB:=onS hB kb;replace x0:=cellS kb x0;replace q0:=cellS kb q0;replace q1:=cellS kb q1;replace q2:=cellS kb q2;replace m0:=cellS kb m0;replace m1:=cellS kb m1;replace m:=m.on kb;clear kb
 have HV:=hid hv
 clear hv
 refine bkq hK ⟨q0,q1,q2,m1,x0⟩ (h:=fun hHeld=>?_)
 clear hK K
 refine tkq 7 (h:=?_)
 refine wpAnyH_done (by kernel_rfl) ?_ _
 clear hHeld;clear q0 q1 q2 m0 m1 x0 m
 rcases HV.out with ⟨rfl,hv⟩ | ⟨rfl,hv⟩
 ·have O:=hid hv
  clear hv HV
  go_wp2
  go_roundg (gk - 1)
  case measure=>omega
  refine ⟨j+1,rfl,by go_num,by omega,by omega,fun t ht=>?_,rf,rm,hB⟩
  by_cases e:t=j
  ·subst e; rw [<-H.out]; exact O.out
  ·exact G.out t (by omega)
 have g:Hid (FirstErr [(GoodF (P':Int) (M':Int) k f,1),(ShapeM cols i ln,3),(ElemsM ((P':Int).toNat ^ (M':Int).toNat) i ln V,2)] 2):=.inr ⟨HG.out,.inr ⟨F.out,.inl ⟨fun h=>hv (by rw [H.out]; simpa using h j hjt),rfl⟩⟩⟩
 clear hv HV
 go_wp2
 go_ret
 exact errsPost g.out hB
theorem FirstErr.app:∀ {l r:List (Prop × Int)} {v u:Int},(∀ x ∈ l,x.2≠0)->FirstErr l v->(v≠0->u=v)->(v=0->FirstErr r u)->FirstErr (l ++ r) u
 | [],_,_,_,_,h,_,h2=>h2 h
 | (p, e) :: l, r, v, u, hne, h, h1, h2 => by
  rcases h with ⟨hp,e1⟩ | ⟨hp,h⟩
  ·have h0:e≠0:=hne (p,e) (by simp)
   exact .inl ⟨hp,by rw [h1 (by rw [e1]; exact h0),e1]⟩
  ·exact .inr ⟨hp,FirstErr.app (fun x hx=>hne x (by simp [hx])) h h1 h2⟩
def natT (V:Nat->Nat->Int) (i j:Nat):Nat:=(V i j).toNat
theorem zcp {w:World} {T:Option Addr} {n cols q:Nat} {ln:Nat->Nat} {V:Nat->Nat->Int} (h:IntRows w T n ln V) (hs:ShapeM (cols:Int) n ln) (he:ElemsM q n ln V):MRows w T n cols (natT V)/\∀ i,i<n->∀ j,j<cols->natT V i j<q:=by
 have a:∀ i,i<n->ln i=cols:=fun i hi=>by have:=hs.2.2.2 i hi; omega
 refine ⟨fun i hi=>?_,fun i hi j hj=>?_⟩
 ·obtain ⟨b,off,A,c,e,h1,h2,h3,h4,h5,h6⟩:=h i hi
  rw [a i hi] at h2 h3 h5 h6
  have hv:∀ j,j<cols->V i j=((natT V i j:Nat):Int):=fun j hj=>by
   have:=he i hi j (by rw [a i hi]; exact hj)
   unfold natT
   omega
  exact ⟨b,off,A,c,e,h1,h2,h3,h4,h5.congr hv,fun j hj=>by show _<=((natT V i j:Nat):Int)/\((natT V i j:Nat):Int)<=_; rw [<-hv j hj]; exact h6 j hj⟩
 have:=he i hi j (by rw [a i hi]; exact hj)
 unfold natT
 omega
theorem MTab.rd {w:World} {base n k c q:Nat} {A:Option Addr} {W:Nat->Nat->Nat} (h:MTab w base (.slice A n c) n k W) (hq:q<=256) (hW:∀ i,i<n->∀ j,j<k->W i j<q):MRows w A n k W:=fun i hi=>by
 obtain ⟨b,o,RA,rc,e,h1,h2,h3,h4,h5⟩:=h.row hi
 have hfc:k<=rc/\rc<=maxLen:=by
  rcases h5 with ⟨e1,e2⟩ | ⟨g,o',cap,cur,e1,_,_,e3,e4,_⟩
  ·injection e1 with _ e3 e4
   subst e3 e4
   exact ⟨Nat.le_refl _,by unfold maxLen; omega⟩
  injection e1 with _ _ e5
  subst e5
  exact ⟨e3,e4⟩
 exact ⟨b,o,RA,rc,e,h2,h3,hfc.1,hfc.2,h5.rd rfl,fun j hj=>by have:=hW i hi j hj; show _<=((W i j:Nat):Int)/\((W i j:Nat):Int)<=_; omega⟩
def SpaceErrs (P M:Int) (k:Nat) (f:Nat->Int) (cols n:Nat) (ln:Nat->Nat) (V:Nat->Nat->Int):List (Prop × Int) :=
 [(GoodF P M k f,1),(ShapeM cols n ln,3),(ElemsM (P.toNat ^ M.toNat) n ln V,2),(RrefN (P.toNat ^ M.toNat) n cols (natT V),5)]
theorem zeV (P M:Int) (A:Option Addr) (k c:Nat) (f:Nat->Int) (cols:Nat) (T:Option Addr) (n d:Nat) (ln:Nat->Nat) (V:Nat->Nat->Int) (w:World) (hr:IntsR w w.heap.size A k f) (h:IntRows w T n ln V) (hc1:1<=cols) :
  Calls Tryz.prog 70 #[.agg #[.int .i64 P,.int .i64 M,.slice A k c],.agg #[.int .i64 (cols:Nat),.slice T n d]] w (ErrsPost (SpaceErrs P M k f cols n ln V) w):=by
 have HT:=hid h
 have HR:=hid hr
 clear h hr
 have rf:=zaq (w:=w) (a:=.int .i64 P) (b:=.int .i64 M) (c:=.slice A k c) (T := 24)
 have hB:=aly w (.cells #[.int .i64 P,.int .i64 M,.slice A k c] 24)
 have x:(w.alloc (.cells #[.int .i64 P,.int .i64 M,.slice A k c] 24)).heap.size=w.heap.size+1:=by simp
 obtain ⟨w0,s⟩:=exx (w.alloc (.cells #[.int .i64 P,.int .i64 M,.slice A k c] 24))
 have rm:=zat (w:=w0) (a:=.int .i64 (cols:Nat)) (b:=.slice T n d) (T := 106)
 have kb:=aly w0 (.cells #[.int .i64 (cols:Nat),.slice T n d] 106)
 obtain ⟨w1,o⟩:=exx (w0.alloc (.cells #[.int .i64 (cols:Nat),.slice T n d] 106))
 rw [<-s] at hB rf x;rw [<-o] at rm kb;rw [x] at rm;replace rf:=zab rf kb;replace hB:=onS hB kb
 go_enter Tryz.func70, Tryz.ntmps70
 go_upto_region 1 with fail
 rw [<-s,<-o];clear s o kb x
 have q0:=qc0 rf
 have q1:=qc1 rf
 have q2:=qc2 rf
 have m0:=qc0 rm
 have m1:=qc1 rm
 go_wp2_with fail
 refine (zeU P M A k c f cols T n d ln V w1 (HR.out.on hB) (HT.out.on hB)).mono ?_
 rintro e w2 ⟨v,rfl,hv,kb⟩
 replace rf:=zab rf kb;replace rm:=zab rm kb;replace hB:=onS hB kb;clear kb q0 q1 q2 m0 m1
 by_cases hv0:v=0
 rotate_left
 ·have Y:(v != 0)=true:=by simpa using hv0
  have m:=hid (FirstErr.app (r:=[(RrefN (P.toNat ^ M.toNat) n cols (natT V),5)]) (u:=v) (by simp) hv (fun _=>rfl) (fun h=>absurd h hv0))
  clear hv hv0
  go_wp2
  go_ret
  exact errsPost m.out hB
 subst hv0
 have m:=hid hv
 rcases hv with ⟨_,h9⟩ | ⟨hg,⟨_,h9⟩ | ⟨g,⟨_,h9⟩ | ⟨z,_⟩⟩⟩
 ·cases h9
 ·cases h9
 ·cases h9
 have y:=hg
 obtain ⟨P',M',rfl,rfl,hf,_⟩:=hg
 obtain ⟨U,S⟩:=y.field
 rw [Int.toNat_natCast,Int.toNat_natCast] at z
 obtain ⟨D,E⟩:=zcp HT.out g z
 have C:=g.2.2.1
 have F:=g.2.1
 have K:=hid (D.on hB)
 have X:=hid (y.mod HR.out)
 have L:=hid E
 have a0:=hid g
 have B:=hid U
 clear D E z y g hf
 have q0:=qc0 rf
 have q1:=qc1 rf
 have q2:=qc2 rf
 have m0:=qc0 rm
 have m1:=qc1 rm
 go_wp2_with fail
 refine (zez P' M' A k c _ T n d cols cols (natT V) w2 B.out (zaL X.out hB) S K.out L.out (Nat.le_refl _) (by omega) (by omega) (by omega)).mono ?_
 rintro e w3 ⟨lv,pv,a,p,W,rfl,hM,hP,kb,hE,G⟩
 obtain ⟨LA,lc,R⟩:=hM.shape
 subst R
 obtain ⟨PA,pc,Q⟩:=hP.shape
 subst Q
 have Z:=hE.le
 have I:=hid (hM.rd (q:=P' ^ M') B.out.1.2.2.2 fun i hi=>hE.lt i (by omega))
 have J:=hid (K.out.on kb)
 have N:=hid (zdy (fieldLaws B.out) L.out hE G)
 replace rf:=zab rf kb;replace rm:=zab rm kb;replace hB:=onS hB kb;clear kb q0 q1 q2 m0 m1 hM hP hE G
 have m1:=qc1 rm
 go_wp2_with fail
 refine (zd5 LA T a n lc d _ _ _ _ w3 I.out J.out (by omega) (by omega)).mono ?_
 rintro e w4 ⟨b,rfl,hb,kb⟩
 replace hB:=onS hB kb
 have O:Hid (b=true↔RrefN (P' ^ M') n cols (natT V)):=by
  refine hb.trans (Iff.trans ?_ N.out.symm)
  constructor
  ·intro h
   refine ⟨h.1,fun i hi j hj=>?_⟩
   have:=(h.2 i hi).2 j hj
   simp only at this
   omega
  intro h
  refine ⟨h.1,fun i hi=>⟨rfl,fun j hj=>?_⟩⟩
  show ((W i j:Nat):Int)=((natT V i j:Nat):Int)
  rw [h.2 i hi j hj]
 have H:Hid (∀ u:Int,FirstErr [(RrefN (P' ^ M') n cols (natT V),5)] u->FirstErr (SpaceErrs (P':Int) (M':Int) k f cols n ln V) u):=fun u hu=>by
  refine FirstErr.app (l:=[(GoodF (P':Int) (M':Int) k f,1),(ShapeM cols n ln,3),(ElemsM ((P':Int).toNat ^ (M':Int).toNat) n ln V,2)]) (by simp) m.out (fun h=>absurd rfl h) fun _=>?_
  rw [Int.toNat_natCast,Int.toNat_natCast]
  exact hu
 clear kb m1 rf rm hb N I J m
 cases b
 ·go_wp2
  go_ret
  exact errsPost (H.out _ (.inl ⟨fun h=>(by have:=O.out.2 h; cases this),rfl⟩)) hB
 go_wp2
 go_ret
 exact errsPost (H.out _ (.inr ⟨O.out.1 (by first | rfl | trivial),rfl⟩)) hB
def CodeErrs (P M:Int) (k:Nat) (f:Nat->Int) (N:Int) (n:Nat) (ln:Nat->Nat) (V:Nat->Nat->Int):List (Prop × Int) :=
 [(GoodF P M k f,1),(1<=N/\N<=64,4),(ShapeM N n ln,3),(ElemsM (P.toNat ^ M.toNat) n ln V,2),(RrefN (P.toNat ^ M.toNat) n N.toNat (natT V),5)]
def codCell (a b c d e:Value) (i:Nat):Value:=if i=0 then a else if i=1 then b else if i=2 then c else if i=3 then d else e
theorem KA.qc0 {w:World} {g:Nat} {T:TypeId} {a b c d e:Value} (h:w.rowIs g T 5 (codCell a b c d e)) : w.cell? ⟨g,0,none⟩=some a:=h.cell (i:=0) (by decide)
theorem KA.qc1 {w:World} {g:Nat} {T:TypeId} {a b c d e:Value} (h:w.rowIs g T 5 (codCell a b c d e)) : w.cell? ⟨g,1,none⟩=some b:=h.cell (i:=1) (by decide)
theorem KA.qc2 {w:World} {g:Nat} {T:TypeId} {a b c d e:Value} (h:w.rowIs g T 5 (codCell a b c d e)) : w.cell? ⟨g,2,none⟩=some c:=h.cell (i:=2) (by decide)
theorem KA.qc3 {w:World} {g:Nat} {T:TypeId} {a b c d e:Value} (h:w.rowIs g T 5 (codCell a b c d e)) : w.cell? ⟨g,3,none⟩=some d:=h.cell (i:=3) (by decide)
theorem KA.qc4 {w:World} {g:Nat} {T:TypeId} {a b c d e:Value} (h:w.rowIs g T 5 (codCell a b c d e)) : w.cell? ⟨g,4,none⟩=some e:=h.cell (i:=4) (by decide)
open KA
theorem za0 {w:World} {a b c d e:Value} {T:TypeId}:(w.alloc (.cells #[a,b,c,d,e] T)).rowIs w.heap.size T 5 (codCell a b c d e) :=
 ⟨#[a,b,c,d,e],zaw rfl,rfl,fun i hi=>by
  rcases (show i=0∨i=1∨i=2∨i=3∨i=4 by omega) with rfl | rfl | rfl | rfl | rfl <;> rfl⟩
theorem zbv (P M:Int) (A:Option Addr) (k c:Nat) (f:Nat->Int) (N:Int) (T:Option Addr) (n d:Nat) (ln:Nat->Nat) (V:Nat->Nat->Int) (w:World) (hr:IntsR w w.heap.size A k f) (h:IntRows w T n ln V) :
  Calls Tryz.prog 26 #[.agg #[.int .i64 P,.int .i64 M,.slice A k c,.int .i64 N,.slice T n d]] w (ErrsPost (CodeErrs P M k f N n ln V) w):=by
 have HT:=hid h
 have HR:=hid hr
 clear h hr
 have rf:=za0 (w:=w) (a:=.int .i64 P) (b:=.int .i64 M) (c:=.slice A k c) (d:=.int .i64 N) (e:=.slice T n d) (T := 27)
 have hB:=aly w (.cells #[.int .i64 P,.int .i64 M,.slice A k c,.int .i64 N,.slice T n d] 27)
 obtain ⟨w1,i⟩:=exx (w.alloc (.cells #[.int .i64 P,.int .i64 M,.slice A k c,.int .i64 N,.slice T n d] 27))
 rw [<-i] at hB rf
 go_enter Tryz.func26, Tryz.ntmps26
 go_upto_region 1 with fail
 rw [<-i];clear i
 have q0:=qc0 rf
 have q1:=qc1 rf
 have q2:=qc2 rf
 go_wp2_with fail
 refine (zcM P M A k c f w1 (HR.out.on hB)).mono ?_
 rintro e w2 ⟨v,rfl,hv,kb⟩
 replace rf:=zab rf kb;replace hB:=onS hB kb;clear kb q0 q1 q2
 rcases hv with ⟨rfl,hg⟩ | ⟨rfl,hg⟩
 rotate_left
 ·have g:Hid (FirstErr (CodeErrs P M k f N n ln V) 1):=.inl ⟨hg,rfl⟩
  clear hg
  go_wp2
  go_ret
  exact errsPost g.out hB
 have HG:=hid hg
 clear hg
 have q3:=qc3 rf
 by_cases hN1:N<1
 ·have g:Hid (FirstErr (CodeErrs P M k f N n ln V) 4):=.inr ⟨HG.out,.inl ⟨fun h=>by have:=h.1; omega,rfl⟩⟩
  go_wp2
  go_ret
  exact errsPost g.out hB
 by_cases hN2:N > 64
 ·have g:Hid (FirstErr (CodeErrs P M k f N n ln V) 4):=.inr ⟨HG.out,.inl ⟨fun h=>by have:=h.2; omega,rfl⟩⟩
  go_wp2
  go_ret
  exact errsPost g.out hB
 obtain ⟨cols,rfl⟩:∃ m:Nat,N=m:=⟨N.toNat,by omega⟩
 have q0:=qc0 rf
 have q1:=qc1 rf
 have q2:=qc2 rf
 have q4:=qc4 rf
 go_wp2_with fail
 refine (zeV P M A k c f cols T n d ln V w2 (HR.out.on hB) (HT.out.on hB) (by omega)).mono ?_
 rintro e w3 ⟨v,rfl,hv,kb⟩
 replace hB:=onS hB kb
 have j:Hid (FirstErr (CodeErrs P M k f cols n ln V) v):=by
  rcases hv with ⟨h1,_⟩ | ⟨_,h1⟩
  ·exact absurd HG.out h1
  ·exact .inr ⟨HG.out,.inr ⟨⟨by omega,by omega⟩,h1⟩⟩
 clear kb q0 q1 q2 q3 q4 rf hv
 go_wp2
 go_ret
 exact errsPost j.out hB
section
variable {w:World}
theorem zbf {ops:Array Oper} {o:Oper} {a:Act} {K:Act->World->Prop} {Q:Exit->Act->World->Prop} {E:Prop} (hgd:o.guard=none) (sl x:Operand)
  (ho:o.op=.call { callee:=.builtin .append,args:=#[sl,x],argTypes:=#[22, 22] })
  {b0 base:Nat} (hv:a.eval sl=.slice (some ⟨b0,0,none⟩) 0 0) (hr0:w.rowIs b0 3 0 (fun _=>undef)) (hbase:base<=b0) {A:Option Addr} {c n:Nat} {f:Nat->Int} (hx:a.eval x=.slice A n c)
  (hsrc:IntsR w w.heap.size A n f) (hlen:n<=1048576)
  (K':∀ v' w',Own w' base 3 1 v' n (fun j _=>.int .i64 (f j))->Below w.heap.size w w'->(v'.ownBlock=some b0∨v'.ownBlock=some w.heap.size)->K (a.put o.dst v') w') :
  if Region.wanted o (yielded ops a.tmps)=true then Oper.wp Tryz.prog o a w K Q else E:=by
 have hw:Region.wanted o (yielded ops a.tmps)=true:=by simp [Region.wanted,hgd]
 rw [if_pos hw]
 obtain ⟨i0,qi0,qz0,qz1,qz2⟩:=info_parts Tryz.infoInt
 have g:b0<w.heap.size:=hr0.lt
 have d:w.heap[b0]?=some (.cells #[] 3 (0,0)):=by
  obtain ⟨cs,h1,h2,_⟩:=hr0
  rw [h1,Array.eq_empty_of_size_eq_zero h2]
 by_cases h0:n=0
 ·have b:=zaH (P:=Tryz.prog) w 22 o.type 3 i0 Tryz.underlying22 qi0 b0 0 A c
  rw [h0] at hx
  unfold Oper.wp execOp
  simp only [ho,resolve,invoke,builtin,Sem.run_bind,Sem.run_pure,Result.andThen_ok,List.map_toArray,List.map_cons,List.map_nil,hv,hx,b]
  refine K' _ _ ?_ (Below.refl _ _) (.inl rfl)
  rw [h0]
  exact .inr ⟨b0,0,0,#[],rfl,hbase,d,Nat.le_refl _,by unfold maxLen; omega,by simp,fun i hi=>absurd hi (by omega)⟩
 obtain ⟨cap,cur,b,h2,h3,h4,h5⟩:=zaY (P:=Tryz.prog) w 22 o.type 3 i0 _ 1 8 Tryz.underlying22 qi0 qz0 qz1 qz2 rfl (by omega) (some ⟨b0,0,none⟩) A n c (fun j _=>.int .i64 (f j)) hsrc (by omega) (fun _ _ _ _=>rfl) (by unfold maxLen; omega) (by omega)
 unfold Oper.wp execOp
 simp only [ho,resolve,invoke,builtin,Sem.run_bind,Sem.run_pure,Result.andThen_ok,List.map_toArray,List.map_cons,List.map_nil,hv,hx,b]
 refine K' _ _ ?_ (((Below.refl _ _).alloc (Nat.le_refl _) _).drew) (.inr rfl)
 exact (Own.new (w:=w) (base:=base) (e := 3) (by omega) h2 h3 h4 h5).drew
end
theorem zaR {a w:World} {b:Nat} (h:a.grownBy w (some b)) (i:Nat) (v:Value):a.grownBy (w.setCell ⟨b,i,none⟩ v) (some b):=by
 have k:=zca w b i v
 exact ⟨k.os.trans h.os,k.tape.trans h.tape,k.output.trans h.output,Nat.le_trans h.size k.size,fun q hq hne=>(k.block q (Nat.lt_of_lt_of_le hq h.size) hne).trans (h.block q hq hne)⟩
theorem zaS {w:World} {base g m n s:Nat} {t e:TypeId} {F:Nat->Value} {v:Value} {f:Nat->Nat->Value} (hr:w.rowIs g t m F) (h:Own w base e s v n f) (hne:t≠e):v.ownBlock=none∨v.ownBlock≠some g:=by
 rcases h with ⟨rfl,_⟩ | ⟨b,o,cap,cur,rfl,_,hg,_⟩
 ·exact .inl rfl
 refine .inr fun e1=>?_
 obtain ⟨cs,h1,_⟩:=hr
 simp [Value.ownBlock] at e1
 subst e1
 rw [hg] at h1
 injection h1 with h1
 injection h1 with _ h1
 exact hne h1.symm
def ExpPost (q k most:Nat) (w:World) (e:Ending) (w':World):Prop :=
 ((q ^ k<=most/\e=.returned (.tuple #[.int .i64 (q ^ k:Nat),.int .i64 0]))∨(most<q ^ k/\e=.returned (.tuple #[.int .i64 0,.int .i64 8])))/\w'=w
theorem zhs {q i k most o:Nat} (hq:2<=q) (ho:o=q ^ i) (h:most / q<o) (hi:i<k):most<q ^ k:=by
 have h1:most<o*q:=by
  have:=(Nat.div_lt_iff_lt_mul (show 0<q by omega)).1 h
  exact this
 have h2:o*q=q ^ (i+1):=by rw [ho,Nat.pow_succ]
 have h3:q ^ (i+1)<=q ^ k:=Nat.pow_le_pow_right (by omega) (by omega)
 omega
theorem zgo (q k most:Nat) (w:World) (hq:2<=q) (hq2:q<=256) (hk:k<=1048576) (hm:1<=most) (hm2:most<=1048576) :
  Calls Tryz.prog 127 #[.int .i64 (q:Nat),.int .i64 (k:Nat),.int .i64 (most:Nat)] w (ExpPost q k most w):=by
 have g1:¬ (q:Int)<0:=by omega
 have g2:¬ (k:Int)<0:=by omega
 have g3:¬ (most:Int)<0:=by omega
 have g4:((q:Int) == 0)=false:=by simp; omega
 have g5:(q:Int) > 1:=by omega
 have g6:((q:Int) == -1)=false:=by simp
 have g7:(1:Int)<(q:Int):=by omega
 obtain ⟨z,hz⟩:=exx (most / q)
 have hd:(most:Int) / (q:Int)=(z:Int):=by rw [hz]; norm_cast
 have j:z<=most:=by rw [hz]; exact Nat.div_le_self _ _
 have HZ:=hid hz
 clear hz
 go_enter Tryz.func127, Tryz.ntmps127
 go_wp2
 go_loopg [8,9] k (fun gg ov iv wx=>∃ i o:Nat,ov=.int .i64 (o:Nat)/\iv=.int .i64 (i:Nat)/\i<=k/\k<=i+gg/\Hid (o=q ^ i)/\o<=most/\wx=w)
 case atStart=>exact ⟨0,1,rfl,rfl,by omega,by omega,rfl,hm,rfl⟩
 obtain ⟨i,o,rfl,rfl,hi,l,HO,e,b⟩:=hrel
 subst b
 have m:(0:Int)<=(i:Int):=by omega
 by_cases hlt:i<k
 rotate_left
 ·have a:¬ (i:Int)<(k:Int):=by omega
  obtain rfl:i=k:=by omega
  have d:¬ (o:Int) > (most:Int):=by omega
  go_wp2
  go_ret2
  exact ⟨.inl ⟨by rw [<-HO.out]; exact e,by rw [<-HO.out]; rfl⟩,rfl⟩
 have a:(i:Int)<(k:Int):=by omega
 by_cases hb:z<o
 ·have g:(o:Int) > (z:Int):=by omega
  have HF:=hid (zhs hq HO.out (by rw [<-HZ.out]; exact hb) hlt)
  clear hb
  go_wp2
  go_ret2
  exact ⟨.inr ⟨HF.out,rfl⟩,rfl⟩
 have g:¬ (o:Int) > (z:Int):=by omega
 obtain ⟨y,hy⟩:=exx (o*q)
 have c:y<=most:=by rw [hy]; exact Nat.le_trans (Nat.mul_le_mul_right q (Nat.not_lt.1 hb)) (by rw [HZ.out]; exact Nat.div_mul_le_self most q)
 have hc:(o:Int)*(q:Int)=(y:Int):=by rw [hy]; simp
 have h:Hid (y=q ^ (i+1)):=by show _=_; rw [hy,HO.out,Nat.pow_succ]
 clear hb hy
 go_wp2
 go_roundg (gk - 1)
 case measure=>omega
 case rel=>exact ⟨i+1,y,by go_num,by go_num,by omega,by omega,h,c,rfl⟩
structure CodeR (w:World) (P M:Nat) (m:Nat->Nat) (A:Option Addr) (k N:Nat) (T:Option Addr) (n:Nat) (V:Nat->Nat->Nat):Prop where
 fld:FieldOk P M m
 ints:IntsR w w.heap.size A k (fun i=>(m i:Nat))
 kM:M=1/\k=0∨2<=M/\k=M/\∀ i,i<M->m i<P
 ln1:1<=N
 ln2:N<=64
 rows:MRows w T n N V
 lt:∀ i,i<n->∀ j,j<N->V i j<P ^ M
 rref:RrefN (P ^ M) n N V
theorem EchN.pv_ge {q n k c a:Nat} {pv:Nat->Nat} {W:Nat->Nat->Nat} (h:EchN q n k c a pv W):∀ s,s<a->s<=pv s
 | 0,_=>Nat.zero_le _
 | s+1,hs=>by
  have h1:=EchN.pv_ge h s (by omega)
  have h2:=h.inc s (s+1) (by omega) hs
  omega
theorem EchN.le_c {q n k c a:Nat} {pv:Nat->Nat} {W:Nat->Nat->Nat} (h:EchN q n k c a pv W):a<=c:=by
 rcases Nat.eq_zero_or_pos a with h0 | h0
 ·omega
 have h1:=h.pv_ge (a - 1) (by omega)
 have h2:=h.pvlt (a - 1) (by omega)
 omega
section
variable {w w':World} {P M k N n:Nat} {m:Nat->Nat} {A T:Option Addr} {V:Nat->Nat->Nat}
theorem CodeR.on (h:CodeR w P M m A k N T n V) (hb:Below w.heap.size w w'):CodeR w' P M m A k N T n V :=
 ⟨h.fld,h.ints.on hb,h.kM,h.ln1,h.ln2,h.rows.on hb,h.lt,h.rref⟩
theorem CodeR.mod (h:CodeR w P M m A k N T n V):ModOk w P M A m:=by
 rcases h.kM with ⟨h1,_⟩ | ⟨_,h2,h3⟩
 ·exact .inl h1
 ·subst h2; exact .inr ⟨h.ints,h3⟩
theorem CodeR.km (h:CodeR w P M m A k N T n V):M=1∨k=M:=by
 rcases h.kM with ⟨h1,_⟩ | ⟨_,h2,_⟩
 ·exact .inl h1
 ·exact .inr h2
theorem CodeR.n_le (h:CodeR w P M m A k N T n V):n<=N:=by
 obtain ⟨p,hp⟩:=h.rref
 exact hp.le_c
theorem za1 {P M:Int} {k:Nat} {f:Nat->Int} {N:Int} {ln:Nat->Nat} {V:Nat->Nat->Int} (hr:IntsR w w.heap.size A k f) (h:IntRows w T n ln V) (hc:FirstErr (CodeErrs P M k f N n ln V) 0) :
  ∃ P' M' N':Nat,P=P'/\M=M'/\N=N'/\CodeR w P' M' (fun i=>(f i).toNat) A k N' T n (natT V):=by
 rcases hc with ⟨_,h9⟩ | ⟨hg,⟨_,h9⟩ | ⟨hN,⟨_,h9⟩ | ⟨hs,⟨_,h9⟩ | ⟨he,⟨_,h9⟩ | ⟨hR,_⟩⟩⟩⟩⟩
 ·cases h9
 ·cases h9
 ·cases h9
 ·cases h9
 ·cases h9
 have a:=hg
 obtain ⟨P',M',rfl,rfl,h3,h4,h5⟩:=hg
 obtain ⟨N',rfl⟩:∃ N':Nat,N=N':=⟨N.toNat,by omega⟩
 rw [Int.toNat_natCast,Int.toNat_natCast] at he hR;rw [Int.toNat_natCast] at hR
 obtain ⟨g1,g2⟩:=zcp h hs he
 refine ⟨P',M',N',rfl,rfl,rfl,a.field.1,?_,?_,by omega,by omega,g1,g2,hR⟩
 ·rcases h5 with ⟨e1,e2⟩ | ⟨e1,rfl,e3,e4⟩
  ·subst e2
   exact fun i hi=>absurd hi (by omega)
  ·exact hr.congr fun i hi=>by have:=e3 i hi; show f i=((f i).toNat:Int); omega
 rcases h5 with ⟨e1,e2⟩ | ⟨e1,e2,e3,e4⟩
 ·exact .inl ⟨e1,e2⟩
 ·exact .inr ⟨e1,e2,fun i hi=>by have:=e3 i hi; show (f i).toNat<P'; omega⟩
end
theorem MTab.kept {w w':World} {base n k g mm:Nat} {v:Value} {W:Nat->Nat->Nat} {t:TypeId} {F:Nat->Value} (h:MTab w base v n k W) (hg:w.grownBy w' (some g)) (hr:w.rowIs g t mm F) (h1:t ≠ 22) (h2:t ≠ 3):MTab w' base v n k W:=by
 obtain ⟨R,a,b⟩:=h
 exact ⟨R,a.kept hg (zaS hr a h1),fun i hi=>(b i hi).kept hg (zaS hr (b i hi) h2)⟩
theorem zht {V:Nat->Nat->Nat}:natT (fun i j=>(V i j:Int))=V:=by
 funext i j
 simp [natT]
theorem CodeR.errs {w:World} {P M k N n:Nat} {m:Nat->Nat} {A T:Option Addr} {V:Nat->Nat->Nat} (h:CodeR w P M m A k N T n V):FirstErr (CodeErrs (P:Int) (M:Int) k (fun i=>(m i:Int)) (N:Int) n (fun _=>N) (fun i j=>(V i j:Int))) 0:=by
 have hn:=h.n_le
 have h1:=h.ln1
 have h2:=h.ln2
 refine .inr ⟨?_,.inr ⟨⟨by omega,by omega⟩,.inr ⟨⟨by omega,by omega,by omega,fun i _=>rfl⟩,.inr ⟨?_,.inr ⟨?_,rfl⟩⟩⟩⟩⟩
 ·obtain ⟨h3,h4,h5,h6⟩:=h.fld
  refine ⟨P,M,rfl,rfl,h3,h4,?_⟩
  rcases h.kM with ⟨e1,e2⟩ | ⟨e1,e2,e3⟩
  ·exact .inl ⟨e1,e2⟩
  refine .inr ⟨e1,e2,fun i hi=>⟨Int.natCast_nonneg _,by have:=e3 i hi; show ((m i:Nat):Int)<(P:Int); omega⟩,?_⟩
  simp only [Int.toNat_natCast]
  exact h6
 ·rw [Int.toNat_natCast,Int.toNat_natCast]
  intro i hi j hj
  have:=h.lt i hi j hj
  exact ⟨Int.natCast_nonneg _,by show ((V i j:Nat):Int)<((P ^ M:Nat):Int); omega⟩
 ·rw [Int.toNat_natCast,Int.toNat_natCast,Int.toNat_natCast,zht]
  exact h.rref
def SizePost (P M:Int) (k:Nat) (f:Nat->Int) (N:Int) (n:Nat) (ln:Nat->Nat) (V:Nat->Nat->Int) (w:World) (e:Ending) (w':World):Prop :=
 ∃ v u:Int,e=.returned (.tuple #[.int .i64 v,.int .i64 u])/\FirstErr (CodeErrs P M k f N n ln V ++ [((P.toNat ^ M.toNat) ^ n<=65536,8)]) u/\(u=0->v=(((P.toNat ^ M.toNat) ^ n:Nat):Int))/\(u≠0->v=0)/\Below w.heap.size w w'
theorem zdz (P M:Int) (A:Option Addr) (k c:Nat) (f:Nat->Int) (N:Int) (T:Option Addr) (n d:Nat) (ln:Nat->Nat) (V:Nat->Nat->Int) (w:World) (hr:IntsR w w.heap.size A k f) (h:IntRows w T n ln V) :
  Calls Tryz.prog 65 #[.agg #[.int .i64 P,.int .i64 M,.slice A k c,.int .i64 N,.slice T n d]] w (SizePost P M k f N n ln V w):=by
 have HT:=hid h
 have HR:=hid hr
 clear h hr
 have rf:=za0 (w:=w) (a:=.int .i64 P) (b:=.int .i64 M) (c:=.slice A k c) (d:=.int .i64 N) (e:=.slice T n d) (T := 27)
 have hB:=aly w (.cells #[.int .i64 P,.int .i64 M,.slice A k c,.int .i64 N,.slice T n d] 27)
 obtain ⟨w1,i⟩:=exx (w.alloc (.cells #[.int .i64 P,.int .i64 M,.slice A k c,.int .i64 N,.slice T n d] 27))
 rw [<-i] at hB rf
 go_enter Tryz.func65, Tryz.ntmps65
 go_upto_region 1 with fail
 rw [<-i];clear i
 have q0:=qc0 rf
 have q1:=qc1 rf
 have q2:=qc2 rf
 have q3:=qc3 rf
 have q4:=qc4 rf
 go_wp2_with fail
 refine (zbv P M A k c f N T n d ln V w1 (HR.out.on hB) (HT.out.on hB)).mono ?_
 rintro e w2 ⟨v,rfl,hv,kb⟩
 replace rf:=zab rf kb;replace hB:=onS hB kb;clear kb q0 q1 q2 q3 q4
 by_cases hv0:v=0
 rotate_left
 ·have B:(v != 0)=true:=by simpa using hv0
  have l:=hid (FirstErr.app (r:=[((P.toNat ^ M.toNat) ^ n<=65536,8)]) (u:=v) (by simp [CodeErrs]) hv (fun _=>rfl) (fun h=>absurd h hv0))
  clear hv
  go_wp2
  go_ret2
  exact ⟨0,v,rfl,l.out,fun h=>absurd h hv0,fun _=>rfl,hB⟩
 subst hv0
 have l:=hid hv
 obtain ⟨P',M',N',rfl,rfl,rfl,hC⟩:=za1 HR.out HT.out hv
 have q:=hC.fld.1
 have x:=hC.n_le
 have z:=hC.ln2
 have p:=(fieldLaws hC.fld).two
 have g:=q.2.2.2
 have m:=hid (zbo q)
 clear hC hv
 have q0:=qc0 rf
 have q1:=qc1 rf
 have q2:=qc2 rf
 have q4:=qc4 rf
 go_wp2
 refine wp_region_held_drew (S:=fun w'=>w'.cell? ⟨w.heap.size,0,none⟩=some (.int .i64 (P':Nat))/\w'.cell? ⟨w.heap.size,1,none⟩=some (.int .i64 (M':Nat))/\w'.cell? ⟨w.heap.size,2,none⟩=some (.slice A k c)/\w'.cell? ⟨w.heap.size,4,none⟩=some (.slice T n d)) (by kernel_rfl) ⟨cellS (Below.refl _ _).drew (q0),cellS (Below.refl _ _).drew (q1),cellS (Below.refl _ _).drew (q2),cellS (Below.refl _ _).drew (q4)⟩ (fun hHeld=>?_)
 obtain ⟨w3,hw,kb⟩:=dwx w2
 rw [<-hw] at hHeld ⊢;clear hw;replace hB:=onS hB kb;replace q0:=cellS kb q0;replace q1:=cellS kb q1;replace q2:=cellS kb q2;replace q4:=cellS kb q4;clear kb
 refine tkq 0 (h:=tkq 1 (h:=tkq 3 (h:=tkq 4 (h:=tkq 5 (h:=?_)))))
 refine rdq 2 (h:=fun K hK=>?_)
 go_simp
 go_wp2_with fail
 refine (za2 (P':Int) (M':Int) A k c w3).mono ?_
 rintro e w4 ⟨rfl,kb⟩
 replace hB:=onS hB kb;replace q0:=cellS kb q0;replace q1:=cellS kb q1;replace q2:=cellS kb q2;replace q4:=cellS kb q4;clear kb;rw [m.out]
 obtain ⟨Q,hQ⟩:=exx (P' ^ M')
 rw [<-hQ]
 have HQ:=hid hQ
 rw [<-hQ] at p g;clear hQ
 refine bkq hK ⟨q0,q1,q2,q4⟩ (h:=fun hHeld=>?_)
 clear hK K
 refine rdq 6 (h:=fun K hK=>?_)
 go_simp
 go_wp2_with fail
 refine (zgo Q n 65536 w4 p g (by omega) (by omega) (by omega)).mono ?_
 rintro e w5 ⟨s,rfl⟩
 obtain ⟨y,u,rfl,o⟩:∃ y u:Int,e=.returned (.tuple #[.int .i64 y,.int .i64 u])/\((Q ^ n<=65536/\y=((Q ^ n:Nat):Int)/\u=0)∨(65536<Q ^ n/\y=0/\u=8)):=by
  rcases s with ⟨h1,rfl⟩ | ⟨h1,rfl⟩
  ·exact ⟨_,_,rfl,.inl ⟨h1,rfl,rfl⟩⟩
  ·exact ⟨_,_,rfl,.inr ⟨h1,rfl,rfl⟩⟩
 have j:=hid o
 clear s o
 refine bkq hK ⟨q0,q1,q2,q4⟩ (h:=fun hHeld=>?_)
 clear hK K
 refine tkq 7 (h:=tkq 8 (h:=tkq 9 (h:=tkq 10 (h:=?_))))
 refine wpAnyH_done (by kernel_rfl) ?_ _
 clear hHeld;clear q0 q1 q2 q4 rf
 go_wp2
 go_ret2
 refine ⟨y,u,rfl,?_,fun h=>?_,fun h=>?_,hB⟩
 ·refine FirstErr.app (by simp [CodeErrs]) l.out (fun h=>absurd rfl h) fun _=>?_
  rw [Int.toNat_natCast,Int.toNat_natCast,<-HQ.out]
  rcases j.out with ⟨h1,_,h3⟩ | ⟨h1,_,h3⟩
  ·exact .inr ⟨h1,h3⟩
  ·exact .inl ⟨by omega,h3⟩
 ·rw [Int.toNat_natCast,Int.toNat_natCast,<-HQ.out]
  rcases j.out with ⟨h1,h2,h3⟩ | ⟨h1,h2,h3⟩
  ·exact h2
  ·omega
 rcases j.out with ⟨h1,h2,h3⟩ | ⟨h1,h2,h3⟩
 ·exact absurd h3 h
 ·exact h2
def CountPost (most:Nat) (P M:Int) (k:Nat) (f:Nat->Int) (N:Int) (n:Nat) (ln:Nat->Nat) (V:Nat->Nat->Int) (w:World) (e:Ending) (w':World):Prop :=
 ∃ v:Int,e=.returned (.int .i64 v)/\((v=0/\¬ (FirstErr (CodeErrs P M k f N n ln V) 0/\(P.toNat ^ M.toNat) ^ n<=most))∨(FirstErr (CodeErrs P M k f N n ln V) 0/\(P.toNat ^ M.toNat) ^ n<=most/\v=(((P.toNat ^ M.toNat) ^ n:Nat):Int)))/\Below w.heap.size w w'
theorem FirstErr.app_zero:∀ {l r:List (Prop × Int)},(∀ x ∈ l,x.2≠0)->FirstErr (l ++ r) 0->FirstErr l 0/\FirstErr r 0
 | [],_,_,h=>⟨rfl,h⟩
 | (p, e) :: l, r, hne, h => by
  rcases h with ⟨_,h1⟩ | ⟨hp,h⟩
  ·exact absurd h1.symm (hne (p,e) (by simp))
  ·obtain ⟨h1,h2⟩:=FirstErr.app_zero (l:=l) (fun x hx=>hne x (by simp [hx])) h
   exact ⟨.inr ⟨hp,h1⟩,h2⟩
theorem FirstErr.app_all:∀ {l r:List (Prop × Int)},FirstErr l 0->FirstErr r 0->(∀ x ∈ l,x.2≠0)->FirstErr (l ++ r) 0
 | [],_,_,h,_=>h
 | (p,e) :: l,r,h1,h2,hne=>by
  rcases h1 with ⟨_,h3⟩ | ⟨hp,h1⟩
  ·exact absurd h3.symm (hne (p,e) (by simp))
  ·exact .inr ⟨hp,FirstErr.app_all h1 h2 fun x hx=>hne x (by simp [hx])⟩
theorem zeW (most:Nat) (P M:Int) (A:Option Addr) (k c:Nat) (f:Nat->Int) (N:Int) (T:Option Addr) (n d:Nat) (ln:Nat->Nat) (V:Nat->Nat->Int) (w:World) (hr:IntsR w w.heap.size A k f) (h:IntRows w T n ln V) (hm:most<=65536) :
  Calls Tryz.prog 21 #[.agg #[.int .i64 P,.int .i64 M,.slice A k c,.int .i64 N,.slice T n d],.int .i64 (most:Nat)] w (CountPost most P M k f N n ln V w):=by
 have HT:=hid h
 have HR:=hid hr
 clear h hr
 have rf:=za0 (w:=w) (a:=.int .i64 P) (b:=.int .i64 M) (c:=.slice A k c) (d:=.int .i64 N) (e:=.slice T n d) (T := 27)
 have hB:=aly w (.cells #[.int .i64 P,.int .i64 M,.slice A k c,.int .i64 N,.slice T n d] 27)
 obtain ⟨w1,g⟩:=exx (w.alloc (.cells #[.int .i64 P,.int .i64 M,.slice A k c,.int .i64 N,.slice T n d] 27))
 rw [<-g] at hB rf
 go_enter Tryz.func21, Tryz.ntmps21
 go_upto_region 1 with fail
 rw [<-g];clear g
 have q0:=qc0 rf
 have q1:=qc1 rf
 have q2:=qc2 rf
 have q3:=qc3 rf
 have q4:=qc4 rf
 go_wp2_with fail
 refine (zdz P M A k c f N T n d ln V w1 (HR.out.on hB) (HT.out.on hB)).mono ?_
 rintro e w2 ⟨v,u,rfl,hu,i,m,kb⟩
 replace hB:=onS hB kb
 have HU:=hid hu
 clear kb q0 q1 q2 q3 q4 rf hu
 by_cases hu0:u=0
 ·have hv:=i hu0
  have o:(u != 0)=false:=by simpa using hu0
  obtain ⟨hc,hs⟩:=FirstErr.app_zero (l:=CodeErrs P M k f N n ln V) (by simp [CodeErrs]) (by rw [<-hu0]; exact HU.out)
  have q:=hid hc
  have j:=hid hv
  clear hc hs hv i m hu0
  by_cases hvm:v > (most:Int)
  ·go_wp2
   go_ret
   exact ⟨0,rfl,.inl ⟨rfl,fun h=>by have:=h.2; have:=j.out; omega⟩,hB⟩
  go_wp2
  go_ret
  exact ⟨v,rfl,.inr ⟨q.out,by have:=j.out; omega,j.out⟩,hB⟩
 have o:(u != 0)=true:=by simpa using hu0
 have p:Hid (¬ (FirstErr (CodeErrs P M k f N n ln V) 0/\(P.toNat ^ M.toNat) ^ n<=most)):=by
  rintro ⟨h1,h2⟩
  exact hu0 (FirstErr.unique HU.out (FirstErr.app_all h1 (.inr ⟨Nat.le_trans h2 hm,rfl⟩) (by simp [CodeErrs])))
 clear i m hu0
 go_wp2
 go_ret
 exact ⟨0,rfl,.inl ⟨rfl,p.out⟩,hB⟩
open Go.ChangeShapes Go.WideShapes Go.ChangeAt
theorem zhu {P M:Nat} {m:Nat->Nat} {V:Nat->Nat->Nat} {x:Nat->Nat} (hL:FieldLaws (P ^ M) (addF P M) (mulF P M m)) {i j:Nat} (hx:x i<P ^ M) (y:Nat) (hy:y=spE (addF P M) (mulF P M m) V x i j):atF P M m (x i) (fun _=>y) (V i) j=spE (addF P M) (mulF P M m) V x (i+1) j:=by
 have a:y<P ^ M:=by rw [hy]; exact zaZ hL x i j
 unfold atF
 show _=addF P M (spE (addF P M) (mulF P M m) V x i j) (mulF P M m (x i) (V i j))
 rw [<-hy]
 split
 ·rename_i h
  rw [h,hL.mulZero hx,hL.addZero a]
 ·rfl
theorem zhv {P M:Nat} {m:Nat->Nat} {V:Nat->Nat->Nat} {x:Nat->Nat} (hL:FieldLaws (P ^ M) (addF P M) (mulF P M m)) {i j:Nat} (hx:x i=0) (hV:V i j<P ^ M):spE (addF P M) (mulF P M m) V x (i+1) j=spE (addF P M) (mulF P M m) V x i j:=by
 have h2:=hL.two
 show addF P M (spE (addF P M) (mulF P M m) V x i j) (mulF P M m (x i) (V i j))=_
 rw [hx,hL.mulComm 0 _ (by omega) hV,hL.mulZero hV,hL.addZero (zaZ hL x i j)]
theorem zeX (P M:Nat) (A:Option Addr) (k c:Nat) (m:Nat->Nat) (X:Option Addr) (xc:Nat) (x:Nat->Nat) (T:Option Addr) (n d N:Nat) (V:Nat->Nat->Nat) (w:World) (hf:FieldOk P M m) (hm:ModOk w P M A m) (hkM:M=1∨k=M)
  (hx:IntsR w w.heap.size X n (fun i=>(x i:Nat))) (hxq:∀ i,i<n->x i<P ^ M) (h:MRows w T n N V) (hV:∀ i,i<n->∀ j,j<N->V i j<P ^ M) (hN2:N<=1048576) (hn:n<=1048576) :
  Calls Tryz.prog 64 #[.agg #[.int .i64 (P:Nat),.int .i64 (M:Nat),.slice A k c],.slice X n xc,.slice T n d,.int .i64 (N:Nat)] w (RowPost N (fun j=>.int .i64 (spE (addF P M) (mulF P M m) V x n j:Nat)) w):=by
 have Q:=hf.1
 have hL:=fieldLaws hf
 have HX:=hid hx
 have H:=hid hxq
 have HT:=hid h
 have HV:=hid hV
 clear hx hxq h hV
 obtain ⟨w0,y,hB,rf⟩:=zaj w (.int .i64 (P:Nat)) (.int .i64 (M:Nat)) (.slice A k c) 24
 have C:=fun W=>zaf (P:=Tryz.prog) 22 3 _ 8 Tryz.underlying22 Tryz.infoInt rfl (N:Int) (by omega) (by omega) (by omega) W
 simp only [Int.toNat_natCast] at C
 go_enter Tryz.func64, Tryz.ntmps64
 go_upto_region 1 with fail
 rw [<-y];clear y
 go_upto_region 2 with fail
 have kb:=(Below.refl w0.heap.size w0).alloc (Nat.le_refl _) (Obj.cells (madeCells #[Value.int .i64 0] N) 3)
 have ra:=World.rowIs_made w0 (.int .i64 0) N 3
 have G:=rf.lt
 have D:=hB.size
 obtain ⟨w1,q⟩:=exx (w0.alloc (Obj.cells (madeCells #[Value.int .i64 0] N) 3))
 obtain ⟨g,hg⟩:=exx w0.heap.size
 rw [<-q] at kb ra ⊢;rw [<-hg] at ra G D ⊢;replace rf:=zab rf kb;replace hB:=onS hB kb
 have o:Hid (w1.rowIs g 3 N (fun j=>.int .i64 (spE (addF P M) (mulF P M m) V x 0 j:Nat))):=ra.congr fun t _=>rfl
 clear kb q hg C G ra
 go_wp2
 go_loopg [9,10] n (fun gg ov iv wx=>∃ i g2:Nat,ov=.slice (some ⟨g2,0,none⟩) N N/\iv=.int .i64 (i:Nat)/\w.heap.size<=g2/\i<=n/\n<=i+gg/\Hid (wx.rowIs g2 3 N (fun j=>.int .i64 (spE (addF P M) (mulF P M m) V x i j:Nat)))/\wx.rowIs w.heap.size 24 3 (fldCell (.int .i64 (P:Nat)) (.int .i64 (M:Nat)) (.slice A k c))/\Below w.heap.size w wx)
 case atStart=>exact ⟨0,g,rfl,rfl,D,by omega,by omega,o,rf,hB⟩
 clear rf hB o
 obtain ⟨i,g2,rfl,rfl,F,hi,a1,o,rf,hB⟩:=hrel
 have a2:(0:Int)<=(i:Int):=by omega
 by_cases hlt:i<n
 rotate_left
 ·have u:¬ (i:Int)<(n:Int):=by omega
  have hd:decide ((i:Int)<(n:Int))=false:=by simp; omega
  obtain rfl:i=n:=by omega
  go_wp2
  go_ret
  exact ⟨g2,rfl,F,o.out,hB⟩
 have u:(i:Int)<(n:Int):=by omega
 have hd:decide ((i:Int)<(n:Int))=true:=by simpa using hlt
 obtain ⟨xb,xo,U,J,x0⟩:=HX.out.at hlt
 subst U
 replace x0:=(hB.cell (p:=⟨xb,xo+i,none⟩) J).trans x0
 obtain ⟨a,ha⟩:=exx (x i)
 rw [<-ha] at x0
 have R:a<P ^ M:=by rw [ha]; exact H.out i hlt
 have HA:=hid ha
 clear ha
 by_cases ha0:a=0
 ·have v:((a:Int) != 0)=false:=by simp [ha0]
  have s:=hid (o.out.congr (g:=fun j=>.int .i64 (spE (addF P M) (mulF P M m) V x (i+1) j:Nat)) fun j hj=>by rw [zhv hL (by rw [<-HA.out,ha0]) (HV.out i hlt j hj)])
  clear ha0
  go_wp2
  go_roundg (gk - 1)
  case measure=>omega
  case rel=>exact ⟨i+1,g2,rfl,by go_num,F,by omega,by omega,s,rf,hB⟩
 have v:((a:Int) != 0)=true:=by simp; omega
 obtain ⟨tb,to0,RA,rc,Y,L,t0,_,_,r,_⟩:=HT.out i hlt
 subst Y
 replace t0:=(hB.cell (p:=⟨tb,to0+i,none⟩) L).trans t0
 have b:=r.on hB
 have l:=rowInts (w:=wr) (n:=N) (f:=fun j=>spE (addF P M) (mulF P M m) V x i j) o.out
 clear r ha0
 have q0:=qc0 rf
 have q1:=qc1 rf
 have q2:=qc2 rf
 obtain ⟨w1,q⟩:=exx wr
 rw [<-q] at hB rf x0 t0 q0 q1 q2 b l ⊢;clear q o
 go_wp2
 refine wp_region_held_drew (S:=fun w'=>w'.cell? ⟨w.heap.size,0,none⟩=some (.int .i64 (P:Nat))/\w'.cell? ⟨w.heap.size,1,none⟩=some (.int .i64 (M:Nat))/\w'.cell? ⟨w.heap.size,2,none⟩=some (.slice A k c)/\w'.cell? ⟨xb,xo+i,none⟩=some (.int .i64 (a:Nat))/\w'.cell? ⟨tb,to0+i,none⟩=some (.slice RA N rc)) (by kernel_rfl) ⟨cellS (Below.refl _ _).drew q0,cellS (Below.refl _ _).drew q1,cellS (Below.refl _ _).drew q2,cellS (Below.refl _ _).drew x0,cellS (Below.refl _ _).drew t0⟩ (fun hHeld=>?_)
 obtain ⟨w2,hw,kb⟩:=dwx w1
 rw [<-hw] at hHeld ⊢;clear hw;replace rf:=zab rf kb;replace hB:=onS hB kb;replace x0:=cellS kb x0;replace t0:=cellS kb t0;replace q0:=cellS kb q0;replace q1:=cellS kb q1;replace q2:=cellS kb q2;replace b:=b.on kb;replace l:=l.on kb;clear kb
 refine tkq 0 (h:=tkq 1 (h:=tkq 2 (h:=tkq 3 (h:=tkq 4 (h:=tkq 5 (h:=tkq 6 (h:=tkq 7 (h:=tkq 8 (h:=tkq 9 (h:=?_))))))))))
 refine rdq 10 (h:=fun K hK=>?_)
 go_simp
 go_wp2_with fail
 have a0:=hid hB.size
 refine (zer P M A k c m a (some ⟨g2,0,none⟩) RA N N N rc (fun j=>spE (addF P M) (mulF P M m) V x i j) (V i) w2 Q (zaL hm hB) hkM R l (fun j _=>zaZ hL x i j) b (HV.out i hlt) (Nat.le_refl _) hN2).mono ?_
 rintro e w3 ⟨g3,rfl,E,B,kb⟩
 replace rf:=zab rf kb;replace hB:=onS hB kb;replace x0:=cellS kb x0;replace t0:=cellS kb t0;replace q0:=cellS kb q0;replace q1:=cellS kb q1;replace q2:=cellS kb q2;replace b:=b.on kb;replace l:=l.on kb;clear kb
 have s:=hid B
 have I:=hid E
 clear B E
 refine bkq hK ⟨q0,q1,q2,x0,t0⟩ (h:=fun hHeld=>?_)
 clear hK K
 refine tkq 11 (h:=?_)
 refine wpAnyH_done (by kernel_rfl) ?_ _
 clear hHeld
 have Z:=hid (s.out.congr (g:=fun j=>.int .i64 (spE (addF P M) (mulF P M m) V x (i+1) j:Nat)) fun j _=>by rw [HA.out]; exact congrArg (fun z:Nat=>Value.int .i64 (z:Int)) (zhu (V:=V) (j:=j) hL (H.out i hlt) _ rfl))
 have O:w.heap.size<=g3:=Nat.le_trans a0.out I.out
 clear q0 q1 q2 x0 t0 b l s I
 go_wp2
 go_roundg (gk - 1)
 case measure=>omega
 case rel=>exact ⟨i+1,g3,rfl,by go_num,O,by omega,by omega,Z,rf,hB⟩
def msgD (q n x t:Nat):Nat:=dig q x (n - 1 - t)
theorem zdA {q n x t:Nat} (hq:0<q):msgD q n x t<q:=zbD hq x _
theorem zhw (x P M:Nat) (m:Nat->Nat) (A:Option Addr) (k c N:Nat) (T:Option Addr) (n d:Nat) (V:Nat->Nat->Nat) (w:World) (h:CodeR w P M m A k N T n V) (hx:x<=1048576) :
  Calls Tryz.prog 66 #[.agg #[.int .i64 (P:Nat),.int .i64 (M:Nat),.slice A k c,.int .i64 (N:Nat),.slice T n d],.int .i64 (x:Nat)] w (RowPost N (fun j=>.int .i64 (spE (addF P M) (mulF P M m) V (msgD (P ^ M) n x) n j:Nat)) w):=by
 have HC:=hid h
 have hn:=h.n_le
 have hN:=h.ln2
 have ah:=h.ln1
 have hL:=fieldLaws h.fld
 have K:=h.fld.1
 have F:=hid (zbo K)
 have o:=K.2.2.2
 have L:=hL.two
 clear h
 have rf:=za0 (w:=w) (a:=.int .i64 (P:Nat)) (b:=.int .i64 (M:Nat)) (c:=.slice A k c) (d:=.int .i64 (N:Nat)) (e:=.slice T n d) (T := 27)
 have hB:=aly w (.cells #[.int .i64 (P:Nat),.int .i64 (M:Nat),.slice A k c,.int .i64 (N:Nat),.slice T n d] 27)
 obtain ⟨w1,u⟩:=exx (w.alloc (.cells #[.int .i64 (P:Nat),.int .i64 (M:Nat),.slice A k c,.int .i64 (N:Nat),.slice T n d] 27))
 rw [<-u] at hB rf
 have I:=fun W=>zaf (P:=Tryz.prog) 22 3 _ 8 Tryz.underlying22 Tryz.infoInt rfl (n:Int) (by omega) (by omega) (by omega) W
 simp only [Int.toNat_natCast] at I
 go_enter Tryz.func66, Tryz.ntmps66
 go_upto_region 1 with fail
 rw [<-u];clear u
 have q0:=qc0 rf
 have q1:=qc1 rf
 have q2:=qc2 rf
 go_wp2_with fail
 refine (za2 (P:Int) (M:Int) A k c w1).mono ?_
 rintro e w2 ⟨rfl,kb⟩
 rw [F.out];replace rf:=zab rf kb;replace hB:=onS hB kb;clear kb q0 q1 q2
 obtain ⟨q,hQ⟩:=exx (P ^ M)
 rw [<-hQ]
 have HQ:=hid hQ
 rw [<-hQ] at L o;clear hQ
 have q4:=qc4 rf
 go_upto_region 3 with fail
 have row:=World.rowIs_made w2 (.int .i64 0) n 3
 have kb:=(Below.refl w2.heap.size w2).alloc (Nat.le_refl _) (Obj.cells (madeCells #[Value.int .i64 0] n) 3)
 obtain ⟨w3,G⟩:=exx (w2.alloc (Obj.cells (madeCells #[Value.int .i64 0] n) 3))
 obtain ⟨g,hg⟩:=exx w2.heap.size
 rw [<-G] at kb row ⊢;rw [<-hg] at row ⊢
 have U:w2.heap.size<=g:=by omega
 have a1:=hid rf
 have a7:=hid hB
 clear G hg q4 I rf hB
 have ad:(1:Int)<=(q:Int):=by omega
 have ae:¬ (q:Int)=0:=by omega
 have ac:(q:Int)<=256:=by omega
 go_wp2
 go_loopg [1,7] (n+1) (fun gg xv iv wx=>∃ j:Nat,iv=.int .i64 ((n:Int) - 1 - (j:Int))/\xv=.int .i64 (x / q ^ j:Nat)/\j<=n/\n+1<=j+gg/\wx.rowIs g 3 n (fun t=>.int .i64 (if n - 1 - t<j then (msgD q n x t:Nat) else 0:Int))/\Below w2.heap.size w2 wx)
 case atStart=>exact ⟨0,by simp,by simp,by omega,by omega,row.congr fun i _=>rfl,kb⟩
 clear row kb
 obtain ⟨j,rfl,rfl,hj,af,row,kb⟩:=hrel
 have Q:x / q ^ j<=x:=Nat.div_le_self _ _
 have v:x / q ^ (j+1)=x / q ^ j / q:=by rw [Nat.pow_succ,Nat.div_div_eq_div_mul]
 have E:dig q x j=x / q ^ j % q:=rfl
 obtain ⟨y,hy⟩:=exx (x / q ^ j)
 rw [<-hy] at Q v E;rw [<-hy]
 have Z:=hid v
 have a6:=hid E
 clear hy v E
 by_cases hlt:j<n
 rotate_left
 ·obtain rfl:j=n:=by omega
  have O:¬ ((j:Int) - 1 - (j:Int)) ≥ 0:=by omega
  have l:IntsR wr wr.heap.size (some ⟨g,0,none⟩) j (fun t=>((msgD q j x t:Nat):Int)):=rowInts (row.congr fun t ht=>by rw [if_pos (by omega)])
  have hB:=onS a7.out kb
  have rf:=zab a1.out kb
  have q0:=qc0 rf
  have q1:=qc1 rf
  have q2:=qc2 rf
  have q3:=qc3 rf
  have q4:=qc4 rf
  have a0:=hid l
  have h1:=HC.out.on hB
  have a3:Hid (∀ i,i<j->msgD q j x i<P ^ M):=fun i _=>by rw [<-HQ.out]; exact zdA (by omega)
  clear row kb l
  go_wp2_with fail
  refine (zeX P M A k c m (some ⟨g,0,none⟩) j (msgD q j x) T j d N V wr h1.fld h1.mod h1.km a0.out a3.out h1.rows h1.lt (by omega) (by omega)).mono ?_
  rintro e w5 ⟨g5,rfl,J,H,kb⟩
  have X:w.heap.size<=g5:=Nat.le_trans hB.size J
  have Y:=onS hB kb
  have a2:=hid H
  clear H kb hB rf q0 q1 q2 q3 q4 h1 J
  go_wp2
  go_ret
  exact ⟨g5,rfl,X,by rw [<-HQ.out]; exact a2.out,Y⟩
 obtain ⟨i,hi⟩:=exx (n - 1 - j)
 have C:(n:Int) - 1 - (j:Int)=(i:Int):=by omega
 have S:i<n:=by omega
 have R:(i:Int)<(n:Int):=by omega
 have ag:(0:Int)<=(i:Int):=by omega
 rw [C]
 have HI:=hid hi
 have a5:=hid C
 clear hi C
 have ab:(0:Int)<=(y:Int):=by omega
 have aa:(y:Int)<=1048576:=by omega
 have B:(y:Int) % (q:Int)=((y % q:Nat):Int):=by simp
 have D:(y:Int) / (q:Int)=((y / q:Nat):Int):=by simp
 obtain ⟨r,hr⟩:=exx (y % q)
 obtain ⟨z,hz⟩:=exx (y / q)
 rw [<-hr] at B;rw [<-hz] at D
 have a9:(0:Int)<=(z:Int):=by omega
 have a8:(z:Int)<=1048576:=by have:y / q<=y:=Nat.div_le_self _ _; omega
 have HR:=hid hr
 have HZ:=hid hz
 clear hr hz
 have c0:=row.cell S
 have z0:=row.frozen i
 have s:Hid ((wr.setCell ⟨g,i,none⟩ (.int .i64 (r:Int))).rowIs g 3 n (fun t=>.int .i64 (if n - 1 - t<j+1 then (msgD q n x t:Nat) else 0:Int))):=(row.set i _).congr fun t ht=>by
  have:=HI.out
  by_cases e:t=i
  ·subst e
   rw [if_pos rfl,if_pos (by omega)]
   unfold msgD
   rw [show n - 1 - t=j by omega,a6.out,HR.out]
  rw [if_neg e]
  by_cases e2:n - 1 - t<j
  ·rw [if_pos e2,if_pos (by omega)]
  ·rw [if_neg e2,if_neg (by omega)]
 have a4:=hid (kb.setCell (p:=⟨g,i,none⟩) U (.int .i64 (r:Int)))
 clear row kb
 go_wp2
 go_roundg (gk - 1)
 case measure=>omega
 case rel=>exact ⟨j+1,by have:=a5.out; show Value.int .i64 ((i:Int) - 1)=_; rw [<-this]; go_num,by rw [Z.out,HZ.out],by omega,by omega,s.out,a4.out⟩
def Words12Post (q:Nat) (add mul:Nat->Nat->Nat) (n N:Nat) (V:Nat->Nat->Nat) (w:World) (e:Ending) (w':World):Prop :=
 ∃ lv,e=.returned (.tuple #[lv,.int .i64 0])/\MTab w' w.heap.size lv (q ^ n) N (fun i=>spE add mul V (msgD q n i) n)/\Below w.heap.size w w'
theorem zeY (P M:Nat) (m:Nat->Nat) (A:Option Addr) (k c N:Nat) (T:Option Addr) (n d:Nat) (V:Nat->Nat->Nat) (w:World) (h:CodeR w P M m A k N T n V) (hsz:(P ^ M) ^ n<=65536) :
  Calls Tryz.prog 22 #[.agg #[.int .i64 (P:Nat),.int .i64 (M:Nat),.slice A k c,.int .i64 (N:Nat),.slice T n d]] w (Words12Post (P ^ M) (addF P M) (mulF P M m) n N V w):=by
 have HC:=hid h
 have hN:=h.ln2
 clear h
 have rf:=za0 (w:=w) (a:=.int .i64 (P:Nat)) (b:=.int .i64 (M:Nat)) (c:=.slice A k c) (d:=.int .i64 (N:Nat)) (e:=.slice T n d) (T := 27)
 have hB:=aly w (.cells #[.int .i64 (P:Nat),.int .i64 (M:Nat),.slice A k c,.int .i64 (N:Nat),.slice T n d] 27)
 obtain ⟨w1,p⟩:=exx (w.alloc (.cells #[.int .i64 (P:Nat),.int .i64 (M:Nat),.slice A k c,.int .i64 (N:Nat),.slice T n d] 27))
 rw [<-p] at hB rf
 go_enter Tryz.func22, Tryz.ntmps22
 go_upto_region 1 with fail
 rw [<-p];clear p
 have q0:=qc0 rf
 have q1:=qc1 rf
 have q2:=qc2 rf
 have q3:=qc3 rf
 have q4:=qc4 rf
 go_wp2_with fail
 have h1:=HC.out.on hB
 refine (zdz (P:Int) (M:Int) A k c _ (N:Int) T n d _ _ w1 h1.ints h1.rows).mono ?_
 rintro e w2 ⟨v,u,rfl,hu,y,H,kb⟩
 have B:u=0:=FirstErr.unique hu (FirstErr.app_all HC.out.errs (.inr ⟨by rw [Int.toNat_natCast,Int.toNat_natCast]; exact hsz,rfl⟩) (by simp [CodeErrs]))
 have hv:=y B
 rw [Int.toNat_natCast,Int.toNat_natCast] at hv
 subst B
 obtain ⟨S,hS⟩:∃ S,S=(P ^ M) ^ n:=⟨_,rfl⟩
 rw [<-hS] at hv hsz
 subst hv
 have J:=hid hS
 replace rf:=zab rf kb;replace hB:=onS hB kb;clear kb q0 q1 q2 q3 q4 hu y H h1 hS
 have H0:=hid (MTab.nil w2 w.heap.size N (fun i=>spE (addF P M) (mulF P M m) V (msgD (P ^ M) n i) n))
 go_wp2
 obtain ⟨nv,D⟩:∃ x:Value,x=.slice none 0 0:=⟨_,rfl⟩
 rw [<-D] at H0 ⊢;clear D
 go_loopg [6,7] S (fun gg ov iv wx=>∃ i:Nat,iv=.int .i64 (i:Nat)/\i<=S/\S<=i+gg/\Hid (MTab wx w.heap.size ov i N (fun i=>spE (addF P M) (mulF P M m) V (msgD (P ^ M) n i) n))/\wx.rowIs w.heap.size 27 5 (codCell (.int .i64 (P:Nat)) (.int .i64 (M:Nat)) (.slice A k c) (.int .i64 (N:Nat)) (.slice T n d))/\Below w.heap.size w wx)
 case atStart=>exact ⟨0,rfl,by omega,by omega,H0,rf,hB⟩
 clear H0 rf hB
 obtain ⟨i,rfl,hi,R,HM,rf,hB⟩:=hrel
 have U:(0:Int)<=(i:Int):=by omega
 by_cases hlt:i<S
 rotate_left
 ·have r:¬ (i:Int)<(S:Int):=by omega
  obtain rfl:i=S:=by omega
  go_wp2
  go_ret2
  exact ⟨_,rfl,by rw [<-J.out]; exact HM.out,hB⟩
 have r:(i:Int)<(S:Int):=by omega
 have q0:=qc0 rf
 have q1:=qc1 rf
 have q2:=qc2 rf
 have q3:=qc3 rf
 have q4:=qc4 rf
 have h1:=HC.out.on hB
 have z:∀ q,u6.ownBlock=some q->w.heap.size<=q:=fun q e=>(HM.out.choose_spec.1.lt q e).1
 have W:=hid z
 clear z
 go_wp2_with fail
 refine (zhw i P M m A k c N T n d V wr h1 (by omega)).mono ?_
 rintro e w3 ⟨g,rfl,hg,hr,kb⟩
 have C:=zbe hr (show w.heap.size<=g by have:=hB.size; omega) (show N<=maxLen by unfold maxLen; omega)
 have o:=(Below.refl w3.heap.size w3).alloc (Nat.le_refl _) (Obj.cells #[Value.slice (some ⟨g,0,none⟩) N N] 22)
 have I:=hid (C.on o)
 have F:=hid ((HM.out.on kb).on o)
 have G:=hid (onS (onS hB kb) o)
 have l:=hid (zab (zab rf kb) o)
 have O:Hid ((w3.alloc (Obj.cells #[Value.slice (some ⟨g,0,none⟩) N N] 22)).cell? ((⟨w3.heap.size,0,none⟩:Addr).add 0)=some (.slice (some ⟨g,0,none⟩) N N)):=tbox2
 have E:=hid G.out.size
 have L:Hid (i<=1048576):=by show _<=_; omega
 clear hr C kb o hg q0 q1 q2 q3 q4 rf hB h1
 go_wp2_with (first | (at_builtin; (refine za9 rfl (.tmp 21) (.tmp 25) rfl F.out rfl (ad:=⟨w3.heap.size,0,none⟩) (c:=1) rfl O.out rfl I.out E.out L.out ?_); intro v9 w9 o1 o2 o3))
 have K:=hid (o1.congr (W':=fun i=>spE (addF P M) (mulF P M m) V (msgD (P ^ M) n i) n) fun u hu j _=>by
  by_cases e:u=i
  ·subst e; rw [if_pos rfl]
  ·rw [if_neg e])
 have Q:=hid (G.out.grown o2 E.out o3)
 have s:=hid (l.out.of_block (o2.block _ l.out.lt fun e=>absurd (zaS l.out F.out.choose_spec.1 (by decide)) (by rw [<-e]; simp)))
 clear o1 o2 o3
 go_wp2
 go_roundg (gk - 1)
 case measure=>omega
 case rel=>exact ⟨i+1,by go_num,by omega,by omega,K,s.out,Q.out⟩
open Go
def rv (s:Bool) (x y:Nat):Rat:=mkRat (if s then -(x:Int) else x) y
theorem zib {q:Nat} (hq:0<q) {n x y:Nat} (hx:x<q ^ n) (hy:y<q ^ n) (h:∀ t,t<n->dig q x t=dig q y t):x=y:=zdp hq hx hy h
section
variable {q n k:Nat} {add mul:Nat->Nat->Nat} {V:Nat->Nat->Nat}
theorem EchN.spE_pv (hL:FieldLaws q add mul) {a:Nat} {p:Nat->Nat} (h:EchN q n k k a p V) {c:Nat->Nat} (hc:∀ i,i<a->c i<q) {s:Nat} (hs:s<a):spE add mul V c a (p s)=c s:=by
 have d:=h.le
 have b:∀ t,t<=a->spE add mul V c t (p s)=if s<t then c s else 0:=by
  intro t
  induction t with
  | zero=>intro _; rfl
  | succ t ih =>
   intro ht
   show add (spE add mul V c t (p s)) (mul (c t) (V t (p s)))=_
   rw [ih (by omega)]
   by_cases e:t=s
   ·subst e
    rw [if_neg (by omega),if_pos (by omega),h.one t hs,hL.mulOne (hc t hs),hL.zeroAdd _ (hc t hs)]
   ·rw [h.zero s hs t (by omega) e,hL.mulZero (hc t (by omega))]
    by_cases e2:s<t
    ·rw [if_pos e2,if_pos (by omega),hL.addZero (hc s hs)]
    ·have:=hL.two
     rw [if_neg e2,if_neg (by omega),hL.addZero (by omega)]
 rw [b a (Nat.le_refl _),if_pos hs]
end
structure OnEl (q:Nat) (add mul:Nat->Nat->Nat) [Add (El q)] [Mul (El q)] [Neg (El q)] [Zero (El q)] [One (El q)]:Prop where
 fie:Fie (El q)
 ha:∀ x y:El q,(x+y).val=add x.val y.val
 hm:∀ x y:El q,(x*y).val=mul x.val y.val
 h0:(0:El q).val=0
 h1:(1:El q).val=1
section
variable {P M g:Nat} {m:Nat->Nat} {w:World}
theorem zeZ (a n:Nat) (V:Option Addr) (d:Nat) (v:Nat->Nat) (h:GF w w.heap.size g P M m) (ha:a<P ^ M) (hv:IntsR w w.heap.size V n (fun i=>(v i:Nat))) (hvq:∀ i,i<n->v i<P ^ M) (hn:n<=1048576) :
  Calls Tryz.prog 253 #[.pointer (some ⟨g,0,none⟩),.int .i64 (a:Nat),.slice V n d] w (RowPost n (fun i=>.int .i64 (mulF P M m a (v i):Nat)) w):=by
 have hq:=h.ok.1.2.2.2
 have HG:=hid h
 have HV:=hid hv
 have s:=hid hvq
 have y:=hid (zal ha)
 clear h hv hvq
 have l:=fun W=>zaf (P:=Tryz.prog) 22 3 _ 8 Tryz.underlying22 Tryz.infoInt rfl (n:Int) (by omega) (by omega) (by omega) W
 simp only [Int.toNat_natCast] at l
 go_enter Tryz.func253, Tryz.ntmps253
 go_upto_region 2 with fail
 have hB:=(Below.refl w.heap.size w).alloc (Nat.le_refl _) (Obj.cells (madeCells #[Value.int .i64 0] n) 3)
 have ra:=World.rowIs_made w (.int .i64 0) n 3
 obtain ⟨w1,j⟩:=exx (w.alloc (Obj.cells (madeCells #[Value.int .i64 0] n) 3))
 obtain ⟨r,hr⟩:=exx w.heap.size
 rw [<-j] at hB ra ⊢;rw [<-hr] at ra ⊢
 have k:w.heap.size<=r:=by omega
 have F:=hid hr
 clear j hr l
 go_wp2
 go_loopg [15] n (fun gg iv wx=>∃ i:Nat,iv=.int .i64 (i:Nat)/\i<=n/\n<=i+gg/\wx.rowIs r 3 n (fun t=>.int .i64 ((if t<i then mulF P M m a (v t) else 0:Nat):Int))/\Below w.heap.size w wx)
 case atStart=>exact ⟨0,rfl,by omega,by omega,ra.congr fun t _=>by rw [if_neg (by omega)]; rfl,hB⟩
 clear ra hB
 obtain ⟨i,rfl,hi,D,ra,hB⟩:=hrel
 have E:(0:Int)<=(i:Int):=by omega
 by_cases hlt:i<n
 rotate_left
 ·obtain rfl:i=n:=by omega
  have c:¬ (i:Int)<(i:Int):=by omega
  have b:Hid (wr.rowIs r 3 i (fun t=>.int .i64 (mulF P M m a (v t):Nat))):=ra.congr fun t ht=>by rw [if_pos ht]
  clear ra
  go_wp2
  go_ret
  exact ⟨r,rfl,k,b.out,hB⟩
 have c:(i:Int)<(n:Int):=by omega
 obtain ⟨vb,vo,rfl,q,x0⟩:=HV.out.at hlt
 have C:vb≠r:=by omega
 replace x0:=(hB.cell (p:=⟨vb,vo+i,none⟩) q).trans x0
 obtain ⟨x,hx⟩:=exx (v i)
 have o:inV (P ^ M) (x:Nat)=x:=by rw [hx]; exact zal (s.out i hlt)
 rw [<-hx] at x0
 have HX:=hid hx
 have u:=hid o
 clear hx o
 have hG:=HG.out.at hB hB.size
 go_wp2_with fail
 refine (zaU (a:Int) (x:Int) hG).mono ?_
 rintro e w2 ⟨rfl,kb⟩
 rw [y.out,u.out];replace ra:=zab ra kb;replace hB:=onS hB kb;clear kb hG x0
 obtain ⟨z,hz⟩:=exx (mulF P M m a x)
 rw [<-hz]
 have ra2:(w2.setCell ⟨r,i,none⟩ (.int .i64 (z:Int))).rowIs r 3 n (fun t=>.int .i64 ((if t<i+1 then mulF P M m a (v t) else 0:Nat):Int)):=(ra.set i _).congr fun t ht=>by
  by_cases e:t=i
  ·subst e
   rw [if_pos rfl,if_pos (by omega),hz,HX.out]
  rw [if_neg e]
  by_cases e2:t<i
  ·rw [if_pos e2,if_pos (by omega)]
  ·rw [if_neg e2,if_neg (by omega)]
 have RA:=hid ra2
 have B:Hid (Below w.heap.size w (w2.setCell ⟨r,i,none⟩ (.int .i64 (z:Int)))):=hB.setCell k _
 have c0:=ra.cell hlt
 have z0:=ra.frozen i
 clear hz ra2 ra hB
 go_wp2
 clear c0 z0
 go_roundg (gk - 1)
 case measure=>omega
 case rel=>exact ⟨i+1,by go_num,by omega,by omega,RA.out,B.out⟩
end
theorem ze0 (P M:Int) (A:Option Addr) (k c:Nat) (f:Nat->Int) (w:World) (hr:IntsR w w.heap.size A k f) :
  Calls Tryz.prog 128 #[.agg #[.int .i64 P,.int .i64 M,.slice A k c]] w (CheckPost (GoodF P M k f) w):=by
 obtain ⟨w0,l,hB,rf⟩:=zaj w (.int .i64 P) (.int .i64 M) (.slice A k c) 24
 go_enter Tryz.func128, Tryz.ntmps128
 go_upto_region 1 with fail
 rw [<-l];clear l
 have q0:=qc0 rf
 have q1:=qc1 rf
 have q2:=qc2 rf
 refine wp_region_held_drew (S:=fun w'=>w'.cell? ⟨w.heap.size,0,none⟩=some (.int .i64 P)/\w'.cell? ⟨w.heap.size,1,none⟩=some (.int .i64 M)/\w'.cell? ⟨w.heap.size,2,none⟩=some (.slice A k c)) (by kernel_rfl) ⟨cellS (Below.refl _ _).drew q0,cellS (Below.refl _ _).drew q1,cellS (Below.refl _ _).drew q2⟩ (fun hHeld=>?_)
 obtain ⟨w1,hw,kb⟩:=dwx w0
 rw [<-hw] at hHeld ⊢;clear hw;replace hB:=onS hB kb;replace rf:=zab rf kb;clear kb q0 q1 q2
 refine tkq 0 (h:=rdq 1 (h:=fun K hK=>?_))
 go_simp
 go_wp2_with fail
 refine (zew P M A k c f w1 (hr.on hB)).mono ?_
 rintro e w2 ⟨b,rfl,hb,kb⟩
 replace hB:=onS hB kb;replace rf:=zab rf kb
 have g:=hid hb
 clear kb hb
 have q0:=qc0 rf
 have q1:=qc1 rf
 have q2:=qc2 rf
 cases b
 ·have a:Hid (¬ GoodF P M k f):=fun h=>by have:=g.out.2 h.shape; cases this
  refine bkq hK ⟨q0,q1,q2⟩ (h:=fun hHeld=>?_)
  clear hK K
  refine tkq 2 (h:=tkq 3 (h:=tkn 4 (h:=tkn 5 (h:=tkn 6 (h:=tkn 7 (h:=tkn 8 (h:=tkn 9 (h:=tkn 10 (h:=tkn 11 (h:=tkq 12 (h:=?_)))))))))))
  refine wpAnyH_done (by kernel_rfl) ?_ _
  clear hHeld
  go_wp2
  go_ret
  exact zaD a.out hB
 have hs:=g.out.1 rfl
 clear g
 obtain ⟨P,M,rfl,rfl,hf,m⟩:=hs.fld
 have HS:=hid hs
 have HF:=hid hf
 have r:Hid (M=1∨k=M):=m
 have p:=hid (zbo hf)
 clear hs hf m
 refine bkq hK ⟨q0,q1,q2⟩ (h:=fun hHeld=>?_)
 clear hK K
 refine tkq 2 (h:=tkq 3 (h:=tkq 4 (h:=tkq 5 (h:=tkq 6 (h:=tkq 7 (h:=tkq 8 (h:=rdq 9 (h:=fun K hK=>?_))))))))
 go_simp
 go_wp2_with fail
 refine (zbR (P:Int) (M:Int) _).mono ?_
 rintro e w3 ⟨rfl,kb⟩
 rw [p.out];replace hB:=onS hB kb;replace rf:=zab rf kb;clear kb q0 q1 q2
 refine bkq hK ⟨qc0 rf,qc1 rf,qc2 rf⟩ (h:=fun hHeld=>?_)
 clear hK K
 refine rdq 10 (h:=fun K hK=>?_)
 go_simp
 go_wp2_with fail
 refine (zb3 P M A k c (fun i=>(f i).toNat) (P ^ M) w3 HF.out (HS.out.mod (hr.on hB)) r.out rfl).mono ?_
 rintro e w4 ⟨kb,hg⟩
 have HG:=hid hg
 replace hB:=onS hB kb;replace rf:=zab rf kb;clear kb hg
 rcases HG.out with ⟨rfl,a⟩ | ⟨lv,x,rfl,o,j,n,hO⟩
 ·have a:Hid (¬ GoodF (P:Int) (M:Int) k f):=fun h=>by
   obtain ⟨x,h1,h2,h3⟩:=HS.out.good.1 h
   exact a x h1 h2 h3
  refine bkq hK ⟨qc0 rf,qc1 rf,qc2 rf⟩ (h:=fun hHeld=>?_)
  clear hK K
  have he:∀ w:World,(binOp .eql 22 (.slice none 0 0) (.slice none 0 0)).run Tryz.prog w=.ok (.bool true) w:=fun _=>rfl
  refine tkq 11 (h:=tkq 12 (h:=?_))
  refine wpAnyH_done (by kernel_rfl) ?_ _
  clear hHeld
  go_wp2
  go_ret
  exact zaD a.out hB
 have d:Hid (GoodF (P:Int) (M:Int) k f):=HS.out.good.2 ⟨x,o,j,n⟩
 have q:P ^ M - 1≠0:=by omega
 obtain ⟨lb,lo,lc,rfl,_⟩:=hO.form (by omega)
 obtain ⟨L,hL⟩:=exx (P ^ M - 1)
 rw [<-hL];clear q hO j hL n HG
 refine bkq hK ⟨qc0 rf,qc1 rf,qc2 rf⟩ (h:=fun hHeld=>?_)
 clear hK K
 have he:∀ w:World,(binOp .eql 22 (.slice (some ⟨lb,lo,none⟩) L lc) (.slice none 0 0)).run Tryz.prog w=.ok (.bool false) w:=fun _=>rfl
 refine tkq 11 (h:=tkq 12 (h:=?_))
 refine wpAnyH_done (by kernel_rfl) ?_ _
 clear hHeld
 go_wp2
 go_ret
 exact zbQ d.out hB
def lgP (p:Nat->Nat):Nat->Nat->Nat
 | 0,_=>0
 | n+1,t=>if t=p n then n else lgP p n t
theorem zic {q:Nat} {p:Nat->Nat} {N i:Nat} (h:PwOk q p N):∀ n,n<=N->i<n->lgP p n (p i)=i
 | 0,_,hi=>by omega
 | n + 1, hn, hi => by
  show (if p i=p n then n else lgP p n (p i))=i
  by_cases e:i=n
  ·subst e; rw [if_pos rfl]
  ·rw [if_neg (h.inj i n (by omega) (by omega))]
   exact zic h n (by omega) (by omega)
theorem zgp {w:World} {a b c d e f:Value} {T:TypeId}:(w.alloc (.cells #[a,b,c,d,e,f] T)).rowIs w.heap.size T 6 (gfCell a b c d e f) :=
 ⟨_,zaw rfl,rfl,fun i hi=>by
  match i,hi with
  | 0,_=>rfl
  | 1,_=>rfl
  | 2,_=>rfl
  | 3,_=>rfl
  | 4,_=>rfl
  | 5,_=>rfl⟩
theorem zgq {w:World} {base e s n:Nat} {v:Value} {f:Nat->Nat->Value} (h:Own w base e s v n f):v.ownBlock=none∨v.ownBlock≠some w.heap.size:=.inr fun e=>by have:=(h.lt _ e).2; omega
def GFU (w:World) (base B g P M:Nat) (m:Nat->Nat):Prop:=∃ A k c eb eo ec lb lo lc x lg,GFr w B g P M m A k c eb eo ec lb lo lc x lg/\base<=g/\base<=eb/\base<=lb/\∀ ad,A=some ad->base<=ad.block
theorem GFU.gf {w:World} {base B g P M:Nat} {m:Nat->Nat} (h:GFU w base B g P M m):GF w B g P M m:=by
 obtain ⟨A,k,c,eb,eo,ec,lb,lo,lc,x,lg,h,_⟩:=h
 exact ⟨A,k,c,eb,eo,ec,lb,lo,lc,x,lg,h⟩
theorem GFU.grown {w w':World} {base g P M b:Nat} {m:Nat->Nat} (h:GFU w base w.heap.size g P M m) (hg:w.grownBy w' (some b)) (hb:b<base):GFU w' base w'.heap.size g P M m:=by
 obtain ⟨A,k,c,eb,eo,ec,lb,lo,lc,x,lg,h,h1,h2,h3,h4⟩:=h
 have d:∀ {ad:Option Addr} {n:Nat} {f:Nat->Int},IntsR w w.heap.size ad n f->(∀ a,ad=some a->base<=a.block)->IntsR w' w'.heap.size ad n f:=fun {ad n f} hr ha i hi=>by
  obtain ⟨q,o,e,hq,hc⟩:=hr i hi
  refine ⟨q,o,e,Nat.lt_of_lt_of_le hq hg.size,fun j hj=>?_⟩
  have l:base<=q:=ha _ e
  exact (World.cell?_of_block (w:=w) (a:=⟨q,o+i*1+j,none⟩) (hg.block q hq (by intro e; injection e with e; omega))).trans (hc j hj)
 exact ⟨A,k,c,eb,eo,ec,lb,lo,lc,x,lg,⟨h.ok,h.km,h.row.of_block (hg.block g h.row.lt (by intro e; injection e with e; omega)),Nat.lt_of_lt_of_le h.lt hg.size,d h.md h4,d h.ex (fun a e=>by injection e with e; subst e; exact h2),d h.lgr (fun a e=>by injection e with e; subst e; exact h3),h.x0,h.xq,h.gen,h.lgs⟩,h1,h2,h3,h4⟩
def NewPost (P M:Int) (k:Nat) (f:Nat->Int) (w:World) (e:Ending) (w':World):Prop :=
 Below w.heap.size w w'/\((¬ GoodF P M k f/\e=.returned (.tuple #[.pointer none,.int .i64 1])) ∨
  (GoodF P M k f/\∃ g P' M',P=(P':Nat)/\M=(M':Nat)/\e=.returned (.tuple #[.pointer (some ⟨g,0,none⟩),.int .i64 0])/\w.heap.size<=g/\GFU w' w.heap.size w'.heap.size g P' M' (fun i=>(f i).toNat)))
theorem zbK (P M:Int) (A:Option Addr) (k c:Nat) (f:Nat->Int) (w:World) (hr:IntsR w w.heap.size A k f) :
  Calls Tryz.prog 74 #[.agg #[.int .i64 P,.int .i64 M,.slice A k c]] w (NewPost P M k f w):=by
 obtain ⟨w0,a5,hB,rf⟩:=zaj w (.int .i64 P) (.int .i64 M) (.slice A k c) 24
 go_enter Tryz.func74, Tryz.ntmps74
 go_upto_region 1 with fail
 rw [<-a5];clear a5
 have q0:=qc0 rf
 have q1:=qc1 rf
 have q2:=qc2 rf
 go_wp2_with fail
 refine (zew P M A k c f w0 (hr.on hB)).mono ?_
 rintro e w1 ⟨b,rfl,hb,kb⟩
 replace hB:=onS hB kb;replace rf:=zab rf kb
 have a3:=hid hb
 clear kb hb q0 q1 q2
 cases b
 ·have F:Hid (¬ GoodF P M k f):=fun h=>by have:=a3.out.2 h.shape; cases this
  go_wp2
  go_ret2
  exact ⟨hB,.inl ⟨F.out,rfl⟩⟩
 have hs:=a3.out.1 rfl
 clear a3
 obtain ⟨P,M,rfl,rfl,hf,a9⟩:=hs.fld
 have ac:Hid ((M=1/\k=0)∨(2<=M/\k=M)):=by
  obtain ⟨P',M',h1,h2,_,_,h5⟩:=hs
  obtain rfl:M=M':=by omega
  rcases h5 with h | ⟨a,b,_⟩
  ·exact .inl h
  ·exact .inr ⟨a,b⟩
 have HS:=hid hs
 have HF:=hid hf
 have am:Hid (M=1∨k=M):=a9
 have af:=hf.2.2.2
 have aw:=hf.2.2.1
 have ar:k<=8:=by rcases ac.out with h | h <;> omega
 obtain ⟨Q,hQ⟩:=exx (P ^ M)
 have ah:Hid (ordV (P:Int) (M:Int)=(Q:Int)):=by show _=_; rw [zbo hf,hQ]
 rw [<-hQ] at af
 have HQ:=hid hQ
 clear hs hf a9 hQ
 have q0:=qc0 rf
 have q1:=qc1 rf
 have q2:=qc2 rf
 go_wp2_with fail
 refine (zbR (P:Int) (M:Int) _).mono ?_
 rintro e w2 ⟨rfl,kb⟩
 rw [ah.out];replace hB:=onS hB kb;replace rf:=zab rf kb;clear kb q0 q1 q2
 have q0:=qc0 rf
 have q1:=qc1 rf
 have q2:=qc2 rf
 go_wp2_with fail
 refine (zb3 P M A k c (fun i=>(f i).toNat) Q w2 HF.out (HS.out.mod (hr.on hB)) am.out HQ.out).mono ?_
 rintro e w3 ⟨kb,hg⟩
 have HG:=hid hg
 have aa:=hB.size
 replace hB:=onS hB kb;replace rf:=zab rf kb;clear kb hg q0 q1 q2
 rcases HG.out with ⟨rfl,F⟩ | ⟨lv,x,rfl,O,N,J,hO⟩
 ·have F:Hid (¬ GoodF (P:Int) (M:Int) k f):=fun h=>by
   obtain ⟨x,h1,h2,h3⟩:=HS.out.good.1 h
   exact F x h1 (by rw [HQ.out]; exact h2) (by rw [HQ.out]; exact h3)
  have he:∀ w:World,(binOp .eql 22 (.slice none 0 0) (.slice none 0 0)).run Tryz.prog w=.ok (.bool true) w:=fun _=>rfl
  go_wp2
  go_ret2
  exact ⟨hB,.inl ⟨F.out,rfl⟩⟩
 have z:Hid (GoodF (P:Int) (M:Int) k f):=HS.out.good.2 ⟨x,O,by rw [<-HQ.out]; exact N,by rw [<-HQ.out]; exact J⟩
 obtain ⟨lb,lo,lc,rfl,_⟩:=hO.form (by omega)
 obtain ⟨L,hL⟩:=exx (Q - 1)
 obtain ⟨p,hp⟩:=exx (pwG (mulF P M fun i=>(f i).toNat) x)
 have E:PwOk Q p L:=by rw [hL,hp]; exact J.1
 have ab:=hid E
 have an:=hid J
 have HL:=hid hL
 have aj:=hid hp
 rw [<-hL,<-hp] at hO;rw [<-hL]
 have ay:0<L:=by omega
 have ax:L+1=Q:=by omega
 have HX:Hid (1<=x/\x<Q):=⟨O,N⟩
 clear hL J HG E hp O N
 have he:∀ w:World,(binOp .eql 22 (.slice (some ⟨lb,lo,none⟩) L lc) (.slice none 0 0)).run Tryz.prog w=.ok (.bool false) w:=fun _=>rfl
 go_wp2
 clear he
 have d:=hO.mono aa
 clear hO aa
 have X:=hid hr
 obtain ⟨w1,a4⟩:=exx w3
 rw [<-a4] at d hB rf ⊢;clear a4 hr
 have q0:=qc0 rf
 have q1:=qc1 rf
 have q2:=qc2 rf
 have a7:=fun W=>zaf (P:=Tryz.prog) 22 3 _ 8 Tryz.underlying22 Tryz.infoInt rfl (Q:Int) (by omega) (by omega) (by omega) W
 simp only [Int.toNat_natCast] at a7
 go_cut [6] (fun v6 wx=>∃ gg A7 c7 gl,v6=.pointer (some ⟨gg,0,none⟩)/\w.heap.size<=gg/\wx.rowIs gg 182 6 (gfCell (.int .i64 (P:Nat)) (.int .i64 (M:Nat)) (.slice A7 k c7) (.int .i64 (Q:Nat)) (.slice (some ⟨lb,lo,none⟩) L lc) (.slice (some ⟨gl,0,none⟩) Q Q))/\wx.rowIs gl 3 Q (fun _=>.int .i64 0)/\Own wx w.heap.size 3 1 (.slice A7 k c7) k (fun j _=>.int .i64 (f j))/\((Value.slice A7 k c7).ownBlock=none∨(Value.slice A7 k c7).ownBlock≠some gl)/\lb≠gl/\Own wx w.heap.size 3 1 (.slice (some ⟨lb,lo,none⟩) L lc) L (fun i _=>.int .i64 (p i:Nat))/\w.heap.size<=gl/\Below w.heap.size w wx)
 case rest =>
  obtain ⟨gg,A7,c7,gl,rfl,I,rg,rl,a8,m,G,hO,r,hB⟩:=hcut
  clear d rf q0 q1 q2 a7
  have B:=hid a8
  have al:=hid m
  have ak:=hid G
  have v:=hid hO
  have u:=hid rg
  have H:gl≠gg:=fun e=>by
   obtain ⟨cs,h1,_⟩:=rl
   obtain ⟨cs',h2,_⟩:=rg
   rw [e,h2] at h1
   injection h1 with h1
   injection h1 with _ h1
   exact absurd h1 (by decide)
  have ao:=hid H
  have HB:=hid hB
  have s:=hid (rl.congr (g:=fun t=>.int .i64 (lgP p 0 t:Nat)) fun t _=>rfl)
  clear a8 m G hO rg H hB rl
  go_wp2
  go_loopg [39] L (fun g2 iv wx=>∃ i:Nat,iv=.int .i64 (i:Nat)/\i<=L/\L<=i+g2/\Hid (wx.rowIs gl 3 Q (fun t=>.int .i64 (lgP p i t:Nat)))/\Hid (wx.rowIs gg 182 6 (gfCell (.int .i64 (P:Nat)) (.int .i64 (M:Nat)) (.slice A7 k c7) (.int .i64 (Q:Nat)) (.slice (some ⟨lb,lo,none⟩) L lc) (.slice (some ⟨gl,0,none⟩) Q Q)))/\Hid (Own wx w.heap.size 3 1 (.slice A7 k c7) k (fun j _=>.int .i64 (f j)))/\Hid (Own wx w.heap.size 3 1 (.slice (some ⟨lb,lo,none⟩) L lc) L (fun i _=>.int .i64 (p i:Nat)))/\Hid (Below w.heap.size w wx))
  case atStart=>exact ⟨0,rfl,by omega,by omega,s,u,B,v,HB⟩
  clear s u B v HB
  obtain ⟨i,rfl,hi,au,s,u,B,v,HB⟩:=hrel
  have av:(0:Int)<=(i:Int):=by omega
  by_cases hlt:i<L
  ·have R:(i:Int)<(L:Int):=by omega
   have a6:=ab.out.lt i hlt
   have x0:=(show IntsR wr wr.heap.size (some ⟨lb,lo,none⟩) L (fun i=>((p i:Nat):Int)) from v.out.rd rfl).here hlt
   obtain ⟨y,hy⟩:=exx (p i)
   rw [<-hy] at x0 a6
   have aq:(y:Int)<(Q:Int):=by omega
   have g5:=qc5 u.out
   have y0:=s.out.cell (i:=y) a6
   have z0:=s.out.frozen y
   have Y:=hid ((s.out.set y (.int .i64 (i:Nat))).congr (g:=fun t=>.int .i64 (lgP p (i+1) t:Nat)) fun t _=>by
    show (if t=y then Value.int .i64 (i:Nat) else .int .i64 (lgP p i t:Nat))=.int .i64 ((if t=p i then i else lgP p i t:Nat):Int)
    rw [<-hy]
    split <;> rfl)
   have Z:=hid (u.out.setOther (a:=⟨gl,y,none⟩) (by simpa using fun e=>ao.out e.symm) (.int .i64 (i:Nat)))
   have a1:=hid (B.out.setCell (a:=⟨gl,y,none⟩) (fun e=>al.out.elim (fun h=>by rw [h] at e; cases e) fun h=>h e) (.int .i64 (i:Nat)))
   have a0:=hid (v.out.setCell (a:=⟨gl,y,none⟩) (fun e=>ak.out (by injection e)) (.int .i64 (i:Nat)))
   have ap:=hid (HB.out.setCell (p:=⟨gl,y,none⟩) (by show w.heap.size<=gl; exact r) (.int .i64 (i:Nat)))
   clear hy s u B v HB
   go_wp2
   go_roundg (gk - 1)
   case measure=>omega
   case rel=>exact ⟨i+1,by go_num,by omega,by omega,Y,Z,a1,a0,ap⟩
  obtain rfl:i=L:=by omega
  have R:¬ (i:Int)<(i:Int):=by omega
  have a2:Hid (GFU wr w.heap.size wr.heap.size gg P M (fun i=>(f i).toNat)):=by
   have ag:=aj.out
   subst ag
   have ae:=HQ.out
   subst ae
   have U:=HL.out
   have ai:=z.out.field.1
   refine ⟨A7,k,c7,lb,lo,lc,gl,0,P ^ M,x,lgP (pwG (mulF P M fun i=>(f i).toNat) x) i,⟨ai,ac.out,?_,u.out.lt,?_,?_,?_,HX.out.1,HX.out.2,an.out,fun t ht=>?_⟩,I,(v.out.lt lb rfl).1,r,fun ad e=>(B.out.lt ad.block (by rw [e]; rfl)).1⟩
   ·rw [<-U]; exact u.out
   ·refine IntsR.congr (show IntsR wr wr.heap.size A7 k f from B.out.rd rfl) fun t ht=>?_
    obtain ⟨P',M',h1,h2,h3,h4,h5⟩:=z.out
    obtain rfl:M=M':=by omega
    rcases h5 with ⟨_,e⟩ | ⟨_,e,h,_⟩
    ·omega
    ·have:=h t (by omega); show f t=((f t).toNat:Int); omega
   ·rw [<-U]; exact v.out.rd rfl
   ·exact zbd s.out
   ·rw [<-U] at ht
    exact zic ab.out i (Nat.le_refl _) ht
  go_wp2
  go_ret2
  exact ⟨HB.out,.inr ⟨z.out,gg,P,M,rfl,rfl,rfl,I,a2.out⟩⟩
 refine wp_region_held_drew (S:=fun w'=>w'.cell? ⟨w.heap.size,0,none⟩=some (.int .i64 (P:Nat))/\w'.cell? ⟨w.heap.size,1,none⟩=some (.int .i64 (M:Nat))/\w'.cell? ⟨w.heap.size,2,none⟩=some (.slice A k c)) (by kernel_rfl) ⟨cellS (Below.refl _ _).drew (q0),cellS (Below.refl _ _).drew (q1),cellS (Below.refl _ _).drew (q2)⟩ (fun hHeld=>?_)
 obtain ⟨w2,hw,kb⟩:=dwx w1
 rw [<-hw] at hHeld ⊢;clear hw;replace rf:=zab rf kb;replace hB:=onS hB kb;replace d:=d.on kb;replace q0:=cellS kb q0;replace q1:=cellS kb q1;replace q2:=cellS kb q2;clear kb
 refine tkq 0 (h:=tkq 1 (h:=tkq 2 (h:=tkq 3 (h:=tkq 5 (h:=tkq 6 (h:=tkq 9 (h:=tkq 10 (h:=tkq 11 (h:=?_)))))))))
 refine rdq2 4 12 (h:=fun K hK=>?_) (h2:=fun K hK=>?_)
 focus
  go_simp
  obtain ⟨w3,hw⟩:=exx (World.alloc w2 (Obj.cells #[] 3))
  have kb:=alx hw
  have n0:w3.rowIs w2.heap.size 3 0 (fun _=>undef):=by rw [hw]; exact ⟨_,zaw rfl,rfl,fun i hi=>absurd hi (by omega)⟩
  have q:w.heap.size<=w2.heap.size:=hB.size
  rw [<-hw];clear hw
  obtain ⟨b0,hb⟩:=exx w2.heap.size
  rw [<-hb] at n0 q ⊢;clear hb;replace rf:=zab rf kb;replace hB:=onS hB kb;replace d:=d.on kb;replace q0:=cellS kb q0;replace q1:=cellS kb q1;replace q2:=cellS kb q2;clear kb
  refine bkq hK ⟨q0,q1,q2⟩ (h:=fun hHeld=>?_)
  clear hK K
  refine rdq2 7 12 (h:=fun K hK=>?_) (h2:=fun K hK=>?_)
  focus
   have l:=X.out.on hB
   refine zbf (by rfl) (.tmp 26) (.tmp 28) (by rfl) (b0:=b0) (base:=w.heap.size) (by rfl) n0 q (A:=A) (c:=c) (n:=k) (f:=f) (by rfl) l (by omega) ?_
   intro v7 w4 o kb hat7
   clear hat7 l n0 q;replace rf:=zab rf kb;replace hB:=onS hB kb;replace d:=d.on kb;replace q0:=cellS kb q0;replace q1:=cellS kb q1;replace q2:=cellS kb q2;clear kb
   obtain ⟨A7,c7,D⟩:=Own.shape o
   subst D
   refine bkq hK ⟨q0,q1,q2⟩ (h:=fun hHeld=>?_)
   clear hK K
   refine tkq 8 (h:=?_)
   refine rdq 12 (h:=fun K hK=>?_)
   go_simp
   obtain ⟨w5,hw⟩:=exx (World.alloc w4 (Obj.cells (madeCells #[.int .i64 0] Q) 3))
   have kb:=alx hw
   have rl:w5.rowIs w4.heap.size 3 Q (fun _=>.int .i64 0):=by rw [hw]; exact World.rowIs_made w4 (.int .i64 0) Q 3
   have r:w.heap.size<=w4.heap.size:=hB.size
   have C:lb≠w4.heap.size:=by have:=(d.lt lb rfl).2; omega
   have m:(Value.slice A7 k c7).ownBlock=none∨(Value.slice A7 k c7).ownBlock≠some w4.heap.size:=zgq o
   rw [<-hw];clear hw
   obtain ⟨gl,hb⟩:=exx w4.heap.size
   rw [<-hb] at rl r C m ⊢;clear hb;replace rf:=zab rf kb;replace hB:=onS hB kb;replace d:=d.on kb;replace q0:=cellS kb q0;replace q1:=cellS kb q1;replace q2:=cellS kb q2;replace o:=o.on kb;clear kb
   refine bkq hK ⟨q0,q1,q2⟩ (h:=fun hHeld=>?_)
   clear hK K
   refine tkq 13 (h:=?_)
  rotate_left
  focus
   go_simp
   obtain ⟨w4,hw⟩:=exx (World.alloc w3 (Obj.cells (madeCells #[.int .i64 0] Q) 3))
   have kb:=alx hw
   have rl:w4.rowIs w3.heap.size 3 Q (fun _=>.int .i64 0):=by rw [hw]; exact World.rowIs_made w3 (.int .i64 0) Q 3
   have r:w.heap.size<=w3.heap.size:=hB.size
   have C:lb≠w3.heap.size:=by have:=(d.lt lb rfl).2; omega
   have V:b0≠w3.heap.size:=by have:=n0.lt; omega
   rw [<-hw];clear hw
   obtain ⟨gl,hb⟩:=exx w3.heap.size
   rw [<-hb] at rl r C V ⊢;clear hb;replace rf:=zab rf kb;replace n0:=zab n0 kb;replace hB:=onS hB kb;replace d:=d.on kb;replace q0:=cellS kb q0;replace q1:=cellS kb q1;replace q2:=cellS kb q2;clear kb
   refine bkq hK ⟨q0,q1,q2⟩ (h:=fun hHeld=>?_)
   clear hK K
   refine rdq 7 (h:=fun K hK=>?_)
   have l:=X.out.on hB
   have T:=rl.lt
   refine zbf (by rfl) (.tmp 26) (.tmp 28) (by rfl) (b0:=b0) (base:=w.heap.size) (by rfl) n0 q (A:=A) (c:=c) (n:=k) (f:=f) (by rfl) l (by omega) ?_
   intro v7 w5 o kb hat7
   have m:v7.ownBlock=none∨v7.ownBlock≠some gl:=.inr fun e=>by
    rcases hat7 with h | h <;> (rw [h] at e; injection e with e; omega)
   clear T;clear hat7 l n0 q;replace rf:=zab rf kb;replace rl:=zab rl kb;replace hB:=onS hB kb;replace d:=d.on kb;replace q0:=cellS kb q0;replace q1:=cellS kb q1;replace q2:=cellS kb q2;clear kb
   obtain ⟨A7,c7,D⟩:=Own.shape o
   subst D
   refine bkq hK ⟨q0,q1,q2⟩ (h:=fun hHeld=>?_)
   clear hK K
   refine tkq 8 (h:=tkq 13 (h:=?_))
  rotate_left
 rotate_left 2
 focus
  go_simp
  obtain ⟨w3,hw⟩:=exx (World.alloc w2 (Obj.cells (madeCells #[.int .i64 0] Q) 3))
  have kb:=alx hw
  have rl:w3.rowIs w2.heap.size 3 Q (fun _=>.int .i64 0):=by rw [hw]; exact World.rowIs_made w2 (.int .i64 0) Q 3
  have r:w.heap.size<=w2.heap.size:=hB.size
  have C:lb≠w2.heap.size:=by have:=(d.lt lb rfl).2; omega
  rw [<-hw];clear hw
  obtain ⟨gl,hb⟩:=exx w2.heap.size
  rw [<-hb] at rl r C ⊢;clear hb;replace rf:=zab rf kb;replace hB:=onS hB kb;replace d:=d.on kb;replace q0:=cellS kb q0;replace q1:=cellS kb q1;replace q2:=cellS kb q2;clear kb
  refine bkq hK ⟨q0,q1,q2⟩ (h:=fun hHeld=>?_)
  clear hK K
  refine rdq 4 (h:=fun K hK=>?_)
  go_simp
  obtain ⟨w4,hw⟩:=exx (World.alloc w3 (Obj.cells #[] 3))
  have kb:=alx hw
  have n0:w4.rowIs w3.heap.size 3 0 (fun _=>undef):=by rw [hw]; exact ⟨_,zaw rfl,rfl,fun i hi=>absurd hi (by omega)⟩
  have q:w.heap.size<=w3.heap.size:=hB.size
  have V:w3.heap.size≠gl:=by have:=rl.lt; omega
  rw [<-hw];clear hw
  obtain ⟨b0,hb⟩:=exx w3.heap.size
  rw [<-hb] at n0 q V ⊢;clear hb;replace rf:=zab rf kb;replace rl:=zab rl kb;replace hB:=onS hB kb;replace d:=d.on kb;replace q0:=cellS kb q0;replace q1:=cellS kb q1;replace q2:=cellS kb q2;clear kb
  refine bkq hK ⟨q0,q1,q2⟩ (h:=fun hHeld=>?_)
  clear hK K
  refine rdq 7 (h:=fun K hK=>?_)
  have l:=X.out.on hB
  have T:=rl.lt
  refine zbf (by rfl) (.tmp 26) (.tmp 28) (by rfl) (b0:=b0) (base:=w.heap.size) (by rfl) n0 q (A:=A) (c:=c) (n:=k) (f:=f) (by rfl) l (by omega) ?_
  intro v7 w5 o kb hat7
  have m:v7.ownBlock=none∨v7.ownBlock≠some gl:=.inr fun e=>by
   rcases hat7 with h | h <;> (rw [h] at e; injection e with e; omega)
  clear T;clear hat7 l n0 q;replace rf:=zab rf kb;replace rl:=zab rl kb;replace hB:=onS hB kb;replace d:=d.on kb;replace q0:=cellS kb q0;replace q1:=cellS kb q1;replace q2:=cellS kb q2;clear kb
  obtain ⟨A7,c7,D⟩:=Own.shape o
  subst D
  refine bkq hK ⟨q0,q1,q2⟩ (h:=fun hHeld=>?_)
  clear hK K
  refine tkq 8 (h:=tkq 13 (h:=?_))
 rotate_left
 all_goals
  refine rdq 14 (h:=fun K hK=>?_)
  go_simp
  obtain ⟨w6,hw⟩:=exx (World.alloc w5 (Obj.cells #[.int .i64 (P:Nat),.int .i64 (M:Nat),.slice A7 k c7,.int .i64 (Q:Nat),.slice (some ⟨lb,lo,none⟩) L lc,.slice (some ⟨gl,0,none⟩) Q Q] 182))
  have kb:=alx hw
  have rg:w6.rowIs w5.heap.size 182 6 (gfCell (.int .i64 (P:Nat)) (.int .i64 (M:Nat)) (.slice A7 k c7) (.int .i64 (Q:Nat)) (.slice (some ⟨lb,lo,none⟩) L lc) (.slice (some ⟨gl,0,none⟩) Q Q)):=by rw [hw]; exact zgp
  have I:w.heap.size<=w5.heap.size:=hB.size
  rw [<-hw];clear hw
  obtain ⟨gg,hb⟩:=exx w5.heap.size
  rw [<-hb] at rg I ⊢;clear hb;replace rf:=zab rf kb;replace rl:=zab rl kb;replace hB:=onS hB kb;replace d:=d.on kb;replace q0:=cellS kb q0;replace q1:=cellS kb q1;replace q2:=cellS kb q2;replace o:=o.on kb;clear kb
  refine bkq hK ⟨q0,q1,q2⟩ (h:=fun hHeld=>?_)
  clear hK K
  refine tkq 15 (h:=?_)
  refine wpAnyH_done (by kernel_rfl) ?_ _
  clear hHeld
  go_wp2
  go_meet
  exact ⟨gg,A7,c7,gl,rfl,I,rg,rl,o,m,C,d,r,hB⟩
theorem zay (w:World) (a b c d e:Value) (T:TypeId):∃ W,W=w.alloc (.cells #[a,b,c,d,e] T)/\Below w.heap.size w W/\W.rowIs w.heap.size T 5 (codCell a b c d e):=⟨_,rfl,(Below.refl _ _).alloc (Nat.le_refl _) _,za0⟩
end Go.Proofs.YtgekjfpapmlndaaGreat
