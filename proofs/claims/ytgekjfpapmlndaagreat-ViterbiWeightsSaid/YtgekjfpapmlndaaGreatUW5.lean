/- Merged texts of a claim: Chk12, Null, CodeE, Dual12, WordsAll, AppCells, NatC, RatA, RatB, Rat13, RatC, PolyA, PAddAll, PMulAll, RefEval, PolyC, WtsAll, PatAll, UndAll, DualPl, Turn09, Cont47, Gf1, Gf2. -/
import Derived.Test.YtgekjfpapmlndaaGreatUW4
import Derived.Deep.QuietTactic
import Derived.BigQuiet
import Derived.Deep.CutBlock
import Derived.Deep.DeepCutAuto
import Derived.Deep.LoopGhost
import Derived.StillTailTactics
import Derived.Deep.RegionHeld3
import Derived.Laws.CopyOwn
namespace Go.Proofs.YtgekjfpapmlndaaGreat
set_option maxRecDepth 100000
set_option maxHeartbeats 32000000
open KB KE
open Go.RowKit
def CanonPost (q:Nat) (add mul:Nat->Nat->Nat) (n k cols:Nat) (V:Nat->Nat->Nat) (w:World) (e:Ending) (w':World):Prop :=
 ∃ lv pv a p W,e=.returned (.tuple #[lv,pv])/\MTab w' w.heap.size lv a k W/\Own w' w.heap.size 3 1 pv a (fun j _=>.int .i64 (p j:Nat))/\Below w.heap.size w w' /\
  EchN q n k cols a p W/\RowOps q add mul n k V W
theorem EchN.full {q n k c a cols:Nat} {pv:Nat->Nat} {W:Nat->Nat->Nat} (h:EchN q n k c a pv W) (hc:c<=cols) (h2:c=cols∨a=n):EchN q n k cols a pv W:=by
 rcases h2 with h2 | h2
 ·rw [<-h2]; exact h
 ·exact ⟨h.le,h.lt,h.inc,fun s hs=>Nat.lt_of_lt_of_le (h.pvlt s hs) hc,h.one,h.zero,h.lead,fun i h1 h3=>by omega⟩
theorem MTab.take {w:World} {base n k b o c a:Nat} {W:Nat->Nat->Nat} (h:MTab w base (.slice (some ⟨b,o,none⟩) n c) n k W) (ha:a<=n):MTab w base (.slice (some ⟨b,o,none⟩) a c) a k W:=by
 obtain ⟨R,h1,h2⟩:=h
 refine ⟨R,?_,fun i hi=>h2 i (by omega)⟩
 rcases h1 with ⟨h1,_⟩ | ⟨g,o',cap,cur,h1,h3,h4,h5,h6,h7,h8⟩
 ·cases h1
 injection h1 with e1 e2 e3
 injection e1 with e1
 injection e1 with e1 e4
 subst e1 e4 e3
 exact .inr ⟨_,_,_,cur,rfl,h3,h4,by omega,h6,h7,fun i hi=>h8 i (by omega)⟩
theorem MTab.form {w:World} {base n k:Nat} {v:Value} {W:Nat->Nat->Nat} (h:MTab w base v n k W):(v=.slice none 0 0/\n=0)∨∃ b o c,v=.slice (some ⟨b,o,none⟩) n c/\n<=c/\c<=maxLen:=by
 obtain ⟨R,h1,_⟩:=h
 rcases h1 with h1 | ⟨g,o',cap,cur,h1,h3,h4,h5,h6,h7,h8⟩
 ·exact .inl h1
 ·exact .inr ⟨g,o',cap,h1,h5,h6⟩
theorem zhA (P M:Nat) (A:Option Addr) (k c:Nat) (m:Nat->Nat) (T:Option Addr) (n d kc cols:Nat) (V:Nat->Nat->Nat) (w:World) (hf:FieldOk P M m) (hm:ModOk w P M A m) (hkM:M=1∨k=M)
  (h:MRows w T n kc V) (hV:∀ i,i<n->∀ j,j<kc->V i j<P ^ M) (hcK:cols<=kc) (hK:0<kc) (hK2:kc<=1048576) (hn:n<=1048576) :
  Calls Tryz.prog 136 #[.agg #[.int .i64 (P:Nat),.int .i64 (M:Nat),.slice A k c],.slice T n d,.int .i64 (cols:Nat)] w (CanonPost (P ^ M) (addF P M) (mulF P M m) n kc cols V w):=by
 obtain ⟨w0,q,hB,rf⟩:=zaz w (.int .i64 (P:Nat)) (.int .i64 (M:Nat)) (.slice A k c) 24
 go_enter Tryz.func136, Tryz.ntmps136
 go_upto_region 1 with fail
 rw [<-q];clear q
 have q0:=qc0 rf
 have q1:=qc1 rf
 have q2:=qc2 rf
 have r:MRows w0 T n kc V:=h.on hB
 have s:=zaO hm hB
 clear h
 go_wp2_with fail
 refine (ziQ P M A k c m T n d kc cols V w0 hf s hkM r hV hcK hK hK2 hn).mono ?_
 rintro e w1 ⟨lv,pv,a,c0,p,W,rfl,hM,hP,kb,hc,u,hE,hR⟩
 have l:w.heap.size<=w0.heap.size:=hB.size
 replace hM:=(hM.mono l).tab;replace hP:=hP.mono l;replace hB:=onS hB kb
 have HE:=hid (hE.full hc u)
 have HR:=hid hR
 have z:=hE.le
 clear kb q0 q1 q2 r s hE hR hc u hV rf l
 obtain ⟨PA,pc,v⟩:=hP.shape
 subst v
 rcases hM.form with ⟨g,x⟩ | ⟨b,o,lc,g,B,y⟩
 ·subst g x
  obtain rfl:a=0:=by omega
  go_wp2
  go_ret2
  exact ⟨_,_,0,p,W,rfl,hM,hP,hB,HE.out,HR.out⟩
 subst g
 have D:(0:Int)<=(a:Int):=by omega
 have C:(a:Int)<=(lc:Int):=by omega
 unfold maxLen at y
 have HM:=hid (hM.take z)
 have HP:=hid hP
 clear hM hP
 go_wp2
 go_ret2
 exact ⟨_,_,a,p,W,rfl,HM.out,HP.out,hB,HE.out,HR.out⟩
def FirstErr:List (Prop × Int)->Int->Prop
 | [],v=>v=0
 | (p,e) :: r,v=>(¬ p/\v=e)∨(p/\FirstErr r v)
theorem FirstErr.unique:∀ {l:List (Prop × Int)} {v u:Int},FirstErr l v->FirstErr l u->v=u
 | [],_,_,h1,h2=>h1.trans h2.symm
 | (_, _) :: r, _, _, h1, h2 => by
  rcases h1 with ⟨a,h1⟩ | ⟨a,h1⟩
  ·rcases h2 with ⟨_,h2⟩ | ⟨b,_⟩
   ·exact h1.trans h2.symm
   ·exact absurd b a
  ·rcases h2 with ⟨b,_⟩ | ⟨_,h2⟩
   ·exact absurd a b
   ·exact FirstErr.unique (l:=r) h1 h2
def ErrsPost (l:List (Prop × Int)) (w:World) (e:Ending) (w':World):Prop:=∃ v:Int,e=.returned (.int .i64 v)/\FirstErr l v/\Below w.heap.size w w'
theorem errsPost {l:List (Prop × Int)} {w w':World} {v:Int} (h:FirstErr l v) (hB:Below w.heap.size w w'):ErrsPost l w (.returned (.int .i64 v)) w':=⟨v,rfl,h,hB⟩
def ShapeM (cols:Int) (n:Nat) (ln:Nat->Nat):Prop:=0<=cols/\cols<=256/\n<=256/\∀ i,i<n->(ln i:Int)=cols
def ElemsM (q n:Nat) (ln:Nat->Nat) (V:Nat->Nat->Int):Prop:=∀ i,i<n->AllIn q (ln i) (V i)
def matCell (a b:Value) (i:Nat):Value:=if i=0 then a else b
theorem KC.qc0 {w:World} {g:Nat} {T:TypeId} {a b:Value} (h:w.rowIs g T 2 (matCell a b)) : w.cell? ⟨g,0,none⟩=some a:=h.cell (i:=0) (by decide)
theorem KC.qc1 {w:World} {g:Nat} {T:TypeId} {a b:Value} (h:w.rowIs g T 2 (matCell a b)) : w.cell? ⟨g,1,none⟩=some b:=h.cell (i:=1) (by decide)
open KC
theorem zaw {w:World} {a b:Value} {T:TypeId}:(w.alloc (.cells #[a,b] T)).rowIs w.heap.size T 2 (matCell a b) :=
 ⟨#[a,b],zah rfl,rfl,fun i hi=>by
  rcases (show i=0∨i=1 by omega) with rfl | rfl <;> rfl⟩
theorem zft (P M:Int) (A:Option Addr) (k c:Nat) (f:Nat->Int) (cols:Int) (T:Option Addr) (n d:Nat) (ln:Nat->Nat) (V:Nat->Nat->Int) (w:World) (hr:IntsR w w.heap.size A k f) (h:IntRows w T n ln V) :
  Calls Tryz.prog 135 #[.agg #[.int .i64 P,.int .i64 M,.slice A k c],.agg #[.int .i64 cols,.slice T n d]] w (ErrsPost [(GoodF P M k f,1),(ShapeM cols n ln,3),(ElemsM (P.toNat ^ M.toNat) n ln V,2)] w):=by
 have HT:=hid h
 clear h
 have rf:=zau (w:=w) (a:=.int .i64 P) (b:=.int .i64 M) (c:=.slice A k c) (T := 24)
 have hB:=aly w (.cells #[.int .i64 P,.int .i64 M,.slice A k c] 24)
 have s:(w.alloc (.cells #[.int .i64 P,.int .i64 M,.slice A k c] 24)).heap.size=w.heap.size+1:=by simp
 obtain ⟨w0,r⟩:=exx (w.alloc (.cells #[.int .i64 P,.int .i64 M,.slice A k c] 24))
 have rm:=zaw (w:=w0) (a:=.int .i64 cols) (b:=.slice T n d) (T := 106)
 have kb:=aly w0 (.cells #[.int .i64 cols,.slice T n d] 106)
 obtain ⟨w1,q⟩:=exx (w0.alloc (.cells #[.int .i64 cols,.slice T n d] 106))
 rw [<-r] at hB rf s;rw [<-q] at rm kb;rw [s] at rm;replace rf:=zab rf kb;replace hB:=onS hB kb
 go_enter Tryz.func135, Tryz.ntmps135
 go_upto_region 1 with fail
 rw [<-r,<-q];clear r q kb s
 have q0:=qc0 rf
 have q1:=qc1 rf
 have q2:=qc2 rf
 go_wp2_with fail
 have C:=hr.on hB
 refine (zde P M A k c f w1 C).mono ?_
 rintro e w2 ⟨v,rfl,hv,kb⟩
 replace rf:=zab rf kb;replace rm:=zab rm kb;replace hB:=onS hB kb;clear kb q0 q1 q2 C
 rcases hv with ⟨rfl,hg⟩ | ⟨rfl,hg⟩
 rotate_left
 ·have g:Hid (FirstErr [(GoodF P M k f,1),(ShapeM cols n ln,3),(ElemsM (P.toNat ^ M.toNat) n ln V,2)] 1):=.inl ⟨hg,rfl⟩
  clear hg
  go_wp2
  go_ret
  exact errsPost g.out hB
 have HG:=hid hg
 obtain ⟨P',M',rfl,rfl,hf,_⟩:=hg
 have HF:=hid hf
 clear hf
 have m0:=qc0 rm
 have m1:=qc1 rm
 by_cases hc0:cols<0
 ·have g:Hid (FirstErr [(GoodF (P':Int) (M':Int) k f,1),(ShapeM cols n ln,3),(ElemsM ((P':Int).toNat ^ (M':Int).toNat) n ln V,2)] 3):=.inr ⟨HG.out,.inl ⟨fun h=>by have:=h.1; omega,rfl⟩⟩
  go_wp2
  go_ret
  exact errsPost g.out hB
 by_cases hc1:cols > 256
 ·have g:Hid (FirstErr [(GoodF (P':Int) (M':Int) k f,1),(ShapeM cols n ln,3),(ElemsM ((P':Int).toNat ^ (M':Int).toNat) n ln V,2)] 3):=.inr ⟨HG.out,.inl ⟨fun h=>by have:=h.2.1; omega,rfl⟩⟩
  go_wp2
  go_ret
  exact errsPost g.out hB
 by_cases hn1:n > 256
 ·have g:Hid (FirstErr [(GoodF (P':Int) (M':Int) k f,1),(ShapeM cols n ln,3),(ElemsM ((P':Int).toNat ^ (M':Int).toNat) n ln V,2)] 3):=.inr ⟨HG.out,.inl ⟨fun h=>by have:=h.2.2.1; omega,rfl⟩⟩
  have u:(n:Int) > 256:=by omega
  go_wp2
  go_ret
  exact errsPost g.out hB
 have u:¬ (n:Int) > 256:=by omega
 go_wp2
 go_loopg [6] n (fun gg iv wx=>∃ i:Nat,iv=.int .i64 (i:Nat)/\i<=n/\n<=i+gg/\Hid (∀ t,t<i->(ln t:Int)=cols)/\wx.rowIs w.heap.size 24 3 (fldCell (.int .i64 (P':Nat)) (.int .i64 (M':Nat)) (.slice A k c))/\wx.rowIs (w.heap.size+1) 106 2 (matCell (.int .i64 cols) (.slice T n d))/\Below w.heap.size w wx)
 case atStart=>exact ⟨0,rfl,by omega,by omega,fun t ht=>absurd ht (by omega),rf,rm,hB⟩
 clear rf rm hB m0 m1
 obtain ⟨i,rfl,hi,U,HQ,rf,rm,hB⟩:=hrel
 have W:(0:Int)<=(i:Int):=by omega
 have m0:=qc0 rm
 have m1:=qc1 rm
 by_cases hlt:i<n
 ·have x:(i:Int)<(n:Int):=by omega
  obtain ⟨b,o,RA,rc,hT,hb,x0,_,_,l,_⟩:=HT.out i hlt
  subst hT
  replace x0:=(hB.cell (p:=⟨b,o+i,none⟩) hb).trans x0
  obtain ⟨li,z⟩:=exx (ln i)
  rw [<-z] at x0
  have I:=hid z
  clear l z
  by_cases he:(li:Int)=cols
  ·have N:((li:Int) != cols)=false:=by simpa using he
   have HE:=hid he
   clear he
   go_wp2
   go_quiet (fail)
   go_wp2
   go_roundg (gk - 1)
   case measure=>omega
   refine ⟨i+1,by go_num,by omega,by omega,fun t ht=>?_,za9 rf _,za9 rm _,zac hB _⟩
   by_cases e:t=i
   ·subst e; rw [<-I.out]; exact HE.out
   ·exact HQ.out t (by omega)
  have N:((li:Int) != cols)=true:=by simpa using he
  have g:Hid (FirstErr [(GoodF (P':Int) (M':Int) k f,1),(ShapeM cols n ln,3),(ElemsM ((P':Int).toNat ^ (M':Int).toNat) n ln V,2)] 3):=.inr ⟨HG.out,.inl ⟨fun h=>he (by rw [I.out]; exact h.2.2.2 i hlt),rfl⟩⟩
  clear he
  go_wp2
  go_quiet (fail)
  go_wp2
  go_ret
  exact errsPost g.out (zac hB _)
 have x:¬ (i:Int)<(n:Int):=by omega
 obtain rfl:i=n:=by omega
 have F:Hid (ShapeM cols i ln):=⟨by omega,by omega,by omega,HQ.out⟩
 obtain ⟨gO,J⟩:=exx gk
 clear J
 go_wp2
 go_loopg [5,7] i (fun gg ev jv wx=>∃ j:Nat,ev=.int .i64 0/\jv=.int .i64 (j:Nat)/\j<=i/\i<=j+gg/\Hid (∀ t,t<j->AllIn (P' ^ M') (ln t) (V t))/\wx.rowIs w.heap.size 24 3 (fldCell (.int .i64 (P':Nat)) (.int .i64 (M':Nat)) (.slice A k c))/\wx.rowIs (w.heap.size+1) 106 2 (matCell (.int .i64 cols) (.slice T i d))/\Below w.heap.size w wx)
 case atStart=>exact ⟨0,rfl,rfl,by omega,by omega,fun t ht=>absurd ht (by omega),rf,rm,hB⟩
 clear rf rm hB m0 m1
 obtain ⟨j,rfl,rfl,hj,Q,G,rf,rm,hB⟩:=hrel
 have R:(0:Int)<=(j:Int):=by omega
 have m0:=qc0 rm
 have m1:=qc1 rm
 by_cases hjt:j<i
 rotate_left
 ·have B:¬ (j:Int)<(i:Int):=by omega
  obtain rfl:j=i:=by omega
  have g:Hid (FirstErr [(GoodF (P':Int) (M':Int) k f,1),(ShapeM cols j ln,3),(ElemsM ((P':Int).toNat ^ (M':Int).toNat) j ln V,2)] 0):=.inr ⟨HG.out,.inr ⟨F.out,.inr ⟨by rw [Int.toNat_natCast,Int.toNat_natCast]; exact G.out,rfl⟩⟩⟩
  go_wp2
  go_ret
  exact errsPost g.out hB
 have B:(j:Int)<(i:Int):=by omega
 obtain ⟨b,o,RA,rc,hT,hb,x0,L,E,l,_⟩:=HT.out j hjt
 subst hT
 replace x0:=(hB.cell (p:=⟨b,o+j,none⟩) hb).trans x0
 have D:ln j<=9223372036854775807:=by unfold maxLen at E; omega
 clear L E
 have m:=l.on hB
 obtain ⟨lj,y⟩:=exx (ln j)
 rw [<-y] at x0 D m
 have H:=hid y
 clear l y
 have q0:=qc0 rf
 have q1:=qc1 rf
 have q2:=qc2 rf
 obtain ⟨w1,q⟩:=exx wr
 rw [<-q] at hB rf rm x0 q0 q1 q2 m0 m1 m ⊢;clear q
 go_wp2
 refine wp_region_held_drew (S:=fun w'=>w'.cell? ⟨w.heap.size,0,none⟩=some (.int .i64 (P':Nat))/\w'.cell? ⟨w.heap.size,1,none⟩=some (.int .i64 (M':Nat))/\w'.cell? ⟨w.heap.size,2,none⟩=some (.slice A k c)/\w'.cell? ⟨w.heap.size+1,1,none⟩=some (.slice (some ⟨b,o,none⟩) i d)/\w'.cell? ⟨b,o+j,none⟩=some (.slice RA lj rc)) (by kernel_rfl) ⟨cellS (Below.refl _ _).drew q0,cellS (Below.refl _ _).drew q1,cellS (Below.refl _ _).drew q2,cellS (Below.refl _ _).drew m1,cellS (Below.refl _ _).drew x0⟩ (fun hHeld=>?_)
 obtain ⟨w2,hw,kb⟩:=dwx w1
 rw [<-hw] at hHeld ⊢;clear hw;replace rf:=zab rf kb;replace rm:=zab rm kb;replace hB:=onS hB kb;replace x0:=cellS kb x0;replace q0:=cellS kb q0;replace q1:=cellS kb q1;replace q2:=cellS kb q2;replace m0:=cellS kb m0;replace m1:=cellS kb m1;replace m:=m.on kb;clear kb
 refine tkq 0 (h:=tkq 1 (h:=tkq 2 (h:=tkq 3 (h:=tkq 4 (h:=tkq 5 (h:=?_))))))
 refine rdq 6 (h:=fun K hK=>?_)
 go_simp
 go_wp2_with fail
 refine (zdS P' M' A k c RA lj rc (V j) w2 HF.out m D).mono ?_
 rintro e w3 ⟨v,rfl,hv,kb⟩
 replace rf:=zab rf kb;replace rm:=zab rm kb;replace hB:=onS hB kb;replace x0:=cellS kb x0;replace q0:=cellS kb q0;replace q1:=cellS kb q1;replace q2:=cellS kb q2;replace m0:=cellS kb m0;replace m1:=cellS kb m1;replace m:=m.on kb;clear kb
 have HV:=hid hv
 clear hv
 refine bkq hK ⟨q0,q1,q2,m1,x0⟩ (h:=fun hHeld=>?_)
 clear hK K
 refine tkq 7 (h:=?_)
 refine wpAnyH_done (by kernel_rfl) ?_ _
 clear hHeld;clear q0 q1 q2 m0 m1 x0 m
 rcases HV.out with ⟨rfl,hv⟩ | ⟨rfl,hv⟩
 ·have O:=hid hv
  clear hv HV
  go_wp2
  go_roundg (gk - 1)
  case measure=>omega
  refine ⟨j+1,rfl,by go_num,by omega,by omega,fun t ht=>?_,rf,rm,hB⟩
  by_cases e:t=j
  ·subst e; rw [<-H.out]; exact O.out
  ·exact G.out t (by omega)
 have g:Hid (FirstErr [(GoodF (P':Int) (M':Int) k f,1),(ShapeM cols i ln,3),(ElemsM ((P':Int).toNat ^ (M':Int).toNat) i ln V,2)] 2):=.inr ⟨HG.out,.inr ⟨F.out,.inl ⟨fun h=>hv (by rw [H.out]; simpa using h j hjt),rfl⟩⟩⟩
 clear hv HV
 go_wp2
 go_ret
 exact errsPost g.out hB
theorem FirstErr.app:∀ {l r:List (Prop × Int)} {v u:Int},(∀ x ∈ l,x.2≠0)->FirstErr l v->(v≠0->u=v)->(v=0->FirstErr r u)->FirstErr (l ++ r) u
 | [],_,_,_,_,h,_,h2=>h2 h
 | (p, e) :: l, r, v, u, hne, h, h1, h2 => by
  rcases h with ⟨hp,e1⟩ | ⟨hp,h⟩
  ·have h0:e≠0:=hne (p,e) (by simp)
   exact .inl ⟨hp,by rw [h1 (by rw [e1]; exact h0),e1]⟩
  ·exact .inr ⟨hp,FirstErr.app (fun x hx=>hne x (by simp [hx])) h h1 h2⟩
def natT (V:Nat->Nat->Int) (i j:Nat):Nat:=(V i j).toNat
theorem zcx {w:World} {T:Option Addr} {n cols q:Nat} {ln:Nat->Nat} {V:Nat->Nat->Int} (h:IntRows w T n ln V) (hs:ShapeM (cols:Int) n ln) (he:ElemsM q n ln V):MRows w T n cols (natT V)/\∀ i,i<n->∀ j,j<cols->natT V i j<q:=by
 have a:∀ i,i<n->ln i=cols:=fun i hi=>by have:=hs.2.2.2 i hi; omega
 refine ⟨fun i hi=>?_,fun i hi j hj=>?_⟩
 ·obtain ⟨b,off,A,c,e,h1,h2,h3,h4,h5,h6⟩:=h i hi
  rw [a i hi] at h2 h3 h5 h6
  have hv:∀ j,j<cols->V i j=((natT V i j:Nat):Int):=fun j hj=>by
   have:=he i hi j (by rw [a i hi]; exact hj)
   unfold natT
   omega
  exact ⟨b,off,A,c,e,h1,h2,h3,h4,h5.congr hv,fun j hj=>by show _<=((natT V i j:Nat):Int)/\((natT V i j:Nat):Int)<=_; rw [<-hv j hj]; exact h6 j hj⟩
 have:=he i hi j (by rw [a i hi]; exact hj)
 unfold natT
 omega
theorem MTab.rd {w:World} {base n k c q:Nat} {A:Option Addr} {W:Nat->Nat->Nat} (h:MTab w base (.slice A n c) n k W) (hq:q<=256) (hW:∀ i,i<n->∀ j,j<k->W i j<q):MRows w A n k W:=fun i hi=>by
 obtain ⟨b,o,RA,rc,e,h1,h2,h3,h4,h5⟩:=h.row hi
 have hfc:k<=rc/\rc<=maxLen:=by
  rcases h5 with ⟨e1,e2⟩ | ⟨g,o',cap,cur,e1,_,_,e3,e4,_⟩
  ·injection e1 with _ e3 e4
   subst e3 e4
   exact ⟨Nat.le_refl _,by unfold maxLen; omega⟩
  injection e1 with _ _ e5
  subst e5
  exact ⟨e3,e4⟩
 exact ⟨b,o,RA,rc,e,h2,h3,hfc.1,hfc.2,h5.rd rfl,fun j hj=>by have:=hW i hi j hj; show _<=((W i j:Nat):Int)/\((W i j:Nat):Int)<=_; omega⟩
def SpaceErrs (P M:Int) (k:Nat) (f:Nat->Int) (cols n:Nat) (ln:Nat->Nat) (V:Nat->Nat->Int):List (Prop × Int) :=
 [(GoodF P M k f,1),(ShapeM cols n ln,3),(ElemsM (P.toNat ^ M.toNat) n ln V,2),(RrefN (P.toNat ^ M.toNat) n cols (natT V),5)]
theorem zfu (P M:Int) (A:Option Addr) (k c:Nat) (f:Nat->Int) (cols:Nat) (T:Option Addr) (n d:Nat) (ln:Nat->Nat) (V:Nat->Nat->Int) (w:World) (hr:IntsR w w.heap.size A k f) (h:IntRows w T n ln V) (hc1:1<=cols) :
  Calls Tryz.prog 70 #[.agg #[.int .i64 P,.int .i64 M,.slice A k c],.agg #[.int .i64 (cols:Nat),.slice T n d]] w (ErrsPost (SpaceErrs P M k f cols n ln V) w):=by
 have HT:=hid h
 have HR:=hid hr
 clear h hr
 have rf:=zau (w:=w) (a:=.int .i64 P) (b:=.int .i64 M) (c:=.slice A k c) (T := 24)
 have hB:=aly w (.cells #[.int .i64 P,.int .i64 M,.slice A k c] 24)
 have x:(w.alloc (.cells #[.int .i64 P,.int .i64 M,.slice A k c] 24)).heap.size=w.heap.size+1:=by simp
 obtain ⟨w0,s⟩:=exx (w.alloc (.cells #[.int .i64 P,.int .i64 M,.slice A k c] 24))
 have rm:=zaw (w:=w0) (a:=.int .i64 (cols:Nat)) (b:=.slice T n d) (T := 106)
 have kb:=aly w0 (.cells #[.int .i64 (cols:Nat),.slice T n d] 106)
 obtain ⟨w1,o⟩:=exx (w0.alloc (.cells #[.int .i64 (cols:Nat),.slice T n d] 106))
 rw [<-s] at hB rf x;rw [<-o] at rm kb;rw [x] at rm;replace rf:=zab rf kb;replace hB:=onS hB kb
 go_enter Tryz.func70, Tryz.ntmps70
 go_upto_region 1 with fail
 rw [<-s,<-o];clear s o kb x
 have q0:=qc0 rf
 have q1:=qc1 rf
 have q2:=qc2 rf
 have m0:=qc0 rm
 have m1:=qc1 rm
 go_wp2_with fail
 refine (zft P M A k c f cols T n d ln V w1 (HR.out.on hB) (HT.out.on hB)).mono ?_
 rintro e w2 ⟨v,rfl,hv,kb⟩
 replace rf:=zab rf kb;replace rm:=zab rm kb;replace hB:=onS hB kb;clear kb q0 q1 q2 m0 m1
 by_cases hv0:v=0
 rotate_left
 ·have Y:(v != 0)=true:=by simpa using hv0
  have m:=hid (FirstErr.app (r:=[(RrefN (P.toNat ^ M.toNat) n cols (natT V),5)]) (u:=v) (by simp) hv (fun _=>rfl) (fun h=>absurd h hv0))
  clear hv hv0
  go_wp2
  go_ret
  exact errsPost m.out hB
 subst hv0
 have m:=hid hv
 rcases hv with ⟨_,h9⟩ | ⟨hg,⟨_,h9⟩ | ⟨g,⟨_,h9⟩ | ⟨z,_⟩⟩⟩
 ·cases h9
 ·cases h9
 ·cases h9
 have y:=hg
 obtain ⟨P',M',rfl,rfl,hf,_⟩:=hg
 obtain ⟨U,S⟩:=y.field
 rw [Int.toNat_natCast,Int.toNat_natCast] at z
 obtain ⟨D,E⟩:=zcx HT.out g z
 have C:=g.2.2.1
 have F:=g.2.1
 have K:=hid (D.on hB)
 have X:=hid (y.mod HR.out)
 have L:=hid E
 have a0:=hid g
 have B:=hid U
 clear D E z y g hf
 have q0:=qc0 rf
 have q1:=qc1 rf
 have q2:=qc2 rf
 have m0:=qc0 rm
 have m1:=qc1 rm
 go_wp2_with fail
 refine (zhA P' M' A k c _ T n d cols cols (natT V) w2 B.out (zaO X.out hB) S K.out L.out (Nat.le_refl _) (by omega) (by omega) (by omega)).mono ?_
 rintro e w3 ⟨lv,pv,a,p,W,rfl,hM,hP,kb,hE,G⟩
 obtain ⟨LA,lc,R⟩:=hM.shape
 subst R
 obtain ⟨PA,pc,Q⟩:=hP.shape
 subst Q
 have Z:=hE.le
 have I:=hid (hM.rd (q:=P' ^ M') B.out.1.2.2.2 fun i hi=>hE.lt i (by omega))
 have J:=hid (K.out.on kb)
 have N:=hid (zdT (fieldLaws B.out) L.out hE G)
 replace rf:=zab rf kb;replace rm:=zab rm kb;replace hB:=onS hB kb;clear kb q0 q1 q2 m0 m1 hM hP hE G
 have m1:=qc1 rm
 go_wp2_with fail
 refine (zeq LA T a n lc d _ _ _ _ w3 I.out J.out (by omega) (by omega)).mono ?_
 rintro e w4 ⟨b,rfl,hb,kb⟩
 replace hB:=onS hB kb
 have O:Hid (b=true↔RrefN (P' ^ M') n cols (natT V)):=by
  refine hb.trans (Iff.trans ?_ N.out.symm)
  constructor
  ·intro h
   refine ⟨h.1,fun i hi j hj=>?_⟩
   have:=(h.2 i hi).2 j hj
   simp only at this
   omega
  intro h
  refine ⟨h.1,fun i hi=>⟨rfl,fun j hj=>?_⟩⟩
  show ((W i j:Nat):Int)=((natT V i j:Nat):Int)
  rw [h.2 i hi j hj]
 have H:Hid (∀ u:Int,FirstErr [(RrefN (P' ^ M') n cols (natT V),5)] u->FirstErr (SpaceErrs (P':Int) (M':Int) k f cols n ln V) u):=fun u hu=>by
  refine FirstErr.app (l:=[(GoodF (P':Int) (M':Int) k f,1),(ShapeM cols n ln,3),(ElemsM ((P':Int).toNat ^ (M':Int).toNat) n ln V,2)]) (by simp) m.out (fun h=>absurd rfl h) fun _=>?_
  rw [Int.toNat_natCast,Int.toNat_natCast]
  exact hu
 clear kb m1 rf rm hb N I J m
 cases b
 ·go_wp2
  go_ret
  exact errsPost (H.out _ (.inl ⟨fun h=>(by have:=O.out.2 h; cases this),rfl⟩)) hB
 go_wp2
 go_ret
 exact errsPost (H.out _ (.inr ⟨O.out.1 (by first | rfl | trivial),rfl⟩)) hB
def CodeErrs (P M:Int) (k:Nat) (f:Nat->Int) (N:Int) (n:Nat) (ln:Nat->Nat) (V:Nat->Nat->Int):List (Prop × Int) :=
 [(GoodF P M k f,1),(1<=N/\N<=64,4),(ShapeM N n ln,3),(ElemsM (P.toNat ^ M.toNat) n ln V,2),(RrefN (P.toNat ^ M.toNat) n N.toNat (natT V),5)]
def codCell (a b c d e:Value) (i:Nat):Value:=if i=0 then a else if i=1 then b else if i=2 then c else if i=3 then d else e
theorem KA.qc0 {w:World} {g:Nat} {T:TypeId} {a b c d e:Value} (h:w.rowIs g T 5 (codCell a b c d e)) : w.cell? ⟨g,0,none⟩=some a:=h.cell (i:=0) (by decide)
theorem KA.qc1 {w:World} {g:Nat} {T:TypeId} {a b c d e:Value} (h:w.rowIs g T 5 (codCell a b c d e)) : w.cell? ⟨g,1,none⟩=some b:=h.cell (i:=1) (by decide)
theorem KA.qc2 {w:World} {g:Nat} {T:TypeId} {a b c d e:Value} (h:w.rowIs g T 5 (codCell a b c d e)) : w.cell? ⟨g,2,none⟩=some c:=h.cell (i:=2) (by decide)
theorem KA.qc3 {w:World} {g:Nat} {T:TypeId} {a b c d e:Value} (h:w.rowIs g T 5 (codCell a b c d e)) : w.cell? ⟨g,3,none⟩=some d:=h.cell (i:=3) (by decide)
theorem KA.qc4 {w:World} {g:Nat} {T:TypeId} {a b c d e:Value} (h:w.rowIs g T 5 (codCell a b c d e)) : w.cell? ⟨g,4,none⟩=some e:=h.cell (i:=4) (by decide)
open KA
theorem za2 {w:World} {a b c d e:Value} {T:TypeId}:(w.alloc (.cells #[a,b,c,d,e] T)).rowIs w.heap.size T 5 (codCell a b c d e) :=
 ⟨#[a,b,c,d,e],zah rfl,rfl,fun i hi=>by
  rcases (show i=0∨i=1∨i=2∨i=3∨i=4 by omega) with rfl | rfl | rfl | rfl | rfl <;> rfl⟩
theorem zfv (P M:Int) (A:Option Addr) (k c:Nat) (f:Nat->Int) (N:Int) (T:Option Addr) (n d:Nat) (ln:Nat->Nat) (V:Nat->Nat->Int) (w:World) (hr:IntsR w w.heap.size A k f) (h:IntRows w T n ln V) :
  Calls Tryz.prog 26 #[.agg #[.int .i64 P,.int .i64 M,.slice A k c,.int .i64 N,.slice T n d]] w (ErrsPost (CodeErrs P M k f N n ln V) w):=by
 have HT:=hid h
 have HR:=hid hr
 clear h hr
 have rf:=za2 (w:=w) (a:=.int .i64 P) (b:=.int .i64 M) (c:=.slice A k c) (d:=.int .i64 N) (e:=.slice T n d) (T := 27)
 have hB:=aly w (.cells #[.int .i64 P,.int .i64 M,.slice A k c,.int .i64 N,.slice T n d] 27)
 obtain ⟨w1,i⟩:=exx (w.alloc (.cells #[.int .i64 P,.int .i64 M,.slice A k c,.int .i64 N,.slice T n d] 27))
 rw [<-i] at hB rf
 go_enter Tryz.func26, Tryz.ntmps26
 go_upto_region 1 with fail
 rw [<-i];clear i
 have q0:=qc0 rf
 have q1:=qc1 rf
 have q2:=qc2 rf
 go_wp2_with fail
 refine (zde P M A k c f w1 (HR.out.on hB)).mono ?_
 rintro e w2 ⟨v,rfl,hv,kb⟩
 replace rf:=zab rf kb;replace hB:=onS hB kb;clear kb q0 q1 q2
 rcases hv with ⟨rfl,hg⟩ | ⟨rfl,hg⟩
 rotate_left
 ·have g:Hid (FirstErr (CodeErrs P M k f N n ln V) 1):=.inl ⟨hg,rfl⟩
  clear hg
  go_wp2
  go_ret
  exact errsPost g.out hB
 have HG:=hid hg
 clear hg
 have q3:=qc3 rf
 by_cases hN1:N<1
 ·have g:Hid (FirstErr (CodeErrs P M k f N n ln V) 4):=.inr ⟨HG.out,.inl ⟨fun h=>by have:=h.1; omega,rfl⟩⟩
  go_wp2
  go_ret
  exact errsPost g.out hB
 by_cases hN2:N > 64
 ·have g:Hid (FirstErr (CodeErrs P M k f N n ln V) 4):=.inr ⟨HG.out,.inl ⟨fun h=>by have:=h.2; omega,rfl⟩⟩
  go_wp2
  go_ret
  exact errsPost g.out hB
 obtain ⟨cols,rfl⟩:∃ m:Nat,N=m:=⟨N.toNat,by omega⟩
 have q0:=qc0 rf
 have q1:=qc1 rf
 have q2:=qc2 rf
 have q4:=qc4 rf
 go_wp2_with fail
 refine (zfu P M A k c f cols T n d ln V w2 (HR.out.on hB) (HT.out.on hB) (by omega)).mono ?_
 rintro e w3 ⟨v,rfl,hv,kb⟩
 replace hB:=onS hB kb
 have j:Hid (FirstErr (CodeErrs P M k f cols n ln V) v):=by
  rcases hv with ⟨h1,_⟩ | ⟨_,h1⟩
  ·exact absurd HG.out h1
  ·exact .inr ⟨HG.out,.inr ⟨⟨by omega,by omega⟩,h1⟩⟩
 clear kb q0 q1 q2 q3 q4 rf hv
 go_wp2
 go_ret
 exact errsPost j.out hB
section
variable {w:World}
theorem zbd {ops:Array Oper} {o:Oper} {a:Act} {K:Act->World->Prop} {Q:Exit->Act->World->Prop} {E:Prop} (hgd:o.guard=none) (sl x:Operand)
  (ho:o.op=.call { callee:=.builtin .append,args:=#[sl,x],argTypes:=#[22, 22] })
  {b0 base:Nat} (hv:a.eval sl=.slice (some ⟨b0,0,none⟩) 0 0) (hr0:w.rowIs b0 3 0 (fun _=>undef)) (hbase:base<=b0) {A:Option Addr} {c n:Nat} {f:Nat->Int} (hx:a.eval x=.slice A n c)
  (hsrc:IntsR w w.heap.size A n f) (hlen:n<=1048576)
  (K':∀ v' w',Own w' base 3 1 v' n (fun j _=>.int .i64 (f j))->Below w.heap.size w w'->(v'.ownBlock=some b0∨v'.ownBlock=some w.heap.size)->K (a.put o.dst v') w') :
  if Region.wanted o (yielded ops a.tmps)=true then Oper.wp Tryz.prog o a w K Q else E:=by
 have hw:Region.wanted o (yielded ops a.tmps)=true:=by simp [Region.wanted,hgd]
 rw [if_pos hw]
 obtain ⟨i0,qi0,qz0,qz1,qz2⟩:=info_parts Tryz.infoInt
 have g:b0<w.heap.size:=hr0.lt
 have d:w.heap[b0]?=some (.cells #[] 3 (0,0)):=by
  obtain ⟨cs,h1,h2,_⟩:=hr0
  rw [h1,Array.eq_empty_of_size_eq_zero h2]
 by_cases h0:n=0
 ·have b:=zaX (P:=Tryz.prog) w 22 o.type 3 i0 Tryz.underlying22 qi0 b0 0 A c
  rw [h0] at hx
  unfold Oper.wp execOp
  simp only [ho,resolve,invoke,builtin,Sem.run_bind,Sem.run_pure,Result.andThen_ok,List.map_toArray,List.map_cons,List.map_nil,hv,hx,b]
  refine K' _ _ ?_ (Below.refl _ _) (.inl rfl)
  rw [h0]
  exact .inr ⟨b0,0,0,#[],rfl,hbase,d,Nat.le_refl _,by unfold maxLen; omega,by simp,fun i hi=>absurd hi (by omega)⟩
 obtain ⟨cap,cur,b,h2,h3,h4,h5⟩:=zaY (P:=Tryz.prog) w 22 o.type 3 i0 _ 1 8 Tryz.underlying22 qi0 qz0 qz1 qz2 rfl (by omega) (some ⟨b0,0,none⟩) A n c (fun j _=>.int .i64 (f j)) hsrc (by omega) (fun _ _ _ _=>rfl) (by unfold maxLen; omega) (by omega)
 unfold Oper.wp execOp
 simp only [ho,resolve,invoke,builtin,Sem.run_bind,Sem.run_pure,Result.andThen_ok,List.map_toArray,List.map_cons,List.map_nil,hv,hx,b]
 refine K' _ _ ?_ (((Below.refl _ _).alloc (Nat.le_refl _) _).drew) (.inr rfl)
 exact (Own.new (w:=w) (base:=base) (e := 3) (by omega) h2 h3 h4 h5).drew
end
theorem zaS {a w:World} {b:Nat} (h:a.grownBy w (some b)) (i:Nat) (v:Value):a.grownBy (w.setCell ⟨b,i,none⟩ v) (some b):=by
 have k:=zcl w b i v
 exact ⟨k.os.trans h.os,k.tape.trans h.tape,k.output.trans h.output,Nat.le_trans h.size k.size,fun q hq hne=>(k.block q (Nat.lt_of_lt_of_le hq h.size) hne).trans (h.block q hq hne)⟩
theorem za6 {w:World} {base g m n s:Nat} {t e:TypeId} {F:Nat->Value} {v:Value} {f:Nat->Nat->Value} (hr:w.rowIs g t m F) (h:Own w base e s v n f) (hne:t≠e):v.ownBlock=none∨v.ownBlock≠some g:=by
 rcases h with ⟨rfl,_⟩ | ⟨b,o,cap,cur,rfl,_,hg,_⟩
 ·exact .inl rfl
 refine .inr fun e1=>?_
 obtain ⟨cs,h1,_⟩:=hr
 simp [Value.ownBlock] at e1
 subst e1
 rw [hg] at h1
 injection h1 with h1
 injection h1 with _ h1
 exact hne h1.symm
def ExpPost (q k most:Nat) (w:World) (e:Ending) (w':World):Prop :=
 ((q ^ k<=most/\e=.returned (.tuple #[.int .i64 (q ^ k:Nat),.int .i64 0]))∨(most<q ^ k/\e=.returned (.tuple #[.int .i64 0,.int .i64 8])))/\w'=w
theorem ziS {q i k most o:Nat} (hq:2<=q) (ho:o=q ^ i) (h:most / q<o) (hi:i<k):most<q ^ k:=by
 have h1:most<o*q:=by
  have:=(Nat.div_lt_iff_lt_mul (show 0<q by omega)).1 h
  exact this
 have h2:o*q=q ^ (i+1):=by rw [ho,Nat.pow_succ]
 have h3:q ^ (i+1)<=q ^ k:=Nat.pow_le_pow_right (by omega) (by omega)
 omega
theorem zhB (q k most:Nat) (w:World) (hq:2<=q) (hq2:q<=256) (hk:k<=1048576) (hm:1<=most) (hm2:most<=1048576) :
  Calls Tryz.prog 127 #[.int .i64 (q:Nat),.int .i64 (k:Nat),.int .i64 (most:Nat)] w (ExpPost q k most w):=by
 have g1:¬ (q:Int)<0:=by omega
 have g2:¬ (k:Int)<0:=by omega
 have g3:¬ (most:Int)<0:=by omega
 have g4:((q:Int) == 0)=false:=by simp; omega
 have g5:(q:Int) > 1:=by omega
 have g6:((q:Int) == -1)=false:=by simp
 have g7:(1:Int)<(q:Int):=by omega
 obtain ⟨z,hz⟩:=exx (most / q)
 have hd:(most:Int) / (q:Int)=(z:Int):=by rw [hz]; norm_cast
 have j:z<=most:=by rw [hz]; exact Nat.div_le_self _ _
 have HZ:=hid hz
 clear hz
 go_enter Tryz.func127, Tryz.ntmps127
 go_wp2
 go_loopg [8,9] k (fun gg ov iv wx=>∃ i o:Nat,ov=.int .i64 (o:Nat)/\iv=.int .i64 (i:Nat)/\i<=k/\k<=i+gg/\Hid (o=q ^ i)/\o<=most/\wx=w)
 case atStart=>exact ⟨0,1,rfl,rfl,by omega,by omega,rfl,hm,rfl⟩
 obtain ⟨i,o,rfl,rfl,hi,l,HO,e,b⟩:=hrel
 subst b
 have m:(0:Int)<=(i:Int):=by omega
 by_cases hlt:i<k
 rotate_left
 ·have a:¬ (i:Int)<(k:Int):=by omega
  obtain rfl:i=k:=by omega
  have d:¬ (o:Int) > (most:Int):=by omega
  go_wp2
  go_ret2
  exact ⟨.inl ⟨by rw [<-HO.out]; exact e,by rw [<-HO.out]; rfl⟩,rfl⟩
 have a:(i:Int)<(k:Int):=by omega
 by_cases hb:z<o
 ·have g:(o:Int) > (z:Int):=by omega
  have HF:=hid (ziS hq HO.out (by rw [<-HZ.out]; exact hb) hlt)
  clear hb
  go_wp2
  go_ret2
  exact ⟨.inr ⟨HF.out,rfl⟩,rfl⟩
 have g:¬ (o:Int) > (z:Int):=by omega
 obtain ⟨y,hy⟩:=exx (o*q)
 have c:y<=most:=by rw [hy]; exact Nat.le_trans (Nat.mul_le_mul_right q (Nat.not_lt.1 hb)) (by rw [HZ.out]; exact Nat.div_mul_le_self most q)
 have hc:(o:Int)*(q:Int)=(y:Int):=by rw [hy]; simp
 have h:Hid (y=q ^ (i+1)):=by show _=_; rw [hy,HO.out,Nat.pow_succ]
 clear hb hy
 go_wp2
 go_roundg (gk - 1)
 case measure=>omega
 case rel=>exact ⟨i+1,y,by go_num,by go_num,by omega,by omega,h,c,rfl⟩
structure CodeR (w:World) (P M:Nat) (m:Nat->Nat) (A:Option Addr) (k N:Nat) (T:Option Addr) (n:Nat) (V:Nat->Nat->Nat):Prop where
 fld:FieldOk P M m
 ints:IntsR w w.heap.size A k (fun i=>(m i:Nat))
 kM:M=1/\k=0∨2<=M/\k=M/\∀ i,i<M->m i<P
 ln1:1<=N
 ln2:N<=64
 rows:MRows w T n N V
 lt:∀ i,i<n->∀ j,j<N->V i j<P ^ M
 rref:RrefN (P ^ M) n N V
theorem EchN.pv_ge {q n k c a:Nat} {pv:Nat->Nat} {W:Nat->Nat->Nat} (h:EchN q n k c a pv W):∀ s,s<a->s<=pv s
 | 0,_=>Nat.zero_le _
 | s+1,hs=>by
  have h1:=EchN.pv_ge h s (by omega)
  have h2:=h.inc s (s+1) (by omega) hs
  omega
theorem EchN.le_c {q n k c a:Nat} {pv:Nat->Nat} {W:Nat->Nat->Nat} (h:EchN q n k c a pv W):a<=c:=by
 rcases Nat.eq_zero_or_pos a with h0 | h0
 ·omega
 have h1:=h.pv_ge (a - 1) (by omega)
 have h2:=h.pvlt (a - 1) (by omega)
 omega
section
variable {w w':World} {P M k N n:Nat} {m:Nat->Nat} {A T:Option Addr} {V:Nat->Nat->Nat}
theorem CodeR.on (h:CodeR w P M m A k N T n V) (hb:Below w.heap.size w w'):CodeR w' P M m A k N T n V :=
 ⟨h.fld,h.ints.on hb,h.kM,h.ln1,h.ln2,h.rows.on hb,h.lt,h.rref⟩
theorem CodeR.n_le (h:CodeR w P M m A k N T n V):n<=N:=by
 obtain ⟨p,hp⟩:=h.rref
 exact hp.le_c
theorem zdw {P M:Int} {k:Nat} {f:Nat->Int} {N:Int} {ln:Nat->Nat} {V:Nat->Nat->Int} (hr:IntsR w w.heap.size A k f) (h:IntRows w T n ln V) (hc:FirstErr (CodeErrs P M k f N n ln V) 0) :
  ∃ P' M' N':Nat,P=P'/\M=M'/\N=N'/\CodeR w P' M' (fun i=>(f i).toNat) A k N' T n (natT V):=by
 rcases hc with ⟨_,h9⟩ | ⟨hg,⟨_,h9⟩ | ⟨hN,⟨_,h9⟩ | ⟨hs,⟨_,h9⟩ | ⟨he,⟨_,h9⟩ | ⟨hR,_⟩⟩⟩⟩⟩
 ·cases h9
 ·cases h9
 ·cases h9
 ·cases h9
 ·cases h9
 have a:=hg
 obtain ⟨P',M',rfl,rfl,h3,h4,h5⟩:=hg
 obtain ⟨N',rfl⟩:∃ N':Nat,N=N':=⟨N.toNat,by omega⟩
 rw [Int.toNat_natCast,Int.toNat_natCast] at he hR;rw [Int.toNat_natCast] at hR
 obtain ⟨g1,g2⟩:=zcx h hs he
 refine ⟨P',M',N',rfl,rfl,rfl,a.field.1,?_,?_,by omega,by omega,g1,g2,hR⟩
 ·rcases h5 with ⟨e1,e2⟩ | ⟨e1,rfl,e3,e4⟩
  ·subst e2
   exact fun i hi=>absurd hi (by omega)
  ·exact hr.congr fun i hi=>by have:=e3 i hi; show f i=((f i).toNat:Int); omega
 rcases h5 with ⟨e1,e2⟩ | ⟨e1,e2,e3,e4⟩
 ·exact .inl ⟨e1,e2⟩
 ·exact .inr ⟨e1,e2,fun i hi=>by have:=e3 i hi; show (f i).toNat<P'; omega⟩
end
theorem MTab.kept {w w':World} {base n k g mm:Nat} {v:Value} {W:Nat->Nat->Nat} {t:TypeId} {F:Nat->Value} (h:MTab w base v n k W) (hg:w.grownBy w' (some g)) (hr:w.rowIs g t mm F) (h1:t ≠ 22) (h2:t ≠ 3):MTab w' base v n k W:=by
 obtain ⟨R,a,b⟩:=h
 exact ⟨R,a.kept hg (za6 hr a h1),fun i hi=>(b i hi).kept hg (za6 hr (b i hi) h2)⟩
theorem ziT {V:Nat->Nat->Nat}:natT (fun i j=>(V i j:Int))=V:=by
 funext i j
 simp [natT]
theorem CodeR.errs {w:World} {P M k N n:Nat} {m:Nat->Nat} {A T:Option Addr} {V:Nat->Nat->Nat} (h:CodeR w P M m A k N T n V):FirstErr (CodeErrs (P:Int) (M:Int) k (fun i=>(m i:Int)) (N:Int) n (fun _=>N) (fun i j=>(V i j:Int))) 0:=by
 have hn:=h.n_le
 have h1:=h.ln1
 have h2:=h.ln2
 refine .inr ⟨?_,.inr ⟨⟨by omega,by omega⟩,.inr ⟨⟨by omega,by omega,by omega,fun i _=>rfl⟩,.inr ⟨?_,.inr ⟨?_,rfl⟩⟩⟩⟩⟩
 ·obtain ⟨h3,h4,h5,h6⟩:=h.fld
  refine ⟨P,M,rfl,rfl,h3,h4,?_⟩
  rcases h.kM with ⟨e1,e2⟩ | ⟨e1,e2,e3⟩
  ·exact .inl ⟨e1,e2⟩
  refine .inr ⟨e1,e2,fun i hi=>⟨Int.natCast_nonneg _,by have:=e3 i hi; show ((m i:Nat):Int)<(P:Int); omega⟩,?_⟩
  simp only [Int.toNat_natCast]
  exact h6
 ·rw [Int.toNat_natCast,Int.toNat_natCast]
  intro i hi j hj
  have:=h.lt i hi j hj
  exact ⟨Int.natCast_nonneg _,by show ((V i j:Nat):Int)<((P ^ M:Nat):Int); omega⟩
 ·rw [Int.toNat_natCast,Int.toNat_natCast,Int.toNat_natCast,ziT]
  exact h.rref
def SizePost (P M:Int) (k:Nat) (f:Nat->Int) (N:Int) (n:Nat) (ln:Nat->Nat) (V:Nat->Nat->Int) (w:World) (e:Ending) (w':World):Prop :=
 ∃ v u:Int,e=.returned (.tuple #[.int .i64 v,.int .i64 u])/\FirstErr (CodeErrs P M k f N n ln V ++ [((P.toNat ^ M.toNat) ^ n<=65536,8)]) u/\(u=0->v=(((P.toNat ^ M.toNat) ^ n:Nat):Int))/\(u≠0->v=0)/\Below w.heap.size w w'
theorem zgk (P M:Int) (A:Option Addr) (k c:Nat) (f:Nat->Int) (N:Int) (T:Option Addr) (n d:Nat) (ln:Nat->Nat) (V:Nat->Nat->Int) (w:World) (hr:IntsR w w.heap.size A k f) (h:IntRows w T n ln V) :
  Calls Tryz.prog 65 #[.agg #[.int .i64 P,.int .i64 M,.slice A k c,.int .i64 N,.slice T n d]] w (SizePost P M k f N n ln V w):=by
 have HT:=hid h
 have HR:=hid hr
 clear h hr
 have rf:=za2 (w:=w) (a:=.int .i64 P) (b:=.int .i64 M) (c:=.slice A k c) (d:=.int .i64 N) (e:=.slice T n d) (T := 27)
 have hB:=aly w (.cells #[.int .i64 P,.int .i64 M,.slice A k c,.int .i64 N,.slice T n d] 27)
 obtain ⟨w1,i⟩:=exx (w.alloc (.cells #[.int .i64 P,.int .i64 M,.slice A k c,.int .i64 N,.slice T n d] 27))
 rw [<-i] at hB rf
 go_enter Tryz.func65, Tryz.ntmps65
 go_upto_region 1 with fail
 rw [<-i];clear i
 have q0:=qc0 rf
 have q1:=qc1 rf
 have q2:=qc2 rf
 have q3:=qc3 rf
 have q4:=qc4 rf
 go_wp2_with fail
 refine (zfv P M A k c f N T n d ln V w1 (HR.out.on hB) (HT.out.on hB)).mono ?_
 rintro e w2 ⟨v,rfl,hv,kb⟩
 replace rf:=zab rf kb;replace hB:=onS hB kb;clear kb q0 q1 q2 q3 q4
 by_cases hv0:v=0
 rotate_left
 ·have B:(v != 0)=true:=by simpa using hv0
  have l:=hid (FirstErr.app (r:=[((P.toNat ^ M.toNat) ^ n<=65536,8)]) (u:=v) (by simp [CodeErrs]) hv (fun _=>rfl) (fun h=>absurd h hv0))
  clear hv
  go_wp2
  go_ret2
  exact ⟨0,v,rfl,l.out,fun h=>absurd h hv0,fun _=>rfl,hB⟩
 subst hv0
 have l:=hid hv
 obtain ⟨P',M',N',rfl,rfl,rfl,hC⟩:=zdw HR.out HT.out hv
 have q:=hC.fld.1
 have x:=hC.n_le
 have z:=hC.ln2
 have p:=(fieldLaws hC.fld).two
 have g:=q.2.2.2
 have m:=hid (zct q)
 clear hC hv
 have q0:=qc0 rf
 have q1:=qc1 rf
 have q2:=qc2 rf
 have q4:=qc4 rf
 go_wp2
 refine wp_region_held_drew (S:=fun w'=>w'.cell? ⟨w.heap.size,0,none⟩=some (.int .i64 (P':Nat))/\w'.cell? ⟨w.heap.size,1,none⟩=some (.int .i64 (M':Nat))/\w'.cell? ⟨w.heap.size,2,none⟩=some (.slice A k c)/\w'.cell? ⟨w.heap.size,4,none⟩=some (.slice T n d)) (by kernel_rfl) ⟨cellS (Below.refl _ _).drew (q0),cellS (Below.refl _ _).drew (q1),cellS (Below.refl _ _).drew (q2),cellS (Below.refl _ _).drew (q4)⟩ (fun hHeld=>?_)
 obtain ⟨w3,hw,kb⟩:=dwx w2
 rw [<-hw] at hHeld ⊢;clear hw;replace hB:=onS hB kb;replace q0:=cellS kb q0;replace q1:=cellS kb q1;replace q2:=cellS kb q2;replace q4:=cellS kb q4;clear kb
 refine tkq 0 (h:=tkq 1 (h:=tkq 3 (h:=tkq 4 (h:=tkq 5 (h:=?_)))))
 refine rdq 2 (h:=fun K hK=>?_)
 go_simp
 go_wp2_with fail
 refine (zck (P':Int) (M':Int) A k c w3).mono ?_
 rintro e w4 ⟨rfl,kb⟩
 replace hB:=onS hB kb;replace q0:=cellS kb q0;replace q1:=cellS kb q1;replace q2:=cellS kb q2;replace q4:=cellS kb q4;clear kb;rw [m.out]
 obtain ⟨Q,hQ⟩:=exx (P' ^ M')
 rw [<-hQ]
 have HQ:=hid hQ
 rw [<-hQ] at p g;clear hQ
 refine bkq hK ⟨q0,q1,q2,q4⟩ (h:=fun hHeld=>?_)
 clear hK K
 refine rdq 6 (h:=fun K hK=>?_)
 go_simp
 go_wp2_with fail
 refine (zhB Q n 65536 w4 p g (by omega) (by omega) (by omega)).mono ?_
 rintro e w5 ⟨s,rfl⟩
 obtain ⟨y,u,rfl,o⟩:∃ y u:Int,e=.returned (.tuple #[.int .i64 y,.int .i64 u])/\((Q ^ n<=65536/\y=((Q ^ n:Nat):Int)/\u=0)∨(65536<Q ^ n/\y=0/\u=8)):=by
  rcases s with ⟨h1,rfl⟩ | ⟨h1,rfl⟩
  ·exact ⟨_,_,rfl,.inl ⟨h1,rfl,rfl⟩⟩
  ·exact ⟨_,_,rfl,.inr ⟨h1,rfl,rfl⟩⟩
 have j:=hid o
 clear s o
 refine bkq hK ⟨q0,q1,q2,q4⟩ (h:=fun hHeld=>?_)
 clear hK K
 refine tkq 7 (h:=tkq 8 (h:=tkq 9 (h:=tkq 10 (h:=?_))))
 refine wpAnyH_done (by kernel_rfl) ?_ _
 clear hHeld;clear q0 q1 q2 q4 rf
 go_wp2
 go_ret2
 refine ⟨y,u,rfl,?_,fun h=>?_,fun h=>?_,hB⟩
 ·refine FirstErr.app (by simp [CodeErrs]) l.out (fun h=>absurd rfl h) fun _=>?_
  rw [Int.toNat_natCast,Int.toNat_natCast,<-HQ.out]
  rcases j.out with ⟨h1,_,h3⟩ | ⟨h1,_,h3⟩
  ·exact .inr ⟨h1,h3⟩
  ·exact .inl ⟨by omega,h3⟩
 ·rw [Int.toNat_natCast,Int.toNat_natCast,<-HQ.out]
  rcases j.out with ⟨h1,h2,h3⟩ | ⟨h1,h2,h3⟩
  ·exact h2
  ·omega
 rcases j.out with ⟨h1,h2,h3⟩ | ⟨h1,h2,h3⟩
 ·exact absurd h3 h
 ·exact h2
def CountPost (most:Nat) (P M:Int) (k:Nat) (f:Nat->Int) (N:Int) (n:Nat) (ln:Nat->Nat) (V:Nat->Nat->Int) (w:World) (e:Ending) (w':World):Prop :=
 ∃ v:Int,e=.returned (.int .i64 v)/\((v=0/\¬ (FirstErr (CodeErrs P M k f N n ln V) 0/\(P.toNat ^ M.toNat) ^ n<=most))∨(FirstErr (CodeErrs P M k f N n ln V) 0/\(P.toNat ^ M.toNat) ^ n<=most/\v=(((P.toNat ^ M.toNat) ^ n:Nat):Int)))/\Below w.heap.size w w'
theorem FirstErr.app_zero:∀ {l r:List (Prop × Int)},(∀ x ∈ l,x.2≠0)->FirstErr (l ++ r) 0->FirstErr l 0/\FirstErr r 0
 | [],_,_,h=>⟨rfl,h⟩
 | (p, e) :: l, r, hne, h => by
  rcases h with ⟨_,h1⟩ | ⟨hp,h⟩
  ·exact absurd h1.symm (hne (p,e) (by simp))
  ·obtain ⟨h1,h2⟩:=FirstErr.app_zero (l:=l) (fun x hx=>hne x (by simp [hx])) h
   exact ⟨.inr ⟨hp,h1⟩,h2⟩
theorem FirstErr.app_all:∀ {l r:List (Prop × Int)},FirstErr l 0->FirstErr r 0->(∀ x ∈ l,x.2≠0)->FirstErr (l ++ r) 0
 | [],_,_,h,_=>h
 | (p,e) :: l,r,h1,h2,hne=>by
  rcases h1 with ⟨_,h3⟩ | ⟨hp,h1⟩
  ·exact absurd h3.symm (hne (p,e) (by simp))
  ·exact .inr ⟨hp,FirstErr.app_all h1 h2 fun x hx=>hne x (by simp [hx])⟩
theorem zfw (most:Nat) (P M:Int) (A:Option Addr) (k c:Nat) (f:Nat->Int) (N:Int) (T:Option Addr) (n d:Nat) (ln:Nat->Nat) (V:Nat->Nat->Int) (w:World) (hr:IntsR w w.heap.size A k f) (h:IntRows w T n ln V) (hm:most<=65536) :
  Calls Tryz.prog 21 #[.agg #[.int .i64 P,.int .i64 M,.slice A k c,.int .i64 N,.slice T n d],.int .i64 (most:Nat)] w (CountPost most P M k f N n ln V w):=by
 have HT:=hid h
 have HR:=hid hr
 clear h hr
 have rf:=za2 (w:=w) (a:=.int .i64 P) (b:=.int .i64 M) (c:=.slice A k c) (d:=.int .i64 N) (e:=.slice T n d) (T := 27)
 have hB:=aly w (.cells #[.int .i64 P,.int .i64 M,.slice A k c,.int .i64 N,.slice T n d] 27)
 obtain ⟨w1,g⟩:=exx (w.alloc (.cells #[.int .i64 P,.int .i64 M,.slice A k c,.int .i64 N,.slice T n d] 27))
 rw [<-g] at hB rf
 go_enter Tryz.func21, Tryz.ntmps21
 go_upto_region 1 with fail
 rw [<-g];clear g
 have q0:=qc0 rf
 have q1:=qc1 rf
 have q2:=qc2 rf
 have q3:=qc3 rf
 have q4:=qc4 rf
 go_wp2_with fail
 refine (zgk P M A k c f N T n d ln V w1 (HR.out.on hB) (HT.out.on hB)).mono ?_
 rintro e w2 ⟨v,u,rfl,hu,i,m,kb⟩
 replace hB:=onS hB kb
 have HU:=hid hu
 clear kb q0 q1 q2 q3 q4 rf hu
 by_cases hu0:u=0
 ·have hv:=i hu0
  have o:(u != 0)=false:=by simpa using hu0
  obtain ⟨hc,hs⟩:=FirstErr.app_zero (l:=CodeErrs P M k f N n ln V) (by simp [CodeErrs]) (by rw [<-hu0]; exact HU.out)
  have q:=hid hc
  have j:=hid hv
  clear hc hs hv i m hu0
  by_cases hvm:v > (most:Int)
  ·go_wp2
   go_ret
   exact ⟨0,rfl,.inl ⟨rfl,fun h=>by have:=h.2; have:=j.out; omega⟩,hB⟩
  go_wp2
  go_ret
  exact ⟨v,rfl,.inr ⟨q.out,by have:=j.out; omega,j.out⟩,hB⟩
 have o:(u != 0)=true:=by simpa using hu0
 have p:Hid (¬ (FirstErr (CodeErrs P M k f N n ln V) 0/\(P.toNat ^ M.toNat) ^ n<=most)):=by
  rintro ⟨h1,h2⟩
  exact hu0 (FirstErr.unique HU.out (FirstErr.app_all h1 (.inr ⟨Nat.le_trans h2 hm,rfl⟩) (by simp [CodeErrs])))
 clear i m hu0
 go_wp2
 go_ret
 exact ⟨0,rfl,.inl ⟨rfl,p.out⟩,hB⟩
def msgD (q n x t:Nat):Nat:=dig q x (n - 1 - t)
theorem zdU {q n x t:Nat} (hq:0<q):msgD q n x t<q:=zbG hq x _
def NoInt (w:World) (b:Nat):Prop:=∀ j n,w.cell? ⟨b,j,none⟩≠some (.int .u32 n)
theorem zcy {w:World} {g:Nat} {c:Array Value} {e:TypeId} {fr:Nat × Nat} (hg:w.heap[g]?=some (.cells c e fr)) (h:∀ u ∈ c.toList,∀ n,u≠.int .u32 n):NoInt w g:=fun j n hj=>by
 rw [cell_of_row w g j c e fr hg] at hj
 exact h _ (by rw [Array.mem_toList_iff]; exact Array.mem_of_getElem? hj) n rfl
theorem zev {w:World} {g:Nat} {c:Array Value} {e:TypeId} {fr:Nat × Nat} (hg:w.heap[g]?=some (.cells c e fr)) (h:NoInt w g):∀ u ∈ c.toList,∀ n,u≠.int .u32 n:=fun u hu n e'=>by
 rw [Array.mem_toList_iff] at hu
 obtain ⟨j,hj,e2⟩:=Array.getElem_of_mem hu
 exact h j n (by rw [cell_of_row w g j c _ fr hg,Array.getElem?_eq_getElem hj,e2,e'])
theorem zfx {w w':World} {B n:Nat} {A:Option Addr} {f:Nat->Nat} {row:Option Nat} (h:Lims w B A n f) (hB:B<=w.heap.size) (hg:w.grownBy w' row) (hni:∀ g,row=some g->NoInt w g):Lims w' B A n f:=fun k hk=>by
 obtain ⟨b',o',e,h1,h2⟩:=h k hk
 refine ⟨b',o',e,h1,fun j hj=>?_⟩
 have hc:=h2 j hj
 rw [<-hc]
 have hne:row≠some b':=fun e=>hni b' e _ _ hc
 have:=hg.block b' (by omega) (fun e=>hne e.symm)
 simp only [World.cell?,this]
theorem zdV {z:Array Value} {n:Nat} {u:Value} (h:u ∈ (Builtin.zeroCells z n).toList):u ∈ z.toList:=by
 simp only [Builtin.zeroCells,Array.toList_map,List.mem_map,Array.toList_range,List.mem_range] at h
 obtain ⟨k,hk,rfl⟩:=h
 have h0:0<z.size:=Nat.pos_of_ne_zero fun e=>by rw [e] at hk; simp at hk
 have h1:k % z.size<z.size:=Nat.mod_lt _ h0
 rw [getElem!_pos z _ h1]
 exact Array.getElem_mem_toList h1
section
variable {P:Program} (w:World)
theorem zcz (Pv:Value->Prop) (base:Nat) (t ty e:TypeId) (i:TypeInfo) (z:Value) (s bytes:Nat) (ht:P.underlying t=some (.slice e)) (hi:P.info? e=some i) (hz:i.zero=some z)
  (hsize:i.size=s) (hby:i.bytes=bytes) (hs:0<s)
  (v:Value) (n:Nat) (f:Nat->Nat->Value) (hown:Own w base e s v n f)
  (a:Addr) (c:Nat) (hnews:∀ j,j<s->w.cell? (a.add j)=some (f n j)) (h1:∀ j,j<s->(f n j).oneCell'=true)
  (h63:n+1<=maxLen) (hbytes:(n+1)*bytes<=140737488355328)
  (hPz:∀ u ∈ z.cells.toList,Pv u) (hPf:∀ k j,k<=n->j<s->Pv (f k j)) (hPv:∀ g c e fr,v.ownBlock=some g->w.heap[g]?=some (.cells c e fr)->∀ u ∈ c.toList,Pv u) :
  ∃ v' w',(Builtin.append_ #[t,t] ty #[v,.slice (some a) 1 c]).run P w=.ok v' w'/\∀ g,v'.ownBlock=some g->∃ c e fr,w'.heap[g]?=some (.cells c e fr)/\∀ u ∈ c.toList,Pv u:=by
 subst hsize
 subst hby
 have p:n+1<=9223372036854775807:=by simp only [maxLen] at h63; omega
 have d:∀ j u,(elem i.size (f n))[j]?=some u->w.cell? (a.add j)=some u:=fun j u hu=>by
  have hj:j<i.size:=by have:=(List.getElem?_eq_some_iff.1 hu).1; rwa [zak] at this
  rw [zdi hj] at hu
  injection hu with hu
  subst hu
  exact hnews j hj
 have y:∀ u ∈ elem i.size (f n),u.oneCell'=true:=fun u hu=>by
  obtain ⟨j,hj,rfl⟩:=List.mem_map.1 hu
  exact h1 j (List.mem_range.1 hj)
 have x:∀ u ∈ elem i.size (f n),Pv u:=fun u hu=>by
  obtain ⟨j,hj,rfl⟩:=List.mem_map.1 hu
  exact hPf n j (Nat.le_refl _) (List.mem_range.1 hj)
 have D:∀ u ∈ flat i.size f n,Pv u:=fun u hu=>by
  obtain ⟨j,hj,rfl⟩:=List.mem_map.1 hu
  have hj:=List.mem_range.1 hj
  exact hPf _ _ (Nat.le_of_lt (Nat.div_lt_of_lt_mul (by rw [Nat.mul_comm]; exact hj))) (Nat.mod_lt _ hs)
 have m:=Src.ofSlice (P:=P) w (size:=i.size) (e':=e) ht a 1 c (elem i.size (f n)) (by rw [zak]; omega) d y
 have grown:∀ (A:Option Addr) (cap:Nat),cap<n+1->(Builtin.firstCells i.size n (.slice A n cap)).run P w.drew=.ok (flat i.size f n).toArray w.drew ->
   ∃ v' w',(Builtin.append_ #[t,t] ty #[.slice A n cap,.slice (some a) 1 c]).run P w=.ok v' w'/\∀ g,v'.ownBlock=some g->∃ c e fr,w'.heap[g]?=some (.cells c e fr)/\∀ u ∈ c.toList,Pv u:=by
  intro A cap h b
  have l:=run_append_grow_src (P:=P) w t t ty e i z ht hi hz A n cap (flat i.size f n) b (.slice (some a) 1 c) 1 (elem i.size (f n)) m h (by omega) (growslice_fits h hbytes)
  refine ⟨_,_,l,fun g hg=>?_⟩
  simp [Value.ownBlock] at hg
  subst hg
  refine ⟨_,e,_,heap_alloc_new w.drew _,fun u hu=>?_⟩
  simp only [Array.toList_append,List.mem_append] at hu
  rcases hu with (hu | hu) | hu
  ·exact D u hu
  ·exact x u hu
  ·exact hPz u (zdV hu)
 rcases hown with ⟨rfl,rfl⟩ | ⟨g,o,cap,cur,rfl,hb,hg,E,F,C,q⟩
 ·exact grown none 0 (by omega) (by simp [Builtin.firstCells,flat])
 by_cases hroom:n+1<=cap
 ·have B:o+n*i.size+(elem i.size (f n)).length<=cur.size:=by
   rw [zak]
   have:(n+1)*i.size<=cap*i.size:=Nat.mul_le_mul_right i.size hroom
   rw [Nat.add_mul] at this; omega
  have l:=za3 (P:=P) w t ty e i ht hi g o n cap cur hg a c (elem i.size (f n)) (zak _ _) d y hroom B
  refine ⟨_,_,l,fun g' hg'=>?_⟩
  simp [Value.ownBlock] at hg'
  subst hg'
  refine ⟨_,e,_,zbn hg,fun u hu=>?_⟩
  have b:=hPv g cur e _ rfl hg
  simp only [List.mem_append] at hu
  rcases hu with (hu | hu) | hu
  ·exact b u (List.mem_of_mem_take hu)
  ·exact x u hu
  ·exact b u (List.mem_of_mem_drop hu)
 have h:cap=n:=by omega
 subst h
 have b:(Builtin.firstCells i.size cap (.slice (some ⟨g,o,none⟩) cap cap)).run P w.drew=.ok (flat i.size f cap).toArray w.drew:=by
  refine run_firstCells_some (P:=P) w.drew i.size cap ⟨g,o,none⟩ cap cap (flat i.size f cap) (zao _ _ _) fun j u hu=>?_
  have hj:j<cap*i.size:=by have:=(List.getElem?_eq_some_iff.1 hu).1; rwa [zao] at this
  have e1:j / i.size<cap:=Nat.div_lt_of_lt_mul (by rw [Nat.mul_comm]; exact hj)
  have e2:j % i.size<i.size:=Nat.mod_lt _ hs
  have e3:j / i.size*i.size+j % i.size=j:=Nat.div_add_mod' j i.size
  have:=zcq (f:=f) hs e1 e2
  rw [e3,hu] at this
  injection this with this
  subst this
  have:=q _ e1 _ e2
  have r:(⟨g,o,none⟩:Addr).add j=⟨g,o+j,none⟩:=by unfold Addr.add; split <;> simp_all
  rw [r]
  show w.cell? ⟨g,o+j,none⟩=_
  rw [cell_of_row w g _ cur e (0,0) hg,<-this]
  congr 1; omega
 exact grown (some ⟨g,o,none⟩) cap (by omega) b
end
def NatOwn (w:World) (base:Nat) (v:Value) (k:Nat) (x:Nat->Nat):Prop :=
 ∃ f:Nat->Nat->Value,Own w base 69 1 v k f/\(∀ g,v.ownBlock=some g->NoInt w g)/\∀ i,i<k->∃ A c,f i 0=.slice A (dl (x i)) c/\NatOk w w.heap.size A (x i)/\dl (x i)<=c/\c<=maxLen
theorem NatOwn.on {w w':World} {base k:Nat} {v:Value} {x:Nat->Nat} (h:NatOwn w base v k x) (hb:Below w.heap.size w w'):NatOwn w' base v k x:=by
 obtain ⟨f,h1,h2,h3⟩:=h
 refine ⟨f,h1.on hb,fun g hg j n hj=>?_,fun i hi=>?_⟩
 ·have a:=(h1.lt g hg).2
  exact h2 g hg j n (by rw [<-hb.cell (p:=⟨g,j,none⟩) a]; exact hj)
 ·obtain ⟨A,c,e0,n1,h4⟩:=h3 i hi
  exact ⟨A,c,e0,n1.on hb,h4⟩
theorem NatOwn.tab {w:World} {base k:Nat} {v:Value} {x:Nat->Nat} (h:NatOwn w base v k x):∃ A c,v=.slice A k c/\k<=c/\c<=maxLen/\NatTab w w.heap.size A k x:=by
 obtain ⟨f,h1,_,h3⟩:=h
 obtain ⟨A,c,rfl⟩:=h1.shape
 have hc:k<=c/\c<=maxLen:=by
  rcases h1 with ⟨e1,e2⟩ | ⟨g1,o1,cap,cur,e1,_,_,h3,h4,_⟩
  ·injection e1 with _ _ e3; subst e3; exact ⟨by omega,by unfold maxLen; omega⟩
  ·injection e1 with _ _ e3; subst e3; exact ⟨h3,h4⟩
 refine ⟨A,c,rfl,hc.1,hc.2,fun i hi=>?_⟩
 obtain ⟨b,off,e,hb,a⟩:=h1.rd rfl i hi
 obtain ⟨B,d,e0,n1,n2,n3⟩:=h3 i hi
 have g:=a 0 (by omega)
 rw [Nat.mul_one,Nat.add_zero,e0] at g
 exact ⟨b,off,B,d,e,hb,g,n2,n3,n1⟩
theorem Tryz.infoNat:(Tryz.prog.info? 69).map (fun i=>(i.zero,i.size,i.bytes))=some (some (.slice none 0 0),1,24):=by kernel_rfl
open Go
def rv (s:Bool) (x y:Nat):Rat:=mkRat (if s then -(x:Int) else x) y
open Go.ChangeShapes Go.WideShapes Go.ChangeAt
section
variable {q n k:Nat} {add mul:Nat->Nat->Nat} {V:Nat->Nat->Nat}
theorem EchN.spE_pv (hL:FieldLaws q add mul) {a:Nat} {p:Nat->Nat} (h:EchN q n k k a p V) {c:Nat->Nat} (hc:∀ i,i<a->c i<q) {s:Nat} (hs:s<a):spE add mul V c a (p s)=c s:=by
 have d:=h.le
 have b:∀ t,t<=a->spE add mul V c t (p s)=if s<t then c s else 0:=by
  intro t
  induction t with
  | zero=>intro _; rfl
  | succ t ih =>
   intro ht
   show add (spE add mul V c t (p s)) (mul (c t) (V t (p s)))=_
   rw [ih (by omega)]
   by_cases e:t=s
   ·subst e
    rw [if_neg (by omega),if_pos (by omega),h.one t hs,hL.mulOne (hc t hs),hL.zeroAdd _ (hc t hs)]
   ·rw [h.zero s hs t (by omega) e,hL.mulZero (hc t (by omega))]
    by_cases e2:s<t
    ·rw [if_pos e2,if_pos (by omega),hL.addZero (hc s hs)]
    ·have:=hL.two
     rw [if_neg e2,if_neg (by omega),hL.addZero (by omega)]
 rw [b a (Nat.le_refl _),if_pos hs]
end
structure OnEl (q:Nat) (add mul:Nat->Nat->Nat) [Add (El q)] [Mul (El q)] [Neg (El q)] [Zero (El q)] [One (El q)]:Prop where
 fie:Fie (El q)
 ha:∀ x y:El q,(x+y).val=add x.val y.val
 hm:∀ x y:El q,(x*y).val=mul x.val y.val
 h0:(0:El q).val=0
 h1:(1:El q).val=1
theorem ziU {P M:Int} (h:256<P):ordV P M=0:=by
 unfold ordV
 split
 ·rename_i h2
  exfalso
  obtain ⟨h3,h4,_,h5⟩:=h2
  have h6:=Nat.pow_le_pow_right (n:=P.toNat) (show 0<P.toNat by omega) (show 1<=M.toNat by omega)
  rw [Nat.pow_one] at h6
  omega
 ·rfl
theorem zbZ (P M:Int) (w:World):Calls Tryz.prog 146 #[.int .i64 P,.int .i64 M] w (OrderPost P M w):=by
 by_cases h1:P<2
 ·have hz:=hid (zdc (P:=P) (M:=M) (.inl h1))
  go_enter Tryz.func146, Tryz.ntmps146
  go_wp2
  go_ret
  exact zaB hz.out (Below.refl _ _)
 by_cases h2:P > 256
 ·have hz:=hid (ziU (P:=P) (M:=M) h2)
  go_enter Tryz.func146, Tryz.ntmps146
  go_wp2
  go_ret
  exact zaB hz.out (Below.refl _ _)
 by_cases h3:M<1
 ·have hz:=hid (zdc (P:=P) (M:=M) (.inr (.inl h3)))
  go_enter Tryz.func146, Tryz.ntmps146
  go_wp2
  go_ret
  exact zaB hz.out (Below.refl _ _)
 by_cases h4:M > 8
 ·have hz:=hid (zdc (P:=P) (M:=M) (.inr (.inr h4)))
  go_enter Tryz.func146, Tryz.ntmps146
  go_wp2
  go_ret
  exact zaB hz.out (Below.refl _ _)
 obtain ⟨p,rfl⟩:∃ p:Nat,P=p:=⟨P.toNat,by omega⟩
 obtain ⟨m,rfl⟩:∃ m:Nat,M=m:=⟨M.toNat,by omega⟩
 have a:Hid (∀ v:Nat,(p ^ m<=256->v=p ^ m)->(256<p ^ m->v=0)->ordV (p:Int) (m:Int)=(v:Int)):=fun v hv1 hv2=>by
  unfold ordV
  rw [Int.toNat_natCast,Int.toNat_natCast]
  by_cases h:p ^ m<=256
  ·rw [if_pos ⟨by omega,by omega,by omega,h⟩,hv1 h]
  ·rw [if_neg (fun hh=>h hh.2.2.2),hv2 (by omega)]; rfl
 have l:(0:Int)<=(m:Int):=by omega
 go_enter Tryz.func146, Tryz.ntmps146
 go_wp2
 go_loopg [5,21] m (fun gg qv iv wx=>∃ i y:Nat,qv=.int .i64 (y:Nat)/\iv=.int .i64 (i:Nat)/\i<=m/\m<=i+gg/\Hid (y=p ^ i)/\y<=256/\wx=w)
 case atStart=>exact ⟨0,1,rfl,rfl,by omega,by omega,rfl,by omega,rfl⟩
 obtain ⟨i,y,rfl,rfl,hi,o,HY,hy,d⟩:=hrel
 subst d
 by_cases hlt:i<m
 rotate_left
 ·have c:¬ (i:Int)<(m:Int):=by omega
  obtain rfl:i=m:=by omega
  have b:=hid (a.out y (fun _=>HY.out) (fun h=>by have:=HY.out; omega))
  go_wp2
  go_ret
  exact ⟨by rw [b.out]; rfl,Below.refl _ _⟩
 have c:(i:Int)<(m:Int):=by omega
 obtain ⟨z,hz⟩:=exx (y*p)
 have j:(y:Int)*(p:Int)=(z:Int):=by rw [hz]; simp
 have k:z<=65536:=by rw [hz]; exact Nat.mul_le_mul (show y<=256 by omega) (show p<=256 by omega)
 have HZ:Hid (z=p ^ (i+1)):=by show _=_; rw [hz,HY.out,Nat.pow_succ]
 clear hz
 by_cases hb:z > 256
 ·have g:(z:Int) > 256:=by omega
  have e:=hid (a.out 0 (fun h=>by
   have h5:=Nat.pow_le_pow_right (n:=p) (by omega) (show i+1<=m by omega)
   rw [<-HZ.out] at h5
   omega) (fun _=>rfl))
  go_wp2
  go_ret
  exact ⟨by rw [e.out]; rfl,Below.refl _ _⟩
 have g:¬ (z:Int) > 256:=by omega
 go_wp2
 go_roundg (gk - 1)
 case measure=>omega
 case rel=>exact ⟨i+1,z,rfl,by go_num,by omega,by omega,HZ,by omega,rfl⟩
theorem zdx {n d:Nat} (hd:n<d*d) (h:∀ e,2<=e->e<d->n % e≠0):PrimeB n:=by
 intro e h1 h2 h3
 obtain ⟨f,hf⟩:=Nat.dvd_of_mod_eq_zero h3
 have a:2<=f:=by
  rcases (show f=0∨f=1∨2<=f by omega) with e0 | e0 | e0
  ·subst e0; omega
  ·subst e0; omega
  ·exact e0
 by_cases he:e<d
 ·exact h e h1 he h3
 by_cases hfd:f<d
 ·exact h f a hfd (by rw [hf]; exact Nat.mul_mod_left e f)
 ·have:=Nat.mul_le_mul (show d<=e by omega) (show d<=f by omega)
  omega
theorem zfy (P:Nat) (w:World) (hP2:2<=P) (hP:P<=256) :
  Calls Tryz.prog 198 #[.int .i64 (P:Nat)] w (PrimePost P w):=by
 have l:(P:Int) ≥ 2:=by omega
 have g:(2:Int)<=(P:Int):=by omega
 go_enter Tryz.func198, Tryz.ntmps198
 go_wp2
 go_loopg [3] 20 (fun gg iv wx=>∃ d:Nat,iv=.int .i64 (d:Nat)/\2<=d/\d<=17/\20<=d+gg/\Hid (∀ d',2<=d'->d'<d->P % d'≠0)/\wx=w)
 case atStart=>exact ⟨2,rfl,by omega,by omega,by omega,fun d' h1 h2=>absurd h1 (by omega),rfl⟩
 obtain ⟨d,rfl,h2,hd,s,HG,i⟩:=hrel
 subst i
 have t:(2:Int)<=(d:Int):=by omega
 have u:¬ (d:Int)=0:=by omega
 have q:(d:Int)<=17:=by omega
 obtain ⟨z,hz⟩:=exx (d*d)
 have o:(d:Int)*(d:Int)=(z:Int):=by rw [hz]; simp
 have p:z<=289:=by rw [hz]; exact Nat.mul_le_mul hd hd
 have HZ:=hid hz
 clear hz
 by_cases hlt:z<=P
 rotate_left
 ·have b:¬ (z:Int)<=(P:Int):=by omega
  have c:=hid (zdx (n:=P) (d:=d) (by have:=HZ.out; omega) HG.out)
  go_wp2
  go_ret
  exact ⟨true,rfl,⟨fun _=>c.out,fun _=>rfl⟩,rfl⟩
 have b:(z:Int)<=(P:Int):=by omega
 have a:(P:Int) % (d:Int)=((P % d:Nat):Int):=by simp
 obtain ⟨r,hr⟩:=exx (P % d)
 rw [<-hr] at a
 have HR:=hid hr
 clear hr
 have k:d<=16:=Classical.byContradiction fun hn=>by
  obtain rfl:d=17:=by omega
  have:=HZ.out
  omega
 by_cases h0:r=0
 ·subst h0
  have m:Hid (¬ PrimeB P):=fun h=>h d h2 (by
   have:=HZ.out
   have h5:2*d<=d*d:=Nat.mul_le_mul_right d h2
   omega) HR.out.symm
  go_wp2
  go_ret
  exact ⟨false,rfl,⟨(fun h=>by cases h),fun h=>absurd h m.out⟩,rfl⟩
 have hb:((r:Int) == 0)=false:=by simp; omega
 have j:Hid (∀ d',2<=d'->d'<d+1->P % d'≠0):=fun d' e1 e2=>by
  by_cases e:d'=d
  ·rw [e,<-HR.out]; exact h0
  ·exact HG.out d' e1 (by omega)
 go_wp2
 go_roundg (gk - 1)
 case measure=>omega
 case rel=>exact ⟨d+1,by go_num,by omega,by omega,by omega,j,rfl⟩
theorem zcA (x p n:Nat) (w:World) (hx:x<=1048576) (hp:1<=p) (hp2:p<=256) (hn:n<=64) :
  Calls Tryz.prog 227 #[.int .i64 (x:Nat),.int .i64 (p:Nat),.int .i64 (n:Nat)] w (RowPost n (fun i=>.int .i64 (dig p x i:Nat)) w):=by
 have o:=fun W=>zaf (P:=Tryz.prog) 22 3 _ 8 Tryz.underlying22 Tryz.infoInt rfl (n:Int) (by omega) (by omega) (by omega) W
 simp only [Int.toNat_natCast] at o
 have row:=World.rowIs_made w (.int .i64 0) n 3
 have hB:=aly w (.cells (madeCells #[.int .i64 0] n) 3)
 have H:(1:Int)<=(p:Int):=by omega
 have I:¬ (p:Int)=0:=by omega
 have G:(p:Int)<=256:=by omega
 go_enter Tryz.func227, Tryz.ntmps227
 go_wp2
 obtain ⟨w1,b⟩:=exx (w.alloc (.cells (madeCells #[.int .i64 0] n) 3))
 obtain ⟨g,hg⟩:=exx w.heap.size
 rw [<-b,<-hg];rw [<-b] at hB row;rw [<-hg] at row
 have q:w.heap.size<=g:=by omega
 clear b hg o
 go_loopg [0,8,13] n (fun gg xv _ iv wx=>∃ i:Nat,iv=.int .i64 (i:Nat)/\xv=.int .i64 (x / p ^ i:Nat)/\i<=n/\n<=i+gg/\wx.rowIs g 3 n (fun j=>.int .i64 (if j<i then (dig p x j:Nat) else 0:Int))/\Below w.heap.size w wx)
 case atStart=>exact ⟨0,rfl,by simp,by omega,by omega,row.congr fun i _=>rfl,hB⟩
 clear row hB
 obtain ⟨i,rfl,rfl,hi,J,row,hB⟩:=hrel
 have K:(0:Int)<=(i:Int):=by omega
 have s:x / p ^ i<=x:=Nat.div_le_self _ _
 have c:x / p ^ (i+1)=x / p ^ i / p:=by rw [Nat.pow_succ,Nat.div_div_eq_div_mul]
 have m:dig p x i=x / p ^ i % p:=rfl
 obtain ⟨y,hy⟩:=exx (x / p ^ i)
 rw [<-hy] at s c m;rw [<-hy]
 have u:=hid c
 have v:=hid m
 clear hy c m
 by_cases hlt:i<n
 rotate_left
 ·obtain rfl:i=n:=by omega
  have k:¬ (i:Int)<(i:Int):=by omega
  have d:Hid (wr.rowIs g 3 i (fun j=>.int .i64 (dig p x j:Nat))):=row.congr fun j hj=>by rw [if_pos hj]
  clear row
  go_wp2
  go_ret
  exact ⟨g,rfl,q,d.out,hB⟩
 have k:(i:Int)<(n:Int):=by omega
 have F:(0:Int)<=(y:Int):=by omega
 have E:(y:Int)<=1048576:=by omega
 have h:(y:Int) % (p:Int)=((y % p:Nat):Int):=by simp
 have l:(y:Int) / (p:Int)=((y / p:Nat):Int):=by simp
 obtain ⟨r,hr⟩:=exx (y % p)
 obtain ⟨z,hz⟩:=exx (y / p)
 rw [<-hr] at h;rw [<-hz] at l
 have D:(0:Int)<=(z:Int):=by omega
 have C:(z:Int)<=1048576:=by have:y / p<=y:=Nat.div_le_self _ _; omega
 have HR:=hid hr
 have HZ:=hid hz
 clear hr hz
 have c0:=row.cell hlt
 have z0:=row.frozen i
 have a:Hid ((wr.setCell ⟨g,i,none⟩ (.int .i64 (r:Int))).rowIs g 3 n (fun j=>.int .i64 (if j<i+1 then (dig p x j:Nat) else 0:Int))):=(row.set i _).congr fun j hj=>by
  by_cases e:j=i
  ·subst e
   rw [if_pos rfl,if_pos (by omega),v.out,HR.out]
  rw [if_neg e]
  by_cases e2:j<i
  ·rw [if_pos e2,if_pos (by omega)]
  ·rw [if_neg e2,if_neg (by omega)]
 have B:Hid (Below w.heap.size w (wr.setCell ⟨g,i,none⟩ (.int .i64 (r:Int)))):=hB.setCell q _
 clear row hB
 go_wp2
 go_roundg (gk - 1)
 case measure=>omega
 case rel=>exact ⟨i+1,by go_num,by rw [u.out,HZ.out],by omega,by omega,a.out,B.out⟩
theorem zfz (P:Nat) (T:Option Addr) (n d:Nat) (f:Nat->Nat) (w:World) (hP2:2<=P) (hP:P<=256) (h:IntsR w w.heap.size T n (fun i=>(f i:Nat))) (hd:Hid (∀ i,i<n->f i<P)) (hn:P ^ n<=256) (hn8:n<=8) :
  Calls Tryz.prog 228 #[.slice T n d,.int .i64 (P:Nat)] w fun e w'=>e=.returned (.int .i64 (valN P f n:Nat))/\Below w.heap.size w w':=by
 have hT:=hid h
 clear h
 go_enter Tryz.func228, Tryz.ntmps228
 go_wp2
 go_loopg [5,6] n (fun gg xv iv wx=>∃ j:Nat,iv=.int .i64 ((n:Int) - 1 - (j:Nat))/\xv=.int .i64 (valN P (fun i=>f (n - j+i)) j:Nat)/\j<=n/\n<=j+gg/\Below w.heap.size w wx)
 case atStart=>exact ⟨0,by go_num,rfl,by omega,by omega,Below.refl _ _⟩
 obtain ⟨j,rfl,rfl,hj,E,hB⟩:=hrel
 have g:=za4 (p:=P) (n:=j) (f:=fun i=>f (n - j+i)) (fun i hi=>hd.out _ (by omega))
 have C:P ^ j<=P ^ n:=Nat.pow_le_pow_right (by omega) hj
 by_cases hlt:j<n
 rotate_left
 ·obtain rfl:j=n:=by omega
  have m:¬ (0:Int)<=(j:Int) - 1 - (j:Int):=by omega
  have r:¬ (j:Int)<=(j:Int) - 1:=by omega
  have hv:valN P (fun i=>f (j - j+i)) j=valN P f j:=zaK fun i _=>by rw [show j - j+i=i by omega]
  rw [hv] at g ⊢
  obtain ⟨V,hV⟩:=exx (valN P f j)
  rw [<-hV] at g ⊢
  have HV:=hid hV
  clear hV hv
  go_wp2
  go_ret
  exact ⟨by rw [HV.out]; rfl,hB⟩
 have m:(0:Int)<=(n:Int) - 1 - (j:Int):=by omega
 obtain ⟨i,hi⟩:∃ i:Nat,i=n - 1 - j:=⟨_,rfl⟩
 have k:(n:Int) - 1 - (j:Int)=(i:Int):=by omega
 have l:i<n:=by omega
 have q:(i:Int)<(n:Int):=by omega
 have F:(0:Int)<=(i:Int):=by omega
 rw [k]
 obtain ⟨b,o,rfl,hb,e0⟩:=(hT.out.on hB).at l
 have s:=hd.out i l
 have c:valN P (fun t=>f (n - (j+1)+t)) (j+1)=f i+P*valN P (fun t=>f (n - j+t)) j:=by
  show f (n - (j+1)+0)+P*valN P (fun t=>f (n - (j+1)+(t+1))) j=_
  rw [show n - (j+1)+0=i by omega]
  congr 2
  exact zaK fun t _=>by rw [show n - (j+1)+(t+1)=n - j+t by omega]
 obtain ⟨V,hV⟩:=exx (valN P (fun t=>f (n - j+t)) j)
 obtain ⟨D,hD⟩:=exx (f i)
 rw [<-hV] at g c;rw [<-hD] at e0 s c;rw [<-hV]
 have v:=hid c
 have x:=hid k
 clear hV hD c hi k m
 have H:(0:Int)<=(V:Int):=by omega
 have G:(V:Int)<=256:=by omega
 have J:(0:Int)<=(D:Int):=by omega
 have I:(D:Int)<=256:=by omega
 have u:V*P<=256*256:=Nat.mul_le_mul (by omega) hP
 have a:(V:Int)*(P:Int)=((V*P:Nat):Int):=by simp
 obtain ⟨R,hR⟩:=exx (V*P)
 rw [<-hR] at u a
 have HR:=hid hR
 clear hR
 have B:IntKind.i64.wrap ((V:Int)*(P:Int))=(R:Int):=by rw [a]; exact IntWalk.i64_in _ (by omega)
 have z:IntKind.i64.wrap ((R:Int)+(D:Int))=(R:Int)+(D:Int):=IntWalk.i64_in _ (by omega)
 have y:IntKind.i64.wrap (R:Int)=(R:Int):=IntWalk.i64_in _ (by omega)
 go_wp2
 go_roundg (gk - 1)
 case measure=>omega
 case rel=>exact ⟨j+1,by have:=x.out; go_num,by rw [v.out,Nat.mul_comm P V,<-HR.out]; go_num,by omega,by omega,hB⟩
def hStep (P M:Nat) (m:Nat->Nat) (a:Nat->Nat) (bi:Nat) (o:Nat->Nat) (j:Nat):Nat:=((if j=0 then 0 else o (j - 1))+(P - o (M - 1))*(if 1<M then m j else 0)+bi*a j) % P
def hOut (P M:Nat) (m a b:Nat->Nat):Nat->Nat->Nat
 | 0=>fun _=>0
 | s+1=>hStep P M m a (b (M - 1 - s)) (hOut P M m a b s)
theorem zdW {P M:Nat} {m a b:Nat->Nat} (hP:0<P):∀ s j,hOut P M m a b s j<P
 | 0,_=>hP
 | _+1,_=>Nat.mod_lt _ hP
theorem zir {P M:Nat} {m a b:Nat->Nat} (hP:0<P):∀ s,s<=M->∀ j,j<M->cg P (hOut P M m a b s j) (sig s fun t=>(b (M - s+t):Int)*sig M fun i=>(a i:Int)*pwX M m (i+t) j)
 | 0,_,_,_=>zam _
 | s + 1, hs, j, hj => by
  have ih:=fun j' (hj':j'<M)=>zir (m:=m) (a:=a) (b:=b) hP s (by omega) j' hj'
  have hlt:=zdW (M:=M) (m:=m) (a:=a) (b:=b) hP s (M - 1)
  obtain ⟨o,ho⟩:=exx (hOut P M m a b s)
  rw [<-ho] at ih hlt
  have e1:hOut P M m a b (s+1) j=((if j=0 then 0 else o (j - 1))+(P - o (M - 1))*(if 1<M then m j else 0)+b (M - 1 - s)*a j) % P:=by rw [ho]; rfl
  rw [e1]
  refine (zdQ _).trans ?_
  have e2:sig (s+1) (fun t=>(b (M - (s+1)+t):Int)*sig M fun i=>(a i:Int)*pwX M m (i+t) j)=(b (M - 1 - s):Int)*a j+sig s (fun t=>(b (M - s+t):Int)*sig M fun i=>(a i:Int)*pwX M m (i+t+1) j):=by
   rw [show s+1=1+s by omega,zhq 1 s]
   congr 1
   ·show (0:Int)+(b (M - (1+s)):Int)*sig M (fun i=>(a i:Int)*pwX M m i j)=_
    rw [zbA hj fun i hi hne=>by rw [zbj hi,if_neg (by omega)]; omega,zbj hj,if_pos rfl,show M - (1+s)=M - 1 - s by omega,Int.mul_one,Int.zero_add]
   ·refine zad fun t _=>?_
    rw [show M - (1+s)+(1+t)=M - s+t by omega]
    congr 1
    exact zad fun i _=>by rw [show i+(1+t)=i+t+1 by omega]
  rw [e2]
  have e3:sig s (fun t=>(b (M - s+t):Int)*sig M fun i=>(a i:Int)*pwX M m (i+t+1) j)=(if j=0 then 0 else sig s fun t=>(b (M - s+t):Int)*sig M fun i=>(a i:Int)*pwX M m (i+t) (j - 1)) - m j*sig s (fun t=>(b (M - s+t):Int)*sig M fun i=>(a i:Int)*pwX M m (i+t) (M - 1)):=by
   rw [<-zcv]
   by_cases e:j=0
   ·rw [if_pos e]
    have:(0:Int)=sig s fun _=>0:=(za7 s).symm
    rw [this,<-zeV]
    refine zad fun t _=>?_
    have h1:sig M (fun i=>(a i:Int)*pwX M m (i+t+1) j) = - (m j*sig M fun i=>(a i:Int)*pwX M m (i+t) (M - 1)):=by
     rw [<-zcv,<-zij]
     refine zad fun i _=>?_
     show (a i:Int)*(if j<M then (if j=0 then 0 else pwX M m (i+t) (j - 1)) - m j*pwX M m (i+t) (M - 1) else 0)=_
     rw [if_pos hj,if_pos e]
     grind
    rw [h1]
    grind
   ·rw [if_neg e,<-zeV]
    refine zad fun t _=>?_
    have h1:sig M (fun i=>(a i:Int)*pwX M m (i+t+1) j)=sig M (fun i=>(a i:Int)*pwX M m (i+t) (j - 1)) - m j*sig M fun i=>(a i:Int)*pwX M m (i+t) (M - 1):=by
     rw [<-zcv,<-zeV]
     refine zad fun i _=>?_
     show (a i:Int)*(if j<M then (if j=0 then 0 else pwX M m (i+t) (j - 1)) - m j*pwX M m (i+t) (M - 1) else 0)=_
     rw [if_pos hj,if_neg e]
     grind
    rw [h1]
    grind
  rw [e3]
  have c1:cg P (((if j=0 then 0 else o (j - 1):Nat):Int)) (if j=0 then 0 else sig s fun t=>(b (M - s+t):Int)*sig M fun i=>(a i:Int)*pwX M m (i+t) (j - 1)):=by
   by_cases e:j=0
   ·rw [if_pos e,if_pos e]; exact zam _
   ·rw [if_neg e,if_neg e]; exact ih (j - 1) (by omega)
  have c2:cg P ((((P - o (M - 1))*(if 1<M then m j else 0):Nat):Int)) (- (m j*sig s fun t=>(b (M - s+t):Int)*sig M fun i=>(a i:Int)*pwX M m (i+t) (M - 1))):=by
   by_cases e:1<M
   ·rw [if_pos e]
    have h1:cg P (((P - o (M - 1))*m j:Nat):Int) (- (m j*(o (M - 1):Int))):=⟨m j,by rw [Int.natCast_mul,Int.natCast_sub (Nat.le_of_lt hlt)]; grind⟩
    exact h1.trans ((Go.Proofs.YtgekjfpapmlndaaGreat.cg.mulL _ (ih (M - 1) (by omega))).neg)
   ·rw [if_neg e,Nat.mul_zero]
    obtain rfl:s=0:=by omega
    exact zby (by show (0:Int) = -(m j*0); omega)
  rw [Int.natCast_add,Int.natCast_add,Int.natCast_mul (b (M - 1 - s))]
  refine ((c1.add c2).add (zam _)).trans (zby ?_)
  omega
theorem ziV {P M:Nat} {m:Nat->Nat} (hP:0<P) (hM:1<=M) (x y:Nat):valN P (hOut P M m (dig P x) (dig P y) M) M=mulF P M m x y:=by
 refine zbk hP (za4 fun i _=>zdW hP M i) (zaN hP x y) fun j hj=>?_
 have h1:dgt P (valN P (hOut P M m (dig P x) (dig P y) M) M) j=((hOut P M m (dig P x) (dig P y) M j:Nat):Int):=by
  unfold dgt
  rw [za1 (fun i _=>zdW hP M i) j hj]
 rw [h1]
 refine (zir hP M (Nat.le_refl _) j hj).trans (Go.Proofs.YtgekjfpapmlndaaGreat.cg.trans (zby ?_) (zdp hP hM x y hj).symm)
 rw [zaR]
 unfold mulI
 refine zad fun t _=>?_
 rw [show M - M+t=t by omega]
 unfold dgt
 congr 1
 exact zad fun i _=>by rw [Nat.add_comm i t]
theorem drewSet {B:Nat} {a w:World} {p:Addr} {v:Value} (h:Below B a (w.setCell p v)):Below B a (w.drew.setCell p v):=⟨h.os,h.tape,h.output,h.size,h.block⟩
theorem zhC {w':World} {g M L:Nat} {t:TypeId} {F:Nat->Value} {cs:Array Value} (h1:cs.size=M) (h2:∀ i,i<M->cs[i]?=some (F i)) (hM:L+1=M) (h:w'.heap[g]?=some (.cells (splice cs.toList 1 ((List.range L).map F)).toArray t (0,0))):w'.rowIs g t M (fun j=>if j=0 then F 0 else F (j - 1)):=by
 have hl:(splice cs.toList 1 ((List.range L).map F)).length=M:=by rw [length_splice _ _ _ (by simp; omega)]; simpa using h1
 refine ⟨_,h,by simpa using hl,fun i hi=>?_⟩
 rw [List.getElem?_toArray]
 unfold splice
 have a:cs.toList.length=M:=by simpa using h1
 show _=some (if i=0 then F 0 else F (i - 1))
 by_cases e:i=0
 ·subst e
  rw [if_pos rfl,List.getElem?_append_left (by rw [List.length_take]; omega),List.getElem?_take_of_lt (by omega),Array.getElem?_toList]
  exact h2 0 hi
 ·rw [if_neg e,List.getElem?_append_right (by rw [List.length_take]; omega),List.length_take,show i - min 1 cs.toList.length=i - 1 by omega,List.getElem?_append_left (by simp; omega)]
  simp [show i - 1<L by omega]
theorem zcB (P M:Nat) (A:Option Addr) (k c:Nat) (m:Nat->Nat) (x y:Nat) (w:World) (hf:FldOk P M) (hm:ModOk w P M A m) (hkM:M=1∨k=M) (hx:x<P ^ M) (hy:y<P ^ M) :
  Calls Tryz.prog 200 #[.agg #[.int .i64 (P:Nat),.int .i64 (M:Nat),.slice A k c],.int .i64 (x:Nat),.int .i64 (y:Nat)] w fun e w'=>e=.returned (.int .i64 (mulF P M m x y:Nat))/\Below w.heap.size w w':=by
 have hq:=hf.2.2.2
 have bn:=hf.1
 have a7:=hf.P_le
 have bq:=hf.2.1
 have bo:=hf.2.2.1
 have ao:1<=P:=by omega
 have u:0<P:=by omega
 have b3:x<=1048576:=by omega
 have b2:y<=1048576:=by omega
 have ap:M<=64:=by omega
 have ax:=hid (ziV (m:=m) u bq x y)
 have HQ:=hid hq
 clear hq hx hy
 obtain ⟨w1,D,hB,rf⟩:=zaz w (.int .i64 (P:Nat)) (.int .i64 (M:Nat)) (.slice A k c) 24
 have am:=fun W=>zaf (P:=Tryz.prog) 22 3 _ 8 Tryz.underlying22 Tryz.infoInt rfl (M:Int) (by omega) (by omega) (by omega) W
 simp only [Int.toNat_natCast] at am
 go_enter Tryz.func200, Tryz.ntmps200
 go_upto_region 1 with fail
 rw [<-D];clear D
 refine wp_region_held_drew (S:=fun w'=>w'.cell? ⟨w.heap.size,0,none⟩=some (.int .i64 (P:Nat))/\w'.cell? ⟨w.heap.size,1,none⟩=some (.int .i64 (M:Nat))) (by kernel_rfl) ⟨cellS (Below.refl _ _).drew (rf.cell (i:=0) (by omega)),cellS (Below.refl _ _).drew (rf.cell (i:=1) (by omega))⟩ (fun hHeld=>?_)
 obtain ⟨w2,hw,kb⟩:=dwx w1
 rw [<-hw] at hHeld ⊢;clear hw;replace rf:=zab rf kb;replace hB:=onS hB kb;clear kb
 refine tkq 0 (h:=tkq 1 (h:=tkq 2 (h:=tkq 3 (h:=tkq 4 (h:=tkq 6 (h:=tkq 7 (h:=tkq 8 (h:=tkq 9 (h:=tkq 10 (h:=?_))))))))))
 refine rdq 5 (h:=fun K hK=>?_)
 go_simp
 go_wp2_with fail
 refine (zcA x P M w2 b3 ao a7 ap).mono ?_
 rintro e w3 ⟨ga,rfl,cj,ra,kb⟩
 replace rf:=zab rf kb;replace hB:=onS hB kb;clear kb
 refine bkq hK ⟨qc0 rf,qc1 rf⟩ (h:=fun hHeld=>?_)
 clear hK K
 refine rdq 11 (h:=fun K hK=>?_)
 have ch:=hB.size
 go_simp
 go_wp2_with fail
 refine (zcA y P M w3 b2 ao a7 ap).mono ?_
 rintro e w4 ⟨gb,rfl,ci,rb,kb⟩
 replace rf:=zab rf kb;replace ra:=zab ra kb;replace hB:=onS hB kb;clear kb
 refine bkq hK ⟨qc0 rf,qc1 rf⟩ (h:=fun hHeld=>?_)
 clear hK K
 refine tkq 12 (h:=tkq 13 (h:=?_))
 refine wpAnyH_done (by kernel_rfl) ?_ _
 clear hHeld
 obtain ⟨wA,ah⟩:=exx w4
 rw [<-ah] at rf hB ra rb ⊢;clear ah
 have q1:=qc1 rf
 go_upto_region 3 with fail
 have row:=World.rowIs_made wA (.int .i64 0) M 3
 have kb:=(Below.refl wA.heap.size wA).alloc (Nat.le_refl _) (Obj.cells (madeCells #[Value.int .i64 0] M) 3)
 obtain ⟨wB,ag⟩:=exx (wA.alloc (Obj.cells (madeCells #[Value.int .i64 0] M) 3))
 obtain ⟨g,hg⟩:=exx wA.heap.size
 rw [<-ag] at kb row ⊢;rw [<-hg] at row ⊢
 have Y:wA.heap.size<=g:=by omega
 have cg:w.heap.size≠g:=by have:=rf.lt; omega
 have G:=hid rf
 have bz:=hid ra
 have bx:=hid rb
 have b1:=hid hB
 clear ag hg q1 am rf ra rb hB
 have q1:wB.cell? ⟨w.heap.size,1,none⟩=some (.int .i64 (M:Nat)):=cellS kb (G.out.cell (i:=1) (by omega))
 have I:(Tryz.prog.info? 3).map (·.size)=some 1:=by
  obtain ⟨i,hi,H⟩:=Option.map_eq_some_iff.1 Tryz.infoInt
  simp only [Prod.mk.injEq] at H
  rw [hi]
  simp [H.2.1]
 have ab:=hid I
 clear I
 obtain ⟨L,hL⟩:=exx (M - 1)
 have br:(M:Int) - 1=(L:Int):=by omega
 have bt:L<M:=by omega
 have bs:(L:Int)<(M:Int):=by omega
 have HL:=hid hL
 clear hL
 have b:=hid (row.congr (g:=fun j=>.int .i64 (hOut P M m (dig P x) (dig P y) 0 j:Nat)) fun _ _=>rfl)
 have C:=hid kb
 clear row
 go_wp2
 clear q1
 go_loopg [10,11,12,13] (M+1) (fun gg iv _ _ _ wx=>∃ s:Nat,iv=.int .i64 ((M:Int) - 1 - (s:Int))/\s<=M/\M+1<=s+gg/\Hid (wx.rowIs g 3 M (fun j=>.int .i64 (hOut P M m (dig P x) (dig P y) s j:Nat)))/\Hid (Below wA.heap.size wA wx))
 case atStart=>exact ⟨0,by rw [<-br]; simp,by omega,by omega,b,C⟩
 clear b C kb
 obtain ⟨s,rfl,hs,b8,b,C⟩:=hrel
 by_cases hlt:s<M
 rotate_left
 ·have bb:¬ ((M:Int) - 1 - (s:Int)) ≥ 0:=by omega
  obtain rfl:s=M:=by omega
  have ai:=rowInts (f:=hOut P s m (dig P x) (dig P y) s) b.out
  have bw:=hid ai
  have c4:Hid (∀ i,i<s->hOut P s m (dig P x) (dig P y) s i<P):=fun i _=>zdW u s i
  have ar:=onS b1.out C.out
  have q0:wr.cell? ⟨w.heap.size,0,none⟩=some (.int .i64 (P:Nat)):=cellS C.out (G.out.cell (i:=0) (by omega))
  clear ai b
  go_wp2_with fail
  refine (zfz P (some ⟨g,0,none⟩) s s _ wr bn a7 bw.out c4 (HQ.out) bo).mono ?_
  rintro e w9 ⟨rfl,kb⟩
  rw [ax.out]
  have bu:=onS ar kb
  clear kb q0 ar
  obtain ⟨V,hV⟩:=exx (mulF P s m x y)
  rw [<-hV]
  have bv:=hid hV
  clear hV ax
  go_wp2
  go_ret
  exact ⟨by rw [bv.out]; rfl,bu⟩
 obtain ⟨i,hi⟩:=exx (M - 1 - s)
 have a5:(M:Int) - 1 - (s:Int)=(i:Int):=by omega
 have bg:i<M:=by omega
 have bf:(i:Int)<(M:Int):=by omega
 have cf:(0:Int)<=(i:Int):=by omega
 rw [a5]
 have HI:=hid hi
 have c6:=hid a5
 clear hi a5
 obtain ⟨gO,bh⟩:=exx gk
 rw [<-bh] at b8
 obtain ⟨o,ho⟩:=exx (hOut P M m (dig P x) (dig P y) s)
 have aj:∀ j,o j<P:=fun j=>by rw [ho]; exact zdW u s j
 have row:=b.out
 rw [<-ho] at row
 have q:hOut P M m (dig P x) (dig P y) (s+1)=hStep P M m (dig P x) (dig P y i) o:=by rw [ho,HI.out]; rfl
 have c0:=hid q
 have av:=hid aj
 clear ho q b aj
 obtain ⟨tp,U⟩:=exx (o L)
 have t0:=row.cell bt
 rw [<-U] at t0
 have b6:tp<P:=by rw [U]; exact av.out L
 have au:=hid U
 clear U
 have c8:IntKind.i64.wrap (L:Int)=(L:Int):=IntWalk.i64_in _ (by omega)
 have co:(0:Int)<=(L:Int):=by omega
 have cn:(L:Int)<=(M:Int):=by omega
 have bp:(1:Int)<=(M:Int):=by omega
 obtain ⟨dp,bi⟩:∃ dp:Option Addr,(if M=1 then some ⟨g,0,none⟩ else some ⟨g,1,none⟩:Option Addr)=dp:=⟨_,rfl⟩
 have c7:Hid (0<L->dp=some ⟨g,1,none⟩):=fun h=>by rw [<-bi,if_neg (by have:=HL.out; omega)]
 have cl:M - 1=L:=HL.out.symm
 have q1:wr.cell? ⟨w.heap.size,1,none⟩=some (.int .i64 (M:Nat)):=cellS C.out (G.out.cell (i:=1) (by omega))
 obtain ⟨w1,D⟩:=exx wr
 rw [<-D] at C row t0 q1 ⊢;clear D
 go_wp2
 refine wp_region_held_drew (S:=fun w'=>w'.cell? ⟨w.heap.size,1,none⟩=some (.int .i64 (M:Nat))) (by kernel_rfl) (cellS (Below.refl _ _).drew (q1)) (fun hHeld=>?_)
 obtain ⟨w2,hw,kb⟩:=dwx w1
 rw [<-hw] at hHeld ⊢;clear hw;replace row:=zab row kb;replace q1:=cellS kb q1
 have ae:=hid (onS C.out kb)
 clear kb
 refine tkq 0 (h:=tkq 1 (h:=tkq 2 (h:=tkq 3 (h:=tkq 4 (h:=tkq 5 (h:=tkq 6 (h:=?_)))))))
 refine rdq 7 (h:=fun K hK=>?_)
 have row2:=row
 obtain ⟨cs,c1,c2,c3⟩:=row
 have aw:Hid (w2.heap[g]?=some (.cells cs.toList.toArray 3 (0,0))):=by show _=_; simpa using c1
 have J:Hid (0<((List.range L).map fun t=>Value.int .i64 (o t:Nat)).length->dp=some ⟨g,1,none⟩/\∃ ad,(some ⟨g,0,none⟩:Option Addr)=some ad/\∀ j v,((List.range L).map fun t=>Value.int .i64 (o t:Nat))[j]?=some v->w2.cell? (ad.add j)=some v):=fun h=>by
  refine ⟨c7.out (by simpa using h),⟨g,0,none⟩,rfl,fun j v hv=>?_⟩
  rw [List.getElem?_map] at hv
  obtain ⟨t,ht,e⟩:=Option.map_eq_some_iff.1 hv
  obtain ⟨h1,h2⟩:=List.getElem?_eq_some_iff.1 ht
  rw [List.getElem_range] at h2
  subst h2 e
  rw [zc9,Nat.zero_add]
  exact row2.cell (by simp at h1; omega)
 have O:Hid (((List.range L).map fun t=>Value.int .i64 (o t:Nat)).length=Nat.min L L):=by show _=_; simp
 have Q:Hid (1+((List.range L).map fun t=>Value.int .i64 (o t:Nat)).length<=cs.toList.length):=by show _<=_; simp; omega
 have N:Hid (∀ v ∈ (List.range L).map fun t=>Value.int .i64 (o t:Nat),v.oneCell'=true):=fun v hv=>by
  obtain ⟨t,_,rfl⟩:=List.mem_map.1 hv
  rfl
 refine step_copy_splice (cur:=cs.toList) (cs:=(List.range L).map fun t=>Value.int .i64 (o t:Nat)) (B:=wA.heap.size) (w0:=wA) (by rfl) (.tmp 43) (.tmp 48) 22 22 (by rfl) 3 Tryz.underlying22 ab.out dp (some ⟨g,0,none⟩) L L L M (by rfl) (by rfl) g 1 3 aw.out O.out J.out Q.out N.out ae.out Y ?_
 intro w3 hg3 hb3
 have row:=zhC (F:=fun t=>.int .i64 (o t:Nat)) c2 (fun i hi=>c3 i hi) (show L+1=M by omega) hg3.out
 clear hg3 row2 c1 c2 c3 aw J O Q N
 have q19:w3.cell? ⟨w.heap.size,1,none⟩=some (.int .i64 (M:Nat)):=cellS hb3 (G.out.cell (i:=1) (by omega))
 clear q1
 have q1:=q19
 clear q19
 refine bkq hK q1 (h:=fun hHeld=>?_)
 clear hK K
 refine wpAnyH_done (by kernel_rfl) ?_ _
 clear hHeld
 obtain ⟨w4,T⟩:=exx w3
 rw [<-T] at row hb3 ⊢;clear T
 have y0:=row.cell (i:=0) (by omega)
 have z0:=row.frozen 0
 have d:=hid ((row.set 0 (.int .i64 0)).congr (g:=fun j=>.int .i64 (if j=0 then 0 else o (j - 1):Nat)) fun j _=>by
  by_cases e:j=0
  ·subst e; rfl
  ·rw [if_neg e,if_neg e,if_neg e])
 have af:=hid (hb3.setCell (p:=⟨g,0,none⟩) Y (.int .i64 0))
 clear row hb3 q1
 have cm:(0:Int)<(M:Int):=by omega
 go_wp2
 clear y0 z0
 obtain ⟨w5,R⟩:=exx (w4.setCell ⟨g,0,none⟩ (.int .i64 0))
 rw [<-R] at d af ⊢;clear R
 have a:=hid (d.out.congr (g:=fun t=>.int .i64 (if t<0 then hStep P M m (dig P x) (dig P y i) o t else if t=0 then 0 else o (t - 1):Nat)) fun _ _=>rfl)
 clear d
 go_loopg [12,13,54] M (fun gg _ _ jv wx=>∃ j:Nat,jv=.int .i64 (j:Nat)/\j<=M/\M<=j+gg/\Hid (wx.rowIs g 3 M (fun t=>.int .i64 (if t<j then hStep P M m (dig P x) (dig P y i) o t else if t=0 then 0 else o (t - 1):Nat)))/\Hid (Below wA.heap.size wA wx))
 case atStart=>exact ⟨0,rfl,by omega,by omega,a,af⟩
 clear a af
 obtain ⟨j,rfl,hj,cd,a,l⟩:=hrel
 by_cases hjl:j<M
 rotate_left
 ·have a4:¬ (j:Int)<(M:Int):=by omega
  obtain rfl:j=M:=by omega
  have a2:=hid (a.out.congr (g:=fun t=>.int .i64 (hOut P j m (dig P x) (dig P y) (s+1) t:Nat)) fun t ht=>by rw [if_pos ht,c0.out])
  clear a
  go_wp2
  go_roundg (gO - 1)
  case measure=>omega
  case rel=>exact ⟨s+1,by have:=c6.out; go_num,by omega,by omega,a2,l⟩
 have a4:(j:Int)<(M:Int):=by omega
 have ce:(0:Int)<=(j:Int):=by omega
 have e0:=a.out.cell hjl
 rw [if_neg (by omega)] at e0
 have z0:=a.out.frozen j
 obtain ⟨v,hv⟩:∃ v,v=if j=0 then 0 else o (j - 1):=⟨_,rfl⟩
 rw [<-hv] at e0
 have ca:v<P:=by
  rw [hv]
  split
  ·exact u
  ·exact av.out _
 have f0:wr.cell? ⟨ga,j,none⟩=some (.int .i64 (dig P x j:Nat)):=cellS l.out (bz.out.cell hjl)
 have f1:wr.cell? ⟨gb,i,none⟩=some (.int .i64 (dig P y i:Nat)):=cellS l.out (bx.out.cell bg)
 obtain ⟨da,a0⟩:=exx (dig P x j)
 obtain ⟨db,Z⟩:=exx (dig P y i)
 rw [<-a0] at f0;rw [<-Z] at f1
 have bk:da<P:=by rw [a0]; exact zbG u _ _
 have bj:db<P:=by rw [Z]; exact zbG u _ _
 have q0:wr.cell? ⟨w.heap.size,0,none⟩=some (.int .i64 (P:Nat)):=cellS l.out (G.out.cell (i:=0) (by omega))
 have q1:wr.cell? ⟨w.heap.size,1,none⟩=some (.int .i64 (M:Nat)):=cellS l.out (G.out.cell (i:=1) (by omega))
 have q2:wr.cell? ⟨w.heap.size,2,none⟩=some (.slice A k c):=cellS l.out (G.out.cell (i:=2) (by omega))
 have HV:=hid hv
 have az:=hid a0
 have ay:=hid Z
 clear hv a0 Z
 by_cases hM2:1<M
 focus
  have a9:(M:Int) > 1:=by omega
  rcases hm with hm | ⟨ak,al⟩
  ·omega
  obtain rfl:M=k:=(hkM.resolve_left (by omega)).symm
  obtain ⟨mb,mo,hA,bc,f2⟩:=ak.at hjl
  subst hA
  obtain ⟨lo,X⟩:=exx (m j)
  rw [<-X] at f2
  have be:lo<P:=by rw [X]; exact al j hjl
  have c5:=hid X
  have f29:=((onS b1.out l.out).cell (p:=⟨mb,mo+j,none⟩) bc).trans f2
  clear X f2 ak al
  obtain ⟨z,hz⟩:=exx (v+(P - tp)*lo+db*da)
  obtain ⟨r,hr⟩:=exx (z % P)
  have ba:r<P:=by rw [hr]; exact Nat.mod_lt _ u
  have ac:Hid (r=hStep P M m (dig P x) (dig P y i) o j):=by
   show _=_
   rw [hr,hz,HV.out,az.out,ay.out,au.out,HL.out,c5.out]
   unfold hStep
   rw [if_pos hM2]
  obtain ⟨R2,n⟩:=exx (db*da)
  have a6:R2<=256*256:=by rw [n]; exact Nat.mul_le_mul (by omega) (by omega)
  have bd:(db:Int)*(da:Int)=(R2:Int):=by rw [n]; simp
  obtain ⟨D1,aq⟩:=exx (P - tp)
  have aa:D1<=256:=by omega
  have ck:(P:Int) - (tp:Int)=(D1:Int):=by omega
  obtain ⟨R1,a1⟩:=exx (D1*lo)
  have bl:R1<=256*256:=by rw [a1]; exact Nat.mul_le_mul aa (by omega)
  have cc:(D1:Int)*(lo:Int)=(R1:Int):=by rw [a1]; simp
  obtain ⟨S1,an⟩:=exx (v+R1)
  have cb:(v:Int)+(R1:Int)=(S1:Int):=by omega
  have D:IntKind.i64.wrap (D1:Int)=(D1:Int):=IntWalk.i64_in _ (by omega)
  have c9:IntKind.i64.wrap (R1:Int)=(R1:Int):=IntWalk.i64_in _ (by omega)
  have b5:IntKind.i64.wrap (S1:Int)=(S1:Int):=IntWalk.i64_in _ (by omega)
  have H:z=S1+R2:=by rw [hz,an,a1,aq,n]
  have b9:(S1:Int)+(R2:Int)=(z:Int):=by omega
  have T:IntKind.i64.wrap (R2:Int)=(R2:Int):=IntWalk.i64_in _ (by omega)
  have R:IntKind.i64.wrap (z:Int)=(z:Int):=IntWalk.i64_in _ (by omega)
  have b4:IntKind.i64.wrap (r:Int)=(r:Int):=IntWalk.i64_in _ (by omega)
  have E:(z:Int) % (P:Int)=(r:Int):=by rw [hr]; simp
  have a3:(0:Int)<=(z:Int):=by omega
  have a8:¬ (P:Int)=0:=by omega
  have bm:¬ P=0:=by omega
  have b7:(z:Int).tmod (P:Int)=(r:Int):=by rw [Int.tmod_eq_emod_of_nonneg a3,E]
  have a2:=hid ((a.out.set j (.int .i64 (r:Nat))).congr (g:=fun t=>.int .i64 (if t<j+1 then hStep P M m (dig P x) (dig P y i) o t else if t=0 then 0 else o (t - 1):Nat)) fun t _=>by
   by_cases e:t=j
   ·subst e; rw [if_pos rfl,if_pos (by omega),ac.out]
   rw [if_neg e]
   by_cases e2:t<j
   ·rw [if_pos e2,if_pos (show t<j+1 by omega)]
   ·rw [if_neg e2,if_neg (show ¬ t<j+1 by omega)])
  have b0:=hid (l.out.setCell (p:=⟨g,j,none⟩) Y (.int .i64 (r:Nat)))
  clear hz hr n H a l aq a1 an
 rotate_left
 focus
  have a9:¬ (M:Int) > 1:=by omega
  obtain ⟨z,hz⟩:=exx (v+(P - tp)*0+db*da)
  obtain ⟨r,hr⟩:=exx (z % P)
  have ba:r<P:=by rw [hr]; exact Nat.mod_lt _ u
  have ac:Hid (r=hStep P M m (dig P x) (dig P y i) o j):=by
   show _=_
   rw [hr,hz,HV.out,az.out,ay.out,au.out,HL.out]
   unfold hStep
   rw [if_neg (show ¬ 1<M by omega)]
  obtain ⟨R2,n⟩:=exx (db*da)
  have a6:R2<=256*256:=by rw [n]; exact Nat.mul_le_mul (by omega) (by omega)
  have bd:(db:Int)*(da:Int)=(R2:Int):=by rw [n]; simp
  have b5:IntKind.i64.wrap (v:Int)=(v:Int):=IntWalk.i64_in _ (by omega)
  have D:IntKind.i64.wrap ((P:Int) - (tp:Int))=(P:Int) - (tp:Int):=IntWalk.i64_in _ (by omega)
  have H:z=v+R2:=by rw [hz,n,Nat.mul_zero,Nat.add_zero]
  have b9:(v:Int)+(R2:Int)=(z:Int):=by omega
  have T:IntKind.i64.wrap (R2:Int)=(R2:Int):=IntWalk.i64_in _ (by omega)
  have R:IntKind.i64.wrap (z:Int)=(z:Int):=IntWalk.i64_in _ (by omega)
  have b4:IntKind.i64.wrap (r:Int)=(r:Int):=IntWalk.i64_in _ (by omega)
  have E:(z:Int) % (P:Int)=(r:Int):=by rw [hr]; simp
  have a3:(0:Int)<=(z:Int):=by omega
  have a8:¬ (P:Int)=0:=by omega
  have bm:¬ P=0:=by omega
  have b7:(z:Int).tmod (P:Int)=(r:Int):=by rw [Int.tmod_eq_emod_of_nonneg a3,E]
  have a2:=hid ((a.out.set j (.int .i64 (r:Nat))).congr (g:=fun t=>.int .i64 (if t<j+1 then hStep P M m (dig P x) (dig P y i) o t else if t=0 then 0 else o (t - 1):Nat)) fun t _=>by
   by_cases e:t=j
   ·subst e; rw [if_pos rfl,if_pos (by omega),ac.out]
   rw [if_neg e]
   by_cases e2:t<j
   ·rw [if_pos e2,if_pos (show t<j+1 by omega)]
   ·rw [if_neg e2,if_neg (show ¬ t<j+1 by omega)])
  have b0:=hid (l.out.setCell (p:=⟨g,j,none⟩) Y (.int .i64 (r:Nat)))
  clear hz hr n H a l 
 rotate_left
 all_goals
  go_wp2
  go_still_tail 27,(by kernel_rfl)
  change wpList _ _ _ _ _ wr.drew
  go_wp2
  go_roundg (gk - 1)
  case measure=>omega
  case rel=>exact ⟨j+1,by go_num,by omega,by omega,hid (show World.rowIs _ _ _ _ _ from a2.out),hid (drewSet b0.out)⟩
theorem zbe (w:World) (a b c d e:Value) (T:TypeId):∃ W,W=w.alloc (.cells #[a,b,c,d,e] T)/\Below w.heap.size w W/\W.rowIs w.heap.size T 5 (codCell a b c d e):=⟨_,rfl,(Below.refl _ _).alloc (Nat.le_refl _) _,za2⟩
end Go.Proofs.YtgekjfpapmlndaaGreat
