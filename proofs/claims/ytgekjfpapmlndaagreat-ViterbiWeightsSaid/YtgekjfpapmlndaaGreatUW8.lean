/- Merged texts of a claim: MChk, MOpen, MCano, MKer, Spc, SpOpen, HasA, AppMany, RestPl, Dot04, Word12, Syn12, Tab55, RefRight, Nats, PCode, PDual, ExpN, Right, RecFirst, RecRed, RecFrom, Recover, RefRec, SpanPl, NumTab, MinPlus, SeesW, Trel, Shape, Less, Counting, NumRows, IntTab, Valued, Forward, Repeat, Proper. -/
import Derived.Test.YtgekjfpapmlndaaGreatUW7
import Derived.SizedLaws
import Derived.Laws.CopyOwn
namespace Go.Proofs.YtgekjfpapmlndaaGreat
set_option maxRecDepth 100000
set_option maxHeartbeats 32000000
open KA KB KC KE KF
open Go.RowKit
theorem zeA (P M g:Nat) (m:Nat->Nat) (T:Option Addr) (n d:Nat) (f:Nat->Int) (w:World) (hG:GF w w.heap.size g P M m) (h:IntsR w w.heap.size T n f) (hn:n<=1048576) :
  Calls Tryz.prog 259 #[.pointer (some ⟨g,0,none⟩),.slice T n d] w (ErrsPost [(AllIn (P ^ M) n f,2)] w):=by
 have HG:=hid hG
 have HR:=hid h
 clear hG h
 go_enter Tryz.func259, Tryz.ntmps259
 go_wp2
 go_loopg [9] n (fun gg iv wx=>∃ i:Nat,iv=.int .i64 (i:Nat)/\i<=n/\n<=i+gg/\Hid (∀ t,t<i->0<=f t/\f t<(P ^ M:Nat))/\Hid (Below w.heap.size w wx))
 case atStart=>exact ⟨0,rfl,by omega,by omega,fun t ht=>absurd ht (by omega),Below.refl _ _⟩
 obtain ⟨i,rfl,hi,q,HA,HB⟩:=hrel
 have r:(0:Int)<=(i:Int):=by omega
 by_cases hlt:i<n
 rotate_left
 ·have j:¬ (i:Int)<(n:Int):=by omega
  have a:i=n:=by omega
  have c:Hid (FirstErr [(AllIn (P ^ M) n f,2)] 0):=.inr ⟨fun t ht=>HA.out t (by omega),rfl⟩
  clear a
  go_wp2
  go_ret
  exact errsPost c.out HB.out
 have j:(i:Int)<(n:Int):=by omega
 obtain ⟨b,o,rfl,_,x0⟩:=(HR.out.on HB.out).at hlt
 obtain ⟨x,hx⟩:=exx (f i)
 rw [<-hx] at x0
 have HX:=hid hx
 clear hx
 have hG:=HG.out.at HB.out HB.out.size
 go_wp2_with fail
 refine (zgs x hG).mono ?_
 rintro e w2 ⟨rfl,kb⟩
 have k:=hid (onS HB.out kb)
 clear kb hG x0
 by_cases a:0<=x/\x<(P ^ M:Nat)
 ·have hd:isB (P ^ M) x=true:=by unfold isB; simpa using a
  have p:Hid (∀ t,t<i+1->0<=f t/\f t<(P ^ M:Nat)):=fun t ht=>by
   by_cases e:t=i
   ·rw [e,<-HX.out]; exact a
   ·exact HA.out t (by omega)
  rw [hd];clear a hd
  go_wp2
  go_roundg (gk - 1)
  case measure=>omega
  case rel=>exact ⟨i+1,by go_num,by omega,by omega,p,k⟩
 have hd:isB (P ^ M) x=false:=by unfold isB; simpa using a
 have l:Hid (FirstErr [(AllIn (P ^ M) n f,2)] 2):=.inl ⟨fun h=>a (by rw [HX.out]; exact h i hlt),rfl⟩
 rw [hd];clear a hd
 go_wp2
 go_ret
 exact errsPost l.out k.out
theorem zgA (P M g:Nat) (m:Nat->Nat) (cols:Int) (T:Option Addr) (n d:Nat) (ln:Nat->Nat) (V:Nat->Nat->Int) (w:World) (hG:GF w w.heap.size g P M m) (h:IntRows w T n ln V) :
  Calls Tryz.prog 238 #[.pointer (some ⟨g,0,none⟩),.agg #[.int .i64 cols,.slice T n d]] w (ErrsPost [(ShapeM cols n ln,3),(ElemsM (P ^ M) n ln V,2)] w):=by
 have HG:=hid hG
 have HR:=hid h
 clear hG h
 have hB:=aly w (.cells #[.int .i64 cols,.slice T n d] 106)
 have rm:=zaw (w:=w) (a:=.int .i64 cols) (b:=.slice T n d) (T := 106)
 obtain ⟨w0,x⟩:=exx (w.alloc (.cells #[.int .i64 cols,.slice T n d] 106))
 rw [<-x] at hB rm
 go_enter Tryz.func238, Tryz.ntmps238
 go_upto_region 1 with fail
 rw [<-x];clear x
 have q0:=qc0 rm
 have q1:=qc1 rm
 have q:∀ {p:Prop},¬ p->∀ {c:Int} {l:List (Prop × Int)},FirstErr ((p,c) :: l) c:=fun h=>.inl ⟨h,rfl⟩
 by_cases h1:cols<0
 ·have hd:decide (cols<0)=true:=by simpa using h1
  have k:Hid (FirstErr [(ShapeM cols n ln,3),(ElemsM (P ^ M) n ln V,2)] 3):=q fun h=>by have:=h.1; omega
  go_wp2
  go_ret
  exact errsPost k.out hB
 have hd:decide (cols<0)=false:=by simpa using h1
 by_cases h2:256<cols
 ·have H:decide (256<cols)=true:=by simpa using h2
  have k:Hid (FirstErr [(ShapeM cols n ln,3),(ElemsM (P ^ M) n ln V,2)] 3):=q fun h=>by have:=h.2.1; omega
  go_wp2
  go_ret
  exact errsPost k.out hB
 have H:decide (256<cols)=false:=by simpa using h2
 by_cases h3:256<n
 ·have G:decide ((256:Int)<(n:Int))=true:=by simp; omega
  have F:decide (256<n)=true:=by simpa using h3
  have k:Hid (FirstErr [(ShapeM cols n ln,3),(ElemsM (P ^ M) n ln V,2)] 3):=q fun h=>by have:=h.2.2.1; omega
  go_wp2
  go_ret
  exact errsPost k.out hB
 have G:decide ((256:Int)<(n:Int))=false:=by simp; omega
 have F:decide (256<n)=false:=by simpa using h3
 obtain ⟨C,rfl⟩:∃ C:Nat,cols=C:=⟨cols.toNat,by omega⟩
 have hC:C<=256:=by omega
 have hn:n<=256:=by omega
 clear h1 h2 h3 q
 go_wp2
 clear q0 q1 hd H G F
 go_loopg [27] n (fun gg iv wx=>∃ i:Nat,iv=.int .i64 (i:Nat)/\i<=n/\n<=i+gg/\Hid (∀ t,t<i->(ln t:Int)=(C:Int))/\wx=w0)
 case atStart=>exact ⟨0,rfl,by omega,by omega,fun t ht=>absurd ht (by omega),rfl⟩
 obtain ⟨i,rfl,hi,U,HA,J⟩:=hrel
 subst J
 have W:(0:Int)<=(i:Int):=by omega
 have q0:=qc0 rm
 have q1:=qc1 rm
 by_cases hlt:i<n
 ·have z:(i:Int)<(n:Int):=by omega
  obtain ⟨b,o,RA,rc,rfl,hb,x0,_,_,_,_⟩:=(HR.out.on hB) i hlt
  by_cases hl:ln i=C
  ·have L:((ln i:Int) != (C:Int))=false:=by simp [hl]
   have Q:Hid (∀ t,t<i+1->(ln t:Int)=(C:Int)):=fun t ht=>by
    by_cases e:t=i
    ·rw [e,hl]
    ·exact HA.out t (by omega)
   clear hl
   go_wp2
   go_roundg (gk - 1)
   case measure=>omega
   case rel=>exact ⟨i+1,by go_num,by omega,by omega,Q,rfl⟩
  have L:((ln i:Int) != (C:Int))=true:=by simp; omega
  have k:Hid (FirstErr [(ShapeM (C:Int) n ln,3),(ElemsM (P ^ M) n ln V,2)] 3):=.inl ⟨fun h=>by have:=h.2.2.2 i hlt; omega,rfl⟩
  clear hl
  go_wp2
  go_ret
  exact errsPost k.out hB
 have z:¬ (i:Int)<(n:Int):=by omega
 have N:i=n:=by omega
 have q:Hid (ShapeM (C:Int) n ln):=⟨by omega,by omega,hn,fun t ht=>HA.out t (by omega)⟩
 have D:Hid (∀ {v:Int},FirstErr [(ElemsM (P ^ M) n ln V,2)] v->FirstErr [(ShapeM (C:Int) n ln,3),(ElemsM (P ^ M) n ln V,2)] v):=fun h=>.inr ⟨q.out,h⟩
 clear N HA
 go_wp2
 clear q0 q1
 go_loopg [40] n (fun g2 iv wx=>∃ i:Nat,iv=.int .i64 (i:Nat)/\i<=n/\n<=i+g2/\Hid (∀ t,t<i->AllIn (P ^ M) (ln t) (V t))/\Hid (Below w.heap.size w wx))
 case atStart=>exact ⟨0,rfl,by omega,by omega,fun t ht=>absurd ht (by omega),hB⟩
 obtain ⟨j,rfl,hj,R,HE,HB⟩:=hrel
 have S:(0:Int)<=(j:Int):=by omega
 by_cases hjt:j<n
 rotate_left
 ·have B:¬ (j:Int)<(n:Int):=by omega
  have hf:Hid (FirstErr [(ElemsM (P ^ M) n ln V,2)] 0):=.inr ⟨fun t ht=>HE.out t (by omega),rfl⟩
  go_wp2
  go_ret
  exact errsPost (D.out hf.out) HB.out
 have B:(j:Int)<(n:Int):=by omega
 obtain ⟨b,o,RA,rc,rfl,hb,x0,_,_,s,_⟩:=(HR.out.on HB.out) j hjt
 have u:=hid s
 have E:Hid (ln j<=1048576):=by show _<=_; have:=q.out.2.2.2 j hjt; omega
 have hG:=HG.out.at HB.out HB.out.size
 clear s
 go_wp2_with fail
 refine (zeA P M g m RA (ln j) rc (V j) _ hG u.out E.out).mono ?_
 rintro e w2 ⟨v,rfl,hv,kb⟩
 have I:=hid (onS HB.out kb)
 clear kb hG x0 u E
 rcases hv with ⟨k,K⟩ | ⟨r,y⟩
 ·subst K
  have hf:Hid (FirstErr [(ElemsM (P ^ M) n ln V,2)] 2):=.inl ⟨fun h=>k (h j hjt),rfl⟩
  clear k
  go_wp2
  go_ret
  exact errsPost (D.out hf.out) I.out
 have y:v=0:=y
 subst y
 have O:Hid (∀ t,t<j+1->AllIn (P ^ M) (ln t) (V t)):=fun t ht=>by
  by_cases e:t=j
  ·rw [e]; exact r
  ·exact HE.out t (by omega)
 clear r
 go_wp2
 go_roundg (gk - 1)
 case measure=>omega
 case rel=>exact ⟨j+1,by go_num,by omega,by omega,O,I⟩
def MOpenPost (P M:Int) (k:Nat) (f:Nat->Int) (cols:Int) (n:Nat) (ln:Nat->Nat) (V:Nat->Nat->Int) (w:World) (e:Ending) (w':World):Prop :=
 Below w.heap.size w w'/\∃ v:Int,FirstErr [(GoodF P M k f,1),(ShapeM cols n ln,3),(ElemsM (P.toNat ^ M.toNat) n ln V,2)] v /\
  ((v≠0/\e=.returned (.tuple #[.pointer none,.int .i64 v])) ∨
   (v=0/\∃ g P' M':Nat,P=P'/\M=M'/\e=.returned (.tuple #[.pointer (some ⟨g,0,none⟩),.int .i64 0])/\GF w' w'.heap.size g P' M' (fun i=>(f i).toNat)))
theorem zhL (P M:Int) (A:Option Addr) (k c:Nat) (f:Nat->Int) (cols:Int) (T:Option Addr) (n d lb lc:Nat) (ln:Nat->Nat) (V:Nat->Nat->Int) (w:World) (hr:IntsR w w.heap.size A k f) (h:IntRows w T n ln V)
  (hl0:w.cell? ⟨lb,0,none⟩=some (.int .i64 cols)) (hl1:w.cell? ⟨lb,1,none⟩=some (.slice T n d)) :
  Calls Tryz.prog 204 #[.agg #[.int .i64 P,.int .i64 M,.slice A k c],.slice (some ⟨lb,0,none⟩) 1 lc] w (MOpenPost P M k f cols n ln V w):=by
 have HR:=hid hr
 have HT:=hid h
 have F:=hid hl0
 have E:=hid hl1
 have o:=World.block_lt_of_cell? w _ hl0
 have o:lb<w.heap.size:=o
 clear hr h hl0 hl1
 obtain ⟨w0,x,hB,rf⟩:=zaz w (.int .i64 P) (.int .i64 M) (.slice A k c) 24
 go_enter Tryz.func204, Tryz.ntmps204
 go_upto_region 1 with fail
 rw [<-x];clear x
 have q0:=qc0 rf
 have q1:=qc1 rf
 have q2:=qc2 rf
 go_wp2_with fail
 refine (zbw P M A k c f w0 (HR.out.on hB)).mono ?_
 rintro e w1 ⟨kb,hN⟩
 have HB:=hid (onS hB kb)
 clear hB kb rf q0 q1 q2
 rcases hN with ⟨z,rfl⟩ | ⟨l,g,P,M,rfl,rfl,rfl,_,hG⟩
 ·have hf:Hid (FirstErr [(GoodF P M k f,1),(ShapeM cols n ln,3),(ElemsM (P.toNat ^ M.toNat) n ln V,2)] 1):=.inl ⟨z,rfl⟩
  clear z
  go_wp2
  go_ret2
  exact ⟨HB.out,1,hf.out,.inl ⟨by omega,rfl⟩⟩
 have HG:=hid hG.gf
 have y:Hid (∀ {v:Int},FirstErr [(ShapeM cols n ln,3),(ElemsM (P ^ M) n ln V,2)] v->FirstErr [(GoodF (P:Int) (M:Int) k f,1),(ShapeM cols n ln,3),(ElemsM ((P:Int).toNat ^ (M:Int).toNat) n ln V,2)] v):=fun h=>.inr ⟨l,by rw [Int.toNat_natCast,Int.toNat_natCast]; exact h⟩
 clear hG l
 go_wp2
 go_loopg [20] 1 (fun gg iv wx=>∃ i:Nat,iv=.int .i64 (i:Nat)/\i<=1/\1<=i+gg/\Hid (i=1->FirstErr [(ShapeM cols n ln,3),(ElemsM (P ^ M) n ln V,2)] 0)/\Hid (Below w1.heap.size w1 wx)/\Hid (Below w.heap.size w wx))
 case atStart=>exact ⟨0,rfl,by omega,by omega,fun h=>absurd h (by omega),Below.refl _ _,HB⟩
 clear HB
 obtain ⟨i,rfl,hi,I,HE,r,HB⟩:=hrel
 by_cases hlt:i<1
 rotate_left
 ·obtain rfl:i=1:=by omega
  clear hlt hi
  go_wp2
  go_ret2
  exact ⟨HB.out,0,y.out (HE.out trivial),.inr ⟨rfl,g,P,M,rfl,rfl,rfl,HG.out.on r.out⟩⟩
 obtain rfl:i=0:=by omega
 clear hlt hi
 have x0:=(HB.out.cell (p:=⟨lb,0,none⟩) o).trans F.out
 have x1:=(HB.out.cell (p:=⟨lb,1,none⟩) o).trans E.out
 go_upto_region 7 with fail
 clear x0 x1
 have m:=aly wr (Obj.cells #[.int .i64 cols,.slice T n d] 106)
 have rm:=zaw (w:=wr) (a:=.int .i64 cols) (b:=.slice T n d) (T := 106)
 obtain ⟨w2,u⟩:=exx (wr.alloc (Obj.cells #[.int .i64 cols,.slice T n d] 106))
 obtain ⟨mb,B⟩:=exx wr.heap.size
 rw [<-u] at m rm ⊢;rw [<-B] at rm ⊢
 have s:=hid (onS HB.out m)
 have j:=hid (onS r.out m)
 have z0:=qc0 rm
 have z1:=qc1 rm
 clear u B m rm HB r
 go_wp2_with fail
 refine (zgA P M g _ cols T n d ln V w2 (HG.out.on j.out) (HT.out.on s.out)).mono ?_
 rintro e w3 ⟨v,rfl,hv,kb⟩
 have C:=hid (onS s.out kb)
 have q:=hid (onS j.out kb)
 have HV:=hid hv
 clear kb z0 z1 hv s j
 by_cases hv0:v=0
 ·have G:Hid (True->FirstErr [(ShapeM cols n ln,3),(ElemsM (P ^ M) n ln V,2)] 0):=fun _=>by rw [<-hv0]; exact HV.out
  subst hv0
  go_wp2
  go_roundg (gk - 1)
  case measure=>omega
  case rel=>exact ⟨0+1,by go_num,by omega,by omega,fun _=>G.out trivial,q,C⟩
 have H:(v != 0)=true:=by simpa using hv0
 have D:=hid hv0
 clear hv0
 go_wp2
 go_ret2
 exact ⟨C.out,v,y.out HV.out,.inl ⟨D.out,rfl⟩⟩
theorem zcD {w w':World} {g:Nat} {T:TypeId} {f:Nat->Value} {a b:Value} (h:w.rowIs g T 2 f) (hw:w'=(w.setCell ⟨g,0,none⟩ a).setCell ⟨g,1,none⟩ b):w'.rowIs g T 2 (matCell a b)/\w.grownBy w' (some g):=by
 rw [hw]
 refine ⟨((h.set 0 _).set 1 _).congr fun j hj=>?_,zaS (zcl _ _ _ _) _ _⟩
 match j,hj with
 | 0,_=>rfl
 | 1,_=>rfl
def MatErrs (P M:Int) (k:Nat) (f:Nat->Int) (cols:Int) (n:Nat) (ln:Nat->Nat) (V:Nat->Nat->Int):List (Prop × Int):=[(GoodF P M k f,1),(ShapeM cols n ln,3),(ElemsM (P.toNat ^ M.toNat) n ln V,2)]
def MCanonPost (P M : Int) (k : Nat) (f : Nat → Int) (cols : Int) (n : Nat) (ln : Nat → Nat) (V : Nat → Nat → Int) (w : World) (e : Ending) (w' : World) : Prop :=
 Below w.heap.size w w'/\∃ v:Int,FirstErr (MatErrs P M k f cols n ln V) v /\
  ((v≠0/\e=.returned (.tuple #[.agg #[.int .i64 0,.slice none 0 0],.slice none 0 0,.int .i64 v])) ∨
   (v=0/\∃ (P' M' C:Nat) (lv pv:Value) (a:Nat) (p:Nat->Nat) (W:Nat->Nat->Nat),P=P'/\M=M'/\cols=C/\e=.returned (.tuple #[.agg #[.int .i64 (C:Nat),lv],pv,.int .i64 0]) /\
    MTab w' w.heap.size lv a C W/\Own w' w.heap.size 3 1 pv a (fun j _=>.int .i64 (p j:Nat))/\EchN (P' ^ M') n C C a p W/\RowOps (P' ^ M') (addF P' M') (mulF P' M' fun i=>(f i).toNat) n C (natT V) W))
theorem zdB (P M:Int) (A:Option Addr) (k c:Nat) (f:Nat->Int) (cols:Int) (T:Option Addr) (n d:Nat) (ln:Nat->Nat) (V:Nat->Nat->Int) (w:World) (hr:IntsR w w.heap.size A k f) (h:IntRows w T n ln V) (hc1:1<=cols) :
  Calls Tryz.prog 214 #[.agg #[.int .i64 P,.int .i64 M,.slice A k c],.agg #[.int .i64 cols,.slice T n d]] w (MCanonPost P M k f cols n ln V w):=by
 have HR:=hid hr
 have HT:=hid h
 clear hr h
 have rf:=zau (w:=w) (a:=.int .i64 P) (b:=.int .i64 M) (c:=.slice A k c) (T := 24)
 have hB:=aly w (.cells #[.int .i64 P,.int .i64 M,.slice A k c] 24)
 have u:(w.alloc (.cells #[.int .i64 P,.int .i64 M,.slice A k c] 24)).heap.size=w.heap.size+1:=by simp
 obtain ⟨w0,z⟩:=exx (w.alloc (.cells #[.int .i64 P,.int .i64 M,.slice A k c] 24))
 have rm:=zaw (w:=w0) (a:=.int .i64 cols) (b:=.slice T n d) (T := 106)
 have kb:=aly w0 (.cells #[.int .i64 cols,.slice T n d] 106)
 have j:(w0.alloc (.cells #[.int .i64 cols,.slice T n d] 106)).heap.size=w0.heap.size+1:=by simp
 obtain ⟨w1,y⟩:=exx (w0.alloc (.cells #[.int .i64 cols,.slice T n d] 106))
 have ro:=zaw (w:=w1) (a:=.int .i64 0) (b:=.slice none 0 0) (T := 106)
 have m:=aly w1 (.cells #[.int .i64 0,.slice none 0 0] 106)
 obtain ⟨w2,x⟩:=exx (w1.alloc (.cells #[.int .i64 0,.slice none 0 0] 106))
 rw [<-z] at hB rf u;rw [<-y] at rm kb j;rw [<-x] at ro m;rw [j,u] at ro;rw [u] at rm;replace rf:=zab (zab rf kb) m;replace rm:=zab rm m;replace hB:=onS (onS hB kb) m
 go_enter Tryz.func214, Tryz.ntmps214
 go_upto_region 1 with fail
 rw [<-z,<-y,<-x];clear z y x kb m u j
 obtain ⟨b0,F⟩:=exx w.heap.size
 obtain ⟨b1,E⟩:=exx (w.heap.size+1)
 obtain ⟨b2,D⟩:=exx (w.heap.size+1+1)
 have S:w.heap.size<=b2:=by omega
 rw [<-F] at rf;rw [<-E] at rm;rw [<-D] at ro;rw [<-D,<-E,<-F];clear F E D
 have q0:=qc0 rf
 have q1:=qc1 rf
 have q2:=qc2 rf
 have p0:=qc0 rm
 have p1:=qc1 rm
 go_wp2_with fail
 have l:=aly w2 (Obj.cells #[.int .i64 cols,.slice T n d] 106)
 have rl:=zaw (w:=w2) (a:=.int .i64 cols) (b:=.slice T n d) (T := 106)
 obtain ⟨w3,J⟩:=exx (w2.alloc (Obj.cells #[.int .i64 cols,.slice T n d] 106))
 rw [<-J] at l rl ⊢;replace hB:=onS hB l;replace rf:=zab rf l;replace rm:=zab rm l;replace ro:=zab ro l;clear J l q0 q1 q2 p0 p1
 refine (zhL P M A k c f cols T n d w2.heap.size 1 ln V w3 (HR.out.on hB) (HT.out.on hB) (rl.cell (i:=0) (by omega)) (rl.cell (i:=1) (by omega))).mono ?_
 rintro e w4 ⟨kb,v,hv,s⟩
 replace hB:=onS hB kb;replace rm:=zab rm kb;replace ro:=zab ro kb
 have HV:=hid hv
 clear kb rl rf hv
 rcases s with ⟨B,rfl⟩ | ⟨rfl,g,P,M,rfl,rfl,rfl,hG⟩
 ·have a3:(v != 0)=true:=by simpa using B
  have a0:=hid B
  clear B rm
  have r0:=ro.frozen 0
  have s0:=qc0 ro
  have r1:=ro.frozen 1
  have s1:=qc1 ro
  go_wp2
  clear r0 s0 r1 s1
  generalize hw9:World.setCell _ _ _=w5
  obtain ⟨row9,r⟩:=zcD ro hw9.symm
  clear hw9
  have H:=hB.grown r hB.size (fun q e=>by injection e with e; omega)
  have e0:=qc0 row9
  have e1:=qc1 row9
  refine bodyPost_ret (v:=.tuple #[.agg #[.int .i64 0,.slice none 0 0],.slice none 0 0,.int .i64 v]) (by simp [results,Tryz.results214, go_sem,e0,e1]) rfl ?_
  exact ⟨H,v,HV.out,.inl ⟨a0.out,rfl⟩⟩
 have O:=HV.out
 rcases O with ⟨_,h9⟩ | ⟨o,⟨_,h9⟩ | ⟨hs,⟨_,h9⟩ | ⟨he,_⟩⟩⟩
 ·cases h9
 ·cases h9
 ·cases h9
 obtain ⟨C,rfl⟩:∃ C:Nat,cols=C:=⟨cols.toNat,by omega⟩
 rw [Int.toNat_natCast,Int.toNat_natCast] at he
 obtain ⟨hm,K⟩:=zcx (HT.out.on hB) hs he
 have Z:0<C:=by omega
 have Y:C<=1048576:=by have:=hs.2.1; omega
 have Q:n<=1048576:=by have:=hs.2.2.1; omega
 have p0:=qc0 rm
 have p1:=qc1 rm
 clear hs he o
 go_wp2_with fail
 refine (zgz P M g _ T n d C C (natT V) w4 hG hm K (Nat.le_refl _) Z Y Q).mono ?_
 rintro e w5 ⟨lv,pv,a,p,W,rfl,G,hP,kb,hE,hR⟩
 have HB:=hid (onS hB kb)
 have I:=hB.size
 replace ro:=zab ro kb
 have HE:=hid hE
 have a1:=hid hR
 obtain ⟨LA,lc,R⟩:=G.shape
 subst R
 obtain ⟨PA,pc,N⟩:=hP.shape
 subst N
 replace rm:=zab rm kb
 have a2:=hid (G.mono I)
 have L:=hid (hP.mono I)
 clear kb G hP hE hR K hm hG p0 p1 hB I
 have p0:=qc0 rm
 have r0:=ro.frozen 0
 have s0:=qc0 ro
 have r1:=ro.frozen 1
 have s1:=qc1 ro
 go_wp2
 clear r0 s0 r1 s1 p0 rm
 generalize hw9:World.setCell _ _ _=w6
 obtain ⟨row9,r⟩:=zcD ro hw9.symm
 clear hw9
 have H:=HB.out.grown r HB.out.size (fun q e=>by injection e with e; omega)
 have X:=a2.out.kept r ro (by decide) (by decide)
 have U:=L.out.kept r (za6 ro L.out (by decide))
 have e0:=qc0 row9
 have e1:=qc1 row9
 refine bodyPost_ret (v:=.tuple #[.agg #[.int .i64 (C:Nat),.slice LA a lc],.slice PA a pc,.int .i64 0]) (by simp [results,Tryz.results214, go_sem,e0,e1]) rfl ?_
 exact ⟨H,0,HV.out,.inr ⟨rfl,P,M,C,_,_,a,p,W,rfl,rfl,rfl,rfl,X,U,HE.out,a1.out⟩⟩
theorem zdC (A B:Option Addr) (n m c d:Nat) (f g:Nat->Int) (w:World) (ha:IntsR w w.heap.size A n f) (hb:IntsR w w.heap.size B m g) (hn:n<=1048576) (hm:m<=1048576) :
  Calls Tryz.prog 92 #[.slice A n c,.slice B m d] w (IffPost (EqI n m f g) w):=by
 have HA:=hid ha
 have HB:=hid hb
 clear ha hb
 by_cases hnm:n=m
 rotate_left
 ·have hd:((n:Int) != (m:Int))=true:=by simp; omega
  have j:Hid (¬ EqI n m f g):=fun h=>hnm h.1
  clear hnm
  go_enter Tryz.func92, Tryz.ntmps92
  go_wp2
  go_ret
  exact zat j.out (Below.refl _ _)
 subst hnm
 have hd:((n:Int) != (n:Int))=false:=by simp
 go_enter Tryz.func92, Tryz.ntmps92
 go_wp2
 go_loopg [13] n (fun gg iv wx=>∃ i:Nat,iv=.int .i64 (i:Nat)/\i<=n/\n<=i+gg/\Hid (∀ t,t<i->f t=g t)/\Hid (Below w.heap.size w wx))
 case atStart=>exact ⟨0,rfl,by omega,by omega,fun t ht=>absurd ht (by omega),Below.refl _ _⟩
 obtain ⟨i,rfl,hi,p,HE,HW⟩:=hrel
 have q:(0:Int)<=(i:Int):=by omega
 by_cases hlt:i<n
 rotate_left
 ·have a:¬ (i:Int)<(n:Int):=by omega
  have HY:Hid (EqI n n f g):=⟨rfl,fun t ht=>HE.out t (by omega)⟩
  go_wp2
  go_ret
  exact za5 HY.out HW.out
 have a:(i:Int)<(n:Int):=by omega
 obtain ⟨b,o,rfl,_,x0⟩:=(HA.out.on HW.out).at hlt
 obtain ⟨b2,o2,rfl,_,y0⟩:=(HB.out.on HW.out).at hlt
 obtain ⟨x,hx⟩:=exx (f i)
 obtain ⟨y,hy⟩:=exx (g i)
 rw [<-hx] at x0;rw [<-hy] at y0
 by_cases he:x=y
 ·have k:(x != y)=false:=by simpa using he
  have l:Hid (∀ t,t<i+1->f t=g t):=fun t ht=>by
   by_cases e:t=i
   ·rw [e,<-hx,<-hy,he]
   ·exact HE.out t (by omega)
  clear he hx hy
  go_wp2
  go_quiet (fail)
  go_wp2
  go_roundg (gk - 1)
  case measure=>omega
  case rel=>exact ⟨i+1,by go_num,by omega,by omega,l,zac HW.out _⟩
 have k:(x != y)=true:=by simpa using he
 have j:Hid (¬ EqI n n f g):=fun h=>he (by rw [hx,hy]; exact h.2 i hlt)
 clear he hx hy
 go_wp2
 go_quiet (fail)
 go_wp2
 go_ret
 exact zat j.out (zac HW.out _)
theorem zd2 (A B:Option Addr) (n m c d:Nat) (ln ln':Nat->Nat) (V W:Nat->Nat->Int) (w:World) (ha:IntRows w A n ln V) (hb:IntRows w B m ln' W) (hn:n<=1048576) (hm:m<=1048576) (hl:∀ i,i<n->ln i<=1048576) (hl2:∀ i,i<m->ln' i<=1048576) :
  Calls Tryz.prog 215 #[.slice A n c,.slice B m d,.func (.func 92) #[] #[]] w (IffPost (EqT n m ln ln' V W) w):=by
 have v:∀ (x y:Value) (W:World),(callFunc 92 #[x,y]).run Tryz.prog W=.ok (.enter 92 #[x,y]) W:=fun _ _ _=>by kernel_rfl
 have HA:=hid ha
 have HB:=hid hb
 have HL:=hid hl
 have q:=hid hl2
 clear ha hb hl hl2
 by_cases hnm:n=m
 rotate_left
 ·have hd:((n:Int) != (m:Int))=true:=by simp; omega
  have k:Hid (¬ EqT n m ln ln' V W):=fun h=>hnm h.1
  clear hnm
  go_enter Tryz.func215, Tryz.ntmps215
  go_wp2
  go_ret
  exact zat k.out (Below.refl _ _)
 subst hnm
 have hd:((n:Int) != (n:Int))=false:=by simp
 go_enter Tryz.func215, Tryz.ntmps215
 go_wp2
 go_loopg [17] n (fun gg iv wx=>∃ i:Nat,iv=.int .i64 (i:Nat)/\i<=n/\n<=i+gg/\Hid (∀ t,t<i->EqI (ln t) (ln' t) (V t) (W t))/\Hid (Below w.heap.size w wx))
 case atStart=>exact ⟨0,rfl,by omega,by omega,fun t ht=>absurd ht (by omega),Below.refl _ _⟩
 obtain ⟨i,rfl,hi,s,HE,HW⟩:=hrel
 have u:(0:Int)<=(i:Int):=by omega
 by_cases hlt:i<n
 rotate_left
 ·have j:¬ (i:Int)<(n:Int):=by omega
  have HY:Hid (EqT n n ln ln' V W):=⟨rfl,fun t ht=>HE.out t (by omega)⟩
  go_wp2
  go_ret
  exact za5 HY.out HW.out
 have j:(i:Int)<(n:Int):=by omega
 obtain ⟨b,o,RA,rc,rfl,_,x0,_,_,g,_⟩:=(HA.out.on HW.out) i hlt
 obtain ⟨b2,o2,RB,rc2,rfl,_,y0,_,_,a,_⟩:=(HB.out.on HW.out) i hlt
 have H1:=hid g
 have H2:=hid a
 clear g a
 go_wp2_with fail
 refine (zdC RA RB (ln i) (ln' i) rc rc2 (V i) (W i) wr H1.out H2.out (HL.out i hlt) (q.out i hlt)).mono ?_
 rintro e w2 ⟨b,rfl,hb,kb⟩
 have p:=hid (onS HW.out kb)
 have l:=hid hb
 clear kb hb x0 y0 H1 H2 HW
 cases b
 ·have k:Hid (¬ EqT n n ln ln' V W):=fun h=>by have:=l.out.2 (h.2 i hlt); cases this
  go_wp2
  go_ret
  exact zat k.out p.out
 have r:Hid (∀ t,t<i+1->EqI (ln t) (ln' t) (V t) (W t)):=fun t ht=>by
  by_cases e:t=i
  ·rw [e]; exact l.out.1 rfl
  ·exact HE.out t (by omega)
 go_wp2
 go_roundg (gk - 1)
 case measure=>omega
 case rel=>exact ⟨i+1,by go_num,by omega,by omega,r,p⟩
def viewCell (a b c d:Value) (i:Nat):Value:=if i=0 then a else if i=1 then b else if i=2 then c else d
theorem KD.qc0 {w:World} {g:Nat} {T:TypeId} {a b c d:Value} (h:w.rowIs g T 4 (viewCell a b c d)) : w.cell? ⟨g,0,none⟩=some a:=h.cell (i:=0) (by decide)
theorem KD.qc1 {w:World} {g:Nat} {T:TypeId} {a b c d:Value} (h:w.rowIs g T 4 (viewCell a b c d)) : w.cell? ⟨g,1,none⟩=some b:=h.cell (i:=1) (by decide)
theorem KD.qc2 {w:World} {g:Nat} {T:TypeId} {a b c d:Value} (h:w.rowIs g T 4 (viewCell a b c d)) : w.cell? ⟨g,2,none⟩=some c:=h.cell (i:=2) (by decide)
theorem KD.qc3 {w:World} {g:Nat} {T:TypeId} {a b c d:Value} (h:w.rowIs g T 4 (viewCell a b c d)) : w.cell? ⟨g,3,none⟩=some d:=h.cell (i:=3) (by decide)
open KD
theorem zfD {w:World} {a b c d:Value} {T:TypeId}:(w.alloc (.cells #[a,b,c,d] T)).rowIs w.heap.size T 4 (viewCell a b c d) :=
 ⟨_,zah rfl,rfl,fun i hi=>by
  rcases (show i=0∨i=1∨i=2∨i=3 by omega) with rfl | rfl | rfl | rfl <;> rfl⟩
theorem zcE {w w':World} {g:Nat} {T:TypeId} {f:Nat->Value} {a b c d:Value} (h:w.rowIs g T 4 f) (hw:w'=(((w.setCell ⟨g,0,none⟩ a).setCell ⟨g,1,none⟩ b).setCell ⟨g,2,none⟩ c).setCell ⟨g,3,none⟩ d):w'.rowIs g T 4 (viewCell a b c d)/\w.grownBy w' (some g):=by
 rw [hw]
 refine ⟨((((h.set 0 _).set 1 _).set 2 _).set 3 _).congr fun j hj=>?_,zaS (zaS (zaS (zcl _ _ _ _) _ _) _ _) _ _⟩
 match j,hj with
 | 0,_=>rfl
 | 1,_=>rfl
 | 2,_=>rfl
 | 3,_=>rfl
def SOpenPost (P M : Int) (k : Nat) (f : Nat → Int) (cols : Nat) (T : Option Addr) (n d : Nat) (ln : Nat → Nat) (V : Nat → Nat → Int) (w : World) (e : Ending) (w' : World) : Prop :=
 Below w.heap.size w w'/\∃ v:Int,FirstErr (SpaceErrs P M k f cols n ln V) v /\
  ((v≠0/\e=.returned (.tuple #[.agg #[.pointer none,.int .i64 0,.slice none 0 0,.slice none 0 0],.int .i64 v])) ∨
   (v=0/\∃ (P' M' C g:Nat) (pv:Value) (p:Nat->Nat),P=P'/\M=M'/\cols=C/\e=.returned (.tuple #[.agg #[.pointer (some ⟨g,0,none⟩),.int .i64 (C:Nat),.slice T n d,pv],.int .i64 0]) /\
    GF w' w'.heap.size g P' M' (fun i=>(f i).toNat)/\Own w' w.heap.size 3 1 pv n (fun j _=>.int .i64 (p j:Nat))/\EchN (P' ^ M') n C C n p (natT V)))
theorem zfE {q n k a:Nat} {p:Nat->Nat} {V W:Nat->Nat->Nat} (hE:EchN q n k k a p W) (h:a=n/\∀ i,i<a->∀ j,j<k->W i j=V i j):EchN q n k k n p V:=by
 obtain ⟨rfl,h2⟩:=h
 exact hE.congr (Nat.le_refl _) h2
theorem zhM (P M:Int) (A:Option Addr) (k c:Nat) (f:Nat->Int) (cols:Nat) (T:Option Addr) (n d:Nat) (ln:Nat->Nat) (V:Nat->Nat->Int) (w:World) (hr:IntsR w w.heap.size A k f) (h:IntRows w T n ln V) (hc1:1<=cols) :
  Calls Tryz.prog 166 #[.agg #[.int .i64 P,.int .i64 M,.slice A k c],.agg #[.int .i64 (cols:Nat),.slice T n d]] w (SOpenPost P M k f cols T n d ln V w):=by
 have HR:=hid hr
 have HT:=hid h
 clear hr h
 have rf:=zau (w:=w) (a:=.int .i64 P) (b:=.int .i64 M) (c:=.slice A k c) (T := 24)
 have hB:=aly w (.cells #[.int .i64 P,.int .i64 M,.slice A k c] 24)
 have O:(w.alloc (.cells #[.int .i64 P,.int .i64 M,.slice A k c] 24)).heap.size=w.heap.size+1:=by simp
 obtain ⟨w0,U⟩:=exx (w.alloc (.cells #[.int .i64 P,.int .i64 M,.slice A k c] 24))
 have rm:=zaw (w:=w0) (a:=.int .i64 (cols:Nat)) (b:=.slice T n d) (T := 106)
 have kb:=aly w0 (.cells #[.int .i64 (cols:Nat),.slice T n d] 106)
 have s:(w0.alloc (.cells #[.int .i64 (cols:Nat),.slice T n d] 106)).heap.size=w0.heap.size+1:=by simp
 obtain ⟨w1,S⟩:=exx (w0.alloc (.cells #[.int .i64 (cols:Nat),.slice T n d] 106))
 have ro:=zfD (w:=w1) (a:=.pointer none) (b:=.int .i64 0) (c:=.slice none 0 0) (d:=.slice none 0 0) (T := 196)
 have y:=aly w1 (.cells #[.pointer none,.int .i64 0,.slice none 0 0,.slice none 0 0] 196)
 obtain ⟨w2,R⟩:=exx (w1.alloc (.cells #[.pointer none,.int .i64 0,.slice none 0 0,.slice none 0 0] 196))
 rw [<-U] at hB rf O;rw [<-S] at rm kb s;rw [<-R] at ro y;rw [s,O] at ro;rw [O] at rm;replace rf:=zab (zab rf kb) y;replace rm:=zab rm y;replace hB:=onS (onS hB kb) y
 go_enter Tryz.func166, Tryz.ntmps166
 go_upto_region 1 with fail
 rw [<-U,<-S,<-R];clear U S R kb y O s
 obtain ⟨b0,a0⟩:=exx w.heap.size
 obtain ⟨b1,Z⟩:=exx (w.heap.size+1)
 obtain ⟨b2,Y⟩:=exx (w.heap.size+1+1)
 have ah:w.heap.size<=b2:=by omega
 rw [<-a0] at rf;rw [<-Z] at rm;rw [<-Y] at ro;rw [<-Y,<-Z,<-a0];clear a0 Z Y
 have q0:=qc0 rf
 have q1:=qc1 rf
 have q2:=qc2 rf
 have p0:=qc0 rm
 have p1:=qc1 rm
 go_wp2_with fail
 have an:=hB.size
 refine (zdB P M A k c f (cols:Int) T n d ln V w2 (HR.out.on hB) (HT.out.on hB) (by omega)).mono ?_
 rintro e w4 ⟨kb,v,hv,E⟩
 replace hB:=onS hB kb;replace rf:=zab rf kb;replace rm:=zab rm kb;replace ro:=zab ro kb
 have HV:=hid hv
 clear kb hv q0 q1 q2 p0 p1
 rcases E with ⟨N,rfl⟩ | ⟨rfl,P,M,C,lv,pv,a,p,W,rfl,rfl,am,rfl,a2,hP,hE,a5⟩
 ·have ax:(v != 0)=true:=by simpa using N
  have ao:=hid N
  have Q:=hid (FirstErr.app (r:=[(RrefN (P.toNat ^ M.toNat) n cols (natT V),5)]) (u:=v) (by simp) (show FirstErr [(GoodF P M k f,1),(ShapeM cols n ln,3),(ElemsM (P.toNat ^ M.toNat) n ln V,2)] v from HV.out) (fun _=>rfl) (fun h=>absurd h N))
  clear N rm rf
  go_upto_region 2 with fail
  have m:=aly w4 (Obj.cells #[.int .i64 0,.slice none 0 0] 106)
  obtain ⟨w5,z⟩:=exx (w4.alloc (Obj.cells #[.int .i64 0,.slice none 0 0] 106))
  rw [<-z] at m ⊢;replace hB:=onS hB m;replace ro:=zab ro m;clear z m
  have r0:=ro.frozen 0
  have s0:=qc0 ro
  have r1:=ro.frozen 1
  have s1:=qc1 ro
  have r2:=ro.frozen 2
  have s2:=qc2 ro
  have r3:=ro.frozen 3
  have s3:=qc3 ro
  go_wp2
  clear r0 s0 r1 s1 r2 s2 r3 s3
  generalize hw9:World.setCell _ _ _=w6
  obtain ⟨row9,x⟩:=zcE ro hw9.symm
  clear hw9
  have F:=hB.grown x hB.size (fun q e=>by injection e with e; omega)
  have e0:=qc0 row9
  have e1:=qc1 row9
  have e2:=qc2 row9
  have e3:=qc3 row9
  refine bodyPost_ret (v:=.tuple #[.agg #[.pointer none,.int .i64 0,.slice none 0 0,.slice none 0 0],.int .i64 v]) (by simp [results,Tryz.results166, go_sem,e0,e1,e2,e3]) rfl ?_
  exact ⟨F,v,by simpa [SpaceErrs] using Q.out,.inl ⟨ao.out,rfl⟩⟩
 obtain rfl:C=cols:=by omega
 clear am
 have ac:=HV.out
 rcases ac with ⟨_,h9⟩ | ⟨o,⟨_,h9⟩ | ⟨hs,⟨_,h9⟩ | ⟨he,_⟩⟩⟩
 ·cases h9
 ·cases h9
 ·cases h9
 rw [Int.toNat_natCast,Int.toNat_natCast] at he
 have a8:=hid (zcx (HT.out.on hB) hs he).1
 have ar:=hid (zcx (HT.out.on hB) hs he).2
 have b3:C<=256:=by have:=hs.2.1; omega
 have ay:n<=256:=by have:=hs.2.2.1; omega
 have az:=hE.le
 have av:=hid o
 have aw:=hid (zdT (fieldLaws o.field.1) ar.out hE a5)
 have ap:=hid (fun h=>zfE (V:=natT V) hE h)
 have au:Hid (∀ i,i<n->ln i=C):=fun i hi=>by have:=hs.2.2.2 i hi; omega
 have a3:=a2.shape
 obtain ⟨LA,lc,ae⟩:=a3
 subst ae
 obtain ⟨PA,pc,ab⟩:=hP.shape
 subst ab
 have B:=o.field.1.1.2.2.2
 have a7:=hid (a2.rd (q:=P ^ M) B fun i hi=>hE.lt i (by omega))
 have a6:=hid hP
 clear a2 hP hE a5 hs he o
 go_upto_region 2 with fail
 have m:=aly w4 (Obj.cells #[.int .i64 (C:Nat),.slice LA a lc] 106)
 have rl:=zaw (w:=w4) (a:=.int .i64 (C:Nat)) (b:=.slice LA a lc) (T := 106)
 obtain ⟨w5,z⟩:=exx (w4.alloc (Obj.cells #[.int .i64 (C:Nat),.slice LA a lc] 106))
 obtain ⟨b6,a4⟩:=exx w4.heap.size
 rw [<-z] at m rl ⊢;rw [<-a4] at rl ⊢
 have K:=hid (a7.out.on m)
 have L:=hid (a8.out.on m)
 have J:=hid (a6.out.on m)
 replace hB:=onS hB m;replace ro:=zab ro m;replace rf:=zab rf m;replace rm:=zab rm m;clear z a4 m a7 a8 a6
 have p1:=qc1 rm
 have l1:=qc1 rl
 go_wp2_with fail
 refine (zd2 LA T a n lc d (fun _=>C) (fun _=>C) (fun i j=>((W i j:Nat):Int)) (fun i j=>((natT V i j:Nat):Int)) w5 K.out L.out (by omega) (by omega) (fun _ _=>by omega) (fun _ _=>by omega)).mono ?_
 rintro e w6 ⟨b,rfl,hb,kb⟩
 replace hB:=onS hB kb;replace ro:=zab ro kb;replace rf:=zab rf kb;replace rm:=zab rm kb
 have I:=hid (J.out.on kb)
 have a9:Hid (EqT a n (fun _=>C) (fun _=>C) (fun i j=>((W i j:Nat):Int)) (fun i j=>((natT V i j:Nat):Int))↔a=n/\∀ i,i<a->∀ j,j<C->W i j=natT V i j):=by
  constructor
  ·intro h
   refine ⟨h.1,fun i hi j hj=>?_⟩
   have:=(h.2 i hi).2 j hj
   simp only at this
   omega
  intro h
  refine ⟨h.1,fun i hi=>⟨rfl,fun j hj=>?_⟩⟩
  show ((W i j:Nat):Int)=((natT V i j:Nat):Int)
  rw [h.2 i hi j hj]
 have aa:=hid (hb.trans a9.out)
 have Q:Hid (∀ u:Int,FirstErr [(RrefN (P ^ M) n C (natT V),5)] u->FirstErr (SpaceErrs (P:Int) (M:Int) k f C n ln V) u):=fun u hu=>by
  refine FirstErr.app (l:=[(GoodF (P:Int) (M:Int) k f,1),(ShapeM (C:Int) n ln,3),(ElemsM ((P:Int).toNat ^ (M:Int).toNat) n ln V,2)]) (by simp) (v:=0) (by simpa [MatErrs] using HV.out) (fun h=>absurd rfl h) fun _=>?_
  rw [Int.toNat_natCast,Int.toNat_natCast]
  exact hu
 clear kb hb p1 l1 rl K L J a9
 cases b
 ·have aq:Hid (¬ RrefN (P ^ M) n C (natT V)):=fun h=>by have:=aa.out.2 (aw.out.1 h); cases this
  have r0:=ro.frozen 0
  have s0:=qc0 ro
  have r1:=ro.frozen 1
  have s1:=qc1 ro
  have r2:=ro.frozen 2
  have s2:=qc2 ro
  have r3:=ro.frozen 3
  have s3:=qc3 ro
  go_wp2
  clear r0 s0 r1 s1 r2 s2 r3 s3
  generalize hw9:World.setCell _ _ _=w7
  obtain ⟨row9,x⟩:=zcE ro hw9.symm
  clear hw9
  have F:=hB.grown x hB.size (fun q e=>by injection e with e; omega)
  have e0:=qc0 row9
  have e1:=qc1 row9
  have e2:=qc2 row9
  have e3:=qc3 row9
  refine bodyPost_ret (v:=.tuple #[.agg #[.pointer none,.int .i64 0,.slice none 0 0,.slice none 0 0],.int .i64 5]) (by simp [results,Tryz.results166, go_sem,e0,e1,e2,e3]) rfl ?_
  exact ⟨F,5,Q.out 5 (.inl ⟨aq.out,rfl⟩),.inl ⟨by omega,rfl⟩⟩
 have G:=hid (aa.out.1 rfl)
 have q0:=qc0 rf
 have q1:=qc1 rf
 have q2:=qc2 rf
 have X:b2<w6.heap.size:=ro.lt
 go_wp2_with fail
 refine (zbw (P:Int) (M:Int) A k c f w6 (HR.out.on hB)).mono ?_
 rintro e w7 ⟨kb,hN⟩
 replace hB:=onS hB kb;replace ro:=zab ro kb;replace rm:=zab rm kb
 have H:=hid (I.out.on kb)
 clear kb q0 q1 q2 rf I
 rcases hN with ⟨ad,_⟩ | ⟨_,g,P',M',ai,ak,rfl,af,hG⟩
 ·exact absurd av.out ad
 obtain rfl:P=P':=by omega
 obtain rfl:M=M':=by omega
 have HG:=hid hG
 have ag:=hG
 clear hG ai ak af
 have p0:=qc0 rm
 have p1:=qc1 rm
 have r0:=ro.frozen 0
 have s0:=qc0 ro
 have r1:=ro.frozen 1
 have s1:=qc1 ro
 have r2:=ro.frozen 2
 have s2:=qc2 ro
 have r3:=ro.frozen 3
 have s3:=qc3 ro
 clear ag
 go_wp2
 clear r0 s0 r1 s1 r2 s2 r3 s3 p0 p1
 generalize hw9:World.setCell _ _ _=w8
 obtain ⟨row9,x⟩:=zcE ro hw9.symm
 clear hw9
 have F:=hB.grown x hB.size (fun q e=>by injection e with e; omega)
 have aj:=H.out.kept x (za6 ro H.out (by decide))
 have al:=(HG.out.grown x X).gf
 have e0:=qc0 row9
 have e1:=qc1 row9
 have e2:=qc2 row9
 have e3:=qc3 row9
 have a1:a=n:=G.out.1
 have D:=ap.out G.out
 subst a1
 refine bodyPost_ret (v:=.tuple #[.agg #[.pointer (some ⟨g,0,none⟩),.int .i64 (C:Nat),.slice T a d,.slice PA a pc],.int .i64 0]) (by simp [results,Tryz.results166, go_sem,e0,e1,e2,e3]) rfl ?_
 exact ⟨F,0,Q.out 0 (.inr ⟨⟨p,D⟩,rfl⟩),.inr ⟨rfl,P,M,C,g,_,p,rfl,rfl,rfl,rfl,al,aj.mono an,D⟩⟩
open Go.ChangeShapes Go.WideShapes Go.ChangeAt
section
variable {q n k:Nat} {add mul:Nat->Nat->Nat} {V:Nat->Nat->Nat} {neg:Nat->Nat}
theorem zgB (hL:FieldLaws q add mul) {x y z:Nat} (hx:x<q) (hy:y<q) (hz:z<q) (h1:add x z=0) (h2:add y z=0):x=y:=by
 rw [<-hL.zeroAdd x hx,<-h2,hL.addAssoc y z x hy hz hx,hL.addComm z x,h1,hL.addComm,hL.zeroAdd y hy]
end
theorem zj6 {x:Nat} (h:x<4294967296):dl x<=1:=by
 by_cases e:x=0
 ·rw [e,zaG]; omega
 ·rw [zbQ (by omega) h]; omega
theorem zgC (P M:Int) (A:Option Addr) (k c:Nat) (f:Nat->Int) (cols:Nat) (T:Option Addr) (n d:Nat) (ln:Nat->Nat) (V:Nat->Nat->Int) (w:World) (hr:IntsR w w.heap.size A k f) (h:IntRows w T n ln V) (hc1:1<=cols) :
  Calls Tryz.prog 130 #[.agg #[.int .i64 P,.int .i64 M,.slice A k c],.agg #[.int .i64 (cols:Nat),.slice T n d]] w (ErrsPost (SpaceErrs P M k f cols n ln V) w):=by
 have HR:=hid hr
 have HT:=hid h
 clear hr h
 have rf:=zau (w:=w) (a:=.int .i64 P) (b:=.int .i64 M) (c:=.slice A k c) (T := 24)
 have hB:=aly w (.cells #[.int .i64 P,.int .i64 M,.slice A k c] 24)
 have m:(w.alloc (.cells #[.int .i64 P,.int .i64 M,.slice A k c] 24)).heap.size=w.heap.size+1:=by simp
 obtain ⟨w0,l⟩:=exx (w.alloc (.cells #[.int .i64 P,.int .i64 M,.slice A k c] 24))
 have rm:=zaw (w:=w0) (a:=.int .i64 (cols:Nat)) (b:=.slice T n d) (T := 106)
 have kb:=aly w0 (.cells #[.int .i64 (cols:Nat),.slice T n d] 106)
 obtain ⟨w1,j⟩:=exx (w0.alloc (.cells #[.int .i64 (cols:Nat),.slice T n d] 106))
 rw [<-l] at hB rf m;rw [<-j] at rm kb;rw [m] at rm;replace rf:=zab rf kb;replace hB:=onS hB kb
 go_enter Tryz.func130, Tryz.ntmps130
 go_upto_region 1 with fail
 rw [<-l,<-j];clear l j kb m
 have q0:=qc0 rf
 have q1:=qc1 rf
 have q2:=qc2 rf
 have p0:=qc0 rm
 have p1:=qc1 rm
 go_wp2_with fail
 refine (zhM P M A k c f cols T n d ln V w1 (HR.out.on hB) (HT.out.on hB) hc1).mono ?_
 rintro e w2 ⟨kb,v,hv,i⟩
 have HB:=hid (onS hB kb)
 have HV:=hid hv
 clear kb hv q0 q1 q2 p0 p1 rf rm hB
 rcases i with ⟨o,rfl⟩ | ⟨rfl,P,M,C,g,pv,p,rfl,rfl,_,rfl,_,hP,_⟩
 ·clear o
  go_wp2
  go_ret
  exact errsPost HV.out (HB.out.alloc HB.out.size _)
 obtain ⟨PA,pc,q⟩:=hP.shape
 subst q
 clear hP
 go_wp2
 go_ret
 exact errsPost HV.out (HB.out.alloc HB.out.size _)
def LenOk (N:Int):Prop:=1<=N/\N<=64
theorem zfF (N:Int) (w:World):Calls Tryz.prog 129 #[.int .i64 N] w (ErrsPost [(LenOk N,4)] w):=by
 by_cases h1:N<1
 ·have hd:decide (N<1)=true:=by simpa using h1
  have b:Hid (FirstErr [(LenOk N,4)] 4):=.inl ⟨fun h=>by have:=h.1; have:=h.2; omega,rfl⟩
  go_enter Tryz.func129, Tryz.ntmps129
  go_wp2
  go_ret
  exact errsPost b.out (Below.refl _ _)
 have hd:decide (N<1)=false:=by simpa using h1
 by_cases h2:64<N
 ·have c:decide (64<N)=true:=by simpa using h2
  have b:Hid (FirstErr [(LenOk N,4)] 4):=.inl ⟨fun h=>by have:=h.1; have:=h.2; omega,rfl⟩
  go_enter Tryz.func129, Tryz.ntmps129
  go_wp2
  go_ret
  exact errsPost b.out (Below.refl _ _)
 have c:decide (64<N)=false:=by simpa using h2
 have a:Hid (FirstErr [(LenOk N,4)] 0):=.inr ⟨⟨by omega,by omega⟩,rfl⟩
 go_enter Tryz.func129, Tryz.ntmps129
 go_wp2
 go_ret
 exact errsPost a.out (Below.refl _ _)
theorem zi0 (P M N:Int) (A T:Option Addr) (k c n d:Nat) (w:World) :
  Calls Tryz.prog 101 #[.agg #[.int .i64 P,.int .i64 M,.slice A k c,.int .i64 N,.slice T n d]] w fun e w'=>e=.returned (.agg #[.int .i64 N,.slice T n d])/\Below w.heap.size w w':=by
 have rf:=za2 (w:=w) (a:=.int .i64 P) (b:=.int .i64 M) (c:=.slice A k c) (d:=.int .i64 N) (e:=.slice T n d) (T := 27)
 have hB:=aly w (.cells #[.int .i64 P,.int .i64 M,.slice A k c,.int .i64 N,.slice T n d] 27)
 have i:(w.alloc (.cells #[.int .i64 P,.int .i64 M,.slice A k c,.int .i64 N,.slice T n d] 27)).heap.size=w.heap.size+1:=by simp
 obtain ⟨w0,h⟩:=exx (w.alloc (.cells #[.int .i64 P,.int .i64 M,.slice A k c,.int .i64 N,.slice T n d] 27))
 have ro:=zaw (w:=w0) (a:=.int .i64 0) (b:=.slice none 0 0) (T := 106)
 have kb:=aly w0 (.cells #[.int .i64 0,.slice none 0 0] 106)
 obtain ⟨w1,g⟩:=exx (w0.alloc (.cells #[.int .i64 0,.slice none 0 0] 106))
 rw [<-h] at hB rf i;rw [<-g] at ro kb;rw [i] at ro;replace rf:=zab rf kb;replace hB:=onS hB kb
 go_enter Tryz.func101, Tryz.ntmps101
 go_upto_region 1 with fail
 rw [<-h,<-g];clear h g kb i
 have q3:=qc3 rf
 have q4:=qc4 rf
 have r0:=ro.frozen 0
 have s0:=qc0 ro
 have r1:=ro.frozen 1
 have s1:=qc1 ro
 go_wp2
 clear r0 s0 r1 s1 q3 q4 rf
 generalize hw9:World.setCell _ _ _=w2
 obtain ⟨row9,j⟩:=zcD ro hw9.symm
 clear hw9
 have l:=hB.grown j hB.size (fun q e=>by injection e with e; omega)
 have e0:=qc0 row9
 have e1:=qc1 row9
 refine bodyPost_ret (v:=.agg #[.int .i64 N,.slice T n d]) (by simp [results,Tryz.results101, go_sem,e0,e1]) rfl ?_
 exact ⟨rfl,l⟩
theorem zbL (P M:Int) (A:Option Addr) (k c:Nat) (f:Nat->Int) (N:Int) (T:Option Addr) (n d:Nat) (ln:Nat->Nat) (V:Nat->Nat->Int) (w:World) (hr:IntsR w w.heap.size A k f) (h:IntRows w T n ln V) :
  Calls Tryz.prog 67 #[.agg #[.int .i64 P,.int .i64 M,.slice A k c,.int .i64 N,.slice T n d]] w (ErrsPost (CodeErrs P M k f N n ln V) w):=by
 have HR:=hid hr
 have HT:=hid h
 clear hr h
 obtain ⟨w1,j,hB,rf⟩:=zbe w (.int .i64 P) (.int .i64 M) (.slice A k c) (.int .i64 N) (.slice T n d) 27
 go_enter Tryz.func67, Tryz.ntmps67
 go_upto_region 1 with fail
 rw [<-j];clear j
 have q0:=qc0 rf
 have q1:=qc1 rf
 have q2:=qc2 rf
 go_wp2_with fail
 refine (zfC P M A k c f w1 (HR.out.on hB)).mono ?_
 rintro e w2 ⟨v,rfl,hv,kb⟩
 replace hB:=onS hB kb;replace rf:=zab rf kb;clear kb q0 q1 q2
 rcases hv with ⟨rfl,a⟩ | ⟨rfl,b⟩
 rotate_left
 ·have hf:Hid (FirstErr (CodeErrs P M k f N n ln V) 1):=.inl ⟨b,rfl⟩
  clear b
  go_wp2
  go_ret
  exact errsPost hf.out hB
 have i:=hid a
 clear a
 have q3:=qc3 rf
 go_wp2_with fail
 refine (zfF N w2).mono ?_
 rintro e w3 ⟨v,rfl,hv,kb⟩
 replace hB:=onS hB kb;replace rf:=zab rf kb;clear kb q3
 rcases hv with ⟨b,rfl⟩ | ⟨hN,g⟩
 ·have hf:Hid (FirstErr (CodeErrs P M k f N n ln V) 4):=.inr ⟨i.out,.inl ⟨b,rfl⟩⟩
  clear b
  go_wp2
  go_ret
  exact errsPost hf.out hB
 have g:v=0:=g
 subst g
 have hN:1<=N/\N<=64:=hN
 obtain ⟨C,rfl⟩:∃ C:Nat,N=C:=⟨N.toNat,by omega⟩
 have m:=hid hN
 have l:1<=C:=by omega
 clear hN
 have q0:=qc0 rf
 have q1:=qc1 rf
 have q2:=qc2 rf
 have q3:=qc3 rf
 have q4:=qc4 rf
 go_wp2
 refine wp_region_held_drew (S:=fun w'=>w'.cell? ⟨w.heap.size,0,none⟩=some (.int .i64 P)/\w'.cell? ⟨w.heap.size,1,none⟩=some (.int .i64 M)/\w'.cell? ⟨w.heap.size,2,none⟩=some (.slice A k c)/\w'.cell? ⟨w.heap.size,3,none⟩=some (.int .i64 (C:Nat))/\w'.cell? ⟨w.heap.size,4,none⟩=some (.slice T n d)) (by kernel_rfl) ⟨cellS (Below.refl _ _).drew q0,cellS (Below.refl _ _).drew q1,cellS (Below.refl _ _).drew q2,cellS (Below.refl _ _).drew q3,cellS (Below.refl _ _).drew q4⟩ (fun hHeld=>?_)
 obtain ⟨w4,hw,kb⟩:=dwx w3
 rw [<-hw] at hHeld ⊢;clear hw;replace hB:=onS hB kb;replace rf:=zab rf kb;clear kb q0 q1 q2 q3 q4
 refine tkq 0 (h:=tkq 1 (h:=tkq 2 (h:=rdq 3 (h:=fun K hK=>?_))))
 go_simp
 go_wp2_with fail
 refine (zi0 P M (C:Int) A T k c n d w4).mono ?_
 rintro e w5 ⟨rfl,kb⟩
 replace hB:=onS hB kb;replace rf:=zab rf kb;clear kb
 refine bkq hK ⟨qc0 rf,qc1 rf,qc2 rf,qc3 rf,qc4 rf⟩ (h:=fun hHeld=>?_)
 clear hK K
 refine rdq 4 (h:=fun K hK=>?_)
 go_simp
 go_wp2_with fail
 refine (zgC P M A k c f C T n d ln V w5 (HR.out.on hB) (HT.out.on hB) l).mono ?_
 rintro e w6 ⟨v,rfl,hv,kb⟩
 replace hB:=onS hB kb;replace rf:=zab rf kb
 have hf:Hid (FirstErr (CodeErrs P M k f (C:Int) n ln V) v):=by
  rcases hv with ⟨b,_⟩ | ⟨_,hv⟩
  ·exact absurd i.out b
  refine .inr ⟨i.out,.inr ⟨m.out,?_⟩⟩
  rw [Int.toNat_natCast]
  exact hv
 clear kb hv
 refine bkq hK ⟨qc0 rf,qc1 rf,qc2 rf,qc3 rf,qc4 rf⟩ (h:=fun hHeld=>?_)
 clear hK K
 refine tkq 5 (h:=?_)
 refine wpAnyH_done (by kernel_rfl) ?_ _
 clear hHeld
 go_wp2
 go_ret
 exact errsPost hf.out hB
def ExpNPost (q k most:Nat) (w:World) (e:Ending) (w':World):Prop:=((q ^ k<=most/\e=.returned (.tuple #[.int .i64 (q ^ k:Nat),.int .i64 0]))∨(most<q ^ k/\e=.returned (.tuple #[.int .i64 0,.int .i64 8])))/\Below w.heap.size w w'
theorem zit (q k most:Nat) (w:World) (hq:2<=q) (hq2:q<=1048576) (hk:k<=1048576) (hm:1<=most) (hm2:most<=1048576) :
  Calls Tryz.prog 148 #[.int .i64 (q:Nat),.int .i64 (k:Nat),.int .i64 (most:Nat)] w (ExpNPost q k most w):=by
 have c1:¬ ((q:Int)<0):=by omega
 have c2:¬ ((k:Int)<0):=by omega
 have c3:¬ ((most:Int)<0):=by omega
 have c4:((q:Int) == 0)=false:=by simp; omega
 have c5:((most:Int) == 0)=false:=by simp; omega
 have c6:(q:Int) > 1:=by omega
 go_enter Tryz.func148, Tryz.ntmps148
 go_wp2
 go_loopg [1,8] k (fun gg kv ov wx=>∃ j o:Nat,kv=.int .i64 ((k - j:Nat):Int)/\ov=.int .i64 (o:Nat)/\j<=k/\k<=j+gg/\Hid (o=q ^ j)/\o<=most/\Below w.heap.size w wx)
 case atStart=>exact ⟨0,1,by rw [Nat.sub_zero],rfl,by omega,by omega,rfl,by omega,Below.refl _ _⟩
 obtain ⟨j,o,rfl,rfl,hj,p,HO,g,hB⟩:=hrel
 obtain ⟨r,hr⟩:=exx (k - j)
 rw [<-hr]
 have HR:=hid hr
 clear hr
 by_cases hlt:0<r
 rotate_left
 ·have a:¬ (r:Int) > 0:=by omega
  have c:Hid (q ^ k=o):=by
   have h0:=HR.out
   obtain rfl:j=k:=by omega
   exact HO.out.symm
  obtain rfl:r=0:=by omega
  go_wp2
  go_ret2
  exact ⟨.inl ⟨by rw [c.out]; exact g,by rw [c.out]; rfl⟩,hB⟩
 have a:(r:Int) > 0:=by omega
 have h0:=HR.out
 obtain ⟨d,hd⟩:=exx (most / q)
 have e0:(most:Int) / (q:Int)=(d:Int):=by rw [hd]; rfl
 have s:d<=most:=by rw [hd]; exact Nat.div_le_self _ _
 have HD:=hid hd
 have u:0<=(most:Int) / (q:Int):=by rw [e0]; omega
 have t:(most:Int) / (q:Int)<=1048576:=by rw [e0]; omega
 clear hd
 have l:¬ (q:Int)=0:=by omega
 by_cases hb:d<o
 ·have h:(o:Int) > (most:Int) / (q:Int):=by rw [e0]; omega
  have b:Hid (most<q ^ k):=by
   have h1:most<o*q:=(Nat.div_lt_iff_lt_mul (by omega)).1 (HD.out ▸ hb)
   have h2:q ^ (j+1)<=q ^ k:=Nat.pow_le_pow_right (by omega) (by omega)
   have h3:=HO.out
   show most<q ^ k
   rw [Nat.pow_succ,<-h3] at h2
   omega
  clear hb h0 e0
  go_wp2
  go_ret2
  exact ⟨.inr ⟨b.out,rfl⟩,hB⟩
 have h:¬ (o:Int) > (most:Int) / (q:Int):=by rw [e0]; omega
 have e:o*q<=most:=by
  have h1:o<=most / q:=HD.out ▸ Nat.le_of_not_lt hb
  exact (Nat.le_div_iff_mul_le (by omega)).1 h1
 have i:Hid (o*q=q ^ (j+1)):=by show _=_; rw [Nat.pow_succ,<-HO.out]
 have e2:(o:Int)*(q:Int)=((o*q:Nat):Int):=by push_cast; rfl
 have n:0<=(o:Int)*(q:Int):=by rw [e2]; omega
 have m:(o:Int)*(q:Int)<=1048576:=by rw [e2]; omega
 clear hb e0 e2
 go_wp2
 go_roundg (gk - 1)
 case measure=>omega
 case rel=>exact ⟨j+1,o*q,by congr 1; omega,by push_cast; go_num,by omega,by omega,i,e,hB⟩
def fE (u:Nat->Nat):Nat->Int
 | 0 => -1
 | n+1=>if u n=0 then fE u n else if fE u n<0 then (n:Int) else fE u n
def lE (u:Nat->Nat):Nat->Int
 | 0 => -1
 | n+1=>if u n=0 then lE u n else (n:Int)
section
variable {u u':Nat->Nat}
theorem zkg:∀ n,-1<=fE u n/\fE u n<(n:Int)
 | 0=>by show (-1:Int) <= -1/\(-1:Int)<0; omega
 | n+1=>by
  have h:=zkg n
  show -1<=(if u n=0 then fE u n else if fE u n<0 then (n:Int) else fE u n)/\(if u n=0 then fE u n else if fE u n<0 then (n:Int) else fE u n)<((n+1:Nat):Int)
  split
  ·omega
  ·split <;> omega
theorem zjK:∀ n,-1<=lE u n/\lE u n<(n:Int)
 | 0=>by show (-1:Int) <= -1/\(-1:Int)<0; omega
 | n+1=>by
  have h:=zjK n
  show -1<=(if u n=0 then lE u n else (n:Int))/\(if u n=0 then lE u n else (n:Int))<((n+1:Nat):Int)
  split <;> omega
theorem zj7:∀ n j,j<n->u j≠0->(j:Int)<=lE u n
 | 0,_,h,_=>absurd h (by omega)
 | n + 1, j, h, hu => by
  show (j:Int)<=if u n=0 then lE u n else (n:Int)
  split
  ·rename_i h0
   have:j≠n:=fun e=>hu (by rw [e]; exact h0)
   exact zj7 n j (by omega) hu
  ·omega
theorem zj8:∀ n t:Nat,lE u n=(t:Int)->t<n/\u t≠0
 | 0,t,h=>by
  have h:(-1:Int)=t:=h
  omega
 | n + 1, t, h => by
  have h:(if u n=0 then lE u n else (n:Int))=t:=h
  by_cases h0:u n=0
  ·rw [if_pos h0] at h
   have:=zj8 n t h
   exact ⟨by omega,this.2⟩
  ·rw [if_neg h0] at h
   obtain rfl:n=t:=by omega
   exact ⟨by omega,h0⟩
theorem zgD:∀ n t:Nat,(∀ j,t<=j->j<n->u j=0)->lE u n<(t:Int)
 | 0,t,_=>by show (-1:Int)<t; omega
 | n + 1, t, h => by
  show (if u n=0 then lE u n else (n:Int))<t
  by_cases h0:u n=0
  ·rw [if_pos h0]
   exact zgD n t fun j h1 h2=>h j h1 (by omega)
  ·rw [if_neg h0]
   by_cases e:t<=n
   ·exact absurd (h n e (by omega)) h0
   ·omega
theorem zcF {n:Nat} {j:Nat} (hj:j<n) (h:lE u n<(j:Int)):u j=0:=by
 by_cases e:u j=0
 ·exact e
 ·have:=zj7 n j hj e
  omega
theorem zke:∀ n p,p<n->u p≠0->(∀ j,j<p->u j=0)->fE u n=(p:Int)
 | 0,_,h,_,_=>absurd h (by omega)
 | n + 1, p, h, hp, h0 => by
  show (if u n=0 then fE u n else if fE u n<0 then (n:Int) else fE u n)=p
  have hz:∀ m,(∀ j,j<m->u j=0)->fE u m<0:=by
   intro m
   induction m with
   | zero=>intro _; show (-1:Int)<0; omega
   | succ m ih =>
    intro h
    show (if u m=0 then fE u m else _)<0
    rw [if_pos (h m (by omega))]
    exact ih fun j hj=>h j (by omega)
  by_cases e:p=n
  ·subst e
   rw [if_neg hp,if_pos (hz p h0)]
  ·have ih:=zke n p (by omega) hp h0
   rw [ih]
   split
   ·rfl
   ·rw [if_neg (by omega)]
end
structure SpanF (q n N:Nat) (pv:Nat->Nat) (R:Nat->Nat->Nat):Prop where
 lt:∀ i,i<n->∀ j,j<N->R i j<q
 inc:∀ s t,s<t->t<n->pv s<pv t
 pvlt:∀ s,s<n->pv s<N
 one:∀ s,s<n->R s (pv s)=1
 low:∀ s,s<n->∀ j,j<pv s->R s j=0
def mesL (R:Nat->Nat->Nat) (N:Nat):Nat->Nat
 | 0=>0
 | n+1=>mesL R N n+(lE (R n) N+1).toNat
theorem ziu {R:Nat->Nat->Nat} {N:Nat}:∀ n,mesL R N n<=n*N
 | 0=>by show 0<=_; omega
 | n+1=>by
  have h1:=ziu (R:=R) (N:=N) n
  have h2:=zjK (u:=R n) N
  show mesL R N n+(lE (R n) N+1).toNat<=(n+1)*N
  rw [Nat.add_mul,Nat.one_mul]
  omega
theorem zgE {R R':Nat->Nat->Nat} {N i:Nat} (h:∀ u,u≠i->R' u=R u):∀ n,n<=i->mesL R' N n=mesL R N n
 | 0,_=>rfl
 | n+1,hn=>by
  show mesL R' N n+(lE (R' n) N+1).toNat=mesL R N n+(lE (R n) N+1).toNat
  rw [zgE h n (by omega),h n (by omega)]
theorem ziv {R R':Nat->Nat->Nat} {N i:Nat} (h:∀ u,u≠i->R' u=R u) (hl:lE (R' i) N<lE (R i) N):∀ n,i<n->mesL R' N n<mesL R N n
 | 0,hi=>absurd hi (by omega)
 | n + 1, hi => by
  show mesL R' N n+(lE (R' n) N+1).toNat<mesL R N n+(lE (R n) N+1).toNat
  have h1:=zjK (u:=R' n) N
  have h2:=zjK (u:=R n) N
  by_cases e:i=n
  ·subst e
   rw [zgE h i (Nat.le_refl _)]
   omega
  ·have ih:=ziv h hl n (by omega)
   rw [h n (by omega)]
   omega
section
variable {q n N:Nat} {add mul:Nat->Nat->Nat} {neg:Nat->Nat} {pv:Nat->Nat} {R:Nat->Nat->Nat}
theorem EchN.spanF {V:Nat->Nat->Nat} (h:EchN q n N N n pv V):SpanF q n N pv V:=⟨h.lt,h.inc,h.pvlt,h.one,h.lead⟩
theorem SpanF.pos (h:SpanF q n N pv R) {i:Nat} (hi:i<n):(pv i:Int)<=lE (R i) N:=zj7 N _ (h.pvlt i hi) (by rw [h.one i hi]; omega)
theorem SpanF.first (h:SpanF q n N pv R) {i:Nat} (hi:i<n):fE (R i) N=(pv i:Int):=zke N _ (h.pvlt i hi) (by rw [h.one i hi]; omega) (h.low i hi)
theorem zi1 (hL:FieldLaws q add mul) (hneg:∀ x,x<q->neg x<q/\add x (neg x)=0) {a b:Nat} (ha:a<q) (hb:b<q):neg (mul a b)=mul (neg a) b:=by
 have h1:=hneg (mul a b) (hL.mulLt _ _)
 have h2:=hneg a ha
 refine zgB hL h1.1 (hL.mulLt _ _) (hL.mulLt a b) ?_ ?_
 ·rw [hL.addComm]; exact h1.2
 ·rw [hL.mulComm (neg a) b h2.1 hb,hL.mulComm a b ha hb,<-hL.distrib b _ _ hb h2.1 ha,hL.addComm (neg a) a,h2.2,hL.mulZero hb]
theorem SpanF.step (hL:FieldLaws q add mul) (hneg:∀ x,x<q->neg x<q/\add x (neg x)=0) (h:SpanF q n N pv R) {i j t a:Nat} (hij:i<j) (hj:j<n) (h1:lE (R i) N=(t:Int)) (h2:lE (R j) N=(t:Int)) (ha:a<q) (hat:mul a (R j t)=R i t)
  {R':Nat->Nat->Nat} (e1:∀ k,k<N->R' i k=add (R i k) (neg (mul a (R j k)))) (e2:∀ u,u≠i->R' u=R u) :
  SpanF q n N pv R'/\SameSp q add mul N n n R R'/\lE (R' i) N<(t:Int):=by
 have c:i<n:=by omega
 have hR:=h.lt
 have d:neg 0=0:=by
  have:=hneg 0 (by have:=hL.two; omega)
  exact (hL.zeroAdd _ this.1).symm.trans this.2
 have f:∀ u,u<n->∀ k,k<N->R' u k<q:=fun u hu k hk=>by
  by_cases e:u=i
  ·rw [e,e1 k hk]; exact hL.addLt _ _
  ·rw [e2 u e]; exact hR u hu k hk
 have b:∀ k,k<N->R j k=0->R' i k=R i k:=fun k hk hz=>by
  rw [e1 k hk,hz,hL.mulZero ha,d,hL.addZero (hR i c k hk)]
 have hp:pv i<pv j:=h.inc i j hij hj
 refine ⟨⟨f,h.inc,h.pvlt,fun s hs=>?_,fun s hs k hk=>?_⟩,?_,?_⟩
 ·by_cases e:s=i
  ·subst e
   rw [b _ (h.pvlt s hs) (h.low j hj _ hp)]
   exact h.one s hs
  ·rw [e2 s e]; exact h.one s hs
 ·by_cases e:s=i
  ·subst e
   have:=h.pvlt s hs
   rw [b k (by omega) (h.low j hj k (by omega))]
   exact h.low s hs k hk
  ·rw [e2 s e]; exact h.low s hs k hk
 ·have ho:RowOps q add mul n N R R':=.eq (.add (.refl (V:=R)) c hj (by omega) (hneg a ha).1) fun u hu k hk=>by
   by_cases e:u=i
   ·subst e
    rw [if_pos rfl,e1 k hk,zi1 hL hneg ha (hR j hj k hk)]
   ·rw [if_neg e,e2 u e]
  exact (RowOps.sp hL hR ho).1
 refine zgD N t fun k hk hkN=>?_
 by_cases e:k=t
 ·subst e
  rw [e1 k hkN,hat]
  exact (hneg _ (hR i c k hkN)).2
 ·rw [e1 k hkN,zcF (u:=R i) hkN (by omega),zcF (u:=R j) hkN (by omega),hL.mulZero ha,d,hL.addZero (by have:=hL.two; omega)]
end
theorem zdD {w:World} {b n:Nat} {t:TypeId} {f:Nat->Value} (h:w.rowIs b t n f) (hf:∀ i,i<n->∀ u,f i≠.int .u32 u):NoInt w b:=fun j u hj=>by
 obtain ⟨cur,hg,hsz,hc⟩:=h
 rw [cell_of_row w b j cur t (0,0) hg] at hj
 have hlt:j<n:=by
  have:=(Array.getElem?_eq_some_iff.1 hj).1
  omega
 have:=hc j hlt
 rw [hj] at this
 injection this with this
 exact hf j hlt u this.symm
theorem zi2 {w w':World} {b:Nat} (h:NoInt w b) (hb:Below w.heap.size w w') (hl:b<w.heap.size):NoInt w' b:=fun j n hj=>h j n (by rw [<-hb.cell (p:=⟨b,j,none⟩) hl]; exact hj)
theorem zeB {w:World} {B n b i:Nat} {A:Option Addr} {f:Nat->Nat} (h:Lims w B A n f) (hni:NoInt w b) (u:Value):Lims (w.setCell ⟨b,i,none⟩ u) B A n f:=fun k hk=>by
 obtain ⟨b',o',e,h1,h2⟩:=h k hk
 refine ⟨b',o',e,h1,fun j hj=>?_⟩
 have hc:=h2 j hj
 exact zaa hc fun e=>hni _ _ (by rw [<-show b'=b from e]; exact hc)
theorem zaT {w:World} {b i x:Nat} {A:Option Addr} (h:NatOk w w.heap.size A x) (hni:NoInt w b) (u:Value):NatOk (w.setCell ⟨b,i,none⟩ u) (w.setCell ⟨b,i,none⟩ u).heap.size A x:=by
 have:=zeB (i:=i) h hni u
 simpa [NatOk] using this
theorem zaD {w:World} {b i b':Nat} {u:Value} (h:NoInt w b) (hu:∀ n,u≠.int .u32 n):NoInt (w.setCell ⟨b',i,none⟩ u) b:=fun j n hj=>by
 by_cases e:(⟨b,j,none⟩:Addr)=⟨b',i,none⟩
 rotate_left
 ·exact h j n (by rwa [World.cell?_setCell_other w ⟨b',i,none⟩ ⟨b,j,none⟩ u (fun h=>e h.symm)] at hj)
 injection e with e1 e2
 subst e1 e2
 cases hc:w.cell? ⟨b,j,none⟩ with
 | none =>
  have:(w.setCell ⟨b,j,none⟩ u).cell? ⟨b,j,none⟩=none:=by
   revert hc
   unfold World.cell? World.setCell
   intro hc
   simp only [Option.isSome_none,Bool.false_eq_true,if_false] at hc ⊢
   split at hc
   ·rename_i c e fr hb
    have hb:w.heap[b]?=some (.cells c e fr):=hb
    have a:(w.heap.modify b fun
      | .cells c e fr=>.cells (c.setIfInBounds j u) e fr
      | o=>o)[b]?=some (.cells (c.setIfInBounds j u) e fr):=by
     rw [Array.getElem?_modify]; simp [hb]
    simp only [Array.getElem?_eq_none_iff] at hc
    simp [Array.getElem?_modify,hb]
    omega
   ·rename_i hne
    cases ho:w.heap[b]? with
    | none=>simp [Array.getElem?_modify,ho]
    | some o =>
     cases o with
     | cells c e fr=>exact absurd ho (hne _ _ _)
     | _=>simp [Array.getElem?_modify,ho]
  rw [this] at hj
  cases hj
 | some v =>
  rw [zcg hc] at hj
  injection hj with hj
  exact hu _ hj
section
variable {w w':World} {g base m:Nat} {F:Nat->Value} {n n':Nat->Nat} {x x':Nat->Nat->Nat}
theorem NatOwn.congr {v:Value} {k:Nat} {y y':Nat->Nat} (h:NatOwn w base v k y) (e:∀ i,i<k->y i=y' i):NatOwn w base v k y':=by
 obtain ⟨f,h1,h2,h3⟩:=h
 exact ⟨f,h1,h2,fun i hi=>by rw [<-e i hi]; exact h3 i hi⟩
theorem NatOwn.isSlice {v:Value} {k:Nat} {y:Nat->Nat} (h:NatOwn w base v k y):∃ A c,v=.slice A k c:=by
 obtain ⟨f,h1,_⟩:=h
 exact h1.shape
theorem zfG {row:Option Nat} {A:Option Addr} {y:Nat} (h:NatOk w w.heap.size A y) (hg:w.grownBy w' row) (hni:∀ q,row=some q->NoInt w q):NatOk w' w'.heap.size A y:=fun q hq=>by
 obtain ⟨b',o',e,h1,h2⟩:=zfx h (Nat.le_refl _) hg hni q hq
 exact ⟨b',o',e,Nat.lt_of_lt_of_le h1 hg.size,h2⟩
end
def Cost (a:Int):Prop:=0<=a/\a<=4611686018427387904
def capI (a b:Int):Int:=if 4611686018427387904<a+b then 4611686018427387904 else a+b
theorem ze8 {a b:Int} (ha:Cost a) (hb:Cost b):Cost (capI a b):=by
 unfold Cost capI at *
 split <;> omega
theorem zgF {a b:Int} (h:a+b<=4611686018427387904):capI a b=a+b:=if_neg (by omega)
theorem zi3 {a b:Int} (ha:Cost a) (hb:Cost b):Cost (min a b):=by
 unfold Cost at *
 omega
theorem zdE (a:Int) (w:World) (ha:Cost a):Calls Tryz.prog 180 #[.int .i64 a] w fun e w'=>e=.returned (.int .i64 a)/\Below w.heap.size w w':=by
 unfold Cost at ha
 have h1:max a 0=a:=by omega
 have h2:min a 4611686018427387904=a:=by omega
 go_enter Tryz.func180, Tryz.ntmps180
 go_wp2
 go_ret
 exact ⟨by first | rfl | (simp only [h1,h2]) | (rw [h1,h2]),Below.refl _ _⟩
theorem zgG (a b:Int) (w:World) (ha:Cost a) (hb:Cost b):Calls Tryz.prog 294 #[.int .i64 a,.int .i64 b] w fun e w'=>e=.returned (.int .i64 (capI a b))/\Below w.heap.size w w':=by
 unfold Cost at ha hb
 have hw:IntKind.i64.wrap (4611686018427387904 - b)=4611686018427387904 - b:=IntWalk.i64_in _ (by omega)
 go_enter Tryz.func294, Tryz.ntmps294
 by_cases h:4611686018427387904<a+b
 ·have hd:¬ a<=4611686018427387904 - b:=by omega
  have d:4611686018427387904 - b<a:=by omega
  have hc:=hid (show capI a b=4611686018427387904 from if_pos h)
  clear h
  go_wp2
  go_ret
  exact ⟨by rw [hc.out]; rfl,Below.refl _ _⟩
 have hd:a<=4611686018427387904 - b:=by omega
 have d:¬ 4611686018427387904 - b<a:=by omega
 have c:IntKind.i64.wrap (a+b)=a+b:=IntWalk.i64_in _ (by omega)
 have hc:=hid (show capI a b=a+b from if_neg h)
 clear h
 go_wp2
 go_ret
 exact ⟨by rw [hc.out]; first | rfl | (rw [c]; rfl),Below.refl _ _⟩
theorem zd3 (w:World):Calls Tryz.prog 119 #[.agg #[]] w fun e w'=>e=.returned (.int .i64 4611686018427387904)/\Below w.heap.size w w':=by
 go_enter Tryz.func119, Tryz.ntmps119
 go_wp2
 go_ret
 exact ⟨rfl,(Below.refl _ _).alloc (Nat.le_refl _) _⟩
theorem zhN (w:World):Calls Tryz.prog 293 #[.agg #[]] w fun e w'=>e=.returned (.int .i64 0)/\Below w.heap.size w w':=by
 go_enter Tryz.func293, Tryz.ntmps293
 go_wp2
 go_ret
 exact ⟨rfl,(Below.refl _ _).alloc (Nat.le_refl _) _⟩
theorem zhO (a b:Int) (w:World) (ha:Cost a) (hb:Cost b):Calls Tryz.prog 120 #[.agg #[],.int .i64 a,.int .i64 b] w fun e w'=>e=.returned (.int .i64 (min a b))/\Below w.heap.size w w':=by
 have g:=aly w (Obj.cells #[] 158)
 have HA:=hid ha
 have HB:=hid hb
 clear ha hb
 go_enter Tryz.func120, Tryz.ntmps120
 go_wp2_with fail
 refine (zdE a _ HA.out).mono ?_
 rintro e w1 ⟨rfl,hb⟩
 have d:=onS g hb
 clear hb g
 go_wp2_with fail
 refine (zdE b _ HB.out).mono ?_
 rintro e w2 ⟨rfl,hb⟩
 have c:=onS d hb
 clear hb d
 by_cases h:a<=b
 ·have h2:¬ b<a:=by omega
  have hm:=hid (show min a b=a by omega)
  go_wp2
  go_ret
  exact ⟨by rw [hm.out]; rfl,c⟩
 have h2:b<a:=by omega
 have hm:=hid (show min a b=b by omega)
 go_wp2
 go_ret
 exact ⟨by rw [hm.out]; rfl,c⟩
theorem ze9 (a b:Int) (w:World) (ha:Cost a) (hb:Cost b):Calls Tryz.prog 292 #[.agg #[],.int .i64 a,.int .i64 b] w fun e w'=>e=.returned (.int .i64 (capI a b))/\Below w.heap.size w w':=by
 have g:=aly w (Obj.cells #[] 158)
 have HA:=hid ha
 have HB:=hid hb
 clear ha hb
 go_enter Tryz.func292, Tryz.ntmps292
 go_wp2_with fail
 refine (zdE a _ HA.out).mono ?_
 rintro e w1 ⟨rfl,hb⟩
 have d:=onS g hb
 clear hb g
 go_wp2_with fail
 refine (zdE b _ HB.out).mono ?_
 rintro e w2 ⟨rfl,hb⟩
 have c:=onS d hb
 clear hb d
 go_wp2_with fail
 refine (zgG a b _ HA.out HB.out).mono ?_
 rintro e w3 ⟨rfl,hb⟩
 have h:=onS c hb
 clear hb c
 obtain ⟨x,hx⟩:=exx (capI a b)
 have HX:=hid hx
 rw [<-hx];clear hx
 go_wp2
 go_ret
 exact ⟨by rw [<-HX.out]; rfl,h⟩
structure Trel where
 nw:Nat
 W:Nat->Int
 n:Nat
 el:Nat->Nat
 fr:Nat->Nat->Int
 lb:Nat->Nat->Int
 «to»:Nat->Nat->Int
def Trel.edge (T:Trel) (i j k:Nat):Value:=if k=0 then .int .i64 (T.fr i j) else if k=1 then .int .i64 (T.lb i j) else .int .i64 (T.to i j)
def InI64 (x:Int):Prop := -9223372036854775808<=x/\x<=9223372036854775807
def Trel.Secs (T:Trel) (w:World) (B:Option Addr):Prop :=
 ∀ i,i<T.n->∃ b off E c,B=some ⟨b,off,none⟩/\b<w.heap.size/\w.cell? ⟨b,off+i,none⟩=some (.slice E (T.el i) c)/\T.el i<=c/\c<=maxLen/\Rd w w.heap.size E (T.el i) 3 (T.edge i) /\
  ∀ j,j<T.el i->InI64 (T.fr i j)/\InI64 (T.lb i j)/\InI64 (T.to i j)
def Trel.Reads (T:Trel) (w:World) (A B:Option Addr):Prop :=
 IntsR w w.heap.size A T.nw T.W/\(∀ i,i<T.nw->InI64 (T.W i))/\T.Secs w B/\T.nw<=140737488351232/\T.n<=140737488351232/\∀ i,i<T.n->T.el i<=140737488351232
section
variable {T:Trel} {w w':World} {A B:Option Addr}
theorem Trel.Secs.on (h:T.Secs w B) (hb:Below w.heap.size w w'):T.Secs w' B:=fun i hi=>by
 obtain ⟨b,off,E,c,e,h1,h2,h3,h4,h5,h6⟩:=h i hi
 exact ⟨b,off,E,c,e,Nat.lt_of_lt_of_le h1 hb.size,(hb.cell (p:=⟨b,_,none⟩) h1).trans h2,h3,h4,(Rd.below h5 hb (Nat.le_refl _)).mono hb.size,h6⟩
theorem Trel.Reads.on (h:T.Reads w A B) (hb:Below w.heap.size w w'):T.Reads w' A B:=⟨h.1.on hb,h.2.1,h.2.2.1.on hb,h.2.2.2⟩
theorem Trel.Reads.width (h:T.Reads w A B) {i:Nat} (hi:i<T.nw):∃ b off,A=some ⟨b,off,none⟩/\b<w.heap.size/\w.cell? ⟨b,off+i,none⟩=some (.int .i64 (T.W i))/\InI64 (T.W i):=by
 obtain ⟨b,off,e,h1,h2⟩:=h.1.at hi
 exact ⟨b,off,e,h1,h2,h.2.1 i hi⟩
theorem Trel.Reads.sec (h:T.Reads w A B) {i:Nat} (hi:i<T.n):∃ b off E c,B=some ⟨b,off,none⟩/\b<w.heap.size/\w.cell? ⟨b,off+i,none⟩=some (.slice E (T.el i) c)/\T.el i<=c/\c<=maxLen/\Rd w w.heap.size E (T.el i) 3 (T.edge i) /\
  ∀ j,j<T.el i->InI64 (T.fr i j)/\InI64 (T.lb i j)/\InI64 (T.to i j):=h.2.2.1 i hi
theorem zbt {E:Option Addr} {i j m:Nat} (h:Rd w w.heap.size E m 3 (T.edge i)) (hj:j<m) :
  ∃ b off,E=some ⟨b,off,none⟩/\b<w.heap.size/\w.cell? ⟨b,off+j*3,none⟩=some (.int .i64 (T.fr i j))/\w.cell? ⟨b,off+j*3+1,none⟩=some (.int .i64 (T.lb i j))/\w.cell? ⟨b,off+j*3+2,none⟩=some (.int .i64 (T.to i j)):=Rd.at3 h hj
end
def Trel.sumW (T:Trel):Nat->Int
 | 0=>0
 | k+1=>T.sumW k+T.W k
def Trel.sumE (T:Trel):Nat->Nat
 | 0=>0
 | k+1=>T.sumE k+T.el k
def Trel.inside (T:Trel) (i j:Nat):Prop:=0<=T.fr i j/\T.fr i j<T.W i/\0<=T.to i j/\T.to i j<T.W (i+1)
instance (T:Trel) (i j:Nat):Decidable (T.inside i j):=by unfold Trel.inside; exact inferInstance
def Trel.shapeE (T:Trel):Int :=
 if 64<T.n∨T.nw≠T.n+1 then 3
 else if ¬ ∀ i,i<T.nw->1<=T.W i then 6
 else if 65536<T.sumW T.nw then 8
 else if 262144<T.sumE T.n then 8
 else if ¬ ∀ i,i<T.n->∀ j,j<T.el i->T.inside i j then 6
 else 0
structure Trel.Shape (T:Trel):Prop where
 n64:T.n<=64
 nw:T.nw=T.n+1
 w1:∀ i,i<=T.n->1<=T.W i
 sW:T.sumW (T.n+1)<=65536
 sE:T.sumE T.n<=262144
 ins:∀ i,i<T.n->∀ j,j<T.el i->T.inside i j
theorem Trel.shape_of {T:Trel} (h:T.shapeE=0):T.Shape:=by
 unfold Trel.shapeE at h
 by_cases h1:64<T.n∨T.nw≠T.n+1
 ·rw [if_pos h1] at h; omega
 rw [if_neg h1] at h
 by_cases h2:∀ i,i<T.nw->1<=T.W i
 rotate_left
 ·rw [if_pos h2] at h; omega
 rw [if_neg (by simpa using h2)] at h
 by_cases h3:65536<T.sumW T.nw
 ·rw [if_pos h3] at h; omega
 rw [if_neg h3] at h
 by_cases h4:262144<T.sumE T.n
 ·rw [if_pos h4] at h; omega
 rw [if_neg h4] at h
 by_cases h5:∀ i,i<T.n->∀ j,j<T.el i->T.inside i j
 ·have a:T.nw=T.n+1:=by omega
  exact ⟨by omega,a,fun i hi=>h2 i (by omega),by rw [<-a]; omega,by omega,h5⟩
 ·rw [if_pos h5] at h; omega
theorem Trel.sumW_mono {T:Trel} {m:Nat} (h:∀ i,i<m->1<=T.W i):∀ k d,k+d<=m->T.sumW k+d<=T.sumW (k+d):=by
 intro k d
 induction d with
 | zero=>intro _; simp
 | succ d ih =>
  intro hk
  have h1:=ih (by omega)
  have h2:=h (k+d) (by omega)
  show T.sumW k+((d+1:Nat):Int)<=T.sumW (k+d)+T.W (k+d)
  omega
theorem Trel.sumE_mono {T:Trel}:∀ k d,T.sumE k<=T.sumE (k+d):=by
 intro k d
 induction d with
 | zero=>exact Nat.le_refl _
 | succ d ih=>exact Nat.le_trans ih (Nat.le_add_right _ _)
theorem Trel.Shape.wid {T:Trel} (h:T.Shape) {i:Nat} (hi:i<=T.n):1<=T.W i/\T.W i<=65536:=by
 have h1:=h.w1 i hi
 have h2:=Trel.sumW_mono (m:=T.n+1) (fun i hi=>h.w1 i (by omega)) 0 i (by omega)
 have h3:=Trel.sumW_mono (m:=T.n+1) (fun i hi=>h.w1 i (by omega)) (i+1) (T.n - i) (by omega)
 rw [show i+1+(T.n - i)=T.n+1 by omega] at h3
 have h4:=h.sW
 have h5:T.sumW (i+1)=T.sumW i+T.W i:=rfl
 simp [Trel.sumW] at h2
 omega
theorem Trel.Shape.elb {T:Trel} (h:T.Shape) {i:Nat} (hi:i<T.n):T.el i<=262144:=by
 have h3:=Trel.sumE_mono (T:=T) (i+1) (T.n - (i+1))
 rw [show i+1+(T.n - (i+1))=T.n by omega] at h3
 have h4:=h.sE
 have h5:T.sumE (i+1)=T.sumE i+T.el i:=rfl
 omega
theorem tbox {w wr:World} {cs:Array Value} {X:TypeId} (h:Below (w.heap.size+1) (w.alloc (.cells cs X)) wr) {i:Nat} {v:Value} (hi:cs[i]?=some v):wr.cell? ⟨w.heap.size,i,none⟩=some v:=by
 rw [h.cell (by simp),World.cell?_alloc_at _ _ _ _ rfl]
 exact hi
theorem zax {w wr:World} {o:Obj} (h:Below (w.heap.size+1) (w.alloc o) wr):Below w.heap.size w wr:=((Below.refl _ _).alloc (Nat.le_refl _) _).trans (h.mono (by omega))
theorem zaV {w wr:World} {o:Obj} (h:Below (w.heap.size+1) (w.alloc o) wr):w.heap.size<wr.heap.size:=by have:=h.size; simp at this; omega
theorem zap {w wr w':World} {o:Obj} (h:Below (w.heap.size+1) (w.alloc o) wr) (hb:Below wr.heap.size wr w'):Below (w.heap.size+1) (w.alloc o) w':=h.trans (hb.mono (zaV h))
section
variable (T:Trel)
theorem Trel.shapeE_w (hs:¬ (64<T.n∨T.nw≠T.n+1)) {k:Nat} (hk:k<T.nw) (h:T.W k<1):T.shapeE=6:=by
 unfold Trel.shapeE
 rw [if_neg hs,if_pos fun h1=>by have:=h1 k hk; omega]
variable (hs:¬ (64<T.n∨T.nw≠T.n+1)) (h1:∀ i,i<T.nw->1<=T.W i)
include hs h1
theorem Trel.shapeE_big {k:Nat} (hk:k<=T.nw) (h:65536<T.sumW k):T.shapeE=8:=by
 have h2:=Trel.sumW_mono h1 k (T.nw - k) (by omega)
 rw [show k+(T.nw - k)=T.nw by omega] at h2
 unfold Trel.shapeE
 rw [if_neg hs,if_neg (by simpa using h1),if_pos (by omega)]
variable (h2:T.sumW T.nw<=65536)
include h2
theorem Trel.shapeE_bigE {k:Nat} (hk:k<=T.n) (h:262144<T.sumE k):T.shapeE=8:=by
 have h3:=Trel.sumE_mono (T:=T) k (T.n - k)
 rw [show k+(T.n - k)=T.n by omega] at h3
 unfold Trel.shapeE
 rw [if_neg hs,if_neg (by simpa using h1),if_neg (by omega),if_pos (by omega)]
variable (h3:T.sumE T.n<=262144)
include h3
theorem Trel.shapeE_in {i j:Nat} (hi:i<T.n) (hj:j<T.el i) (h:¬ T.inside i j):T.shapeE=6:=by
 unfold Trel.shapeE
 rw [if_neg hs,if_neg (by simpa using h1),if_neg (by omega),if_neg (by omega),if_pos fun h4=>h (h4 i hi j hj)]
theorem Trel.shapeE_ok (h:∀ i,i<T.n->∀ j,j<T.el i->T.inside i j):T.shapeE=0:=by
 unfold Trel.shapeE
 rw [if_neg hs,if_neg (by simpa using h1),if_neg (by omega),if_neg (by omega),if_neg fun h4=>h4 h]
end
theorem zcG (T:Trel) (A B:Option Addr) (c d:Nat) (w:World) (h:T.Reads w A B) :
  Calls Tryz.prog 161 #[.agg #[.slice A T.nw c,.slice B T.n d]] w fun e w'=>e=.returned (.int .i64 T.shapeE)/\Below w.heap.size w w':=by
 obtain ⟨RB,M⟩:=exx ((Obj.cells #[.slice A T.nw c,.slice B T.n d] 53))
 have a4:Below (w.heap.size+1) (w.alloc RB) (w.alloc RB):=Below.refl _ _
 have HS:Hid (∀ w',Below (w.heap.size+1) (w.alloc RB) w'->(w'.cell? ⟨w.heap.size,0,none⟩=some (.slice A T.nw c)/\w'.cell? ⟨w.heap.size,1,none⟩=some (.slice B T.n d))/\Below w.heap.size w w'):=fun w' hB=>by
  have ai:=zax hB
  subst M
  exact ⟨⟨tbox hB rfl,tbox hB rfl⟩,ai⟩
 obtain ⟨⟨p0,p1⟩,hW⟩:=HS.out _ a4
 have an:=h.2.2.2
 by_cases hs:64<T.n∨T.nw≠T.n+1
 ·have hE:Hid (T.shapeE=3):=by show _=_; unfold Trel.shapeE; rw [if_pos hs]
  go_enter Tryz.func161, Tryz.ntmps161
  by_cases aj:64<T.n
  ·have N:(T.n:Int) > 64:=by omega
   clear hs
   go_wp2_with fail
   rw [<-M]
   go_wp2
   go_ret
   exact ⟨zas hE.out.symm,hW⟩
  have N:¬ (T.n:Int) > 64:=by omega
  have ae:((T.nw:Int) != (T.n:Int)+1)=true:=by simp; omega
  clear hs
  go_wp2_with fail
  rw [<-M]
  go_wp2
  go_ret
  exact ⟨zas hE.out.symm,hW⟩
 have aj:T.n<=64:=by omega
 have Z:T.nw=T.n+1:=by omega
 have O:=hid hs
 have V:=hid Z
 have N:¬ (T.n:Int) > 64:=by omega
 have ae:((T.nw:Int) != (T.n:Int)+1)=false:=by simp; omega
 have ad:((T.nw:Int) == (T.n:Int)+1)=true:=by simp; omega
 clear hs Z
 go_enter Tryz.func161, Tryz.ntmps161
 go_wp2_with fail
 rw [<-M]
 have HR:=hid h
 clear h M
 go_wp2
 go_loopg [4,32] T.nw (fun gg xv iv wx=>∃ k:Nat,iv=.int .i64 (k:Nat)/\k<=T.nw/\T.nw<=k+gg/\(∀ i,i<k->1<=T.W i)/\Below (w.heap.size+1) (w.alloc RB) wx)
 case atStart=>exact ⟨0,rfl,by omega,by omega,fun i hi=>absurd hi (by omega),a4⟩
 obtain ⟨k,rfl,hk,F,l,hB⟩:=hrel
 have G:(0:Int)<=(k:Int):=by omega
 have HB:=hid hB
 have z:=zaV hB
 clear hW p0 p1 hB
 obtain ⟨⟨p0,p1⟩,hW⟩:=HS.out _ HB.out
 have s:=hid l
 clear l
 by_cases hlt:k<T.nw
 ·have a:(k:Int)<(T.nw:Int):=by omega
  obtain ⟨b,o,rfl,hb,x0,ac,ab⟩:=(HR.out.on hW).width hlt
  by_cases h1:T.W k<1
  ·have hE:=hid (T.shapeE_w O.out hlt h1)
   go_wp2
   go_ret
   exact ⟨zas hE.out.symm,hW⟩
  have HA:Hid (∀ i,i<k+1->1<=T.W i):=fun i hi=>by
   by_cases e:i=k
   ·subst e; omega
   ·exact s.out i (by omega)
  go_wp2
  go_roundg (gk - 1)
  case measure=>omega
  case rel=>exact ⟨k+1,by go_num,by omega,by omega,HA.out,HB.out⟩
 have a:¬ (k:Int)<(T.nw:Int):=by omega
 have HA:Hid (∀ i,i<T.nw->1<=T.W i):=fun i hi=>s.out i (by omega)
 have p:(k:Int)=(T.nw:Int):=by omega
 go_wp2
 go_loopg [5,8,42] T.nw (fun gg sv xv iv wx=>∃ k:Nat,iv=.int .i64 (k:Nat)/\k<=T.nw/\T.nw<=k+gg/\sv=.int .i64 (T.sumW k)/\T.sumW k<=65536/\Below (w.heap.size+1) (w.alloc RB) wx)
 case atStart=>exact ⟨0,rfl,by omega,by omega,rfl,by simp [Trel.sumW],HB.out⟩
 clear hW p0 p1 hlt a p z HB s hk G F
 obtain ⟨k2,rfl,hk,F,rfl,D,hB⟩:=hrel
 have G:(0:Int)<=(k2:Int):=by omega
 have HB:=hid hB
 have z:=zaV hB
 clear hB
 obtain ⟨⟨p0,p1⟩,hW⟩:=HS.out _ HB.out
 have Q:=Trel.sumW_mono (m:=T.nw) HA.out 0 k2 (by omega)
 simp only [Trel.sumW,Nat.zero_add] at Q
 have r:Hid (T.sumW (k2+1)=T.sumW k2+T.W k2):=rfl
 obtain ⟨sm,C⟩:=exx (T.sumW k2)
 rw [<-C] at Q D r;rw [<-C];clear C
 by_cases hlt:k2<T.nw
 ·have a:(k2:Int)<(T.nw:Int):=by omega
  obtain ⟨b,o,rfl,hb,x0,ac,ab⟩:=(HR.out.on hW).width hlt
  by_cases h1:T.W k2 > 65536 - sm
  ·have hE:=hid (T.shapeE_big O.out HA.out (k:=k2+1) (by omega) (by rw [r.out]; omega))
   go_wp2
   go_ret
   exact ⟨zas hE.out.symm,hW⟩
  go_wp2
  go_roundg (gk - 1)
  case measure=>omega
  case rel=>exact ⟨k2+1,by go_num,by omega,by omega,by rw [r.out],by rw [r.out]; omega,HB.out⟩
 have a:¬ (k2:Int)<(T.nw:Int):=by omega
 have p:k2=T.nw:=by omega
 have U:Hid (T.sumW T.nw<=65536):=by
  show _<=_
  rw [<-p]
  have:=r.out
  have e:T.sumW (k2+1)=T.sumW k2+T.W k2:=rfl
  omega
 clear p
 go_wp2
 go_loopg [6,10,57] T.n (fun gg sv xv iv wx=>∃ k:Nat,iv=.int .i64 (k:Nat)/\k<=T.n/\T.n<=k+gg/\sv=.int .i64 (T.sumE k:Nat)/\T.sumE k<=262144/\Below (w.heap.size+1) (w.alloc RB) wx)
 case atStart=>exact ⟨0,rfl,by omega,by omega,rfl,by simp [Trel.sumE],HB.out⟩
 clear hW p0 p1 hlt a z HB hk G F Q D r
 obtain ⟨k3,rfl,hk,F,rfl,D,hB⟩:=hrel
 have G:(0:Int)<=(k3:Int):=by omega
 have HB:=hid hB
 have z:=zaV hB
 clear hB
 obtain ⟨⟨p0,p1⟩,hW⟩:=HS.out _ HB.out
 have r:Hid (T.sumE (k3+1)=T.sumE k3+T.el k3):=rfl
 obtain ⟨sm,C⟩:=exx (T.sumE k3)
 have a5:=hid C
 rw [<-C] at D r;rw [<-C];clear C
 by_cases hlt:k3<T.n
 ·have a:(k3:Int)<(T.n:Int):=by omega
  obtain ⟨b,o,E,ec,rfl,hb,x0,a3,R,L,K⟩:=(HR.out.on hW).sec hlt
  unfold maxLen at R
  have J:=HR.out.2.2.2.2.2 k3 hlt
  obtain ⟨el,a2⟩:=exx (T.el k3)
  rw [<-a2] at x0 a3 r J;clear L K a2
  by_cases h1:sm+el > 262144
  ·have hE:=hid (T.shapeE_bigE O.out HA.out U.out (k:=k3+1) (by omega) (by rw [r.out]; omega))
   have ak:(sm:Int)+(el:Int) > 262144:=by omega
   go_wp2
   go_ret
   exact ⟨zas hE.out.symm,hW⟩
  have ak:¬ (sm:Int)+(el:Int) > 262144:=by omega
  go_wp2
  go_roundg (gk - 1)
  case measure=>omega
  case rel=>exact ⟨k3+1,by go_num,by omega,by omega,by rw [r.out]; go_num,by rw [r.out]; omega,HB.out⟩
 have a:¬ (k3:Int)<(T.n:Int):=by omega
 have p:k3=T.n:=by omega
 have a6:Hid (T.sumE T.n<=262144):=by
  show _<=_
  rw [<-p,<-a5.out]
  exact D
 clear p
 go_wp2
 go_loopg [11,12,71] T.n (fun gg xv yv iv wx=>∃ k:Nat,iv=.int .i64 (k:Nat)/\k<=T.n/\T.n<=k+gg/\(∀ i,i<k->∀ j,j<T.el i->T.inside i j)/\Below (w.heap.size+1) (w.alloc RB) wx)
 case atStart=>exact ⟨0,rfl,by omega,by omega,fun i hi=>absurd hi (by omega),HB.out⟩
 clear hW p0 p1 hlt a z HB hk G F D r a5
 obtain ⟨gK,ah⟩:=exx gk
 subst ah
 obtain ⟨k4,rfl,hk,F,l,hB⟩:=hrel
 have G:(0:Int)<=(k4:Int):=by omega
 have HB:=hid hB
 have z:=zaV hB
 clear hB
 obtain ⟨⟨p0,p1⟩,hW⟩:=HS.out _ HB.out
 have s:=hid l
 clear l
 by_cases hlt:k4<T.n
 rotate_left
 ·have a:¬ (k4:Int)<(T.n:Int):=by omega
  have hE:=hid (T.shapeE_ok O.out HA.out U.out a6.out fun i hi=>s.out i (by omega))
  go_wp2
  go_ret
  exact ⟨zas hE.out.symm,hW⟩
 have a:(k4:Int)<(T.n:Int):=by omega
 obtain ⟨b,o,E,ec,rfl,hb,x0,a3,R,L,K⟩:=(HR.out.on hW).sec hlt
 unfold maxLen at R
 have al:=hid x0
 go_wp2
 go_loopg [78] (T.el k4) (fun gg jv wx=>∃ j:Nat,jv=.int .i64 (j:Nat)/\j<=T.el k4/\T.el k4<=j+gg/\(∀ i,i<j->T.inside k4 i)/\Below (w.heap.size+1) (w.alloc RB) wx/\Below wr.heap.size wr wx)
 case atStart=>exact ⟨0,rfl,by omega,by omega,fun i hi=>absurd hi (by omega),HB.out,Below.refl _ _⟩
 clear hW p0 p1 z x0
 obtain ⟨j,rfl,hj,ap,l,hB,S⟩:=hrel
 have aq:(0:Int)<=(j:Int):=by omega
 have x0:=cellS S al.out
 have P:=hid S
 have X:=hid hB
 have z:=zaV hB
 clear hB S
 obtain ⟨⟨p0,p1⟩,hW⟩:=HS.out _ X.out
 have g:=hid l
 clear l
 by_cases hltj:j<T.el k4
 rotate_left
 ·have I:¬ (j:Int)<(T.el k4:Int):=by omega
  have HN:Hid (∀ i,i<k4+1->∀ j,j<T.el i->T.inside i j):=fun i hi=>by
   by_cases e:i=k4
   ·subst e; exact fun q hq=>g.out q (by omega)
   ·exact s.out i (by omega)
  clear L K
  go_wp2
  go_roundg (gK - 1)
  case measure=>omega
  case rel=>exact ⟨k4+1,by go_num,by omega,by omega,HN.out,X.out⟩
 have I:(j:Int)<(T.el k4:Int):=by omega
 obtain ⟨eb,eo,rfl,ar,e0,e1,e2⟩:=zbt ((Rd.below L P.out (Nat.le_refl _)).mono P.out.size) hltj
 obtain ⟨wb,wo,hA,am,y0,aa,a9⟩:=(HR.out.on hW).width (i:=k4) (by have:=V.out; omega)
 obtain ⟨_,_,H,_,y1,a8,a7⟩:=(HR.out.on hW).width (i:=k4+1) (by have:=V.out; omega)
 rw [hA] at H
 injection H with H; injection H with H hA3; subst H hA3
 subst hA
 have ao:k4+1<T.nw:=by have:=V.out; omega
 have ag:(k4:Int)+1<(T.nw:Int):=by omega
 have af:(k4:Int)<(T.nw:Int):=by omega
 obtain ⟨⟨i1,i2⟩,_,⟨i3,i4⟩⟩:=K j hltj
 have x:Hid (T.inside k4 j↔0<=T.fr k4 j/\T.fr k4 j<T.W k4/\0<=T.to k4 j/\T.to k4 j<T.W (k4+1)):=Iff.rfl
 have y:Hid (¬ T.inside k4 j->T.shapeE=6):=fun hb=>T.shapeE_in O.out HA.out U.out a6.out hlt hltj hb
 obtain ⟨fr,a1⟩:=exx (T.fr k4 j)
 obtain ⟨tq,Y⟩:=exx (T.to k4 j)
 obtain ⟨lb,a0⟩:=exx (T.lb k4 j)
 obtain ⟨u,hu⟩:=exx (T.W k4)
 obtain ⟨v,hv⟩:=exx (T.W (k4+1))
 rw [<-a1] at e0 x i1 i2;rw [<-a0] at e1;rw [<-Y] at e2 x i3 i4;rw [<-hu] at y0 x aa a9;rw [<-hv] at y1 x a8 a7;clear a1 Y a0 hu hv L K
 by_cases h1:fr<0
 ·clear g
  have b1:decide (fr<0)=true:=by simp; omega
  go_wp2
  go_quiet (fail)
  go_wp2
  go_ret
  exact ⟨zas (y.out fun hi=>by have:=x.out.1 hi; omega).symm,zac (hW.alloc (by omega) _) _⟩
 have b1:decide (fr<0)=false:=by simp; omega
 by_cases h2:fr ≥ u
 ·clear g
  have b2:decide (fr ≥ u)=true:=by simp; omega
  have b3:decide (u<=fr)=true:=by simp; omega
  go_wp2
  go_quiet (fail)
  go_wp2
  go_ret
  exact ⟨zas (y.out fun hi=>by have:=x.out.1 hi; omega).symm,zac (hW.alloc (by omega) _) _⟩
 have b2:decide (fr ≥ u)=false:=by simp; omega
 have b3:decide (u<=fr)=false:=by simp; omega
 by_cases h3:tq<0
 ·clear g
  have b4:decide (tq<0)=true:=by simp; omega
  go_wp2
  go_quiet (fail)
  go_wp2
  go_ret
  exact ⟨zas (y.out fun hi=>by have:=x.out.1 hi; omega).symm,zac (hW.alloc (by omega) _) _⟩
 have b4:decide (tq<0)=false:=by simp; omega
 by_cases h4:tq ≥ v
 ·clear g
  have b5:decide (tq ≥ v)=true:=by simp; omega
  have b6:decide (v<=tq)=true:=by simp; omega
  go_wp2
  go_quiet (fail)
  go_wp2
  go_ret
  exact ⟨zas (y.out fun hi=>by have:=x.out.1 hi; omega).symm,zac (hW.alloc (by omega) _) _⟩
 have b5:decide (tq ≥ v)=false:=by simp; omega
 have b6:decide (v<=tq)=false:=by simp; omega
 have HN:Hid (∀ i,i<j+1->T.inside k4 i):=fun i hi=>by
  by_cases e:i=j
  ·subst e; exact x.out.2 (by omega)
  ·exact g.out i (by omega)
 go_wp2
 go_quiet (fail)
 go_wp2
 go_roundg (gk - 1)
 case measure=>omega
 case rel=>exact ⟨j+1,by go_num,by omega,by omega,HN.out,zac (X.out.alloc (by omega) _) _,zac (P.out.alloc P.out.size _) _⟩
def cmpI (a b:Int):Int:=if a<b then -1 else if b<a then 1 else 0
theorem ziw (a b:Int) (w:World):Calls Tryz.prog 157 #[.int .i64 a,.int .i64 b] w fun e w'=>e=.returned (.int .i64 (cmpI a b))/\Below w.heap.size w w':=by
 have g:(a != a)=false:=by simp
 have c:(b != b)=false:=by simp
 by_cases h1:a<b
 ·have hE:Hid (cmpI a b = -1):=if_pos h1
  go_enter Tryz.func157, Tryz.ntmps157
  go_wp2
  go_ret
  exact ⟨zas hE.out.symm,Below.refl _ _⟩
 by_cases h2:b<a
 ·have hE:Hid (cmpI a b=1):=by show _=_; unfold cmpI; rw [if_neg h1,if_pos h2]
  have d:a > b:=h2
  go_enter Tryz.func157, Tryz.ntmps157
  go_wp2
  go_ret
  exact ⟨zas hE.out.symm,Below.refl _ _⟩
 have hE:Hid (cmpI a b=0):=by show _=_; unfold cmpI; rw [if_neg h1,if_neg h2]
 have d:¬ a > b:=h2
 go_enter Tryz.func157, Tryz.ntmps157
 go_wp2
 go_ret
 exact ⟨zas hE.out.symm,Below.refl _ _⟩
def orV (x y:Int):Int:=if x=0 then y else x
theorem zhP (A:Option Addr) (c:Nat) (f:Nat->Int) (w:World) (h:IntsR w w.heap.size A 2 f) :
  Calls Tryz.prog 203 #[.slice A 2 c] w fun e w'=>e=.returned (.int .i64 (orV (f 0) (f 1)))/\Below w.heap.size w w':=by
 obtain ⟨b,o,rfl,hb,x0⟩:=h.at (i:=0) (by omega)
 obtain ⟨_,_,e1,_,x1⟩:=h.at (i:=1) (by omega)
 injection e1 with e1; injection e1 with e1 e2; subst e1 e2
 obtain ⟨x,hx⟩:=exx (f 0)
 obtain ⟨y,hy⟩:=exx (f 1)
 rw [<-hx] at x0 ⊢;rw [<-hy] at x1 ⊢;clear hx hy h
 go_enter Tryz.func203, Tryz.ntmps203
 go_wp2
 go_loopg [5,8] 2 (fun gg ev iv wx=>∃ k:Nat,iv=.int .i64 (k:Nat)/\k<=2/\2<=k+gg/\(1<=k->x=0)/\(2<=k->y=0)/\Below w.heap.size w wx)
 case atStart=>exact ⟨0,rfl,by omega,by omega,fun h=>absurd h (by omega),fun h=>absurd h (by omega),Below.refl _ _⟩
 obtain ⟨k,rfl,hk,j,h1,h2,hB⟩:=hrel
 replace x0:=cellS hB x0;replace x1:=cellS hB x1
 have H1:=hid h1
 have H2:=hid h2
 clear h1 h2
 by_cases hk2:k=2
 ·have g:¬ (k:Int)<2:=by omega
  have hE:Hid (orV x y=0):=by
   show _=_
   unfold orV
   rw [if_pos (H1.out (by omega)),H2.out (by omega)]
  clear hk2
  go_wp2
  go_ret
  exact ⟨zas hE.out.symm,hB⟩
 have g:(k:Int)<2:=by omega
 have l:(0:Int)<=(k:Int):=by omega
 by_cases hk1:k=0
 ·have xk:wr.cell? ⟨b,o+k,none⟩=some (.int .i64 x):=by rw [hk1]; exact x0
  by_cases hx:x=0
  ·have d:(x != 0)=false:=by simp [hx]
   have a:(x == 0)=true:=by simp [hx]
   have HX:=hid hx
   have HK:=hid hk1
   clear hx x0 x1 hk1 hk2
   go_wp2
   go_roundg (gk - 1)
   case measure=>omega
   case rel=>exact ⟨k+1,by go_num,by omega,by omega,fun _=>HX.out,fun h=>absurd h (by have:=HK.out; omega),hB⟩
  have d:(x != 0)=true:=by simp [hx]
  have a:(x == 0)=false:=by simp [hx]
  have hE:Hid (orV x y=x):=if_neg hx
  clear hx x0 x1 hk1 hk2
  go_wp2
  go_ret
  exact ⟨zas hE.out.symm,hB⟩
 have xk:wr.cell? ⟨b,o+k,none⟩=some (.int .i64 y):=by rw [show k=1 by omega]; exact x1
 have hx:x=0:=H1.out (by omega)
 by_cases hy:y=0
 ·have d:(y != 0)=false:=by simp [hy]
  have a:(y == 0)=true:=by simp [hy]
  have HX:=hid hx
  have HY:=hid hy
  clear hx hy x0 x1 hk1 hk2
  go_wp2
  go_roundg (gk - 1)
  case measure=>omega
  case rel=>exact ⟨k+1,by go_num,by omega,by omega,fun _=>HX.out,fun _=>HY.out,hB⟩
 have d:(y != 0)=true:=by simp [hy]
 have a:(y == 0)=false:=by simp [hy]
 have hE:Hid (orV x y=y):=if_pos hx
 clear hx hy x0 x1 hk1 hk2
 go_wp2
 go_ret
 exact ⟨zas hE.out.symm,hB⟩
def lessV (f l f' l':Int):Int:=orV (cmpI f f') (cmpI l l')
theorem zbM {f l f' l':Int}:lessV f l f' l'<0↔f<f'∨f=f'/\l<l':=by
 unfold lessV orV cmpI
 split <;> split <;> (try split) <;> (try split) <;> omega
theorem zi4 (f l t f' l' t':Int) (w:World) :
  Calls Tryz.prog 151 #[.agg #[.int .i64 f,.int .i64 l,.int .i64 t],.agg #[.int .i64 f',.int .i64 l',.int .i64 t']] w fun e w'=>e=.returned (.int .i64 (lessV f l f' l'))/\Below w.heap.size w w':=by
 go_enter Tryz.func151, Tryz.ntmps151
 go_upto_region 1 with fail
 obtain ⟨B1,c⟩:=exx ((Obj.cells #[.int .i64 f,.int .i64 l,.int .i64 t] 90))
 obtain ⟨B2,b⟩:=exx ((Obj.cells #[.int .i64 f',.int .i64 l',.int .i64 t'] 90))
 rw [<-c,<-b]
 have a:Below (w.heap.size+1) (w.alloc B1) ((w.alloc B1).alloc B2):=(Below.refl _ _).alloc (by simp) _
 have hW:=zax a
 have p0:((w.alloc B1).alloc B2).cell? ⟨w.heap.size,0,none⟩=some (.int .i64 f):=by subst c; exact tbox a rfl
 have p1:((w.alloc B1).alloc B2).cell? ⟨w.heap.size,1,none⟩=some (.int .i64 l):=by subst c; exact tbox a rfl
 have p2:((w.alloc B1).alloc B2).cell? ⟨w.heap.size+1,0,none⟩=some (.int .i64 f'):=by subst b; simp
 have p3:((w.alloc B1).alloc B2).cell? ⟨w.heap.size+1,1,none⟩=some (.int .i64 l'):=by subst b; simp
 obtain ⟨w1,d⟩:∃ W,W=(w.alloc B1).alloc B2:=⟨_,rfl⟩
 rw [<-d] at hW p0 p1 p2 p3 ⊢;clear a d c b
 refine wp_region_held_drew (S:=fun w'=>w'.cell? ⟨w.heap.size,0,none⟩=some (.int .i64 f)/\w'.cell? ⟨w.heap.size,1,none⟩=some (.int .i64 l)/\w'.cell? ⟨w.heap.size+1,0,none⟩=some (.int .i64 f')/\w'.cell? ⟨w.heap.size+1,1,none⟩=some (.int .i64 l')) (by kernel_rfl) ⟨cellS (Below.refl _ _).drew p0,cellS (Below.refl _ _).drew p1,cellS (Below.refl _ _).drew p2,cellS (Below.refl _ _).drew p3⟩ (fun hHeld=>?_)
 obtain ⟨w2,hw,kb⟩:=dwx w1
 rw [<-hw] at hHeld ⊢;clear hw;replace hW:=onS hW kb;replace p0:=cellS kb p0;replace p1:=cellS kb p1;replace p2:=cellS kb p2;replace p3:=cellS kb p3;clear kb
 refine tkq 0 (h:=tkq 1 (h:=tkq 2 (h:=tkq 3 (h:=tkq 5 (h:=tkq 6 (h:=tkq 7 (h:=tkq 8 (h:=?_))))))))
 refine rdq 4 (h:=fun K hK=>?_)
 go_simp
 go_wp2_with fail
 refine (ziw f f' w2).mono ?_
 rintro e w3 ⟨rfl,kb⟩
 replace hW:=onS hW kb;replace p0:=cellS kb p0;replace p1:=cellS kb p1;replace p2:=cellS kb p2;replace p3:=cellS kb p3;clear kb
 refine bkq hK ⟨p0,p1,p2,p3⟩ (h:=fun hHeld=>?_)
 clear hK K
 refine rdq 9 (h:=fun K hK=>?_)
 go_simp
 go_wp2_with fail
 refine (ziw l l' w3).mono ?_
 rintro e w4 ⟨rfl,kb⟩
 replace hW:=onS hW kb;replace p0:=cellS kb p0;replace p1:=cellS kb p1;replace p2:=cellS kb p2;replace p3:=cellS kb p3;clear kb
 refine bkq hK ⟨p0,p1,p2,p3⟩ (h:=fun hHeld=>?_)
 clear hK K
 refine rdq 10 (h:=fun K hK=>?_)
 go_simp
 obtain ⟨w5,hw⟩:=exx (World.alloc w4 (Obj.cells #[.int .i64 (cmpI f f'),.int .i64 (cmpI l l')] 3))
 have kb:=alx hw
 have hi:IntsR w5 w5.heap.size (some ⟨w4.heap.size,0,none⟩) 2 (fun i=>if i=0 then cmpI f f' else cmpI l l'):=by
  rw [hw]
  intro i hi
  refine ⟨_,0,rfl,by simp,fun j hj=>?_⟩
  obtain rfl:j=0:=by omega
  match i,hi with
  | 0,_=>simp
  | 1,_=>simp
 rw [<-hw];clear hw
 obtain ⟨nb,g⟩:=exx w4.heap.size
 rw [<-g] at hi ⊢;clear g;replace hW:=onS hW kb;replace p0:=cellS kb p0;replace p1:=cellS kb p1;replace p2:=cellS kb p2;replace p3:=cellS kb p3;clear kb
 refine bkq hK ⟨p0,p1,p2,p3⟩ (h:=fun hHeld=>?_)
 clear hK K
 refine rdq 11 (h:=fun K hK=>?_)
 go_simp
 go_wp2_with fail
 refine ((show Calls _ _ _ _ (fun e w'=>e=.returned (.int .i64 (lessV f l f' l'))/\Below w5.heap.size w5 w') from zhP (some ⟨nb,0,none⟩) 2 _ w5 hi)).mono ?_
 rintro e w6 ⟨rfl,kb⟩
 replace hW:=onS hW kb;replace p0:=cellS kb p0;replace p1:=cellS kb p1;replace p2:=cellS kb p2;replace p3:=cellS kb p3;replace hi:=hi.on kb;clear kb
 refine bkq hK ⟨p0,p1,p2,p3⟩ (h:=fun hHeld=>?_)
 clear hK K
 refine tkq 12 (h:=?_)
 refine wpAnyH_done (by kernel_rfl) ?_ _
 clear hHeld
 go_wp2_with fail
 go_ret
 exact ⟨rfl,hW⟩
theorem zcH (A:Option Addr) (n c:Nat) (f:Nat->Bool) (v:Bool) (w:World) (h:Rd w w.heap.size A n 1 (fun i _=>.bool (f i))) (hn:n<=1048576) :
  Calls Tryz.prog 162 #[.slice A n c,.bool v] w fun e w'=>(∃ r:Bool,e=.returned (.bool r)/\(r=true↔∃ i,i<n/\f i=v))/\Below w.heap.size w w':=by
 have j:Calls Tryz.prog 212 #[.slice A n c,.bool v] w fun e w'=>(∃ r:Int,e=.returned (.int .i64 r)/\(0<=r↔∃ i,i<n/\f i=v))/\Below w.heap.size w w':=by
  go_enter Tryz.func212, Tryz.ntmps212
  go_wp2
  go_loopg [5,8] n (fun gg ev iv wx=>∃ k:Nat,iv=.int .i64 (k:Nat)/\k<=n/\n<=k+gg/\(∀ i,i<k->f i≠v)/\Below w.heap.size w wx)
  case atStart=>exact ⟨0,rfl,by omega,by omega,fun i hi=>absurd hi (by omega),Below.refl _ _⟩
  obtain ⟨k,rfl,hk,u,a,hB⟩:=hrel
  have p:(0:Int)<=(k:Int):=by omega
  have d:=hid a
  clear a
  by_cases hlt:k<n
  rotate_left
  ·have g:¬ (k:Int)<(n:Int):=by omega
   have l:Hid (¬ ∃ i,i<n/\f i=v):=fun ⟨i,hi,e⟩=>d.out i (by omega) e
   go_wp2
   go_ret
   exact ⟨⟨_,rfl,fun h=>absurd h (by omega),fun h=>absurd h l.out⟩,hB⟩
  have g:(k:Int)<(n:Int):=by omega
  obtain ⟨b,o,rfl,hb,x0⟩:=Rd.at1 ((Rd.below h hB (Nat.le_refl _)).mono hB.size) hlt
  obtain ⟨y,hy⟩:=exx (f k)
  rw [<-hy] at x0
  have HY:=hid hy
  clear hy
  by_cases he:v=y
  ·have s:(v == y)=true:=by simp [he]
   have q:Hid (∃ i,i<n/\f i=v):=⟨k,hlt,by rw [he,HY.out]⟩
   clear he
   go_wp2
   go_ret
   exact ⟨⟨_,rfl,fun _=>q.out,fun _=>p⟩,hB⟩
  have s:(v == y)=false:=by simp [he]
  have m:Hid (∀ i,i<k+1->f i≠v):=fun i hi=>by
   by_cases e:i=k
   ·subst e; rw [<-HY.out]; exact fun h=>he h.symm
   ·exact d.out i (by omega)
  clear he
  go_wp2
  go_roundg (gk - 1)
  case measure=>omega
  case rel=>exact ⟨k+1,by go_num,by omega,by omega,m.out,hB⟩
 go_enter Tryz.func162, Tryz.ntmps162
 go_wp2_with fail
 refine j.mono ?_
 rintro e w1 ⟨⟨r,rfl,hr⟩,hB⟩
 have HR:=hid hr
 clear hr
 by_cases h0:0<=r
 ·have t:decide (r ≥ 0)=true:=by simpa using h0
  have hE:=hid (HR.out.1 h0)
  go_wp2
  go_ret
  exact ⟨⟨_,rfl,by simpa using hE.out⟩,hB⟩
 have t:decide (r ≥ 0)=false:=by simp; omega
 have hE:Hid (¬ ∃ i,i<n/\f i=v):=fun h=>h0 (HR.out.2 h)
 go_wp2
 go_ret
 refine ⟨⟨_,rfl,?_⟩,hB⟩
 simp only [Bool.false_eq_true,false_iff]
 exact hE.out
theorem zae {w w':World} {g k:Nat} {v:Value} {row:Option Nat} (h:w.cell? ⟨g,k,none⟩=some v) (hg:w.grownBy w' row) (hne:row≠some g):w'.cell? ⟨g,k,none⟩=some v:=by
 have hl:=World.block_lt_of_cell? _ _ h
 have hb:=hg.block g hl (fun e=>hne e.symm)
 rw [<-h]
 simp only [World.cell?,hb]
theorem zbx {w wr:World} {o1 o2:Obj} (h:Below (w.heap.size+2) ((w.alloc o1).alloc o2) wr):Below w.heap.size w wr:=(((Below.refl w.heap.size w).alloc (Nat.le_refl _) o1).alloc (by simp) o2).trans (h.mono (by omega))
theorem zhQ {w wr:World} {o1 o2:Obj} (h:Below (w.heap.size+2) ((w.alloc o1).alloc o2) wr):w.heap.size+2<=wr.heap.size:=by have:=h.size; simp at this; omega
theorem zfH {w wr w':World} {o1 o2:Obj} (h:Below (w.heap.size+2) ((w.alloc o1).alloc o2) wr) (hb:Below wr.heap.size wr w'):Below (w.heap.size+2) ((w.alloc o1).alloc o2) w':=h.trans (hb.mono (zhQ h))
theorem zag {b:Nat} {w W Y:World} (h:Below b w W) (hl:b<=W.heap.size) (kb:Below W.heap.size W Y):Below b w Y:=h.trans (kb.mono hl)
def updI (x:Nat->Nat->Int) (v k:Nat) (y:Int):Nat->Nat->Int:=fun u j=>if u=v/\j=k then y else x u j
theorem zjL (x:Nat->Nat->Int) (v k:Nat) (y:Int):updI x v k y v k=y:=if_pos ⟨rfl,rfl⟩
theorem zgH {x:Nat->Nat->Int} {v k u j:Nat} {y:Int} (h:¬ (u=v/\j=k)):updI x v k y u j=x u j:=if_neg h
def IntTab (w:World) (g base m:Nat) (F:Nat->Value) (n:Nat->Nat) (x:Nat->Nat->Int):Prop :=
 TabOwn w g base 22 3 1 m F n (fun v i _=>.int .i64 (x v i))
section
variable {w w':World} {g base m:Nat} {F:Nat->Value} {n n':Nat->Nat} {x x':Nat->Nat->Int}
theorem IntTab.on (h:IntTab w g base m F n x) (hb:Below w.heap.size w w'):IntTab w' g base m F n x:=⟨zab h.row hb,fun v hv=>(h.own v hv).on hb,h.apart⟩
theorem IntTab.congr (h:IntTab w g base m F n x) (e1:∀ v,v<m->n v=n' v) (e2:∀ v,v<m->∀ k,k<n v->x v k=x' v k):IntTab w g base m F n' x' :=
 ⟨h.row,fun v hv=>by
  rw [<-e1 v hv]
  exact (h.own v hv).congr fun i hi j _=>by
   show Value.int .i64 (x v i)=.int .i64 (x' v i)
   rw [e2 v hv i hi],h.apart⟩
theorem IntTab.at (h:IntTab w g base m F n x) {v k:Nat} (hv:v<m) (hk:k<n v):∃ b o d,F v=.slice (some ⟨b,o,none⟩) (n v) d/\base<=b/\b<w.heap.size/\w.cell? ⟨b,o+k,none⟩=some (.int .i64 (x v k))/\w.frozen? ⟨b,o+k,none⟩=false:=by
 have h1:=h.own v hv
 obtain ⟨b,o,d,e,hb,hl,_,_,hc⟩:=h1.form (by omega)
 have a:=hc k hk 0 (by omega)
 rw [Nat.mul_one,Nat.add_zero] at a
 refine ⟨b,o,d,e,hb,hl,a,?_⟩
 rw [e] at h1
 exact h1.frozen (o+k)
theorem IntTab.set (h:IntTab w g base m F n x) (hgb:g<base) {v k b o d:Nat} {y:Int} (hv:v<m) (hk:k<n v) (hF:F v=.slice (some ⟨b,o,none⟩) (n v) d) :
  IntTab (w.setCell ⟨b,o+k,none⟩ (.int .i64 y)) g base m F n (updI x v k y):=by
 have c:(F v).ownBlock=some b:=by rw [hF]; rfl
 have l:=(h.own v hv).lt b c
 refine ⟨h.row.setOther (by simp; omega) _,fun u hu=>?_,h.apart⟩
 by_cases e:u=v
 ·subst e
  have k1:=h.own u hu
  rw [hF] at k1 ⊢
  have ks:=k1.set (a:=k) (b:=0) hk (by omega) (.int .i64 y)
  rw [Nat.mul_one,Nat.add_zero] at ks
  exact ks.congr fun i _ j hj=>by
   obtain rfl:j=0:=by omega
   show (if i=k/\0=0 then _ else _)=Value.int .i64 (updI x u k y u i)
   unfold updI
   by_cases ei:i=k
   ·rw [if_pos ⟨ei,rfl⟩,if_pos ⟨rfl,ei⟩]
   ·rw [if_neg fun hh=>ei hh.1,if_neg fun hh=>ei hh.2]
 have k1:=h.own u hu
 have f:(F u).ownBlock≠some b:=fun hh=>by
  rcases h.apart u v hu hv e with h0 | h0
  ·rw [h0] at hh; cases hh
  ·rw [c] at h0; exact h0 hh
 exact (k1.setCell (a:=⟨b,o+k,none⟩) f _).congr fun i _ j _=>by
  show Value.int .i64 (x u i)=.int .i64 (updI x v k y u i)
  rw [zgH fun hh=>e hh.1]
theorem IntTab.put (h:IntTab w g base m F n x) (hgb:g<base) {v:Nat} (hv:v<m) {v':Value} {k':Nat} {y:Nat->Int} (hown:Own w' base 3 1 v' k' (fun i _=>.int .i64 (y i))) (hg:w.grownBy w' (F v).ownBlock) (hat:v'.ownBlock=(F v).ownBlock∨v'.ownBlock=some w.heap.size) :
  IntTab (w'.setCell ⟨g,v,none⟩ v') g base m (fun u=>if u=v then v' else F u) (fun u=>if u=v then k' else n u) (fun u=>if u=v then y else x u):=by
 have h1:=TabOwn.put h hgb hv hown hg hat
 refine ⟨h1.row,fun u hu=>?_,h1.apart⟩
 have h2:=h1.own u hu
 by_cases e:u=v
 ·simp only [if_pos e] at h2 ⊢
  exact h2
 ·simp only [if_neg e] at h2 ⊢
  exact h2
theorem IntTab.rows (h:IntTab w g base m F n x) (hx:∀ v,v<m->∀ k,k<n v -> -9223372036854775808<=x v k/\x v k<=9223372036854775807):IntRows w (some ⟨g,0,none⟩) m n x:=fun i hi=>by
 have h1:=h.own i hi
 obtain ⟨A,c,e⟩:=h1.shape
 have hc:=h.row.cell hi
 rw [e] at h1 hc
 exact ⟨g,0,A,c,rfl,h.row.lt,by rw [Nat.zero_add]; exact hc,h1.capL.1,h1.capL.2,h1.rd rfl,fun j hj=>hx i hi j hj⟩
end
theorem zbE {w:World} {g base m:Nat} {x:Nat->Nat->Int} (h:w.rowIs g 22 m (fun _=>.slice none 0 0)):IntTab w g base m (fun _=>.slice none 0 0) (fun _=>0) x :=
 ⟨h,fun _ _=>Own.nil _ _ _ _ _,fun _ _ _ _ _=>.inl rfl⟩
theorem zbB {ops:Array Oper} {o:Oper} {a:Act} {w:World} {K:Act->World->Prop} {Q:Exit->Act->World->Prop} {E:Prop} (hgd:o.guard=none) (sl y:Operand)
  (ho:o.op=.call { callee:=.builtin .append,args:=#[sl,y],argTypes:=#[22, 22] })
  (base:Nat) (v:Value) (k:Nat) (x:Nat->Int) (hv:a.eval sl=v) (h:Own w base 3 1 v k (fun i _=>.int .i64 (x i))) (hbase:base<=w.heap.size) (hk:k<=1048576)
  (b c:Nat) (hy:a.eval y=.slice (some ⟨b,0,none⟩) 1 c) (c0:w.cell? ⟨b,0,none⟩=some (.int .i64 (x k)))
  (hK:∀ v' w',Own w' base 3 1 v' (k+1) (fun i _=>.int .i64 (x i))->w.grownBy w' v.ownBlock->(v'.ownBlock=v.ownBlock∨v'.ownBlock=some w.heap.size)->K (a.put o.dst v') w') :
  if Region.wanted o (yielded ops a.tmps)=true then Oper.wp Tryz.prog o a w K Q else E:=by
 obtain ⟨i0,qi0,qz0,qz1,qz2⟩:=info_parts Tryz.infoInt
 exact zbz w hgd sl y _ ho base 3 i0 _ 1 8 Tryz.underlying22 qi0 qz0 qz1 qz2 rfl (by omega) v k _ hv h ⟨b,0,none⟩ c hy (fun j hj=>by
   obtain rfl:j=0:=by omega
   exact c0) (fun _ _=>rfl) (by unfold maxLen; omega) (by omega) hbase hK
theorem zix {x i:Nat} (hi:i<=64) (h:x<=262144 ^ i):dl x<=37:=by
 refine zjm ?_
 have h1:(262144:Nat) ^ i<=262144 ^ 64:=Nat.pow_le_pow_right (by omega) hi
 have h2:(262144:Nat) ^ 64<4294967296 ^ 37:=by decide +kernel
 omega
def hitB (f:Nat->Int):Nat->Int->Bool
 | 0,_=>false
 | j+1,v=>hitB f j v || decide (f j=v)
theorem za8 {f:Nat->Int} {v:Int}:∀ {j:Nat},hitB f j v=true↔∃ i,i<j/\f i=v:=by
 intro j
 induction j with
 | zero=>simp [hitB]
 | succ j ih =>
  simp only [hitB,Bool.or_eq_true,decide_eq_true_eq,ih]
  constructor
  ·rintro (⟨i,hi,e⟩ | e)
   ·exact ⟨i,by omega,e⟩
   ·exact ⟨j,by omega,e⟩
  ·rintro ⟨i,hi,e⟩
   by_cases h:i=j
   ·subst h; exact .inr e
   ·exact .inl ⟨i,by omega,e⟩
def Trel.after (T:Trel) (i j:Nat):Prop:=T.fr i (j - 1)<T.fr i j∨T.fr i (j - 1)=T.fr i j/\T.lb i (j - 1)<T.lb i j
instance (T:Trel) (i j:Nat):Decidable (T.after i j):=by unfold Trel.after; exact inferInstance
def Trel.edgeOk (T:Trel) (i j:Nat):Prop:=0<=T.lb i j/\T.lb i j<256/\(0<j->T.after i j)
instance (T:Trel) (i j:Nat):Decidable (T.edgeOk i j):=by unfold Trel.edgeOk; exact inferInstance
def Trel.secOk (T:Trel) (i:Nat):Prop :=
 (∀ j,j<T.el i->T.edgeOk i j)/\(∀ v,v<(T.W i).toNat->hitB (T.fr i) (T.el i) (v:Nat)=true)/\(∀ v,v<(T.W (i+1)).toNat->hitB (T.to i) (T.el i) (v:Nat)=true)
instance (T:Trel) (i:Nat):Decidable (T.secOk i):=by unfold Trel.secOk; exact inferInstance
def Trel.properE (T:Trel):Int :=
 if T.shapeE≠0 then T.shapeE else if T.W 0≠1∨T.W T.n≠1 then 5 else if ∀ i,i<T.n->T.secOk i then 0 else 5
structure Trel.Proper (T:Trel):Prop where
 shape:T.Shape
 w0:T.W 0=1
 wn:T.W T.n=1
 sec:∀ i,i<T.n->T.secOk i
theorem Trel.proper_of {T:Trel} (h:T.properE=0):T.Proper:=by
 unfold Trel.properE at h
 by_cases h1:T.shapeE=0
 ·rw [if_neg (by simpa using h1)] at h
  by_cases h2:T.W 0≠1∨T.W T.n≠1
  ·rw [if_pos h2] at h; omega
  rw [if_neg h2] at h
  by_cases h3:∀ i,i<T.n->T.secOk i
  ·exact ⟨Trel.shape_of h1,by omega,by omega,h3⟩
  ·rw [if_neg h3] at h; omega
 ·rw [if_pos h1] at h; exact absurd h h1
theorem Trel.properE_shape {T:Trel} (h:T.shapeE≠0):T.properE=T.shapeE:=by unfold Trel.properE; rw [if_pos h]
theorem Trel.properE_end {T:Trel} (h:T.shapeE=0) (h2:T.W 0≠1∨T.W T.n≠1):T.properE=5:=by unfold Trel.properE; rw [if_neg (by simpa using h),if_pos h2]
theorem Trel.properE_sec {T:Trel} (h:T.shapeE=0) {i:Nat} (hi:i<T.n) (h2:¬ T.secOk i):T.properE=5:=by
 unfold Trel.properE
 rw [if_neg (by simpa using h)]
 split
 ·rfl
 ·rw [if_neg fun h3=>h2 (h3 i hi)]
theorem Trel.properE_ok {T:Trel} (h:T.shapeE=0) (h0:T.W 0=1) (hn:T.W T.n=1) (h2:∀ i,i<T.n->T.secOk i):T.properE=0:=by
 unfold Trel.properE
 rw [if_neg (by simpa using h),if_neg (by omega),if_pos h2]
end Go.Proofs.YtgekjfpapmlndaaGreat