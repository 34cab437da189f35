/- Merged texts of a claim: Spans, Fits, SecPl, SortLay, SortLess, SortOwn, Order, RenameMem. -/
import Derived.Test.YtgekjfpapmlndaaGreatTY13
import Derived.Shelf.SlSortCmp.WholeK
import Derived.Shelf.SlSortCmp.Whole1
import Derived.Shelf.SlSortCmp.NoneTotal
import Derived.Shelf.SlicesG.Cmp
import Derived.Ground.SlgcProg
namespace Go.Proofs.YtgekjfpapmlndaaGreat
set_option maxRecDepth 100000
set_option maxHeartbeats 32000000
open KA KB KC KD KE KF
open Go.RowKit Go.ChangeShapes Go.WideShapes Go.ChangeAt
theorem ziK {w:World} {g P M:Nat} {m:Nat->Nat} (x y:Nat) (h:GF w w.heap.size g P M m) (hx:x<P ^ M) (hy:y<P ^ M) (hy0:y≠0) :
  Calls Tryz.prog 142 #[.pointer (some ⟨g,0,none⟩),.int .i64 (x:Nat),.int .i64 (y:Nat)] w fun e w'=>Below w.heap.size w w'/\∃ a:Nat,e=.returned (.tuple #[.int .i64 (a:Nat),.int .i64 0])/\a<P ^ M/\mulF P M m a y=x:=by
 have HG:=hid h
 have hL:=fieldLaws h.ok
 have HL:=hid hL
 have d:=zan hx
 have c:=zan hy
 have k:=hid d
 have j:=hid c
 clear h hL d c
 go_enter Tryz.func142, Tryz.ntmps142
 go_wp2_with fail
 refine (zdY (y:Int) HG.out).mono ?_
 rintro e w1 ⟨kb,hc⟩
 have HB:=hid kb
 clear kb;rw [j.out] at hc
 rcases hc with ⟨h0,_⟩ | ⟨_,v,rfl,hv,_,b⟩
 ·exact absurd h0 hy0
 have i:=zan hv
 go_wp2_with fail
 refine (zaY (x:Int) (v:Int) (HG.out.on HB.out)).mono ?_
 rintro e w2 ⟨rfl,kb⟩
 rw [k.out,i];replace HB:=hid (onS HB.out kb)
 obtain ⟨a,ha⟩:=exx (mulF P M m x v)
 rw [<-ha]
 have HA:Hid (a<P ^ M/\mulF P M m a y=x):=hid (by
  have hL:=HL.out
  rw [ha]
  refine ⟨hL.mulLt _ _,?_⟩
  rw [hL.mulAssoc x v y hx hv hy,hL.mulComm v y hv hy,b,hL.mulOne hx])
 clear ha b hv i kb
 go_wp2
 go_ret2
 exact ⟨HB.out,a,rfl,HA.out⟩
theorem zd8 (A:Option Addr) (n c:Nat) (u:Nat->Nat) (w:World) (h:IntsR w w.heap.size A n (fun j=>((u j:Nat):Int))) (hn:n<=1048576) :
  Calls Tryz.prog 141 #[.slice A n c] w fun e w'=>e=.returned (.tuple #[.int .i64 (fE u n),.int .i64 (lE u n)])/\Below w.heap.size w w':=by
 have HA:=hid h
 clear h
 go_enter Tryz.func141, Tryz.ntmps141
 go_upto_region 3 with fail
 go_loopg [4,5,10] n (fun gg fv lv iv wx=>∃ k:Nat,iv=.int .i64 (k:Nat)/\fv=.int .i64 (fE u k)/\lv=.int .i64 (lE u k)/\k<=n/\n<=k+gg/\Below w.heap.size w wx)
 case atStart=>exact ⟨0,rfl,rfl,rfl,by omega,by omega,Below.refl _ _⟩
 obtain ⟨k,rfl,rfl,rfl,hk,p,i⟩:=hrel
 have q:(0:Int)<=(k:Int):=by omega
 have HB:=hid i
 obtain ⟨w3,l⟩:=exx wr
 subst l
 clear i
 obtain ⟨F,hF⟩:=exx (fE u k)
 obtain ⟨L,hL⟩:=exx (lE u k)
 rw [<-hF,<-hL]
 by_cases hlt:k<n
 rotate_left
 ·have g:¬ (k:Int)<(n:Int):=by omega
  obtain rfl:k=n:=by omega
  have H1:=hid hF
  have H2:=hid hL
  clear hF hL
  go_wp2
  go_ret2
  exact ⟨by rw [H1.out,H2.out]; rfl,HB.out⟩
 have g:(k:Int)<(n:Int):=by omega
 obtain ⟨b,o,m,hb,e0⟩:=(HA.out.on HB.out).at hlt
 subst m
 obtain ⟨x,hx⟩:=exx (u k)
 rw [<-hx] at e0
 have a:fE u (k+1)=if x=0 then F else if F<0 then (k:Int) else F:=by rw [hx,hF]; rfl
 have d:lE u (k+1)=if x=0 then L else (k:Int):=by rw [hx,hL]; rfl
 clear hx hF hL
 by_cases hx0:x=0
 focus
  have hz:((x:Int) == 0)=true:=by simp [hx0]
  rw [if_pos hx0] at a d
 rotate_left
 focus
  have hz:((x:Int) == 0)=false:=by simp [hx0]
  rw [if_neg hx0] at a d
  by_cases hneg:F<0
  focus
   rw [if_pos hneg] at a
  rotate_left
  focus
   rw [if_neg hneg] at a
  rotate_left
 rotate_left 2
 all_goals
  have H1:=hid a
  have H2:=hid d
  clear a d hx0
  go_wp2
  go_roundg (gk - 1)
  case measure=>omega
  case rel=>exact ⟨k+1,by go_num,by rw [H1.out],by rw [H2.out],by omega,by omega,HB.out⟩
def SpansPost (P M : Int) (k : Nat) (f : Nat → Int) (N : Int) (n : Nat) (ln : Nat → Nat) (V : Nat → Nat → Int) (w : World) (e : Ending) (w' : World) : Prop :=
  Below w.heap.size w w'/\∃ u,FirstErr (CodeErrs P M k f N n ln V) u /\
    ((u≠0/\e=.returned (.tuple #[.slice none 0 0,.int .i64 u])) ∨
     (u=0/\∃ P' M' N':Nat,P=P'/\M=M'/\N=N'/\∃ g F pv R,e=.returned (.tuple #[.slice (some ⟨g,0,none⟩) n n,.int .i64 0])/\w.heap.size<=g/\IntTab w' g (g+1) n F (fun _=>N') (fun i j=>((R i j:Nat):Int)) /\
       SpanF (P' ^ M') n N' pv R/\SameSp (P' ^ M') (addF P' M') (mulF P' M' fun i=>(f i).toNat) N' n n (natT V) R/\∀ i j,i<j->j<n->lE (R i) N'≠lE (R j) N'))
theorem ziL (P M:Int) (A:Option Addr) (k c:Nat) (f:Nat->Int) (N:Int) (TC:Option Addr) (n d:Nat) (ln:Nat->Nat) (V:Nat->Nat->Int) (w:World) (hr:IntsR w w.heap.size A k f) (h:IntRows w TC n ln V) :
  Calls Tryz.prog 73 #[.agg #[.int .i64 P,.int .i64 M,.slice A k c,.int .i64 N,.slice TC n d]] w (SpansPost P M k f N n ln V w):=by
 have HI:=hid hr
 have HT:=hid h
 clear hr h
 obtain ⟨w1,bi,hB,rf⟩:=zaG w (.int .i64 P) (.int .i64 M) (.slice A k c) (.int .i64 N) (.slice TC n d) 27
 go_enter Tryz.func73, Tryz.ntmps73
 go_upto_region 1 with fail
 rw [<-bi];clear bi
 obtain ⟨b0,b8⟩:=exx w.heap.size
 rw [<-b8] at rf;rw [<-b8];clear b8
 have O:Hid (∀ X,Below w1.heap.size w1 X->(X.cell? ⟨b0,0,none⟩=some (.int .i64 P)/\X.cell? ⟨b0,1,none⟩=some (.int .i64 M)/\X.cell? ⟨b0,2,none⟩=some (.slice A k c)/\X.cell? ⟨b0,3,none⟩=some (.int .i64 N)/\X.cell? ⟨b0,4,none⟩=some (.slice TC n d))):=hid fun X hx =>
  ⟨(zaa rf hx).cell (i:=0) (by omega),(zaa rf hx).cell (i:=1) (by omega),(zaa rf hx).cell (i:=2) (by omega),(zaa rf hx).cell (i:=3) (by omega),(zaa rf hx).cell (i:=4) (by omega)⟩
 have HB:=hid hB
 clear hB rf
 obtain ⟨q0,q1,q2,q3,q4⟩:=O.out _ (Below.refl _ _)
 go_wp2_with fail
 refine (zeD P M A k c f N TC n d ln V w1 (HI.out.on HB.out) (HT.out.on HB.out)).mono ?_
 rintro e w2 ⟨u,rfl,hu,kb⟩
 have HU:=hid hu
 have KB:=hid kb
 clear kb hu q0 q1 q2 q3 q4
 by_cases hu0:u=0
 rotate_left
 ·have bj:(u != 0)=true:=by simpa using hu0
  have cn:=hid hu0
  clear hu0
  go_wp2
  go_ret2
  exact ⟨onS HB.out KB.out,u,HU.out,.inl ⟨cn.out,rfl⟩⟩
 subst hu0
 have bj:((0:Int) != 0)=false:=by simp
 obtain ⟨P',M',N',rfl,rfl,rfl,hC⟩:=zbB HI.out HT.out HU.out
 have HC:=hid hC
 have cg:=hC.ln2
 have cw:=hC.n_le
 clear hC
 obtain ⟨q0,q1,q2,q3,q4⟩:=O.out _ KB.out
 go_wp2_with fail
 refine (zcg (P':Int) (M':Int) A k c f w2 (HI.out.on (onS HB.out KB.out))).mono ?_
 rintro e w3 ⟨kb,ag⟩
 rcases ag with ⟨b7,_⟩ | ⟨_,gf,P2,M2,cf,ci,rfl,_,hG⟩
 ·refine absurd ?_ b7
  rcases HU.out with ⟨_,h9⟩ | ⟨h1,_⟩
  ·cases h9
  ·exact h1
 obtain rfl:P'=P2:=by omega
 obtain rfl:M'=M2:=by omega
 have HG:=hid hG.gf
 have ar:=hid (onS HB.out (onS KB.out kb))
 replace KB:=hid (onS KB.out kb);clear kb q0 q1 q2 q3 q4 cf ci hG bj
 obtain ⟨q0,q1,q2,q3,q4⟩:=O.out _ KB.out
 have bm:=fun W=>zaf (P:=Tryz.prog) 25 22 _ 24 Tryz.underlying25 Tryz.infoInts rfl (n:Int) (by omega) (by omega) (by omega) W
 simp only [Int.toNat_natCast] at bm
 go_upto_region 6 with fail
 clear q0 q1 q2 q3 q4
 have rz:World.rowIs (World.alloc w3 (Obj.cells (madeCells #[Value.slice none 0 0] n) 22)) w3.heap.size 22 n (fun _=>.slice none 0 0):=World.rowIs_made _ (.slice none 0 0) n 22
 have kb:=aly w3 (Obj.cells (madeCells #[Value.slice none 0 0] n) 22)
 have az:(World.alloc w3 (Obj.cells (madeCells #[Value.slice none 0 0] n) 22)).heap.size=w3.heap.size+1:=by simp
 obtain ⟨w4,bh⟩:=exx (World.alloc w3 (Obj.cells (madeCells #[Value.slice none 0 0] n) 22))
 rw [<-bh] at rz kb az ⊢
 have K7:=hid kb
 have ah:w.heap.size<=w3.heap.size:=ar.out.size
 obtain ⟨lt,b2⟩:=exx w3.heap.size
 rw [<-b2] at rz az ah ⊢
 have am:Hid (lt=w3.heap.size):=hid b2
 have b:Hid (IntTab w4 lt (lt+1) n (fun _=>.slice none 0 0) (fun v=>if v<0 then N' else 0) (fun i j=>((natT V i j:Nat):Int))):=hid ((zfq (x:=fun i j=>((natT V i j:Nat):Int)) rz).congr (fun v _=>by rw [if_neg (by omega)]) fun v _ k _=>rfl)
 have E:lt+1<=w4.heap.size:=by omega
 clear rz kb az bh bm b2
 obtain ⟨q0,q1,q2,q3,q4⟩:=O.out _ (onS KB.out K7.out)
 go_upto_region 7 with fail
 clear q0 q1 q2 q3 q4
 go_loopg [38] n (fun gg iv wx=>∃ (i:Nat) (F:Nat->Value),iv=.int .i64 (i:Nat)/\i<=n/\n<=i+gg/\Hid (IntTab wx lt (lt+1) n F (fun v=>if v<i then N' else 0) (fun i j=>((natT V i j:Nat):Int)))/\lt+1<=wx.heap.size/\Below w3.heap.size w3 wx)
 case atStart=>exact ⟨0,_,rfl,by omega,by omega,b,E,K7.out⟩
 clear b K7 E
 obtain ⟨i,F,rfl,hi,bn,b,a,z⟩:=hrel
 have bp:(0:Int)<=(i:Int):=by omega
 have K7:=hid z
 obtain ⟨w8,c6⟩:=exx wr
 subst c6
 clear z
 by_cases s:i<n
 ·have a0:(i:Int)<(n:Int):=by omega
  obtain ⟨pb,po,RA,rc,ce,_,x0,cd,d1,ab,b1⟩:=HC.out.rows i s
  subst ce
  replace x0:=cellS (onS ar.out K7.out) x0
  have be:=hid ab
  clear ab b1
  go_wp2_with fail
  clear x0
  refine (zaw RA N' rc (fun j=>((natT V i j:Nat):Int)) w8 (be.out.on (onS ar.out K7.out)) cd (by omega)).mono ?_
  rintro e w9 ⟨SA,sc,rfl,hO,kb⟩
  have hn:=b.out.fresh (by omega) a kb s (y:=fun j=>((natT V i j:Nat):Int)) hO
  have r0:=(b.out.on kb).row.cell s
  have z0:=(b.out.on kb).row.frozen i
  have au:=(onS K7.out kb).setCell (p:=⟨lt,i,none⟩) (by have:=am.out; show _<=lt; omega) (.slice SA N' sc)
  have bk:lt+1<=(w9.setCell ⟨lt,i,none⟩ (.slice SA N' sc)).heap.size:=by rw [World.size_setCell]; exact Nat.le_trans a kb.size
  obtain ⟨w10,D⟩:=exx (w9.setCell ⟨lt,i,none⟩ (.slice SA N' sc))
  rw [<-D] at hn au bk
  have HN:=hid (hn.congr (n':=fun v=>if v<i+1 then N' else 0) (x':=fun i j=>((natT V i j:Nat):Int)) (fun v hv=>by
   by_cases e:v=i
   ·rw [if_pos e,if_pos (by omega)]
   ·have h1:(v<i)↔(v<i+1):=by omega
    simp only [if_neg e,h1]) fun v hv k hk=>by
   by_cases e:v=i
   ·rw [if_pos e,e]
   ·rw [if_neg e])
  have K9:=hid au
  have aj:=hid D
  clear hn kb au hO D
  go_upto_region 10 with fail
  rw [<-aj.out];clear r0 z0 aj
  go_wp2
  go_roundg (gk - 1)
  case measure=>omega
  case rel=>exact ⟨i+1,_,by go_num,by omega,by omega,HN,bk,K9.out⟩
 have a0:¬ (i:Int)<(n:Int):=by omega
 obtain rfl:i=n:=by omega
 have bw:Hid (IntTab w8 lt (lt+1) i F (fun _=>N') (fun u j=>((natT V u j:Nat):Int))):=hid (b.out.congr (fun v hv=>if_pos hv) fun v _ k _=>rfl)
 clear b s hi bn bp
 obtain ⟨n,hn⟩:=exx i
 subst hn
 obtain ⟨pv,hE⟩:=HC.out.rref
 have l:=hid hE.spanF
 have hL:=fieldLaws HC.out.fld
 have ac:∀ x,x<P' ^ M'->negF P' M' x<P' ^ M'/\addF P' M' x (negF P' M' x)=0:=fun x _=>⟨zbv (by have:=HC.out.fld.1.1; omega),zbn (by have:=HC.out.fld.1.1; omega)⟩
 have HL:=hid hL
 have cp:=hid ac
 have B:Hid (SameSp (P' ^ M') (addF P' M') (mulF P' M' fun i=>(f i).toNat) N' n n (natT V) (natT V)):=hid fun _=>Iff.rfl
 clear hE hL ac
 go_upto_region 12 with fail
 clear a0
 go_loopg [10] (n*N'+1) (fun gg cv wx=>∃ (ch:Bool) (R:Nat->Nat->Nat),cv=.bool ch/\Hid ((ch=true/\mesL R N' n<gg)∨(ch=false/\∀ i j,i<j->j<n->lE (R i) N'≠lE (R j) N'))/\Hid (SpanF (P' ^ M') n N' pv R)/\Hid (SameSp (P' ^ M') (addF P' M') (mulF P' M' fun i=>(f i).toNat) N' n n (natT V) R)/\Hid (IntTab wx lt (lt+1) n F (fun _=>N') (fun u j=>((R u j:Nat):Int)))/\lt+1<=wx.heap.size/\Below w3.heap.size w3 wx)
 case atStart=>exact ⟨true,natT V,rfl,.inl ⟨rfl,by have:=zjc (R:=natT V) (N:=N') n; omega⟩,l,B,bw,a,K7.out⟩
 clear l B bw K7 a
 obtain ⟨ch,R,rfl,C,l,B,b,a,z⟩:=hrel
 have K7:=hid z
 obtain ⟨w9,c5⟩:=exx wr
 subst c5
 clear z
 cases ch with
 | false =>
  have HD:Hid (∀ i j,i<j->j<n->lE (R i) N'≠lE (R j) N'):=hid (C.out.elim (fun h=>(nomatch h.1)) fun h=>h.2)
  go_wp2
  go_ret2
  exact ⟨onS ar.out K7.out,0,HU.out,.inr ⟨rfl,P',M',N',rfl,rfl,rfl,lt,F,pv,R,rfl,ah,b.out,l.out,B.out,HD.out⟩⟩
 | true =>
  have c9:mesL R N' n<gk:=C.out.elim (fun h=>h.2) fun h=>(nomatch h.1)
  obtain ⟨m0,ae⟩:=exx (mesL R N' n)
  rw [<-ae] at c9
  have c1:Hid (mesL R N' n<=m0):=hid (by omega)
  clear C ae
  obtain ⟨gO,cc⟩:=exx gk
  subst cc
  go_upto_region 15 with fail
  go_loopg [10,52] n (fun gg cv jv wx=>∃ (ch:Bool) (j:Nat) (R:Nat->Nat->Nat),cv=.bool ch/\jv=.int .i64 (j:Nat)/\j<=n/\n<=j+gg/\Hid ((ch=true/\mesL R N' n<m0)∨(ch=false/\mesL R N' n<=m0/\∀ i j',i<j'->j'<j->lE (R i) N'≠lE (R j') N'))/\Hid (SpanF (P' ^ M') n N' pv R)/\Hid (SameSp (P' ^ M') (addF P' M') (mulF P' M' fun i=>(f i).toNat) N' n n (natT V) R)/\Hid (IntTab wx lt (lt+1) n F (fun _=>N') (fun u j=>((R u j:Nat):Int)))/\lt+1<=wx.heap.size/\Below w3.heap.size w3 wx)
  case atStart=>exact ⟨false,0,R,rfl,rfl,by omega,by omega,.inr ⟨rfl,c1.out,fun _ _ _ h=>absurd h (by omega)⟩,l,B,b,a,K7.out⟩
  case round =>
   clear l B b K7 a c1
   obtain ⟨ch,j,R,rfl,rfl,hj,cz,C,l,B,b,a,z⟩:=hrel
   have d0:(0:Int)<=(j:Int):=by omega
   have K7:=hid z
   obtain ⟨w10,D⟩:=exx wr
   subst D
   clear z
   by_cases hjn:j<n
   ·have b4:(j:Int)<(n:Int):=by omega
    have Y:=l.out.pos hjn
    obtain ⟨rb,ro,rd,hF,_,_,_,_⟩:=b.out.at (v:=j) hjn (k:=pv j) (l.out.pvlt j hjn)
    have c0:=b.out.row.cell hjn
    rw [hF] at c0
    have r:=b.out.own j hjn
    rw [hF] at r
    have ak:Hid (IntsR w10 w10.heap.size (some ⟨rb,ro,none⟩) N' (fun k=>((R j k:Nat):Int))):=hid (r.rd rfl)
    clear r
    go_wp2_with fail
    clear c0
    refine (zd8 (some ⟨rb,ro,none⟩) N' rd (R j) w10 ak.out (by omega)).mono ?_
    rintro e w11 ⟨rfl,kb⟩
    obtain ⟨t,ht⟩:∃ t:Nat,lE (R j) N'=(t:Nat):=⟨(lE (R j) N').toNat,by omega⟩
    have ao:t<N':=(zka N' t ht).1
    have bq:=l.out.first hjn
    rw [ht,bq]
    have T:=hid ht
    have m:=hid (b.out.on kb)
    replace K7:=hid (onS K7.out kb)
    have g:lt+1<=w11.heap.size:=Nat.le_trans a kb.size
    have an:=hid hF
    clear kb b ak ht bq hF Y a
    obtain ⟨gP,cb⟩:=exx gk
    subst cb
    go_upto_region 19 with fail
    have q:Hid ((ch=true/\mesL R N' n<m0)∨(ch=false/\mesL R N' n<=m0/\(∀ i j',i<j'->j'<j->lE (R i) N'≠lE (R j') N')/\∀ i,i<0->lE (R i) N'≠(t:Int))):=hid (by
     rcases C.out with h | ⟨h1,h2,h3⟩
     ·exact .inl h
     ·exact .inr ⟨h1,h2,h3,fun _ h=>absurd h (by omega)⟩)
    clear C
    go_loopg [10,64] j (fun gg cv iv wx=>∃ (ch:Bool) (i:Nat) (R:Nat->Nat->Nat),cv=.bool ch/\iv=.int .i64 (i:Nat)/\i<=j/\j<=i+gg/\Hid ((ch=true/\mesL R N' n<m0)∨(ch=false/\mesL R N' n<=m0/\(∀ i j',i<j'->j'<j->lE (R i) N'≠lE (R j') N')/\∀ i',i'<i->lE (R i') N'≠(t:Int)))/\Hid (lE (R j) N'=(t:Int))/\Hid (SpanF (P' ^ M') n N' pv R)/\Hid (SameSp (P' ^ M') (addF P' M') (mulF P' M' fun i=>(f i).toNat) N' n n (natT V) R)/\Hid (IntTab wx lt (lt+1) n F (fun _=>N') (fun u j=>((R u j:Nat):Int)))/\lt+1<=wx.heap.size/\Below w3.heap.size w3 wx)
    case atStart=>exact ⟨ch,0,R,rfl,rfl,by omega,by omega,q,T,l,B,m,g,K7.out⟩
    case round =>
     clear l B m K7 g q T
     obtain ⟨ch,i,R,rfl,rfl,hi,bn,C,T,l,B,b,a,z⟩:=hrel
     have bp:(0:Int)<=(i:Int):=by omega
     have K7:=hid z
     obtain ⟨w12,ax⟩:=exx wr
     subst ax
     clear z
     by_cases hij:i<j
     ·have b5:(i:Int)<(j:Int):=by omega
      have s:i<n:=by omega
      have a0:(i:Int)<(n:Int):=by omega
      obtain ⟨ib,io,id,aq,bo,_,_,_⟩:=b.out.at (v:=i) s (k:=pv i) (l.out.pvlt i s)
      have c0:=b.out.row.cell s
      rw [aq] at c0
      have r:=b.out.own i s
      rw [aq] at r
      have ak:Hid (IntsR w12 w12.heap.size (some ⟨ib,io,none⟩) N' (fun k=>((R i k:Nat):Int))):=hid (r.rd rfl)
      clear r
      go_wp2_with fail
      clear c0
      refine (zd8 (some ⟨ib,io,none⟩) N' id (R i) w12 ak.out (by omega)).mono ?_
      rintro e w13 ⟨rfl,kb⟩
      have br:=l.out.first s
      rw [br]
      have Y:=l.out.pos s
      obtain ⟨li,af⟩:=exx (lE (R i) N')
      rw [<-af]
      have m:=hid (b.out.on kb)
      replace K7:=hid (onS K7.out kb)
      have g:lt+1<=w13.heap.size:=Nat.le_trans a kb.size
      have a6:=hid aq
      clear kb b ak br aq Y a
      by_cases hlt':li=(t:Int)
      rotate_left
      ·have ad:(li != (t:Int))=true:=by simpa using hlt'
       have q:Hid ((ch=true/\mesL R N' n<m0)∨(ch=false/\mesL R N' n<=m0/\(∀ i j',i<j'->j'<j->lE (R i) N'≠lE (R j') N')/\∀ i',i'<i+1->lE (R i') N'≠(t:Int))):=hid (by
        rcases C.out with h | ⟨h1,h2,h3,h4⟩
        ·exact .inl h
        ·exact .inr ⟨h1,h2,h3,fun i' h=>by
          by_cases e:i'=i
          ·rw [e,<-af]; exact hlt'
          ·exact h4 i' (by omega)⟩)
       clear af hlt' C
       go_wp2
       go_roundg (gk - 1)
       case measure=>omega
       case rel=>exact ⟨ch,i+1,R,rfl,by go_num,by omega,by omega,q,T,l,B,m,g,K7.out⟩
      ·have ad:(li != (t:Int))=false:=by simpa using hlt'
       have c2:Hid (lE (R i) N'=(t:Int)):=hid (af.symm.trans hlt')
       subst hlt'
       have c8:Hid (mesL R N' n<=m0):=hid (by
        rcases C.out with ⟨_,h⟩ | ⟨_,h,_⟩
        ·omega
        ·exact h)
       clear af C
       have x0:=(m.out.row).cell s
       rw [a6.out] at x0
       have y0:=(m.out.row).cell hjn
       rw [an.out] at y0
       have H:=m.out.own i s
       rw [a6.out] at H
       have Z:=m.out.own j hjn
       rw [an.out] at Z
       have x1:=(show IntsR w13 w13.heap.size (some ⟨ib,io,none⟩) N' (fun k=>((R i k:Nat):Int)) from H.rd rfl).here ao
       have y1:=(show IntsR w13 w13.heap.size (some ⟨rb,ro,none⟩) N' (fun k=>((R j k:Nat):Int)) from Z.rd rfl).here ao
       clear H Z
       obtain ⟨xv,Q⟩:=exx (R i t)
       obtain ⟨yv,G⟩:=exx (R j t)
       have aa:xv<P' ^ M':=by rw [Q]; exact l.out.lt i s t ao
       have a9:yv<P' ^ M':=by rw [G]; exact l.out.lt j hjn t ao
       have bg:yv≠0:=by rw [G]; exact (zka N' t T.out).2
       rw [<-Q] at x1;rw [<-G] at y1
       have bv:=hid Q
       have bu:=hid G
       clear Q G
       have c7:(0:Int)<=(t:Int):=by omega
       have ay:(t:Int)<(N':Int):=by omega
       go_upto_region 23 with fail
       refine wp_region_held_drew (S:=fun X=>X.cell? ⟨lt,i,none⟩=some (.slice (some ⟨ib,io,none⟩) N' id)/\X.cell? ⟨lt,j,none⟩=some (.slice (some ⟨rb,ro,none⟩) N' rd)/\X.cell? ⟨ib,io+t,none⟩=some (.int .i64 (xv:Nat))/\X.cell? ⟨rb,ro+t,none⟩=some (.int .i64 (yv:Nat))) (by kernel_rfl) ⟨cellS (Below.refl _ _).drew x0,cellS (Below.refl _ _).drew y0,cellS (Below.refl _ _).drew x1,cellS (Below.refl _ _).drew y1⟩ (fun hHeld=>?_)
       obtain ⟨w14,hw,kb⟩:=dwx w13
       rw [<-hw] at hHeld ⊢;clear hw
       have HX:Hid (∀ X,Below w14.heap.size w14 X->X.cell? ⟨lt,i,none⟩=some (.slice (some ⟨ib,io,none⟩) N' id)/\X.cell? ⟨lt,j,none⟩=some (.slice (some ⟨rb,ro,none⟩) N' rd)/\X.cell? ⟨ib,io+t,none⟩=some (.int .i64 (xv:Nat))/\X.cell? ⟨rb,ro+t,none⟩=some (.int .i64 (yv:Nat))):=hid fun X hx=>⟨cellS hx (cellS kb x0),cellS hx (cellS kb y0),cellS hx (cellS kb x1),cellS hx (cellS kb y1)⟩
       have J:=hid (m.out.on kb)
       replace K7:=hid (onS K7.out kb)
       have o:lt+1<=w14.heap.size:=Nat.le_trans g kb.size
       clear kb x0 y0 x1 y1 m g
       refine tkq 0 (h:=tkq 1 (h:=tkq 2 (h:=tkq 3 (h:=tkq 4 (h:=tkq 5 (h:=tkq 6 (h:=tkq 7 (h:=tkq 8 (h:=tkq 9 (h:=tkq 10 (h:=tkq 11 (h:=tkq 12 (h:=tkq 13 (h:=tkq 14 (h:=?_)))))))))))))))
       clear hHeld
       refine rdq 15 (h:=fun K hK=>?_)
       go_simp
       go_wp2_with fail
       refine (ziK xv yv (HG.out.at K7.out K7.out.size) aa a9 bg).mono ?_
       rintro e w15 ⟨kb,av,rfl,bt,bs⟩
       refine bkq hK (HX.out _ kb) (h:=fun hHeld=>?_)
       clear hK K
       refine tkq 16 (h:=tkq 17 (h:=tkq 18 (h:=tkq 19 (h:=tkq 20 (h:=?_)))))
       refine wpAnyH_done (by kernel_rfl) ?_ _
       clear hHeld;replace J:=hid (J.out.on kb)
       have x0:=(HX.out _ kb).1
       replace K7:=hid (onS K7.out kb);replace o:=Nat.le_trans o kb.size
       have cu:Hid (mulF P' M' (fun i=>(f i).toNat) av (R j t)=R i t):=hid (by rw [<-bv.out,<-bu.out]; exact bs)
       clear HX kb bs bv bu aa a9 bg c7 ay ad
       obtain ⟨gQ,ca⟩:=exx gk
       subst ca
       have a8:Hid (i<n):=hid s
       have ai:Hid (j<n):=hid hjn
       obtain ⟨R1,b9⟩:∃ R1:Nat->Nat->Nat,R1=fun u kk=>if u=i then addF P' M' (R i kk) (negF P' M' (mulF P' M' (fun i=>(f i).toNat) av (R j kk))) else R u kk:=⟨_,rfl⟩
       have al:Hid (∀ kk,R1 i kk=addF P' M' (R i kk) (negF P' M' (mulF P' M' (fun i=>(f i).toNat) av (R j kk)))):=hid fun kk=>by rw [b9]; exact if_pos rfl
       have L:Hid (∀ u,u≠i->R1 u=R u):=hid fun u hu=>by rw [b9]; funext kk; exact if_neg hu
       clear b9
       have bx:Hid (IntTab w15 lt (lt+1) n F (fun _=>N') (fun u kk=>(((if u=i/\kk<0 then R1 i kk else R u kk):Nat):Int))):=hid (J.out.congr (fun _ _=>rfl) fun v _ kk _=>by rw [if_neg (fun h=>absurd h.2 (by omega))])
       go_upto_region 25 with fail
       clear x0 J
       go_loopg [102] N' (fun gg kv wx=>∃ kk:Nat,kv=.int .i64 (kk:Nat)/\kk<=N'/\N'<=kk+gg/\Hid (IntTab wx lt (lt+1) n F (fun _=>N') (fun u x=>(((if u=i/\x<kk then R1 i x else R u x):Nat):Int)))/\lt+1<=wx.heap.size/\Below w3.heap.size w3 wx)
       case atStart=>exact ⟨0,rfl,by omega,by omega,bx,o,K7.out⟩
       case round =>
        clear bx K7 o
        obtain ⟨kk,rfl,hk,cx,b,a,z⟩:=hrel
        have cy:(0:Int)<=(kk:Int):=by omega
        have K7:=hid z
        obtain ⟨w16,aw⟩:=exx wr
        subst aw
        clear z
        by_cases hkN:kk<N'
        ·have b3:(kk:Int)<(N':Int):=by omega
         have x0:=b.out.row.cell a8.out
         rw [a6.out] at x0
         have y0:=b.out.row.cell ai.out
         rw [an.out] at y0
         have H:=b.out.own i a8.out
         rw [a6.out] at H
         have Z:=b.out.own j ai.out
         rw [an.out] at Z
         have x1:=(show IntsR w16 w16.heap.size (some ⟨ib,io,none⟩) N' (fun x=>(((if i=i/\x<kk then R1 i x else R i x):Nat):Int)) from H.rd rfl).here hkN
         have y1:=(show IntsR w16 w16.heap.size (some ⟨rb,ro,none⟩) N' (fun x=>(((if j=i/\x<kk then R1 i x else R j x):Nat):Int)) from Z.rd rfl).here hkN
         rw [if_neg (fun h=>absurd h.2 (by omega))] at x1
         rw [if_neg (fun h=>absurd h.1 (by omega))] at y1
         have b6:lt+1<=ib:=(H.lt ib rfl).1
         have cl:Hid (∀ X,Below w16.heap.size w16 X->X.frozen? ⟨ib,io+kk,none⟩=false):=hid fun X hx=>(H.on hx).frozen _
         have ad:ib≠rb:=fun e=>by
          rcases b.out.apart i j a8.out ai.out (by omega) with h1 | h1
          ·rw [a6.out] at h1; cases h1
          ·rw [a6.out,an.out,e] at h1; exact h1 rfl
         have cq:Hid (lt≠ib/\rb≠ib):=hid ⟨by omega,fun e=>ad e.symm⟩
         have bf:Hid (w3.heap.size<=ib):=hid (by have:=am.out; omega)
         clear H Z ad b6
         obtain ⟨xv,Q⟩:=exx (R i kk)
         obtain ⟨yv,G⟩:=exx (R j kk)
         have aa:xv<P' ^ M':=by rw [Q]; exact l.out.lt i a8.out kk hkN
         have a9:yv<P' ^ M':=by rw [G]; exact l.out.lt j ai.out kk hkN
         have a7:=al.out kk
         rw [<-Q] at x1 a7;rw [<-G] at y1 a7
         obtain ⟨mv,ap⟩:=exx (mulF P' M' (fun i=>(f i).toNat) av yv)
         have bl:mv<P' ^ M':=by rw [ap]; exact HL.out.mulLt _ _
         rw [<-ap] at a7
         obtain ⟨zv,U⟩:=exx (addF P' M' xv (negF P' M' mv))
         rw [<-U] at a7
         have cs:=hid (zan aa)
         have c3:=hid (zan a9)
         have c4:=hid (zan bt)
         have ct:=hid (zan bl)
         have bz:=hid ap
         have ck:=hid U
         have cm:=hid a7
         clear Q G ap U a7 aa a9 bl
         have a5:Hid (∀ X,Below w16.heap.size w16 X->(X.cell? ⟨lt,i,none⟩=some (.slice (some ⟨ib,io,none⟩) N' id)/\X.cell? ⟨lt,j,none⟩=some (.slice (some ⟨rb,ro,none⟩) N' rd)/\X.cell? ⟨rb,ro+kk,none⟩=some (.int .i64 (yv:Nat)))):=hid fun X hx=>⟨cellS hx x0,cellS hx y0,cellS hx y1⟩
         have ba:Hid (∀ X,Below w16.heap.size w16 X->X.cell? ⟨ib,io+kk,none⟩=some (.int .i64 (xv:Nat))):=hid fun X hx=>cellS hx x1
         clear x0 y0 x1 y1
         go_upto_region 27 with fail
         refine wp_region_held_drew (S:=fun X=>X.cell? ⟨lt,i,none⟩=some (.slice (some ⟨ib,io,none⟩) N' id)/\X.cell? ⟨lt,j,none⟩=some (.slice (some ⟨rb,ro,none⟩) N' rd)/\X.cell? ⟨rb,ro+kk,none⟩=some (.int .i64 (yv:Nat))) (by kernel_rfl) (a5.out _ (Below.refl _ _).drew) (fun hHeld=>?_)
         obtain ⟨w17,hw,kb⟩:=dwx w16
         rw [<-hw] at hHeld ⊢;clear hw
         have K8:=hid kb
         clear kb
         refine tkq 0 (h:=tkq 1 (h:=tkq 2 (h:=tkq 3 (h:=tkq 4 (h:=tkq 5 (h:=tkq 6 (h:=tkq 7 (h:=tkq 8 (h:=tkq 9 (h:=tkq 10 (h:=tkq 11 (h:=tkq 13 (h:=tkq 14 (h:=tkq 15 (h:=tkq 16 (h:=tkq 17 (h:=tkq 18 (h:=tkq 19 (h:=tkq 20 (h:=tkq 21 (h:=?_)))))))))))))))))))))
         clear hHeld
         refine rdq2 12 22 (h:=fun K hK=>?_) (h2:=fun K hK=>?_)
         focus
          have u0:=ba.out _ K8.out
          go_simp
          clear u0
          refine bkq hK (a5.out _ K8.out) (h:=fun hHeld=>?_)
          clear hK K hHeld
          refine rdq 22 (h:=fun K hK=>?_)
          go_simp
          go_wp2_with fail
          refine (zaY (av:Int) (yv:Int) (HG.out.at (onS K7.out K8.out) (onS K7.out K8.out).size)).mono ?_
          rintro e w18 ⟨rfl,kb⟩
          rw [c4.out,c3.out,<-bz.out]
          have K9:=hid (onS K8.out kb)
          clear kb
          refine bkq hK (a5.out _ K9.out) (h:=fun hHeld=>?_)
          clear hK K hHeld K8
         rotate_left
         focus
          go_simp
          go_wp2_with fail
          refine (zaY (av:Int) (yv:Int) (HG.out.at (onS K7.out K8.out) (onS K7.out K8.out).size)).mono ?_
          rintro e w18 ⟨rfl,kb⟩
          rw [c4.out,c3.out,<-bz.out]
          have K9:=hid (onS K8.out kb)
          clear kb
          refine bkq hK (a5.out _ K9.out) (h:=fun hHeld=>?_)
          clear hK K hHeld
          refine rdq 12 (h:=fun K hK=>?_)
          have u0:=ba.out _ K9.out
          go_simp
          clear u0
          refine bkq hK (a5.out _ K9.out) (h:=fun hHeld=>?_)
          clear hK K hHeld K8
         all_goals
          refine rdq 23 (h:=fun K hK=>?_)
          go_simp
          go_wp2_with fail
          refine (zii (xv:Int) (mv:Int) (HG.out.at (onS K7.out K9.out) (onS K7.out K9.out).size)).mono ?_
          rintro e w19 ⟨rfl,kb⟩
          rw [cs.out,ct.out,<-ck.out]
          have a4:=hid (onS K9.out kb)
          clear kb K9
          refine bkq hK (a5.out _ a4.out) (h:=fun hHeld=>?_)
          clear hK K
          refine tkq 24 (h:=?_)
          clear hHeld
          refine rdq 25 (h:=fun K hK=>?_)
          have u0:=ba.out _ a4.out
          have zf:=cl.out _ a4.out
          go_simp
          clear u0 zf
          have hn:=((b.out.on a4.out).set (v:=i) (k:=kk) (by omega) a8.out hkN a6.out (y:=((zv:Nat):Int))).congr (x':=fun u x=>(((if u=i/\x<kk+1 then R1 i x else R u x):Nat):Int)) (fun _ _=>rfl) fun v _ x _=>by
           by_cases e1:v=i/\x=kk
           ·rw [e1.1,e1.2,zkK,if_pos ⟨rfl,by omega⟩,cm.out]
           ·rw [zhG e1]
            have h1:(v=i/\x<kk)↔(v=i/\x<kk+1):=by omega
            simp only [h1]
          have kb:=(onS K7.out a4.out).setCell (p:=⟨ib,io+kk,none⟩) bf.out (.int .i64 (zv:Nat))
          obtain ⟨a1,a2,a3⟩:=a5.out _ a4.out
          obtain ⟨n1,n2⟩:=cq.out
          replace a1:=zab (p:=⟨ib,io+kk,none⟩) (u:=.int .i64 (zv:Nat)) a1 n1;replace a2:=zab (p:=⟨ib,io+kk,none⟩) (u:=.int .i64 (zv:Nat)) a2 n1;replace a3:=zab (p:=⟨ib,io+kk,none⟩) (u:=.int .i64 (zv:Nat)) a3 n2
          obtain ⟨w20,hw⟩:=exx (w19.setCell ⟨ib,io+kk,none⟩ (.int .i64 (zv:Nat)))
          rw [<-hw] at hn kb a1 a2 a3 ⊢
          have I:lt+1<=w20.heap.size:=by rw [hw]; exact Nat.le_trans a (by rw [World.size_setCell]; exact a4.out.size)
          have HN:=hid hn
          have cj:=hid kb
          clear hn kb hw n1 n2
          refine bkq hK ⟨a1,a2,a3⟩ (h:=fun hHeld=>?_)
          clear hK K a1 a2 a3
          refine wpAnyH_done (by kernel_rfl) ?_ _
          clear hHeld
          go_wp2
          go_roundg (gk - 1)
          case measure=>omega
          case rel=>exact ⟨kk+1,by go_num,by omega,by omega,HN,I,cj.out⟩
        ·have b3:¬ (kk:Int)<(N':Int):=by omega
         obtain rfl:kk=N':=by omega
         obtain ⟨s1,s2,s3⟩:=l.out.step HL.out cp.out hij ai.out c2.out T.out bt cu.out (fun kk _=>al.out kk) L.out
         have bd:=hid s1
         have bc:Hid (SameSp (P' ^ M') (addF P' M') (mulF P' M' fun i=>(f i).toNat) kk n n (natT V) R1):=hid fun x=>(B.out x).trans (s2 x)
         have cr:Hid (mesL R1 kk n<m0):=hid (Nat.lt_of_lt_of_le (zjd L.out (by rw [c2.out]; exact s3) n a8.out) c8.out)
         have bb:Hid (lE (R1 j) kk=(t:Int)):=hid (by rw [L.out j (by omega)]; exact T.out)
         have co:Hid (IntTab w16 lt (lt+1) n F (fun _=>kk) (fun u x=>((R1 u x:Nat):Int))):=hid (b.out.congr (fun _ _=>rfl) fun v _ x hx=>by
          by_cases e:v=i
          ·rw [e,if_pos ⟨rfl,hx⟩]
          ·rw [if_neg (fun h=>e h.1),L.out v e])
         clear s1 s2 s3
         go_wp2
         go_roundg (gQ - 1)
         case measure=>omega
         case rel=>exact ⟨true,i+1,R1,rfl,by go_num,by omega,by omega,.inl ⟨rfl,cr.out⟩,bb,bd,bc,co,a,K7.out⟩
     ·have b5:¬ (i:Int)<(j:Int):=by omega
      obtain rfl:i=j:=by omega
      have q:Hid ((ch=true/\mesL R N' n<m0)∨(ch=false/\mesL R N' n<=m0/\∀ i1 j',i1<j'->j'<i+1->lE (R i1) N'≠lE (R j') N')):=hid (by
       rcases C.out with h | ⟨h1,h2,h3,h4⟩
       ·exact .inl h
       ·exact .inr ⟨h1,h2,fun i1 j' h5 h6=>by
         by_cases e:j'=i
         ·rw [e,T.out]; exact h4 i1 (by omega)
         ·exact h3 i1 j' h5 (by omega)⟩)
      go_wp2
      go_roundg (gP - 1)
      case measure=>omega
      case rel=>exact ⟨ch,i+1,R,rfl,by go_num,by omega,by omega,q,l,B,b,a,K7.out⟩
   ·have b4:¬ (j:Int)<(n:Int):=by omega
    obtain rfl:j=n:=by omega
    have q:Hid ((ch=true/\mesL R N' j<gO - 1)∨(ch=false/\∀ i j',i<j'->j'<j->lE (R i) N'≠lE (R j') N')):=hid (by
     rcases C.out with ⟨h,h2⟩ | ⟨h1,h2,h3⟩
     ·exact .inl ⟨h,by omega⟩
     ·exact .inr ⟨h1,h3⟩)
    go_wp2
    go_roundg (gO - 1)
    case measure=>omega
    case rel=>exact ⟨ch,R,rfl,q,l,B,b,a,K7.out⟩
theorem zjY (q k:Nat) (w:World) (hq:2<=q) (hq2:q<=1048576) (hk:k<=1048576) :
  Calls Tryz.prog 148 #[.int .i64 (q:Nat),.int .i64 (k:Nat),.int .i64 0] w (ExpNPost q k 0 w):=by
 have hp:Hid (0<q ^ k):=hid (Nat.pow_pos (by omega))
 have c1:¬ ((q:Int)<0):=by omega
 have c2:¬ ((k:Int)<0):=by omega
 have c3:¬ ((0:Int)<0):=by omega
 have c4:((q:Int) == 0)=false:=by simp; omega
 have c5:((0:Int) == 0)=true:=by simp
 go_enter Tryz.func148, Tryz.ntmps148
 go_wp2
 go_ret2
 exact ⟨.inr ⟨hp.out,rfl⟩,Below.refl _ _⟩
theorem zeR (q k most:Nat) (w:World) (hq:2<=q) (hq2:q<=1048576) (hk:k<=1048576) (hm2:most<=1048576) :
  Calls Tryz.prog 148 #[.int .i64 (q:Nat),.int .i64 (k:Nat),.int .i64 (most:Nat)] w (ExpNPost q k most w):=by
 by_cases h:most=0
 ·subst h
  exact zjY q k w hq hq2 hk
 ·exact zkD q k most w hq hq2 hk (by omega) hm2
theorem zbD (D:Nat->Bool) (n:Nat):cntB D (n+1)=cntB D n+if D n then 1 else 0:=rfl
theorem zjZ (q n N:Nat) (pv:Nat->Nat) (R:Nat->Nat->Nat) (T:Option Addr) (d:Nat) (w:World) (h:IntRows w T n (fun _=>N) (fun s j=>((R s j:Nat):Int))) (hS:SpanF q n N pv R) (hq:2<=q) (hq2:q<=256) (hn:n<=64) (hN:N<=64) :
  Calls Tryz.prog 75 #[.int .i64 (q:Nat),.int .i64 (N:Nat),.slice T n d] w fun e w'=>((SizeIn q n N pv R/\e=.returned (.int .i64 0))∨(¬ SizeIn q n N pv R/\e=.returned (.int .i64 8)))/\Below w.heap.size w w':=by
 have HR:=hid h
 have HS:=hid hS
 clear h hS
 obtain ⟨dA,z⟩:∃ dA:Nat->Nat,dA=fun i=>cntB (actA pv R N i) n:=⟨_,rfl⟩
 obtain ⟨dE,E⟩:∃ dE:Nat->Nat,dE=fun i=>cntB (actE pv R N i) n:=⟨_,rfl⟩
 have a7:=hid z
 have a6:=hid E
 have t:dA 0=0:=by rw [z]; exact zcl zfp n
 have F:Hid (SizeIn q n N pv R↔powS q dA (N+1)<=65536/\powS q dE N<=262144):=hid (by rw [z,E]; exact Iff.rfl)
 have a8:=hid t
 clear z E t
 go_enter Tryz.func75, Tryz.ntmps75
 go_upto_region 3 with fail
 go_loopg [7,8,21] N (fun gg nv ev iv wx=>∃ i nd ed:Nat,iv=.int .i64 (i:Nat)/\nv=.int .i64 (nd:Nat)/\ev=.int .i64 (ed:Nat)/\i<=N/\N<=i+gg/\Hid (nd=powS q dA (i+1))/\Hid (ed=powS q dE i)/\nd<=65536/\ed<=262144/\Below w.heap.size w wx)
 case atStart=>exact ⟨0,1,0,rfl,rfl,rfl,by omega,by omega,hid (by show 1=0+q ^ dA 0; rw [a8.out]; simp),hid rfl,by omega,by omega,Below.refl _ _⟩
 obtain ⟨i,nd,ed,rfl,rfl,rfl,hi,ac,M,O,ab,ae,v⟩:=hrel
 have ad:(0:Int)<=(i:Int):=by omega
 have HB:=hid v
 obtain ⟨w3,V⟩:=exx wr
 subst V
 clear v
 by_cases hlt:i<N
 rotate_left
 ·have D:¬ (i:Int)<(N:Int):=by omega
  obtain rfl:i=N:=by omega
  have a1:Hid (SizeIn q n i pv R):=hid (F.out.2 ⟨by have:=M.out; omega,by have:=O.out; omega⟩)
  go_wp2
  go_ret
  exact ⟨.inl ⟨a1.out,rfl⟩,HB.out⟩
 have D:(i:Int)<(N:Int):=by omega
 obtain ⟨gO,Y⟩:=exx gk
 subst Y
 go_upto_region 7 with fail
 go_loopg [10,11,26] n (fun gg av bv sv wx=>∃ s a b:Nat,sv=.int .i64 (s:Nat)/\av=.int .i64 (a:Nat)/\bv=.int .i64 (b:Nat)/\s<=n/\n<=s+gg/\Hid (a=cntB (actA pv R N (i+1)) s)/\Hid (b=cntB (actE pv R N i) s)/\a<=s/\b<=s/\Below w.heap.size w wx)
 case atStart=>exact ⟨0,0,0,rfl,rfl,rfl,by omega,by omega,hid rfl,hid rfl,by omega,by omega,HB.out⟩
 clear HB
 obtain ⟨s,a,b,rfl,rfl,rfl,hs,a9,HA,HE,ag,af,v⟩:=hrel
 have aa:(0:Int)<=(s:Int):=by omega
 have HB:=hid v
 obtain ⟨w4,U⟩:=exx wr
 subst U
 clear v
 by_cases hsn:s<n
 ·have B:(s:Int)<(n:Int):=by omega
  obtain ⟨b1,o1,RA,rc,a0,Z,x0,h1,h2,h3,h4⟩:=HR.out s hsn
  subst a0
  replace x0:=cellS HB.out x0
  have G:=hid h3
  clear h3 h4 h1 h2 Z
  go_wp2_with fail
  clear x0
  refine (zd8 RA N rc (R s) w4 (G.out.on HB.out) (by omega)).mono ?_
  rintro e w5 ⟨rfl,kb⟩
  replace HB:=hid (onS HB.out kb);clear kb;rw [HS.out.first hsn]
  have C:=HS.out.pos hsn
  have m:actA pv R N (i+1) s=true↔(pv s<=i/\(i:Int)<lE (R s) N):=by rw [zaO]; omega
  have c:actE pv R N i s=true↔(pv s<=i/\(i:Int)<=lE (R s) N):=zbO i s
  obtain ⟨p,hp⟩:=exx (pv s)
  obtain ⟨l,hl⟩:=exx (lE (R s) N)
  rw [<-hp,<-hl] at C m c ⊢;clear hp hl
  by_cases g1:p<=i
  rotate_left
  ·have g1':¬ (p:Int)<=(i:Int):=by omega
   have g1d:decide ((p:Int)<=(i:Int))=false:=by simp; omega
   have r:actA pv R N (i+1) s=false:=by
    cases hb:actA pv R N (i+1) s with
    | false=>rfl
    | true=>exact absurd (m.1 hb).1 g1
   have o:Hid (a=cntB (actA pv R N (i+1)) (s+1)):=hid (by rw [zbD,r,<-HA.out]; rfl)
   have u:actE pv R N i s=false:=by
    cases hb:actE pv R N i s with
    | false=>rfl
    | true=>exact absurd (c.1 hb).1 g1
   have k:Hid (b=cntB (actE pv R N i) (s+1)):=hid (by rw [zbD,u,<-HE.out]; rfl)
   clear m c r u
   go_wp2
   go_roundg (gk - 1)
   case measure=>omega
   case rel=>exact ⟨s+1,a,b,by go_num,rfl,rfl,by omega,by omega,o,k,by omega,by omega,HB.out⟩
  have g1':(p:Int)<=(i:Int):=by omega
  have g1d:decide ((p:Int)<=(i:Int))=true:=by simp; omega
  by_cases g2:(i:Int)<l
  ·have g3:(i:Int)<=l:=by omega
   have g2d:decide ((i:Int)<l)=true:=by simp; omega
   have g3d:decide ((i:Int)<=l)=true:=by simp; omega
   have o:Hid (a+1=cntB (actA pv R N (i+1)) (s+1)):=hid (by rw [zbD,m.2 ⟨g1,g2⟩,<-HA.out]; rfl)
   have k:Hid (b+1=cntB (actE pv R N i) (s+1)):=hid (by rw [zbD,c.2 ⟨g1,g3⟩,<-HE.out]; rfl)
   clear m c
   go_wp2
   go_roundg (gk - 1)
   case measure=>omega
   case rel=>exact ⟨s+1,a+1,b+1,by go_num,by go_num,by go_num,by omega,by omega,o,k,by omega,by omega,HB.out⟩
  have g2d:decide ((i:Int)<l)=false:=by simp; omega
  have r:actA pv R N (i+1) s=false:=by
   cases hb:actA pv R N (i+1) s with
   | false=>rfl
   | true=>exact absurd (m.1 hb).2 g2
  have o:Hid (a=cntB (actA pv R N (i+1)) (s+1)):=hid (by rw [zbD,r,<-HA.out]; rfl)
  by_cases g3:(i:Int)<=l
  ·have g3d:decide ((i:Int)<=l)=true:=by simp; omega
   have k:Hid (b+1=cntB (actE pv R N i) (s+1)):=hid (by rw [zbD,c.2 ⟨g1,g3⟩,<-HE.out]; rfl)
   clear m c r
   go_wp2
   go_roundg (gk - 1)
   case measure=>omega
   case rel=>exact ⟨s+1,a,b+1,by go_num,rfl,by go_num,by omega,by omega,o,k,by omega,by omega,HB.out⟩
  have g3d:decide ((i:Int)<=l)=false:=by simp; omega
  have u:actE pv R N i s=false:=by
   cases hb:actE pv R N i s with
   | false=>rfl
   | true=>exact absurd (c.1 hb).2 g3
  have k:Hid (b=cntB (actE pv R N i) (s+1)):=hid (by rw [zbD,u,<-HE.out]; rfl)
  clear m c r u
  go_wp2
  go_roundg (gk - 1)
  case measure=>omega
  case rel=>exact ⟨s+1,a,b,by go_num,rfl,rfl,by omega,by omega,o,k,by omega,by omega,HB.out⟩
 have B:¬ (s:Int)<(n:Int):=by omega
 obtain rfl:s=n:=by omega
 obtain ⟨mo,K⟩:∃ mo:Nat,mo=65536 - nd:=⟨_,rfl⟩
 have m1:wrap64 ((65536:Int) - (nd:Int))=(mo:Int):=by unfold wrap64; omega
 have m2:IntKind.i64.wrap ((65536:Int) - (nd:Int))=(mo:Int):=by rw [IntWalk.i64_in _ (by omega)]; omega
 obtain ⟨me,L⟩:∃ me:Nat,me=262144 - ed:=⟨_,rfl⟩
 have m3:wrap64 ((262144:Int) - (ed:Int))=(me:Int):=by unfold wrap64; omega
 have m4:IntKind.i64.wrap ((262144:Int) - (ed:Int))=(me:Int):=by rw [IntWalk.i64_in _ (by omega)]; omega
 have a3:=hid K
 have a4:=hid L
 have W:mo<=65536:=by omega
 have X:me<=262144:=by omega
 have o:Hid (a=dA (i+1)):=hid (by rw [a7.out]; exact HA.out)
 have k:Hid (b=dE i):=hid (by rw [a6.out]; exact HE.out)
 clear K L HA HE
 go_wp2_with fail
 refine (zeR q a mo w4 hq (by omega) (by omega) (by omega)).mono ?_
 rintro e w5 ⟨hx,kb⟩
 have S:∃ x1 e1:Int,e=.returned (.tuple #[.int .i64 x1,.int .i64 e1])/\((q ^ a<=mo/\x1=(q ^ a:Nat)/\e1=0)∨(mo<q ^ a/\e1=8)):=by
  rcases hx with ⟨h1,h2⟩ | ⟨h1,h2⟩
  ·exact ⟨_,_,h2,.inl ⟨h1,rfl,rfl⟩⟩
  ·exact ⟨_,_,h2,.inr ⟨h1,rfl⟩⟩
 obtain ⟨x1,e1,rfl,J⟩:=S
 have HX:=hid J
 replace HB:=hid (onS HB.out kb);clear hx J kb
 go_wp2_with fail
 refine (zeR q b me w5 hq (by omega) (by omega) (by omega)).mono ?_
 rintro e w6 ⟨hy,kb⟩
 have Q:∃ y1 f1:Int,e=.returned (.tuple #[.int .i64 y1,.int .i64 f1])/\((q ^ b<=me/\y1=(q ^ b:Nat)/\f1=0)∨(me<q ^ b/\f1=8)):=by
  rcases hy with ⟨h1,h2⟩ | ⟨h1,h2⟩
  ·exact ⟨_,_,h2,.inl ⟨h1,rfl,rfl⟩⟩
  ·exact ⟨_,_,h2,.inr ⟨h1,rfl⟩⟩
 obtain ⟨y1,f1,rfl,I⟩:=Q
 have HY:=hid I
 replace HB:=hid (onS HB.out kb);clear hy I kb m1 m2 m3 m4
 have eA:powS q dA (i+2)=powS q dA (i+1)+q ^ dA (i+1):=rfl
 have eE:powS q dE (i+1)=powS q dE i+q ^ dE i:=rfl
 have mA:powS q dA (i+2)<=powS q dA (N+1):=by
  have:=zcT (q:=q) (d:=dA) (i+2) (N+1 - (i+2))
  rwa [show i+2+(N+1 - (i+2))=N+1 by omega] at this
 have mE:powS q dE (i+1)<=powS q dE N:=by
  have:=zcT (q:=q) (d:=dE) (i+1) (N - (i+1))
  rwa [show i+1+(N - (i+1))=N by omega] at this
 have b1:=M.out
 have b2:=O.out
 have b3:=o.out
 have b4:=k.out
 have b5:=a3.out
 have b6:=a4.out
 rcases HX.out with ⟨x2,rfl,rfl⟩ | ⟨x2,rfl⟩
 rotate_left
 ·have P:((8:Int) != 0)=true:=by simp
  have H:Hid (¬ SizeIn q s N pv R):=hid fun g=>by
   have:=(F.out.1 g).1
   rw [b3] at x2
   omega
  clear HX HY b1 b2 b3 b4 eA eE mA mE
  go_wp2
  go_ret
  exact ⟨.inr ⟨H.out,rfl⟩,HB.out⟩
 have hz:((0:Int) != 0)=false:=by simp
 rcases HY.out with ⟨y2,rfl,rfl⟩ | ⟨y2,rfl⟩
 ·obtain ⟨qa,y⟩:∃ qa,qa=q ^ a:=⟨_,rfl⟩
  obtain ⟨qb,x⟩:=exx (q ^ b)
  have a2:Hid (nd+qa=powS q dA (i+1+1)):=hid (by rw [y,b3,b1,<-b3]; rw [show i+1+1=i+2 by omega,eA,b3])
  have a5:Hid (ed+qb=powS q dE (i+1)):=hid (by rw [x,b4,b2]; exact eE.symm)
  rw [<-y] at x2;rw [<-x] at y2;rw [<-y,<-x];clear y x HX HY b1 b2 b3 b4 eA eE mA mE
  go_wp2
  go_roundg (gO - 1)
  case measure=>omega
  case rel=>exact ⟨i+1,nd+qa,ed+qb,by go_num,by go_num,by go_num,by omega,by omega,a2,a5,by omega,by omega,HB.out⟩
 have P:((8:Int) != 0)=true:=by simp
 have H:Hid (¬ SizeIn q s N pv R):=hid fun g=>by
  have:=(F.out.1 g).2
  rw [b4] at y2
  omega
 clear HX HY b1 b2 b3 b4 eA eE mA mE
 go_wp2
 go_ret
 exact ⟨.inr ⟨H.out,rfl⟩,HB.out⟩
def stepE (q:Nat) (add mul:Nat->Nat->Nat) (pv:Nat->Nat) (R:Nat->Nat->Nat) (N i t:Nat) (e:Int × Int × Int) (a:Nat):Int × Int × Int :=
 (if pv t<i then e.1*(q:Nat)+(a:Nat) else e.1,((add e.2.1.toNat (mul a (R t i)):Nat):Int),if (i:Int)<lE (R t) N then e.2.2*(q:Nat)+(a:Nat) else e.2.2)
def SecX (q:Nat) (add mul:Nat->Nat->Nat) (pv:Nat->Nat) (R:Nat->Nat->Nat) (N i t:Nat) (x:Nat->Int × Int × Int):Prop :=
 ∀ c:Nat->Nat,(∀ s,c s<q)->x (packB q (actE pv R N i) c t)=secE q add mul pv R N t i c
structure SecM (q:Nat) (add mul:Nat->Nat->Nat) (n N:Nat) (pv:Nat->Nat) (R:Nat->Nat->Nat) (i m:Nat) (y:Nat->Int × Int × Int):Prop where
 el:m=q ^ cntB (actE pv R N i) n
 out:∀ c:Nat->Nat,(∀ s,c s<q)->∃ j,j<m/\y j=secE q add mul pv R N n i c
 inn:∀ j,j<m->∃ c:Nat->Nat,(∀ s,c s<q)/\y j=secE q add mul pv R N n i c
 srt:∀ a b,a<b->b<m->ltE (y a) (y b)
section
variable {q n N:Nat} {add mul:Nat->Nat->Nat} {pv:Nat->Nat} {R:Nat->Nat->Nat} {i:Nat}
theorem ziM:SecX q add mul pv R N i 0 (fun _=>(0,0,0)):=fun _ _=>rfl
theorem ziN (hL:FieldLaws q add mul) (h:SpanF q n N pv R) (hi:i<N) {t:Nat} (ht:t<n) {x:Nat->Int × Int × Int} (hA:actE pv R N i t=false) (hx:SecX q add mul pv R N i t x):SecX q add mul pv R N i (t+1) x:=by
 have hR:R t i=0:=by
  by_cases g1:pv t<=i
  ·by_cases g2:(i:Int)<=lE (R t) N
   ·rw [(zbO i t).2 ⟨g1,g2⟩] at hA
    cases hA
   ·exact zbs (n:=N) hi (by omega)
  ·exact h.low t ht i (by omega)
 have hn:¬ (pv t<=i/\(i:Int)<=lE (R t) N):=fun g=>by rw [(zbO i t).2 g] at hA; cases hA
 have h1:actA pv R N i t=false:=by
  cases hb:actA pv R N i t with
  | false=>rfl
  | true=>have:=(zaO i t).1 hb; exact absurd ⟨by omega,this.2⟩ hn
 have h2:actA pv R N (i+1) t=false:=by
  cases hb:actA pv R N (i+1) t with
  | false=>rfl
  | true=>have:=(zaO (i+1) t).1 hb; exact absurd ⟨by omega,by omega⟩ hn
 intro c hc
 have e0:packB q (actE pv R N i) c (t+1)=packB q (actE pv R N i) c t:=by
  show (if actE pv R N i t then packB q (actE pv R N i) c t*q+c t else packB q (actE pv R N i) c t)=_
  rw [hA]; rfl
 have e1:packB q (actA pv R N i) c (t+1)=packB q (actA pv R N i) c t:=by
  show (if actA pv R N i t then packB q (actA pv R N i) c t*q+c t else packB q (actA pv R N i) c t)=_
  rw [h1]; rfl
 have e2:packB q (actA pv R N (i+1)) c (t+1)=packB q (actA pv R N (i+1)) c t:=by
  show (if actA pv R N (i+1) t then packB q (actA pv R N (i+1)) c t*q+c t else packB q (actA pv R N (i+1)) c t)=_
  rw [h2]; rfl
 have e3:spE add mul R c (t+1) i=spE add mul R c t i:=by
  show add (spE add mul R c t i) (mul (c t) (R t i))=_
  rw [hR,hL.mulZero (hc t),hL.addComm,hL.zeroAdd _ (za0 hL _ _ _)]
 rw [e0,hx c hc]
 unfold secE
 rw [e1,e2,e3]
theorem ziO {t:Nat} {x:Nat->Int × Int × Int} (hA:actE pv R N i t=true) (hx:SecX q add mul pv R N i t x):SecX q add mul pv R N i (t+1) (fun y=>stepE q add mul pv R N i t (x (y / q)) (y % q)):=by
 obtain ⟨g1,g2⟩:=(zbO i t).1 hA
 intro c hc
 have hq:0<q:=by have:=hc 0; omega
 have e0:packB q (actE pv R N i) c (t+1)=packB q (actE pv R N i) c t*q+c t:=by
  show (if actE pv R N i t then packB q (actE pv R N i) c t*q+c t else packB q (actE pv R N i) c t)=_
  rw [hA]; rfl
 have d1:(packB q (actE pv R N i) c t*q+c t) / q=packB q (actE pv R N i) c t:=by
  rw [Nat.mul_comm,Nat.mul_add_div hq,Nat.div_eq_of_lt (hc t),Nat.add_zero]
 have d2:(packB q (actE pv R N i) c t*q+c t) % q=c t:=by
  rw [Nat.mul_add_mod_self_right,Nat.mod_eq_of_lt (hc t)]
 show stepE q add mul pv R N i t (x (packB q (actE pv R N i) c (t+1) / q)) (packB q (actE pv R N i) c (t+1) % q)=_
 rw [e0,d1,d2,hx c hc]
 unfold stepE secE
 have e1:packB q (actA pv R N i) c (t+1)=if pv t<i then packB q (actA pv R N i) c t*q+c t else packB q (actA pv R N i) c t:=by
  show (if actA pv R N i t then packB q (actA pv R N i) c t*q+c t else packB q (actA pv R N i) c t)=_
  by_cases g:pv t<i
  ·rw [(zaO i t).2 ⟨g,g2⟩,if_pos g]; rfl
  have:actA pv R N i t=false:=by
   cases hb:actA pv R N i t with
   | false=>rfl
   | true=>exact absurd ((zaO i t).1 hb).1 g
  rw [this,if_neg g]; rfl
 have e2:packB q (actA pv R N (i+1)) c (t+1)=if (i:Int)<lE (R t) N then packB q (actA pv R N (i+1)) c t*q+c t else packB q (actA pv R N (i+1)) c t:=by
  show (if actA pv R N (i+1) t then packB q (actA pv R N (i+1)) c t*q+c t else packB q (actA pv R N (i+1)) c t)=_
  by_cases g:(i:Int)<lE (R t) N
  ·rw [(zaO (i+1) t).2 ⟨by omega,by omega⟩,if_pos g]; rfl
  have:actA pv R N (i+1) t=false:=by
   cases hb:actA pv R N (i+1) t with
   | false=>rfl
   | true=>have:=((zaO (i+1) t).1 hb).2; omega
  rw [this,if_neg g]; rfl
 rw [e1,e2]
 refine Prod.ext ?_ (Prod.ext ?_ ?_)
 ·show (if pv t<i then _ else _)=_
  split <;> push_cast <;> rfl
 ·show ((add ((spE add mul R c t i:Nat):Int).toNat (mul (c t) (R t i)):Nat):Int)=((add (spE add mul R c t i) (mul (c t) (R t i)):Nat):Int)
  rw [Int.toNat_natCast]
 ·show (if (i:Int)<lE (R t) N then _ else _)=_
  split <;> push_cast <;> rfl
theorem zkL (hL:FieldLaws q add mul) {t:Nat} {x:Nat->Int × Int × Int} (hx:SecX q add mul pv R N i t x) {y:Nat} (hy:y<q ^ cntB (actE pv R N i) t) :
  0<=(x y).1/\(x y).1<((q ^ cntB (actA pv R N i) t:Nat):Int)/\0<=(x y).2.1/\(x y).2.1<(q:Int)/\0<=(x y).2.2/\(x y).2.2<((q ^ cntB (actA pv R N (i+1)) t:Nat):Int):=by
 obtain ⟨c,h1,_,h3⟩:=zaP (by have:=hL.two; omega) t y hy
 have l1:=zbL (D:=actA pv R N i) t fun s _=>h1 s
 have l2:=zbL (D:=actA pv R N (i+1)) t fun s _=>h1 s
 have l3:=za0 hL (V:=R) c t i
 rw [<-h3,hx c h1]
 unfold secE
 refine ⟨by show (0:Int)<=((_:Nat):Int); omega,by show (((_:Nat):Int))<((_:Nat):Int); omega,by show (0:Int)<=((_:Nat):Int); omega,by show (((_:Nat):Int))<((_:Nat):Int); omega,by show (0:Int)<=((_:Nat):Int); omega,by show (((_:Nat):Int))<((_:Nat):Int); omega⟩
theorem zhI {D E:Nat->Bool} (h:∀ s,D s=true->E s=true):∀ t,cntB D t<=cntB E t
 | 0=>Nat.le_refl _
 | t+1=>by
  have ih:=zhI h t
  show cntB D t+(if D t then 1 else 0)<=cntB E t+if E t then 1 else 0
  cases hD:D t with
  | false=>cases E t <;> simp <;> omega
  | true=>rw [h t hD]; simp; omega
theorem zhJ (D:Nat->Bool):∀ t d,cntB D t<=cntB D (t+d)
 | _,0=>Nat.le_refl _
 | t,d+1=>by
  have:=zhJ D t d
  show cntB D t<=cntB D (t+d)+if D (t+d) then 1 else 0
  omega
theorem zkM (hL:FieldLaws q add mul) (h:SpanF q n N pv R) (hi:i<N) {x y:Nat->Int × Int × Int} (hx:SecX q add mul pv R N i n x)
  (hp:((List.range (q ^ cntB (actE pv R N i) n)).map y).Perm ((List.range (q ^ cntB (actE pv R N i) n)).map x)) (hs:∀ a b,a<b->b<q ^ cntB (actE pv R N i) n->¬ ltE (y b) (y a)) :
  SecM q add mul n N pv R i (q ^ cntB (actE pv R N i) n) y:=by
 have hq:0<q:=by have:=hL.two; omega
 have d:∀ j,j<q ^ cntB (actE pv R N i) n->∃ c:Nat->Nat,(∀ s,c s<q)/\x j=secE q add mul pv R N n i c:=fun j hj=>by
  obtain ⟨c,h1,_,h3⟩:=zaP hq n j hj
  exact ⟨c,h1,by rw [<-h3,hx c h1]⟩
 have k:((((List.range (q ^ cntB (actE pv R N i) n)).map x)).map fun t=>(t.1,t.2.1)).Nodup:=by
  rw [List.map_map]
  refine zag.2 fun a b hab hb e=>?_
  obtain ⟨c,h1,_,h3⟩:=zaP hq (D:=actE pv R N i) n a (by omega)
  obtain ⟨c',g,_,m⟩:=zaP hq (D:=actE pv R N i) n b hb
  simp only [Function.comp,Prod.mk.injEq] at e
  rw [<-h3,<-m,hx c h1,hx c' g] at e
  have:=zjX (q:=q) (zjW hL h hi h1 g e.1 e.2)
  omega
 have f:=((hp.map fun t=>(t.1,t.2.1)).nodup_iff).2 k
 rw [List.map_map] at f
 refine ⟨rfl,fun c hc=>?_,fun j hj=>?_,fun a b hab hb=>?_⟩
 ·have:=hp.mem_iff.2 (List.mem_map.2 ⟨packB q (actE pv R N i) c n,List.mem_range.2 (zbL n fun s _=>hc s),rfl⟩)
  obtain ⟨j,hj,e⟩:=List.mem_map.1 this
  exact ⟨j,List.mem_range.1 hj,by rw [e,hx c hc]⟩
 ·have:=hp.mem_iff.1 (List.mem_map.2 ⟨j,List.mem_range.2 hj,rfl⟩)
  obtain ⟨p,l,e⟩:=List.mem_map.1 this
  obtain ⟨c,h1,h2⟩:=d p (List.mem_range.1 l)
  exact ⟨c,h1,by rw [<-e,h2]⟩
 have h3:=zag.1 f a b hab hb
 have h4:=hs a b hab hb
 simp only [Function.comp,ne_eq,Prod.mk.injEq] at h3
 unfold ltE at *
 omega
end
end Go.Proofs.YtgekjfpapmlndaaGreat
namespace Go.Proofs
open Go.Shelf
def Tryz.sortInts_ren:Go.Shelf.Ren:=⟨fun | 6 => 156 | 15 => 202 | 14 => 208 | 28 => 219 | 29 => 237 | 20 => 242 | 21 => 243 | 22 => 244 | 23 => 245 | 24 => 246 | 25 => 247 | 26 => 248 | 27 => 249 | 46 => 265 | 47 => 255 | 48 => 256 | 49 => 266 | 50 => 267 | 57 => 269 | n=>n,fun | 22 => 22 | 24 => 3 | 25 => 123 | 3 => 3 | 39 => 200 | 0 => 0 | 53 => 109 | 55 => 71 | 4 => 4 | 46 => 253 | 45 => 252 | 50 => 130 | 5 => 5 | 9 => 9 | 66 => 268 | 70 => 272 | 76 => 280 | 77 => 101 | n=>n,fun | n=>n⟩
theorem Tryz.sortInts:Go.Proofs.SlLaysF.n6 Tryz.prog Tryz.sortInts_ren:={
 mixed:=by kernel_rfl
 f6:=⟨Tryz.f156.name,by decide,Tryz.func156.trans (congrArg some (by kernel_rfl))⟩
 f14:=⟨Tryz.f208.name,by decide,Tryz.func208.trans (congrArg some (by kernel_rfl))⟩
 f15:=Tryz.func202.trans (congrArg some (by kernel_rfl))
 f20:=⟨Tryz.f242.name,by decide,Tryz.func242.trans (congrArg some (by kernel_rfl))⟩
 f21:=⟨Tryz.f243.name,by decide,Tryz.func243.trans (congrArg some (by kernel_rfl))⟩
 f22:=⟨Tryz.f244.name,by decide,Tryz.func244.trans (congrArg some (by kernel_rfl))⟩
 f23:=⟨Tryz.f245.name,by decide,Tryz.func245.trans (congrArg some (by kernel_rfl))⟩
 f24:=⟨Tryz.f246.name,by decide,Tryz.func246.trans (congrArg some (by kernel_rfl))⟩
 f25:=⟨Tryz.f247.name,by decide,Tryz.func247.trans (congrArg some (by kernel_rfl))⟩
 f26:=⟨Tryz.f248.name,by decide,Tryz.func248.trans (congrArg some (by kernel_rfl))⟩
 f27:=⟨Tryz.f249.name,by decide,Tryz.func249.trans (congrArg some (by kernel_rfl))⟩
 f28:=Tryz.func219.trans (congrArg some (by kernel_rfl))
 f29:=Tryz.func237.trans (congrArg some (by kernel_rfl))
 f46:=⟨Tryz.f265.name,by decide,Tryz.func265.trans (congrArg some (by kernel_rfl))⟩
 f47:=Tryz.func255.trans (congrArg some (by kernel_rfl))
 f48:=Tryz.func256.trans (congrArg some (by kernel_rfl))
 f49:=⟨Tryz.f266.name,by decide,Tryz.func266.trans (congrArg some (by kernel_rfl))⟩
 f50:=⟨Tryz.f267.name,by decide,Tryz.func267.trans (congrArg some (by kernel_rfl))⟩
 f57:=⟨Tryz.f269.name,by decide,Tryz.func269.trans (congrArg some (by kernel_rfl))⟩
 t0:=Tryz.underlying0
 a0:=Tryz.isAgg0
 z0:=Tryz.sizeOf0
 v0:=Tryz.zeroValue0
 t3:=Tryz.underlying3
 a3:=Tryz.isAgg3
 z3:=Tryz.sizeOf3
 v3:=Tryz.zeroValue3
 t4:=Tryz.underlying4
 a4:=Tryz.isAgg4
 z4:=Tryz.sizeOf4
 v4:=Tryz.zeroValue4
 t5:=Tryz.underlying5
 a5:=Tryz.isAgg5
 z5:=Tryz.sizeOf5
 v5:=Tryz.zeroValue5
 t9:=Tryz.underlying9
 a9:=Tryz.isAgg9
 z9:=Tryz.sizeOf9
 v9:=Tryz.zeroValue9
 t22:=Tryz.underlying22
 a22:=Tryz.isAgg22
 z22:=Tryz.sizeOf22
 v22:=Tryz.zeroValue22
 a24:=Tryz.isAgg3
 z24:=Tryz.sizeOf3
 t25:=Tryz.underlying123
 a25:=Tryz.isAgg123
 z25:=Tryz.sizeOf123
 v25:=Tryz.zeroValue123
 t39:=Tryz.underlying200
 a39:=Tryz.isAgg200
 z39:=Tryz.sizeOf200
 v39:=Tryz.zeroValue200
 t45:=Tryz.underlying252
 a45:=Tryz.isAgg252
 z45:=Tryz.sizeOf252
 v45:=Tryz.zeroValue252
 t46:=Tryz.underlying253
 a46:=Tryz.isAgg253
 z46:=Tryz.sizeOf253
 v46:=Tryz.zeroValue253
 t50:=Tryz.underlying130
 a50:=Tryz.isAgg130
 z50:=Tryz.sizeOf130
 v50:=Tryz.zeroValue130
 t53:=Tryz.underlying109
 a53:=Tryz.isAgg109
 z53:=Tryz.sizeOf109
 v53:=Tryz.zeroValue109
 t55:=Tryz.underlying71
 a55:=Tryz.isAgg71
 z55:=Tryz.sizeOf71
 v55:=Tryz.zeroValue71
 t66:=Tryz.underlying268
 a66:=Tryz.isAgg268
 z66:=Tryz.sizeOf268
 v66:=Tryz.zeroValue268
 t70:=Tryz.underlying272
 a70:=Tryz.isAgg272
 z70:=Tryz.sizeOf272
 v70:=Tryz.zeroValue272
 t76:=Tryz.underlying280
 a76:=Tryz.isAgg280
 z76:=Tryz.sizeOf280
 v76:=Tryz.zeroValue280
 t77:=Tryz.underlying101
 a77:=Tryz.isAgg101
 z77:=Tryz.sizeOf101
 v77:=Tryz.zeroValue101 }
def Tryz.sortEdges_ren:Go.Shelf.Ren:=⟨fun | 6 => 150 | 15 => 202 | 14 => 201 | 28 => 219 | 29 => 237 | 20 => 229 | 21 => 230 | 22 => 231 | 23 => 232 | 24 => 233 | 25 => 234 | 26 => 235 | 27 => 236 | 46 => 254 | 47 => 255 | 48 => 256 | 49 => 257 | 50 => 258 | 57 => 268 | n=>n,fun | 22 => 86 | 24 => 90 | 25 => 184 | 3 => 3 | 39 => 200 | 0 => 0 | 53 => 109 | 55 => 71 | 4 => 4 | 46 => 253 | 45 => 252 | 50 => 130 | 5 => 5 | 9 => 9 | 66 => 268 | 70 => 272 | 76 => 280 | 77 => 101 | n=>n,fun | n=>n⟩
theorem Tryz.sortEdges:Go.Proofs.SlLaysF0.n6 Tryz.prog Tryz.sortEdges_ren:={
 mixed:=by kernel_rfl
 f6:=⟨Tryz.f150.name,by decide,Tryz.func150.trans (congrArg some (by kernel_rfl))⟩
 f14:=⟨Tryz.f201.name,by decide,Tryz.func201.trans (congrArg some (by kernel_rfl))⟩
 f15:=Tryz.func202.trans (congrArg some (by kernel_rfl))
 f20:=⟨Tryz.f229.name,by decide,Tryz.func229.trans (congrArg some (by kernel_rfl))⟩
 f21:=⟨Tryz.f230.name,by decide,Tryz.func230.trans (congrArg some (by kernel_rfl))⟩
 f22:=⟨Tryz.f231.name,by decide,Tryz.func231.trans (congrArg some (by kernel_rfl))⟩
 f23:=⟨Tryz.f232.name,by decide,Tryz.func232.trans (congrArg some (by kernel_rfl))⟩
 f24:=⟨Tryz.f233.name,by decide,Tryz.func233.trans (congrArg some (by kernel_rfl))⟩
 f25:=⟨Tryz.f234.name,by decide,Tryz.func234.trans (congrArg some (by kernel_rfl))⟩
 f26:=⟨Tryz.f235.name,by decide,Tryz.func235.trans (congrArg some (by kernel_rfl))⟩
 f27:=⟨Tryz.f236.name,by decide,Tryz.func236.trans (congrArg some (by kernel_rfl))⟩
 f28:=Tryz.func219.trans (congrArg some (by kernel_rfl))
 f29:=Tryz.func237.trans (congrArg some (by kernel_rfl))
 f46:=⟨Tryz.f254.name,by decide,Tryz.func254.trans (congrArg some (by kernel_rfl))⟩
 f47:=Tryz.func255.trans (congrArg some (by kernel_rfl))
 f48:=Tryz.func256.trans (congrArg some (by kernel_rfl))
 f49:=⟨Tryz.f257.name,by decide,Tryz.func257.trans (congrArg some (by kernel_rfl))⟩
 f50:=⟨Tryz.f258.name,by decide,Tryz.func258.trans (congrArg some (by kernel_rfl))⟩
 f57:=⟨Tryz.f268.name,by decide,Tryz.func268.trans (congrArg some (by kernel_rfl))⟩
 t0:=Tryz.underlying0
 a0:=Tryz.isAgg0
 z0:=Tryz.sizeOf0
 v0:=Tryz.zeroValue0
 t3:=Tryz.underlying3
 a3:=Tryz.isAgg3
 z3:=Tryz.sizeOf3
 v3:=Tryz.zeroValue3
 t4:=Tryz.underlying4
 a4:=Tryz.isAgg4
 z4:=Tryz.sizeOf4
 v4:=Tryz.zeroValue4
 t5:=Tryz.underlying5
 a5:=Tryz.isAgg5
 z5:=Tryz.sizeOf5
 v5:=Tryz.zeroValue5
 t9:=Tryz.underlying9
 a9:=Tryz.isAgg9
 z9:=Tryz.sizeOf9
 v9:=Tryz.zeroValue9
 t22:=Tryz.underlying86
 a22:=Tryz.isAgg86
 z22:=Tryz.sizeOf86
 v22:=Tryz.zeroValue86
 t25:=Tryz.underlying184
 a25:=Tryz.isAgg184
 z25:=Tryz.sizeOf184
 v25:=Tryz.zeroValue184
 t39:=Tryz.underlying200
 a39:=Tryz.isAgg200
 z39:=Tryz.sizeOf200
 v39:=Tryz.zeroValue200
 t45:=Tryz.underlying252
 a45:=Tryz.isAgg252
 z45:=Tryz.sizeOf252
 v45:=Tryz.zeroValue252
 t46:=Tryz.underlying253
 a46:=Tryz.isAgg253
 z46:=Tryz.sizeOf253
 v46:=Tryz.zeroValue253
 t50:=Tryz.underlying130
 a50:=Tryz.isAgg130
 z50:=Tryz.sizeOf130
 v50:=Tryz.zeroValue130
 t53:=Tryz.underlying109
 a53:=Tryz.isAgg109
 z53:=Tryz.sizeOf109
 v53:=Tryz.zeroValue109
 t55:=Tryz.underlying71
 a55:=Tryz.isAgg71
 z55:=Tryz.sizeOf71
 v55:=Tryz.zeroValue71
 t66:=Tryz.underlying268
 a66:=Tryz.isAgg268
 z66:=Tryz.sizeOf268
 v66:=Tryz.zeroValue268
 t70:=Tryz.underlying272
 a70:=Tryz.isAgg272
 z70:=Tryz.sizeOf272
 v70:=Tryz.zeroValue272
 t76:=Tryz.underlying280
 a76:=Tryz.isAgg280
 z76:=Tryz.sizeOf280
 v76:=Tryz.zeroValue280
 t77:=Tryz.underlying101
 a77:=Tryz.isAgg101
 z77:=Tryz.sizeOf101
 v77:=Tryz.zeroValue101 }
def Tryz.cmpInt_ren:Go.Shelf.Ren:=⟨fun | 5 => 157 | 7 => 209 | n=>n,fun | 22 => 3 | 3 => 3 | 4 => 4 | n=>n,fun | n=>n⟩
theorem Tryz.cmpInt:Go.Proofs.SlLaysC2.n5 Tryz.prog Tryz.cmpInt_ren:={
 mixed:=by kernel_rfl
 f5:=⟨Tryz.f157.name,by decide,Tryz.func157.trans (congrArg some (by kernel_rfl))⟩
 f7:=⟨Tryz.f209.name,by decide,Tryz.func209.trans (congrArg some (by kernel_rfl))⟩
 t3:=Tryz.underlying3
 a3:=Tryz.isAgg3
 z3:=Tryz.sizeOf3
 v3:=Tryz.zeroValue3
 t4:=Tryz.underlying4
 a4:=Tryz.isAgg4
 z4:=Tryz.sizeOf4
 v4:=Tryz.zeroValue4
 t22:=Tryz.underlying3
 a22:=Tryz.isAgg3
 z22:=Tryz.sizeOf3
 v22:=Tryz.zeroValue3 }
end Go.Proofs
namespace Go.Proofs.YtgekjfpapmlndaaGreat
open Go.RowKit
def GG (w w':World):Prop:=∃ q os,w'=Go.Sort.grow (w.drewN q) os
theorem GG.refl (w:World):GG w w:=⟨0,#[],by rw [Go.Sort.grow_empty]; rfl⟩
theorem GG.trans {a b c:World} (h:GG a b) (k:GG b c):GG a c:=by
 obtain ⟨q,os,rfl⟩:=h
 obtain ⟨q',os',rfl⟩:=k
 refine ⟨q+q',os ++ os',?_⟩
 show Go.Sort.grow (Go.Sort.grow ((a.drewN q).drewN q') os) os'=_
 rw [Go.Sort.grow_grow,World.drewN_drewN]
theorem GG.alloc {a b:World} (h:GG a b) {o:Obj}:GG a (b.alloc o):=h.trans ⟨0,#[o],by rw [Go.Sort.alloc_eq_grow]; rfl⟩
theorem GG.drew {a b:World} (h:GG a b):GG a b.drew:=h.trans ⟨1,#[],by rw [Go.Sort.grow_empty]; rfl⟩
theorem GG.below {a b:World} (h:GG a b):Below a.heap.size a b:=by
 obtain ⟨q,os,rfl⟩:=h
 exact ⟨rfl,rfl,rfl,by simp [Go.Sort.grow,World.drewN],fun k hk=>Go.Sort.heap_grow_old (a.drewN q) os hk⟩
theorem zjf (a b:Int):Go.Lib.compareInt a b=cmpI a b:=rfl
theorem zkN (a b:Int) (w:World):Calls Tryz.prog 157 #[.int .i64 a,.int .i64 b] w fun e w'=>e=.returned (.int .i64 (cmpI a b))/\Below w.heap.size w w'/\GG w w' :=
 (show Calls Tryz.prog 157 _ _ _ from AnyG.cmp_Compare_int Tryz.cmpInt a b w).mono fun _ _ ⟨he,hw⟩=>⟨by rw [he,zjf],by rw [hw]; exact Below.refl _ _,by rw [hw]; exact GG.refl _⟩
theorem zj0 (A:Option Addr) (c:Nat) (f:Nat->Int) (w:World) (h:IntsR w w.heap.size A 2 f) :
  Calls Tryz.prog 203 #[.slice A 2 c] w fun e w'=>e=.returned (.int .i64 (orV (f 0) (f 1)))/\w'=w:=by
 obtain ⟨b,o,rfl,hb,x0⟩:=h.at (i:=0) (by omega)
 obtain ⟨_,_,e1,_,x1⟩:=h.at (i:=1) (by omega)
 injection e1 with e1; injection e1 with e1 e2; subst e1 e2
 obtain ⟨x,hx⟩:=exx (f 0)
 obtain ⟨y,hy⟩:=exx (f 1)
 rw [<-hx] at x0 ⊢;rw [<-hy] at x1 ⊢;clear hx hy h
 go_enter Tryz.func203, Tryz.ntmps203
 go_wp2
 go_loopg [5,8] 2 (fun gg ev iv wx=>∃ k:Nat,iv=.int .i64 (k:Nat)/\k<=2/\2<=k+gg/\(1<=k->x=0)/\(2<=k->y=0)/\wx=w)
 case atStart=>exact ⟨0,rfl,by omega,by omega,fun h=>absurd h (by omega),fun h=>absurd h (by omega),rfl⟩
 obtain ⟨k,rfl,hk,j,h1,h2,rfl⟩:=hrel
 have H1:=hid h1
 have H2:=hid h2
 clear h1 h2
 by_cases hk2:k=2
 ·have g:¬ (k:Int)<2:=by omega
  have hE:Hid (orV x y=0):=by
   show _=_
   unfold orV
   rw [if_pos (H1.out (by omega)),H2.out (by omega)]
  clear hk2
  go_wp2
  go_ret
  exact ⟨zaz hE.out.symm,rfl⟩
 have g:(k:Int)<2:=by omega
 have l:(0:Int)<=(k:Int):=by omega
 by_cases hk1:k=0
 ·have xk:wr.cell? ⟨b,o+k,none⟩=some (.int .i64 x):=by rw [hk1]; exact x0
  by_cases hx:x=0
  ·have d:(x != 0)=false:=by simp [hx]
   have a:(x == 0)=true:=by simp [hx]
   have HX:=hid hx
   have HK:=hid hk1
   clear hx x0 x1 hk1 hk2
   go_wp2
   go_roundg (gk - 1)
   case measure=>omega
   case rel=>exact ⟨k+1,by go_num,by omega,by omega,fun _=>HX.out,fun h=>absurd h (by have:=HK.out; omega),rfl⟩
  have d:(x != 0)=true:=by simp [hx]
  have a:(x == 0)=false:=by simp [hx]
  have hE:Hid (orV x y=x):=if_neg hx
  clear hx x0 x1 hk1 hk2
  go_wp2
  go_ret
  exact ⟨zaz hE.out.symm,rfl⟩
 have xk:wr.cell? ⟨b,o+k,none⟩=some (.int .i64 y):=by rw [show k=1 by omega]; exact x1
 have hx:x=0:=H1.out (by omega)
 by_cases hy:y=0
 ·have d:(y != 0)=false:=by simp [hy]
  have a:(y == 0)=true:=by simp [hy]
  have HX:=hid hx
  have HY:=hid hy
  clear hx hy x0 x1 hk1 hk2
  go_wp2
  go_roundg (gk - 1)
  case measure=>omega
  case rel=>exact ⟨k+1,by go_num,by omega,by omega,fun _=>HX.out,fun _=>HY.out,rfl⟩
 have d:(y != 0)=true:=by simp [hy]
 have a:(y == 0)=false:=by simp [hy]
 have hE:Hid (orV x y=y):=if_pos hx
 clear hx hy x0 x1 hk1 hk2
 go_wp2
 go_ret
 exact ⟨zaz hE.out.symm,rfl⟩
theorem ziP (A:Option Addr) (c:Nat) (f:Nat->Int) (w:World) (h:IntsR w w.heap.size A 2 f) :
  Calls Tryz.prog 203 #[.slice A 2 c] w fun e w'=>e=.returned (.int .i64 (orV (f 0) (f 1)))/\Below w.heap.size w w'/\GG w w' :=
 (zj0 A c f w h).mono fun _ _ ⟨he,hw⟩=>⟨he,by rw [hw]; exact Below.refl _ _,by rw [hw]; exact GG.refl _⟩
theorem zjg (f l t f' l' t':Int) (w:World) :
  Calls Tryz.prog 151 #[.agg #[.int .i64 f,.int .i64 l,.int .i64 t],.agg #[.int .i64 f',.int .i64 l',.int .i64 t']] w fun e w'=>e=.returned (.int .i64 (lessV f l f' l'))/\Below w.heap.size w w'/\GG w w':=by
 go_enter Tryz.func151, Tryz.ntmps151
 go_upto_region 1 with fail
 obtain ⟨B1,c⟩:=exx ((Obj.cells #[.int .i64 f,.int .i64 l,.int .i64 t] 90))
 obtain ⟨B2,b⟩:=exx ((Obj.cells #[.int .i64 f',.int .i64 l',.int .i64 t'] 90))
 rw [<-c,<-b]
 have a:Below (w.heap.size+1) (w.alloc B1) ((w.alloc B1).alloc B2):=(Below.refl _ _).alloc (by simp) _
 have hW:=zaL a
 have hG:GG w ((w.alloc B1).alloc B2):=(GG.refl w).alloc.alloc
 have p0:((w.alloc B1).alloc B2).cell? ⟨w.heap.size,0,none⟩=some (.int .i64 f):=by subst c; exact tbox a rfl
 have p1:((w.alloc B1).alloc B2).cell? ⟨w.heap.size,1,none⟩=some (.int .i64 l):=by subst c; exact tbox a rfl
 have p2:((w.alloc B1).alloc B2).cell? ⟨w.heap.size+1,0,none⟩=some (.int .i64 f'):=by subst b; simp
 have p3:((w.alloc B1).alloc B2).cell? ⟨w.heap.size+1,1,none⟩=some (.int .i64 l'):=by subst b; simp
 obtain ⟨w1,d⟩:∃ W,W=(w.alloc B1).alloc B2:=⟨_,rfl⟩
 rw [<-d] at hW hG p0 p1 p2 p3 ⊢;clear a d c b
 refine wp_region_held_drew (S:=fun w'=>w'.cell? ⟨w.heap.size,0,none⟩=some (.int .i64 f)/\w'.cell? ⟨w.heap.size,1,none⟩=some (.int .i64 l)/\w'.cell? ⟨w.heap.size+1,0,none⟩=some (.int .i64 f')/\w'.cell? ⟨w.heap.size+1,1,none⟩=some (.int .i64 l')) (by kernel_rfl) ⟨cellS (Below.refl _ _).drew p0,cellS (Below.refl _ _).drew p1,cellS (Below.refl _ _).drew p2,cellS (Below.refl _ _).drew p3⟩ (fun hHeld=>?_)
 obtain ⟨w2,hw,kb⟩:=dwx w1
 have kg:GG w1 w2:=by rw [hw]; exact (GG.refl _).drew
 rw [<-hw] at hHeld ⊢;clear hw;replace hW:=onS hW kb;replace p0:=cellS kb p0;replace p1:=cellS kb p1;replace p2:=cellS kb p2;replace p3:=cellS kb p3;clear kb;replace hG:=hG.trans kg;clear kg
 refine tkq 0 (h:=tkq 1 (h:=tkq 2 (h:=tkq 3 (h:=tkq 5 (h:=tkq 6 (h:=tkq 7 (h:=tkq 8 (h:=?_))))))))
 refine rdq 4 (h:=fun K hK=>?_)
 go_simp
 go_wp2_with fail
 refine (zkN f f' w2).mono ?_
 rintro e w3 ⟨rfl,kb,kg⟩
 replace hW:=onS hW kb;replace p0:=cellS kb p0;replace p1:=cellS kb p1;replace p2:=cellS kb p2;replace p3:=cellS kb p3;clear kb;replace hG:=hG.trans kg;clear kg
 refine bkq hK ⟨p0,p1,p2,p3⟩ (h:=fun hHeld=>?_)
 clear hK K
 refine rdq 9 (h:=fun K hK=>?_)
 go_simp
 go_wp2_with fail
 refine (zkN l l' w3).mono ?_
 rintro e w4 ⟨rfl,kb,kg⟩
 replace hW:=onS hW kb;replace p0:=cellS kb p0;replace p1:=cellS kb p1;replace p2:=cellS kb p2;replace p3:=cellS kb p3;clear kb;replace hG:=hG.trans kg;clear kg
 refine bkq hK ⟨p0,p1,p2,p3⟩ (h:=fun hHeld=>?_)
 clear hK K
 refine rdq 10 (h:=fun K hK=>?_)
 go_simp
 obtain ⟨w5,hw⟩:=exx (World.alloc w4 (Obj.cells #[.int .i64 (cmpI f f'),.int .i64 (cmpI l l')] 3))
 have kb:=alx hw
 have kg:GG w4 w5:=by rw [hw]; exact (GG.refl _).alloc
 have hi:IntsR w5 w5.heap.size (some ⟨w4.heap.size,0,none⟩) 2 (fun i=>if i=0 then cmpI f f' else cmpI l l'):=by
  rw [hw]
  intro i hi
  refine ⟨_,0,rfl,by simp,fun j hj=>?_⟩
  obtain rfl:j=0:=by omega
  match i,hi with
  | 0,_=>simp
  | 1,_=>simp
 rw [<-hw];clear hw
 obtain ⟨nb,g⟩:=exx w4.heap.size
 rw [<-g] at hi ⊢;clear g;replace hW:=onS hW kb;replace p0:=cellS kb p0;replace p1:=cellS kb p1;replace p2:=cellS kb p2;replace p3:=cellS kb p3;clear kb;replace hG:=hG.trans kg;clear kg
 refine bkq hK ⟨p0,p1,p2,p3⟩ (h:=fun hHeld=>?_)
 clear hK K
 refine rdq 11 (h:=fun K hK=>?_)
 go_simp
 go_wp2_with fail
 refine ((show Calls _ _ _ _ (fun e w'=>e=.returned (.int .i64 (lessV f l f' l'))/\Below w5.heap.size w5 w'/\GG w5 w') from ziP (some ⟨nb,0,none⟩) 2 _ w5 hi)).mono ?_
 rintro e w6 ⟨rfl,kb,kg⟩
 replace hW:=onS hW kb;replace p0:=cellS kb p0;replace p1:=cellS kb p1;replace p2:=cellS kb p2;replace p3:=cellS kb p3;replace hi:=hi.on kb;clear kb;replace hG:=hG.trans kg;clear kg
 refine bkq hK ⟨p0,p1,p2,p3⟩ (h:=fun hHeld=>?_)
 clear hK K
 refine tkq 12 (h:=?_)
 refine wpAnyH_done (by kernel_rfl) ?_ _
 clear hHeld
 go_wp2_with fail
 go_ret
 exact ⟨rfl,hW,hG⟩
section
variable {α:Type} [Inhabited α] {w:World} {base:Nat} {e:TypeId} {s n g o cap:Nat} {f f':Nat->Nat->Value}
theorem zgx (enc:α->Value) (w:World) (m g o:Nat) (d:Array α) (os:Array Obj) {cur:Array Value} {e:TypeId} {fr:Nat × Nat} (hg:w.heap[g]?=some (.cells cur e fr)) :
  (sortWorld enc w g o m d os).heap[g]?=some (.cells (Go.Sort.putCells enc o d cur) e fr):=by
 have a:=(Array.getElem?_eq_some_iff.1 hg).1
 unfold sortWorld
 rw [Go.Sort.heap_grow_old _ _ (by rw [Go.Sort.size_putRow]; exact a)]
 show (w.heap.modify g (Go.Sort.onCells (Go.Sort.putCells enc o d)))[g]?=_
 rw [Array.getElem?_modify,if_pos rfl,hg]
 rfl
theorem zbE (enc:α->Value) (w:World) (m g o:Nat) (d:Array α) (os:Array Obj):w.grownBy (sortWorld enc w g o m d os) (some g):=by
 refine ⟨rfl,rfl,rfl,by unfold sortWorld; rw [Go.Sort.size_grow,Go.Sort.size_putRow,Go.Sort.heap_ahead]; omega,fun k hk hne=>?_⟩
 unfold sortWorld
 rw [Go.Sort.heap_grow_old _ _ (by rw [Go.Sort.size_putRow]; exact hk)]
 show (w.heap.modify g _)[k]?=_
 rw [Array.getElem?_modify,if_neg (fun h=>hne (by rw [h]))]
theorem zeS (enc:α->Value) (d:Array α) (m:Nat) (os:Array Obj) (h:Own w base e s (.slice (some ⟨g,o,none⟩) n cap) n f) (hd:d.size=n*s) (hf:∀ i,i<n->∀ j,j<s->enc d[i*s+j]! =f' i j) :
  Own (sortWorld enc w g o m d os) base e s (.slice (some ⟨g,o,none⟩) n cap) n f':=by
 rcases h with ⟨h,_⟩ | ⟨g',o',cap',cur,h1,hb,hg,hc,hm,h6,h7⟩
 ·cases h
 injection h1 with h1 _ h2
 injection h1 with h1
 injection h1 with h1 h3
 subst h1 h2 h3
 refine .inr ⟨g,o,cap,_,rfl,hb,zgx enc w m g o d os hg,hc,hm,by simpa [Go.Sort.putCells] using h6,fun i hi j hj=>?_⟩
 have b:i*s+j<n*s:=by
  have h1:(i+1)*s<=n*s:=Nat.mul_le_mul_right _ hi
  rw [Nat.add_mul,Nat.one_mul] at h1
  omega
 have a:o+i*s+j<cur.size:=by
  have h1:n*s<=cap*s:=Nat.mul_le_mul_right _ hc
  omega
 simp only [Go.Sort.putCells,Array.getElem?_mapIdx]
 rw [Array.getElem?_eq_getElem a,Option.map_some,if_pos ⟨by omega,by omega⟩,show o+i*s+j - o=i*s+j by omega,hf i hi j hj]
theorem zf1 (enc:α->Value) (d:Array α) (h:Own w base e s (.slice (some ⟨g,o,none⟩) n cap) n f) (hs:0<s) (hn:0<n) (hd:d.size=n*s) (hf:∀ i,i<n->∀ j,j<s->enc d[i*s+j]! =f i j) :
  Go.Sort.Holds enc w g o d:=by
 intro t ht
 obtain ⟨g',o',c',h1,_,_,_,_,hc⟩:=h.form hn
 injection h1 with h1 _ h2
 injection h1 with h1
 injection h1 with h1 h3
 subst h1 h2 h3
 have h1:t / s<n:=Nat.div_lt_of_lt_mul (by rw [Nat.mul_comm]; omega)
 have h2:t % s<s:=Nat.mod_lt _ hs
 have h3:=hc _ h1 _ h2
 have h4:t / s*s+t % s=t:=by rw [Nat.mul_comm]; exact Nat.div_add_mod t s
 rw [Nat.add_assoc,h4,<-hf _ h1 _ h2,h4] at h3
 exact ⟨h3,h.frozen _⟩
end
theorem zdi {α:Type} [Inhabited α] {d d':Array α} (h:Go.Sort.PermIn 0 d.size d d'):d'.toList.Perm d.toList:=by
 obtain ⟨h1,_,h3⟩:=h
 have e1:d'.extract 0 d.size=d':=by rw [<-h1]; simp
 have e2:d.extract 0 d.size=d:=by simp
 rw [e1,e2] at h3
 exact h3
def CmpN (g:Nat) (cb:Array Value) (n:Nat) (cf:Nat->Nat->Int) (w:World) (row:Option Nat):Prop :=
 ∀ W,w.grownBy W row->∀ u v,u<n->v<n->Calls Tryz.prog g (#[.int .i64 (u:Nat),.int .i64 (v:Nat)] ++ cb) W fun e w'=>e=.returned (.int .i64 (cf u v))/\GG W w'
def encN (n:Nat) (x:Fin n):Value:=.int .i64 (x.val:Nat)
theorem zfr (g:Nat) (cb:Array Value) (n:Nat) (cf:Nat->Nat->Int) (key:Nat->Nat) (w:World) (base:Nat) (v:Value)
  (eg:∀ args w,(callFunc g args).run Tryz.prog w=.ok (.enter g args) w) (hcmp:CmpN g cb n cf w v.ownBlock) (hlt:∀ u v,u<n->v<n->(cf u v<0↔key u<key v))
  (h:Own w base 3 1 v n (fun i _=>.int .i64 (i:Nat))) (hn:0<n) (hsz:n<=1048576) :
  Calls Tryz.prog 156 #[v,.func (.func g) #[] cb] w fun e w'=>e=.returned (.tuple #[]) /\
   ∃ l:List Nat,l.Perm (List.range n)/\(∀ p q,p<q->q<n->key (l.getD p 0)<=key (l.getD q 0))/\Own w' base 3 1 v n (fun i _=>.int .i64 (l.getD i 0:Nat))/\w.grownBy w' v.ownBlock:=by
 obtain ⟨blk,off,cap,rfl,_,hb,_⟩:=h.form hn
 haveI:Inhabited (Fin n):=⟨⟨0,hn⟩⟩
 have o:∀ i (hi:i<n),((Array.ofFn fun i:Fin n=>i)[i]!:Fin n)=⟨i,hi⟩:=fun i hi=>by
  rw [getElem!_pos _ i (by simpa using hi)]
  simp
 have b:(Array.ofFn fun i:Fin n=>i).size=n:=by simp
 have a:(Array.ofFn fun i:Fin n=>i).toList.map (·.val)=List.range n:=by
  apply List.ext_getElem (by simp)
  intro i h1 h2
  simp
 obtain ⟨d,hd⟩:∃ d:Array (Fin n),d=Array.ofFn fun i=>i:=⟨_,rfl⟩
 rw [<-hd] at o b a
 have hO:Go.Sort.SWO (ltOf fun x y:Fin n=>cf x.val y.val):=by
  have hl:∀ x y:Fin n,ltOf (fun x y:Fin n=>cf x.val y.val) x y=decide (key x.val<key y.val):=fun x y=>by
   unfold ltOf
   exact decide_eq_decide.2 (hlt x.val y.val x.2 y.2)
  exact ⟨fun x=>by rw [hl]; simp,fun x y z h1 h2=>by rw [hl] at *; simp at *; omega,fun x y z h1 h2=>by rw [hl] at *; simp at *; omega⟩
 have hH:Go.Sort.Holds (encN n) w blk off d:=zf1 (encN n) d h (by omega) hn (by rw [b]; omega) fun i hi j hj=>by
  obtain rfl:j=0:=by omega
  rw [show i*1+0=i by omega,o i hi]
  rfl
 have hc:CmpLays1 Tryz.prog g cb (encN n) (fun x y:Fin n=>cf x.val y.val) blk off d.size w:=fun m os dk _ x y =>
  hcmp _ (zbE (encN n) w m blk off dk os) x.val y.val x.2 y.2
 have c:=Any.slices_SortFunc Tryz.sortInts (encN n) (fun _=>rfl) (fun x y:Fin n=>cf x.val y.val) hO g cb blk off cap d w eg hc hH hb (by rw [b]; omega)
 rw [b] at c
 refine Calls.mono (show Calls Tryz.prog 156 _ _ _ from c) ?_
 rintro e w' ⟨rfl,d',m,os,hp,k,rfl⟩
 refine ⟨rfl,d'.toList.map (·.val),?_,?_,?_,zbE (encN n) w m blk off d' os⟩
 ·rw [<-a]
  exact (zdi (by rw [b]; exact hp)).map _
 ·intro p q hpq hq
  have r:d'.size=n:=by have:=hp.1; omega
  have h1:=k p q (by omega) hpq hq
  have e1:∀ i,i<n->(d'.toList.map (·.val)).getD i 0=(d'[i]!:Fin n).val:=fun i hi=>by
   rw [List.getD_eq_getElem?_getD,List.getElem?_map,Array.getElem?_toList,getElem!_pos d' i (by omega),Array.getElem?_eq_getElem (by omega)]
   rfl
  rw [e1 p (by omega),e1 q hq]
  have h2:¬ cf (d'[q]!:Fin n).val (d'[p]!:Fin n).val<0:=by simpa [ltOf] using h1
  rw [hlt _ _ (Fin.isLt _) (Fin.isLt _)] at h2
  omega
 have r:d'.size=n:=by have:=hp.1; omega
 refine zeS (encN n) d' m os h (by omega) fun i hi j hj=>?_
 obtain rfl:j=0:=by omega
 rw [show i*1+0=i by omega,List.getD_eq_getElem?_getD,List.getElem?_map,Array.getElem?_toList,getElem!_pos d' i (by omega),Array.getElem?_eq_getElem (by omega)]
 rfl
def encE (x:Int × Int × Int):List Value:=[.int .i64 x.1,.int .i64 x.2.1,.int .i64 x.2.2]
theorem ziQ (x y:Int × Int × Int):lessV x.1 x.2.1 y.1 y.2.1<0↔ltE x y:=zck
theorem zcJ (n:Nat) (x:Nat->Int × Int × Int) (w:World) (base:Nat) (v:Value)
  (h:Own w base 90 3 v n (edgeCell x)) (hn:0<n) (hsz:n<=1048576) :
  Calls Tryz.prog 150 #[v,.func (.func 151) #[] #[]] w fun e w'=>e=.returned (.tuple #[]) /\
   ∃ y:Nat->Int × Int × Int,((List.range n).map y).Perm ((List.range n).map x)/\(∀ p q,p<q->q<n->¬ ltE (y q) (y p))/\Own w' base 90 3 v n (edgeCell y)/\w.grownBy w' v.ownBlock:=by
 obtain ⟨blk,off,cap,rfl,_,hb,_⟩:=h.form hn
 have eg:∀ args w,(callFunc 151 args).run Tryz.prog w=.ok (.enter 151 args) w:=enters_of Tryz.func151 (by kernel_rfl) rfl
 obtain ⟨d,hd⟩:∃ d:Array (Int × Int × Int),d=((List.range n).map x).toArray:=⟨_,rfl⟩
 have a:d.size=n:=by rw [hd]; simp
 have o:∀ i,i<n->d[i]! =x i:=fun i hi=>by
  rw [getElem!_pos d i (by omega)]
  simp [hd]
 have hO:Go.Sort.SWO (ltOf fun x y:Int × Int × Int=>lessV x.1 x.2.1 y.1 y.2.1):=by
  have hl:∀ x y:Int × Int × Int,ltOf (fun x y:Int × Int × Int=>lessV x.1 x.2.1 y.1 y.2.1) x y=decide (x.1<y.1∨x.1=y.1/\x.2.1<y.2.1):=fun x y=>by
   unfold ltOf
   exact decide_eq_decide.2 zck
  exact ⟨fun x=>by rw [hl]; simp,fun x y z h1 h2=>by rw [hl] at *; simp at *; omega,fun x y z h1 h2=>by rw [hl] at *; simp at *; omega⟩
 have l:∀ (d:Array (Int × Int × Int)) (y:Nat->Int × Int × Int),d.size=n->(∀ i,i<n->d[i]! =y i)->∀ i,i<n->∀ j,j<3->(Go.Sort.flatK encE 3 d)[i*3+j]! =edgeCell y i j:=fun d y hs hy i hi j hj=>by
  rw [Go.Sort.get_flatK encE 3 d _ (by omega),show (i*3+j) / 3=i by omega,show (i*3+j) % 3=j by omega,hy i hi]
  match j,hj with
  | 0,_=>rfl
  | 1,_=>rfl
  | 2,_=>rfl
 have hH:Go.Sort.HoldsK encE 3 w blk off d:=zf1 id (Go.Sort.flatK encE 3 d) h (by omega) hn (by simp [a]) (l d x a o)
 have hc:CmpLays Tryz.prog 151 #[] encE 3 (fun x y:Int × Int × Int=>lessV x.1 x.2.1 y.1 y.2.1) blk off d.size w:=fun m os dk _ x y =>
  (zjg x.1 x.2.1 x.2.2 y.1 y.2.1 y.2.2 _).mono fun _ _ ⟨he,_,hg⟩=>⟨he,hg⟩
 have b:=AnyQ.slices_SortFunc Tryz.sortEdges 3 Tryz.isAgg90 Tryz.sizeOf90 encE (fun _=>rfl) (fun x v hv=>by simp [encE] at hv; rcases hv with rfl | rfl | rfl <;> rfl) (fun x y:Int × Int × Int=>lessV x.1 x.2.1 y.1 y.2.1) hO 151 #[] blk off cap d w eg hc hH hb (by rw [a]; omega)
 rw [a] at b
 refine Calls.mono (show Calls Tryz.prog 150 _ _ _ from b) ?_
 rintro e w' ⟨rfl,d',m,os,hp,c,rfl⟩
 have g:d'.size=n:=by have:=hp.1; omega
 have k:(List.range n).map (fun i=>d'[i]!)=d'.toList:=by
  apply List.ext_getElem (by simp [g])
  intro i h1 h2
  have hi:i<d'.size:=by simpa using h2
  simp [getElem!_pos d' i hi]
 refine ⟨rfl,fun i=>d'[i]!,?_,?_,?_,zbE id w m blk off _ os⟩
 ·rw [k]
  have:=zdi (d:=d) (d':=d') (by rw [a]; exact hp)
  rw [hd] at this
  exact this
 ·intro p q hpq hq hlt
  have h1:=c p q (by omega) hpq hq
  have h2:¬ ltE (d'[q]!) (d'[p]!):=by
   rw [<-ziQ]
   simpa [ltOf] using h1
  exact h2 hlt
 ·exact zeS id (Go.Sort.flatK encE 3 d') m os h (by simp [g]) (l d' _ g fun _ _=>rfl)
theorem zf2 {l:List Nat} (h:l.Nodup) {i j:Nat} (hi:i<l.length) (hj:j<l.length) (e:l[i]=l[j]):i=j:=by
 have h1:=List.pairwise_iff_getElem.1 h
 rcases Nat.lt_trichotomy i j with h2 | h2 | h2
 ·exact absurd e (h1 i j hi hj h2)
 ·exact h2
 ·exact absurd e.symm (h1 j i hj hi h2)
def posIn (l:List Nat):Nat->Nat->Nat
 | 0,_=>0
 | k+1,u=>if l.getD k 0=u then k else posIn l k u
theorem zj1 {l:List Nat} (hn:l.Nodup) {p:Nat}:∀ {k:Nat},p<k->k<=l.length->posIn l k (l.getD p 0)=p:=by
 intro k
 induction k with
 | zero=>intro h; omega
 | succ k ih =>
  intro hp hk
  unfold posIn
  by_cases e:l.getD k 0=l.getD p 0
  ·rw [if_pos e]
   rw [List.getD_eq_getElem?_getD,List.getD_eq_getElem?_getD,List.getElem?_eq_getElem (by omega),List.getElem?_eq_getElem (by omega)] at e
   exact zf2 hn (by omega) (by omega) e
  ·rw [if_neg e]
   exact ih (by
    by_cases h:p=k
    ·subst h; exact absurd rfl e
    ·omega) (by omega)
theorem zhK {key:Nat->Nat} {n:Nat} {l:List Nat} (hp:l.Perm (List.range n)) (hs:∀ p q,p<q->q<n->key (l.getD p 0)<=key (l.getD q 0)) (hk:∀ a b,a<n->b<n->key a=key b->a=b) {u:Nat} (hu:u<n):posIn l n u=rankOf key n u:=by
 have j:l.length=n:=by have:=hp.length_eq; simpa using this
 have f:l.Nodup:=hp.nodup_iff.2 List.nodup_range
 have c:u ∈ l:=hp.mem_iff.2 (List.mem_range.2 hu)
 obtain ⟨p,d,i⟩:=List.getElem_of_mem c
 have hg:∀ q (h:q<l.length),l.getD q 0=l[q]:=fun q h=>by rw [List.getD_eq_getElem?_getD,List.getElem?_eq_getElem h]; rfl
 have g:∀ q,q<n->l.getD q 0<n:=fun q hq=>by
  rw [hg q (by omega)]
  exact List.mem_range.1 (hp.mem_iff.1 (List.getElem_mem _))
 have e:l.getD p 0=u:=by rw [hg p d,i]
 have h1:=zb4 (k:=key) hp (fun p q hpq hq=>by
  have h1:=hs p q hpq (by omega)
  rcases Nat.lt_or_ge (key (l.getD p 0)) (key (l.getD q 0)) with h2 | h2
  ·exact h2
  have h3:=hk _ _ (g p (by omega)) (g q (by omega)) (by omega)
  rw [hg p (by omega),hg q (by omega)] at h3
  exact absurd (zf2 f (by omega) (by omega) h3) (by omega)) d
 rw [<-e,h1]
 exact zj1 f (by omega) (by omega)
theorem zj2 (n:Nat) (w:World) (hn:n<=1048576) :
  Calls Tryz.prog 132 #[.int .i64 0,.int .i64 (n:Nat)] w fun e w'=>Below w.heap.size w w'/\∃ v,e=.returned v/\Own w' w.heap.size 3 1 v n (fun i _=>.int .i64 (i:Nat)):=by
 have H0:Hid (Own w w.heap.size 3 1 (.slice none 0 0) 0 (fun i _=>.int .i64 (i:Nat))):=Own.nil _ _ _ _ _
 go_enter Tryz.func132, Tryz.ntmps132
 go_wp2
 obtain ⟨n1,b⟩:∃ x:Value,x=.slice none 0 0:=⟨_,rfl⟩
 rw [<-b] at H0 ⊢;clear b
 go_loopg [5,6] n (fun gg sv iv wx=>∃ k:Nat,iv=.int .i64 (k:Nat)/\k<=n/\n<=k+gg/\Hid (Own wx w.heap.size 3 1 sv k (fun i _=>.int .i64 (i:Nat)))/\Below w.heap.size w wx)
 case atStart=>exact ⟨0,rfl,by omega,by omega,H0,Below.refl _ _⟩
 clear H0
 obtain ⟨k,rfl,hk,p,HO,hB⟩:=hrel
 by_cases hlt:k<n
 rotate_left
 ·have a:¬ (k:Int)<(n:Int):=by omega
  obtain rfl:k=n:=by omega
  have HB:=hid hB
  clear hB
  go_wp2
  go_ret
  exact ⟨HB.out,_,rfl,HO.out⟩
 have a:(k:Int)<(n:Int):=by omega
 have HZ:=hid hB.size
 have kb:=aly wr (Obj.cells #[Value.int .i64 (k:Nat)] 3)
 have h:=hid (onS hB kb)
 have g:=hid (HO.out.on kb)
 have m:Hid ((wr.alloc (Obj.cells #[Value.int .i64 (k:Nat)] 3)).cell? ⟨wr.heap.size,0,none⟩=some (.int .i64 (k:Nat))):=by show _=_; simp
 have d:=hid h.out.size
 have l:Hid (k<=1048576):=by show _<=_; omega
 clear kb hB
 go_wp2_with (first | (at_builtin; (refine zbx rfl (.tmp 13) (.tmp 15) rfl (f:=fun i=>(i:Nat)) g.out rfl (ad:=⟨wr.heap.size,0,none⟩) (c:=1) rfl m.out d.out l.out ?_); intro v17 w17 o1 o2 o3))
 have j:=hid o1
 have o:=hid (h.out.grown o2 d.out fun q e=>(Own.lt g.out q e).1)
 clear o1 o2 o3
 go_wp2
 go_roundg (gk - 1)
 case measure=>omega
 case rel=>exact ⟨k+1,by go_num,by omega,by omega,j,o.out⟩
def eRow (x:Nat->Int × Int × Int) (k:Nat):Value:=edgeCell x (k / 3) (k % 3)
theorem zhL {w:World} {b n:Nat} {t:TypeId} {x:Nat->Int × Int × Int} (h:w.rowIs b t (n*3) (eRow x)) {u:Nat} (hu:u<n) :
  w.cell? ⟨b,u*3,none⟩=some (.int .i64 (x u).1)/\w.cell? ⟨b,u*3+1,none⟩=some (.int .i64 (x u).2.1)/\w.cell? ⟨b,u*3+2,none⟩=some (.int .i64 (x u).2.2):=by
 have h0:=h.cell (i:=u*3) (by omega)
 have h1:=h.cell (i:=u*3+1) (by omega)
 have h2:=h.cell (i:=u*3+2) (by omega)
 unfold eRow at h0 h1 h2
 rw [show u*3 / 3=u by omega,show u*3 % 3=0 by omega] at h0
 rw [show (u*3+1) / 3=u by omega,show (u*3+1) % 3=1 by omega] at h1
 rw [show (u*3+2) / 3=u by omega,show (u*3+2) % 3=2 by omega] at h2
 exact ⟨h0,h1,h2⟩
theorem zjh (f l t f' l' t':Int) (W:World) :
  Calls Tryz.prog 151 #[.agg #[.int .i64 f,.int .i64 l,.int .i64 t],.agg #[.int .i64 f',.int .i64 l',.int .i64 t']] W fun e w'=>e=.returned (.int .i64 (lessV f l f' l'))/\∃ q os',w'=Go.Sort.grow (W.drewN q) os' :=
 (zjg f l t f' l' t' W).mono fun _ _ ⟨he,_,hg⟩=>⟨he,hg⟩
theorem zfs (bx lb n c:Nat) (x:Nat->Int × Int × Int) (W:World) (p:W.cell? ⟨bx,0,none⟩=some (.slice (some ⟨lb,0,none⟩) n c)) (hx:W.rowIs lb 90 (n*3) (eRow x)) (u v:Nat) (hu:u<n) (hv:v<n) :
  Calls Tryz.prog 152 #[.int .i64 (u:Nat),.int .i64 (v:Nat),.pointer (some ⟨bx,0,none⟩)] W fun e w'=>e=.returned (.int .i64 (lessV (x u).1 (x u).2.1 (x v).1 (x v).2.1))/\GG W w':=by
 have a:=World.block_lt_of_cell? W _ p
 obtain ⟨u0,u1,u2⟩:=zhL hx hu
 obtain ⟨v0,v1,v2⟩:=zhL hx hv
 have q:=fun k os=>_root_.Go.cell_grown a p k os
 have a0:=fun k os=>_root_.Go.cell_grown (World.block_lt_of_cell? W _ u0) u0 k os
 have a1:=fun k os=>_root_.Go.cell_grown (World.block_lt_of_cell? W _ u1) u1 k os
 have a2:=fun k os=>_root_.Go.cell_grown (World.block_lt_of_cell? W _ u2) u2 k os
 have b0:=fun k os=>_root_.Go.cell_grown (World.block_lt_of_cell? W _ v0) v0 k os
 have b1:=fun k os=>_root_.Go.cell_grown (World.block_lt_of_cell? W _ v1) v1 k os
 have b2:=fun k os=>_root_.Go.cell_grown (World.block_lt_of_cell? W _ v2) v2 k os
 have d:(u:Int)<(n:Int):=by omega
 have b:(v:Int)<(n:Int):=by omega
 have mixed:Tryz.prog.follows .mixedOrders=true:=by kernel_rfl
 have hc:=fun W=>zjh (x u).1 (x u).2.1 (x u).2.2 (x v).1 (x v).2.1 (x v).2.2 W
 clear p hx u0 u1 u2 v0 v1 v2 a hu hv
 generalize (x u).1=f at *
 generalize (x u).2.1=l at *
 generalize (x u).2.2=t at *
 generalize (x v).1=f' at *
 generalize (x v).2.1=l' at *
 generalize (x v).2.2=t' at *
 generalize lessV f l f' l'=r at *
 go_enter Tryz.func152, Tryz.ntmps152
 go_upto_region 1 with fail
 go_quiet_grown (first | (go_at_call 151; refine Calls.grown_of (hc _)))
 go_wp2_with fail
 go_ret
 exact ⟨rfl,_,_,rfl⟩
def CmpB (bx n:Nat) (cf:Nat->Nat->Int) (w:World):Prop :=
 ∀ W,Below w.heap.size w W->∀ u v,u<n->v<n->Calls Tryz.prog 152 #[.int .i64 (u:Nat),.int .i64 (v:Nat),.pointer (some ⟨bx,0,none⟩)] W fun e w'=>e=.returned (.int .i64 (cf u v))/\GG W w'
def CmpG (fn:Nat) (cb:Array Value) (n:Nat) (cf:Nat->Nat->Int) (w:World):Prop :=
 ∀ W,Below w.heap.size w W->∀ u v,u<n->v<n->Calls Tryz.prog fn (#[.int .i64 (u:Nat),.int .i64 (v:Nat)] ++ cb) W fun e w'=>e=.returned (.int .i64 (cf u v))/\GG W w'
theorem zdD (fn:Nat) (cb:Array Value) (n:Nat) (cf:Nat->Nat->Int) (key:Nat->Nat) (w:World) (eg:∀ args w,(callFunc fn args).run Tryz.prog w=.ok (.enter fn args) w) (hc:CmpG fn cb n cf w) (hlt:∀ u v,u<n->v<n->(cf u v<0↔key u<key v)) (hk:∀ a b,a<n->b<n->key a=key b->a=b) (hn:0<n) (hn2:n<=1048576) :
  Calls Tryz.prog 81 #[.int .i64 (n:Nat),.func (.func fn) #[] cb] w fun e w' =>
   ∃ go,e=.returned (.slice (some ⟨go,0,none⟩) n n)/\w'.rowIs go 3 n (fun u=>.int .i64 (rankOf key n u:Nat))/\w.heap.size<=go/\Below w.heap.size w w':=by
 have HC:=hid hc
 have S:=hid hlt
 have HK:=hid hk
 have T:=hid eg
 clear hc hlt hk eg
 go_enter Tryz.func81, Tryz.ntmps81
 go_wp2_with fail
 refine (zj2 n w hn2).mono ?_
 rintro e w1 ⟨hB,v,rfl,hv⟩
 obtain ⟨lb,lo,lc,rfl,X,z,_⟩:=hv.form hn
 go_wp2_with fail
 refine (zfr fn cb n cf key w1 w.heap.size _ T.out (fun W hg u v hu hv2=>HC.out W (hB.grown hg hB.size (fun k e=>(Own.lt hv k e).1)) u v hu hv2) S.out hv hn hn2).mono ?_
 rintro e w2 ⟨rfl,l,o,I,B,J⟩
 have C:Below w.heap.size w w2:=hB.grown J hB.size (fun k e=>(Own.lt hv k e).1)
 have y:l.length=n:=by have:=o.length_eq; simpa using this
 have d:∀ i,i<n->l.getD i 0<n:=fun i hi=>by
  rw [List.getD_eq_getElem?_getD,List.getElem?_eq_getElem (by omega)]
  exact List.mem_range.1 (o.mem_iff.1 (List.getElem_mem _))
 have HM:=hid d
 have R:Hid (∀ u,u<n->posIn l n u=rankOf key n u):=fun u hu=>zhK o I HK.out hu
 have HL:=hid B
 have g:=(B.lt lb rfl).2
 have a0:Hid (lb<w2.heap.size):=g
 have O:=hid C
 have D:=C.size
 have H:=fun W=>zaf (P:=Tryz.prog) 22 3 _ 8 Tryz.underlying22 Tryz.infoInt rfl (n:Int) (by omega) (by omega) (by omega) W
 simp only [Int.toNat_natCast] at H
 clear hv hB o I B J d y z
 go_upto_region 4 with fail
 have j:=World.rowIs_made w2 (.int .i64 0) n 3
 have r:=aly w2 (Obj.cells (madeCells #[Value.int .i64 0] n) 3)
 obtain ⟨w3,E⟩:=exx (w2.alloc (Obj.cells (madeCells #[Value.int .i64 0] n) 3))
 obtain ⟨go,q⟩:=exx w2.heap.size
 have N:=hid q
 rw [<-q] at j;rw [<-E] at j r ⊢;rw [<-q]
 have G:w3.rowIs go 3 n (fun u=>.int .i64 (posIn l 0 u:Nat)):=j
 clear E q H j C g
 go_wp2
 go_loopg [18] n (fun gg iv wx=>∃ k:Nat,iv=.int .i64 (k:Nat)/\k<=n/\n<=k+gg/\wx.rowIs go 3 n (fun u=>.int .i64 (posIn l k u:Nat))/\Below w2.heap.size w2 wx)
 case atStart=>exact ⟨0,rfl,by omega,by omega,G,r⟩
 clear G r
 obtain ⟨k,rfl,hk,Y,c,hB⟩:=hrel
 have Z:(0:Int)<=(k:Int):=by omega
 by_cases hlt:k<n
 rotate_left
 ·have x:¬ (k:Int)<(n:Int):=by omega
  obtain rfl:k=n:=by omega
  have HB:=hid hB
  have HR:=hid c
  clear hB c
  go_wp2
  go_ret
  refine ⟨go,rfl,HR.out.congr fun u hu=>?_,by rw [N.out]; exact D,O.out.trans (HB.out.mono D)⟩
  show Value.int .i64 (posIn l k u:Nat)=_
  rw [R.out u hu]
 have x:(k:Int)<(n:Int):=by omega
 obtain ⟨b5,o5,c5,h5,_,_,_,_,K⟩:=(HL.out.on hB).form hn
 injection h5 with h5 _ h7
 injection h5 with h5
 injection h5 with h5 h6
 subst h5 h6 h7
 have x0:=K k hlt 0 (by omega)
 rw [Nat.mul_one,Nat.add_zero] at x0
 have hm:=HM.out k hlt
 obtain ⟨m,s⟩:=exx (l.getD k 0)
 have M:=hid s
 rw [<-s] at x0 hm
 have V:(m:Int)<(n:Int):=by omega
 have z0:=c.frozen m
 have y0:=c.cell hm
 clear K s
 have F:=c.set m (.int .i64 (k:Nat))
 have L:=hB.setCell (p:=⟨go,m,none⟩) (by have:=N.out; show _<=go; omega) (.int .i64 (k:Nat))
 have Q:=hid F
 have U:=hid L
 clear F L c hB
 go_wp2
 go_roundg (gk - 1)
 case measure=>omega
 refine ⟨k+1,by go_num,by omega,by omega,Q.out.congr fun u _=>?_,U.out⟩
 show (if u=m then _ else _)=Value.int .i64 ((if l.getD k 0=u then k else posIn l k u:Nat):Int)
 by_cases e:u=m
 ·rw [if_pos e,if_pos (by rw [e,<-M.out])]
 ·rw [if_neg e,if_neg (by rw [<-M.out]; exact fun h=>e h.symm)]
theorem zhM (bx n:Nat) (cf:Nat->Nat->Int) (key:Nat->Nat) (w:World) (hc:CmpB bx n cf w) (hlt:∀ u v,u<n->v<n->(cf u v<0↔key u<key v)) (hk:∀ a b,a<n->b<n->key a=key b->a=b) (hn:0<n) (hn2:n<=1048576) :
  Calls Tryz.prog 81 #[.int .i64 (n:Nat),.func (.func 152) #[] #[.pointer (some ⟨bx,0,none⟩)]] w fun e w' =>
   ∃ go,e=.returned (.slice (some ⟨go,0,none⟩) n n)/\w'.rowIs go 3 n (fun u=>.int .i64 (rankOf key n u:Nat))/\w.heap.size<=go/\Below w.heap.size w w' :=
 zdD 152 #[.pointer (some ⟨bx,0,none⟩)] n cf key w (enters_of Tryz.func152 (by kernel_rfl) rfl) (fun W hW u v hu hv=>hc W hW u v hu hv) hlt hk hn hn2
theorem zeT {w:World} {b n base:Nat} {t:TypeId} {F:Nat->Value} (h:w.rowIs b t n F) (hb:base<=b) (hn:n<=maxLen):Own w base t 1 (.slice (some ⟨b,0,none⟩) n n) n (fun i _=>F i):=by
 obtain ⟨cs,h1,h2,h3⟩:=h
 refine .inr ⟨b,0,n,cs,rfl,hb,h1,Nat.le_refl _,hn,by omega,fun i hi j hj=>?_⟩
 obtain rfl:j=0:=by omega
 rw [Nat.zero_add,Nat.mul_one,Nat.add_zero]
 exact h3 i hi
theorem zaQ {w:World} {b b' n n':Nat} {t t':TypeId} {F F':Nat->Value} (h:w.rowIs b t n F) (h':w.rowIs b' t' n' F') (hne:t≠t'):b≠b':=by
 intro e
 subst e
 obtain ⟨cs,h1,_⟩:=h
 obtain ⟨cs',a,_⟩:=h'
 rw [h1] at a
 injection a with a
 injection a with _ a
 exact hne a
section
variable {w w':World} {g base te e s m:Nat} {F:Nat->Value} {n n':Nat->Nat} {f f':Nat->Nat->Nat->Value}
theorem TabOwn.same (h:TabOwn w g base te e s m F n f) (hn:∀ v,v<m->n v=n' v) (hf:∀ v,v<m->∀ i,i<n v->∀ j,j<s->f v i j=f' v i j):TabOwn w g base te e s m F n' f' :=
 ⟨h.row,fun v hv=>by rw [<-hn v hv]; exact (h.own v hv).congr (hf v hv),h.apart⟩
theorem TabOwn.touch (h:TabOwn w g base te e s m F n f) (hgb:g<base) {v:Nat} (hv:v<m) {n1:Nat} {f1:Nat->Nat->Value} (hown:Own w' base e s (F v) n1 f1) (hg:w.grownBy w' (F v).ownBlock) :
  TabOwn w' g base te e s m F (fun u=>if u=v then n1 else n u) (fun u=>if u=v then f1 else f u):=by
 refine ⟨h.row.of_block (hg.block g h.row.lt (fun e=>by have:=((h.own v hv).lt _ e.symm).1; omega)),fun u hu=>?_,h.apart⟩
 by_cases e:u=v
 ·subst e
  simp only [if_true]
  exact hown
 ·simp only [if_neg e]
  exact (h.own u hu).kept hg (h.apart u v hu hv e)
theorem TabOwn.stays (h:TabOwn w g base te e s m F n f) (hb:Below w.heap.size w w'):TabOwn w' g base te e s m F n f:=⟨h.row.of_block (hb.block g h.row.lt),fun v hv=>(h.own v hv).on hb,h.apart⟩
end
theorem Trel.Proper.el_pos {T:Trel} (h:T.Proper) {i:Nat} (hi:i<T.n):0<T.el i:=by
 have h1:=(h.shape.wid (i:=i) (by omega)).1
 obtain ⟨j,hj,_⟩:=za2.1 ((h.sec i hi).2.1 0 (by omega))
 omega
def Trel.triF (T:Trel) (nf:Nat->Nat->Nat) (i j:Nat):Int × Int × Int:=((nf i (T.fr i j).toNat:Nat),T.lb i j,(nf (i+1) (T.to i j).toNat:Nat))
def SecF (T:Trel) (nf:Nat->Nat->Nat) (i:Nat) (y:Nat->Int × Int × Int):Prop :=
 ((List.range (T.el i)).map y).Perm ((List.range (T.el i)).map (T.triF nf i))/\∀ p q,p<q->q<T.el i->ltE (y p) (y q)
def IsF (T:Trel) (nf:Nat->Nat->Nat) (y:Nat->Nat->Int × Int × Int):Prop:=∀ i,i<T.n->SecF T nf i (y i)
theorem Trel.Proper.triF_inj {T:Trel} {nf:Nat->Nat->Nat} (h:T.Proper) {i:Nat} (hi:i<T.n) (hf:∀ u v,u<(T.W i).toNat->v<(T.W i).toNat->nf i u=nf i v->u=v) {j q:Nat} (hj:j<T.el i) (hq:q<T.el i) (e1:(T.triF nf i j).1=(T.triF nf i q).1) (e2:(T.triF nf i j).2.1=(T.triF nf i q).2.1):j=q:=by
 have e1:((nf i (T.fr i j).toNat:Nat):Int)=(nf i (T.fr i q).toNat:Nat):=e1
 have e2:T.lb i j=T.lb i q:=e2
 have h3:=h.frL hi hj
 have h4:=h.frL hi hq
 have e3:=hf _ _ h3.1 h4.1 (by omega)
 rcases Nat.lt_trichotomy j q with h5 | h5 | h5
 ·have:=Trel.ord (h.sec i hi) q j h5 hq; omega
 ·exact h5
 ·have:=Trel.ord (h.sec i hi) j q h5 hj; omega
theorem SecF.of_sort {T:Trel} {nf:Nat->Nat->Nat} (h:T.Proper) {i:Nat} (hi:i<T.n) (hf:∀ u v,u<(T.W i).toNat->v<(T.W i).toNat->nf i u=nf i v->u=v) {y:Nat->Int × Int × Int} (hp:((List.range (T.el i)).map y).Perm ((List.range (T.el i)).map (T.triF nf i))) (hs:∀ p q,p<q->q<T.el i->¬ ltE (y q) (y p)):SecF T nf i y:=by
 refine ⟨hp,fun p q hpq hq=>?_⟩
 have h1:(((List.range (T.el i)).map (T.triF nf i)).map fun t=>(t.1,t.2.1)).Nodup:=by
  rw [List.map_map]
  refine zag.2 fun a b hab hb e=>?_
  simp only [Function.comp,Prod.mk.injEq] at e
  have:=h.triF_inj hi hf (by omega) hb e.1 e.2
  omega
 have h2:=((hp.map fun t=>(t.1,t.2.1)).nodup_iff).2 h1
 rw [List.map_map] at h2
 have h3:=zag.1 h2 p q hpq hq
 have h4:=hs p q hpq hq
 simp only [Function.comp,ne_eq,Prod.mk.injEq] at h3
 unfold ltE at *
 omega
structure RnSt (T:Trel) (nf:Nat->Nat->Nat) (g base ob rb i j:Nat) (wv:Value) (y:Nat->Nat->Int × Int × Int) (F:Nat->Value) (w:World):Prop where
 res:w.rowIs rb 53 2 (fun _=>.slice none 0 0)
 box:w.rowIs ob 53 2 (fun k=>if k=0 then wv else .slice (some ⟨g,0,none⟩) T.n T.n)
 wid:Own w 0 3 1 wv T.nw (fun k _=>.int .i64 (T.W k))
 tab:TabOwn w g base 86 90 3 T.n F (fun v=>if v<i then T.el v else if v=i then j else 0) (fun v=>edgeCell (if v<i then y v else T.triF nf v))
 hrb:rb<base
 hob:ob<base
 hg:g<base
 hwv:∀ q,wv.ownBlock=some q->q<base
section
variable {T:Trel} {nf:Nat->Nat->Nat} {g base ob rb i j:Nat} {wv:Value} {y:Nat->Nat->Int × Int × Int} {F:Nat->Value} {w w':World}
theorem RnSt.on (h:RnSt T nf g base ob rb i j wv y F w) (hb:Below w.heap.size w w'):RnSt T nf g base ob rb i j wv y F w' :=
 ⟨h.res.of_block (hb.block _ h.res.lt),h.box.of_block (hb.block _ h.box.lt),h.wid.on hb,h.tab.stays hb,h.hrb,h.hob,h.hg,h.hwv⟩
theorem RnSt.row (h:RnSt T nf g base ob rb i j wv y F w) (hi:i<T.n):Own w base 90 3 (F i) j (edgeCell (T.triF nf i)):=by
 have:=h.tab.own i hi
 simpa using this
theorem RnSt.put (h:RnSt T nf g base ob rb i j wv y F w) (hi:i<T.n) {v':Value} (ho:Own w' base 90 3 v' (j+1) (edgeCell (T.triF nf i))) (hgr:w.grownBy w' (F i).ownBlock) (hat:v'.ownBlock=(F i).ownBlock∨v'.ownBlock=some w.heap.size) :
  RnSt T nf g base ob rb i (j+1) wv y (fun u=>if u=i then v' else F u) (w'.setCell ⟨g,i,none⟩ v'):=by
 have hF:=(h.tab.own i hi).lt
 have c:∀ b,b<base->(F i).ownBlock≠some b:=fun b hb e=>by have:=(hF b e).1; omega
 have r1:=h.res.of_block (hgr.block rb h.res.lt fun e=>c rb h.hrb e.symm)
 have r2:=h.box.of_block (hgr.block ob h.box.lt fun e=>c ob h.hob e.symm)
 have r3:w'.rowIs g 86 T.n F:=h.tab.row.of_block (hgr.block g h.tab.row.lt fun e=>c g h.hg e.symm)
 have r4:=h.wid.kept hgr (by
  cases e:wv.ownBlock with
  | none=>exact .inl rfl
  | some q=>exact .inr fun e2=>c q (h.hwv q e) e2.symm)
 refine ⟨r1.setOther (a:=⟨g,i,none⟩) (by simpa using zaQ r1 r3 (by decide)) v',r2.setOther (a:=⟨g,i,none⟩) (by simpa using zaQ r2 r3 (by decide)) v',r4.setCell (zae r3 r4 (by decide)) v',?_,h.hrb,h.hob,h.hg,h.hwv⟩
 refine (h.tab.put h.hg hi ho hgr hat).same (fun v _=>?_) (fun v _ k _ q _=>?_)
 ·by_cases e:v=i
  ·subst e; rw [if_pos rfl,if_neg (by omega),if_pos rfl]
  rw [if_neg e,if_neg e]
  by_cases e2:v<i
  ·rw [if_pos e2,if_pos e2]
  ·rw [if_neg e2,if_neg e2,if_neg e]
 by_cases e:v=i
 ·subst e; rw [if_pos rfl,if_neg (by omega)]
 ·rw [if_neg e]
theorem RnSt.sort (h:RnSt T nf g base ob rb i (T.el i) wv y F w) (hi:i<T.n) {z:Nat->Int × Int × Int} (ho:Own w' base 90 3 (F i) (T.el i) (edgeCell z)) (hgr:w.grownBy w' (F i).ownBlock) :
  RnSt T nf g base ob rb (i+1) 0 wv (fun u=>if u=i then z else y u) F w':=by
 have hF:=(h.tab.own i hi).lt
 have a:∀ b,b<base->(F i).ownBlock≠some b:=fun b hb e=>by have:=(hF b e).1; omega
 refine ⟨h.res.of_block (hgr.block rb h.res.lt fun e=>a rb h.hrb e.symm),h.box.of_block (hgr.block ob h.box.lt fun e=>a ob h.hob e.symm),h.wid.kept hgr (by
  cases e:wv.ownBlock with
  | none=>exact .inl rfl
  | some q=>exact .inr fun e2=>a q (h.hwv q e) e2.symm),?_,h.hrb,h.hob,h.hg,h.hwv⟩
 refine (h.tab.touch h.hg hi ho hgr).same (fun v _=>?_) (fun v _ k _ q _=>?_)
 ·by_cases e:v=i
  ·subst e; rw [if_pos rfl,if_pos (by omega)]
  rw [if_neg e]
  by_cases e2:v<i
  ·rw [if_pos e2,if_pos (by omega)]
  ·rw [if_neg e2,if_neg e,if_neg (by omega)]
   split <;> rfl
 by_cases e:v=i
 ·subst e; rw [if_pos rfl,if_pos (by omega),if_pos rfl]
 rw [if_neg e]
 by_cases e2:v<i
 ·rw [if_pos e2,if_pos (by omega),if_neg e]
 ·rw [if_neg e2,if_neg (by omega)]
theorem RnSt.etab (h:RnSt T nf g base ob rb T.n 0 wv y F w) (hn:T.n<=maxLen):ETab w 0 (.slice (some ⟨g,0,none⟩) T.n T.n) T.n T.el y:=by
 refine ⟨F,zeT h.tab.row (Nat.zero_le _) hn,fun i hi=>?_⟩
 have:=h.tab.own i hi
 simp only [if_pos hi] at this
 exact this.mono (Nat.zero_le _)
theorem RnSt.start (h0:w.rowIs rb 53 2 (fun _=>.slice none 0 0)) (h1:w.rowIs ob 53 2 (fun k=>if k=0 then wv else .slice (some ⟨g,0,none⟩) T.n T.n)) (h2:Own w 0 3 1 wv T.nw (fun k _=>.int .i64 (T.W k)))
  (h3:w.rowIs g 86 T.n (fun _=>.slice none 0 0)):RnSt T nf g w.heap.size ob rb 0 0 wv y (fun _=>.slice none 0 0) w :=
 ⟨h0,h1,h2,⟨h3,fun v _=>by
  have e:(if v<0 then T.el v else if v=0 then 0 else 0)=0:=by
   rw [if_neg (by omega)]
   split <;> rfl
  rw [e]
  exact Own.nil _ _ _ _ _,fun _ _ _ _ _=>.inl rfl⟩,h0.lt,h1.lt,h3.lt,fun q e=>(h2.lt q e).2⟩
end
end Go.Proofs.YtgekjfpapmlndaaGreat