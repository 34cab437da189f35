/- Merged texts of a claim: MKer, Spc, SpOpen, PCode, PDual, ExpN, Right, LeadPl, RecFirst, RecRed, RecFrom, Recover, RefRec, ConDual, NullWord, AppMany, RestPl, SpanPl. -/
import Derived.Test.YtgekjfpapmlndaaGreatTY8
namespace Go.Proofs.YtgekjfpapmlndaaGreat
set_option maxRecDepth 100000
set_option maxHeartbeats 32000000
open KA KB KC KE KF
open Go.RowKit
def IndexPost (n:Nat) (f:Nat->Int) (v:Int) (w:World) (e:Ending) (w':World):Prop :=
 ∃ x:Int,e=.returned (.int .i64 x)/\Below w.heap.size w w'/\((x = -1/\∀ i,i<n->f i≠v)∨∃ i:Nat,x=i/\i<n/\f i=v/\∀ j,j<i->f j≠v)
theorem zeB (T:Option Addr) (n d:Nat) (f:Nat->Int) (v:Int) (w:World) (h:IntsR w w.heap.size T n f) (hn:n<=1048576) :
  Calls Tryz.prog 241 #[.slice T n d,.int .i64 v] w (IndexPost n f v w):=by
 have HR:=hid h
 clear h
 go_enter Tryz.func241, Tryz.ntmps241
 go_wp2
 go_loopg [8] n (fun gg iv wx=>∃ i:Nat,iv=.int .i64 (i:Nat)/\i<=n/\n<=i+gg/\Hid (∀ j,j<i->f j≠v)/\wx=w)
 case atStart=>exact ⟨0,rfl,by omega,by omega,fun t ht=>absurd ht (by omega),rfl⟩
 obtain ⟨i,rfl,hi,k,HA,c⟩:=hrel
 subst c
 have l:(0:Int)<=(i:Int):=by omega
 by_cases hlt:i<n
 rotate_left
 ·have a:¬ (i:Int)<(n:Int):=by omega
  have HP:Hid (∀ j,j<n->f j≠v):=fun j hj=>HA.out j (by omega)
  go_wp2
  go_ret
  exact ⟨_,rfl,Below.refl _ _,.inl ⟨rfl,HP.out⟩⟩
 have a:(i:Int)<(n:Int):=by omega
 obtain ⟨b,o,rfl,_,x0⟩:=HR.out.at hlt
 obtain ⟨x,hx⟩:=exx (f i)
 rw [<-hx] at x0
 by_cases he:v=x
 ·have hd:(v == x)=true:=by simpa using he
  have HP:Hid (∃ i2:Nat,(i:Int)=i2/\i2<n/\f i2=v/\∀ j,j<i2->f j≠v):=⟨i,rfl,hlt,by rw [<-hx,he],HA.out⟩
  clear he hx
  go_wp2
  go_ret
  exact ⟨_,rfl,Below.refl _ _,.inr HP.out⟩
 have hd:(v == x)=false:=by simpa using he
 have g:Hid (∀ j,j<i+1->f j≠v):=fun j hj=>by
  by_cases e:j=i
  ·rw [e,<-hx]; exact fun h=>he h.symm
  ·exact HA.out j (by omega)
 clear he hx
 go_wp2
 go_roundg (gk - 1)
 case measure=>omega
 case rel=>exact ⟨i+1,by go_num,by omega,by omega,g,rfl⟩
theorem zda (T:Option Addr) (n d:Nat) (f:Nat->Int) (v:Int) (w:World) (h:IntsR w w.heap.size T n f) (hn:n<=1048576) :
  Calls Tryz.prog 206 #[.slice T n d,.int .i64 v] w (IffPost (∃ i,i<n/\f i=v) w):=by
 go_enter Tryz.func206, Tryz.ntmps206
 go_wp2_with fail
 refine (zeB T n d f v w h hn).mono ?_
 rintro e w1 ⟨x,rfl,hB,hx⟩
 have HX:=hid hx
 clear hx h
 by_cases hx0:0<=x
 ·have hd:decide (0<=x)=true:=by simpa using hx0
  have HY:Hid (∃ i,i<n/\f i=v):=by
   rcases HX.out with ⟨h1,_⟩ | ⟨i,_,h2,h3,_⟩
   ·omega
   ·exact ⟨i,h2,h3⟩
  clear hx0
  go_wp2
  go_ret
  exact zbc HY.out hB
 have hd:decide (0<=x)=false:=by simpa using hx0
 have HY:Hid (¬ ∃ i,i<n/\f i=v):=by
  rcases HX.out with ⟨_,h1⟩ | ⟨i,h1,_,_,_⟩
  ·rintro ⟨i,h2,h3⟩; exact h1 i h2 h3
  ·omega
 clear hx0
 go_wp2
 go_ret
 exact zav HY.out hB
def MKerPost (P M : Int) (k : Nat) (f : Nat → Int) (cols : Int) (n : Nat) (ln : Nat → Nat) (V : Nat → Nat → Int) (w : World) (e : Ending) (w' : World) : Prop :=
 Below w.heap.size w w'/\∃ v:Int,FirstErr (MatErrs P M k f cols n ln V) v /\
  ((v≠0/\e=.returned (.tuple #[.agg #[.int .i64 0,.slice none 0 0],.int .i64 v])) ∨
   (v=0/\∃ (P' M' C:Nat) (lv:Value) (a:Nat) (W:Nat->Nat->Nat),P=P'/\M=M'/\cols=C/\e=.returned (.tuple #[.agg #[.int .i64 (C:Nat),lv],.int .i64 0]) /\
    MTab w' w.heap.size lv a C W/\NullRel (P' ^ M') (addF P' M') (mulF P' M' fun i=>(f i).toNat) (negF P' M') n C (natT V) a W))
theorem zcy (P M:Int) (A:Option Addr) (k c:Nat) (f:Nat->Int) (cols:Int) (T:Option Addr) (n d:Nat) (ln:Nat->Nat) (V:Nat->Nat->Int) (w:World) (hr:IntsR w w.heap.size A k f) (h:IntRows w T n ln V) (hc1:1<=cols) :
  Calls Tryz.prog 153 #[.agg #[.int .i64 P,.int .i64 M,.slice A k c],.agg #[.int .i64 cols,.slice T n d]] w (MKerPost P M k f cols n ln V w):=by
 have HR:=hid hr
 have HT:=hid h
 clear hr h
 have rf:=zaq (w:=w) (a:=.int .i64 P) (b:=.int .i64 M) (c:=.slice A k c) (T := 24)
 have hB:=aly w (.cells #[.int .i64 P,.int .i64 M,.slice A k c] 24)
 have O:(w.alloc (.cells #[.int .i64 P,.int .i64 M,.slice A k c] 24)).heap.size=w.heap.size+1:=by simp
 obtain ⟨w0,a1⟩:=exx (w.alloc (.cells #[.int .i64 P,.int .i64 M,.slice A k c] 24))
 have rm:=zai (w:=w0) (a:=.int .i64 cols) (b:=.slice T n d) (T := 106)
 have kb:=aly w0 (.cells #[.int .i64 cols,.slice T n d] 106)
 have E:(w0.alloc (.cells #[.int .i64 cols,.slice T n d] 106)).heap.size=w0.heap.size+1:=by simp
 obtain ⟨w1,a0⟩:=exx (w0.alloc (.cells #[.int .i64 cols,.slice T n d] 106))
 have ro:=zai (w:=w1) (a:=.int .i64 0) (b:=.slice none 0 0) (T := 106)
 have G:=aly w1 (.cells #[.int .i64 0,.slice none 0 0] 106)
 obtain ⟨w2,Z⟩:=exx (w1.alloc (.cells #[.int .i64 0,.slice none 0 0] 106))
 rw [<-a1] at hB rf O;rw [<-a0] at rm kb E;rw [<-Z] at ro G;rw [E,O] at ro;rw [O] at rm;replace rf:=zaa (zaa rf kb) G;replace rm:=zaa rm G;replace hB:=onS (onS hB kb) G
 go_enter Tryz.func153, Tryz.ntmps153
 go_upto_region 1 with fail
 rw [<-a1,<-a0,<-Z];clear a1 a0 Z kb G O E
 obtain ⟨b0,af⟩:=exx w.heap.size
 obtain ⟨b1,ae⟩:=exx (w.heap.size+1)
 obtain ⟨b2,ac⟩:=exx (w.heap.size+1+1)
 have bs:w.heap.size<=b2:=by omega
 rw [<-af] at rf;rw [<-ae] at rm;rw [<-ac] at ro;rw [<-ac,<-ae,<-af];clear af ae ac
 have q0:=qc0 rf
 have q1:=qc1 rf
 have q2:=qc2 rf
 have p0:=qc0 rm
 have p1:=qc1 rm
 go_wp2_with fail
 have l:=aly w2 (Obj.cells #[.int .i64 cols,.slice T n d] 106)
 have rl:=zai (w:=w2) (a:=.int .i64 cols) (b:=.slice T n d) (T := 106)
 obtain ⟨w3,aq⟩:=exx (w2.alloc (Obj.cells #[.int .i64 cols,.slice T n d] 106))
 rw [<-aq] at l rl ⊢;replace hB:=onS hB l;replace rf:=zaa rf l;replace rm:=zaa rm l;replace ro:=zaa ro l;clear aq l q0 q1 q2 p0 p1
 refine (zfR P M A k c f cols T n d w2.heap.size 1 ln V w3 (HR.out.on hB) (HT.out.on hB) (rl.cell (i:=0) (by omega)) (rl.cell (i:=1) (by omega))).mono ?_
 rintro e w4 ⟨kb,v,hv,I⟩
 replace hB:=onS hB kb;replace rm:=zaa rm kb;replace ro:=zaa ro kb
 have HV:=hid hv
 clear kb rl rf hv
 rcases I with ⟨a3,rfl⟩ | ⟨rfl,g,P,M,rfl,rfl,rfl,hG⟩
 ·have cf:(v != 0)=true:=by simpa using a3
  have c1:=hid a3
  clear a3 rm
  have r0:=ro.frozen 0
  have s0:=qc0 ro
  have r1:=ro.frozen 1
  have s1:=qc1 ro
  go_wp2
  clear r0 s0 r1 s1
  generalize hw9:World.setCell _ _ _=w5
  obtain ⟨row9,R⟩:=zbw ro hw9.symm
  clear hw9
  have ah:=hB.grown R hB.size (fun q e=>by injection e with e; omega)
  have e0:=qc0 row9
  have e1:=qc1 row9
  refine bodyPost_ret (v:=.tuple #[.agg #[.int .i64 0,.slice none 0 0],.int .i64 v]) (by simp [results,Tryz.results153, go_sem,e0,e1]) rfl ?_
  exact ⟨ah,v,HV.out,.inl ⟨c1.out,rfl⟩⟩
 have bk:=HV.out
 rcases bk with ⟨_,h9⟩ | ⟨z,⟨_,h9⟩ | ⟨hs,⟨_,h9⟩ | ⟨he,_⟩⟩⟩
 ·cases h9
 ·cases h9
 ·cases h9
 obtain ⟨C,rfl⟩:∃ C:Nat,cols=C:=⟨cols.toNat,by omega⟩
 rw [Int.toNat_natCast,Int.toNat_natCast] at he
 obtain ⟨hm,av⟩:=zcw (HT.out.on hB) hs he
 have b4:0<C:=by omega
 have b3:C<=1048576:=by have:=hs.2.1; omega
 have bl:n<=1048576:=by have:=hs.2.2.1; omega
 have p0:=qc0 rm
 have p1:=qc1 rm
 have al:=hid z.field.1
 have HG:=hid hG
 have ba:=hid hm
 have bb:=hid av
 have HC:Hid (C<=256):=by show _<=_; have:=hs.2.1; omega
 have ce:=hid hB
 clear hs he z hG hm av hB
 go_wp2_with fail
 refine (zc9 P M g _ T n d C C (natT V) w4 HG.out ba.out bb.out (Nat.le_refl _) b4 b3 bl).mono ?_
 rintro e w5 ⟨lv,pv,a,p,W,rfl,ag,hP,kb,hE,hR⟩
 have bg:=hid (onS ce.out kb)
 have bc:=hid (HG.out.on kb)
 replace ro:=zaa ro kb;replace rm:=zaa rm kb
 have HE:=hid hE
 have c3:=hid hR
 obtain ⟨LA,lc,bn⟩:=ag.shape
 subst bn
 obtain ⟨PA,pc,bh⟩:=hP.shape
 subst bh
 have c9:=hid ag
 have b7:=hid hP
 have cm:=hE.le_c
 have S:=hid rm
 have aj:=hid ro
 clear kb ag hP hE hR ba bb HG p0 p1 rm ro
 have p0:=qc0 S.out
 have hL:=hid (fieldLaws al.out)
 have bv:0<P:=by have:=al.out.1.1; omega
 have c4:Hid (∀ x,negF P M x<P ^ M):=fun x=>zbv bv
 have H0:=hid (MTab.nil w5 w5.heap.size C (fun _ _=>0))
 have bm:=fun W=>zaf (P:=Tryz.prog) 22 3 _ 8 Tryz.underlying22 Tryz.infoInt rfl (C:Int) (by omega) (by omega) (by omega) W
 simp only [Int.toNat_natCast] at bm
 go_wp2
 clear p0
 obtain ⟨nv,a9⟩:∃ x:Value,x=.slice none 0 0:=⟨_,rfl⟩
 rw [<-a9] at H0;rw [<-a9];clear a9
 go_loopg [10,37] C (fun gg ov cv wx=>∃ (c0 f0:Nat) (fr:Nat->Nat) (NW:Nat->Nat->Nat),cv=.int .i64 (c0:Nat)/\c0<=C/\C<=c0+gg/\f0<=c0/\Hid (NullN (negF P M) C a p W c0 f0 fr NW)/\Hid (MTab wx w5.heap.size ov f0 C NW)/\Hid (Below w5.heap.size w5 wx))
 case atStart=>exact ⟨0,0,fun _=>0,fun _ _=>0,rfl,by omega,by omega,by omega,hid NullN.start,H0,Below.refl _ _⟩
 clear H0
 obtain ⟨c0,f0,fr,NW,rfl,hc,bq,cl,HN,HO,u⟩:=hrel
 have br:(0:Int)<=(c0:Int):=by omega
 obtain ⟨gO,bo⟩:=exx gk
 rw [<-bo] at bq
 have p0:wr.cell? ⟨b1,0,none⟩=some (.int .i64 (C:Nat)):=cellS u.out (S.out.cell (i:=0) (by omega))
 by_cases hcl:c0<C
 rotate_left
 ·have ab:¬ (c0:Int)<(C:Int):=by omega
  have aw:c0=C:=by omega
  have X:Hid (NullN (negF P M) C a p W C f0 fr NW):=by have h:=HN.out; rw [aw] at h; exact h
  clear aw
  obtain ⟨OA,oc,bj⟩:=HO.out.shape
  subst bj
  have b9:Hid (∀ i,i<f0->∀ j,j<C->NW i j<P ^ M):=fun i hi j hj=>by
   rw [X.out.row i hi j hj]
   exact zhe hL.out.two c4.out _ _ _
  have c8:=hid (HO.out.rd (q:=P ^ M) al.out.1.2.2.2 b9.out)
  have bp:f0<=1048576:=by have:=HC.out; omega
  go_wp2_with fail
  refine (zc9 P M g _ OA f0 oc C C NW wr (bc.out.on u.out) c8.out b9.out (Nat.le_refl _) b4 b3 bp).mono ?_
  rintro e w6 ⟨lv2,pv2,a2,p2,W2,rfl,F,ay,kb,az,ax⟩
  have ak:Hid (NullRel (P ^ M) (addF P M) (mulF P M fun i=>(f i).toNat) (negF P M) n C (natT V) a2 W2):=⟨a,p,W,f0,fr,NW,p2,HE.out,c3.out,X.out,az,ax⟩
  obtain ⟨LA2,lc2,aa⟩:=F.shape
  subst aa
  obtain ⟨PA2,pc2,a7⟩:=ay.shape
  subst a7
  have a5:=bg.out.size
  have a6:=u.out.size
  have ca:=hid (F.mono (Nat.le_trans a5 a6))
  have bf:=hid (onS (onS bg.out u.out) kb)
  have ro:=zaa (zaa aj.out u.out) kb
  have p0:w6.cell? ⟨b1,0,none⟩=some (.int .i64 (C:Nat)):=cellS kb (cellS u.out (S.out.cell (i:=0) (by omega)))
  clear kb F ay az ax
  have r0:=ro.frozen 0
  have s0:=qc0 ro
  have r1:=ro.frozen 1
  have s1:=qc1 ro
  go_wp2
  clear r0 s0 r1 s1 p0
  generalize hw9:World.setCell _ _ _=w7
  obtain ⟨row9,R⟩:=zbw ro hw9.symm
  clear hw9
  have ah:=bf.out.grown R bf.out.size (fun q e=>by injection e with e; omega)
  have bw:=ca.out.kept R ro (by decide) (by decide)
  have e0:=qc0 row9
  have e1:=qc1 row9
  refine bodyPost_ret (v:=.tuple #[.agg #[.int .i64 (C:Nat),.slice LA2 a2 lc2],.int .i64 0]) (by simp [results,Tryz.results153, go_sem,e0,e1]) rfl ?_
  exact ⟨ah,0,HV.out,.inr ⟨rfl,P,M,C,_,a2,W2,rfl,rfl,rfl,rfl,bw,ak.out⟩⟩
 have ab:(c0:Int)<(C:Int):=by omega
 go_wp2_with fail
 refine (zda PA a pc (fun s=>((p s:Nat):Int)) (c0:Int) wr ((show IntsR w5 w5.heap.size PA a (fun s=>((p s:Nat):Int)) from b7.out.rd rfl).on u.out) (by omega)).mono ?_
 rintro e wC ⟨b,rfl,hb,kb⟩
 have N:=hid (onS u.out kb)
 have b8:=hid (HO.out.on kb)
 have bd:=hid hb
 clear kb hb HO u p0
 cases b
 rotate_left
 ·have cc:Hid (∃ s,s<a/\p s=c0):=by
   obtain ⟨s,hs,e⟩:=bd.out.1 rfl
   exact ⟨s,hs,by omega⟩
  have X:=hid (HN.out.skip cc.out)
  go_wp2
  go_roundg (gO - 1)
  case measure=>omega
  case rel=>exact ⟨c0+1,f0,fr,NW,by go_num,by omega,by omega,by omega,X,b8,N⟩
 have K:Hid (∀ s,s<a->p s≠c0):=fun s hs e=>by have:=bd.out.2 ⟨s,hs,by rw [e]⟩; cases this
 have p0:wC.cell? ⟨b1,0,none⟩=some (.int .i64 (C:Nat)):=cellS N.out (S.out.cell (i:=0) (by omega))
 go_upto_region 11 with fail
 have rx:=World.rowIs_made wC (.int .i64 0) C 3
 have kb:=(Below.refl wC.heap.size wC).alloc (Nat.le_refl _) (Obj.cells (madeCells #[Value.int .i64 0] C) 3)
 obtain ⟨w6,ap⟩:=exx (wC.alloc (Obj.cells (madeCells #[Value.int .i64 0] C) 3))
 obtain ⟨xb,an⟩:=exx wC.heap.size
 rw [<-ap] at kb rx ⊢;rw [<-an] at rx ⊢
 have D:wC.heap.size<=xb:=by omega
 clear ap an p0
 have y0:=rx.cell hcl
 have z0:=rx.frozen c0
 have B:=hid ((rx.set c0 (.int .i64 1)).congr (g:=fun t=>.int .i64 ((nrow (negF P M) p W c0 0 t:Nat):Int)) fun t _=>by
  show (if t=c0 then Value.int .i64 1 else .int .i64 0)=.int .i64 (((if t=c0 then 1 else 0:Nat)):Int)
  split <;> rfl)
 have m:=hid (kb.setCell (p:=⟨xb,c0,none⟩) D (.int .i64 1))
 clear rx kb
 go_wp2
 clear y0 z0
 obtain ⟨w7,ao⟩:=exx (w6.setCell ⟨xb,c0,none⟩ (.int .i64 1))
 rw [<-ao] at B m ⊢;clear ao
 go_loopg [51] a (fun gg iv wx=>∃ t:Nat,iv=.int .i64 (t:Nat)/\t<=a/\a<=t+gg/\Hid (wx.rowIs xb 3 C (fun j=>.int .i64 ((nrow (negF P M) p W c0 t j:Nat):Int)))/\Hid (Below wC.heap.size wC wx))
 case atStart=>exact ⟨0,rfl,by omega,by omega,B,m⟩
 clear B m
 obtain ⟨t,rfl,ht,cg,B,m⟩:=hrel
 have ci:(0:Int)<=(t:Int):=by omega
 by_cases htl:t<a
 rotate_left
 ·have a4:¬ (t:Int)<(a:Int):=by omega
  have ar:t=a:=by omega
  have b6:Hid (Own wr w5.heap.size 3 1 (.slice (some ⟨xb,0,none⟩) C C) C (fun j _=>.int .i64 ((nrow (negF P M) p W c0 a j:Nat):Int))):=by
   have h:=zaI B.out (Nat.le_trans N.out.size D) (show C<=maxLen by unfold maxLen; have:=HC.out; omega)
   rw [ar] at h
   exact h
  clear ar
  have U:=hid (b8.out.on m.out)
  have Y:=hid (onS N.out m.out)
  have l:=aly wr (Obj.cells #[.slice (some ⟨xb,0,none⟩) C C] 22)
  have bz:=hid (b6.out.on l)
  have c6:=hid (U.out.on l)
  have be:=hid (onS Y.out l)
  have b5:=hid be.out.size
  have cd:Hid ((wr.alloc (Obj.cells #[.slice (some ⟨xb,0,none⟩) C C] 22)).cell? ((⟨wr.heap.size,0,none⟩:Addr).add 0)=some (.slice (some ⟨xb,0,none⟩) C C)):=tbox2
  have HL:Hid (f0<=1048576):=by show _<=_; have:=HC.out; omega
  clear l b6 U Y B m
  go_wp2_with (first | (at_builtin; (refine zaB rfl (.tmp 69) (.tmp 71) rfl c6.out rfl (ad:=⟨wr.heap.size,0,none⟩) (c:=1) rfl cd.out rfl bz.out b5.out HL.out ?_); intro v9 w9 o1 o2 o3))
  have c7:=hid (HN.out.next K.out (x:=fun j=>nrow (negF P M) p W c0 a j) (fun j _=>rfl))
  have U:=hid o1
  have Y:=hid (be.out.grown o2 b5.out o3)
  clear o1 o2 o3
  go_wp2
  go_roundg (gO - 1)
  case measure=>omega
  case rel=>exact ⟨c0+1,f0+1,_,_,by go_num,by omega,by omega,by omega,c7,U,Y⟩
 have a4:(t:Int)<(a:Int):=by omega
 obtain ⟨pb,po,bu,ck,x0⟩:=(show IntsR w5 w5.heap.size PA a (fun s=>((p s:Nat):Int)) from b7.out.rd rfl).at htl
 subst bu
 obtain ⟨tb,to0,RA,rc,bx,_,ch,y0,_,H⟩:=c9.out.row htl
 subst bx
 obtain ⟨rb,ro,bt,cj,y1⟩:=(show IntsR w5 w5.heap.size RA C (fun j=>((W t j:Nat):Int)) from H.rd rfl).at (i:=c0) hcl
 subst bt
 clear H
 obtain ⟨pt,Q⟩:=exx (p t)
 obtain ⟨y,hy⟩:=exx (W t c0)
 rw [<-Q] at x0;rw [<-hy] at y1
 have a8:pt<C:=by rw [Q]; exact HE.out.pvlt t htl
 have au:(pt:Int)<(C:Int):=by omega
 have bi:(0:Int)<=(pt:Int):=by omega
 have cb:=hid (zan (q:=P ^ M) (x:=y) (by rw [hy]; exact HE.out.lt t (by have:=HE.out.le; omega) c0 hcl))
 have c5:=hid Q
 have HY:=hid hy
 clear Q hy
 have L:=hid (onS N.out m.out)
 replace x0:=cellS L.out x0;replace y0:=cellS L.out y0;replace y1:=cellS L.out y1
 go_wp2_with fail
 refine (zcQ (y:Int) (bc.out.on L.out)).mono ?_
 rintro e w8 ⟨rfl,kb⟩
 rw [cb.out]
 have o:=hid (zaa B.out kb)
 have J:=hid (onS m.out kb)
 obtain ⟨r,hr⟩:=exx (negF P M y)
 rw [<-hr]
 have c2:=hid hr
 clear kb hr x0 y0 y1 B m L
 have y0:=o.out.cell a8
 have z0:=o.out.frozen pt
 have ai:=hid ((o.out.set pt (.int .i64 (r:Nat))).congr (g:=fun j=>.int .i64 ((nrow (negF P M) p W c0 (t+1) j:Nat):Int)) fun j _=>by
  show (if j=pt then Value.int .i64 (r:Nat) else .int .i64 (nrow (negF P M) p W c0 t j:Nat))=.int .i64 (((if j=p t then negF P M (W t c0) else nrow (negF P M) p W c0 t j:Nat)):Int)
  rw [c5.out]
  split
  ·rw [c2.out,HY.out]
  ·rfl)
 have am:=hid (J.out.setCell (p:=⟨xb,pt,none⟩) D (.int .i64 (r:Nat)))
 clear o J
 go_wp2
 go_roundg (gk - 1)
 case measure=>omega
 case rel=>exact ⟨t+1,by go_num,by omega,by omega,ai,am⟩
theorem zch (A B:Option Addr) (n m c d:Nat) (f g:Nat->Int) (w:World) (ha:IntsR w w.heap.size A n f) (hb:IntsR w w.heap.size B m g) (hn:n<=1048576) (hm:m<=1048576) :
  Calls Tryz.prog 92 #[.slice A n c,.slice B m d] w (IffPost (EqI n m f g) w):=by
 have HA:=hid ha
 have HB:=hid hb
 clear ha hb
 by_cases hnm:n=m
 rotate_left
 ·have hd:((n:Int) != (m:Int))=true:=by simp; omega
  have j:Hid (¬ EqI n m f g):=fun h=>hnm h.1
  clear hnm
  go_enter Tryz.func92, Tryz.ntmps92
  go_wp2
  go_ret
  exact zav j.out (Below.refl _ _)
 subst hnm
 have hd:((n:Int) != (n:Int))=false:=by simp
 go_enter Tryz.func92, Tryz.ntmps92
 go_wp2
 go_loopg [13] n (fun gg iv wx=>∃ i:Nat,iv=.int .i64 (i:Nat)/\i<=n/\n<=i+gg/\Hid (∀ t,t<i->f t=g t)/\Hid (Below w.heap.size w wx))
 case atStart=>exact ⟨0,rfl,by omega,by omega,fun t ht=>absurd ht (by omega),Below.refl _ _⟩
 obtain ⟨i,rfl,hi,p,HE,HW⟩:=hrel
 have q:(0:Int)<=(i:Int):=by omega
 by_cases hlt:i<n
 rotate_left
 ·have a:¬ (i:Int)<(n:Int):=by omega
  have HY:Hid (EqI n n f g):=⟨rfl,fun t ht=>HE.out t (by omega)⟩
  go_wp2
  go_ret
  exact zbc HY.out HW.out
 have a:(i:Int)<(n:Int):=by omega
 obtain ⟨b,o,rfl,_,x0⟩:=(HA.out.on HW.out).at hlt
 obtain ⟨b2,o2,rfl,_,y0⟩:=(HB.out.on HW.out).at hlt
 obtain ⟨x,hx⟩:=exx (f i)
 obtain ⟨y,hy⟩:=exx (g i)
 rw [<-hx] at x0;rw [<-hy] at y0
 by_cases he:x=y
 ·have k:(x != y)=false:=by simpa using he
  have l:Hid (∀ t,t<i+1->f t=g t):=fun t ht=>by
   by_cases e:t=i
   ·rw [e,<-hx,<-hy,he]
   ·exact HE.out t (by omega)
  clear he hx hy
  go_wp2
  go_quiet (fail)
  go_wp2
  go_roundg (gk - 1)
  case measure=>omega
  case rel=>exact ⟨i+1,by go_num,by omega,by omega,l,zac HW.out _⟩
 have k:(x != y)=true:=by simpa using he
 have j:Hid (¬ EqI n n f g):=fun h=>he (by rw [hx,hy]; exact h.2 i hlt)
 clear he hx hy
 go_wp2
 go_quiet (fail)
 go_wp2
 go_ret
 exact zav j.out (zac HW.out _)
theorem zeC (A B:Option Addr) (n m c d:Nat) (ln ln':Nat->Nat) (V W:Nat->Nat->Int) (w:World) (ha:IntRows w A n ln V) (hb:IntRows w B m ln' W) (hn:n<=1048576) (hm:m<=1048576) (hl:∀ i,i<n->ln i<=1048576) (hl2:∀ i,i<m->ln' i<=1048576) :
  Calls Tryz.prog 215 #[.slice A n c,.slice B m d,.func (.func 92) #[] #[]] w (IffPost (EqT n m ln ln' V W) w):=by
 have v:∀ (x y:Value) (W:World),(callFunc 92 #[x,y]).run Tryz.prog W=.ok (.enter 92 #[x,y]) W:=fun _ _ _=>by kernel_rfl
 have HA:=hid ha
 have HB:=hid hb
 have HL:=hid hl
 have q:=hid hl2
 clear ha hb hl hl2
 by_cases hnm:n=m
 rotate_left
 ·have hd:((n:Int) != (m:Int))=true:=by simp; omega
  have k:Hid (¬ EqT n m ln ln' V W):=fun h=>hnm h.1
  clear hnm
  go_enter Tryz.func215, Tryz.ntmps215
  go_wp2
  go_ret
  exact zav k.out (Below.refl _ _)
 subst hnm
 have hd:((n:Int) != (n:Int))=false:=by simp
 go_enter Tryz.func215, Tryz.ntmps215
 go_wp2
 go_loopg [17] n (fun gg iv wx=>∃ i:Nat,iv=.int .i64 (i:Nat)/\i<=n/\n<=i+gg/\Hid (∀ t,t<i->EqI (ln t) (ln' t) (V t) (W t))/\Hid (Below w.heap.size w wx))
 case atStart=>exact ⟨0,rfl,by omega,by omega,fun t ht=>absurd ht (by omega),Below.refl _ _⟩
 obtain ⟨i,rfl,hi,s,HE,HW⟩:=hrel
 have u:(0:Int)<=(i:Int):=by omega
 by_cases hlt:i<n
 rotate_left
 ·have j:¬ (i:Int)<(n:Int):=by omega
  have HY:Hid (EqT n n ln ln' V W):=⟨rfl,fun t ht=>HE.out t (by omega)⟩
  go_wp2
  go_ret
  exact zbc HY.out HW.out
 have j:(i:Int)<(n:Int):=by omega
 obtain ⟨b,o,RA,rc,rfl,_,x0,_,_,g,_⟩:=(HA.out.on HW.out) i hlt
 obtain ⟨b2,o2,RB,rc2,rfl,_,y0,_,_,a,_⟩:=(HB.out.on HW.out) i hlt
 have H1:=hid g
 have H2:=hid a
 clear g a
 go_wp2_with fail
 refine (zch RA RB (ln i) (ln' i) rc rc2 (V i) (W i) wr H1.out H2.out (HL.out i hlt) (q.out i hlt)).mono ?_
 rintro e w2 ⟨b,rfl,hb,kb⟩
 have p:=hid (onS HW.out kb)
 have l:=hid hb
 clear kb hb x0 y0 H1 H2 HW
 cases b
 ·have k:Hid (¬ EqT n n ln ln' V W):=fun h=>by have:=l.out.2 (h.2 i hlt); cases this
  go_wp2
  go_ret
  exact zav k.out p.out
 have r:Hid (∀ t,t<i+1->EqI (ln t) (ln' t) (V t) (W t)):=fun t ht=>by
  by_cases e:t=i
  ·rw [e]; exact l.out.1 rfl
  ·exact HE.out t (by omega)
 go_wp2
 go_roundg (gk - 1)
 case measure=>omega
 case rel=>exact ⟨i+1,by go_num,by omega,by omega,r,p⟩
def viewCell (a b c d:Value) (i:Nat):Value:=if i=0 then a else if i=1 then b else if i=2 then c else d
theorem KD.qc0 {w:World} {g:Nat} {T:TypeId} {a b c d:Value} (h:w.rowIs g T 4 (viewCell a b c d)) : w.cell? ⟨g,0,none⟩=some a:=h.cell (i:=0) (by decide)
theorem KD.qc1 {w:World} {g:Nat} {T:TypeId} {a b c d:Value} (h:w.rowIs g T 4 (viewCell a b c d)) : w.cell? ⟨g,1,none⟩=some b:=h.cell (i:=1) (by decide)
theorem KD.qc2 {w:World} {g:Nat} {T:TypeId} {a b c d:Value} (h:w.rowIs g T 4 (viewCell a b c d)) : w.cell? ⟨g,2,none⟩=some c:=h.cell (i:=2) (by decide)
theorem KD.qc3 {w:World} {g:Nat} {T:TypeId} {a b c d:Value} (h:w.rowIs g T 4 (viewCell a b c d)) : w.cell? ⟨g,3,none⟩=some d:=h.cell (i:=3) (by decide)
open KD
theorem zgn {w:World} {a b c d:Value} {T:TypeId}:(w.alloc (.cells #[a,b,c,d] T)).rowIs w.heap.size T 4 (viewCell a b c d) :=
 ⟨_,zaA rfl,rfl,fun i hi=>by
  rcases (show i=0∨i=1∨i=2∨i=3 by omega) with rfl | rfl | rfl | rfl <;> rfl⟩
theorem zdb {w w':World} {g:Nat} {T:TypeId} {f:Nat->Value} {a b c d:Value} (h:w.rowIs g T 4 f) (hw:w'=(((w.setCell ⟨g,0,none⟩ a).setCell ⟨g,1,none⟩ b).setCell ⟨g,2,none⟩ c).setCell ⟨g,3,none⟩ d):w'.rowIs g T 4 (viewCell a b c d)/\w.grownBy w' (some g):=by
 rw [hw]
 refine ⟨((((h.set 0 _).set 1 _).set 2 _).set 3 _).congr fun j hj=>?_,zax (zax (zax (zba _ _ _ _) _ _) _ _) _ _⟩
 match j,hj with
 | 0,_=>rfl
 | 1,_=>rfl
 | 2,_=>rfl
 | 3,_=>rfl
def SOpenPost (P M : Int) (k : Nat) (f : Nat → Int) (cols : Nat) (T : Option Addr) (n d : Nat) (ln : Nat → Nat) (V : Nat → Nat → Int) (w : World) (e : Ending) (w' : World) : Prop :=
 Below w.heap.size w w'/\∃ v:Int,FirstErr (SpaceErrs P M k f cols n ln V) v /\
  ((v≠0/\e=.returned (.tuple #[.agg #[.pointer none,.int .i64 0,.slice none 0 0,.slice none 0 0],.int .i64 v])) ∨
   (v=0/\∃ (P' M' C g:Nat) (pv:Value) (p:Nat->Nat),P=P'/\M=M'/\cols=C/\e=.returned (.tuple #[.agg #[.pointer (some ⟨g,0,none⟩),.int .i64 (C:Nat),.slice T n d,pv],.int .i64 0]) /\
    GF w' w'.heap.size g P' M' (fun i=>(f i).toNat)/\Own w' w.heap.size 3 1 pv n (fun j _=>.int .i64 (p j:Nat))/\EchN (P' ^ M') n C C n p (natT V)))
theorem zgo {q n k a:Nat} {p:Nat->Nat} {V W:Nat->Nat->Nat} (hE:EchN q n k k a p W) (h:a=n/\∀ i,i<a->∀ j,j<k->W i j=V i j):EchN q n k k n p V:=by
 obtain ⟨rfl,h2⟩:=h
 exact hE.congr (Nat.le_refl _) h2
theorem zis (P M:Int) (A:Option Addr) (k c:Nat) (f:Nat->Int) (cols:Nat) (T:Option Addr) (n d:Nat) (ln:Nat->Nat) (V:Nat->Nat->Int) (w:World) (hr:IntsR w w.heap.size A k f) (h:IntRows w T n ln V) (hc1:1<=cols) :
  Calls Tryz.prog 166 #[.agg #[.int .i64 P,.int .i64 M,.slice A k c],.agg #[.int .i64 (cols:Nat),.slice T n d]] w (SOpenPost P M k f cols T n d ln V w):=by
 have HR:=hid hr
 have HT:=hid h
 clear hr h
 have rf:=zaq (w:=w) (a:=.int .i64 P) (b:=.int .i64 M) (c:=.slice A k c) (T := 24)
 have hB:=aly w (.cells #[.int .i64 P,.int .i64 M,.slice A k c] 24)
 have O:(w.alloc (.cells #[.int .i64 P,.int .i64 M,.slice A k c] 24)).heap.size=w.heap.size+1:=by simp
 obtain ⟨w0,U⟩:=exx (w.alloc (.cells #[.int .i64 P,.int .i64 M,.slice A k c] 24))
 have rm:=zai (w:=w0) (a:=.int .i64 (cols:Nat)) (b:=.slice T n d) (T := 106)
 have kb:=aly w0 (.cells #[.int .i64 (cols:Nat),.slice T n d] 106)
 have s:(w0.alloc (.cells #[.int .i64 (cols:Nat),.slice T n d] 106)).heap.size=w0.heap.size+1:=by simp
 obtain ⟨w1,S⟩:=exx (w0.alloc (.cells #[.int .i64 (cols:Nat),.slice T n d] 106))
 have ro:=zgn (w:=w1) (a:=.pointer none) (b:=.int .i64 0) (c:=.slice none 0 0) (d:=.slice none 0 0) (T := 196)
 have y:=aly w1 (.cells #[.pointer none,.int .i64 0,.slice none 0 0,.slice none 0 0] 196)
 obtain ⟨w2,R⟩:=exx (w1.alloc (.cells #[.pointer none,.int .i64 0,.slice none 0 0,.slice none 0 0] 196))
 rw [<-U] at hB rf O;rw [<-S] at rm kb s;rw [<-R] at ro y;rw [s,O] at ro;rw [O] at rm;replace rf:=zaa (zaa rf kb) y;replace rm:=zaa rm y;replace hB:=onS (onS hB kb) y
 go_enter Tryz.func166, Tryz.ntmps166
 go_upto_region 1 with fail
 rw [<-U,<-S,<-R];clear U S R kb y O s
 obtain ⟨b0,a0⟩:=exx w.heap.size
 obtain ⟨b1,Z⟩:=exx (w.heap.size+1)
 obtain ⟨b2,Y⟩:=exx (w.heap.size+1+1)
 have ah:w.heap.size<=b2:=by omega
 rw [<-a0] at rf;rw [<-Z] at rm;rw [<-Y] at ro;rw [<-Y,<-Z,<-a0];clear a0 Z Y
 have q0:=qc0 rf
 have q1:=qc1 rf
 have q2:=qc2 rf
 have p0:=qc0 rm
 have p1:=qc1 rm
 go_wp2_with fail
 have an:=hB.size
 refine (zd4 P M A k c f (cols:Int) T n d ln V w2 (HR.out.on hB) (HT.out.on hB) (by omega)).mono ?_
 rintro e w4 ⟨kb,v,hv,E⟩
 replace hB:=onS hB kb;replace rf:=zaa rf kb;replace rm:=zaa rm kb;replace ro:=zaa ro kb
 have HV:=hid hv
 clear kb hv q0 q1 q2 p0 p1
 rcases E with ⟨N,rfl⟩ | ⟨rfl,P,M,C,lv,pv,a,p,W,rfl,rfl,am,rfl,a2,hP,hE,a5⟩
 ·have ax:(v != 0)=true:=by simpa using N
  have ao:=hid N
  have Q:=hid (FirstErr.app (r:=[(RrefN (P.toNat ^ M.toNat) n cols (natT V),5)]) (u:=v) (by simp) (show FirstErr [(GoodF P M k f,1),(ShapeM cols n ln,3),(ElemsM (P.toNat ^ M.toNat) n ln V,2)] v from HV.out) (fun _=>rfl) (fun h=>absurd h N))
  clear N rm rf
  go_upto_region 2 with fail
  have m:=aly w4 (Obj.cells #[.int .i64 0,.slice none 0 0] 106)
  obtain ⟨w5,z⟩:=exx (w4.alloc (Obj.cells #[.int .i64 0,.slice none 0 0] 106))
  rw [<-z] at m ⊢;replace hB:=onS hB m;replace ro:=zaa ro m;clear z m
  have r0:=ro.frozen 0
  have s0:=qc0 ro
  have r1:=ro.frozen 1
  have s1:=qc1 ro
  have r2:=ro.frozen 2
  have s2:=qc2 ro
  have r3:=ro.frozen 3
  have s3:=qc3 ro
  go_wp2
  clear r0 s0 r1 s1 r2 s2 r3 s3
  generalize hw9:World.setCell _ _ _=w6
  obtain ⟨row9,x⟩:=zdb ro hw9.symm
  clear hw9
  have F:=hB.grown x hB.size (fun q e=>by injection e with e; omega)
  have e0:=qc0 row9
  have e1:=qc1 row9
  have e2:=qc2 row9
  have e3:=qc3 row9
  refine bodyPost_ret (v:=.tuple #[.agg #[.pointer none,.int .i64 0,.slice none 0 0,.slice none 0 0],.int .i64 v]) (by simp [results,Tryz.results166, go_sem,e0,e1,e2,e3]) rfl ?_
  exact ⟨F,v,by simpa [SpaceErrs] using Q.out,.inl ⟨ao.out,rfl⟩⟩
 obtain rfl:C=cols:=by omega
 clear am
 have ac:=HV.out
 rcases ac with ⟨_,h9⟩ | ⟨o,⟨_,h9⟩ | ⟨hs,⟨_,h9⟩ | ⟨he,_⟩⟩⟩
 ·cases h9
 ·cases h9
 ·cases h9
 rw [Int.toNat_natCast,Int.toNat_natCast] at he
 have a8:=hid (zcw (HT.out.on hB) hs he).1
 have ar:=hid (zcw (HT.out.on hB) hs he).2
 have b3:C<=256:=by have:=hs.2.1; omega
 have ay:n<=256:=by have:=hs.2.2.1; omega
 have az:=hE.le
 have av:=hid o
 have aw:=hid (zew (fieldLaws o.field.1) ar.out hE a5)
 have ap:=hid (fun h=>zgo (V:=natT V) hE h)
 have au:Hid (∀ i,i<n->ln i=C):=fun i hi=>by have:=hs.2.2.2 i hi; omega
 have a3:=a2.shape
 obtain ⟨LA,lc,ae⟩:=a3
 subst ae
 obtain ⟨PA,pc,ab⟩:=hP.shape
 subst ab
 have B:=o.field.1.1.2.2.2
 have a7:=hid (a2.rd (q:=P ^ M) B fun i hi=>hE.lt i (by omega))
 have a6:=hid hP
 clear a2 hP hE a5 hs he o
 go_upto_region 2 with fail
 have m:=aly w4 (Obj.cells #[.int .i64 (C:Nat),.slice LA a lc] 106)
 have rl:=zai (w:=w4) (a:=.int .i64 (C:Nat)) (b:=.slice LA a lc) (T := 106)
 obtain ⟨w5,z⟩:=exx (w4.alloc (Obj.cells #[.int .i64 (C:Nat),.slice LA a lc] 106))
 obtain ⟨b6,a4⟩:=exx w4.heap.size
 rw [<-z] at m rl ⊢;rw [<-a4] at rl ⊢
 have K:=hid (a7.out.on m)
 have L:=hid (a8.out.on m)
 have J:=hid (a6.out.on m)
 replace hB:=onS hB m;replace ro:=zaa ro m;replace rf:=zaa rf m;replace rm:=zaa rm m;clear z a4 m a7 a8 a6
 have p1:=qc1 rm
 have l1:=qc1 rl
 go_wp2_with fail
 refine (zeC LA T a n lc d (fun _=>C) (fun _=>C) (fun i j=>((W i j:Nat):Int)) (fun i j=>((natT V i j:Nat):Int)) w5 K.out L.out (by omega) (by omega) (fun _ _=>by omega) (fun _ _=>by omega)).mono ?_
 rintro e w6 ⟨b,rfl,hb,kb⟩
 replace hB:=onS hB kb;replace ro:=zaa ro kb;replace rf:=zaa rf kb;replace rm:=zaa rm kb
 have I:=hid (J.out.on kb)
 have a9:Hid (EqT a n (fun _=>C) (fun _=>C) (fun i j=>((W i j:Nat):Int)) (fun i j=>((natT V i j:Nat):Int))↔a=n/\∀ i,i<a->∀ j,j<C->W i j=natT V i j):=by
  constructor
  ·intro h
   refine ⟨h.1,fun i hi j hj=>?_⟩
   have:=(h.2 i hi).2 j hj
   simp only at this
   omega
  intro h
  refine ⟨h.1,fun i hi=>⟨rfl,fun j hj=>?_⟩⟩
  show ((W i j:Nat):Int)=((natT V i j:Nat):Int)
  rw [h.2 i hi j hj]
 have aa:=hid (hb.trans a9.out)
 have Q:Hid (∀ u:Int,FirstErr [(RrefN (P ^ M) n C (natT V),5)] u->FirstErr (SpaceErrs (P:Int) (M:Int) k f C n ln V) u):=fun u hu=>by
  refine FirstErr.app (l:=[(GoodF (P:Int) (M:Int) k f,1),(ShapeM (C:Int) n ln,3),(ElemsM ((P:Int).toNat ^ (M:Int).toNat) n ln V,2)]) (by simp) (v:=0) (by simpa [MatErrs] using HV.out) (fun h=>absurd rfl h) fun _=>?_
  rw [Int.toNat_natCast,Int.toNat_natCast]
  exact hu
 clear kb hb p1 l1 rl K L J a9
 cases b
 ·have aq:Hid (¬ RrefN (P ^ M) n C (natT V)):=fun h=>by have:=aa.out.2 (aw.out.1 h); cases this
  have r0:=ro.frozen 0
  have s0:=qc0 ro
  have r1:=ro.frozen 1
  have s1:=qc1 ro
  have r2:=ro.frozen 2
  have s2:=qc2 ro
  have r3:=ro.frozen 3
  have s3:=qc3 ro
  go_wp2
  clear r0 s0 r1 s1 r2 s2 r3 s3
  generalize hw9:World.setCell _ _ _=w7
  obtain ⟨row9,x⟩:=zdb ro hw9.symm
  clear hw9
  have F:=hB.grown x hB.size (fun q e=>by injection e with e; omega)
  have e0:=qc0 row9
  have e1:=qc1 row9
  have e2:=qc2 row9
  have e3:=qc3 row9
  refine bodyPost_ret (v:=.tuple #[.agg #[.pointer none,.int .i64 0,.slice none 0 0,.slice none 0 0],.int .i64 5]) (by simp [results,Tryz.results166, go_sem,e0,e1,e2,e3]) rfl ?_
  exact ⟨F,5,Q.out 5 (.inl ⟨aq.out,rfl⟩),.inl ⟨by omega,rfl⟩⟩
 have G:=hid (aa.out.1 rfl)
 have q0:=qc0 rf
 have q1:=qc1 rf
 have q2:=qc2 rf
 have X:b2<w6.heap.size:=ro.lt
 go_wp2_with fail
 refine (zcg (P:Int) (M:Int) A k c f w6 (HR.out.on hB)).mono ?_
 rintro e w7 ⟨kb,hN⟩
 replace hB:=onS hB kb;replace ro:=zaa ro kb;replace rm:=zaa rm kb
 have H:=hid (I.out.on kb)
 clear kb q0 q1 q2 rf I
 rcases hN with ⟨ad,_⟩ | ⟨_,g,P',M',ai,ak,rfl,af,hG⟩
 ·exact absurd av.out ad
 obtain rfl:P=P':=by omega
 obtain rfl:M=M':=by omega
 have HG:=hid hG
 have ag:=hG
 clear hG ai ak af
 have p0:=qc0 rm
 have p1:=qc1 rm
 have r0:=ro.frozen 0
 have s0:=qc0 ro
 have r1:=ro.frozen 1
 have s1:=qc1 ro
 have r2:=ro.frozen 2
 have s2:=qc2 ro
 have r3:=ro.frozen 3
 have s3:=qc3 ro
 clear ag
 go_wp2
 clear r0 s0 r1 s1 r2 s2 r3 s3 p0 p1
 generalize hw9:World.setCell _ _ _=w8
 obtain ⟨row9,x⟩:=zdb ro hw9.symm
 clear hw9
 have F:=hB.grown x hB.size (fun q e=>by injection e with e; omega)
 have aj:=H.out.kept x (zay ro H.out (by decide))
 have al:=(HG.out.grown x X).gf
 have e0:=qc0 row9
 have e1:=qc1 row9
 have e2:=qc2 row9
 have e3:=qc3 row9
 have a1:a=n:=G.out.1
 have D:=ap.out G.out
 subst a1
 refine bodyPost_ret (v:=.tuple #[.agg #[.pointer (some ⟨g,0,none⟩),.int .i64 (C:Nat),.slice T a d,.slice PA a pc],.int .i64 0]) (by simp [results,Tryz.results166, go_sem,e0,e1,e2,e3]) rfl ?_
 exact ⟨F,0,Q.out 0 (.inr ⟨⟨p,D⟩,rfl⟩),.inr ⟨rfl,P,M,C,g,_,p,rfl,rfl,rfl,rfl,al,aj.mono an,D⟩⟩
theorem zho (P M:Int) (A:Option Addr) (k c:Nat) (f:Nat->Int) (cols:Nat) (T:Option Addr) (n d:Nat) (ln:Nat->Nat) (V:Nat->Nat->Int) (w:World) (hr:IntsR w w.heap.size A k f) (h:IntRows w T n ln V) (hc1:1<=cols) :
  Calls Tryz.prog 130 #[.agg #[.int .i64 P,.int .i64 M,.slice A k c],.agg #[.int .i64 (cols:Nat),.slice T n d]] w (ErrsPost (SpaceErrs P M k f cols n ln V) w):=by
 have HR:=hid hr
 have HT:=hid h
 clear hr h
 have rf:=zaq (w:=w) (a:=.int .i64 P) (b:=.int .i64 M) (c:=.slice A k c) (T := 24)
 have hB:=aly w (.cells #[.int .i64 P,.int .i64 M,.slice A k c] 24)
 have m:(w.alloc (.cells #[.int .i64 P,.int .i64 M,.slice A k c] 24)).heap.size=w.heap.size+1:=by simp
 obtain ⟨w0,l⟩:=exx (w.alloc (.cells #[.int .i64 P,.int .i64 M,.slice A k c] 24))
 have rm:=zai (w:=w0) (a:=.int .i64 (cols:Nat)) (b:=.slice T n d) (T := 106)
 have kb:=aly w0 (.cells #[.int .i64 (cols:Nat),.slice T n d] 106)
 obtain ⟨w1,j⟩:=exx (w0.alloc (.cells #[.int .i64 (cols:Nat),.slice T n d] 106))
 rw [<-l] at hB rf m;rw [<-j] at rm kb;rw [m] at rm;replace rf:=zaa rf kb;replace hB:=onS hB kb
 go_enter Tryz.func130, Tryz.ntmps130
 go_upto_region 1 with fail
 rw [<-l,<-j];clear l j kb m
 have q0:=qc0 rf
 have q1:=qc1 rf
 have q2:=qc2 rf
 have p0:=qc0 rm
 have p1:=qc1 rm
 go_wp2_with fail
 refine (zis P M A k c f cols T n d ln V w1 (HR.out.on hB) (HT.out.on hB) hc1).mono ?_
 rintro e w2 ⟨kb,v,hv,i⟩
 have HB:=hid (onS hB kb)
 have HV:=hid hv
 clear kb hv q0 q1 q2 p0 p1 rf rm hB
 rcases i with ⟨o,rfl⟩ | ⟨rfl,P,M,C,g,pv,p,rfl,rfl,_,rfl,_,hP,_⟩
 ·clear o
  go_wp2
  go_ret
  exact errsPost HV.out (HB.out.alloc HB.out.size _)
 obtain ⟨PA,pc,q⟩:=hP.shape
 subst q
 clear hP
 go_wp2
 go_ret
 exact errsPost HV.out (HB.out.alloc HB.out.size _)
def LenOk (N:Int):Prop:=1<=N/\N<=64
theorem zgp (N:Int) (w:World):Calls Tryz.prog 129 #[.int .i64 N] w (ErrsPost [(LenOk N,4)] w):=by
 by_cases h1:N<1
 ·have hd:decide (N<1)=true:=by simpa using h1
  have b:Hid (FirstErr [(LenOk N,4)] 4):=.inl ⟨fun h=>by have:=h.1; have:=h.2; omega,rfl⟩
  go_enter Tryz.func129, Tryz.ntmps129
  go_wp2
  go_ret
  exact errsPost b.out (Below.refl _ _)
 have hd:decide (N<1)=false:=by simpa using h1
 by_cases h2:64<N
 ·have c:decide (64<N)=true:=by simpa using h2
  have b:Hid (FirstErr [(LenOk N,4)] 4):=.inl ⟨fun h=>by have:=h.1; have:=h.2; omega,rfl⟩
  go_enter Tryz.func129, Tryz.ntmps129
  go_wp2
  go_ret
  exact errsPost b.out (Below.refl _ _)
 have c:decide (64<N)=false:=by simpa using h2
 have a:Hid (FirstErr [(LenOk N,4)] 0):=.inr ⟨⟨by omega,by omega⟩,rfl⟩
 go_enter Tryz.func129, Tryz.ntmps129
 go_wp2
 go_ret
 exact errsPost a.out (Below.refl _ _)
theorem zfl (P M N:Int) (A T:Option Addr) (k c n d:Nat) (w:World) :
  Calls Tryz.prog 101 #[.agg #[.int .i64 P,.int .i64 M,.slice A k c,.int .i64 N,.slice T n d]] w fun e w'=>e=.returned (.agg #[.int .i64 N,.slice T n d])/\Below w.heap.size w w':=by
 have rf:=zaZ (w:=w) (a:=.int .i64 P) (b:=.int .i64 M) (c:=.slice A k c) (d:=.int .i64 N) (e:=.slice T n d) (T := 27)
 have hB:=aly w (.cells #[.int .i64 P,.int .i64 M,.slice A k c,.int .i64 N,.slice T n d] 27)
 have i:(w.alloc (.cells #[.int .i64 P,.int .i64 M,.slice A k c,.int .i64 N,.slice T n d] 27)).heap.size=w.heap.size+1:=by simp
 obtain ⟨w0,h⟩:=exx (w.alloc (.cells #[.int .i64 P,.int .i64 M,.slice A k c,.int .i64 N,.slice T n d] 27))
 have ro:=zai (w:=w0) (a:=.int .i64 0) (b:=.slice none 0 0) (T := 106)
 have kb:=aly w0 (.cells #[.int .i64 0,.slice none 0 0] 106)
 obtain ⟨w1,g⟩:=exx (w0.alloc (.cells #[.int .i64 0,.slice none 0 0] 106))
 rw [<-h] at hB rf i;rw [<-g] at ro kb;rw [i] at ro;replace rf:=zaa rf kb;replace hB:=onS hB kb
 go_enter Tryz.func101, Tryz.ntmps101
 go_upto_region 1 with fail
 rw [<-h,<-g];clear h g kb i
 have q3:=qc3 rf
 have q4:=qc4 rf
 have r0:=ro.frozen 0
 have s0:=qc0 ro
 have r1:=ro.frozen 1
 have s1:=qc1 ro
 go_wp2
 clear r0 s0 r1 s1 q3 q4 rf
 generalize hw9:World.setCell _ _ _=w2
 obtain ⟨row9,j⟩:=zbw ro hw9.symm
 clear hw9
 have l:=hB.grown j hB.size (fun q e=>by injection e with e; omega)
 have e0:=qc0 row9
 have e1:=qc1 row9
 refine bodyPost_ret (v:=.agg #[.int .i64 N,.slice T n d]) (by simp [results,Tryz.results101, go_sem,e0,e1]) rfl ?_
 exact ⟨rfl,l⟩
theorem zeD (P M:Int) (A:Option Addr) (k c:Nat) (f:Nat->Int) (N:Int) (T:Option Addr) (n d:Nat) (ln:Nat->Nat) (V:Nat->Nat->Int) (w:World) (hr:IntsR w w.heap.size A k f) (h:IntRows w T n ln V) :
  Calls Tryz.prog 67 #[.agg #[.int .i64 P,.int .i64 M,.slice A k c,.int .i64 N,.slice T n d]] w (ErrsPost (CodeErrs P M k f N n ln V) w):=by
 have HR:=hid hr
 have HT:=hid h
 clear hr h
 obtain ⟨w1,j,hB,rf⟩:=zaG w (.int .i64 P) (.int .i64 M) (.slice A k c) (.int .i64 N) (.slice T n d) 27
 go_enter Tryz.func67, Tryz.ntmps67
 go_upto_region 1 with fail
 rw [<-j];clear j
 have q0:=qc0 rf
 have q1:=qc1 rf
 have q2:=qc2 rf
 go_wp2_with fail
 refine (zgm P M A k c f w1 (HR.out.on hB)).mono ?_
 rintro e w2 ⟨v,rfl,hv,kb⟩
 replace hB:=onS hB kb;replace rf:=zaa rf kb;clear kb q0 q1 q2
 rcases hv with ⟨rfl,a⟩ | ⟨rfl,b⟩
 rotate_left
 ·have hf:Hid (FirstErr (CodeErrs P M k f N n ln V) 1):=.inl ⟨b,rfl⟩
  clear b
  go_wp2
  go_ret
  exact errsPost hf.out hB
 have i:=hid a
 clear a
 have q3:=qc3 rf
 go_wp2_with fail
 refine (zgp N w2).mono ?_
 rintro e w3 ⟨v,rfl,hv,kb⟩
 replace hB:=onS hB kb;replace rf:=zaa rf kb;clear kb q3
 rcases hv with ⟨b,rfl⟩ | ⟨hN,g⟩
 ·have hf:Hid (FirstErr (CodeErrs P M k f N n ln V) 4):=.inr ⟨i.out,.inl ⟨b,rfl⟩⟩
  clear b
  go_wp2
  go_ret
  exact errsPost hf.out hB
 have g:v=0:=g
 subst g
 have hN:1<=N/\N<=64:=hN
 obtain ⟨C,rfl⟩:∃ C:Nat,N=C:=⟨N.toNat,by omega⟩
 have m:=hid hN
 have l:1<=C:=by omega
 clear hN
 have q0:=qc0 rf
 have q1:=qc1 rf
 have q2:=qc2 rf
 have q3:=qc3 rf
 have q4:=qc4 rf
 go_wp2
 refine wp_region_held_drew (S:=fun w'=>w'.cell? ⟨w.heap.size,0,none⟩=some (.int .i64 P)/\w'.cell? ⟨w.heap.size,1,none⟩=some (.int .i64 M)/\w'.cell? ⟨w.heap.size,2,none⟩=some (.slice A k c)/\w'.cell? ⟨w.heap.size,3,none⟩=some (.int .i64 (C:Nat))/\w'.cell? ⟨w.heap.size,4,none⟩=some (.slice T n d)) (by kernel_rfl) ⟨cellS (Below.refl _ _).drew q0,cellS (Below.refl _ _).drew q1,cellS (Below.refl _ _).drew q2,cellS (Below.refl _ _).drew q3,cellS (Below.refl _ _).drew q4⟩ (fun hHeld=>?_)
 obtain ⟨w4,hw,kb⟩:=dwx w3
 rw [<-hw] at hHeld ⊢;clear hw;replace hB:=onS hB kb;replace rf:=zaa rf kb;clear kb q0 q1 q2 q3 q4
 refine tkq 0 (h:=tkq 1 (h:=tkq 2 (h:=rdq 3 (h:=fun K hK=>?_))))
 go_simp
 go_wp2_with fail
 refine (zfl P M (C:Int) A T k c n d w4).mono ?_
 rintro e w5 ⟨rfl,kb⟩
 replace hB:=onS hB kb;replace rf:=zaa rf kb;clear kb
 refine bkq hK ⟨qc0 rf,qc1 rf,qc2 rf,qc3 rf,qc4 rf⟩ (h:=fun hHeld=>?_)
 clear hK K
 refine rdq 4 (h:=fun K hK=>?_)
 go_simp
 go_wp2_with fail
 refine (zho P M A k c f C T n d ln V w5 (HR.out.on hB) (HT.out.on hB) l).mono ?_
 rintro e w6 ⟨v,rfl,hv,kb⟩
 replace hB:=onS hB kb;replace rf:=zaa rf kb
 have hf:Hid (FirstErr (CodeErrs P M k f (C:Int) n ln V) v):=by
  rcases hv with ⟨b,_⟩ | ⟨_,hv⟩
  ·exact absurd i.out b
  refine .inr ⟨i.out,.inr ⟨m.out,?_⟩⟩
  rw [Int.toNat_natCast]
  exact hv
 clear kb hv
 refine bkq hK ⟨qc0 rf,qc1 rf,qc2 rf,qc3 rf,qc4 rf⟩ (h:=fun hHeld=>?_)
 clear hK K
 refine tkq 5 (h:=?_)
 refine wpAnyH_done (by kernel_rfl) ?_ _
 clear hHeld
 go_wp2
 go_ret
 exact errsPost hf.out hB
theorem zhp {w:World} {g:Nat} {T:TypeId} {a b c:Value} (v:Value) (h:w.rowIs g T 3 (fldCell a b c)):(w.setCell ⟨g,2,none⟩ v).rowIs g T 3 (fldCell a b v):=(h.set 2 v).congr fun j hj=>by
 match j,hj with
 | 0,_=>rfl
 | 1,_=>rfl
 | 2,_=>rfl
theorem zjM (P M:Int) (A:Option Addr) (k c:Nat) (f:Nat->Int) (w:World) (h:IntsR w w.heap.size A k f) (hkc:k<=c) (hk:k<=1048576) :
  Calls Tryz.prog 207 #[.agg #[.int .i64 P,.int .i64 M,.slice A k c]] w (FieldPost P M k f w):=by
 have HR:=hid h
 clear h
 have rf:=zaq (w:=w) (a:=.int .i64 P) (b:=.int .i64 M) (c:=.slice A k c) (T := 24)
 have hB:=aly w (.cells #[.int .i64 P,.int .i64 M,.slice A k c] 24)
 have g:(w.alloc (.cells #[.int .i64 P,.int .i64 M,.slice A k c] 24)).heap.size=w.heap.size+1:=by simp
 obtain ⟨w0,d⟩:=exx (w.alloc (.cells #[.int .i64 P,.int .i64 M,.slice A k c] 24))
 obtain ⟨w1,m,kb,rm⟩:=zao w0 (.int .i64 0) (.int .i64 0) (.slice none 0 0) 24
 rw [<-d] at hB rf g;rw [g] at rm;replace rf:=zaa rf kb;replace hB:=onS hB kb
 go_enter Tryz.func207, Tryz.ntmps207
 go_upto_region 1 with fail
 rw [<-d,<-m];clear d m kb g
 have q2:=qc2 rf
 go_wp2_with fail
 refine (zaw A k c f w1 (HR.out.on hB) hkc hk).mono ?_
 rintro e w2 ⟨A2,c2,rfl,hO,kb⟩
 have o:=hB.size
 replace hB:=onS hB kb;replace rf:=zaa rf kb;replace rm:=zaa rm kb
 have HO:=hid (hO.mono o)
 clear kb q2 hO o
 have r2:=rf.frozen 2
 have s2:=qc2 rf
 go_upto_region 2 with fail
 clear r2 s2
 have rf3:=zhp (.slice A2 k c2) rf
 have rm3:=rm.setOther (a:=⟨w.heap.size,2,none⟩) (by simp) (.slice A2 k c2)
 have i:=HO.out.setCell (a:=⟨w.heap.size,2,none⟩) (fun e=>(zay rf HO.out (by decide)).elim (fun h=>by rw [h] at e; cases e) fun h=>h e) (.slice A2 k c2)
 have j:=hB.setCell (p:=⟨w.heap.size,2,none⟩) (Nat.le_refl _) (.slice A2 k c2)
 obtain ⟨w3,l⟩:=exx (w2.setCell ⟨w.heap.size,2,none⟩ (.slice A2 k c2))
 rw [<-l] at rf3 rm3 i j ⊢;clear l rf rm HO hB
 have r:=hid i
 clear i
 have q0:=qc0 rf3
 have q1:=qc1 rf3
 have q2:=qc2 rf3
 have r0:=rm3.frozen 0
 have s0:=qc0 rm3
 have r1:=rm3.frozen 1
 have s1:=qc1 rm3
 have r2:=rm3.frozen 2
 have s2:=qc2 rm3
 go_wp2
 clear r0 s0 r1 s1 r2 s2 q0 q1 q2
 generalize hw9:World.setCell _ _ _=w4
 obtain ⟨row9,n⟩:=zhd rm3 hw9.symm
 clear hw9
 have u:=j.grown n j.size (fun q e=>by injection e with e; omega)
 have s:=r.out.kept n (zay rm3 r.out (by decide))
 have e0:=qc0 row9
 have e1:=qc1 row9
 have e2:=qc2 row9
 refine bodyPost_ret (v:=.agg #[.int .i64 P,.int .i64 M,.slice A2 k c2]) (by simp [results,Tryz.results207, go_sem,e0,e1,e2]) rfl ?_
 exact ⟨_,rfl,s,u⟩
def OfPost (P M N:Int) (k n:Nat) (f:Nat->Int) (T:Option Addr) (d:Nat) (w:World) (e:Ending) (w':World):Prop :=
 ∃ v,e=.returned (.tuple #[.agg #[.int .i64 P,.int .i64 M,v,.int .i64 N,.slice T n d],.int .i64 0])/\Own w' w.heap.size 3 1 v k (fun j _=>.int .i64 (f j))/\Below w.heap.size w w'
theorem zkC (P M N:Int) (A:Option Addr) (k c:Nat) (f:Nat->Int) (T:Option Addr) (n d:Nat) (w:World) (h:IntsR w w.heap.size A k f) (hkc:k<=c) (hk:k<=1048576) :
  Calls Tryz.prog 154 #[.agg #[.int .i64 P,.int .i64 M,.slice A k c],.agg #[.int .i64 N,.slice T n d],.int .i64 0] w (OfPost P M N k n f T d w):=by
 have HR:=hid h
 clear h
 have rf:=zaq (w:=w) (a:=.int .i64 P) (b:=.int .i64 M) (c:=.slice A k c) (T := 24)
 have hB:=aly w (.cells #[.int .i64 P,.int .i64 M,.slice A k c] 24)
 have m:(w.alloc (.cells #[.int .i64 P,.int .i64 M,.slice A k c] 24)).heap.size=w.heap.size+1:=by simp
 obtain ⟨w0,p⟩:=exx (w.alloc (.cells #[.int .i64 P,.int .i64 M,.slice A k c] 24))
 have rm:=zai (w:=w0) (a:=.int .i64 N) (b:=.slice T n d) (T := 106)
 have kb:=aly w0 (.cells #[.int .i64 N,.slice T n d] 106)
 have g:(w0.alloc (.cells #[.int .i64 N,.slice T n d] 106)).heap.size=w0.heap.size+1:=by simp
 obtain ⟨w1,o⟩:=exx (w0.alloc (.cells #[.int .i64 N,.slice T n d] 106))
 obtain ⟨w2,x,l,ro⟩:=zaG w1 (.int .i64 0) (.int .i64 0) (.slice none 0 0) (.int .i64 0) (.slice none 0 0) 27
 rw [<-p] at hB rf m;rw [<-o] at rm kb g;rw [g,m] at ro;rw [m] at rm;replace rf:=zaa (zaa rf kb) l;replace rm:=zaa rm l;replace hB:=onS (onS hB kb) l
 go_enter Tryz.func154, Tryz.ntmps154
 go_upto_region 1 with fail
 rw [<-p,<-o,<-x];clear p o x kb l m g
 obtain ⟨b0,u⟩:=exx w.heap.size
 obtain ⟨b1,s⟩:=exx (w.heap.size+1)
 obtain ⟨b2,r⟩:=exx (w.heap.size+1+1)
 have E:w.heap.size<=b2:=by omega
 rw [<-u] at rf;rw [<-s] at rm;rw [<-r] at ro;rw [<-r,<-s,<-u];clear u s r
 go_wp2
 refine wp_region_held_drew (S:=fun w'=>w'.cell? ⟨b0,0,none⟩=some (.int .i64 P)/\w'.cell? ⟨b0,1,none⟩=some (.int .i64 M)/\w'.cell? ⟨b0,2,none⟩=some (.slice A k c)/\w'.cell? ⟨b1,0,none⟩=some (.int .i64 N)/\w'.cell? ⟨b1,1,none⟩=some (.slice T n d)) (by kernel_rfl) ⟨cellS (Below.refl _ _).drew (rf.cell (i:=0) (by omega)),cellS (Below.refl _ _).drew (rf.cell (i:=1) (by omega)),cellS (Below.refl _ _).drew (rf.cell (i:=2) (by omega)),cellS (Below.refl _ _).drew (rm.cell (i:=0) (by omega)),cellS (Below.refl _ _).drew (rm.cell (i:=1) (by omega))⟩ (fun hHeld=>?_)
 obtain ⟨w3,hw,kb⟩:=dwx w2
 rw [<-hw] at hHeld ⊢;clear hw;replace hB:=onS hB kb;replace rf:=zaa rf kb;replace rm:=zaa rm kb;replace ro:=zaa ro kb;clear kb
 refine tkq 0 (h:=tkq 2 (h:=tkq 3 (h:=tkq 4 (h:=tkq 5 (h:=rdq 1 (h:=fun K hK=>?_))))))
 go_simp
 go_wp2_with fail
 refine (zjM P M A k c f w3 (HR.out.on hB) hkc hk).mono ?_
 rintro e w4 ⟨v,rfl,hO,kb⟩
 have B:=hB.size
 replace hB:=onS hB kb;replace rf:=zaa rf kb;replace rm:=zaa rm kb;replace ro:=zaa ro kb
 obtain ⟨A2,c2,hv⟩:=hO.shape
 subst hv
 have HO:=hid (hO.mono B)
 clear kb hO B
 refine bkq hK ⟨qc0 rf,qc1 rf,qc2 rf,qc0 rm,qc1 rm⟩ (h:=fun hHeld=>?_)
 clear hK K
 refine tkq 6 (h:=rdq 7 (h:=fun K hK=>?_))
 have r0:=ro.frozen 0
 have s0:=qc0 ro
 have r1:=ro.frozen 1
 have s1:=qc1 ro
 have r2:=ro.frozen 2
 have s2:=qc2 ro
 have r3:=ro.frozen 3
 have s3:=qc3 ro
 have r4:=ro.frozen 4
 have s4:=qc4 ro
 go_simp
 clear r0 s0 r1 s1 r2 s2 r3 s3 r4 s4
 generalize hw9:World.setCell _ _ _=w5
 obtain ⟨row9,j⟩:=zc7 ro hw9.symm
 clear hw9
 have G:=hB.grown j hB.size (fun q e=>by injection e with e; omega)
 have F:=HO.out.kept j (zay ro HO.out (by decide))
 have D:=rf.lt
 have C:=rm.lt
 have z:b0≠b2:=fun e=>by
  obtain ⟨cs,h1,_⟩:=rf
  obtain ⟨cs',h2,_⟩:=ro
  rw [e,h2] at h1
  injection h1 with h1
  injection h1 with _ h1
  exact absurd h1 (by decide)
 have y:b1≠b2:=fun e=>by
  obtain ⟨cs,h1,_⟩:=rm
  obtain ⟨cs',h2,_⟩:=ro
  rw [e,h2] at h1
  injection h1 with h1
  injection h1 with _ h1
  exact absurd h1 (by decide)
 have rf9:=zam rf j z
 have rm9:=zam rm j y
 clear ro rf rm j D C z y HO hB
 have e0:=qc0 row9
 have e1:=qc1 row9
 have e2:=qc2 row9
 have e3:=qc3 row9
 have e4:=qc4 row9
 refine bkq hK ⟨qc0 rf9,qc1 rf9,qc2 rf9,qc0 rm9,qc1 rm9⟩ (h:=fun hHeld=>?_)
 clear hK K
 refine tkq 8 (h:=?_)
 refine wpAnyH_done (by kernel_rfl) ?_ _
 clear hHeld
 go_wp2
 refine bodyPost_ret (v:=.tuple #[.agg #[.int .i64 P,.int .i64 M,.slice A2 k c2,.int .i64 N,.slice T n d],.int .i64 0]) (by simp [results,Tryz.results154, go_sem,e0,e1,e2,e3,e4]) rfl ?_
 exact ⟨_,rfl,F,G⟩
def CDualPost (P M:Int) (k:Nat) (f:Nat->Int) (N:Int) (n:Nat) (ln:Nat->Nat) (V:Nat->Nat->Int) (w:World) (e:Ending) (w':World):Prop :=
 Below w.heap.size w w'/\∃ v:Int,FirstErr (CodeErrs P M k f N n ln V) v /\
  ((v≠0/\e=.returned (.tuple #[.agg #[.int .i64 0,.int .i64 0,.slice none 0 0,.int .i64 0,.slice none 0 0],.int .i64 v])) ∨
   (v=0/\∃ P' M' N':Nat,P=P'/\M=M'/\N=N'/\DualPost P' M' (fun i=>(f i).toNat) k n N' (natT V) w e w'))
theorem zit (P M:Int) (A:Option Addr) (k c:Nat) (f:Nat->Int) (N:Int) (T:Option Addr) (n d:Nat) (ln:Nat->Nat) (V:Nat->Nat->Int) (w:World) (hr:IntsR w w.heap.size A k f) (h:IntRows w T n ln V) (hkc:k<=c) :
  Calls Tryz.prog 79 #[.agg #[.int .i64 P,.int .i64 M,.slice A k c,.int .i64 N,.slice T n d]] w (CDualPost P M k f N n ln V w):=by
 have HR:=hid hr
 have HT:=hid h
 clear hr h
 have rf:=zaZ (w:=w) (a:=.int .i64 P) (b:=.int .i64 M) (c:=.slice A k c) (d:=.int .i64 N) (e:=.slice T n d) (T := 27)
 have hB:=aly w (.cells #[.int .i64 P,.int .i64 M,.slice A k c,.int .i64 N,.slice T n d] 27)
 have D:(w.alloc (.cells #[.int .i64 P,.int .i64 M,.slice A k c,.int .i64 N,.slice T n d] 27)).heap.size=w.heap.size+1:=by simp
 obtain ⟨w0,C⟩:=exx (w.alloc (.cells #[.int .i64 P,.int .i64 M,.slice A k c,.int .i64 N,.slice T n d] 27))
 obtain ⟨w1,I,kb,ro⟩:=zaG w0 (.int .i64 0) (.int .i64 0) (.slice none 0 0) (.int .i64 0) (.slice none 0 0) 27
 rw [<-C] at hB rf D;rw [D] at ro;replace rf:=zaa rf kb;replace hB:=onS hB kb
 go_enter Tryz.func79, Tryz.ntmps79
 go_upto_region 1 with fail
 rw [<-C,<-I];clear C I kb D
 obtain ⟨b0,F⟩:=exx w.heap.size
 obtain ⟨b2,E⟩:=exx (w.heap.size+1)
 have J:w.heap.size<=b2:=by omega
 have L:b0≠b2:=by omega
 rw [<-F] at rf;rw [<-E] at ro;rw [<-E,<-F];clear F E
 have q0:=qc0 rf
 have q1:=qc1 rf
 have q2:=qc2 rf
 have q3:=qc3 rf
 have q4:=qc4 rf
 go_wp2_with fail
 refine (zeD P M A k c f N T n d ln V w1 (HR.out.on hB) (HT.out.on hB)).mono ?_
 rintro e w2 ⟨v,rfl,hv,kb⟩
 replace hB:=onS hB kb;replace rf:=zaa rf kb;replace ro:=zaa ro kb
 have HV:=hid hv
 clear kb hv q0 q1 q2 q3 q4
 by_cases hv0:v=0
 rotate_left
 ·have X:(v != 0)=true:=by simpa using hv0
  have R:=hid hv0
  clear hv0 rf
  have r0:=ro.frozen 0
  have s0:=qc0 ro
  have r1:=ro.frozen 1
  have s1:=qc1 ro
  have r2:=ro.frozen 2
  have s2:=qc2 ro
  have r3:=ro.frozen 3
  have s3:=qc3 ro
  have r4:=ro.frozen 4
  have s4:=qc4 ro
  go_wp2
  clear r0 s0 r1 s1 r2 s2 r3 s3 r4 s4
  generalize m:World.setCell _ _ _=w6
  obtain ⟨row9,l⟩:=zc7 ro m.symm
  clear m
  have B:=hB.grown l hB.size (fun q e=>by injection e with e; omega)
  have e0:=qc0 row9
  have e1:=qc1 row9
  have e2:=qc2 row9
  have e3:=qc3 row9
  have e4:=qc4 row9
  refine bodyPost_ret (v:=.tuple #[.agg #[.int .i64 0,.int .i64 0,.slice none 0 0,.int .i64 0,.slice none 0 0],.int .i64 v]) (by simp [results,Tryz.results79, go_sem,e0,e1,e2,e3,e4]) rfl ?_
  exact ⟨B,v,HV.out,.inl ⟨R.out,rfl⟩⟩
 subst hv0
 obtain ⟨P,M,N,rfl,rfl,rfl,hC⟩:=zbB (HR.out.on hB) (HT.out.on hB) HV.out
 have HC:=hid hC
 have Z:=hC.ln1
 have Y:=hC.k_le
 clear hC
 have H:Hid (∀ {v:Int},FirstErr (MatErrs (P:Int) (M:Int) k f (N:Int) n ln V) v->v=0):=by
  have hh:=HV.out
  rcases hh with ⟨_,h9⟩ | ⟨h1,⟨_,h9⟩ | ⟨_,⟨_,h9⟩ | ⟨h3,⟨_,h9⟩ | ⟨h4,_⟩⟩⟩⟩
  ·cases h9
  ·cases h9
  ·cases h9
  ·cases h9
  intro v hf
  rcases hf with ⟨h,_⟩ | ⟨_,⟨h,_⟩ | ⟨_,⟨h,_⟩ | ⟨_,hf⟩⟩⟩
  ·exact absurd h1 h
  ·exact absurd h3 h
  ·exact absurd h4 h
  ·exact hf
 obtain ⟨w9,m⟩:=exx w2
 go_wp2
 clear m w9
 go_cut [5,6] (fun v5 v6 wx=>∃ (mb:Nat) (lv:Value) (a:Nat) (W:Nat->Nat->Nat),v5=.pointer (some ⟨mb,0,none⟩)/\v6=.int .i64 0/\wx.rowIs mb 106 2 (matCell (.int .i64 (N:Nat)) lv)/\MTab wx w.heap.size lv a N W/\NullRel (P ^ M) (addF P M) (mulF P M fun i=>(f i).toNat) (negF P M) n N (natT V) a W/\wx.rowIs b0 27 5 (codCell (.int .i64 (P:Nat)) (.int .i64 (M:Nat)) (.slice A k c) (.int .i64 (N:Nat)) (.slice T n d))/\wx.rowIs b2 27 5 (codCell (.int .i64 0) (.int .i64 0) (.slice none 0 0) (.int .i64 0) (.slice none 0 0))/\Below w.heap.size w wx)
 case rest =>
  clear hB rf ro
  obtain ⟨mb,lv,a,W,rfl,rfl,rm,hM,hrel,rf,ro,hB⟩:=hcut
  have HM:=hid hM
  have G:=hid hrel
  obtain ⟨LA,lc,p⟩:=hM.shape
  subst p
  clear hM hrel
  have q0:=qc0 rf
  have q1:=qc1 rf
  have q2:=qc2 rf
  have m0:=qc0 rm
  have m1:=qc1 rm
  go_wp2_with fail
  refine (zkC (P:Int) (M:Int) (N:Int) A k c f LA a lc wc (HR.out.on hB) hkc (by omega)).mono ?_
  rintro e w5 ⟨v,rfl,hO,kb⟩
  have o:=hB.size
  replace hB:=onS hB kb;replace ro:=zaa ro kb
  have U:=hid (HM.out.on kb)
  obtain ⟨A2,c2,hv⟩:=hO.shape
  subst hv
  have HO:=hid (hO.mono o)
  clear kb hO o q0 q1 q2 m0 m1 rf rm HM
  have r0:=ro.frozen 0
  have s0:=qc0 ro
  have r1:=ro.frozen 1
  have s1:=qc1 ro
  have r2:=ro.frozen 2
  have s2:=qc2 ro
  have r3:=ro.frozen 3
  have s3:=qc3 ro
  have r4:=ro.frozen 4
  have s4:=qc4 ro
  go_wp2
  clear r0 s0 r1 s1 r2 s2 r3 s3 r4 s4
  generalize m:World.setCell _ _ _=w6
  obtain ⟨row9,l⟩:=zc7 ro m.symm
  clear m
  have B:=hB.grown l hB.size (fun q e=>by injection e with e; omega)
  have O:=HO.out.kept l (zay ro HO.out (by decide))
  have Q:=U.out.kept l ro (by decide) (by decide)
  have e0:=qc0 row9
  have e1:=qc1 row9
  have e2:=qc2 row9
  have e3:=qc3 row9
  have e4:=qc4 row9
  refine bodyPost_ret (v:=.tuple #[.agg #[.int .i64 (P:Nat),.int .i64 (M:Nat),.slice A2 k c2,.int .i64 (N:Nat),.slice LA a lc],.int .i64 0]) (by simp [results,Tryz.results79, go_sem,e0,e1,e2,e3,e4]) rfl ?_
  refine ⟨B,0,HV.out,.inr ⟨rfl,P,M,N,rfl,rfl,rfl,_,_,a,W,rfl,O.congr fun j hj q _=>?_,Q,B,G.out⟩⟩
  have hg:=HV.out
  rcases hg with ⟨_,h9⟩ | ⟨⟨P',M',h1,h2,h3,h4,h5⟩,_⟩
  ·cases h9
  rcases h5 with ⟨_,e⟩ | ⟨_,e,h,_⟩
  ·omega
  have:=h j (by omega)
  show Value.int .i64 (f j)=.int .i64 (((f j).toNat:Nat):Int)
  rw [show (((f j).toNat:Nat):Int)=f j by omega]
 refine wp_region_held_drew (S:=fun w'=>w'.cell? ⟨b0,0,none⟩=some (.int .i64 (P:Nat))/\w'.cell? ⟨b0,1,none⟩=some (.int .i64 (M:Nat))/\w'.cell? ⟨b0,2,none⟩=some (.slice A k c)/\w'.cell? ⟨b0,3,none⟩=some (.int .i64 (N:Nat))/\w'.cell? ⟨b0,4,none⟩=some (.slice T n d)) (by kernel_rfl) ⟨cellS (Below.refl _ _).drew (rf.cell (i:=0) (by omega)),cellS (Below.refl _ _).drew (rf.cell (i:=1) (by omega)),cellS (Below.refl _ _).drew (rf.cell (i:=2) (by omega)),cellS (Below.refl _ _).drew (rf.cell (i:=3) (by omega)),cellS (Below.refl _ _).drew (rf.cell (i:=4) (by omega))⟩ (fun hHeld=>?_)
 obtain ⟨w3,hw,kb⟩:=dwx w2
 rw [<-hw] at hHeld ⊢;clear hw;replace rf:=zaa rf kb;replace ro:=zaa ro kb;replace hB:=onS hB kb;clear kb
 refine tkq 0 (h:=tkq 1 (h:=tkq 2 (h:=?_)))
 refine rdq2 3 8 (h:=fun K hK=>?_) (h2:=fun K hK=>?_)
 focus
  go_simp
  go_wp2_with fail
  refine (zfl (P:Int) (M:Int) (N:Int) A T k c n d w3).mono ?_
  rintro e w4 ⟨rfl,kb⟩
  replace rf:=zaa rf kb;replace ro:=zaa ro kb;replace hB:=onS hB kb;clear kb
  refine bkq hK ⟨qc0 rf,qc1 rf,qc2 rf,qc3 rf,qc4 rf⟩ (h:=fun hHeld=>?_)
  clear hK K
  refine rdq2 4 8 (h:=fun K hK=>?_) (h2:=fun K hK=>?_)
  focus
   go_simp
   go_wp2_with fail
   have o:=hB.size
   refine (zcy (P:Int) (M:Int) A k c f (N:Int) T n d ln V w4 (HR.out.on hB) (HT.out.on hB) (by omega)).mono ?_
   rintro e w5 ⟨kb,v,hv,g⟩
   obtain rfl:=H.out hv
   rcases g with ⟨h0,_⟩ | ⟨_,P',M',C',lv,a,W,x,y,z,rfl,hM,hrel⟩
   ·exact absurd rfl h0
   obtain rfl:P=P':=by omega
   obtain rfl:M=M':=by omega
   obtain rfl:N=C':=by omega
   replace hM:=hM.mono o
   obtain ⟨LA,lc,p⟩:=hM.shape
   subst p
   clear x y z hv;replace rf:=zaa rf kb;replace ro:=zaa ro kb;replace hB:=onS hB kb;clear kb
   refine bkq hK ⟨qc0 rf,qc1 rf,qc2 rf,qc3 rf,qc4 rf⟩ (h:=fun hHeld=>?_)
   clear hK K
   refine tkq 5 (h:=tkq 6 (h:=tkq 7 (h:=?_)))
   refine rdq 8 (h:=fun K hK=>?_)
   go_simp
   obtain ⟨w6,hw⟩:=exx (World.alloc w5 (Obj.cells #[.int .i64 0,.slice none 0 0] 106))
   have kb:=alx hw
   have rb:w6.rowIs w5.heap.size 106 2 (matCell (.int .i64 0) (.slice none 0 0)):=by rw [hw]; exact zai
   have u:w.heap.size<=w5.heap.size:=hB.size
   have s:b0≠w5.heap.size:=by have:=rf.lt; omega
   have r:b2≠w5.heap.size:=by have:=ro.lt; omega
   rw [<-hw];clear hw
   obtain ⟨mb,hb⟩:=exx w5.heap.size
   rw [<-hb] at rb u s r ⊢;clear hb;replace rf:=zaa rf kb;replace ro:=zaa ro kb;replace hB:=onS hB kb;replace hM:=hM.on kb;clear kb
   refine bkq hK ⟨qc0 rf,qc1 rf,qc2 rf,qc3 rf,qc4 rf⟩ (h:=fun hHeld=>?_)
   clear hK K
  rotate_left
  focus
   go_simp
   obtain ⟨w5,hw⟩:=exx (World.alloc w4 (Obj.cells #[.int .i64 0,.slice none 0 0] 106))
   have kb:=alx hw
   have rb:w5.rowIs w4.heap.size 106 2 (matCell (.int .i64 0) (.slice none 0 0)):=by rw [hw]; exact zai
   have u:w.heap.size<=w4.heap.size:=hB.size
   have s:b0≠w4.heap.size:=by have:=rf.lt; omega
   have r:b2≠w4.heap.size:=by have:=ro.lt; omega
   rw [<-hw];clear hw
   obtain ⟨mb,hb⟩:=exx w4.heap.size
   rw [<-hb] at rb u s r ⊢;clear hb;replace rf:=zaa rf kb;replace ro:=zaa ro kb;replace hB:=onS hB kb;clear kb
   refine bkq hK ⟨qc0 rf,qc1 rf,qc2 rf,qc3 rf,qc4 rf⟩ (h:=fun hHeld=>?_)
   clear hK K
   refine rdq 4 (h:=fun K hK=>?_)
   go_simp
   go_wp2_with fail
   have o:=hB.size
   refine (zcy (P:Int) (M:Int) A k c f (N:Int) T n d ln V w5 (HR.out.on hB) (HT.out.on hB) (by omega)).mono ?_
   rintro e w6 ⟨kb,v,hv,g⟩
   obtain rfl:=H.out hv
   rcases g with ⟨h0,_⟩ | ⟨_,P',M',C',lv,a,W,x,y,z,rfl,hM,hrel⟩
   ·exact absurd rfl h0
   obtain rfl:P=P':=by omega
   obtain rfl:M=M':=by omega
   obtain rfl:N=C':=by omega
   replace hM:=hM.mono o
   obtain ⟨LA,lc,p⟩:=hM.shape
   subst p
   clear x y z hv;replace rf:=zaa rf kb;replace ro:=zaa ro kb;replace rb:=zaa rb kb;replace hB:=onS hB kb;clear kb
   refine bkq hK ⟨qc0 rf,qc1 rf,qc2 rf,qc3 rf,qc4 rf⟩ (h:=fun hHeld=>?_)
   clear hK K
   refine tkq 5 (h:=tkq 6 (h:=tkq 7 (h:=?_)))
  rotate_left
 rotate_left 2
 focus
  go_simp
  obtain ⟨w4,hw⟩:=exx (World.alloc w3 (Obj.cells #[.int .i64 0,.slice none 0 0] 106))
  have kb:=alx hw
  have rb:w4.rowIs w3.heap.size 106 2 (matCell (.int .i64 0) (.slice none 0 0)):=by rw [hw]; exact zai
  have u:w.heap.size<=w3.heap.size:=hB.size
  have s:b0≠w3.heap.size:=by have:=rf.lt; omega
  have r:b2≠w3.heap.size:=by have:=ro.lt; omega
  rw [<-hw];clear hw
  obtain ⟨mb,hb⟩:=exx w3.heap.size
  rw [<-hb] at rb u s r ⊢;clear hb;replace rf:=zaa rf kb;replace ro:=zaa ro kb;replace hB:=onS hB kb;clear kb
  refine bkq hK ⟨qc0 rf,qc1 rf,qc2 rf,qc3 rf,qc4 rf⟩ (h:=fun hHeld=>?_)
  clear hK K
  refine rdq 3 (h:=fun K hK=>?_)
  go_simp
  go_wp2_with fail
  refine (zfl (P:Int) (M:Int) (N:Int) A T k c n d w4).mono ?_
  rintro e w5 ⟨rfl,kb⟩
  replace rf:=zaa rf kb;replace ro:=zaa ro kb;replace rb:=zaa rb kb;replace hB:=onS hB kb;clear kb
  refine bkq hK ⟨qc0 rf,qc1 rf,qc2 rf,qc3 rf,qc4 rf⟩ (h:=fun hHeld=>?_)
  clear hK K
  refine rdq 4 (h:=fun K hK=>?_)
  go_simp
  go_wp2_with fail
  have o:=hB.size
  refine (zcy (P:Int) (M:Int) A k c f (N:Int) T n d ln V w5 (HR.out.on hB) (HT.out.on hB) (by omega)).mono ?_
  rintro e w6 ⟨kb,v,hv,g⟩
  obtain rfl:=H.out hv
  rcases g with ⟨h0,_⟩ | ⟨_,P',M',C',lv,a,W,x,y,z,rfl,hM,hrel⟩
  ·exact absurd rfl h0
  obtain rfl:P=P':=by omega
  obtain rfl:M=M':=by omega
  obtain rfl:N=C':=by omega
  replace hM:=hM.mono o
  obtain ⟨LA,lc,p⟩:=hM.shape
  subst p
  clear x y z hv;replace rf:=zaa rf kb;replace ro:=zaa ro kb;replace rb:=zaa rb kb;replace hB:=onS hB kb;clear kb
  refine bkq hK ⟨qc0 rf,qc1 rf,qc2 rf,qc3 rf,qc4 rf⟩ (h:=fun hHeld=>?_)
  clear hK K
  refine tkq 5 (h:=tkq 6 (h:=tkq 7 (h:=?_)))
 rotate_left
 all_goals
  refine rdq 9 (h:=fun K hK=>?_)
  have r0:=rb.frozen 0
  have s0:=qc0 rb
  have r1:=rb.frozen 1
  have s1:=qc1 rb
  go_simp
  clear r0 s0 r1 s1
  generalize m:World.setCell _ _ _=w7
  obtain ⟨row9,l⟩:=zbw rb m.symm
  clear m
  replace hM:=hM.kept l rb (by decide) (by decide)
  replace hB:=hB.grown l hB.size (fun q e=>by injection e with e; omega)
  replace rf:=zam rf l s;replace ro:=zam ro l r;clear l rb
  refine bkq hK ⟨qc0 rf,qc1 rf,qc2 rf,qc3 rf,qc4 rf⟩ (h:=fun hHeld=>?_)
  clear hK K
  refine tkq 10 (h:=?_)
  refine wpAnyH_done (by kernel_rfl) ?_ _
  clear hHeld
  go_wp2
  go_meet
  exact ⟨mb,_,a,W,rfl,rfl,row9,hM,hrel,rf,ro,hB⟩
def ExpNPost (q k most:Nat) (w:World) (e:Ending) (w':World):Prop:=((q ^ k<=most/\e=.returned (.tuple #[.int .i64 (q ^ k:Nat),.int .i64 0]))∨(most<q ^ k/\e=.returned (.tuple #[.int .i64 0,.int .i64 8])))/\Below w.heap.size w w'
theorem zkD (q k most:Nat) (w:World) (hq:2<=q) (hq2:q<=1048576) (hk:k<=1048576) (hm:1<=most) (hm2:most<=1048576) :
  Calls Tryz.prog 148 #[.int .i64 (q:Nat),.int .i64 (k:Nat),.int .i64 (most:Nat)] w (ExpNPost q k most w):=by
 have c1:¬ ((q:Int)<0):=by omega
 have c2:¬ ((k:Int)<0):=by omega
 have c3:¬ ((most:Int)<0):=by omega
 have c4:((q:Int) == 0)=false:=by simp; omega
 have c5:((most:Int) == 0)=false:=by simp; omega
 have c6:(q:Int) > 1:=by omega
 go_enter Tryz.func148, Tryz.ntmps148
 go_wp2
 go_loopg [1,8] k (fun gg kv ov wx=>∃ j o:Nat,kv=.int .i64 ((k - j:Nat):Int)/\ov=.int .i64 (o:Nat)/\j<=k/\k<=j+gg/\Hid (o=q ^ j)/\o<=most/\Below w.heap.size w wx)
 case atStart=>exact ⟨0,1,by rw [Nat.sub_zero],rfl,by omega,by omega,rfl,by omega,Below.refl _ _⟩
 obtain ⟨j,o,rfl,rfl,hj,p,HO,g,hB⟩:=hrel
 obtain ⟨r,hr⟩:=exx (k - j)
 rw [<-hr]
 have HR:=hid hr
 clear hr
 by_cases hlt:0<r
 rotate_left
 ·have a:¬ (r:Int) > 0:=by omega
  have c:Hid (q ^ k=o):=by
   have h0:=HR.out
   obtain rfl:j=k:=by omega
   exact HO.out.symm
  obtain rfl:r=0:=by omega
  go_wp2
  go_ret2
  exact ⟨.inl ⟨by rw [c.out]; exact g,by rw [c.out]; rfl⟩,hB⟩
 have a:(r:Int) > 0:=by omega
 have h0:=HR.out
 obtain ⟨d,hd⟩:=exx (most / q)
 have e0:(most:Int) / (q:Int)=(d:Int):=by rw [hd]; rfl
 have s:d<=most:=by rw [hd]; exact Nat.div_le_self _ _
 have HD:=hid hd
 have u:0<=(most:Int) / (q:Int):=by rw [e0]; omega
 have t:(most:Int) / (q:Int)<=1048576:=by rw [e0]; omega
 clear hd
 have l:¬ (q:Int)=0:=by omega
 by_cases hb:d<o
 ·have h:(o:Int) > (most:Int) / (q:Int):=by rw [e0]; omega
  have b:Hid (most<q ^ k):=by
   have h1:most<o*q:=(Nat.div_lt_iff_lt_mul (by omega)).1 (HD.out ▸ hb)
   have h2:q ^ (j+1)<=q ^ k:=Nat.pow_le_pow_right (by omega) (by omega)
   have h3:=HO.out
   show most<q ^ k
   rw [Nat.pow_succ,<-h3] at h2
   omega
  clear hb h0 e0
  go_wp2
  go_ret2
  exact ⟨.inr ⟨b.out,rfl⟩,hB⟩
 have h:¬ (o:Int) > (most:Int) / (q:Int):=by rw [e0]; omega
 have e:o*q<=most:=by
  have h1:o<=most / q:=HD.out ▸ Nat.le_of_not_lt hb
  exact (Nat.le_div_iff_mul_le (by omega)).1 h1
 have i:Hid (o*q=q ^ (j+1)):=by show _=_; rw [Nat.pow_succ,<-HO.out]
 have e2:(o:Int)*(q:Int)=((o*q:Nat):Int):=by push_cast; rfl
 have n:0<=(o:Int)*(q:Int):=by rw [e2]; omega
 have m:(o:Int)*(q:Int)<=1048576:=by rw [e2]; omega
 clear hb e0 e2
 go_wp2
 go_roundg (gk - 1)
 case measure=>omega
 case rel=>exact ⟨j+1,o*q,by congr 1; omega,by push_cast; go_num,by omega,by omega,i,e,hB⟩
open Go.ChangeShapes Go.WideShapes Go.ChangeAt
theorem ziu {q:Nat} {add mul:Nat->Nat->Nat} (hL:FieldLaws q add mul) {d:Nat} (hd:d<q) {x w:Nat->Nat}:∀ n,(∀ j,j<n->x j<q/\w j<q)->dotN add mul (fun j=>mul d (x j)) w n=mul d (dotN add mul x w n)
 | 0,_=>(hL.mulZero hd).symm
 | n+1,h=>by
  obtain ⟨h1,h2⟩:=h n (by omega)
  show add (dotN add mul (fun j=>mul d (x j)) w n) (mul (mul d (x n)) (w n))=mul d (add (dotN add mul x w n) (mul (x n) (w n)))
  rw [ziu hL hd n fun j hj=>h j (by omega),hL.distrib _ _ _ hd (zeA hL _ _ _) (hL.mulLt _ _),hL.mulAssoc _ _ _ hd h1 h2]
theorem zhq {q:Nat} {add mul:Nat->Nat->Nat} [Add (El q)] [Mul (El q)] [Neg (El q)] [Zero (El q)] [One (El q)] (hq:0<q) (O:OnEl q add mul) {x y:Nat->Nat}:∀ n,(∀ j,j<n->x j<q/\y j<q)->(sumK n (fun j=>toEl q hq (x j)*toEl q hq (y j))).val=dotN add mul x y n
 | 0,_=>O.h0
 | n+1,h=>by
  show (sumK n (fun j=>toEl q hq (x j)*toEl q hq (y j))+toEl q hq (x n)*toEl q hq (y n)).val=_
  rw [O.ha,O.hm,zhq hq O n fun j hj=>h j (by omega),zak hq (h n (by omega)).1,zak hq (h n (by omega)).2]
  rfl
section
variable {K:Type} [Add K] [Mul K] [Neg K] [Zero K] [One K] (F:Fie K)
include F
theorem dot_comm' {k:Nat} {x y:List K} (hx:x.length=k) (hy:y.length=k):dotW x y=dotW y x:=by
 rw [zc6 F hx hy,zc6 F hy hx]
 exact za5 fun i _=>F.mulC _ _
theorem zjN {n:Nat} {C:List K->Prop} (hC:LinC n C):LinC n (perpW n C):=by
 refine ⟨fun x h=>h.1,⟨by simp,fun y hy=>zha F (hC.len y hy)⟩,fun x y hx hy=>⟨by rw [zdA (by rw [hx.1,hy.1]),hx.1],fun z hz=>?_⟩,fun a x hx=>⟨by rw [zbz,hx.1],fun z hz=>?_⟩⟩
 ·rw [zgY F x y z (by rw [hx.1,hy.1]),hx.2 z hz,hy.2 z hz,F.zeroA]
 ·rw [zfI F,hx.2 z hz,F.mulZ]
theorem ziv {L:List K} (hn:L.Nodup) (hc:∀ a,a ∈ L) {n:Nat} {C:List K->Prop} (hC:LinC n C) (x:List K):perpW n (perpW n C) x↔C x:=by
 classical
 have sub:∀ y,C y->perpW n (perpW n C) y:=fun y hy=>⟨hC.len y hy,fun z hz=>by rw [dot_comm' F (hC.len y hy) hz.1]; exact hz.2 y hy⟩
 refine ⟨fun h=>?_,sub x⟩
 by_cases hx:C x
 ·exact hx
 have h1:=(mac F hn hc n C hC).1
 have h2:=(mac F hn hc n (perpW n C) (zjN F hC)).1
 have f:rpow ((L.length:Nat):Rat) n≠0:=by
  refine zi8 ?_ n
  intro e
  have e2:L.length=0:=by simpa using e
  have e3:=List.length_eq_zero_iff.1 e2
  have:=hc 0
  rw [e3] at this
  simp at this
 have h3:cntW L n (perpW n C)≠0:=fun e=>f (by rw [<-h1,e,Rat.mul_zero])
 have h4:cntW L n C=cntW L n (perpW n (perpW n C)):=by
  have h5:cntW L n (perpW n C)*cntW L n C=cntW L n (perpW n C)*cntW L n (perpW n (perpW n C)):=by rw [h2,Rat.mul_comm,h1]
  have h6:cntW L n (perpW n C)*(cntW L n C - cntW L n (perpW n (perpW n C)))=0:=by grind
  rcases Rat.mul_eq_zero.1 h6 with h7 | h7
  ·exact absurd h7 h3
  ·grind
 have c:=zdW (l:=allW L n) (zez hn n) (a:=x) (zhg hc n x h.1) (fun y=>y=x) (fun _=>Iff.rfl) (fun _=>(1:Rat))
 have d:sumM (fun y=>(if C y then (1:Rat) else 0)+if y=x then (1:Rat) else 0) (allW L n)<=sumM (fun y=>if perpW n (perpW n C) y then (1:Rat) else 0) (allW L n):=zjb fun y _=>by
  by_cases e:y=x
  ·rw [e,if_neg hx,if_pos rfl,if_pos h]; decide +kernel
  rw [if_neg e]
  by_cases e2:C y
  ·rw [if_pos e2,if_pos (sub y e2)]; decide +kernel
  ·rw [if_neg e2]; split <;> decide +kernel
 have b:sumM (fun y=>if y=x then (1:Rat) else 0) (allW L n)=1:=by
  refine Eq.trans (zar fun y _=>?_) c
  by_cases e:y=x
  ·rw [if_pos e,if_pos e]
  ·rw [if_neg e,if_neg e]
 rw [zdV,b] at d
 have h8:cntW L n C+1<=cntW L n (perpW n (perpW n C)):=d
 rw [<-h4] at h8
 grind
end
section
variable {q n N ap:Nat} {add mul:Nat->Nat->Nat} {neg:Nat->Nat} {V Wp:Nat->Nat->Nat}
theorem zci (hL:FieldLaws q add mul) (hneg:∀ x,x<q->neg x<q/\add x (neg x)=0) (hV:RrefN q n N V) (hp:NullRel q add mul neg n N V ap Wp) {x:Nat->Nat} (hx:∀ j,j<N->x j<q) :
  InSp q add mul n N V x↔∀ k,k<ap->dotN add mul x (Wp k) N=0:=by
 have p:=hL.two
 have hq:0<q:=by omega
 obtain ⟨iA,iM,iN,i0,i1,F,g,f,h0,h1⟩:=zg1 hL
 have O:OnEl q add mul:=⟨F,g,f,h0,h1⟩
 obtain ⟨pv,hE⟩:=id hV
 obtain ⟨pp,o⟩:=hp.rref
 obtain ⟨L,l⟩:∃ L:List (El q),L=(List.range q).map (toEl q hq):=⟨_,rfl⟩
 have hn:L.Nodup:=by
  rw [l]
  exact zaT List.nodup_range fun a ha b hb e=>zdX hq (List.mem_range.1 ha) (List.mem_range.1 hb) e
 have hc:∀ a,a ∈ L:=fun a=>by
  rw [l]
  exact List.mem_map.2 ⟨a.val,List.mem_range.2 a.lt,El.ext' (zak hq a.lt)⟩
 have g2:=zaJ hq F hL g f h0 hE.lt hx
 have m:=zbd hq N x
 have c:perpW N (Gen N ap fun i=>wordK q hq N (Wp i)) (wordK q hq N x)↔Gen N n (fun i=>wordK q hq N (V i)) (wordK q hq N x):=by
  rw [<-ziv F hn hc (Gen.linC fun i _=>zbd hq N (V i)) (wordK q hq N x)]
  constructor
  ·rintro ⟨h2,h3⟩
   exact ⟨h2,fun y hy=>h3 y ((NullRel.perp hq O hL hneg hE.lt hp y).1 hy)⟩
  ·rintro ⟨h2,h3⟩
   exact ⟨h2,fun y hy=>h3 y ((NullRel.perp hq O hL hneg hE.lt hp y).2 hy)⟩
 have d:∀ k,k<ap->(dotW (wordK q hq N x) (wordK q hq N (Wp k))=0↔dotN add mul x (Wp k) N=0):=fun k hk=>by
  have e1:=zhq hq O (x:=x) (y:=Wp k) N fun j hj=>⟨hx j hj,o.lt k hk j hj⟩
  have e2:dotW (wordK q hq N x) (wordK q hq N (Wp k))=sumK N (fun j=>toEl q hq (x j)*toEl q hq (Wp k j)):=by
   rw [zc6 F (zbd hq N _) (zbd hq N _)]
   exact za5 fun j hj=>by rw [zcu hq,zcu hq,zbe hj,zbe hj]
  rw [e2]
  constructor
  ·intro h
   rw [h,h0] at e1
   exact e1.symm
  ·intro h
   exact El.ext' (by rw [e1,h,h0])
 rw [g2,<-c]
 constructor
 ·rintro ⟨h2,h3⟩ k hk
  exact (d k hk).1 (h3 _ (Gen.row (k:=N) (n:=ap) (r:=fun i=>wordK q hq N (Wp i)) k hk))
 ·intro h
  exact ⟨m,fun y hy=>Gen.perp F (fun i _=>zbd hq N _) (fun i hi=>(d i hi).2 (h i hi)) y hy⟩
end
section
variable {q n k:Nat} {add mul:Nat->Nat->Nat} {V:Nat->Nat->Nat} {neg:Nat->Nat}
theorem zhr (hL:FieldLaws q add mul) {x y z:Nat} (hx:x<q) (hy:y<q) (hz:z<q) (h1:add x z=0) (h2:add y z=0):x=y:=by
 rw [<-hL.zeroAdd x hx,<-h2,hL.addAssoc y z x hy hz hx,hL.addComm z x,h1,hL.addComm,hL.zeroAdd y hy]
theorem ziw (hL:FieldLaws q add mul) {p:Nat->Nat} (hE:EchN q n k k n p V) {u:Nat->Nat} (hu:∀ j,j<k->u j<q):InSp q add mul n k V u↔∀ j,j<k->u j=spE add mul V (fun i=>u (p i)) n j:=by
 constructor
 ·rintro ⟨c,hc,hx⟩ j hj
  rw [hx j hj]
  refine zbT n fun i hi=>⟨?_,rfl⟩
  rw [hx _ (hE.pvlt i hi),hE.spE_pv hL hc hi]
 ·intro h
  exact ⟨fun i=>u (p i),fun i hi=>hu _ (hE.pvlt i hi),h⟩
end
def fE (u:Nat->Nat):Nat->Int
 | 0 => -1
 | n+1=>if u n=0 then fE u n else if fE u n<0 then (n:Int) else fE u n
def lE (u:Nat->Nat):Nat->Int
 | 0 => -1
 | n+1=>if u n=0 then lE u n else (n:Int)
section
variable {u u':Nat->Nat}
theorem zlm:∀ n,-1<=fE u n/\fE u n<(n:Int)
 | 0=>by show (-1:Int) <= -1/\(-1:Int)<0; omega
 | n+1=>by
  have h:=zlm n
  show -1<=(if u n=0 then fE u n else if fE u n<0 then (n:Int) else fE u n)/\(if u n=0 then fE u n else if fE u n<0 then (n:Int) else fE u n)<((n+1:Nat):Int)
  split
  ·omega
  ·split <;> omega
theorem zix:∀ n,-1<=lE u n/\lE u n<(n:Int)
 | 0=>by show (-1:Int) <= -1/\(-1:Int)<0; omega
 | n+1=>by
  have h:=zix n
  show -1<=(if u n=0 then lE u n else (n:Int))/\(if u n=0 then lE u n else (n:Int))<((n+1:Nat):Int)
  split <;> omega
theorem zk8:∀ n j,j<n->u j≠0->(j:Int)<=lE u n
 | 0,_,h,_=>absurd h (by omega)
 | n + 1, j, h, hu => by
  show (j:Int)<=if u n=0 then lE u n else (n:Int)
  split
  ·rename_i h0
   have:j≠n:=fun e=>hu (by rw [e]; exact h0)
   exact zk8 n j (by omega) hu
  ·omega
theorem zka:∀ n t:Nat,lE u n=(t:Int)->t<n/\u t≠0
 | 0,t,h=>by
  have h:(-1:Int)=t:=h
  omega
 | n + 1, t, h => by
  have h:(if u n=0 then lE u n else (n:Int))=t:=h
  by_cases h0:u n=0
  ·rw [if_pos h0] at h
   have:=zka n t h
   exact ⟨by omega,this.2⟩
  ·rw [if_neg h0] at h
   obtain rfl:n=t:=by omega
   exact ⟨by omega,h0⟩
theorem zhs:∀ n t:Nat,(∀ j,t<=j->j<n->u j=0)->lE u n<(t:Int)
 | 0,t,_=>by show (-1:Int)<t; omega
 | n + 1, t, h => by
  show (if u n=0 then lE u n else (n:Int))<t
  by_cases h0:u n=0
  ·rw [if_pos h0]
   exact zhs n t fun j h1 h2=>h j h1 (by omega)
  ·rw [if_neg h0]
   by_cases e:t<=n
   ·exact absurd (h n e (by omega)) h0
   ·omega
theorem zbs {n:Nat} {j:Nat} (hj:j<n) (h:lE u n<(j:Int)):u j=0:=by
 by_cases e:u j=0
 ·exact e
 ·have:=zk8 n j hj e
  omega
theorem zlk:∀ n p,p<n->u p≠0->(∀ j,j<p->u j=0)->fE u n=(p:Int)
 | 0,_,h,_,_=>absurd h (by omega)
 | n + 1, p, h, hp, h0 => by
  show (if u n=0 then fE u n else if fE u n<0 then (n:Int) else fE u n)=p
  have hz:∀ m,(∀ j,j<m->u j=0)->fE u m<0:=by
   intro m
   induction m with
   | zero=>intro _; show (-1:Int)<0; omega
   | succ m ih =>
    intro h
    show (if u m=0 then fE u m else _)<0
    rw [if_pos (h m (by omega))]
    exact ih fun j hj=>h j (by omega)
  by_cases e:p=n
  ·subst e
   rw [if_neg hp,if_pos (hz p h0)]
  ·have ih:=zlk n p (by omega) hp h0
   rw [ih]
   split
   ·rfl
   ·rw [if_neg (by omega)]
end
structure SpanF (q n N:Nat) (pv:Nat->Nat) (R:Nat->Nat->Nat):Prop where
 lt:∀ i,i<n->∀ j,j<N->R i j<q
 inc:∀ s t,s<t->t<n->pv s<pv t
 pvlt:∀ s,s<n->pv s<N
 one:∀ s,s<n->R s (pv s)=1
 low:∀ s,s<n->∀ j,j<pv s->R s j=0
def mesL (R:Nat->Nat->Nat) (N:Nat):Nat->Nat
 | 0=>0
 | n+1=>mesL R N n+(lE (R n) N+1).toNat
theorem zjc {R:Nat->Nat->Nat} {N:Nat}:∀ n,mesL R N n<=n*N
 | 0=>by show 0<=_; omega
 | n+1=>by
  have h1:=zjc (R:=R) (N:=N) n
  have h2:=zix (u:=R n) N
  show mesL R N n+(lE (R n) N+1).toNat<=(n+1)*N
  rw [Nat.add_mul,Nat.one_mul]
  omega
theorem zht {R R':Nat->Nat->Nat} {N i:Nat} (h:∀ u,u≠i->R' u=R u):∀ n,n<=i->mesL R' N n=mesL R N n
 | 0,_=>rfl
 | n+1,hn=>by
  show mesL R' N n+(lE (R' n) N+1).toNat=mesL R N n+(lE (R n) N+1).toNat
  rw [zht h n (by omega),h n (by omega)]
theorem zjd {R R':Nat->Nat->Nat} {N i:Nat} (h:∀ u,u≠i->R' u=R u) (hl:lE (R' i) N<lE (R i) N):∀ n,i<n->mesL R' N n<mesL R N n
 | 0,hi=>absurd hi (by omega)
 | n + 1, hi => by
  show mesL R' N n+(lE (R' n) N+1).toNat<mesL R N n+(lE (R n) N+1).toNat
  have h1:=zix (u:=R' n) N
  have h2:=zix (u:=R n) N
  by_cases e:i=n
  ·subst e
   rw [zht h i (Nat.le_refl _)]
   omega
  ·have ih:=zjd h hl n (by omega)
   rw [h n (by omega)]
   omega
section
variable {q n N:Nat} {add mul:Nat->Nat->Nat} {neg:Nat->Nat} {pv:Nat->Nat} {R:Nat->Nat->Nat}
theorem EchN.spanF {V:Nat->Nat->Nat} (h:EchN q n N N n pv V):SpanF q n N pv V:=⟨h.lt,h.inc,h.pvlt,h.one,h.lead⟩
theorem SpanF.pos (h:SpanF q n N pv R) {i:Nat} (hi:i<n):(pv i:Int)<=lE (R i) N:=zk8 N _ (h.pvlt i hi) (by rw [h.one i hi]; omega)
theorem SpanF.first (h:SpanF q n N pv R) {i:Nat} (hi:i<n):fE (R i) N=(pv i:Int):=zlk N _ (h.pvlt i hi) (by rw [h.one i hi]; omega) (h.low i hi)
theorem zjO (hL:FieldLaws q add mul) (hneg:∀ x,x<q->neg x<q/\add x (neg x)=0) {a b:Nat} (ha:a<q) (hb:b<q):neg (mul a b)=mul (neg a) b:=by
 have h1:=hneg (mul a b) (hL.mulLt _ _)
 have h2:=hneg a ha
 refine zhr hL h1.1 (hL.mulLt _ _) (hL.mulLt a b) ?_ ?_
 ·rw [hL.addComm]; exact h1.2
 ·rw [hL.mulComm (neg a) b h2.1 hb,hL.mulComm a b ha hb,<-hL.distrib b _ _ hb h2.1 ha,hL.addComm (neg a) a,h2.2,hL.mulZero hb]
theorem SpanF.step (hL:FieldLaws q add mul) (hneg:∀ x,x<q->neg x<q/\add x (neg x)=0) (h:SpanF q n N pv R) {i j t a:Nat} (hij:i<j) (hj:j<n) (h1:lE (R i) N=(t:Int)) (h2:lE (R j) N=(t:Int)) (ha:a<q) (hat:mul a (R j t)=R i t)
  {R':Nat->Nat->Nat} (e1:∀ k,k<N->R' i k=add (R i k) (neg (mul a (R j k)))) (e2:∀ u,u≠i->R' u=R u) :
  SpanF q n N pv R'/\SameSp q add mul N n n R R'/\lE (R' i) N<(t:Int):=by
 have c:i<n:=by omega
 have hR:=h.lt
 have d:neg 0=0:=by
  have:=hneg 0 (by have:=hL.two; omega)
  exact (hL.zeroAdd _ this.1).symm.trans this.2
 have f:∀ u,u<n->∀ k,k<N->R' u k<q:=fun u hu k hk=>by
  by_cases e:u=i
  ·rw [e,e1 k hk]; exact hL.addLt _ _
  ·rw [e2 u e]; exact hR u hu k hk
 have b:∀ k,k<N->R j k=0->R' i k=R i k:=fun k hk hz=>by
  rw [e1 k hk,hz,hL.mulZero ha,d,hL.addZero (hR i c k hk)]
 have hp:pv i<pv j:=h.inc i j hij hj
 refine ⟨⟨f,h.inc,h.pvlt,fun s hs=>?_,fun s hs k hk=>?_⟩,?_,?_⟩
 ·by_cases e:s=i
  ·subst e
   rw [b _ (h.pvlt s hs) (h.low j hj _ hp)]
   exact h.one s hs
  ·rw [e2 s e]; exact h.one s hs
 ·by_cases e:s=i
  ·subst e
   have:=h.pvlt s hs
   rw [b k (by omega) (h.low j hj k (by omega))]
   exact h.low s hs k hk
  ·rw [e2 s e]; exact h.low s hs k hk
 ·have ho:RowOps q add mul n N R R':=.eq (.add (.refl (V:=R)) c hj (by omega) (hneg a ha).1) fun u hu k hk=>by
   by_cases e:u=i
   ·subst e
    rw [if_pos rfl,e1 k hk,zjO hL hneg ha (hR j hj k hk)]
   ·rw [if_neg e,e2 u e]
  exact (RowOps.sp hL hR ho).1
 refine zhs N t fun k hk hkN=>?_
 by_cases e:k=t
 ·subst e
  rw [e1 k hkN,hat]
  exact (hneg _ (hR i c k hkN)).2
 ·rw [e1 k hkN,zbs (u:=R i) hkN (by omega),zbs (u:=R j) hkN (by omega),hL.mulZero ha,d,hL.addZero (by have:=hL.two; omega)]
end
end Go.Proofs.YtgekjfpapmlndaaGreat