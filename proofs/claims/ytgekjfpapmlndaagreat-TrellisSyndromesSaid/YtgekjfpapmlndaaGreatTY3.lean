/- Merged texts of a claim: Gf2, TabRow, TabAll, Gf3, Gf4. -/
import Derived.Test.YtgekjfpapmlndaaGreatTY2
import Derived.Laws.CopyOwn
namespace Go.Proofs.YtgekjfpapmlndaaGreat
set_option maxRecDepth 100000
set_option maxHeartbeats 32000000
open KB KE
open Go.RowKit
def hStep (P M:Nat) (m:Nat->Nat) (a:Nat->Nat) (bi:Nat) (o:Nat->Nat) (j:Nat):Nat:=((if j=0 then 0 else o (j - 1))+(P - o (M - 1))*(if 1<M then m j else 0)+bi*a j) % P
def hOut (P M:Nat) (m a b:Nat->Nat):Nat->Nat->Nat
 | 0=>fun _=>0
 | s+1=>hStep P M m a (b (M - 1 - s)) (hOut P M m a b s)
theorem zel {P M:Nat} {m a b:Nat->Nat} (hP:0<P):∀ s j,hOut P M m a b s j<P
 | 0,_=>hP
 | _+1,_=>Nat.mod_lt _ hP
theorem zi6 {P M:Nat} {m a b:Nat->Nat} (hP:0<P):∀ s,s<=M->∀ j,j<M->cg P (hOut P M m a b s j) (sig s fun t=>(b (M - s+t):Int)*sig M fun i=>(a i:Int)*pwX M m (i+t) j)
 | 0,_,_,_=>zas _
 | s + 1, hs, j, hj => by
  have ih:=fun j' (hj':j'<M)=>zi6 (m:=m) (a:=a) (b:=b) hP s (by omega) j' hj'
  have hlt:=zel (M:=M) (m:=m) (a:=a) (b:=b) hP s (M - 1)
  obtain ⟨o,ho⟩:=exx (hOut P M m a b s)
  rw [<-ho] at ih hlt
  have e1:hOut P M m a b (s+1) j=((if j=0 then 0 else o (j - 1))+(P - o (M - 1))*(if 1<M then m j else 0)+b (M - 1 - s)*a j) % P:=by rw [ho]; rfl
  rw [e1]
  refine (zej _).trans ?_
  have e2:sig (s+1) (fun t=>(b (M - (s+1)+t):Int)*sig M fun i=>(a i:Int)*pwX M m (i+t) j)=(b (M - 1 - s):Int)*a j+sig s (fun t=>(b (M - s+t):Int)*sig M fun i=>(a i:Int)*pwX M m (i+t+1) j):=by
   rw [show s+1=1+s by omega,zh2 1 s]
   congr 1
   ·show (0:Int)+(b (M - (1+s)):Int)*sig M (fun i=>(a i:Int)*pwX M m i j)=_
    rw [zbW hj fun i hi hne=>by rw [zbF hi,if_neg (by omega)]; omega,zbF hj,if_pos rfl,show M - (1+s)=M - 1 - s by omega,Int.mul_one,Int.zero_add]
   ·refine zad fun t _=>?_
    rw [show M - (1+s)+(1+t)=M - s+t by omega]
    congr 1
    exact zad fun i _=>by rw [show i+(1+t)=i+t+1 by omega]
  rw [e2]
  have e3:sig s (fun t=>(b (M - s+t):Int)*sig M fun i=>(a i:Int)*pwX M m (i+t+1) j)=(if j=0 then 0 else sig s fun t=>(b (M - s+t):Int)*sig M fun i=>(a i:Int)*pwX M m (i+t) (j - 1)) - m j*sig s (fun t=>(b (M - s+t):Int)*sig M fun i=>(a i:Int)*pwX M m (i+t) (M - 1)):=by
   rw [<-zcW]
   by_cases e:j=0
   ·rw [if_pos e]
    have:(0:Int)=sig s fun _=>0:=(zbr s).symm
    rw [this,<-zfy]
    refine zad fun t _=>?_
    have h1:sig M (fun i=>(a i:Int)*pwX M m (i+t+1) j) = - (m j*sig M fun i=>(a i:Int)*pwX M m (i+t) (M - 1)):=by
     rw [<-zcW,<-ziY]
     refine zad fun i _=>?_
     show (a i:Int)*(if j<M then (if j=0 then 0 else pwX M m (i+t) (j - 1)) - m j*pwX M m (i+t) (M - 1) else 0)=_
     rw [if_pos hj,if_pos e]
     grind
    rw [h1]
    grind
   ·rw [if_neg e,<-zfy]
    refine zad fun t _=>?_
    have h1:sig M (fun i=>(a i:Int)*pwX M m (i+t+1) j)=sig M (fun i=>(a i:Int)*pwX M m (i+t) (j - 1)) - m j*sig M fun i=>(a i:Int)*pwX M m (i+t) (M - 1):=by
     rw [<-zcW,<-zfy]
     refine zad fun i _=>?_
     show (a i:Int)*(if j<M then (if j=0 then 0 else pwX M m (i+t) (j - 1)) - m j*pwX M m (i+t) (M - 1) else 0)=_
     rw [if_pos hj,if_neg e]
     grind
    rw [h1]
    grind
  rw [e3]
  have c1:cg P (((if j=0 then 0 else o (j - 1):Nat):Int)) (if j=0 then 0 else sig s fun t=>(b (M - s+t):Int)*sig M fun i=>(a i:Int)*pwX M m (i+t) (j - 1)):=by
   by_cases e:j=0
   ·rw [if_pos e,if_pos e]; exact zas _
   ·rw [if_neg e,if_neg e]; exact ih (j - 1) (by omega)
  have c2:cg P ((((P - o (M - 1))*(if 1<M then m j else 0):Nat):Int)) (- (m j*sig s fun t=>(b (M - s+t):Int)*sig M fun i=>(a i:Int)*pwX M m (i+t) (M - 1))):=by
   by_cases e:1<M
   ·rw [if_pos e]
    have h1:cg P (((P - o (M - 1))*m j:Nat):Int) (- (m j*(o (M - 1):Int))):=⟨m j,by rw [Int.natCast_mul,Int.natCast_sub (Nat.le_of_lt hlt)]; grind⟩
    exact h1.trans ((Go.Proofs.YtgekjfpapmlndaaGreat.cg.mulL _ (ih (M - 1) (by omega))).neg)
   ·rw [if_neg e,Nat.mul_zero]
    obtain rfl:s=0:=by omega
    exact zbV (by show (0:Int) = -(m j*0); omega)
  rw [Int.natCast_add,Int.natCast_add,Int.natCast_mul (b (M - 1 - s))]
  refine ((c1.add c2).add (zas _)).trans (zbV ?_)
  omega
theorem zjv {P M:Nat} {m:Nat->Nat} (hP:0<P) (hM:1<=M) (x y:Nat):valN P (hOut P M m (dig P x) (dig P y) M) M=mulF P M m x y:=by
 refine zbG hP (zbh fun i _=>zel hP M i) (za1 hP x y) fun j hj=>?_
 have h1:dgt P (valN P (hOut P M m (dig P x) (dig P y) M) M) j=((hOut P M m (dig P x) (dig P y) M j:Nat):Int):=by
  unfold dgt
  rw [za7 (fun i _=>zel hP M i) j hj]
 rw [h1]
 refine (zi6 hP M (Nat.le_refl _) j hj).trans (Go.Proofs.YtgekjfpapmlndaaGreat.cg.trans (zbV ?_) (zdK hP hM x y hj).symm)
 rw [za3]
 unfold mulI
 refine zad fun t _=>?_
 rw [show M - M+t=t by omega]
 unfold dgt
 congr 1
 exact zad fun i _=>by rw [Nat.add_comm i t]
theorem drewSet {B:Nat} {a w:World} {p:Addr} {v:Value} (h:Below B a (w.setCell p v)):Below B a (w.drew.setCell p v):=⟨h.os,h.tape,h.output,h.size,h.block⟩
theorem zia {w':World} {g M L:Nat} {t:TypeId} {F:Nat->Value} {cs:Array Value} (h1:cs.size=M) (h2:∀ i,i<M->cs[i]?=some (F i)) (hM:L+1=M) (h:w'.heap[g]?=some (.cells (splice cs.toList 1 ((List.range L).map F)).toArray t (0,0))):w'.rowIs g t M (fun j=>if j=0 then F 0 else F (j - 1)):=by
 have hl:(splice cs.toList 1 ((List.range L).map F)).length=M:=by rw [length_splice _ _ _ (by simp; omega)]; simpa using h1
 refine ⟨_,h,by simpa using hl,fun i hi=>?_⟩
 rw [List.getElem?_toArray]
 unfold splice
 have a:cs.toList.length=M:=by simpa using h1
 show _=some (if i=0 then F 0 else F (i - 1))
 by_cases e:i=0
 ·subst e
  rw [if_pos rfl,List.getElem?_append_left (by rw [List.length_take]; omega),List.getElem?_take_of_lt (by omega),Array.getElem?_toList]
  exact h2 0 hi
 ·rw [if_neg e,List.getElem?_append_right (by rw [List.length_take]; omega),List.length_take,show i - min 1 cs.toList.length=i - 1 by omega,List.getElem?_append_left (by simp; omega)]
  simp [show i - 1<L by omega]
theorem zc1 (P M:Nat) (A:Option Addr) (k c:Nat) (m:Nat->Nat) (x y:Nat) (w:World) (hf:FldOk P M) (hm:ModOk w P M A m) (hkM:M=1∨k=M) (hx:x<P ^ M) (hy:y<P ^ M) :
  Calls Tryz.prog 200 #[.agg #[.int .i64 (P:Nat),.int .i64 (M:Nat),.slice A k c],.int .i64 (x:Nat),.int .i64 (y:Nat)] w fun e w'=>e=.returned (.int .i64 (mulF P M m x y:Nat))/\Below w.heap.size w w':=by
 have hq:=hf.2.2.2
 have bn:=hf.1
 have a7:=hf.P_le
 have bq:=hf.2.1
 have bo:=hf.2.2.1
 have ao:1<=P:=by omega
 have u:0<P:=by omega
 have b3:x<=1048576:=by omega
 have b2:y<=1048576:=by omega
 have ap:M<=64:=by omega
 have ax:=hid (zjv (m:=m) u bq x y)
 have HQ:=hid hq
 clear hq hx hy
 obtain ⟨w1,D,hB,rf⟩:=zao w (.int .i64 (P:Nat)) (.int .i64 (M:Nat)) (.slice A k c) 24
 have am:=fun W=>zaf (P:=Tryz.prog) 22 3 _ 8 Tryz.underlying22 Tryz.infoInt rfl (M:Int) (by omega) (by omega) (by omega) W
 simp only [Int.toNat_natCast] at am
 go_enter Tryz.func200, Tryz.ntmps200
 go_upto_region 1 with fail
 rw [<-D];clear D
 refine wp_region_held_drew (S:=fun w'=>w'.cell? ⟨w.heap.size,0,none⟩=some (.int .i64 (P:Nat))/\w'.cell? ⟨w.heap.size,1,none⟩=some (.int .i64 (M:Nat))) (by kernel_rfl) ⟨cellS (Below.refl _ _).drew (rf.cell (i:=0) (by omega)),cellS (Below.refl _ _).drew (rf.cell (i:=1) (by omega))⟩ (fun hHeld=>?_)
 obtain ⟨w2,hw,kb⟩:=dwx w1
 rw [<-hw] at hHeld ⊢;clear hw;replace rf:=zaa rf kb;replace hB:=onS hB kb;clear kb
 refine tkq 0 (h:=tkq 1 (h:=tkq 2 (h:=tkq 3 (h:=tkq 4 (h:=tkq 6 (h:=tkq 7 (h:=tkq 8 (h:=tkq 9 (h:=tkq 10 (h:=?_))))))))))
 refine rdq 5 (h:=fun K hK=>?_)
 go_simp
 go_wp2_with fail
 refine (zc0 x P M w2 b3 ao a7 ap).mono ?_
 rintro e w3 ⟨ga,rfl,cj,ra,kb⟩
 replace rf:=zaa rf kb;replace hB:=onS hB kb;clear kb
 refine bkq hK ⟨qc0 rf,qc1 rf⟩ (h:=fun hHeld=>?_)
 clear hK K
 refine rdq 11 (h:=fun K hK=>?_)
 have ch:=hB.size
 go_simp
 go_wp2_with fail
 refine (zc0 y P M w3 b2 ao a7 ap).mono ?_
 rintro e w4 ⟨gb,rfl,ci,rb,kb⟩
 replace rf:=zaa rf kb;replace ra:=zaa ra kb;replace hB:=onS hB kb;clear kb
 refine bkq hK ⟨qc0 rf,qc1 rf⟩ (h:=fun hHeld=>?_)
 clear hK K
 refine tkq 12 (h:=tkq 13 (h:=?_))
 refine wpAnyH_done (by kernel_rfl) ?_ _
 clear hHeld
 obtain ⟨wA,ah⟩:=exx w4
 rw [<-ah] at rf hB ra rb ⊢;clear ah
 have q1:=qc1 rf
 go_upto_region 3 with fail
 have row:=World.rowIs_made wA (.int .i64 0) M 3
 have kb:=(Below.refl wA.heap.size wA).alloc (Nat.le_refl _) (Obj.cells (madeCells #[Value.int .i64 0] M) 3)
 obtain ⟨wB,ag⟩:=exx (wA.alloc (Obj.cells (madeCells #[Value.int .i64 0] M) 3))
 obtain ⟨g,hg⟩:=exx wA.heap.size
 rw [<-ag] at kb row ⊢;rw [<-hg] at row ⊢
 have Y:wA.heap.size<=g:=by omega
 have cg:w.heap.size≠g:=by have:=rf.lt; omega
 have G:=hid rf
 have bz:=hid ra
 have bx:=hid rb
 have b1:=hid hB
 clear ag hg q1 am rf ra rb hB
 have q1:wB.cell? ⟨w.heap.size,1,none⟩=some (.int .i64 (M:Nat)):=cellS kb (G.out.cell (i:=1) (by omega))
 have I:(Tryz.prog.info? 3).map (·.size)=some 1:=by
  obtain ⟨i,hi,H⟩:=Option.map_eq_some_iff.1 Tryz.infoInt
  simp only [Prod.mk.injEq] at H
  rw [hi]
  simp [H.2.1]
 have ab:=hid I
 clear I
 obtain ⟨L,hL⟩:=exx (M - 1)
 have br:(M:Int) - 1=(L:Int):=by omega
 have bt:L<M:=by omega
 have bs:(L:Int)<(M:Int):=by omega
 have HL:=hid hL
 clear hL
 have b:=hid (row.congr (g:=fun j=>.int .i64 (hOut P M m (dig P x) (dig P y) 0 j:Nat)) fun _ _=>rfl)
 have C:=hid kb
 clear row
 go_wp2
 clear q1
 go_loopg [10,11,12,13] (M+1) (fun gg iv _ _ _ wx=>∃ s:Nat,iv=.int .i64 ((M:Int) - 1 - (s:Int))/\s<=M/\M+1<=s+gg/\Hid (wx.rowIs g 3 M (fun j=>.int .i64 (hOut P M m (dig P x) (dig P y) s j:Nat)))/\Hid (Below wA.heap.size wA wx))
 case atStart=>exact ⟨0,by rw [<-br]; simp,by omega,by omega,b,C⟩
 clear b C kb
 obtain ⟨s,rfl,hs,b8,b,C⟩:=hrel
 by_cases hlt:s<M
 rotate_left
 ·have bb:¬ ((M:Int) - 1 - (s:Int)) ≥ 0:=by omega
  obtain rfl:s=M:=by omega
  have ai:=rowInts (f:=hOut P s m (dig P x) (dig P y) s) b.out
  have bw:=hid ai
  have c4:Hid (∀ i,i<s->hOut P s m (dig P x) (dig P y) s i<P):=fun i _=>zel u s i
  have ar:=onS b1.out C.out
  have q0:wr.cell? ⟨w.heap.size,0,none⟩=some (.int .i64 (P:Nat)):=cellS C.out (G.out.cell (i:=0) (by omega))
  clear ai b
  go_wp2_with fail
  refine (zgc P (some ⟨g,0,none⟩) s s _ wr bn a7 bw.out c4 (HQ.out) bo).mono ?_
  rintro e w9 ⟨rfl,kb⟩
  rw [ax.out]
  have bu:=onS ar kb
  clear kb q0 ar
  obtain ⟨V,hV⟩:=exx (mulF P s m x y)
  rw [<-hV]
  have bv:=hid hV
  clear hV ax
  go_wp2
  go_ret
  exact ⟨by rw [bv.out]; rfl,bu⟩
 obtain ⟨i,hi⟩:=exx (M - 1 - s)
 have a5:(M:Int) - 1 - (s:Int)=(i:Int):=by omega
 have bg:i<M:=by omega
 have bf:(i:Int)<(M:Int):=by omega
 have cf:(0:Int)<=(i:Int):=by omega
 rw [a5]
 have HI:=hid hi
 have c6:=hid a5
 clear hi a5
 obtain ⟨gO,bh⟩:=exx gk
 rw [<-bh] at b8
 obtain ⟨o,ho⟩:=exx (hOut P M m (dig P x) (dig P y) s)
 have aj:∀ j,o j<P:=fun j=>by rw [ho]; exact zel u s j
 have row:=b.out
 rw [<-ho] at row
 have q:hOut P M m (dig P x) (dig P y) (s+1)=hStep P M m (dig P x) (dig P y i) o:=by rw [ho,HI.out]; rfl
 have c0:=hid q
 have av:=hid aj
 clear ho q b aj
 obtain ⟨tp,U⟩:=exx (o L)
 have t0:=row.cell bt
 rw [<-U] at t0
 have b6:tp<P:=by rw [U]; exact av.out L
 have au:=hid U
 clear U
 have c8:IntKind.i64.wrap (L:Int)=(L:Int):=IntWalk.i64_in _ (by omega)
 have co:(0:Int)<=(L:Int):=by omega
 have cn:(L:Int)<=(M:Int):=by omega
 have bp:(1:Int)<=(M:Int):=by omega
 obtain ⟨dp,bi⟩:∃ dp:Option Addr,(if M=1 then some ⟨g,0,none⟩ else some ⟨g,1,none⟩:Option Addr)=dp:=⟨_,rfl⟩
 have c7:Hid (0<L->dp=some ⟨g,1,none⟩):=fun h=>by rw [<-bi,if_neg (by have:=HL.out; omega)]
 have cl:M - 1=L:=HL.out.symm
 have q1:wr.cell? ⟨w.heap.size,1,none⟩=some (.int .i64 (M:Nat)):=cellS C.out (G.out.cell (i:=1) (by omega))
 obtain ⟨w1,D⟩:=exx wr
 rw [<-D] at C row t0 q1 ⊢;clear D
 go_wp2
 refine wp_region_held_drew (S:=fun w'=>w'.cell? ⟨w.heap.size,1,none⟩=some (.int .i64 (M:Nat))) (by kernel_rfl) (cellS (Below.refl _ _).drew (q1)) (fun hHeld=>?_)
 obtain ⟨w2,hw,kb⟩:=dwx w1
 rw [<-hw] at hHeld ⊢;clear hw;replace row:=zaa row kb;replace q1:=cellS kb q1
 have ae:=hid (onS C.out kb)
 clear kb
 refine tkq 0 (h:=tkq 1 (h:=tkq 2 (h:=tkq 3 (h:=tkq 4 (h:=tkq 5 (h:=tkq 6 (h:=?_)))))))
 refine rdq 7 (h:=fun K hK=>?_)
 have row2:=row
 obtain ⟨cs,c1,c2,c3⟩:=row
 have aw:Hid (w2.heap[g]?=some (.cells cs.toList.toArray 3 (0,0))):=by show _=_; simpa using c1
 have J:Hid (0<((List.range L).map fun t=>Value.int .i64 (o t:Nat)).length->dp=some ⟨g,1,none⟩/\∃ ad,(some ⟨g,0,none⟩:Option Addr)=some ad/\∀ j v,((List.range L).map fun t=>Value.int .i64 (o t:Nat))[j]?=some v->w2.cell? (ad.add j)=some v):=fun h=>by
  refine ⟨c7.out (by simpa using h),⟨g,0,none⟩,rfl,fun j v hv=>?_⟩
  rw [List.getElem?_map] at hv
  obtain ⟨t,ht,e⟩:=Option.map_eq_some_iff.1 hv
  obtain ⟨h1,h2⟩:=List.getElem?_eq_some_iff.1 ht
  rw [List.getElem_range] at h2
  subst h2 e
  rw [zcC,Nat.zero_add]
  exact row2.cell (by simp at h1; omega)
 have O:Hid (((List.range L).map fun t=>Value.int .i64 (o t:Nat)).length=Nat.min L L):=by show _=_; simp
 have Q:Hid (1+((List.range L).map fun t=>Value.int .i64 (o t:Nat)).length<=cs.toList.length):=by show _<=_; simp; omega
 have N:Hid (∀ v ∈ (List.range L).map fun t=>Value.int .i64 (o t:Nat),v.oneCell'=true):=fun v hv=>by
  obtain ⟨t,_,rfl⟩:=List.mem_map.1 hv
  rfl
 refine step_copy_splice (cur:=cs.toList) (cs:=(List.range L).map fun t=>Value.int .i64 (o t:Nat)) (B:=wA.heap.size) (w0:=wA) (by rfl) (.tmp 43) (.tmp 48) 22 22 (by rfl) 3 Tryz.underlying22 ab.out dp (some ⟨g,0,none⟩) L L L M (by rfl) (by rfl) g 1 3 aw.out O.out J.out Q.out N.out ae.out Y ?_
 intro w3 hg3 hb3
 have row:=zia (F:=fun t=>.int .i64 (o t:Nat)) c2 (fun i hi=>c3 i hi) (show L+1=M by omega) hg3.out
 clear hg3 row2 c1 c2 c3 aw J O Q N
 have q19:w3.cell? ⟨w.heap.size,1,none⟩=some (.int .i64 (M:Nat)):=cellS hb3 (G.out.cell (i:=1) (by omega))
 clear q1
 have q1:=q19
 clear q19
 refine bkq hK q1 (h:=fun hHeld=>?_)
 clear hK K
 refine wpAnyH_done (by kernel_rfl) ?_ _
 clear hHeld
 obtain ⟨w4,T⟩:=exx w3
 rw [<-T] at row hb3 ⊢;clear T
 have y0:=row.cell (i:=0) (by omega)
 have z0:=row.frozen 0
 have d:=hid ((row.set 0 (.int .i64 0)).congr (g:=fun j=>.int .i64 (if j=0 then 0 else o (j - 1):Nat)) fun j _=>by
  by_cases e:j=0
  ·subst e; rfl
  ·rw [if_neg e,if_neg e,if_neg e])
 have af:=hid (hb3.setCell (p:=⟨g,0,none⟩) Y (.int .i64 0))
 clear row hb3 q1
 have cm:(0:Int)<(M:Int):=by omega
 go_wp2
 clear y0 z0
 obtain ⟨w5,R⟩:=exx (w4.setCell ⟨g,0,none⟩ (.int .i64 0))
 rw [<-R] at d af ⊢;clear R
 have a:=hid (d.out.congr (g:=fun t=>.int .i64 (if t<0 then hStep P M m (dig P x) (dig P y i) o t else if t=0 then 0 else o (t - 1):Nat)) fun _ _=>rfl)
 clear d
 go_loopg [12,13,54] M (fun gg _ _ jv wx=>∃ j:Nat,jv=.int .i64 (j:Nat)/\j<=M/\M<=j+gg/\Hid (wx.rowIs g 3 M (fun t=>.int .i64 (if t<j then hStep P M m (dig P x) (dig P y i) o t else if t=0 then 0 else o (t - 1):Nat)))/\Hid (Below wA.heap.size wA wx))
 case atStart=>exact ⟨0,rfl,by omega,by omega,a,af⟩
 clear a af
 obtain ⟨j,rfl,hj,cd,a,l⟩:=hrel
 by_cases hjl:j<M
 rotate_left
 ·have a4:¬ (j:Int)<(M:Int):=by omega
  obtain rfl:j=M:=by omega
  have a2:=hid (a.out.congr (g:=fun t=>.int .i64 (hOut P j m (dig P x) (dig P y) (s+1) t:Nat)) fun t ht=>by rw [if_pos ht,c0.out])
  clear a
  go_wp2
  go_roundg (gO - 1)
  case measure=>omega
  case rel=>exact ⟨s+1,by have:=c6.out; go_num,by omega,by omega,a2,l⟩
 have a4:(j:Int)<(M:Int):=by omega
 have ce:(0:Int)<=(j:Int):=by omega
 have e0:=a.out.cell hjl
 rw [if_neg (by omega)] at e0
 have z0:=a.out.frozen j
 obtain ⟨v,hv⟩:∃ v,v=if j=0 then 0 else o (j - 1):=⟨_,rfl⟩
 rw [<-hv] at e0
 have ca:v<P:=by
  rw [hv]
  split
  ·exact u
  ·exact av.out _
 have f0:wr.cell? ⟨ga,j,none⟩=some (.int .i64 (dig P x j:Nat)):=cellS l.out (bz.out.cell hjl)
 have f1:wr.cell? ⟨gb,i,none⟩=some (.int .i64 (dig P y i:Nat)):=cellS l.out (bx.out.cell bg)
 obtain ⟨da,a0⟩:=exx (dig P x j)
 obtain ⟨db,Z⟩:=exx (dig P y i)
 rw [<-a0] at f0;rw [<-Z] at f1
 have bk:da<P:=by rw [a0]; exact zb7 u _ _
 have bj:db<P:=by rw [Z]; exact zb7 u _ _
 have q0:wr.cell? ⟨w.heap.size,0,none⟩=some (.int .i64 (P:Nat)):=cellS l.out (G.out.cell (i:=0) (by omega))
 have q1:wr.cell? ⟨w.heap.size,1,none⟩=some (.int .i64 (M:Nat)):=cellS l.out (G.out.cell (i:=1) (by omega))
 have q2:wr.cell? ⟨w.heap.size,2,none⟩=some (.slice A k c):=cellS l.out (G.out.cell (i:=2) (by omega))
 have HV:=hid hv
 have az:=hid a0
 have ay:=hid Z
 clear hv a0 Z
 by_cases hM2:1<M
 focus
  have a9:(M:Int) > 1:=by omega
  rcases hm with hm | ⟨ak,al⟩
  ·omega
  obtain rfl:M=k:=(hkM.resolve_left (by omega)).symm
  obtain ⟨mb,mo,hA,bc,f2⟩:=ak.at hjl
  subst hA
  obtain ⟨lo,X⟩:=exx (m j)
  rw [<-X] at f2
  have be:lo<P:=by rw [X]; exact al j hjl
  have c5:=hid X
  have f29:=((onS b1.out l.out).cell (p:=⟨mb,mo+j,none⟩) bc).trans f2
  clear X f2 ak al
  obtain ⟨z,hz⟩:=exx (v+(P - tp)*lo+db*da)
  obtain ⟨r,hr⟩:=exx (z % P)
  have ba:r<P:=by rw [hr]; exact Nat.mod_lt _ u
  have ac:Hid (r=hStep P M m (dig P x) (dig P y i) o j):=by
   show _=_
   rw [hr,hz,HV.out,az.out,ay.out,au.out,HL.out,c5.out]
   unfold hStep
   rw [if_pos hM2]
  obtain ⟨R2,n⟩:=exx (db*da)
  have a6:R2<=256*256:=by rw [n]; exact Nat.mul_le_mul (by omega) (by omega)
  have bd:(db:Int)*(da:Int)=(R2:Int):=by rw [n]; simp
  obtain ⟨D1,aq⟩:=exx (P - tp)
  have aa:D1<=256:=by omega
  have ck:(P:Int) - (tp:Int)=(D1:Int):=by omega
  obtain ⟨R1,a1⟩:=exx (D1*lo)
  have bl:R1<=256*256:=by rw [a1]; exact Nat.mul_le_mul aa (by omega)
  have cc:(D1:Int)*(lo:Int)=(R1:Int):=by rw [a1]; simp
  obtain ⟨S1,an⟩:=exx (v+R1)
  have cb:(v:Int)+(R1:Int)=(S1:Int):=by omega
  have D:IntKind.i64.wrap (D1:Int)=(D1:Int):=IntWalk.i64_in _ (by omega)
  have c9:IntKind.i64.wrap (R1:Int)=(R1:Int):=IntWalk.i64_in _ (by omega)
  have b5:IntKind.i64.wrap (S1:Int)=(S1:Int):=IntWalk.i64_in _ (by omega)
  have H:z=S1+R2:=by rw [hz,an,a1,aq,n]
  have b9:(S1:Int)+(R2:Int)=(z:Int):=by omega
  have T:IntKind.i64.wrap (R2:Int)=(R2:Int):=IntWalk.i64_in _ (by omega)
  have R:IntKind.i64.wrap (z:Int)=(z:Int):=IntWalk.i64_in _ (by omega)
  have b4:IntKind.i64.wrap (r:Int)=(r:Int):=IntWalk.i64_in _ (by omega)
  have E:(z:Int) % (P:Int)=(r:Int):=by rw [hr]; simp
  have a3:(0:Int)<=(z:Int):=by omega
  have a8:¬ (P:Int)=0:=by omega
  have bm:¬ P=0:=by omega
  have b7:(z:Int).tmod (P:Int)=(r:Int):=by rw [Int.tmod_eq_emod_of_nonneg a3,E]
  have a2:=hid ((a.out.set j (.int .i64 (r:Nat))).congr (g:=fun t=>.int .i64 (if t<j+1 then hStep P M m (dig P x) (dig P y i) o t else if t=0 then 0 else o (t - 1):Nat)) fun t _=>by
   by_cases e:t=j
   ·subst e; rw [if_pos rfl,if_pos (by omega),ac.out]
   rw [if_neg e]
   by_cases e2:t<j
   ·rw [if_pos e2,if_pos (show t<j+1 by omega)]
   ·rw [if_neg e2,if_neg (show ¬ t<j+1 by omega)])
  have b0:=hid (l.out.setCell (p:=⟨g,j,none⟩) Y (.int .i64 (r:Nat)))
  clear hz hr n H a l aq a1 an
 rotate_left
 focus
  have a9:¬ (M:Int) > 1:=by omega
  obtain ⟨z,hz⟩:=exx (v+(P - tp)*0+db*da)
  obtain ⟨r,hr⟩:=exx (z % P)
  have ba:r<P:=by rw [hr]; exact Nat.mod_lt _ u
  have ac:Hid (r=hStep P M m (dig P x) (dig P y i) o j):=by
   show _=_
   rw [hr,hz,HV.out,az.out,ay.out,au.out,HL.out]
   unfold hStep
   rw [if_neg (show ¬ 1<M by omega)]
  obtain ⟨R2,n⟩:=exx (db*da)
  have a6:R2<=256*256:=by rw [n]; exact Nat.mul_le_mul (by omega) (by omega)
  have bd:(db:Int)*(da:Int)=(R2:Int):=by rw [n]; simp
  have b5:IntKind.i64.wrap (v:Int)=(v:Int):=IntWalk.i64_in _ (by omega)
  have D:IntKind.i64.wrap ((P:Int) - (tp:Int))=(P:Int) - (tp:Int):=IntWalk.i64_in _ (by omega)
  have H:z=v+R2:=by rw [hz,n,Nat.mul_zero,Nat.add_zero]
  have b9:(v:Int)+(R2:Int)=(z:Int):=by omega
  have T:IntKind.i64.wrap (R2:Int)=(R2:Int):=IntWalk.i64_in _ (by omega)
  have R:IntKind.i64.wrap (z:Int)=(z:Int):=IntWalk.i64_in _ (by omega)
  have b4:IntKind.i64.wrap (r:Int)=(r:Int):=IntWalk.i64_in _ (by omega)
  have E:(z:Int) % (P:Int)=(r:Int):=by rw [hr]; simp
  have a3:(0:Int)<=(z:Int):=by omega
  have a8:¬ (P:Int)=0:=by omega
  have bm:¬ P=0:=by omega
  have b7:(z:Int).tmod (P:Int)=(r:Int):=by rw [Int.tmod_eq_emod_of_nonneg a3,E]
  have a2:=hid ((a.out.set j (.int .i64 (r:Nat))).congr (g:=fun t=>.int .i64 (if t<j+1 then hStep P M m (dig P x) (dig P y i) o t else if t=0 then 0 else o (t - 1):Nat)) fun t _=>by
   by_cases e:t=j
   ·subst e; rw [if_pos rfl,if_pos (by omega),ac.out]
   rw [if_neg e]
   by_cases e2:t<j
   ·rw [if_pos e2,if_pos (show t<j+1 by omega)]
   ·rw [if_neg e2,if_neg (show ¬ t<j+1 by omega)])
  have b0:=hid (l.out.setCell (p:=⟨g,j,none⟩) Y (.int .i64 (r:Nat)))
  clear hz hr n H a l 
 rotate_left
 all_goals
  go_wp2
  go_still_tail 27,(by kernel_rfl)
  change wpList _ _ _ _ _ wr.drew
  go_wp2
  go_roundg (gk - 1)
  case measure=>omega
  case rel=>exact ⟨j+1,by go_num,by omega,by omega,hid (show World.rowIs _ _ _ _ _ from a2.out),hid (drewSet b0.out)⟩
theorem zdo {w:World} {p q:Addr} {u v:Value} (h:w.cell? q=some v) (hne:q≠p):(w.setCell p u).cell? q=some v :=
 (World.cell?_setCell_other w p q u (fun e=>hne (by rw [e]))).trans h
theorem zcL {w:World} {b i:Nat} {u v:Value} (h:w.cell? ⟨b,i,none⟩=some v):(w.setCell ⟨b,i,none⟩ u).cell? ⟨b,i,none⟩=some u:=by
 unfold World.cell? at h
 split at h
 ·rename_i c e fr hb
  have hb:w.heap[b]?=some (.cells c e fr):=hb
  simp only [Option.isSome_none,Bool.false_eq_true,if_false] at h
  have hi:i<c.size:=(Array.getElem?_eq_some_iff.1 h).1
  simp [World.cell?,World.setCell,Array.getElem?_modify,hb,hi]
 ·cases h
theorem zab {w:World} {p q:Addr} {u v:Value} (h:w.cell? q=some v) (hne:q.block≠p.block):(w.setCell p u).cell? q=some v :=
 (World.cell?_setCell_other w p q u (fun e=>hne (by rw [e]))).trans h
theorem zgR {w wr:World} {o1 o2:Obj} (h:Below (w.heap.size+2) ((w.alloc o1).alloc o2) wr):Below (w.heap.size+1) (w.alloc o1) wr:=((Below.refl _ _).alloc (by simp) _).trans (h.mono (by omega))
theorem zdS {w wr:World} {o1:Obj} {cs:Array Value} {T:TypeId} (h:Below (w.heap.size+2) ((w.alloc o1).alloc (.cells cs T)) wr):wr.rowIs (w.heap.size+1) T cs.size (fun i=>cs.getD i undef):=by
 have h1:=World.rowIs_alloc (w.alloc o1) cs T (fun i=>cs.getD i undef) (fun i hi=>by simp [hi])
 simp only [World.size_alloc] at h1
 exact h1.of_block (h.block _ (by omega))
structure TabOwn (w:World) (g base te e s m:Nat) (F:Nat->Value) (n:Nat->Nat) (f:Nat->Nat->Nat->Value):Prop where
 row:w.rowIs g te m F
 own:∀ v,v<m->Own w base e s (F v) (n v) (f v)
 apart:∀ v u,v<m->u<m->v≠u->(F v).ownBlock=none∨(F v).ownBlock≠(F u).ownBlock
section
variable {w w':World} {g base te e s m:Nat} {F:Nat->Value} {n:Nat->Nat} {f:Nat->Nat->Nat->Value}
theorem TabOwn.put (h:TabOwn w g base te e s m F n f) (hgb:g<base) {v:Nat} (hv:v<m) {v':Value} {n':Nat} {f':Nat->Nat->Value} (hown:Own w' base e s v' n' f') (hg:w.grownBy w' (F v).ownBlock) (hat:v'.ownBlock=(F v).ownBlock∨v'.ownBlock=some w.heap.size) :
  TabOwn (w'.setCell ⟨g,v,none⟩ v') g base te e s m (fun u=>if u=v then v' else F u) (fun u=>if u=v then n' else n u) (fun u=>if u=v then f' else f u):=by
 have c:∀ u,u<m->∀ k,(F u).ownBlock=some k->base<=k/\k<w.heap.size:=fun u hu=>(h.own u hu).lt
 have d:g<w.heap.size:=h.row.lt
 refine ⟨?_,fun u hu=>?_,fun a b ha hb hab=>?_⟩
 ·have:w'.rowIs g te m F:=h.row.of_block (hg.block g d (fun e=>by have:=(c v hv g e.symm).1; omega))
  exact (this.set v v').congr fun u _=>by split <;> rfl
 ·by_cases e:u=v
  ·subst e
   simp only [if_true]
   exact hown.setCell (fun e=>by have:=(hown.lt _ e).1; simp at this; omega) _
  simp only [if_neg e]
  have hk:Own w' base _ s (F u) (n u) (f u):=(h.own u hu).kept hg (h.apart u v hu hv e)
  exact hk.setCell (fun e=>by have:=(hk.lt _ e).1; simp at this; omega) _
 by_cases ea:a=v
 ·have eb:¬ b=v:=fun e=>hab (by rw [ea,e])
  simp only [if_pos ea,if_neg eb]
  subst ea
  rcases hat with h1 | h1
  ·rw [h1]; exact h.apart a b ha hb hab
  right
  rw [h1]
  intro e2
  have:=(c b hb _ e2.symm).2
  omega
 simp only [if_neg ea]
 by_cases eb:b=v
 rotate_left
 ·simp only [if_neg eb]; exact h.apart a b ha hb hab
 simp only [if_pos eb]
 subst eb
 rcases hat with h1 | h1
 ·rw [h1]; exact h.apart a b ha hb hab
 rw [h1]
 cases hfa:(F a).ownBlock with
 | none=>exact .inl rfl
 | some k =>
  right
  intro e2
  injection e2 with e2
  have:=(c a ha k hfa).2
  omega
end
def atF (P M:Nat) (m:Nat->Nat) (a:Nat) (v u:Nat->Nat) (t:Nat):Nat:=if u t=0 then v t else addF P M (v t) (mulF P M m a (u t))
theorem zib (P M:Nat) (A:Option Addr) (k c:Nat) (m:Nat->Nat) (a:Nat) (V:Option Addr) (n d:Nat) (v:Nat->Nat) (w:World) (hf:FldOk P M) (hm:ModOk w P M A m) (hkM:M=1∨k=M) (ha:a<P ^ M)
  (h:IntsR w w.heap.size V n (fun i=>(v i:Nat))) (hv:∀ i,i<n->v i<P ^ M) (hn:n<=1048576) :
  Calls Tryz.prog 225 #[.agg #[.int .i64 (P:Nat),.int .i64 (M:Nat),.slice A k c],.int .i64 (a:Nat),.slice V n d] w (RowPost n (fun i=>.int .i64 (mulF P M m a (v i):Nat)) w):=by
 obtain ⟨w0,o,hB,rf⟩:=zao w (.int .i64 (P:Nat)) (.int .i64 (M:Nat)) (.slice A k c) 24
 have q:=fun W=>zaf (P:=Tryz.prog) 22 3 _ 8 Tryz.underlying22 Tryz.infoInt rfl (n:Int) (by omega) (by omega) (by omega) W
 simp only [Int.toNat_natCast] at q
 go_enter Tryz.func225, Tryz.ntmps225
 go_upto_region 1 with fail
 rw [<-o];clear o
 go_upto_region 2 with fail
 have kb:=(Below.refl w0.heap.size w0).alloc (Nat.le_refl _) (Obj.cells (madeCells #[Value.int .i64 0] n) 3)
 have ra:=World.rowIs_made w0 (.int .i64 0) n 3
 have y:=rf.lt
 have F:=hB.size
 obtain ⟨w1,b⟩:=exx (w0.alloc (Obj.cells (madeCells #[Value.int .i64 0] n) 3))
 obtain ⟨g,hg⟩:=exx w0.heap.size
 rw [<-b] at kb ra ⊢;rw [<-hg] at ra y F ⊢;replace rf:=zaa rf kb;replace hB:=onS hB kb
 have j:w.heap.size≠g:=by omega
 have s:w.heap.size<=g:=by omega
 clear kb b hg q y
 have E:=zan ha
 have HV:=hid h
 have L:=hid hv
 clear h hv
 go_wp2
 go_loopg [8] n (fun gg iv wx=>∃ i:Nat,iv=.int .i64 (i:Nat)/\i<=n/\n<=i+gg/\wx.rowIs g 3 n (fun t=>.int .i64 ((if t<i then mulF P M m a (v t) else 0:Nat):Int))/\wx.rowIs w.heap.size 24 3 (fldCell (.int .i64 (P:Nat)) (.int .i64 (M:Nat)) (.slice A k c))/\Below w.heap.size w wx)
 case atStart=>exact ⟨0,rfl,by omega,by omega,ra.congr fun t _=>by rw [if_neg (by omega)]; rfl,rf,hB⟩
 clear ra rf hB
 obtain ⟨i,rfl,hi,O,ra,rf,hB⟩:=hrel
 have Q:(0:Int)<=(i:Int):=by omega
 by_cases hlt:i<n
 rotate_left
 ·have l:¬ (i:Int)<(n:Int):=by omega
  obtain rfl:i=n:=by omega
  have hr:=ra.congr (g:=fun t=>.int .i64 (mulF P M m a (v t):Nat)) fun t ht=>by rw [if_pos ht]
  clear ra
  go_wp2
  go_ret
  exact ⟨g,rfl,s,hr,hB⟩
 have l:(i:Int)<(n:Int):=by omega
 obtain ⟨vb,vo,rfl,C,x0⟩:=HV.out.at hlt
 have B:vb≠g:=by omega
 replace x0:=(hB.cell (p:=⟨vb,vo+i,none⟩) C).trans x0
 obtain ⟨x,hx⟩:=exx (v i)
 have D:inV (P ^ M) (x:Nat)=x:=by rw [hx]; exact zan (L.out i hlt)
 rw [<-hx] at x0
 have HX:=hid hx
 clear hx
 have q0:=qc0 rf
 have q1:=qc1 rf
 have q2:=qc2 rf
 obtain ⟨w1,b⟩:=exx wr
 subst b
 go_wp2
 refine wp_region_held_drew (S:=fun w'=>w'.cell? ⟨w.heap.size,0,none⟩=some (.int .i64 (P:Nat))/\w'.cell? ⟨w.heap.size,1,none⟩=some (.int .i64 (M:Nat))/\w'.cell? ⟨w.heap.size,2,none⟩=some (.slice A k c)/\w'.cell? ⟨vb,vo+i,none⟩=some (.int .i64 (x:Nat))) (by kernel_rfl) ⟨cellS (Below.refl _ _).drew q0,cellS (Below.refl _ _).drew q1,cellS (Below.refl _ _).drew q2,cellS (Below.refl _ _).drew x0⟩ (fun hHeld=>?_)
 obtain ⟨w2,hw,kb⟩:=dwx w1
 rw [<-hw] at hHeld ⊢;clear hw;replace ra:=zaa ra kb;replace rf:=zaa rf kb;replace hB:=onS hB kb;replace q0:=cellS kb q0;replace q1:=cellS kb q1;replace q2:=cellS kb q2;replace x0:=cellS kb x0;clear kb
 refine tkq 0 (h:=tkq 1 (h:=tkq 2 (h:=tkq 3 (h:=tkq 4 (h:=tkq 5 (h:=tkq 6 (h:=tkq 7 (h:=?_))))))))
 refine rdq 8 (h:=fun K hK=>?_)
 go_simp
 go_wp2_with fail
 refine (zdG P M A k c m (a:Nat) (x:Nat) w2 hf (zaF hm hB) hkM).mono ?_
 rintro e w3 ⟨rfl,kb⟩
 replace ra:=zaa ra kb;replace rf:=zaa rf kb;replace hB:=onS hB kb;replace q0:=cellS kb q0;replace q1:=cellS kb q1;replace q2:=cellS kb q2;replace x0:=cellS kb x0;clear kb;rw [E,D]
 obtain ⟨r,hr⟩:=exx (mulF P M m a x)
 rw [<-hr]
 have HR:=hid hr
 clear hr
 refine bkq hK ⟨q0,q1,q2,x0⟩ (h:=fun hHeld=>?_)
 clear hK K
 refine tkq 9 (h:=?_)
 refine rdq 10 (h:=fun K hK=>?_)
 have y0:=ra.cell hlt
 have z0:=ra.frozen i
 have ra9:=ra.set i (.int .i64 (r:Nat))
 have rf9:=rf.setOther (a:=⟨g,i,none⟩) (by simpa using j) (.int .i64 (r:Nat))
 have z:=hB.setCell (p:=⟨g,i,none⟩) s (.int .i64 (r:Nat))
 have q09:=zab (p:=⟨g,i,none⟩) (u:=.int .i64 (r:Nat)) q0 j
 have q19:=zab (p:=⟨g,i,none⟩) (u:=.int .i64 (r:Nat)) q1 j
 have q29:=zab (p:=⟨g,i,none⟩) (u:=.int .i64 (r:Nat)) q2 j
 have x09:=zab (p:=⟨g,i,none⟩) (u:=.int .i64 (r:Nat)) x0 B
 have RA:=hid ra9
 have RF:=hid rf9
 have N:=hid z
 have J:=hid q09
 have I:=hid q19
 have H:=hid q29
 have G:=hid x09
 clear ra rf hB ra9 rf9 z q0 q1 q2 x0 q09 q19 q29 x09
 go_simp
 clear y0 z0
 refine bkq hK ⟨J.out,I.out,H.out,G.out⟩ (h:=fun hHeld=>?_)
 clear hK K
 refine wpAnyH_done (by kernel_rfl) ?_ _
 clear hHeld
 go_wp2
 go_roundg (gk - 1)
 case measure=>omega
 refine ⟨i+1,by go_num,by omega,by omega,RA.out.congr fun t ht=>?_,RF.out,N.out⟩
 show (if t=i then Value.int .i64 (r:Nat) else .int .i64 ((if t<i then mulF P M m a (v t) else 0:Nat):Int))=.int .i64 ((if t<i+1 then mulF P M m a (v t) else 0:Nat):Int)
 by_cases e:t=i
 ·subst e; rw [if_pos rfl,if_pos (by omega),HR.out,HX.out]
 rw [if_neg e]
 by_cases e2:t<i
 ·rw [if_pos e2,if_pos (by omega)]
 ·rw [if_neg e2,if_neg (by omega)]
theorem zdT (P M:Nat) (A:Option Addr) (k c:Nat) (m:Nat->Nat) (a:Nat) (V U:Option Addr) (n d n' d':Nat) (v u:Nat->Nat) (w:World) (hf:FldOk P M) (hm:ModOk w P M A m) (hkM:M=1∨k=M) (ha:a<P ^ M)
  (h:IntsR w w.heap.size V n (fun i=>(v i:Nat))) (hv:∀ i,i<n->v i<P ^ M) (h2:IntsR w w.heap.size U n' (fun i=>(u i:Nat))) (hu:∀ i,i<n->u i<P ^ M) (hnn:n<=n') (hn:n<=1048576) :
  Calls Tryz.prog 89 #[.agg #[.int .i64 (P:Nat),.int .i64 (M:Nat),.slice A k c],.slice V n d,.int .i64 (a:Nat),.slice U n' d'] w (RowPost n (fun i=>.int .i64 (atF P M m a v u i:Nat)) w):=by
 obtain ⟨w0,B,hB,rf⟩:=zao w (.int .i64 (P:Nat)) (.int .i64 (M:Nat)) (.slice A k c) 24
 have F:=fun W=>zaf (P:=Tryz.prog) 22 3 _ 8 Tryz.underlying22 Tryz.infoInt rfl (n:Int) (by omega) (by omega) (by omega) W
 simp only [Int.toNat_natCast] at F
 go_enter Tryz.func89, Tryz.ntmps89
 go_upto_region 1 with fail
 rw [<-B];clear B
 go_upto_region 2 with fail
 have kb:=(Below.refl w0.heap.size w0).alloc (Nat.le_refl _) (Obj.cells (madeCells #[Value.int .i64 0] n) 3)
 have ra:=World.rowIs_made w0 (.int .i64 0) n 3
 have G:=rf.lt
 have R:=hB.size
 obtain ⟨w1,z⟩:=exx (w0.alloc (Obj.cells (madeCells #[Value.int .i64 0] n) 3))
 obtain ⟨g,hg⟩:=exx w0.heap.size
 rw [<-z] at kb ra ⊢;rw [<-hg] at ra G R ⊢;replace rf:=zaa rf kb;replace hB:=onS hB kb
 have b:w.heap.size≠g:=by omega
 have l:w.heap.size<=g:=by omega
 clear kb z hg F G
 have Q:=zan ha
 have HV:=hid h
 have a2:=hid hv
 have HU:=hid h2
 have a3:=hid hu
 clear h hv h2 hu
 go_wp2
 go_loopg [10] n (fun gg iv wx=>∃ i:Nat,iv=.int .i64 (i:Nat)/\i<=n/\n<=i+gg/\wx.rowIs g 3 n (fun t=>.int .i64 ((if t<i then atF P M m a v u t else 0:Nat):Int))/\wx.rowIs w.heap.size 24 3 (fldCell (.int .i64 (P:Nat)) (.int .i64 (M:Nat)) (.slice A k c))/\Below w.heap.size w wx)
 case atStart=>exact ⟨0,rfl,by omega,by omega,ra.congr fun t _=>by rw [if_neg (by omega)]; rfl,rf,hB⟩
 clear ra rf hB
 obtain ⟨i,rfl,hi,a6,ra,rf,hB⟩:=hrel
 have a7:(0:Int)<=(i:Int):=by omega
 by_cases hlt:i<n
 rotate_left
 ·have j:¬ (i:Int)<(n:Int):=by omega
  obtain rfl:i=n:=by omega
  have hr:=ra.congr (g:=fun t=>.int .i64 (atF P M m a v u t:Nat)) fun t ht=>by rw [if_pos ht]
  clear ra
  go_wp2
  go_ret
  exact ⟨g,rfl,l,hr,hB⟩
 have j:(i:Int)<(n:Int):=by omega
 have L:(i:Int)<(n':Int):=by omega
 obtain ⟨vb,vo,rfl,I,x0⟩:=HV.out.at hlt
 obtain ⟨ub,uo,rfl,J,u0⟩:=HU.out.at (i:=i) (by omega)
 have C:vb≠g:=by omega
 have D:ub≠g:=by omega
 replace x0:=(hB.cell (p:=⟨vb,vo+i,none⟩) I).trans x0;replace u0:=(hB.cell (p:=⟨ub,uo+i,none⟩) J).trans u0
 obtain ⟨x,hx⟩:=exx (v i)
 have O:inV (P ^ M) (x:Nat)=x:=by rw [hx]; exact zan (a2.out i hlt)
 rw [<-hx] at x0
 have HX:=hid hx
 obtain ⟨y,hy⟩:=exx (u i)
 have N:inV (P ^ M) (y:Nat)=y:=by rw [hy]; exact zan (a3.out i hlt)
 rw [<-hy] at u0
 have HY:=hid hy
 clear hx hy
 have y9:=ra.cell hlt
 have z9:=ra.frozen i
 go_upto_region 6 with fail
 have ra2:=ra.set i (.int .i64 (x:Nat))
 have rf2:=rf.setOther (a:=⟨g,i,none⟩) (by simpa using b) (.int .i64 (x:Nat))
 have o:=hB.setCell (p:=⟨g,i,none⟩) l (.int .i64 (x:Nat))
 have x2:=zab (p:=⟨g,i,none⟩) (u:=.int .i64 (x:Nat)) x0 C
 have u2:=zab (p:=⟨g,i,none⟩) (u:=.int .i64 (x:Nat)) u0 D
 obtain ⟨w2,q⟩:=exx (wr.setCell ⟨g,i,none⟩ (.int .i64 (x:Nat)))
 rw [<-q] at ra2 rf2 o x2 u2 ⊢;clear q ra rf hB x0 u0 y9 z9
 have ra:=ra2
 have rf:=rf2
 have hB:=o
 have x0:=x2
 have u0:=u2
 clear ra2 rf2 o x2 u2
 by_cases hy0:y=0
 ·have hc:((y:Int) != 0)=false:=by simp [hy0]
  have a1:=hid hy0
  have RA:=hid ra
  clear hy0 ra
  go_wp2
  go_roundg (gk - 1)
  case measure=>omega
  refine ⟨i+1,by go_num,by omega,by omega,RA.out.congr fun t ht=>?_,rf,hB⟩
  by_cases e:t=i
  ·subst e; rw [if_pos rfl,if_pos (by omega)]; show _=Value.int .i64 ((atF P M m a v u t:Nat):Int); unfold atF; rw [if_pos (by rw [<-HY.out]; exact a1.out),HX.out]
  rw [if_neg e]
  by_cases e2:t<i
  ·rw [if_pos e2,if_pos (by omega)]
  ·rw [if_neg e2,if_neg (by omega)]
 have hc:((y:Int) != 0)=true:=by simp; omega
 have q0:=qc0 rf
 have q1:=qc1 rf
 have q2:=qc2 rf
 go_wp2
 refine wp_region_held_drew (S:=fun w'=>w'.cell? ⟨w.heap.size,0,none⟩=some (.int .i64 (P:Nat))/\w'.cell? ⟨w.heap.size,1,none⟩=some (.int .i64 (M:Nat))/\w'.cell? ⟨w.heap.size,2,none⟩=some (.slice A k c)/\w'.cell? ⟨vb,vo+i,none⟩=some (.int .i64 (x:Nat))/\w'.cell? ⟨ub,uo+i,none⟩=some (.int .i64 (y:Nat))) (by kernel_rfl) ⟨cellS (Below.refl _ _).drew q0,cellS (Below.refl _ _).drew q1,cellS (Below.refl _ _).drew q2,cellS (Below.refl _ _).drew x0,cellS (Below.refl _ _).drew u0⟩ (fun hHeld=>?_)
 obtain ⟨w3,hw,kb⟩:=dwx w2
 rw [<-hw] at hHeld ⊢;clear hw;replace ra:=zaa ra kb;replace rf:=zaa rf kb;replace hB:=onS hB kb;replace q0:=cellS kb q0;replace q1:=cellS kb q1;replace q2:=cellS kb q2;replace x0:=cellS kb x0;replace u0:=cellS kb u0;clear kb
 refine tkq 0 (h:=tkq 1 (h:=tkq 2 (h:=tkq 3 (h:=tkq 4 (h:=tkq 5 (h:=tkq 6 (h:=tkq 7 (h:=tkq 8 (h:=tkq 9 (h:=tkq 10 (h:=tkq 11 (h:=tkq 12 (h:=?_)))))))))))))
 refine rdq 13 (h:=fun K hK=>?_)
 go_simp
 go_wp2_with fail
 refine (zdG P M A k c m (a:Nat) (y:Nat) w3 hf (zaF hm hB) hkM).mono ?_
 rintro e w4 ⟨rfl,kb⟩
 replace ra:=zaa ra kb;replace rf:=zaa rf kb;replace hB:=onS hB kb;replace q0:=cellS kb q0;replace q1:=cellS kb q1;replace q2:=cellS kb q2;replace x0:=cellS kb x0;replace u0:=cellS kb u0;clear kb;rw [Q,N]
 obtain ⟨r,hr⟩:=exx (mulF P M m a y)
 have E:inV (P ^ M) (r:Nat)=r:=by rw [hr]; exact zan (za1 (by have:=hf.1; omega) _ _)
 rw [<-hr]
 have HR:=hid hr
 clear hr
 refine bkq hK ⟨q0,q1,q2,x0,u0⟩ (h:=fun hHeld=>?_)
 clear hK K
 refine rdq 14 (h:=fun K hK=>?_)
 go_simp
 go_wp2_with fail
 refine (zhZ P M A k c (x:Nat) (r:Nat) w4 hf).mono ?_
 rintro e w5 ⟨rfl,kb⟩
 replace ra:=zaa ra kb;replace rf:=zaa rf kb;replace hB:=onS hB kb;replace q0:=cellS kb q0;replace q1:=cellS kb q1;replace q2:=cellS kb q2;replace x0:=cellS kb x0;replace u0:=cellS kb u0;clear kb;rw [O,E]
 obtain ⟨s,hs⟩:=exx (addF P M x r)
 rw [<-hs]
 have a4:=hid hs
 clear hs E
 refine bkq hK ⟨q0,q1,q2,x0,u0⟩ (h:=fun hHeld=>?_)
 clear hK K
 refine tkq 15 (h:=?_)
 refine rdq 16 (h:=fun K hK=>?_)
 have y0:=ra.cell hlt
 have z0:=ra.frozen i
 have ra9:=ra.set i (.int .i64 (s:Nat))
 have rf9:=rf.setOther (a:=⟨g,i,none⟩) (by simpa using b) (.int .i64 (s:Nat))
 have H:=hB.setCell (p:=⟨g,i,none⟩) l (.int .i64 (s:Nat))
 have q09:=zab (p:=⟨g,i,none⟩) (u:=.int .i64 (s:Nat)) q0 b
 have q19:=zab (p:=⟨g,i,none⟩) (u:=.int .i64 (s:Nat)) q1 b
 have q29:=zab (p:=⟨g,i,none⟩) (u:=.int .i64 (s:Nat)) q2 b
 have x09:=zab (p:=⟨g,i,none⟩) (u:=.int .i64 (s:Nat)) x0 C
 have u09:=zab (p:=⟨g,i,none⟩) (u:=.int .i64 (s:Nat)) u0 D
 have RA:=hid ra9
 have RF:=hid rf9
 have a5:=hid H
 have a0:=hid q09
 have Z:=hid q19
 have Y:=hid q29
 have T:=hid x09
 have X:=hid u09
 clear ra rf hB ra9 rf9 H q0 q1 q2 x0 u0 q09 q19 q29 x09 u09
 go_simp
 clear y0 z0
 refine bkq hK ⟨a0.out,Z.out,Y.out,T.out,X.out⟩ (h:=fun hHeld=>?_)
 clear hK K
 refine wpAnyH_done (by kernel_rfl) ?_ _
 clear hHeld
 go_wp2
 go_roundg (gk - 1)
 case measure=>omega
 refine ⟨i+1,by go_num,by omega,by omega,RA.out.congr fun t ht=>?_,RF.out,a5.out⟩
 by_cases e:t=i
 ·subst e; rw [if_pos rfl,if_pos (by omega)]; show _=Value.int .i64 ((atF P M m a v u t:Nat):Int); unfold atF; rw [if_neg (by rw [<-HY.out]; omega),a4.out,HR.out,HX.out,HY.out]
 rw [if_neg e]
 by_cases e2:t<i
 ·rw [if_neg e,if_pos e2,if_pos (by omega)]
 ·rw [if_neg e,if_neg e2,if_neg (by omega)]
theorem Tryz.infoInts:(Tryz.prog.info? 22).map (fun i=>(i.zero,i.size,i.bytes))=some (some (.slice none 0 0),1,24):=by kernel_rfl
def listCell (l:List Int) (k _j:Nat):Value:=.int .i64 (l.getD k 0)
def OwnL (w:World) (base:Nat) (R:Value) (l:List Int):Prop:=Own w base 3 1 R l.length (listCell l)
def TabL (w:World) (base:Nat) (v:Value) (L:List (List Int)):Prop :=
 ∃ R:Nat->Value,Own w base 22 1 v L.length (fun i _=>R i)/\∀ i,i<L.length->OwnL w base (R i) (L.getD i [])
theorem OwnL.on {w w':World} {base:Nat} {R:Value} {l:List Int} (h:OwnL w base R l) (hb:Below w.heap.size w w'):OwnL w' base R l:=Own.on h hb
theorem TabL.on {w w':World} {base:Nat} {v:Value} {L:List (List Int)} (h:TabL w base v L) (hb:Below w.heap.size w w'):TabL w' base v L:=by
 obtain ⟨R,h1,h2⟩:=h
 exact ⟨R,h1.on hb,fun i hi=>(h2 i hi).on hb⟩
theorem TabL.shape {w:World} {base:Nat} {v:Value} {L:List (List Int)} (h:TabL w base v L):∃ A c,v=.slice A L.length c:=h.choose_spec.1.shape
theorem Own.capL {w:World} {base e s n c:Nat} {A:Option Addr} {f:Nat->Nat->Value} (h:Own w base e s (.slice A n c) n f):n<=c/\c<=maxLen:=by
 rcases h with ⟨h,_⟩ | ⟨g,o,cap,cur,h1,_,_,h4,h5,_⟩
 ·injection h with h1 h2 h3
  subst h2 h3
  exact ⟨Nat.le_refl _,by unfold maxLen; omega⟩
 injection h1 with h1 h2 h3
 subst h3
 exact ⟨h4,h5⟩
theorem za4 {w:World} {base e e' s s' n n':Nat} {v v':Value} {f f':Nat->Nat->Value} (h:Own w base e s v n f) (h':Own w base e' s' v' n' f') (hne:e≠e'):v'.ownBlock=none∨v'.ownBlock≠v.ownBlock:=by
 rcases h' with ⟨rfl,_⟩ | ⟨g',o',cap',cur',rfl,_,a,_⟩
 ·exact .inl rfl
 refine .inr fun e1=>?_
 rcases h with ⟨rfl,_⟩ | ⟨g,o,cap,cur,rfl,_,hg,_⟩
 ·simp [Value.ownBlock] at e1
 simp [Value.ownBlock] at e1
 subst e1
 rw [hg] at a
 injection a with h1
 injection h1 with _ h1
 exact hne h1
theorem TabL.rows {w:World} {base:Nat} {v:Value} {L:List (List Int)} (h:TabL w base v L) (hi:∀ l,l ∈ L->∀ x,x ∈ l -> -9223372036854775808<=x/\x<=9223372036854775807) :
  ∃ O c,v=.slice O L.length c/\L.length<=c/\c<=maxLen/\IntRows w O L.length (fun i=>(L.getD i []).length) (fun i k=>(L.getD i []).getD k 0):=by
 obtain ⟨R,h1,h2⟩:=h
 obtain ⟨O,c,rfl⟩:=h1.shape
 have hc:=h1.capL
 refine ⟨O,c,rfl,hc.1,hc.2,fun i hi'=>?_⟩
 obtain ⟨b,off,e,hb,a⟩:=h1.rd rfl i hi'
 have d:=a 0 (by omega)
 rw [Nat.mul_one,Nat.add_zero] at d
 have h3:=h2 i hi'
 obtain ⟨A,cc,hR⟩:=h3.shape
 unfold OwnL at h3
 simp only [hR] at h3 d
 refine ⟨b,off,A,cc,e,hb,d,h3.capL.1,h3.capL.2,h3.rd rfl,fun j hj=>?_⟩
 refine hi (L.getD i []) ?_ _ ?_
 ·rw [List.getD_eq_getElem?_getD,List.getElem?_eq_getElem hi']; exact List.getElem_mem hi'
 ·show ((L.getD i []).getD j 0) ∈ _
  rw [List.getD_eq_getElem?_getD (l:=L.getD i []),List.getElem?_eq_getElem hj]; exact List.getElem_mem hj
theorem TabL.put {w w':World} {base:Nat} {v v':Value} {L:List (List Int)} {R:Nat->Value} {r:Value} {l:List Int} (h2:∀ i,i<L.length->OwnL w base (R i) (L.getD i [])) (hr:OwnL w base r l) (hv:Own w base 22 1 v L.length (fun i _=>R i))
  (hown:Own w' base 22 1 v' (L.length+1) (fun i _=>if i=L.length then r else R i)) (hg:w.grownBy w' v.ownBlock):TabL w' base v' (L ++ [l]):=by
 have ne:(22 : Nat) ≠ 3 := by decide
 refine ⟨fun i=>if i=L.length then r else R i,by rw [List.length_append]; exact hown,fun i hi=>?_⟩
 show OwnL w' base (if i=L.length then r else R i) _
 by_cases e:i=L.length
 ·subst e
  rw [if_pos rfl]
  have:(L ++ [l]).getD L.length []=l:=by simp [List.getD_eq_getElem?_getD]
  rw [this]
  exact hr.kept hg (za4 hv hr ne)
 have a:i<L.length:=by rw [List.length_append] at hi; simp at hi; omega
 rw [if_neg e]
 have:(L ++ [l]).getD i []=L.getD i []:=by rw [List.getD_eq_getElem?_getD,List.getD_eq_getElem?_getD,List.getElem?_append_left a]
 rw [this]
 exact (h2 i a).kept hg (za4 hv (h2 i a) ne)
theorem zcq {w:World} {ops:Array Oper} {rest:List Oper} {o:Oper} {a:Act} {Q:Exit->Act->World->Prop} (hgd:o.guard=none) (sl x:Operand)
  (ho:o.op=.call { callee:=.builtin .append,args:=#[sl,x],argTypes:=#[25, 25] })
  {base:Nat} {v:Value} {L:List (List Int)} (h:TabL w base v L) (hv:a.eval sl=v) {ad:Addr} {c:Nat} {r:Value} {l:List Int} (hx:a.eval x=.slice (some ad) 1 c)
  (hcell:w.cell? (ad.add 0)=some r) (h1:r.oneCell'=true) (hrow:OwnL w base r l) (hbase:base<=w.heap.size) (hN:L.length<=1048576)
  (K:∀ v' w',TabL w' base v' (L ++ [l])->w.grownBy w' v.ownBlock->wpList Tryz.prog ops Q rest (a.put o.dst v') w'):wpList Tryz.prog ops Q (o :: rest) a w:=by
 obtain ⟨R,hA,hB⟩:=h
 obtain ⟨i0,qi0,qz0,qz1,qz2⟩:=info_parts Tryz.infoInts
 have b:Own w base 22 1 v L.length (fun i _=>if i=L.length then r else R i):=hA.congr fun i hi _ _=>by rw [if_neg (by omega)]
 refine zah w hgd sl x _ ho base 22 i0 _ 1 24 Tryz.underlying25 qi0 qz0 qz1 qz2 rfl (by omega) v L.length _ hv b ad c hx (fun j hj=>by
   obtain rfl:j=0:=by omega
   rw [if_pos rfl]
   exact hcell) (fun _ _=>by rw [if_pos rfl]; exact h1) (by unfold maxLen; omega) (by omega) hbase ?_
 intro v' w3 hown3 hg3 _
 exact K v' w3 (TabL.put hB hrow hA hown3 hg3) hg3
theorem zaA {w:World} {o:Obj} {k:Nat} (h:k=w.heap.size):(w.alloc o).heap[k]?=some o:=by subst h; exact heap_alloc_new w o
def Cloned (e:TypeId) (s n:Nat) (f:Nat->Nat->Value) (w:World) (E:Ending) (w':World):Prop :=
 ∃ A c,E=.returned (.slice A n c)/\Own w' w.heap.size e s (.slice A n c) n f/\Below w.heap.size w w'
theorem zaw (A:Option Addr) (nn c:Nat) (f:Nat->Int) (w:World) (h:IntsR w w.heap.size A nn f) (hc:nn<=c) (hn:nn<=1048576) :
  Calls Tryz.prog 140 #[.slice A nn c] w (Cloned 3 1 nn (fun i _=>.int .i64 (f i)) w):=by
 obtain ⟨i0,qi0,qz0,qz1,qz2⟩:=info_parts Tryz.infoInt
 have hq:=fun (W:World) (a:Option Addr)=>Lib.run_eql_slice_nil (P:=Tryz.prog) W 22 3 a nn c 0 0 Tryz.underlying22
 cases A with
 | none =>
  have h0:nn=0:=by
   rcases Nat.eq_zero_or_pos nn with h0 | h0
   ·exact h0
   ·obtain ⟨b,o,e,_⟩:=h.at h0; cases e
  have H0:=hid h0
  clear h0
  go_enter Tryz.func140, Tryz.ntmps140
  go_wp2
  go_ret
  exact ⟨none,0,by rw [H0.out]; rfl,by rw [H0.out]; exact Own.nil _ _ _ _ _,Below.refl _ _⟩
 | some a =>
  obtain ⟨ab,ao,ap⟩:=a
  rcases Nat.eq_zero_or_pos nn with h0 | h0
  ·have H0:=hid h0
   obtain ⟨n,d⟩:∃ n,n=nn:=⟨_,rfl⟩
   have HN:=hid d
   rw [<-d] at h0 hc hn hq ⊢;clear d h
   subst h0
   go_enter Tryz.func140, Tryz.ntmps140
   go_wp2_with (first | (at_builtin; (refine zaE rfl (.tmp 5) (.tmp 6) _ rfl 3 i0 Tryz.underlying22 qi0 w.heap.size 0 rfl (some ⟨ab,ao,ap⟩) c rfl ?_)))
   go_ret
   exact ⟨_,_,rfl,.inr ⟨_,0,0,#[],rfl,Nat.le_refl _,zaA rfl,Nat.le_refl _,by unfold maxLen; omega,by simp,fun i hi=>absurd hi (by omega)⟩,(Below.refl _ _).alloc (Nat.le_refl _) _⟩
  ·have n3:Hid (nn<=maxLen):=by show _<=_; unfold maxLen; omega
   have n4:Hid (nn*8<=140737488355328):=by show _<=_; omega
   have NR:Hid (∀ o1,Rd (w.alloc o1) (w.alloc o1).heap.size (some ⟨ab,ao,ap⟩) nn 1 (fun i _=>.int .i64 (f i))):=fun o1=>(Rd.alloc h (Nat.le_refl _) o1).mono (by simp)
   go_enter Tryz.func140, Tryz.ntmps140
   go_wp2_with (first | (at_builtin; (refine zal rfl (.tmp 5) (.tmp 6) _ rfl 3 i0 _ 1 8 Tryz.underlying22 qi0 qz0 qz1 qz2 rfl (by omega) _ rfl (some ⟨ab,ao,ap⟩) nn c (fun i _=>.int .i64 (f i)) rfl (NR.out _) h0 (fun _ _ _ _=>rfl) n3.out n4.out ?_); intro cap cur k1 k2 k3 k4))
   go_ret
   have hO:=Own.new (w:=w.alloc (Obj.cells #[] 3)) (base:=w.heap.size) (e := 3) (by simp) k1 k2 k3 k4
   simp only [World.size_alloc] at hO
   exact ⟨_,_,rfl,hO.drew,(((Below.refl _ _).alloc (Nat.le_refl _) _).alloc (by simp) _).drew⟩
def MTab (w:World) (base:Nat) (v:Value) (n k:Nat) (W:Nat->Nat->Nat):Prop :=
 ∃ R:Nat->Value,Own w base 22 1 v n (fun i _=>R i)/\∀ i,i<n->Own w base 3 1 (R i) k (fun j _=>.int .i64 (W i j:Nat))
section
variable {w w':World} {base n k:Nat} {v:Value} {W W':Nat->Nat->Nat}
theorem MTab.nil (w:World) (base k:Nat) (W:Nat->Nat->Nat):MTab w base (.slice none 0 0) 0 k W:=⟨fun _=>undef,Own.nil _ _ _ _ _,fun i hi=>absurd hi (by omega)⟩
theorem MTab.on (h:MTab w base v n k W) (hb:Below w.heap.size w w'):MTab w' base v n k W:=by
 obtain ⟨R,h1,h2⟩:=h
 exact ⟨R,h1.on hb,fun i hi=>(h2 i hi).on hb⟩
theorem MTab.mono {b':Nat} (h:MTab w base v n k W) (hb:b'<=base):MTab w b' v n k W:=by
 obtain ⟨R,h1,h2⟩:=h
 exact ⟨R,h1.mono hb,fun i hi=>(h2 i hi).mono hb⟩
theorem MTab.shape (h:MTab w base v n k W):∃ A c,v=.slice A n c:=h.choose_spec.1.shape
theorem MTab.congr (h:MTab w base v n k W) (e:∀ i,i<n->∀ j,j<k->W i j=W' i j):MTab w base v n k W':=by
 obtain ⟨R,h1,h2⟩:=h
 exact ⟨R,h1,fun i hi=>(h2 i hi).congr fun j hj _ _=>by rw [e i hi j hj]⟩
theorem MTab.row {A:Option Addr} {N c i:Nat} (h:MTab w base (.slice A N c) n k W) (hi:i<n):∃ b o RA rc,A=some ⟨b,o,none⟩/\base<=b/\b<w.heap.size/\w.cell? ⟨b,o+i,none⟩=some (.slice RA k rc)/\w.frozen? ⟨b,o+i,none⟩=false/\Own w base 3 1 (.slice RA k rc) k (fun j _=>.int .i64 (W i j:Nat)):=by
 obtain ⟨R,h1,h2⟩:=h
 obtain ⟨A1,c1,e1⟩:=h1.shape
 injection e1 with e1 e2 e3
 subst e1 e2 e3
 obtain ⟨g,o,cap,e,d,a,_,_,hc⟩:=h1.form (by omega)
 injection e with e e3 e4
 subst e e4
 have g1:=hc i hi 0 (by omega)
 rw [Nat.mul_one,Nat.add_zero] at g1
 have hr:=h2 i hi
 obtain ⟨RA,rc,hR⟩:=hr.shape
 rw [hR] at hr
 exact ⟨g,o,RA,rc,rfl,d,a,by rw [g1,<-hR],h1.frozen _,hr⟩
theorem MTab.set {b o c i:Nat} {r:Value} {x:Nat->Nat} (h:MTab w base (.slice (some ⟨b,o,none⟩) n c) n k W) (hi:i<n) (hr:Own w base 3 1 r k (fun j _=>.int .i64 (x j:Nat))) :
  MTab (w.setCell ⟨b,o+i,none⟩ r) base (.slice (some ⟨b,o,none⟩) n c) n k (fun u=>if u=i then x else W u):=by
 obtain ⟨R,h1,h2⟩:=h
 have hs:=h1.set hi (by omega:0<1) r
 rw [Nat.mul_one,Nat.add_zero] at hs
 have a:∀ v f,Own w base 3 1 v k f->v.ownBlock≠some b:=fun v f hv e=>by
  rcases za4 h1 hv (by decide) with h3 | h3
  ·rw [h3] at e; cases e
  ·exact h3 (by rw [e]; rfl)
 refine ⟨fun u=>if u=i then r else R u,hs.congr fun u _ q hq=>?_,fun u hu=>?_⟩
 ·show (if u=i/\q=0 then r else R u)=if u=i then r else R u
  by_cases e:u=i
  ·rw [if_pos ⟨e,by omega⟩,if_pos e]
  ·rw [if_neg (fun h=>e h.1),if_neg e]
 show Own _ base _ 1 (if u=i then r else R u) k _
 by_cases e:u=i
 ·rw [if_pos e]
  simp only [if_pos e]
  exact hr.setCell (a _ _ hr) r
 rw [if_neg e]
 simp only [if_neg e]
 exact (h2 u hu).setCell (a _ _ (h2 u hu)) r
theorem zaB {ops:Array Oper} {rest:List Oper} {o:Oper} {a:Act} {Q:Exit->Act->World->Prop} (hgd:o.guard=none) (sl x:Operand)
  (ho:o.op=.call { callee:=.builtin .append,args:=#[sl,x],argTypes:=#[25, 25] })
  (h:MTab w base v n k W) (hv:a.eval sl=v) {ad:Addr} {c:Nat} {r:Value} {y:Nat->Nat} (hx:a.eval x=.slice (some ad) 1 c)
  (hcell:w.cell? (ad.add 0)=some r) (h1:r.oneCell'=true) (hrow:Own w base 3 1 r k (fun j _=>.int .i64 (y j:Nat))) (hbase:base<=w.heap.size) (hN:n<=1048576)
  (K:∀ v' w',MTab w' base v' (n+1) k (fun u=>if u=n then y else W u)->w.grownBy w' v.ownBlock->(∀ q,v.ownBlock=some q->base<=q)->wpList Tryz.prog ops Q rest (a.put o.dst v') w'):wpList Tryz.prog ops Q (o :: rest) a w:=by
 obtain ⟨R,hA,hB⟩:=h
 obtain ⟨i0,qi0,qz0,qz1,qz2⟩:=info_parts Tryz.infoInts
 have b:Own w base 22 1 v n (fun i _=>if i=n then r else R i):=hA.congr fun i hi _ _=>by rw [if_neg (by omega)]
 refine zah w hgd sl x _ ho base 22 i0 _ 1 24 Tryz.underlying25 qi0 qz0 qz1 qz2 rfl (by omega) v n _ hv b ad c hx (fun j hj=>by
   obtain rfl:j=0:=by omega
   rw [if_pos rfl]
   exact hcell) (fun _ _=>by rw [if_pos rfl]; exact h1) (by unfold maxLen; omega) (by omega) hbase ?_
 intro v' w3 hown3 hg3 _
 have ne:(22 : Nat) ≠ 3 := by decide
 refine K v' w3 ⟨fun i=>if i=n then r else R i,hown3,fun i hi=>?_⟩ hg3 (fun q e=>(hA.lt q e).1)
 show Own w3 base _ 1 (if i=n then r else R i) k _
 by_cases e:i=n
 ·rw [if_pos e]
  simp only [if_pos e]
  exact hrow.kept hg3 (za4 hA hrow ne)
 rw [if_neg e]
 simp only [if_neg e]
 exact (hB i (by omega)).kept hg3 (za4 hA (hB i (by omega)) ne)
end
theorem tbox2 {w:World} {v:Value} {t:TypeId}:(w.alloc (Obj.cells #[v] t)).cell? ((⟨w.heap.size,0,none⟩:Addr).add 0)=some v:=by
 show (w.alloc (Obj.cells #[v] t)).cell? ⟨w.heap.size,0,none⟩=some v
 simp
def MRows (w:World) (T:Option Addr) (n k:Nat) (W:Nat->Nat->Nat):Prop:=IntRows w T n (fun _=>k) (fun i j=>(W i j:Nat))
def MPost (n k:Nat) (W:Nat->Nat->Nat) (w:World) (e:Ending) (w':World):Prop:=∃ v,e=.returned v/\MTab w' w.heap.size v n k W/\Below w.heap.size w w'
theorem zgS (T:Option Addr) (n k c:Nat) (W:Nat->Nat->Nat) (w:World) (h:MRows w T n k W) (hk:0<k) (hk2:k<=1048576) (hn:n<=1048576) :
  Calls Tryz.prog 224 #[.slice T n c] w (MPost n k W w):=by
 have HR:=hid h
 have H0:=hid (MTab.nil w w.heap.size k W)
 obtain ⟨i0,qi0,qz0,qz1,qz2⟩:=info_parts Tryz.infoInt
 have n3:Hid (k<=maxLen):=by show _<=_; unfold maxLen; omega
 have n4:Hid (k*8<=140737488355328):=by show _<=_; omega
 clear h
 go_enter Tryz.func224, Tryz.ntmps224
 go_wp2
 obtain ⟨nv,y⟩:∃ x:Value,x=.slice none 0 0:=⟨_,rfl⟩
 rw [<-y] at H0 ⊢;clear y
 go_loopg [3,4] n (fun gg mv iv wx=>∃ i:Nat,iv=.int .i64 (i:Nat)/\i<=n/\n<=i+gg/\Hid (MTab wx w.heap.size mv i k W)/\Below w.heap.size w wx)
 case atStart=>exact ⟨0,rfl,by omega,by omega,H0,Below.refl _ _⟩
 clear H0
 obtain ⟨i,rfl,hi,K,HM,hB⟩:=hrel
 have L:(0:Int)<=(i:Int):=by omega
 by_cases hlt:i<n
 rotate_left
 ·have m:¬ (i:Int)<(n:Int):=by omega
  obtain rfl:i=n:=by omega
  go_wp2
  go_ret
  exact ⟨_,rfl,HM.out,hB⟩
 have m:(i:Int)<(n:Int):=by omega
 obtain ⟨b,o,RA,rc,hT,hb,x0,_,_,a,_⟩:=HR.out i hlt
 subst hT
 have q:=aly wr (Obj.cells #[] 3)
 have z:=onS hB q
 have x1:=(z.cell (p:=⟨b,o+i,none⟩) hb).trans x0
 have v:Rd (wr.alloc (Obj.cells #[] 3)) (wr.alloc (Obj.cells #[] 3)).heap.size RA k 1 (fun j _=>.int .i64 (W i j:Nat)):=a.on z
 have D:=hid v
 have x2:=(hB.cell (p:=⟨b,o+i,none⟩) hb).trans x0
 clear v a x0 q
 have HL:Hid (i<=1048576):=by show _<=_; omega
 have J:=hB.size
 go_upto_region 4 with (first | (at_builtin; (refine zal rfl (.tmp 12) (.tmp 16) _ rfl 3 i0 _ 1 8 Tryz.underlying22 qi0 qz0 qz1 qz2 rfl (by omega) _ rfl RA k rc (fun j _=>.int .i64 (W i j:Nat)) rfl D.out hk (fun _ _ _ _=>rfl) n3.out n4.out ?_); intro cap cur k1 k2 k3 k4; obtain ⟨w2,g⟩:∃ W',W'=(wr.alloc (Obj.cells #[] 3)).drew.alloc (Obj.cells cur 3):=⟨_,rfl⟩; rw [<-g]; have hO:=Own.new (w:=(wr.alloc (Obj.cells #[] 3)).drew) (base:=w.heap.size) (e := 3) (s:=1) (f:=fun j _=>.int .i64 (W i j:Nat)) (by simp; omega) k1 k2 k3 k4; have r:(wr.alloc (Obj.cells #[] 3)).drew.heap.size=wr.heap.size+1:=(by show (wr.alloc (Obj.cells #[] 3)).heap.size=_; simp); rw [<-g,r] at hO; have l:Below wr.heap.size wr w2:=(by rw [g]; exact (((Below.refl wr.heap.size wr).alloc (Nat.le_refl _) _).drew).alloc (by simp) _); have d:Below w2.heap.size w2 (w2.alloc (Obj.cells #[.slice (some ⟨wr.heap.size+1,0,none⟩) k cap] 22)):=(Below.refl _ _).alloc (Nat.le_refl _) _; have E:=hid (hO.on d); have G:=hid ((HM.out.on l).on d); have C:=hid (onS (onS hB l) d); have B:=hid C.out.size; have H:Hid ((w2.alloc (Obj.cells #[.slice (some ⟨wr.heap.size+1,0,none⟩) k cap] 22)).cell? ((⟨w2.heap.size,0,none⟩:Addr).add 0)=some (.slice (some ⟨wr.heap.size+1,0,none⟩) k cap)):=tbox2 ; clear hO l d g r) | (at_builtin; (refine zaB rfl (.tmp 11) (.tmp 18) rfl G.out rfl (ad:=⟨w2.heap.size,0,none⟩) (c:=1) rfl H.out rfl E.out B.out HL.out ?_); intro v9 w9 o1 o2 o3))
 have F:=hid (o1.congr (W':=W) fun u hu j _=>by
  by_cases e:u=i
  ·subst e; rw [if_pos rfl]
  ·rw [if_neg e])
 have I:=hid (C.out.grown o2 B.out o3)
 clear o1 o2 o3
 go_wp2
 go_roundg (gk - 1)
 case measure=>omega
 case rel=>exact ⟨i+1,by go_num,by omega,by omega,F,I.out⟩
theorem zaI {w:World} {b n base:Nat} {t:TypeId} {F:Nat->Value} (h:w.rowIs b t n F) (hb:base<=b) (hn:n<=maxLen):Own w base t 1 (.slice (some ⟨b,0,none⟩) n n) n (fun i _=>F i):=by
 obtain ⟨cs,h1,h2,h3⟩:=h
 refine .inr ⟨b,0,n,cs,rfl,hb,h1,Nat.le_refl _,hn,by omega,fun i hi j hj=>?_⟩
 obtain rfl:j=0:=by omega
 have h4:=h3 i hi
 rw [show 0+i*1+0=i by omega]
 rw [h4]
def MTabX (w:World) (base:Nat) (v:Value) (n k:Nat) (W:Nat->Nat->Nat) (z:Value):Prop :=
 ∃ R:Nat->Value,Own w base 22 1 v n (fun i _=>R i)/\∀ i,i<n->Own w base 3 1 (R i) k (fun j _=>.int .i64 (W i j:Nat))/\((R i).ownBlock=none∨(R i).ownBlock≠z.ownBlock)
section
variable {w w':World} {base n k:Nat} {v z:Value} {W W':Nat->Nat->Nat}
theorem MTab.x (h:MTab w base v n k W) (hz:z.ownBlock=none):MTabX w base v n k W z:=by
 obtain ⟨R,h1,h2⟩:=h
 refine ⟨R,h1,fun i hi=>⟨h2 i hi,?_⟩⟩
 rw [hz]
 cases e:(R i).ownBlock with
 | none=>exact .inl rfl
 | some q=>exact .inr (by simp)
theorem MTabX.tab (h:MTabX w base v n k W z):MTab w base v n k W:=by
 obtain ⟨R,h1,h2⟩:=h
 exact ⟨R,h1,fun i hi=>(h2 i hi).1⟩
theorem MTabX.on (h:MTabX w base v n k W z) (hb:Below w.heap.size w w'):MTabX w' base v n k W z:=by
 obtain ⟨R,h1,h2⟩:=h
 exact ⟨R,h1.on hb,fun i hi=>⟨(h2 i hi).1.on hb,(h2 i hi).2⟩⟩
theorem MTabX.mono {b':Nat} (h:MTabX w base v n k W z) (hb:b'<=base):MTabX w b' v n k W z:=by
 obtain ⟨R,h1,h2⟩:=h
 exact ⟨R,h1.mono hb,fun i hi=>⟨(h2 i hi).1.mono hb,(h2 i hi).2⟩⟩
theorem MTabX.congr (h:MTabX w base v n k W z) (e:∀ i,i<n->∀ j,j<k->W i j=W' i j):MTabX w base v n k W' z:=by
 obtain ⟨R,h1,h2⟩:=h
 exact ⟨R,h1,fun i hi=>⟨(h2 i hi).1.congr fun j hj _ _=>by rw [e i hi j hj],(h2 i hi).2⟩⟩
theorem MTabX.row {A:Option Addr} {N c i:Nat} (h:MTabX w base (.slice A N c) n k W z) (hi:i<n):∃ b o RA rc,A=some ⟨b,o,none⟩/\base<=b/\b<w.heap.size/\w.cell? ⟨b,o+i,none⟩=some (.slice RA k rc)/\w.frozen? ⟨b,o+i,none⟩=false /\
  Own w base 3 1 (.slice RA k rc) k (fun j _=>.int .i64 (W i j:Nat))/\((Value.slice RA k rc).ownBlock=none∨(Value.slice RA k rc).ownBlock≠z.ownBlock):=by
 obtain ⟨R,h1,h2⟩:=h
 obtain ⟨A1,c1,e1⟩:=h1.shape
 injection e1 with e1 e2 e3
 subst e1 e2 e3
 obtain ⟨g,o,cap,e,d,a,_,_,hc⟩:=h1.form (by omega)
 injection e with e e3 e4
 subst e e4
 have g1:=hc i hi 0 (by omega)
 rw [Nat.mul_one,Nat.add_zero] at g1
 have hr:=h2 i hi
 obtain ⟨RA,rc,hR⟩:=hr.1.shape
 rw [hR] at hr
 exact ⟨g,o,RA,rc,rfl,d,a,by rw [g1,<-hR],h1.frozen _,hr.1,hr.2⟩
theorem MTabX.keep {b o c i m:Nat} {r u:Value} {f:Nat->Nat->Value} (h:MTabX w base (.slice (some ⟨b,o,none⟩) n c) n k W z) (hu:Own w base 3 1 u m f):Own (w.setCell ⟨b,o+i,none⟩ r) base 3 1 u m f:=by
 obtain ⟨R,h1,_⟩:=h
 refine hu.setCell (fun e=>?_) r
 rcases za4 h1 hu (by decide) with h3 | h3
 ·rw [h3] at e; cases e
 ·exact h3 (by rw [e]; rfl)
theorem MTabX.set {b o c i:Nat} {r:Value} {x:Nat->Nat} (h:MTabX w base (.slice (some ⟨b,o,none⟩) n c) n k W z) (hi:i<n) (hr:Own w base 3 1 r k (fun j _=>.int .i64 (x j:Nat))) (hz:r.ownBlock=none∨r.ownBlock≠z.ownBlock) :
  MTabX (w.setCell ⟨b,o+i,none⟩ r) base (.slice (some ⟨b,o,none⟩) n c) n k (fun u=>if u=i then x else W u) z:=by
 have hk:=h
 obtain ⟨R,h1,h2⟩:=h
 have hs:=h1.set hi (by omega:0<1) r
 rw [Nat.mul_one,Nat.add_zero] at hs
 refine ⟨fun u=>if u=i then r else R u,hs.congr fun u _ q hq=>?_,fun u hu=>⟨?_,?_⟩⟩
 ·show (if u=i/\q=0 then r else R u)=if u=i then r else R u
  by_cases e:u=i
  ·rw [if_pos ⟨e,by omega⟩,if_pos e]
  ·rw [if_neg (fun h=>e h.1),if_neg e]
 ·show Own _ base _ 1 (if u=i then r else R u) k _
  by_cases e:u=i
  ·rw [if_pos e]
   simp only [if_pos e]
   exact hk.keep hr
  rw [if_neg e]
  simp only [if_neg e]
  exact hk.keep (h2 u hu).1
 show (if u=i then r else R u).ownBlock=none∨(if u=i then r else R u).ownBlock≠z.ownBlock
 split
 ·exact hz
 ·exact (h2 u hu).2
theorem MTabX.grown {z':Value} {m:Nat} {f:Nat->Nat->Value} (h:MTabX w base v n k W z) (hz:Own w base 3 1 z m f) (hg:w.grownBy w' z.ownBlock) (ha:z'.ownBlock=z.ownBlock∨z'.ownBlock=some w.heap.size):MTabX w' base v n k W z':=by
 obtain ⟨R,h1,h2⟩:=h
 have a:v.ownBlock=none∨v.ownBlock≠z.ownBlock:=za4 hz h1 (by decide)
 refine ⟨R,h1.kept hg a,fun i hi=>⟨(h2 i hi).1.kept hg (h2 i hi).2,?_⟩⟩
 rcases ha with ha | ha
 ·rw [ha]; exact (h2 i hi).2
 cases e:(R i).ownBlock with
 | none=>exact .inl rfl
 | some q =>
  refine .inr ?_
  rw [ha]
  intro e2
  injection e2 with e2
  have:=((h2 i hi).1.lt q e).2
  omega
theorem zfG {w:World} {base m g n:Nat} {f:Nat->Nat->Value} (hz:Own w base 3 1 z m f) (hg:w.heap.size<=g):(Value.slice (some ⟨g,0,none⟩) n n).ownBlock=none∨(Value.slice (some ⟨g,0,none⟩) n n).ownBlock≠z.ownBlock:=by
 refine .inr fun e=>?_
 have:=(hz.lt g e.symm).2
 omega
end
theorem zaN {w:World} {ops:Array Oper} {rest:List Oper} {o:Oper} {a:Act} {Q:Exit->Act->World->Prop} (hgd:o.guard=none) (sl x:Operand)
  (ho:o.op=.call { callee:=.builtin .append,args:=#[sl,x],argTypes:=#[22, 22] })
  {base n:Nat} {v:Value} {p:Nat->Nat} (h:Own w base 3 1 v n (fun j _=>.int .i64 (p j:Nat))) (hv:a.eval sl=v) {ad:Addr} {c:Nat} {r:Nat} (hx:a.eval x=.slice (some ad) 1 c)
  (hcell:w.cell? (ad.add 0)=some (.int .i64 (r:Nat))) (hbase:base<=w.heap.size) (hN:n<=1048576)
  (K:∀ v' w',Own w' base 3 1 v' (n+1) (fun j _=>.int .i64 ((if j=n then r else p j:Nat):Nat))->w.grownBy w' v.ownBlock->(v'.ownBlock=v.ownBlock∨v'.ownBlock=some w.heap.size)->wpList Tryz.prog ops Q rest (a.put o.dst v') w'):wpList Tryz.prog ops Q (o :: rest) a w:=by
 obtain ⟨i0,qi0,qz0,qz1,qz2⟩:=info_parts Tryz.infoInt
 refine zah w hgd sl x _ ho base 3 i0 _ 1 8 Tryz.underlying22 qi0 qz0 qz1 qz2 rfl (by omega) v n _ hv (h.congr fun i hi j _=>by rw [if_neg (by omega)]) ad c hx (fun j hj=>by
   obtain rfl:j=0:=by omega
   rw [if_pos rfl]
   exact hcell) (fun _ _=>rfl) (by unfold maxLen; omega) (by omega) hbase K
theorem zaS {w:World} {base g m n s:Nat} {t e:TypeId} {F:Nat->Value} {v:Value} {f:Nat->Nat->Value} (hr:w.rowIs g t m F) (h:Own w base e s v n f) (hne:t≠e):v.ownBlock=none∨v.ownBlock≠some g:=by
 rcases h with ⟨rfl,_⟩ | ⟨b,o,cap,cur,rfl,_,hg,_⟩
 ·exact .inl rfl
 refine .inr fun e1=>?_
 obtain ⟨cs,h1,_⟩:=hr
 simp [Value.ownBlock] at e1
 subst e1
 rw [hg] at h1
 injection h1 with h1
 injection h1 with _ h1
 exact hne h1.symm
def pwG (mul:Nat->Nat->Nat) (x:Nat):Nat->Nat
 | 0=>1
 | 1=>x
 | n+2=>mul (pwG mul x (n+1)) x
theorem zjw (mul:Nat->Nat->Nat) (x:Nat) {n:Nat} (h:1<=n):pwG mul x (n+1)=mul (pwG mul x n) x:=by
 obtain ⟨k,rfl⟩:∃ k,n=k+1:=⟨n - 1,by omega⟩
 rfl
def seenB (p:Nat->Nat):Nat->Nat->Bool
 | 0,_=>false
 | n+1,t=>if t=p n then true else seenB p n t
theorem zdU (p:Nat->Nat) (t:Nat):∀ n,seenB p n t=true↔∃ i,i<n/\p i=t
 | 0=>⟨(fun h=>by cases h),(fun ⟨i,hi,_⟩=>by omega)⟩
 | n + 1 => by
  have ih:=zdU p t n
  show (if t=p n then true else seenB p n t)=true↔_
  by_cases e:t=p n
  ·rw [if_pos e]
   exact ⟨fun _=>⟨n,by omega,e.symm⟩,fun _=>rfl⟩
  ·rw [if_neg e,ih]
   constructor
   ·rintro ⟨i,hi,h⟩; exact ⟨i,by omega,h⟩
   ·rintro ⟨i,hi,h⟩
    by_cases e2:i=n
    ·subst e2; exact absurd h.symm e
    ·exact ⟨i,by omega,h⟩
structure PwOk (q:Nat) (p:Nat->Nat) (n:Nat):Prop where
 ne:∀ i,i<n->p i≠0
 lt:∀ i,i<n->p i<q
 inj:∀ i j,i<j->j<n->p i≠p j
theorem PwOk.le {q n:Nat} {p:Nat->Nat} (h:PwOk q p n) (hq:1<=q):n<=q - 1 :=
 pigeon (f:=fun i=>p i - 1) (fun i hi=>by have:=h.ne i hi; have:=h.lt i hi; show p i - 1<q - 1; omega) fun i k hi hk e=>by
  have:=h.ne i hi
  have:=h.ne k hk
  have e2:p i=p k:=by have e':p i - 1=p k - 1:=e; omega
  rcases Nat.lt_trichotomy i k with h1 | h1 | h1
  ·exact absurd e2 (h.inj i k h1 hk)
  ·exact h1
  ·exact absurd e2.symm (h.inj k i h1 hi)
theorem PwOk.next {q n:Nat} {p:Nat->Nat} (h:PwOk q p n) (h1:p n≠0) (h2:p n<q) (h3:seenB p n (p n)=false):PwOk q p (n+1):=by
 have hs:∀ i,i<n->p i≠p n:=fun i hi e=>by
  have:=(zdU p (p n) n).2 ⟨i,hi,e⟩
  rw [h3] at this
  cases this
 refine ⟨fun i hi=>?_,fun i hi=>?_,fun i j hij hj=>?_⟩
 ·by_cases e:i=n
  ·subst e; exact h1
  ·exact h.ne i (by omega)
 ·by_cases e:i=n
  ·subst e; exact h2
  ·exact h.lt i (by omega)
 by_cases e:j=n
 ·subst e; exact hs i hij
 ·exact h.inj i j hij (by omega)
def PowersPost (q:Nat) (p:Nat->Nat) (w:World) (e:Ending) (w':World):Prop :=
 ∃ lv L,e=.returned lv/\1<=L/\Own w' w.heap.size 3 1 lv L (fun i _=>.int .i64 (p i:Nat))/\Below w.heap.size w w'/\PwOk q p L/\(p L=0∨seenB p L (p L)=true)
theorem zgT (P M:Nat) (A:Option Addr) (k c:Nat) (m:Nat->Nat) (q x:Nat) (w:World) (hf:FldOk P M) (hm:ModOk w P M A m) (hkM:M=1∨k=M) (hq:q=P ^ M) (hx1:1<=x) (hx:x<q) :
    Calls Tryz.prog 199 #[.agg #[.int .i64 (P:Nat),.int .i64 (M:Nat),.slice A k c],.int .i64 (q:Nat),.int .i64 (x:Nat)] w (PowersPost q (pwG (mulF P M m) x) w):=by
  have ak:0<P:=by have:=hf.1; omega
  have ar:q<=256:=by rw [hq]; exact hf.2.2.2
  have ai:2<=q:=by omega
  have V:Hid (∀ a,mulF P M m a x<q):=fun a=>by rw [hq]; exact za1 ak a x
  have HQ:=hid hq
  clear hq
  obtain ⟨w0,a4,hB,rf⟩:=zao w (.int .i64 (P:Nat)) (.int .i64 (M:Nat)) (.slice A k c) 24
  have a8:=fun W=>zaf (P:=Tryz.prog) 185 4 _ 1 Tryz.underlying185 Tryz.infoBool rfl (q:Int) (by omega) (by omega) (by omega) W
  simp only [Int.toNat_natCast] at a8
  go_enter Tryz.func199, Tryz.ntmps199
  go_upto_region 1 with fail
  rw [<-a4];clear a4
  have a9:=rf.lt
  go_upto_region 2 with fail
  have kb:=(Below.refl w0.heap.size w0).alloc (Nat.le_refl _) (Obj.cells #[Value.int .i64 1] 3)
  have r1:(w0.alloc (Obj.cells #[Value.int .i64 1] 3)).rowIs w0.heap.size 3 1 (fun i=>.int .i64 (pwG (mulF P M m) x i:Nat)):=⟨_,zaA rfl,rfl,fun i hi=>by
    obtain rfl:i=0:=by omega
    rfl⟩
  have hO:=zaI r1 (show w.heap.size+1<=w0.heap.size from a9) (by unfold maxLen; omega)
  obtain ⟨w1,a3⟩:=exx (w0.alloc (Obj.cells #[Value.int .i64 1] 3))
  obtain ⟨b1,aa⟩:=exx w0.heap.size
  rw [<-a3] at kb hO ⊢;rw [<-aa] at hO ⊢;replace rf:=zaa rf kb;replace hB:=onS hB kb
  have Q:=rf.lt
  clear kb r1 a3 aa a9
  go_upto_region 3 with fail
  have kb:=(Below.refl w1.heap.size w1).alloc (Nat.le_refl _) (Obj.cells (madeCells #[Value.bool false] q) 4)
  have rs:=World.rowIs_made w1 (.bool false) q 4
  obtain ⟨w2,a2⟩:=exx (w1.alloc (Obj.cells (madeCells #[Value.bool false] q) 4))
  obtain ⟨g,hg⟩:=exx w1.heap.size
  rw [<-a2] at kb rs ⊢;rw [<-hg] at rs ⊢
  have av:w.heap.size+1<=g:=by omega
  replace rf:=zaa rf kb;replace hB:=onS hB kb;replace hO:=hO.on kb;clear kb a2 hg a8 Q
  have y0:=rs.cell (i:=1) (by omega)
  have z0:=rs.frozen 1
  have aj:(1:Int)<(q:Int):=by omega
  have d:=hid ((rs.set 1 (.bool true)).congr (g:=fun t=>.bool (seenB (pwG (mulF P M m) x) 1 t)) fun t _=>by
    show (if t=1 then Value.bool true else .bool false)=.bool (if t=1 then true else false)
    split <;> rfl)
  have B:=hid (rf.setOther (a:=⟨g,1,none⟩) (by simp; omega) (.bool true))
  have Y:=hid (hB.setCell (p:=⟨g,1,none⟩) (by show w.heap.size<=g; omega) (.bool true))
  have r:=hid (hO.setCell (a:=⟨g,1,none⟩) (fun e=>(zaS rs hO (by decide)).elim (fun h=>by rw [h] at e; cases e) fun h=>h e) (.bool true))
  clear rs rf hB hO
  go_wp2
  clear y0 z0
  obtain ⟨w3,a1⟩:=exx (w2.setCell ⟨g,1,none⟩ (.bool true))
  rw [<-a1] at d B Y r ⊢;clear a1
  obtain ⟨p,hp⟩:=exx (pwG (mulF P M m) x)
  have a6:p 1=x:=by rw [hp]; rfl
  have a5:∀ n,1<=n->p (n+1)=mulF P M m (p n) x:=fun n hn=>by rw [hp]; exact zjw _ _ hn
  have a7:PwOk q p 1:=by
    rw [hp]
    exact ⟨fun i hi => by obtain rfl : i = 0 := by omega
                          exact Nat.one_ne_zero, fun i hi => by obtain rfl : i = 0 := by omega
                                                                exact ai,fun i j h1 h2=>by omega⟩
  rw [<-hp] at d r ⊢
  have an:=hid a5
  have C:=hid a7
  have ao:=hid a6
  have ac:=hid hp
  clear hp a6 a5 a7
  go_loopg [7,9] q (fun gg ov yv wx=>∃ L y:Nat,yv=.int .i64 (y:Nat)/\1<=L/\L<q/\q<=L+gg/\y<q/\Hid (y=p L)/\Hid (PwOk q p L)/\Hid (Own wx (w.heap.size+1) 3 1 ov L (fun i _=>.int .i64 (p i:Nat)))/\Hid (wx.rowIs g 4 q (fun t=>.bool (seenB p L t)))/\Hid (wx.rowIs w.heap.size 24 3 (fldCell (.int .i64 (P:Nat)) (.int .i64 (M:Nat)) (.slice A k c)))/\Hid (Below w.heap.size w wx))
  case atStart=>exact ⟨1,x,rfl,by omega,by omega,by omega,hx,ao.out.symm,C,r,d,B,Y⟩
  clear r d B Y C
  obtain ⟨L,y,rfl,S,aw,au,N,HY,C,HO,d,B,J⟩:=hrel
  have aq:(0:Int)<=(y:Int):=by omega
  have ah:(y:Int)<(q:Int):=by omega
  by_cases hyz:y=0
  · have hz:((y:Int) != 0)=false:=by simp [hyz]
    have v:Hid (p L=0∨seenB p L (p L)=true):=.inl (by rw [<-HY.out]; exact hyz)
    clear hyz
    go_wp2
    go_ret
    have e:=ac.out
    subst e
    exact ⟨_,L,rfl,S,HO.out.mono (Nat.le_succ _),J.out,C.out,v.out⟩
  have hz:((y:Int) != 0)=true:=by simp; omega
  have s0:=d.out.cell (i:=y) N
  obtain ⟨sb,O⟩:=exx (seenB p L y)
  rw [<-O] at s0
  have ab:=hid O
  have al:=hid hyz
  clear O hyz
  cases sb
  rotate_left
  · have v:Hid (p L=0∨seenB p L (p L)=true):=.inr (by rw [<-HY.out]; exact ab.out.symm)
    go_wp2
    go_ret
    have e:=ac.out
    subst e
    exact ⟨_,L,rfl,S,HO.out.mono (Nat.le_succ _),J.out,C.out,v.out⟩
  have G:=hid (C.out.next (by rw [<-HY.out]; exact al.out) (by rw [<-HY.out]; exact N) (by rw [<-HY.out]; exact ab.out.symm))
  have R:L+1<q:=by have:=G.out.le (by omega); omega
  have z0:=d.out.frozen y
  have rs:=d.out.set y (.bool true)
  have s:=hid (rs.congr (g:=fun t=>.bool (seenB p (L+1) t)) fun t _=>by
    show (if t=y then Value.bool true else .bool (seenB p L t))=.bool (if t=p L then true else seenB p L t)
    rw [<-HY.out]
    split <;> rfl)
  have u:=hid (B.out.setOther (a:=⟨g,y,none⟩) (by simp; omega) (.bool true))
  have z:=hid (J.out.setCell (p:=⟨g,y,none⟩) (by show w.heap.size<=g; omega) (.bool true))
  have r:=hid (HO.out.setCell (a:=⟨g,y,none⟩) (fun e=>(zaS d.out HO.out (by decide)).elim (fun h=>by rw [h] at e; cases e) fun h=>h e) (.bool true))
  clear rs d B J HO
  go_upto_region 8 with fail
  clear z0 s0
  obtain ⟨w4,a0⟩:=exx (wr.setCell ⟨g,y,none⟩ (.bool true))
  rw [<-a0] at s u z r ⊢;clear a0
  have kb:=(Below.refl w4.heap.size w4).alloc (Nat.le_refl _) (Obj.cells #[Value.int .i64 (y:Nat)] 3)
  have H:=hid (r.out.on kb)
  have l:=hid (zaa s.out kb)
  have o:=hid (zaa u.out kb)
  have ag:=hid (onS z.out kb)
  have af:Hid ((w4.alloc (Obj.cells #[Value.int .i64 (y:Nat)] 3)).cell? ((⟨w4.heap.size,0,none⟩:Addr).add 0)=some (.int .i64 (y:Nat))):=tbox2
  have T:Hid (w.heap.size+1<=(w4.alloc (Obj.cells #[Value.int .i64 (y:Nat)] 3)).heap.size):=o.out.lt
  have ap:Hid (L<=1048576):=by show _<=_; omega
  clear kb r s u z
  go_upto_region 6 with (first | (at_builtin; (refine zaN rfl (.tmp 32) (.tmp 34) rfl H.out rfl (ad:=⟨w4.heap.size,0,none⟩) (c:=1) rfl af.out T.out ap.out ?_); intro v9 w9 o1 o2 o3))
  have ae:=hid (o1.congr (f':=fun i _=>.int .i64 (p i:Nat)) fun i _ _ _=>by
    by_cases e:i=L
    · subst e; rw [if_pos rfl,HY.out]
    · rw [if_neg e])
  have D:=hid (l.out.of_block (o2.block _ l.out.lt fun e=>(zaS l.out H.out (by decide)).elim (fun h=>by rw [h] at e; cases e) fun h=>h e.symm))
  have b:=hid (o.out.of_block (o2.block _ o.out.lt fun e=>by have:=(H.out.lt _ e.symm).1; omega))
  have X:=hid (ag.out.grown o2 (Nat.le_of_succ_le T.out) fun q e=>by have:=(H.out.lt q e).1; omega)
  clear o1 o2 o3 H l o ag af T
  have q0:=qc0 b.out
  have q1:=qc1 b.out
  have q2:=qc2 b.out
  go_wp2_with fail
  refine (zc1 P M A k c m y x w9 hf (zaF hm X.out) hkM (by rw [<-HQ.out]; exact N) (by rw [<-HQ.out]; exact hx)).mono ?_
  rintro e w10 ⟨rfl,kb⟩
  obtain ⟨y',I⟩:∃ y',y'=mulF P M m y x:=⟨_,rfl⟩
  rw [<-I]
  have K:y'<q:=by rw [I]; exact V.out y
  have am:Hid (y'=p (L+1)):=by show _=_; rw [I,an.out L S,<-HY.out]
  have U:=hid (ae.out.on kb)
  have E:=hid (zaa D.out kb)
  have F:=hid (zaa b.out kb)
  have Z:=hid (onS X.out kb)
  clear kb q0 q1 q2 I ae D b X
  go_wp2
  go_roundg (gk - 1)
  case measure=>omega
  case rel=>exact ⟨L+1,y',rfl,by omega,R,by omega,K,am,G,U,E,F,Z⟩
def GenX (q:Nat) (mul:Nat->Nat->Nat) (x:Nat):Prop:=PwOk q (pwG mul x) (q - 1)/\mul (pwG mul x (q - 2)) x=1
theorem zgU {q L:Nat} {p:Nat->Nat} (hq:1<=q) (h:PwOk q p L) (hs:p L=0∨seenB p L (p L)=true) (hg:PwOk q p (q - 1)):L=q - 1:=by
 have h1:=h.le hq
 refine Classical.byContradiction fun hne=>?_
 have a:L<q - 1:=by omega
 rcases hs with hs | hs
 ·exact hg.ne L a hs
 ·obtain ⟨i,hi,e⟩:=(zdU p (p L) L).1 hs
  exact hg.inj i L hi a e
def GenrPost (q:Nat) (mul:Nat->Nat->Nat) (w:World) (e:Ending) (w':World):Prop :=
 Below w.heap.size w w'/\((e=.returned (.slice none 0 0)/\∀ x,1<=x->x<q->¬ GenX q mul x) ∨
  ∃ lv x,e=.returned lv/\1<=x/\x<q/\GenX q mul x/\Own w' w.heap.size 3 1 lv (q - 1) (fun i _=>.int .i64 (pwG mul x i:Nat)))
theorem zcE (P M:Nat) (A:Option Addr) (k c:Nat) (m:Nat->Nat) (q:Nat) (w:World) (hf:FldOk P M) (hm:ModOk w P M A m) (hkM:M=1∨k=M) (hq:q=P ^ M) :
  Calls Tryz.prog 147 #[.agg #[.int .i64 (P:Nat),.int .i64 (M:Nat),.slice A k c],.int .i64 (q:Nat)] w (GenrPost q (mulF P M m) w):=by
 have O:0<P:=by have:=hf.1; omega
 have Y:q<=256:=by rw [hq]; exact hf.2.2.2
 have Z:2<=q:=by
  have h1:=hf.1
  have h2:=Nat.pow_le_pow_right O hf.2.1
  rw [Nat.pow_one] at h2
  omega
 obtain ⟨Q1,D⟩:=exx (q - 1)
 obtain ⟨Q2,C⟩:=exx (q - 2)
 have N:(q:Int) - 1=(Q1:Int):=by omega
 have I:(q:Int) - 2=(Q2:Int):=by omega
 have b:Q2<Q1:=by omega
 have n:=hid D
 have E:=hid C
 have HQ:=hid hq
 clear hq D C
 obtain ⟨w0,v,hB,rf⟩:=zao w (.int .i64 (P:Nat)) (.int .i64 (M:Nat)) (.slice A k c) 24
 go_enter Tryz.func147, Tryz.ntmps147
 go_upto_region 1 with fail
 rw [<-v];clear v
 go_wp2
 go_loopg [5,6] q (fun gg xv _ wx=>∃ x:Nat,xv=.int .i64 (x:Nat)/\1<=x/\x<=q/\q<=x+gg/\Hid (∀ y,1<=y->y<x->¬ GenX q (mulF P M m) y)/\wx.rowIs w.heap.size 24 3 (fldCell (.int .i64 (P:Nat)) (.int .i64 (M:Nat)) (.slice A k c))/\Below w.heap.size w wx)
 case atStart=>exact ⟨1,rfl,by omega,by omega,by omega,fun y h1 h2=>absurd h1 (by omega),rf,hB⟩
 clear rf hB
 obtain ⟨x,rfl,u,W,X,r,rf,hB⟩:=hrel
 by_cases hlt:x<q
 rotate_left
 ·have l:¬ (x:Int)<(q:Int):=by omega
  obtain rfl:x=q:=by omega
  go_wp2
  go_ret
  exact ⟨hB,.inl ⟨rfl,r.out⟩⟩
 have l:(x:Int)<(q:Int):=by omega
 have q0:=qc0 rf
 have q1:=qc1 rf
 have q2:=qc2 rf
 go_wp2_with fail
 refine (zgT P M A k c m q x wr hf (zaF hm hB) hkM HQ.out u hlt).mono ?_
 rintro e w1 ⟨lv,L,rfl,a2,hO,kb,j,a⟩
 have HO:=hid (hO.mono hB.size)
 replace rf:=zaa rf kb;replace hB:=onS hB kb
 have o:=hid j
 have s:=hid a
 have a1:=j.le (by omega)
 clear kb q0 q1 q2 hO j a
 obtain ⟨LA,lc,H⟩:=HO.out.shape
 subst H
 by_cases hL:L=Q1
 rotate_left
 ·have Q:((L:Int) == (Q1:Int))=false:=by simp; omega
  have g:IntKind.i64.wrap (Q1:Int)=(Q1:Int):=IntWalk.i64_in _ (by omega)
  have p:Hid (∀ y,1<=y->y<x+1->¬ GenX q (mulF P M m) y):=fun y h1 h2 hg=>by
   by_cases e:y=x
   ·subst e
    exact hL (by rw [n.out]; exact zgU (by omega) o.out s.out hg.1)
   ·exact r.out y h1 (by omega) hg
  clear hL
  go_wp2
  go_quiet (fail)
  go_wp2
  go_roundg (gk - 1)
  case measure=>omega
  case rel=>exact ⟨x+1,by go_num,by omega,by omega,by omega,p,zbu rf _,zac hB _⟩
 have Q:((L:Int) == (Q1:Int))=true:=by simp [hL]
 subst hL
 obtain ⟨pb,po,R,a0,x0⟩:=(show IntsR w1 w1.heap.size LA L (fun i=>((pwG (mulF P M m) x i:Nat):Int)) from HO.out.rd rfl).at (i:=Q2) b
 subst R
 obtain ⟨z,hz⟩:=exx (pwG (mulF P M m) x Q2)
 rw [<-hz] at x0
 have F:z<q:=by rw [hz]; exact o.out.lt Q2 b
 have HZ:=hid hz
 clear hz
 have B:(Q2:Int)<(L:Int):=by omega
 have J:(0:Int)<=(Q2:Int):=by omega
 have g:IntKind.i64.wrap (L:Int)=(L:Int):=IntWalk.i64_in _ (by omega)
 have G:IntKind.i64.wrap (Q2:Int)=(Q2:Int):=IntWalk.i64_in _ (by omega)
 go_wp2
 refine wp_region_held_drew (S:=fun w'=>w'.cell? ⟨w.heap.size,0,none⟩=some (.int .i64 (P:Nat))/\w'.cell? ⟨w.heap.size,1,none⟩=some (.int .i64 (M:Nat))/\w'.cell? ⟨w.heap.size,2,none⟩=some (.slice A k c)/\w'.cell? ⟨pb,po+Q2,none⟩=some (.int .i64 (z:Nat))) (by kernel_rfl) ⟨cellS (Below.refl _ _).drew (rf.cell (i:=0) (by omega)),cellS (Below.refl _ _).drew (rf.cell (i:=1) (by omega)),cellS (Below.refl _ _).drew (rf.cell (i:=2) (by omega)),cellS (Below.refl _ _).drew (x0)⟩ (fun hHeld=>?_)
 obtain ⟨w2,hw,kb⟩:=dwx w1
 rw [<-hw] at hHeld ⊢;clear hw;replace rf:=zaa rf kb;replace hB:=onS hB kb;replace x0:=cellS kb x0
 have V:=hid kb
 clear kb
 refine tkq 0 (h:=tkq 1 (h:=tkq 2 (h:=tkq 3 (h:=tkq 4 (h:=tkq 5 (h:=tkq 6 (h:=tkq 7 (h:=tkq 8 (h:=tkq 9 (h:=tkq 10 (h:=tkq 11 (h:=tkq 12 (h:=?_)))))))))))))
 refine rdq 13 (h:=fun K hK=>?_)
 go_simp
 go_wp2_with fail
 refine (zc1 P M A k c m z x w2 hf (zaF hm hB) hkM (by rw [<-HQ.out]; exact F) (by rw [<-HQ.out]; exact hlt)).mono ?_
 rintro e w3 ⟨rfl,kb⟩
 replace rf:=zaa rf kb;replace hB:=onS hB kb;replace x0:=cellS kb x0
 have U:=hid (onS V.out kb)
 clear kb
 obtain ⟨y,hy⟩:=exx (mulF P M m z x)
 rw [<-hy]
 have HY:=hid hy
 have a3:=hid True.intro
 clear hy
 refine bkq hK ⟨qc0 rf,qc1 rf,qc2 rf,x0⟩ (h:=fun hHeld=>?_)
 clear hK K
 refine tkq 14 (h:=tkq 15 (h:=?_))
 refine wpAnyH_done (by kernel_rfl) ?_ _
 clear hHeld
 by_cases hy1:y=1
 ·have d:((y:Int) == 1)=true:=by simp [hy1]
  have HG:Hid (GenX q (mulF P M m) x):=⟨by rw [<-n.out]; exact o.out,by rw [<-E.out,<-HZ.out,<-HY.out]; exact hy1⟩
  have T:=hid (HO.out.on U.out)
  clear hy1 x0
  go_wp2
  go_ret
  exact ⟨hB,.inr ⟨_,x,rfl,u,hlt,HG.out,by rw [<-n.out]; exact T.out⟩⟩
 have d:((y:Int) == 1)=false:=by simp; omega
 have p:Hid (∀ y',1<=y'->y'<x+1->¬ GenX q (mulF P M m) y'):=fun y' h1 h2 hg=>by
  by_cases e:y'=x
  ·subst e
   exact hy1 (by rw [HY.out,HZ.out,E.out]; exact hg.2)
  ·exact r.out y' h1 (by omega) hg
 clear hy1 x0
 go_wp2
 go_roundg (gk - 1)
 case measure=>omega
 case rel=>exact ⟨x+1,by go_num,by omega,by omega,by omega,p,rf,hB⟩
end Go.Proofs.YtgekjfpapmlndaaGreat