/- Merged texts of a claim: Gf2, Gf3, Gf4, GfLaw, Gf5, GfObj, GfMul, GfDot, GfChk. -/
import Derived.Test.YtioagplajkoohaaGreatTQ1
import Derived.Test.YtioagplajkoohaaGreatTQ3
import Derived.Test.YtioagplajkoohaaGreatTQ7
import Derived.Laws.CopyOwn
namespace Go.Proofs.YtioagplajkoohaaGreat
set_option maxRecDepth 100000
set_option maxHeartbeats 32000000
open KA KB KC KE
open Go.RowKit
def hStep (P M:Nat) (m:Nat->Nat) (a:Nat->Nat) (bi:Nat) (o:Nat->Nat) (j:Nat):Nat:=((if j=0 then 0 else o (j - 1))+(P - o (M - 1))*(if 1<M then m j else 0)+bi*a j) % P
def hOut (P M:Nat) (m a b:Nat->Nat):Nat->Nat->Nat
 | 0=>fun _=>0
 | s+1=>hStep P M m a (b (M - 1 - s)) (hOut P M m a b s)
theorem zeh {P M:Nat} {m a b:Nat->Nat} (hP:0<P):∀ s j,hOut P M m a b s j<P
 | 0,_=>hP
 | _+1,_=>Nat.mod_lt _ hP
theorem zih {P M:Nat} {m a b:Nat->Nat} (hP:0<P):∀ s,s<=M->∀ j,j<M->cg P (hOut P M m a b s j) (sig s fun t=>(b (M - s+t):Int)*sig M fun i=>(a i:Int)*pwX M m (i+t) j)
 | 0,_,_,_=>zaq _
 | s + 1, hs, j, hj => by
  have ih:=fun j' (hj':j'<M)=>zih (m:=m) (a:=a) (b:=b) hP s (by omega) j' hj'
  have hlt:=zeh (M:=M) (m:=m) (a:=a) (b:=b) hP s (M - 1)
  obtain ⟨o,ho⟩:∃ o,o=hOut P M m a b s:=⟨_,rfl⟩
  rw [<-ho] at ih hlt
  have e1:hOut P M m a b (s+1) j=((if j=0 then 0 else o (j - 1))+(P - o (M - 1))*(if 1<M then m j else 0)+b (M - 1 - s)*a j) % P:=by rw [ho]; rfl
  rw [e1]
  refine (zd2 _).trans ?_
  -- the sum without its first summand
  have e2:sig (s+1) (fun t=>(b (M - (s+1)+t):Int)*sig M fun i=>(a i:Int)*pwX M m (i+t) j)=(b (M - 1 - s):Int)*a j+sig s (fun t=>(b (M - s+t):Int)*sig M fun i=>(a i:Int)*pwX M m (i+t+1) j):=by
   rw [show s+1=1+s by omega,zhm 1 s]
   congr 1
   ·show (0:Int)+(b (M - (1+s)):Int)*sig M (fun i=>(a i:Int)*pwX M m i j)=_
    rw [zbI hj fun i hi hne=>by rw [zbr hi,if_neg (by omega)]; omega,zbr hj,if_pos rfl,show M - (1+s)=M - 1 - s by omega,Int.mul_one,Int.zero_add]
   ·refine zag fun t _=>?_
    rw [show M - (1+s)+(1+t)=M - s+t by omega]
    congr 1
    exact zag fun i _=>by rw [show i+(1+t)=i+t+1 by omega]
  rw [e2]
  have e3:sig s (fun t=>(b (M - s+t):Int)*sig M fun i=>(a i:Int)*pwX M m (i+t+1) j)=(if j=0 then 0 else sig s fun t=>(b (M - s+t):Int)*sig M fun i=>(a i:Int)*pwX M m (i+t) (j - 1)) - m j*sig s (fun t=>(b (M - s+t):Int)*sig M fun i=>(a i:Int)*pwX M m (i+t) (M - 1)):=by
   rw [<-zcF]
   by_cases e:j=0
   ·rw [if_pos e]
    have:(0:Int)=sig s fun _=>0:=(zbg s).symm
    rw [this,<-ze7]
    refine zag fun t _=>?_
    have h1:sig M (fun i=>(a i:Int)*pwX M m (i+t+1) j) = - (m j*sig M fun i=>(a i:Int)*pwX M m (i+t) (M - 1)):=by
     rw [<-zcF,<-zh4]
     refine zag fun i _=>?_
     show (a i:Int)*(if j<M then (if j=0 then 0 else pwX M m (i+t) (j - 1)) - m j*pwX M m (i+t) (M - 1) else 0)=_
     rw [if_pos hj,if_pos e]
     grind
    rw [h1]
    grind
   ·rw [if_neg e,<-ze7]
    refine zag fun t _=>?_
    have h1:sig M (fun i=>(a i:Int)*pwX M m (i+t+1) j)=sig M (fun i=>(a i:Int)*pwX M m (i+t) (j - 1)) - m j*sig M fun i=>(a i:Int)*pwX M m (i+t) (M - 1):=by
     rw [<-zcF,<-ze7]
     refine zag fun i _=>?_
     show (a i:Int)*(if j<M then (if j=0 then 0 else pwX M m (i+t) (j - 1)) - m j*pwX M m (i+t) (M - 1) else 0)=_
     rw [if_pos hj,if_neg e]
     grind
    rw [h1]
    grind
  rw [e3]
  have c1:cg P (((if j=0 then 0 else o (j - 1):Nat):Int)) (if j=0 then 0 else sig s fun t=>(b (M - s+t):Int)*sig M fun i=>(a i:Int)*pwX M m (i+t) (j - 1)):=by
   by_cases e:j=0
   ·rw [if_pos e,if_pos e]; exact zaq _
   ·rw [if_neg e,if_neg e]; exact ih (j - 1) (by omega)
  have c2:cg P ((((P - o (M - 1))*(if 1<M then m j else 0):Nat):Int)) (- (m j*sig s fun t=>(b (M - s+t):Int)*sig M fun i=>(a i:Int)*pwX M m (i+t) (M - 1))):=by
   by_cases e:1<M
   ·rw [if_pos e]
    have h1:cg P (((P - o (M - 1))*m j:Nat):Int) (- (m j*(o (M - 1):Int))):=⟨m j,by rw [Int.natCast_mul,Int.natCast_sub (Nat.le_of_lt hlt)]; grind⟩
    exact h1.trans ((Go.Proofs.YtioagplajkoohaaGreat.cg.mulL _ (ih (M - 1) (by omega))).neg)
   ·rw [if_neg e,Nat.mul_zero]
    obtain rfl:s=0:=by omega
    exact zbH (by show (0:Int) = -(m j*0); omega)
  rw [Int.natCast_add,Int.natCast_add,Int.natCast_mul (b (M - 1 - s))]
  refine ((c1.add c2).add (zaq _)).trans (zbH ?_)
  omega
theorem ziQ {P M:Nat} {m:Nat->Nat} (hP:0<P) (hM:1<=M) (x y:Nat):valN P (hOut P M m (dig P x) (dig P y) M) M=mulF P M m x y:=by
 refine zbs hP (za9 fun i _=>zeh hP M i) (zaU hP x y) fun j hj=>?_
 have h1:dgt P (valN P (hOut P M m (dig P x) (dig P y) M) M) j=((hOut P M m (dig P x) (dig P y) M j:Nat):Int):=by
  unfold dgt
  rw [za6 (fun i _=>zeh hP M i) j hj]
 rw [h1]
 refine (zih hP M (Nat.le_refl _) j hj).trans (Go.Proofs.YtioagplajkoohaaGreat.cg.trans (zbH ?_) (zds hP hM x y hj).symm)
 rw [zaW]
 unfold mulI
 refine zag fun t _=>?_
 rw [show M - M+t=t by omega]
 unfold dgt
 congr 1
 exact zag fun i _=>by rw [Nat.add_comm i t]
theorem drewSet {B:Nat} {a w:World} {p:Addr} {v:Value} (h:Below B a (w.setCell p v)):Below B a (w.drew.setCell p v):=⟨h.os,h.tape,h.output,h.size,h.block⟩
theorem zhA {w':World} {g M L:Nat} {t:TypeId} {F:Nat->Value} {cs:Array Value} (h1:cs.size=M) (h2:∀ i,i<M->cs[i]?=some (F i)) (hM:L+1=M) (h:w'.heap[g]?=some (.cells (splice cs.toList 1 ((List.range L).map F)).toArray t (0,0))):w'.rowIs g t M (fun j=>if j=0 then F 0 else F (j - 1)):=by
 have hl:(splice cs.toList 1 ((List.range L).map F)).length=M:=by rw [length_splice _ _ _ (by simp; omega)]; simpa using h1
 refine ⟨_,h,by simpa using hl,fun i hi=>?_⟩
 rw [List.getElem?_toArray]
 unfold splice
 have hcl:cs.toList.length=M:=by simpa using h1
 show _=some (if i=0 then F 0 else F (i - 1))
 by_cases e:i=0
 ·subst e
  rw [if_pos rfl,List.getElem?_append_left (by rw [List.length_take]; omega),List.getElem?_take_of_lt (by omega),Array.getElem?_toList]
  exact h2 0 hi
 ·rw [if_neg e,List.getElem?_append_right (by rw [List.length_take]; omega),List.length_take,show i - min 1 cs.toList.length=i - 1 by omega,List.getElem?_append_left (by simp; omega)]
  simp [show i - 1<L by omega]
theorem zcQ (P M:Nat) (A:Option Addr) (k c:Nat) (m:Nat->Nat) (x y:Nat) (w:World) (hf:FldOk P M) (hm:ModOk w P M A m) (hkM:M=1∨k=M) (hx:x<P ^ M) (hy:y<P ^ M) :
  Calls Tryz.prog 212 #[.agg #[.int .i64 (P:Nat),.int .i64 (M:Nat),.slice A k c],.int .i64 (x:Nat),.int .i64 (y:Nat)] w fun e w'=>e=.returned (.int .i64 (mulF P M m x y:Nat))/\Below w.heap.size w w':=by
 have hq:=hf.2.2.2
 have hP2:=hf.1
 have hP6:=hf.P_le
 have hM1:=hf.2.1
 have hM8:=hf.2.2.1
 have hP1:1<=P:=by omega
 have hP0:0<P:=by omega
 have hx6:x<=1048576:=by omega
 have hy6:y<=1048576:=by omega
 have hM6:M<=64:=by omega
 have HEQ:=hid (ziQ (m:=m) hP0 hM1 x y)
 have HQ:=hid hq
 clear hq hx hy
 have hB:Below w.heap.size w (w.alloc (.cells #[.int .i64 (P:Nat),.int .i64 (M:Nat),.slice A k c] 24)):=(Below.refl _ _).alloc (Nat.le_refl _) _
 have rf:=zad (w:=w) (a:=.int .i64 (P:Nat)) (b:=.int .i64 (M:Nat)) (c:=.slice A k c) (T := 24)
 obtain ⟨w1,hw1⟩:∃ W,W=w.alloc (.cells #[.int .i64 (P:Nat),.int .i64 (M:Nat),.slice A k c] 24):=⟨_,rfl⟩
 rw [<-hw1] at hB rf
 have hmk:=fun W=>zaf (P:=Tryz.prog) 22 3 _ 8 Tryz.underlying22 Tryz.infoInt rfl (M:Int) (by omega) (by omega) (by omega) W
 simp only [Int.toNat_natCast] at hmk
 go_enter Tryz.func212, Tryz.ntmps212
 go_upto_region 1 with fail
 rw [<-hw1];clear hw1
 refine wp_region_held_drew (S:=fun w'=>w'.cell? ⟨w.heap.size,0,none⟩=some (.int .i64 (P:Nat))/\w'.cell? ⟨w.heap.size,1,none⟩=some (.int .i64 (M:Nat))) (by kernel_rfl) ⟨cellS (Below.refl _ _).drew (rf.cell (i:=0) (by omega)),cellS (Below.refl _ _).drew (rf.cell (i:=1) (by omega))⟩ (fun hHeld=>?_)
 obtain ⟨w2,hw⟩:∃ W,W=World.drew w1:=⟨_,rfl⟩
 have kb:Below w1.heap.size w1 w2:=by rw [hw]; exact (Below.refl _ _).drew
 rw [<-hw] at hHeld ⊢;clear hw;replace rf:=zaa rf kb;replace hB:=onS hB kb;clear kb
 refine tkq 0 (h:=tkq 1 (h:=tkq 2 (h:=tkq 3 (h:=tkq 4 (h:=tkq 6 (h:=tkq 7 (h:=tkq 8 (h:=tkq 9 (h:=tkq 10 (h:=?_))))))))))
 refine rdq 5 (h:=fun K hK=>?_)
 go_simp
 go_wp2_with fail
 refine (zcP x P M w2 hx6 hP1 hP6 hM6).mono ?_
 rintro e w3 ⟨ga,rfl,hga,ra,kb⟩
 replace rf:=zaa rf kb;replace hB:=onS hB kb;clear kb
 refine bkq hK ⟨qc0 rf,qc1 rf⟩ (h:=fun hHeld=>?_)
 clear hK K
 refine rdq 11 (h:=fun K hK=>?_)
 have hgs:=hB.size
 go_simp
 go_wp2_with fail
 refine (zcP y P M w3 hy6 hP1 hP6 hM6).mono ?_
 rintro e w4 ⟨gb,rfl,hgb,rb,kb⟩
 replace rf:=zaa rf kb;replace ra:=zaa ra kb;replace hB:=onS hB kb;clear kb
 refine bkq hK ⟨qc0 rf,qc1 rf⟩ (h:=fun hHeld=>?_)
 clear hK K
 refine tkq 12 (h:=tkq 13 (h:=?_))
 refine wpAnyH_done (by kernel_rfl) ?_ _
 clear hHeld
 obtain ⟨wA,hwA⟩:∃ W,W=w4:=⟨_,rfl⟩
 rw [<-hwA] at rf hB ra rb ⊢;clear hwA
 have q1:=qc1 rf
 go_upto_region 3 with fail
 have row:=World.rowIs_made wA (.int .i64 0) M 3
 have kb:=(Below.refl wA.heap.size wA).alloc (Nat.le_refl _) (Obj.cells (madeCells #[Value.int .i64 0] M) 3)
 obtain ⟨wB,hwB⟩:∃ W,W=wA.alloc (Obj.cells (madeCells #[Value.int .i64 0] M) 3):=⟨_,rfl⟩
 obtain ⟨g,hg⟩:∃ b,b=wA.heap.size:=⟨_,rfl⟩
 rw [<-hwB] at kb row ⊢;rw [<-hg] at row ⊢
 have hgA:wA.heap.size<=g:=by omega
 have hgw:w.heap.size≠g:=by have:=rf.lt; omega
 have HRF:=hid rf
 have HRA:=hid ra
 have HRB:=hid rb
 have HBA:=hid hB
 clear hwB hg q1 hmk rf ra rb hB
 have q1:wB.cell? ⟨w.heap.size,1,none⟩=some (.int .i64 (M:Nat)):=cellS kb (HRF.out.cell (i:=1) (by omega))
 have hsz1:(Tryz.prog.info? 3).map (·.size)=some 1:=by
  obtain ⟨i,hi,hzz⟩:=Option.map_eq_some_iff.1 Tryz.infoInt
  simp only [Prod.mk.injEq] at hzz
  rw [hi]
  simp [hzz.2.1]
 have HSZ1:=hid hsz1
 clear hsz1
 obtain ⟨L,hL⟩:∃ L,L=M - 1:=⟨_,rfl⟩
 have hLi:(M:Int) - 1=(L:Int):=by omega
 have hLM:L<M:=by omega
 have hLM':(L:Int)<(M:Int):=by omega
 have HL:=hid hL
 clear hL
 have HROW:=hid (row.congr (g:=fun j=>.int .i64 (hOut P M m (dig P x) (dig P y) 0 j:Nat)) fun _ _=>rfl)
 have HKB:=hid kb
 clear row
 go_wp2
 clear q1
 go_loopg [10,11,12,13] (M+1) (fun gg iv _ _ _ wx=>∃ s:Nat,iv=.int .i64 ((M:Int) - 1 - (s:Int))/\s<=M/\M+1<=s+gg/\Hid (wx.rowIs g 3 M (fun j=>.int .i64 (hOut P M m (dig P x) (dig P y) s j:Nat)))/\Hid (Below wA.heap.size wA wx))
 case atStart=>exact ⟨0,by rw [<-hLi]; simp,by omega,by omega,HROW,HKB⟩
 case round =>
  clear HROW HKB kb
  obtain ⟨s,rfl,hs,hsg,HROW,HKB⟩:=hrel
  by_cases hlt:s<M
  ·obtain ⟨i,hi⟩:∃ i,i=M - 1 - s:=⟨_,rfl⟩
   have hie:(M:Int) - 1 - (s:Int)=(i:Int):=by omega
   have hiM:i<M:=by omega
   have hiM':(i:Int)<(M:Int):=by omega
   have hi0:(0:Int)<=(i:Int):=by omega
   rw [hie]
   have HI:=hid hi
   have HIE:=hid hie
   clear hi hie
   obtain ⟨gO,hgO⟩:∃ x,x=gk:=⟨_,rfl⟩
   rw [<-hgO] at hsg
   obtain ⟨o,ho⟩:∃ o,o=hOut P M m (dig P x) (dig P y) s:=⟨_,rfl⟩
   have hol:∀ j,o j<P:=fun j=>by rw [ho]; exact zeh hP0 s j
   have row:=HROW.out
   rw [<-ho] at row
   have hnext:hOut P M m (dig P x) (dig P y) (s+1)=hStep P M m (dig P x) (dig P y i) o:=by rw [ho,HI.out]; rfl
   have HNX:=hid hnext
   have HOL:=hid hol
   clear ho hnext HROW hol
   obtain ⟨tp,htp⟩:∃ t,t=o L:=⟨_,rfl⟩
   have t0:=row.cell hLM
   rw [<-htp] at t0
   have htpP:tp<P:=by rw [htp]; exact HOL.out L
   have HTP:=hid htp
   clear htp
   have hwL:IntKind.i64.wrap (L:Int)=(L:Int):=IntWalk.i64_in _ (by omega)
   have hL0:(0:Int)<=(L:Int):=by omega
   have hLl:(L:Int)<=(M:Int):=by omega
   have hM1':(1:Int)<=(M:Int):=by omega
   obtain ⟨dp,hdp⟩:∃ dp:Option Addr,(if M=1 then some ⟨g,0,none⟩ else some ⟨g,1,none⟩:Option Addr)=dp:=⟨_,rfl⟩
   have HDP:Hid (0<L->dp=some ⟨g,1,none⟩):=fun h=>by rw [<-hdp,if_neg (by have:=HL.out; omega)]
   have hML:M - 1=L:=HL.out.symm
   have q1:wr.cell? ⟨w.heap.size,1,none⟩=some (.int .i64 (M:Nat)):=cellS HKB.out (HRF.out.cell (i:=1) (by omega))
   obtain ⟨w1,hw1⟩:∃ X,X=wr:=⟨_,rfl⟩
   rw [<-hw1] at HKB row t0 q1 ⊢;clear hw1
   go_wp2
   refine wp_region_held_drew (S:=fun w'=>w'.cell? ⟨w.heap.size,1,none⟩=some (.int .i64 (M:Nat))) (by kernel_rfl) (cellS (Below.refl _ _).drew (q1)) (fun hHeld=>?_)
   obtain ⟨w2,hw⟩:∃ W,W=World.drew w1:=⟨_,rfl⟩
   have kb:Below w1.heap.size w1 w2:=by rw [hw]; exact (Below.refl _ _).drew
   rw [<-hw] at hHeld ⊢;clear hw;replace row:=zaa row kb;replace q1:=cellS kb q1
   have HKB2:=hid (onS HKB.out kb)
   clear kb
   refine tkq 0 (h:=tkq 1 (h:=tkq 2 (h:=tkq 3 (h:=tkq 4 (h:=tkq 5 (h:=tkq 6 (h:=?_)))))))
   refine rdq 7 (h:=fun K hK=>?_)
   have row2:=row
   obtain ⟨cs,c1,c2,c3⟩:=row
   have HG1:Hid (w2.heap[g]?=some (.cells cs.toList.toArray 3 (0,0))):=by show _=_; simpa using c1
   have HPOS:Hid (0<((List.range L).map fun t=>Value.int .i64 (o t:Nat)).length->dp=some ⟨g,1,none⟩/\∃ ad,(some ⟨g,0,none⟩:Option Addr)=some ad/\∀ j v,((List.range L).map fun t=>Value.int .i64 (o t:Nat))[j]?=some v->w2.cell? (ad.add j)=some v):=fun h=>by
    refine ⟨HDP.out (by simpa using h),⟨g,0,none⟩,rfl,fun j v hv=>?_⟩
    rw [List.getElem?_map] at hv
    obtain ⟨t,ht,e⟩:=Option.map_eq_some_iff.1 hv
    obtain ⟨h1,h2⟩:=List.getElem?_eq_some_iff.1 ht
    rw [List.getElem_range] at h2
    subst h2 e
    rw [zbj,Nat.zero_add]
    exact row2.cell (by simp at h1; omega)
   have HLEN:Hid (((List.range L).map fun t=>Value.int .i64 (o t:Nat)).length=Nat.min L L):=by show _=_; simp
   have HFIT:Hid (1+((List.range L).map fun t=>Value.int .i64 (o t:Nat)).length<=cs.toList.length):=by show _<=_; simp; omega
   have HONE:Hid (∀ v ∈ (List.range L).map fun t=>Value.int .i64 (o t:Nat),v.oneCell'=true):=fun v hv=>by
    obtain ⟨t,_,rfl⟩:=List.mem_map.1 hv
    rfl
   refine step_copy_splice (cur:=cs.toList) (cs:=(List.range L).map fun t=>Value.int .i64 (o t:Nat)) (B:=wA.heap.size) (w0:=wA) (by rfl) (.tmp 43) (.tmp 48) 22 22 (by rfl) 3 Tryz.underlying22 HSZ1.out dp (some ⟨g,0,none⟩) L L L M (by rfl) (by rfl) g 1 3 HG1.out HLEN.out HPOS.out HFIT.out HONE.out HKB2.out hgA ?_
   intro w3 hg3 hb3
   have row:=zhA (F:=fun t=>.int .i64 (o t:Nat)) c2 (fun i hi=>c3 i hi) (show L+1=M by omega) hg3.out
   clear hg3 row2 c1 c2 c3 HG1 HPOS HLEN HFIT HONE
   have q19:w3.cell? ⟨w.heap.size,1,none⟩=some (.int .i64 (M:Nat)):=cellS hb3 (HRF.out.cell (i:=1) (by omega))
   clear q1
   have q1:=q19
   clear q19
   refine bkq hK q1 (h:=fun hHeld=>?_)
   clear hK K
   refine wpAnyH_done (by kernel_rfl) ?_ _
   clear hHeld
   obtain ⟨w4,hw4⟩:∃ X,X=w3:=⟨_,rfl⟩
   rw [<-hw4] at row hb3 ⊢;clear hw4
   have y0:=row.cell (i:=0) (by omega)
   have z0:=row.frozen 0
   have HROW4:=hid ((row.set 0 (.int .i64 0)).congr (g:=fun j=>.int .i64 (if j=0 then 0 else o (j - 1):Nat)) fun j _=>by
    by_cases e:j=0
    ·subst e; rfl
    ·rw [if_neg e,if_neg e,if_neg e])
   have HB4:=hid (hb3.setCell (p:=⟨g,0,none⟩) hgA (.int .i64 0))
   clear row hb3 q1
   have hM0:(0:Int)<(M:Int):=by omega
   go_wp2
   clear y0 z0
   obtain ⟨w5,hw5⟩:∃ X,X=w4.setCell ⟨g,0,none⟩ (.int .i64 0):=⟨_,rfl⟩
   rw [<-hw5] at HROW4 HB4 ⊢;clear hw5
   have HROW5:=hid (HROW4.out.congr (g:=fun t=>.int .i64 (if t<0 then hStep P M m (dig P x) (dig P y i) o t else if t=0 then 0 else o (t - 1):Nat)) fun _ _=>rfl)
   clear HROW4
   go_loopg [12,13,54] M (fun gg _ _ jv wx=>∃ j:Nat,jv=.int .i64 (j:Nat)/\j<=M/\M<=j+gg/\Hid (wx.rowIs g 3 M (fun t=>.int .i64 (if t<j then hStep P M m (dig P x) (dig P y i) o t else if t=0 then 0 else o (t - 1):Nat)))/\Hid (Below wA.heap.size wA wx))
   case atStart=>exact ⟨0,rfl,by omega,by omega,HROW5,HB4⟩
   case round =>
    clear HROW5 HB4
    obtain ⟨j,rfl,hj,hjg,HROW5,HB5⟩:=hrel
    by_cases hjl:j<M
    ·have hjl':(j:Int)<(M:Int):=by omega
     have hj0:(0:Int)<=(j:Int):=by omega
     have e0:=HROW5.out.cell hjl
     rw [if_neg (by omega)] at e0
     have z0:=HROW5.out.frozen j
     obtain ⟨v,hv⟩:∃ v,v=if j=0 then 0 else o (j - 1):=⟨_,rfl⟩
     rw [<-hv] at e0
     have hvP:v<P:=by
      rw [hv]
      split
      ·exact hP0
      ·exact HOL.out _
     have f0:wr.cell? ⟨ga,j,none⟩=some (.int .i64 (dig P x j:Nat)):=cellS HB5.out (HRA.out.cell hjl)
     have f1:wr.cell? ⟨gb,i,none⟩=some (.int .i64 (dig P y i:Nat)):=cellS HB5.out (HRB.out.cell hiM)
     obtain ⟨da,hda⟩:∃ d,d=dig P x j:=⟨_,rfl⟩
     obtain ⟨db,hdb⟩:∃ d,d=dig P y i:=⟨_,rfl⟩
     rw [<-hda] at f0;rw [<-hdb] at f1
     have hdaP:da<P:=by rw [hda]; exact zbT hP0 _ _
     have hdbP:db<P:=by rw [hdb]; exact zbT hP0 _ _
     have q0:wr.cell? ⟨w.heap.size,0,none⟩=some (.int .i64 (P:Nat)):=cellS HB5.out (HRF.out.cell (i:=0) (by omega))
     have q1:wr.cell? ⟨w.heap.size,1,none⟩=some (.int .i64 (M:Nat)):=cellS HB5.out (HRF.out.cell (i:=1) (by omega))
     have q2:wr.cell? ⟨w.heap.size,2,none⟩=some (.slice A k c):=cellS HB5.out (HRF.out.cell (i:=2) (by omega))
     have HV:=hid hv
     have HDA:=hid hda
     have HDB:=hid hdb
     clear hv hda hdb
     by_cases hM2:1<M
     ·have hM2':(M:Int) > 1:=by omega
      rcases hm with hm | ⟨hmr,hml⟩
      ·omega
      obtain rfl:M=k:=(hkM.resolve_left (by omega)).symm
      obtain ⟨mb,mo,hA,hmb,f2⟩:=hmr.at hjl
      subst hA
      obtain ⟨lo,hlo⟩:∃ l,l=m j:=⟨_,rfl⟩
      rw [<-hlo] at f2
      have hloP:lo<P:=by rw [hlo]; exact hml j hjl
      have HLO:=hid hlo
      have f29:=((onS HBA.out HB5.out).cell (p:=⟨mb,mo+j,none⟩) hmb).trans f2
      clear hlo f2 hmr hml
      obtain ⟨z,hz⟩:∃ z,z=v+(P - tp)*lo+db*da:=⟨_,rfl⟩
      obtain ⟨r,hr⟩:∃ r,r=z % P:=⟨_,rfl⟩
      have hrP:r<P:=by rw [hr]; exact Nat.mod_lt _ hP0
      have HRR:Hid (r=hStep P M m (dig P x) (dig P y i) o j):=by
       show _=_
       rw [hr,hz,HV.out,HDA.out,HDB.out,HTP.out,HL.out,HLO.out]
       unfold hStep
       rw [if_pos hM2]
      obtain ⟨R2,hR2⟩:∃ R,R=db*da:=⟨_,rfl⟩
      have hR2l:R2<=256*256:=by rw [hR2]; exact Nat.mul_le_mul (by omega) (by omega)
      have hm2:(db:Int)*(da:Int)=(R2:Int):=by rw [hR2]; simp
      obtain ⟨D1,hD1⟩:∃ D,D=P - tp:=⟨_,rfl⟩
      have hD1l:D1<=256:=by omega
      have hd1:(P:Int) - (tp:Int)=(D1:Int):=by omega
      obtain ⟨R1,hR1⟩:∃ R,R=D1*lo:=⟨_,rfl⟩
      have hR1l:R1<=256*256:=by rw [hR1]; exact Nat.mul_le_mul hD1l (by omega)
      have hm1:(D1:Int)*(lo:Int)=(R1:Int):=by rw [hR1]; simp
      obtain ⟨S1,hS1⟩:∃ S,S=v+R1:=⟨_,rfl⟩
      have hs1:(v:Int)+(R1:Int)=(S1:Int):=by omega
      have hw1:IntKind.i64.wrap (D1:Int)=(D1:Int):=IntWalk.i64_in _ (by omega)
      have hw2:IntKind.i64.wrap (R1:Int)=(R1:Int):=IntWalk.i64_in _ (by omega)
      have hw3:IntKind.i64.wrap (S1:Int)=(S1:Int):=IntWalk.i64_in _ (by omega)
      have hzz:z=S1+R2:=by rw [hz,hS1,hR1,hD1,hR2]
      have hs2:(S1:Int)+(R2:Int)=(z:Int):=by omega
      have hw4:IntKind.i64.wrap (R2:Int)=(R2:Int):=IntWalk.i64_in _ (by omega)
      have hw5:IntKind.i64.wrap (z:Int)=(z:Int):=IntWalk.i64_in _ (by omega)
      have hw6:IntKind.i64.wrap (r:Int)=(r:Int):=IntWalk.i64_in _ (by omega)
      have hrem:(z:Int) % (P:Int)=(r:Int):=by rw [hr]; simp
      have hz0:(0:Int)<=(z:Int):=by omega
      have hP0':¬ (P:Int)=0:=by omega
      have hPn:¬ P=0:=by omega
      have htm:(z:Int).tmod (P:Int)=(r:Int):=by rw [Int.tmod_eq_emod_of_nonneg hz0,hrem]
      have HRN:=hid ((HROW5.out.set j (.int .i64 (r:Nat))).congr (g:=fun t=>.int .i64 (if t<j+1 then hStep P M m (dig P x) (dig P y i) o t else if t=0 then 0 else o (t - 1):Nat)) fun t _=>by
       by_cases e:t=j
       ·subst e; rw [if_pos rfl,if_pos (by omega),HRR.out]
       ·rw [if_neg e]
        by_cases e2:t<j
        ·rw [if_pos e2,if_pos (show t<j+1 by omega)]
        ·rw [if_neg e2,if_neg (show ¬ t<j+1 by omega)])
      have HBN:=hid (HB5.out.setCell (p:=⟨g,j,none⟩) hgA (.int .i64 (r:Nat)))
      clear hz hr hR2 hzz HROW5 HB5 hD1 hR1 hS1
      go_wp2
      go_still_tail 27,(by kernel_rfl)
      change wpList _ _ _ _ _ wr.drew
      go_wp2
      go_roundg (gk - 1)
      case measure=>omega
      case rel=>exact ⟨j+1,by go_num,by omega,by omega,hid (show World.rowIs _ _ _ _ _ from HRN.out),hid (drewSet HBN.out)⟩
     ·have hM2':¬ (M:Int) > 1:=by omega
      obtain ⟨z,hz⟩:∃ z,z=v+(P - tp)*0+db*da:=⟨_,rfl⟩
      obtain ⟨r,hr⟩:∃ r,r=z % P:=⟨_,rfl⟩
      have hrP:r<P:=by rw [hr]; exact Nat.mod_lt _ hP0
      have HRR:Hid (r=hStep P M m (dig P x) (dig P y i) o j):=by
       show _=_
       rw [hr,hz,HV.out,HDA.out,HDB.out,HTP.out,HL.out]
       unfold hStep
       rw [if_neg (show ¬ 1<M by omega)]
      obtain ⟨R2,hR2⟩:∃ R,R=db*da:=⟨_,rfl⟩
      have hR2l:R2<=256*256:=by rw [hR2]; exact Nat.mul_le_mul (by omega) (by omega)
      have hm2:(db:Int)*(da:Int)=(R2:Int):=by rw [hR2]; simp
      have hw3:IntKind.i64.wrap (v:Int)=(v:Int):=IntWalk.i64_in _ (by omega)
      have hw1:IntKind.i64.wrap ((P:Int) - (tp:Int))=(P:Int) - (tp:Int):=IntWalk.i64_in _ (by omega)
      have hzz:z=v+R2:=by rw [hz,hR2,Nat.mul_zero,Nat.add_zero]
      have hs2:(v:Int)+(R2:Int)=(z:Int):=by omega
      have hw4:IntKind.i64.wrap (R2:Int)=(R2:Int):=IntWalk.i64_in _ (by omega)
      have hw5:IntKind.i64.wrap (z:Int)=(z:Int):=IntWalk.i64_in _ (by omega)
      have hw6:IntKind.i64.wrap (r:Int)=(r:Int):=IntWalk.i64_in _ (by omega)
      have hrem:(z:Int) % (P:Int)=(r:Int):=by rw [hr]; simp
      have hz0:(0:Int)<=(z:Int):=by omega
      have hP0':¬ (P:Int)=0:=by omega
      have hPn:¬ P=0:=by omega
      have htm:(z:Int).tmod (P:Int)=(r:Int):=by rw [Int.tmod_eq_emod_of_nonneg hz0,hrem]
      have HRN:=hid ((HROW5.out.set j (.int .i64 (r:Nat))).congr (g:=fun t=>.int .i64 (if t<j+1 then hStep P M m (dig P x) (dig P y i) o t else if t=0 then 0 else o (t - 1):Nat)) fun t _=>by
       by_cases e:t=j
       ·subst e; rw [if_pos rfl,if_pos (by omega),HRR.out]
       ·rw [if_neg e]
        by_cases e2:t<j
        ·rw [if_pos e2,if_pos (show t<j+1 by omega)]
        ·rw [if_neg e2,if_neg (show ¬ t<j+1 by omega)])
      have HBN:=hid (HB5.out.setCell (p:=⟨g,j,none⟩) hgA (.int .i64 (r:Nat)))
      clear hz hr hR2 hzz HROW5 HB5 
      go_wp2
      go_still_tail 27,(by kernel_rfl)
      change wpList _ _ _ _ _ wr.drew
      go_wp2
      go_roundg (gk - 1)
      case measure=>omega
      case rel=>exact ⟨j+1,by go_num,by omega,by omega,hid (show World.rowIs _ _ _ _ _ from HRN.out),hid (drewSet HBN.out)⟩
    ·have hjl':¬ (j:Int)<(M:Int):=by omega
     obtain rfl:j=M:=by omega
     have HRN:=hid (HROW5.out.congr (g:=fun t=>.int .i64 (hOut P j m (dig P x) (dig P y) (s+1) t:Nat)) fun t ht=>by rw [if_pos ht,HNX.out])
     clear HROW5
     go_wp2
     go_roundg (gO - 1)
     case measure=>omega
     case rel=>exact ⟨s+1,by have:=HIE.out; go_num,by omega,by omega,HRN,HB5⟩
  ·have hneg:¬ ((M:Int) - 1 - (s:Int)) ≥ 0:=by omega
   obtain rfl:s=M:=by omega
   have hri:=rowInts (f:=hOut P s m (dig P x) (dig P y) s) HROW.out
   have HRI:=hid hri
   have HLT:Hid (∀ i,i<s->hOut P s m (dig P x) (dig P y) s i<P):=fun i _=>zeh hP0 s i
   have hBf:=onS HBA.out HKB.out
   have q0:wr.cell? ⟨w.heap.size,0,none⟩=some (.int .i64 (P:Nat)):=cellS HKB.out (HRF.out.cell (i:=0) (by omega))
   clear hri HROW
   go_wp2_with fail
   refine (zfL P (some ⟨g,0,none⟩) s s _ wr hP2 hP6 HRI.out HLT (HQ.out) hM8).mono ?_
   rintro e w9 ⟨rfl,kb⟩
   rw [HEQ.out]
   have hB9:=onS hBf kb
   clear kb q0 hBf
   obtain ⟨V,hV⟩:∃ V,V=mulF P s m x y:=⟨_,rfl⟩
   rw [<-hV]
   have HVV:=hid hV
   clear hV HEQ
   go_wp2
   go_ret
   exact ⟨by rw [HVV.out]; rfl,hB9⟩
theorem zaL {w:World} {base g m n s:Nat} {t e:TypeId} {F:Nat->Value} {v:Value} {f:Nat->Nat->Value} (hr:w.rowIs g t m F) (h:Own w base e s v n f) (hne:t≠e):v.ownBlock=none∨v.ownBlock≠some g:=by
 rcases h with ⟨rfl,_⟩ | ⟨b,o,cap,cur,rfl,_,hg,_⟩
 ·exact .inl rfl
 ·refine .inr fun e1=>?_
  obtain ⟨cs,h1,_⟩:=hr
  simp [Value.ownBlock] at e1
  subst e1
  rw [hg] at h1
  injection h1 with h1
  injection h1 with _ h1
  exact hne h1.symm
def pwG (mul:Nat->Nat->Nat) (x:Nat):Nat->Nat
 | 0=>1
 | 1=>x
 | n+2=>mul (pwG mul x (n+1)) x
theorem ziR (mul:Nat->Nat->Nat) (x:Nat) {n:Nat} (h:1<=n):pwG mul x (n+1)=mul (pwG mul x n) x:=by
 obtain ⟨k,rfl⟩:∃ k,n=k+1:=⟨n - 1,by omega⟩
 rfl
def seenB (p:Nat->Nat):Nat->Nat->Bool
 | 0,_=>false
 | n+1,t=>if t=p n then true else seenB p n t
theorem zdF (p:Nat->Nat) (t:Nat):∀ n,seenB p n t=true↔∃ i,i<n/\p i=t
 | 0=>⟨(fun h=>by cases h),(fun ⟨i,hi,_⟩=>by omega)⟩
 | n + 1 => by
  have ih:=zdF p t n
  show (if t=p n then true else seenB p n t)=true↔_
  by_cases e:t=p n
  ·rw [if_pos e]
   exact ⟨fun _=>⟨n,by omega,e.symm⟩,fun _=>rfl⟩
  ·rw [if_neg e,ih]
   constructor
   ·rintro ⟨i,hi,h⟩; exact ⟨i,by omega,h⟩
   ·rintro ⟨i,hi,h⟩
    by_cases e2:i=n
    ·subst e2; exact absurd h.symm e
    ·exact ⟨i,by omega,h⟩
structure PwOk (q:Nat) (p:Nat->Nat) (n:Nat):Prop where
 ne:∀ i,i<n->p i≠0
 lt:∀ i,i<n->p i<q
 inj:∀ i j,i<j->j<n->p i≠p j
theorem PwOk.le {q n:Nat} {p:Nat->Nat} (h:PwOk q p n) (hq:1<=q):n<=q - 1 :=
 pigeon (f:=fun i=>p i - 1) (fun i hi=>by have:=h.ne i hi; have:=h.lt i hi; show p i - 1<q - 1; omega) fun i k hi hk e=>by
  have:=h.ne i hi
  have:=h.ne k hk
  have e2:p i=p k:=by have e':p i - 1=p k - 1:=e; omega
  rcases Nat.lt_trichotomy i k with h1 | h1 | h1
  ·exact absurd e2 (h.inj i k h1 hk)
  ·exact h1
  ·exact absurd e2.symm (h.inj k i h1 hi)
theorem PwOk.next {q n:Nat} {p:Nat->Nat} (h:PwOk q p n) (h1:p n≠0) (h2:p n<q) (h3:seenB p n (p n)=false):PwOk q p (n+1):=by
 have hs:∀ i,i<n->p i≠p n:=fun i hi e=>by
  have:=(zdF p (p n) n).2 ⟨i,hi,e⟩
  rw [h3] at this
  cases this
 refine ⟨fun i hi=>?_,fun i hi=>?_,fun i j hij hj=>?_⟩
 ·by_cases e:i=n
  ·subst e; exact h1
  ·exact h.ne i (by omega)
 ·by_cases e:i=n
  ·subst e; exact h2
  ·exact h.lt i (by omega)
 ·by_cases e:j=n
  ·subst e; exact hs i hij
  ·exact h.inj i j hij (by omega)
def PowersPost (q:Nat) (p:Nat->Nat) (w:World) (e:Ending) (w':World):Prop :=
 ∃ lv L,e=.returned lv/\1<=L/\Own w' w.heap.size 3 1 lv L (fun i _=>.int .i64 (p i:Nat))/\Below w.heap.size w w'/\PwOk q p L/\(p L=0∨seenB p L (p L)=true)
theorem zgF (P M:Nat) (A:Option Addr) (k c:Nat) (m:Nat->Nat) (q x:Nat) (w:World) (hf:FldOk P M) (hm:ModOk w P M A m) (hkM:M=1∨k=M) (hq:q=P ^ M) (hx1:1<=x) (hx:x<q) :
    Calls Tryz.prog 211 #[.agg #[.int .i64 (P:Nat),.int .i64 (M:Nat),.slice A k c],.int .i64 (q:Nat),.int .i64 (x:Nat)] w (PowersPost q (pwG (mulF P M m) x) w):=by
  have hP0:0<P:=by have:=hf.1; omega
  have hq6:q<=256:=by rw [hq]; exact hf.2.2.2
  have hq2:2<=q:=by omega
  have HMUL:Hid (∀ a,mulF P M m a x<q):=fun a=>by rw [hq]; exact zaU hP0 a x
  have HQ:=hid hq
  clear hq
  have hB:Below w.heap.size w (w.alloc (.cells #[.int .i64 (P:Nat),.int .i64 (M:Nat),.slice A k c] 24)):=(Below.refl _ _).alloc (Nat.le_refl _) _
  have rf:=zad (w:=w) (a:=.int .i64 (P:Nat)) (b:=.int .i64 (M:Nat)) (c:=.slice A k c) (T := 24)
  obtain ⟨w0,hw0⟩:∃ W,W=w.alloc (.cells #[.int .i64 (P:Nat),.int .i64 (M:Nat),.slice A k c] 24):=⟨_,rfl⟩
  rw [<-hw0] at hB rf
  have hmk:=fun W=>zaf (P:=Tryz.prog) 66 4 _ 1 Tryz.underlying66 Tryz.infoBool rfl (q:Int) (by omega) (by omega) (by omega) W
  simp only [Int.toNat_natCast] at hmk
  go_enter Tryz.func211, Tryz.ntmps211
  go_upto_region 1 with fail
  rw [<-hw0];clear hw0
  have hfl:=rf.lt
  go_upto_region 2 with fail
  have kb:=(Below.refl w0.heap.size w0).alloc (Nat.le_refl _) (Obj.cells #[Value.int .i64 1] 3)
  have r1:(w0.alloc (Obj.cells #[Value.int .i64 1] 3)).rowIs w0.heap.size 3 1 (fun i=>.int .i64 (pwG (mulF P M m) x i:Nat)):=⟨_,zaw rfl,rfl,fun i hi=>by
    obtain rfl:i=0:=by omega
    rfl⟩
  have hO:=zau r1 (show w.heap.size+1<=w0.heap.size from hfl) (by unfold maxLen; omega)
  obtain ⟨w1,hw1⟩:∃ W,W=w0.alloc (Obj.cells #[Value.int .i64 1] 3):=⟨_,rfl⟩
  obtain ⟨b1,hb1⟩:∃ b,b=w0.heap.size:=⟨_,rfl⟩
  rw [<-hw1] at kb hO ⊢;rw [<-hb1] at hO ⊢;replace rf:=zaa rf kb;replace hB:=onS hB kb
  have hfl1:=rf.lt
  clear kb r1 hw1 hb1 hfl
  go_upto_region 3 with fail
  have kb:=(Below.refl w1.heap.size w1).alloc (Nat.le_refl _) (Obj.cells (madeCells #[Value.bool false] q) 4)
  have rs:=World.rowIs_made w1 (.bool false) q 4
  obtain ⟨w2,hw2⟩:∃ W,W=w1.alloc (Obj.cells (madeCells #[Value.bool false] q) 4):=⟨_,rfl⟩
  obtain ⟨g,hg⟩:∃ b,b=w1.heap.size:=⟨_,rfl⟩
  rw [<-hw2] at kb rs ⊢;rw [<-hg] at rs ⊢
  have hgB:w.heap.size+1<=g:=by omega
  replace rf:=zaa rf kb;replace hB:=onS hB kb;replace hO:=hO.on kb;clear kb hw2 hg hmk hfl1
  have y0:=rs.cell (i:=1) (by omega)
  have z0:=rs.frozen 1
  have hq1':(1:Int)<(q:Int):=by omega
  have HRS:=hid ((rs.set 1 (.bool true)).congr (g:=fun t=>.bool (seenB (pwG (mulF P M m) x) 1 t)) fun t _=>by
    show (if t=1 then Value.bool true else .bool false)=.bool (if t=1 then true else false)
    split <;> rfl)
  have HRF:=hid (rf.setOther (a:=⟨g,1,none⟩) (by simp; omega) (.bool true))
  have HB2:=hid (hB.setCell (p:=⟨g,1,none⟩) (by show w.heap.size<=g; omega) (.bool true))
  have HO2:=hid (hO.setCell (a:=⟨g,1,none⟩) (fun e=>(zaL rs hO (by decide)).elim (fun h=>by rw [h] at e; cases e) fun h=>h e) (.bool true))
  clear rs rf hB hO
  go_wp2
  clear y0 z0
  obtain ⟨w3,hw3⟩:∃ W,W=w2.setCell ⟨g,1,none⟩ (.bool true):=⟨_,rfl⟩
  rw [<-hw3] at HRS HRF HB2 HO2 ⊢;clear hw3
  obtain ⟨p,hp⟩:∃ p,p=pwG (mulF P M m) x:=⟨_,rfl⟩
  have hp1:p 1=x:=by rw [hp]; rfl
  have hpn:∀ n,1<=n->p (n+1)=mulF P M m (p n) x:=fun n hn=>by rw [hp]; exact ziR _ _ hn
  have hok:PwOk q p 1:=by
    rw [hp]
    exact ⟨fun i hi => by obtain rfl : i = 0 := by omega
                          exact Nat.one_ne_zero, fun i hi => by obtain rfl : i = 0 := by omega
                                                                exact hq2,fun i j h1 h2=>by omega⟩
  rw [<-hp] at HRS HO2 ⊢
  have HPN:=hid hpn
  have HOK:=hid hok
  have HP1:=hid hp1
  have HPE:=hid hp
  clear hp hp1 hpn hok
  go_loopg [7,9] q (fun gg ov yv wx=>∃ L y:Nat,yv=.int .i64 (y:Nat)/\1<=L/\L<q/\q<=L+gg/\y<q/\Hid (y=p L)/\Hid (PwOk q p L)/\Hid (Own wx (w.heap.size+1) 3 1 ov L (fun i _=>.int .i64 (p i:Nat)))/\Hid (wx.rowIs g 4 q (fun t=>.bool (seenB p L t)))/\Hid (wx.rowIs w.heap.size 24 3 (fldCell (.int .i64 (P:Nat)) (.int .i64 (M:Nat)) (.slice A k c)))/\Hid (Below w.heap.size w wx))
  case atStart=>exact ⟨1,x,rfl,by omega,by omega,by omega,hx,HP1.out.symm,HOK,HO2,HRS,HRF,HB2⟩
  case round =>
    clear HO2 HRS HRF HB2 HOK
    obtain ⟨L,y,rfl,hL1,hLq,hgk,hyq,HY,HOK,HO,HRS,HRF,HBB⟩:=hrel
    have hy0:(0:Int)<=(y:Int):=by omega
    have hyq':(y:Int)<(q:Int):=by omega
    by_cases hyz:y=0
    · have hz:((y:Int) != 0)=false:=by simp [hyz]
      have HEND:Hid (p L=0∨seenB p L (p L)=true):=.inl (by rw [<-HY.out]; exact hyz)
      clear hyz
      go_wp2
      go_ret
      have e:=HPE.out
      subst e
      exact ⟨_,L,rfl,hL1,HO.out.mono (Nat.le_succ _),HBB.out,HOK.out,HEND.out⟩
    · have hz:((y:Int) != 0)=true:=by simp; omega
      have s0:=HRS.out.cell (i:=y) hyq
      obtain ⟨sb,hsb⟩:∃ b,b=seenB p L y:=⟨_,rfl⟩
      rw [<-hsb] at s0
      have HSB:=hid hsb
      have HYZ:=hid hyz
      clear hsb hyz
      cases sb
      · have HOK2:=hid (HOK.out.next (by rw [<-HY.out]; exact HYZ.out) (by rw [<-HY.out]; exact hyq) (by rw [<-HY.out]; exact HSB.out.symm))
        have hLq2:L+1<q:=by have:=HOK2.out.le (by omega); omega
        have z0:=HRS.out.frozen y
        have rs:=HRS.out.set y (.bool true)
        have HRS2:=hid (rs.congr (g:=fun t=>.bool (seenB p (L+1) t)) fun t _=>by
          show (if t=y then Value.bool true else .bool (seenB p L t))=.bool (if t=p L then true else seenB p L t)
          rw [<-HY.out]
          split <;> rfl)
        have HRF2:=hid (HRF.out.setOther (a:=⟨g,y,none⟩) (by simp; omega) (.bool true))
        have HBB2:=hid (HBB.out.setCell (p:=⟨g,y,none⟩) (by show w.heap.size<=g; omega) (.bool true))
        have HO2:=hid (HO.out.setCell (a:=⟨g,y,none⟩) (fun e=>(zaL HRS.out HO.out (by decide)).elim (fun h=>by rw [h] at e; cases e) fun h=>h e) (.bool true))
        clear rs HRS HRF HBB HO
        go_upto_region 8 with fail
        clear z0 s0
        obtain ⟨w4,hw4⟩:∃ W,W=wr.setCell ⟨g,y,none⟩ (.bool true):=⟨_,rfl⟩
        rw [<-hw4] at HRS2 HRF2 HBB2 HO2 ⊢;clear hw4
        have kb:=(Below.refl w4.heap.size w4).alloc (Nat.le_refl _) (Obj.cells #[Value.int .i64 (y:Nat)] 3)
        have HO8:=hid (HO2.out.on kb)
        have HRS8:=hid (zaa HRS2.out kb)
        have HRF8:=hid (zaa HRF2.out kb)
        have HB8:=hid (onS HBB2.out kb)
        have HC8:Hid ((w4.alloc (Obj.cells #[Value.int .i64 (y:Nat)] 3)).cell? ((⟨w4.heap.size,0,none⟩:Addr).add 0)=some (.int .i64 (y:Nat))):=tbox2
        have HZ8:Hid (w.heap.size+1<=(w4.alloc (Obj.cells #[Value.int .i64 (y:Nat)] 3)).heap.size):=HRF8.out.lt
        have HLL:Hid (L<=1048576):=by show _<=_; omega
        clear kb HO2 HRS2 HRF2 HBB2
        go_upto_region 6 with (first | (at_builtin; (refine zaA rfl (.tmp 32) (.tmp 34) rfl HO8.out rfl (ad:=⟨w4.heap.size,0,none⟩) (c:=1) rfl HC8.out HZ8.out HLL.out ?_); intro v9 w9 o1 o2 o3))
        have HO9:=hid (o1.congr (f':=fun i _=>.int .i64 (p i:Nat)) fun i _ _ _=>by
          by_cases e:i=L
          · subst e; rw [if_pos rfl,HY.out]
          · rw [if_neg e])
        have HRS9:=hid (HRS8.out.of_block (o2.block _ HRS8.out.lt fun e=>(zaL HRS8.out HO8.out (by decide)).elim (fun h=>by rw [h] at e; cases e) fun h=>h e.symm))
        have HRF9:=hid (HRF8.out.of_block (o2.block _ HRF8.out.lt fun e=>by have:=(HO8.out.lt _ e.symm).1; omega))
        have HB9:=hid (HB8.out.grown o2 (Nat.le_of_succ_le HZ8.out) fun q e=>by have:=(HO8.out.lt q e).1; omega)
        clear o1 o2 o3 HO8 HRS8 HRF8 HB8 HC8 HZ8
        have q0:=qc0 HRF9.out
        have q1:=qc1 HRF9.out
        have q2:=qc2 HRF9.out
        go_wp2_with fail
        refine (zcQ P M A k c m y x w9 hf (zav hm HB9.out) hkM (by rw [<-HQ.out]; exact hyq) (by rw [<-HQ.out]; exact hx)).mono ?_
        rintro e w10 ⟨rfl,kb⟩
        obtain ⟨y',hy'⟩:∃ y',y'=mulF P M m y x:=⟨_,rfl⟩
        rw [<-hy']
        have hyq2:y'<q:=by rw [hy']; exact HMUL.out y
        have HY2:Hid (y'=p (L+1)):=by show _=_; rw [hy',HPN.out L hL1,<-HY.out]
        have HO10:=hid (HO9.out.on kb)
        have HRS10:=hid (zaa HRS9.out kb)
        have HRF10:=hid (zaa HRF9.out kb)
        have HB10:=hid (onS HB9.out kb)
        clear kb q0 q1 q2 hy' HO9 HRS9 HRF9 HB9
        go_wp2
        go_roundg (gk - 1)
        case measure=>omega
        case rel=>exact ⟨L+1,y',rfl,by omega,hLq2,by omega,hyq2,HY2,HOK2,HO10,HRS10,HRF10,HB10⟩
      · have HEND:Hid (p L=0∨seenB p L (p L)=true):=.inr (by rw [<-HY.out]; exact HSB.out.symm)
        go_wp2
        go_ret
        have e:=HPE.out
        subst e
        exact ⟨_,L,rfl,hL1,HO.out.mono (Nat.le_succ _),HBB.out,HOK.out,HEND.out⟩
def GenX (q:Nat) (mul:Nat->Nat->Nat) (x:Nat):Prop:=PwOk q (pwG mul x) (q - 1)/\mul (pwG mul x (q - 2)) x=1
theorem zgG {q L:Nat} {p:Nat->Nat} (hq:1<=q) (h:PwOk q p L) (hs:p L=0∨seenB p L (p L)=true) (hg:PwOk q p (q - 1)):L=q - 1:=by
 have h1:=h.le hq
 refine Classical.byContradiction fun hne=>?_
 have hlt:L<q - 1:=by omega
 rcases hs with hs | hs
 ·exact hg.ne L hlt hs
 ·obtain ⟨i,hi,e⟩:=(zdF p (p L) L).1 hs
  exact hg.inj i L hi hlt e
def GenrPost (q:Nat) (mul:Nat->Nat->Nat) (w:World) (e:Ending) (w':World):Prop :=
 Below w.heap.size w w'/\((e=.returned (.slice none 0 0)/\∀ x,1<=x->x<q->¬ GenX q mul x) ∨
  ∃ lv x,e=.returned lv/\1<=x/\x<q/\GenX q mul x/\Own w' w.heap.size 3 1 lv (q - 1) (fun i _=>.int .i64 (pwG mul x i:Nat)))
theorem zcp (P M:Nat) (A:Option Addr) (k c:Nat) (m:Nat->Nat) (q:Nat) (w:World) (hf:FldOk P M) (hm:ModOk w P M A m) (hkM:M=1∨k=M) (hq:q=P ^ M) :
  Calls Tryz.prog 147 #[.agg #[.int .i64 (P:Nat),.int .i64 (M:Nat),.slice A k c],.int .i64 (q:Nat)] w (GenrPost q (mulF P M m) w):=by
 have hP0:0<P:=by have:=hf.1; omega
 have hq6:q<=256:=by rw [hq]; exact hf.2.2.2
 have hq2:2<=q:=by
  have h1:=hf.1
  have h2:=Nat.pow_le_pow_right hP0 hf.2.1
  rw [Nat.pow_one] at h2
  omega
 obtain ⟨Q1,hQ1⟩:∃ x,x=q - 1:=⟨_,rfl⟩
 obtain ⟨Q2,hQ2⟩:∃ x,x=q - 2:=⟨_,rfl⟩
 have hQ1i:(q:Int) - 1=(Q1:Int):=by omega
 have hQ2i:(q:Int) - 2=(Q2:Int):=by omega
 have hQ21:Q2<Q1:=by omega
 have HQ1:=hid hQ1
 have HQ2:=hid hQ2
 have HQ:=hid hq
 clear hq hQ1 hQ2
 have hB:Below w.heap.size w (w.alloc (.cells #[.int .i64 (P:Nat),.int .i64 (M:Nat),.slice A k c] 24)):=(Below.refl _ _).alloc (Nat.le_refl _) _
 have rf:=zad (w:=w) (a:=.int .i64 (P:Nat)) (b:=.int .i64 (M:Nat)) (c:=.slice A k c) (T := 24)
 obtain ⟨w0,hw0⟩:∃ W,W=w.alloc (.cells #[.int .i64 (P:Nat),.int .i64 (M:Nat),.slice A k c] 24):=⟨_,rfl⟩
 rw [<-hw0] at hB rf
 go_enter Tryz.func147, Tryz.ntmps147
 go_upto_region 1 with fail
 rw [<-hw0];clear hw0
 go_wp2
 go_loopg [5,6] q (fun gg xv _ wx=>∃ x:Nat,xv=.int .i64 (x:Nat)/\1<=x/\x<=q/\q<=x+gg/\Hid (∀ y,1<=y->y<x->¬ GenX q (mulF P M m) y)/\wx.rowIs w.heap.size 24 3 (fldCell (.int .i64 (P:Nat)) (.int .i64 (M:Nat)) (.slice A k c))/\Below w.heap.size w wx)
 case atStart=>exact ⟨1,rfl,by omega,by omega,by omega,fun y h1 h2=>absurd h1 (by omega),rf,hB⟩
 case round =>
  clear rf hB
  obtain ⟨x,rfl,hx1,hxq,hxg,HNO,rf,hB⟩:=hrel
  by_cases hlt:x<q
  ·have hlt':(x:Int)<(q:Int):=by omega
   have q0:=qc0 rf
   have q1:=qc1 rf
   have q2:=qc2 rf
   go_wp2_with fail
   refine (zgF P M A k c m q x wr hf (zav hm hB) hkM HQ.out hx1 hlt).mono ?_
   rintro e w1 ⟨lv,L,rfl,hL1,hO,kb,hok,hend⟩
   have HO:=hid (hO.mono hB.size)
   replace rf:=zaa rf kb;replace hB:=onS hB kb
   have HOK:=hid hok
   have HEND:=hid hend
   have hLq:=hok.le (by omega)
   clear kb q0 q1 q2 hO hok hend
   obtain ⟨LA,lc,hlv⟩:=HO.out.shape
   subst hlv
   by_cases hL:L=Q1
   ·have hLe:((L:Int) == (Q1:Int))=true:=by simp [hL]
    subst hL
    obtain ⟨pb,po,hLA,hpb,x0⟩:=(show IntsR w1 w1.heap.size LA L (fun i=>((pwG (mulF P M m) x i:Nat):Int)) from HO.out.rd rfl).at (i:=Q2) hQ21
    subst hLA
    obtain ⟨z,hz⟩:∃ z,z=pwG (mulF P M m) x Q2:=⟨_,rfl⟩
    rw [<-hz] at x0
    have hzq:z<q:=by rw [hz]; exact HOK.out.lt Q2 hQ21
    have HZ:=hid hz
    clear hz
    have hQ21':(Q2:Int)<(L:Int):=by omega
    have hQ20:(0:Int)<=(Q2:Int):=by omega
    have hwQ1:IntKind.i64.wrap (L:Int)=(L:Int):=IntWalk.i64_in _ (by omega)
    have hwQ2:IntKind.i64.wrap (Q2:Int)=(Q2:Int):=IntWalk.i64_in _ (by omega)
    go_wp2
    refine wp_region_held_drew (S:=fun w'=>w'.cell? ⟨w.heap.size,0,none⟩=some (.int .i64 (P:Nat))/\w'.cell? ⟨w.heap.size,1,none⟩=some (.int .i64 (M:Nat))/\w'.cell? ⟨w.heap.size,2,none⟩=some (.slice A k c)/\w'.cell? ⟨pb,po+Q2,none⟩=some (.int .i64 (z:Nat))) (by kernel_rfl) ⟨cellS (Below.refl _ _).drew (rf.cell (i:=0) (by omega)),cellS (Below.refl _ _).drew (rf.cell (i:=1) (by omega)),cellS (Below.refl _ _).drew (rf.cell (i:=2) (by omega)),cellS (Below.refl _ _).drew (x0)⟩ (fun hHeld=>?_)
    obtain ⟨w2,hw⟩:∃ W,W=World.drew w1:=⟨_,rfl⟩
    have kb:Below w1.heap.size w1 w2:=by rw [hw]; exact (Below.refl _ _).drew
    rw [<-hw] at hHeld ⊢;clear hw;replace rf:=zaa rf kb;replace hB:=onS hB kb;replace x0:=cellS kb x0
    have HKA:=hid kb
    clear kb
    refine tkq 0 (h:=tkq 1 (h:=tkq 2 (h:=tkq 3 (h:=tkq 4 (h:=tkq 5 (h:=tkq 6 (h:=tkq 7 (h:=tkq 8 (h:=tkq 9 (h:=tkq 10 (h:=tkq 11 (h:=tkq 12 (h:=?_)))))))))))))
    refine rdq 13 (h:=fun K hK=>?_)
    go_simp
    go_wp2_with fail
    refine (zcQ P M A k c m z x w2 hf (zav hm hB) hkM (by rw [<-HQ.out]; exact hzq) (by rw [<-HQ.out]; exact hlt)).mono ?_
    rintro e w3 ⟨rfl,kb⟩
    replace rf:=zaa rf kb;replace hB:=onS hB kb;replace x0:=cellS kb x0
    have HKB:=hid (onS HKA.out kb)
    clear kb
    obtain ⟨y,hy⟩:∃ y,y=mulF P M m z x:=⟨_,rfl⟩
    rw [<-hy]
    have HY:=hid hy
    have HO9:=hid True.intro
    clear hy
    refine bkq hK ⟨qc0 rf,qc1 rf,qc2 rf,x0⟩ (h:=fun hHeld=>?_)
    clear hK K
    refine tkq 14 (h:=tkq 15 (h:=?_))
    refine wpAnyH_done (by kernel_rfl) ?_ _
    clear hHeld
    by_cases hy1:y=1
    ·have hy1':((y:Int) == 1)=true:=by simp [hy1]
     have HG:Hid (GenX q (mulF P M m) x):=⟨by rw [<-HQ1.out]; exact HOK.out,by rw [<-HQ2.out,<-HZ.out,<-HY.out]; exact hy1⟩
     have HOF:=hid (HO.out.on HKB.out)
     clear hy1 x0
     go_wp2
     go_ret
     exact ⟨hB,.inr ⟨_,x,rfl,hx1,hlt,HG.out,by rw [<-HQ1.out]; exact HOF.out⟩⟩
    ·have hy1':((y:Int) == 1)=false:=by simp; omega
     have HNX:Hid (∀ y',1<=y'->y'<x+1->¬ GenX q (mulF P M m) y'):=fun y' h1 h2 hg=>by
      by_cases e:y'=x
      ·subst e
       exact hy1 (by rw [HY.out,HZ.out,HQ2.out]; exact hg.2)
      ·exact HNO.out y' h1 (by omega) hg
     clear hy1 x0
     go_wp2
     go_roundg (gk - 1)
     case measure=>omega
     case rel=>exact ⟨x+1,by go_num,by omega,by omega,by omega,HNX,rf,hB⟩
   ·have hLe:((L:Int) == (Q1:Int))=false:=by simp; omega
    have hwQ1:IntKind.i64.wrap (Q1:Int)=(Q1:Int):=IntWalk.i64_in _ (by omega)
    have HNX:Hid (∀ y,1<=y->y<x+1->¬ GenX q (mulF P M m) y):=fun y h1 h2 hg=>by
     by_cases e:y=x
     ·subst e
      exact hL (by rw [HQ1.out]; exact zgG (by omega) HOK.out HEND.out hg.1)
     ·exact HNO.out y h1 (by omega) hg
    clear hL
    go_wp2
    go_quiet (fail)
    go_wp2
    go_roundg (gk - 1)
    case measure=>omega
    case rel=>exact ⟨x+1,by go_num,by omega,by omega,by omega,HNX,zbi rf _,zac hB _⟩
  ·have hlt':¬ (x:Int)<(q:Int):=by omega
   obtain rfl:x=q:=by omega
   go_wp2
   go_ret
   exact ⟨hB,.inl ⟨rfl,HNO.out⟩⟩
structure RingM (q:Nat) (mul:Nat->Nat->Nat):Prop where
 two:2<=q
 lt:∀ x y,mul x y<q
 comm:∀ x y,x<q->y<q->mul x y=mul y x
 assoc:∀ x y z,x<q->y<q->z<q->mul (mul x y) z=mul x (mul y z)
 one:∀ x,x<q->mul 1 x=x
theorem ringM {P M:Nat} (m:Nat->Nat) (h:FldOk P M):RingM (P ^ M) (mulF P M m):=by
 obtain ⟨hP2,hM,_,_⟩:=h
 have hP0:0<P:=by omega
 have hq:P<=P ^ M:=by
  have:=Nat.pow_le_pow_right hP0 hM
  simpa using this
 have one:∀ j,dgt P 1 j=one0 j:=fun j=>by
  unfold dgt one0
  cases j with
  | zero=>rw [zct,Nat.mod_eq_of_lt (by omega)]; rfl
  | succ j=>rw [zdj,Nat.div_eq_of_lt (by omega),zbJ]; rfl
 have mD:=fun (x y j:Nat) (hj:j<M)=>zds (P:=P) (m:=m) hP0 hM x y hj
 refine ⟨by omega,fun x y=>zaU hP0 x y,fun x y hx hy=>?_,fun x y z hx hy hz=>?_,fun x hx=>?_⟩
 ·refine zbs hP0 (zaU hP0 _ _) (zaU hP0 _ _) fun j hj=>?_
  exact (mD _ _ j hj).trans ((zbH (by rw [zaW])).trans (mD _ _ j hj).symm)
 ·refine zbs hP0 (zaU hP0 _ _) (zaU hP0 _ _) fun j hj=>?_
  refine (mD _ _ j hj).trans ((zbw (fun i hi=>mD _ _ i hi) (fun i _=>zaq _) j).trans ?_)
  rw [zbZ hM]
  exact ((mD _ _ j hj).trans (zbw (fun i _=>zaq _) (fun i hi=>mD _ _ i hi) j)).symm
 ·refine zbs hP0 (zaU hP0 _ _) hx fun j hj=>?_
  refine (mD _ _ j hj).trans (zbH ?_)
  rw [show dgt P 1=one0 from funext one,zdr _ hj]
section
variable {q x:Nat} {mul:Nat->Nat->Nat}
theorem zgH (hR:RingM q mul) (hx:x<q) (h:GenX q mul x) {n:Nat} (hn:n<q - 1):mul (pwG mul x n) x=pwG mul x ((n+1) % (q - 1)):=by
 have h2:=hR.two
 by_cases e:n+1=q - 1
 ·rw [e,Nat.mod_self]
  have:n=q - 2:=by omega
  rw [this]
  exact h.2
 ·rw [Nat.mod_eq_of_lt (by omega)]
  cases n with
  | zero=>exact hR.one x hx
  | succ n=>rfl
theorem zfj (hR:RingM q mul) (hx:x<q) (h:GenX q mul x) {i:Nat} (hi:i<q - 1):∀ j,j<q - 1->mul (pwG mul x i) (pwG mul x j)=pwG mul x ((i+j) % (q - 1))
 | 0,_=>by
  have h2:=hR.two
  rw [Nat.add_zero,Nat.mod_eq_of_lt hi]
  show mul (pwG mul x i) 1=_
  rw [hR.comm _ _ (h.1.lt i hi) (by omega),hR.one _ (h.1.lt i hi)]
 | j + 1, hj => by
  have h2:=hR.two
  have e:pwG mul x (j+1)=mul (pwG mul x j) x:=by
   rw [zgH hR hx h (by omega),Nat.mod_eq_of_lt hj]
  rw [e,<-hR.assoc _ _ _ (h.1.lt i hi) (h.1.lt j (by omega)) hx,zfj hR hx h hi j (by omega),zgH hR hx h (Nat.mod_lt _ (by omega)),Nat.mod_add_mod]
  rfl
theorem zei (h2:2<=q) (h:PwOk q (pwG mul x) (q - 1)) {y:Nat} (hy0:y≠0) (hy:y<q):∃ i,i<q - 1/\pwG mul x i=y:=by
 refine Classical.byContradiction fun hno=>?_
 have hne:∀ i,i<q - 1->pwG mul x i≠y:=fun i hi e=>hno ⟨i,hi,e⟩
 have:=pigeon (M:=q) (N:=q - 1) (f:=fun i=>if i<q - 1 then pwG mul x i - 1 else y - 1) (fun i hi=>by
  show (if i<q - 1 then pwG mul x i - 1 else y - 1)<q - 1
  split
  ·rename_i h1
   have:=h.lt i h1
   have:=h.ne i h1
   omega
  ·omega) (fun i k hi hk e=>by
  have e:(if i<q - 1 then pwG mul x i - 1 else y - 1)=(if k<q - 1 then pwG mul x k - 1 else y - 1):=e
  by_cases h1:i<q - 1 <;> by_cases h3:k<q - 1
  ·rw [if_pos h1,if_pos h3] at e
   have a1:=h.ne i h1
   have a2:=h.ne k h3
   rcases Nat.lt_trichotomy i k with c | c | c
   ·exact absurd (show pwG mul x i=pwG mul x k by omega) (h.inj i k c h3)
   ·exact c
   ·exact absurd (show pwG mul x k=pwG mul x i by omega) (h.inj k i c h1)
  ·rw [if_pos h1,if_neg h3] at e
   have a1:=h.ne i h1
   exact absurd (show pwG mul x i=y by omega) (hne i h1)
  ·rw [if_neg h1,if_pos h3] at e
   have a1:=h.ne k h3
   exact absurd (show pwG mul x k=y by omega) (hne k h3)
  ·omega)
 omega
theorem zej (hR:RingM q mul) (hx:x<q) (h:GenX q mul x) {y z:Nat} (hy0:y≠0) (hy:y<q) (hz0:z≠0) (hz:z<q):mul y z≠0:=by
 obtain ⟨i,hi,rfl⟩:=zei hR.two h.1 hy0 hy
 obtain ⟨j,hj,rfl⟩:=zei hR.two h.1 hz0 hz
 rw [zfj hR hx h hi j hj]
 exact h.1.ne _ (Nat.mod_lt _ (by have:=hR.two; omega))
end
theorem zeO {q:Nat} {add mul:Nat->Nat->Nat} (hF:FieldLaws q add mul):∃ x,1<=x/\x<q/\GenX q mul x:=by
 obtain ⟨iA,iM,iN,i0,i1,F,ha,hm,h0,h1⟩:=zgl hF
 have hq:0<q:=by have:=hF.two; omega
 have hnd:((List.range q).map (toEl q hq)).Nodup:=by
  rw [List.Nodup,List.pairwise_map]
  refine List.Pairwise.imp_of_mem (R:=fun a b=>a<b) (fun {a b} ha hb hab e=>?_) List.pairwise_lt_range
  have:=zdx hq (List.mem_range.1 ha) (List.mem_range.1 hb) e
  omega
 obtain ⟨g,hg0,hg⟩:=zcO F hnd fun a=>by
  obtain ⟨b,hb,e⟩:=ziB hq a
  exact List.mem_map.2 ⟨b,List.mem_range.2 hb,e⟩
 rw [List.length_map,List.length_range] at hg
 have hpw:∀ n,pwG mul g.val n=(pwK g n).val:=fun n=>by
  induction n with
  | zero=>exact h1.symm
  | succ n ih =>
   show _=(pwK g n*g).val
   rw [hm,<-ih]
   cases n with
   | zero=>exact (hF.oneMul _ g.lt).symm
   | succ n=>rfl
 have hnz:∀ z:El q,z≠0->z.val≠0:=fun z hz e=>hz (El.ext' (by rw [e,h0]))
 have h2:=hF.two
 refine ⟨g.val,by have:=hnz g hg0; omega,g.lt,⟨fun i _=>by rw [hpw]; exact hnz _ (zjt F hg0 i),fun i _=>by rw [hpw]; exact (pwK g i).lt,fun i j hij hj e=>?_⟩,?_⟩
 ·rw [hpw,hpw] at e
  have e:=El.ext' e
  refine hg.2.2 (j - i) (by omega) (by omega) ?_
  rw [show j=i+(j - i) by omega,zgE F] at e
  have h1:pwK g i*pwK g (j - i)=pwK g i*1:=by rw [<-e,F.mulOne]
  obtain ⟨y,hy⟩:=F.inv _ (zjt F hg0 i)
  have h2:y*(pwK g i*pwK g (j - i))=y*(pwK g i*1):=by rw [h1]
  rwa [<-F.mulA,<-F.mulA,F.mulC y,hy,F.oneM,F.oneM] at h2
 ·rw [hpw,<-hm]
  have e:pwK g (q - 1)=pwK g (q - 2)*g:=by
   obtain ⟨r,hr⟩:∃ r,q=r+2:=⟨q - 2,by omega⟩
   subst hr
   rfl
  rw [<-e,hg.2.1,h1]
theorem zgI {P M x:Nat} {m:Nat->Nat} (hf:FldOk P M) (hm:M=1∨∀ t,t<M->m t<P) (hx:x<P ^ M) (h:GenX (P ^ M) (mulF P M m) x):IrrB P M m:=by
 intro d hd1 hd2 v hv hdiv
 have hR:=ringM m hf
 obtain ⟨hP2,hM,_,_⟩:=hf
 have hP0:0<P:=by omega
 have hm:∀ t,t<M->m t<P:=by
  rcases hm with e | e
  ·omega
  ·exact e
 have hl:∀ (B:Nat->Int) j,(((B j) % P).toNat:Int)=B j % P:=fun B j=>by
  have:=Int.emod_nonneg (B j) (show (P:Int)≠0 by omega)
  omega
 have hlt:∀ (B:Nat->Int) j,((B j) % P).toNat<P:=fun B j=>by
  have:=Int.emod_lt_of_pos (B j) (show (0:Int)<P by omega)
  have:=hl B j; omega
 have val:∀ B:Nat->Int,∃ y,y<P ^ M/\∀ j,j<M->cg P (dgt P y j) (B j):=fun B=>by
  refine ⟨valN P (fun j=>((B j) % P).toNat) M,za9 fun i _=>hlt B i,fun j hj=>?_⟩
  unfold dgt
  rw [za6 (fun i _=>hlt B i) j hj,hl B]
  exact zfA _
 obtain ⟨a,ha,hA⟩:=val (hD P d (dig P v) M (modR M m) (M+1 - d))
 obtain ⟨b,hb,hB⟩:=val (lead d (dig P v))
 have hne:∀ {y j:Nat},j<M->cg P (dgt P y j) 1->y≠0:=fun {y j} hj e e0=>by
  subst e0
  unfold dgt at e
  rw [zbJ] at e
  exact absurd (zgd (P:=P) (a:=0) (b:=1) e hP0 (by omega)) (by omega)
 refine zej hR hx h (y:=a) (z:=b) ?_ ha ?_ hb ?_
 ·refine hne (j:=M - d) (by omega) ((hA _ (by omega)).trans (zbH ?_))
  obtain ⟨s,hs⟩:∃ s,M+1 - d=s+1:=⟨M - d,by omega⟩
  rw [hs]
  exact zji (by omega) s (by omega)
 ·refine hne (j:=d) (by omega) ((hB _ (by omega)).trans (zbH ?_))
  unfold lead
  rw [if_neg (by omega),if_pos rfl]
 ·refine zbs hP0 (zaU hP0 _ _) (Nat.pow_pos hP0) fun j hj=>?_
  refine (zds (P:=P) (m:=m) hP0 hM a b hj).trans ((zbw (fun i hi=>hA i hi) (fun i hi=>hB i hi) j).trans ?_)
  refine (zia (by omega) hm hd1 (by omega) hj).trans (zbH ?_)
  rw [hdiv j (by omega)]
  unfold dgt
  rw [zbJ]
  rfl
theorem zju {P M:Nat} {m:Nat->Nat} (hf:FldOk P M) (hp:PrimeB P) (hm:M=1∨∀ t,t<M->m t<P):(∃ x,1<=x/\x<P ^ M/\GenX (P ^ M) (mulF P M m) x)↔FieldOk P M m:=by
 constructor
 ·rintro ⟨x,_,hx,h⟩
  exact ⟨hf,hp,hm,zgI hf hm hx h⟩
 ·intro h
  exact zeO (fieldLaws h)
def ShapeF (P M:Int) (k:Nat) (f:Nat->Int):Prop :=
 ∃ P' M':Nat,P=P'/\M=M'/\FldOk P' M'/\PrimeB P'/\((M'=1/\k=0)∨(2<=M'/\k=M'/\∀ i,i<M'->0<=f i/\f i<P'))
theorem GoodF.shape {P M:Int} {k:Nat} {f:Nat->Int} (h:GoodF P M k f):ShapeF P M k f:=by
 obtain ⟨P',M',h1,h2,h3,h4,h5⟩:=h
 refine ⟨P',M',h1,h2,h3,h4,?_⟩
 rcases h5 with h | ⟨a,b,c,_⟩
 ·exact .inl h
 ·exact .inr ⟨a,b,c⟩
theorem ShapeF.good {P M:Nat} {k:Nat} {f:Nat->Int} (h:ShapeF (P:Int) (M:Int) k f):GoodF (P:Int) (M:Int) k f↔∃ x,1<=x/\x<P ^ M/\GenX (P ^ M) (mulF P M fun i=>(f i).toNat) x:=by
 obtain ⟨P',M',h1,h2,h3,h4,h5⟩:=h
 obtain rfl:P=P':=by omega
 obtain rfl:M=M':=by omega
 rw [zju h3 h4 (by
  rcases h5 with ⟨e,_⟩ | ⟨_,_,c⟩
  ·exact .inl e
  ·exact .inr fun t ht=>by have:=c t ht; show (f t).toNat<P; omega)]
 refine ⟨fun h=>h.field.1,fun h=>⟨P,M,rfl,rfl,h3,h4,?_⟩⟩
 rcases h5 with e | ⟨a,b,c⟩
 ·exact .inl e
 ·exact .inr ⟨a,b,c,h.2.2.2⟩
theorem ShapeF.fld {P M:Int} {k:Nat} {f:Nat->Int} (h:ShapeF P M k f):∃ P' M':Nat,P=P'/\M=M'/\FldOk P' M'/\(M'=1∨k=M'):=by
 obtain ⟨P',M',h1,h2,h3,h4,h5⟩:=h
 refine ⟨P',M',h1,h2,h3,?_⟩
 rcases h5 with ⟨a,b⟩ | ⟨a,b,c⟩
 ·exact .inl a
 ·exact .inr b
theorem ShapeF.mod {P M:Nat} {k:Nat} {f:Nat->Int} {w:World} {A:Option Addr} (h:ShapeF (P:Int) (M:Int) k f) (hr:IntsR w w.heap.size A k f):ModOk w P M A (fun i=>(f i).toNat):=by
 obtain ⟨P',M',h1,h2,h3,h4,h5⟩:=h
 obtain rfl:P=P':=by omega
 obtain rfl:M=M':=by omega
 rcases h5 with ⟨e,_⟩ | ⟨e1,rfl,e3⟩
 ·exact .inl e
 ·exact .inr ⟨hr.congr fun i hi=>by have:=e3 i hi; show f i=((f i).toNat:Int); omega,fun i hi=>by have:=e3 i hi; show (f i).toNat<P; omega⟩
theorem zfk (P M:Int) (A:Option Addr) (k c:Nat) (f:Nat->Int) (w:World) (hr:IntsR w w.heap.size A k f) :
  Calls Tryz.prog 145 #[.agg #[.int .i64 P,.int .i64 M,.slice A k c]] w (IffPost (ShapeF P M k f) w):=by
 have hB:Below w.heap.size w (w.alloc (.cells #[.int .i64 P,.int .i64 M,.slice A k c] 24)):=(Below.refl _ _).alloc (Nat.le_refl _) _
 have rf:=zad (w:=w) (a:=.int .i64 P) (b:=.int .i64 M) (c:=.slice A k c) (T := 24)
 obtain ⟨w0,hw0⟩:∃ W,W=w.alloc (.cells #[.int .i64 P,.int .i64 M,.slice A k c] 24):=⟨_,rfl⟩
 rw [<-hw0] at hB rf
 go_enter Tryz.func145, Tryz.ntmps145
 go_upto_region 1 with fail
 rw [<-hw0];clear hw0
 have q0:=qc0 rf
 have q1:=qc1 rf
 have q2:=qc2 rf
 go_wp2_with fail
 refine (zcj P M _).mono ?_
 rintro e w1 ⟨rfl,kb⟩
 replace rf:=zaa rf kb;replace hB:=onS hB kb;clear kb q0 q1 q2
 by_cases h0:ordV P M=0
 ·have hno:Hid (¬ ShapeF P M k f):=by
   rintro ⟨P',M',rfl,rfl,h3,_⟩
   rw [zbS h3] at h0
   have:=Nat.pow_pos (n:=M') (show 0<P' by have:=h3.1; omega)
   omega
  rw [h0];clear h0 rf
  go_wp2
  go_ret
  exact zax hno.out hB
 ·obtain ⟨P,M,rfl,rfl,hf⟩:=zh1 h0
  obtain ⟨v,hv⟩:∃ v,v=ordV (P:Int) (M:Int):=⟨_,rfl⟩
  rw [<-hv] at h0;rw [<-hv]
  have hv0:(v == 0)=false:=by simpa using h0
  have hP2:=hf.1
  have hPl:=hf.P_le
  have hM1:=hf.2.1
  have hM8:=hf.2.2.1
  have hq:=hf.2.2.2
  have HF:=hid hf
  clear hv hf
  have q0:=qc0 rf
  have q1:=qc1 rf
  have q2:=qc2 rf
  go_wp2_with fail
  refine (zfK P _ hP2 hPl).mono ?_
  rintro e w2 ⟨b,rfl,hb,rfl⟩
  have HBP:=hid hb
  clear hb h0 hv0
  cases b
  ·have hno:Hid (¬ ShapeF (P:Int) (M:Int) k f):=by
    rintro ⟨P',M',e1,e2,h3,h4,_⟩
    obtain rfl:P=P':=by omega
    have:=HBP.out.2 h4
    cases this
   go_wp2
   go_ret
   exact zax hno.out hB
  ·have hp : Hid (PrimeB P) := HBP.out.1 rfl
   clear HBP
   by_cases hM:M=1
   ·subst hM
    by_cases hk0:k=0
    ·subst hk0
     have hyes:Hid (ShapeF (P:Int) ((1:Nat):Int) 0 f):=⟨P,1,rfl,rfl,HF.out,hp.out,.inl ⟨rfl,rfl⟩⟩
     go_wp2
     go_ret
     exact za0 hyes.out hB
    ·have hk0':((k:Int) == 0)=false:=by simp; omega
     have hno:Hid (¬ ShapeF (P:Int) ((1:Nat):Int) k f):=by
      rintro ⟨P',M',e1,e2,h3,h4,⟨e3,e4⟩ | ⟨e3,_⟩⟩
      ·exact hk0 e4
      ·omega
     go_wp2
     go_ret
     exact zax hno.out hB
   ·have hM' : ((M : Int) == 1) = false := by simp; omega
    by_cases hkM:k=M
    ·subst hkM
     have hkk:((k:Int) != (k:Int))=false:=by simp
     have hk2:2<=k:=by omega
     go_wp2
     clear q0 q1 q2 hM' hkk
     go_loopg [33] k (fun gg iv wx=>∃ i:Nat,iv=.int .i64 (i:Nat)/\i<=k/\k<=i+gg/\(∀ i',i'<i->0<=f i'/\f i'<P)/\wx.rowIs w.heap.size 24 3 (fldCell (.int .i64 (P:Nat)) (.int .i64 (k:Nat)) (.slice A k c))/\Below w.heap.size w wx)
     case atStart=>exact ⟨0,rfl,by omega,by omega,fun i' h=>by omega,rf,hB⟩
     case round =>
      clear rf hB
      obtain ⟨i,rfl,hi,hig,hg,rf,hB⟩:=hrel
      have HG:=hid hg
      clear hg
      have hi0:(0:Int)<=(i:Int):=by omega
      have q0:=qc0 rf
      have q1:=qc1 rf
      have q2:=qc2 rf
      by_cases hlt:i<k
      ·have hlt':(i:Int)<(k:Int):=by omega
       obtain ⟨b,o,rfl,hb,e0⟩:=(hr.on hB).at hlt
       obtain ⟨x,hx⟩:∃ x,x=f i:=⟨_,rfl⟩
       rw [<-hx] at e0
       have HX:=hid hx
       clear hx
       have hno:Hid (x<0∨(P:Int)<=x->¬ ShapeF (P:Int) (k:Int) k f):=by
        rintro hc ⟨P',M',e1,e2,h3,h4,⟨e3,e4⟩ | ⟨e3,e4,e5⟩⟩
        ·omega
        ·have:=e5 i (by omega)
         rw [<-HX.out] at this
         omega
       by_cases hx0:x<0
       ·have hd:decide (x<0)=true:=by simpa using hx0
        go_wp2
        go_ret
        exact zax (hno.out (.inl hx0)) hB
       ·have hd:decide (x<0)=false:=by simpa using hx0
        by_cases hxP:(P:Int)<=x
        ·have hd2:decide ((P:Int)<=x)=true:=by simpa using hxP
         go_wp2
         go_ret
         exact zax (hno.out (.inr hxP)) hB
        ·have hd2:decide ((P:Int)<=x)=false:=by simpa using hxP
         have hnx:Hid (∀ i',i'<i+1->0<=f i'/\f i'<P):=fun i' h=>by
          by_cases e:i'=i
          ·rw [e,<-HX.out]; omega
          ·exact HG.out i' (by omega)
         clear hno
         go_wp2
         go_roundg (gk - 1)
         case measure=>omega
         case rel=>exact ⟨i+1,by go_num,by omega,by omega,hnx.out,rf,hB⟩
      ·obtain rfl:i=k:=by omega
       have hlt':¬ (i:Int)<(i:Int):=by omega
       have hyes:Hid (ShapeF (P:Int) (i:Int) i f):=⟨P,i,rfl,rfl,HF.out,hp.out,.inr ⟨hk2,rfl,HG.out⟩⟩
       go_wp2
       go_ret
       exact za0 hyes.out hB
    ·have hkM':((k:Int) != (M:Int))=true:=by simp; omega
     have hno:Hid (¬ ShapeF (P:Int) (M:Int) k f):=by
      rintro ⟨P',M',e1,e2,h3,h4,⟨e3,e4⟩ | ⟨e3,e4,_⟩⟩
      ·omega
      ·omega
     go_wp2
     go_ret
     exact zax hno.out hB
theorem zcy {p:Nat}:∀ (n:Nat) (f:Nat->Nat),valN p f (n+1)=valN p f n+p ^ n*f n
 | 0,f=>by show f 0+p*0=0+p ^ 0*f 0; simp
 | n+1,f=>by
  show f 0+p*valN p (fun i=>f (i+1)) (n+1)=f 0+p*valN p (fun i=>f (i+1)) n+p ^ (n+1)*f (n+1)
  rw [zcy n]
  show f 0+p*(valN p (fun i=>f (i+1)) n+p ^ n*f (n+1))=_
  rw [Nat.mul_add,Nat.pow_succ,Nat.mul_comm (p ^ n) p,Nat.mul_assoc,Nat.add_assoc]
theorem zeP {p k:Nat} {f:Nat->Nat}:∀ n,(∀ i,k<=i->i<n->f i=0)->k<=n->valN p f n=valN p f k
  | 0, _, h => by obtain rfl : k = 0 := by omega
                  rfl
  | n + 1, h, hk => by
    by_cases e:k=n+1
    · rw [e]
    · rw [zcy,h n (by omega) (by omega),Nat.mul_zero,Nat.add_zero,zeP n (fun i h1 h2=>h i h1 (by omega)) (by omega)]
theorem zeQ {p x i j:Nat} (h:x / p ^ i=0) (hij:i<=j):dig p x j=0:=by
 unfold dig
 obtain ⟨r,rfl⟩:∃ r,j=i+r:=⟨j - i,by omega⟩
 rw [Nat.pow_add,<-Nat.div_div_eq_div_mul,h,Nat.zero_div,Nat.zero_mod]
theorem ziS {M x y:Nat} (hx:x<2 ^ M) (hy:y<2 ^ M):addF 2 M x y=x ^^^ y:=by
 refine zd3 (p:=2) (M:=M) (by omega) (zc8 (by omega) _ _) (Nat.xor_lt_two_pow hx hy) fun j hj=>?_
 unfold addF
 rw [za6 (fun i _=>Nat.mod_lt _ (by omega)) j hj]
 have h:=Nat.testBit_xor x y j
 simp only [Nat.testBit_eq_decide_div_mod_eq] at h
 unfold dig
 have a1:=Nat.mod_two_eq_zero_or_one (x / 2 ^ j)
 have a2:=Nat.mod_two_eq_zero_or_one (y / 2 ^ j)
 have a3:=Nat.mod_two_eq_zero_or_one ((x ^^^ y) / 2 ^ j)
 rcases a1 with a1 | a1 <;> rcases a2 with a2 | a2 <;> rcases a3 with a3 | a3 <;> simp [a1,a2,a3] at h ⊢
theorem zjv {x y:Nat} (hx:x<256) (hy:y<256):bits .xor .i64 (x:Int) (y:Int)=((x ^^^ y:Nat):Int):=by
 show IntKind.i64.wrap ((BitVec.ofInt 64 (x:Int) ^^^ BitVec.ofInt 64 (y:Int)).toNat:Nat)=_
 have k1:(BitVec.ofInt 64 (x:Int)).toNat=x:=by rw [BitVec.toNat_ofInt]; omega
 have k2:(BitVec.ofInt 64 (y:Int)).toNat=y:=by rw [BitVec.toNat_ofInt]; omega
 have h:x ^^^ y<2 ^ 8:=Nat.xor_lt_two_pow (n:=8) hx hy
 rw [BitVec.toNat_xor,k1,k2]
 exact IntWalk.i64_in _ (by omega)
def gfCell (a b c d e f:Value) (i:Nat):Value:=if i=0 then a else if i=1 then b else if i=2 then c else if i=3 then d else if i=4 then e else f
theorem KF.qc0 {w:World} {g:Nat} {T:TypeId} {a b c d e f:Value} (h:w.rowIs g T 6 (gfCell a b c d e f)) : w.cell? ⟨g,0,none⟩=some a:=h.cell (i:=0) (by decide)
theorem KF.qc1 {w:World} {g:Nat} {T:TypeId} {a b c d e f:Value} (h:w.rowIs g T 6 (gfCell a b c d e f)) : w.cell? ⟨g,1,none⟩=some b:=h.cell (i:=1) (by decide)
theorem KF.qc2 {w:World} {g:Nat} {T:TypeId} {a b c d e f:Value} (h:w.rowIs g T 6 (gfCell a b c d e f)) : w.cell? ⟨g,2,none⟩=some c:=h.cell (i:=2) (by decide)
theorem KF.qc3 {w:World} {g:Nat} {T:TypeId} {a b c d e f:Value} (h:w.rowIs g T 6 (gfCell a b c d e f)) : w.cell? ⟨g,3,none⟩=some d:=h.cell (i:=3) (by decide)
theorem KF.qc4 {w:World} {g:Nat} {T:TypeId} {a b c d e f:Value} (h:w.rowIs g T 6 (gfCell a b c d e f)) : w.cell? ⟨g,4,none⟩=some e:=h.cell (i:=4) (by decide)
theorem KF.qc5 {w:World} {g:Nat} {T:TypeId} {a b c d e f:Value} (h:w.rowIs g T 6 (gfCell a b c d e f)) : w.cell? ⟨g,5,none⟩=some f:=h.cell (i:=5) (by decide)
open KF
structure GFr (w:World) (B g P M:Nat) (m:Nat->Nat) (A:Option Addr) (k c eb eo ec lb lo lc x:Nat) (lg:Nat->Nat):Prop where
 ok:FieldOk P M m
 km:(M=1/\k=0)∨(2<=M/\k=M)
 row:w.rowIs g 178 6 (gfCell (.int .i64 (P:Nat)) (.int .i64 (M:Nat)) (.slice A k c) (.int .i64 (P ^ M:Nat)) (.slice (some ⟨eb,eo,none⟩) (P ^ M - 1) ec) (.slice (some ⟨lb,lo,none⟩) (P ^ M) lc))
 lt:g<B
 md:IntsR w B A k (fun i=>(m i:Nat))
 ex:IntsR w B (some ⟨eb,eo,none⟩) (P ^ M - 1) (fun i=>(pwG (mulF P M m) x i:Nat))
 lgr:IntsR w B (some ⟨lb,lo,none⟩) (P ^ M) (fun i=>(lg i:Nat))
 x0:1<=x
 xq:x<P ^ M
 gen:GenX (P ^ M) (mulF P M m) x
 lgs:∀ i,i<P ^ M - 1->lg (pwG (mulF P M m) x i)=i
def GF (w:World) (B g P M:Nat) (m:Nat->Nat):Prop:=∃ A k c eb eo ec lb lo lc x lg,GFr w B g P M m A k c eb eo ec lb lo lc x lg
theorem GF.ok {w:World} {B g P M:Nat} {m:Nat->Nat} (h:GF w B g P M m):FieldOk P M m:=by
 obtain ⟨_,_,_,_,_,_,_,_,_,_,_,h⟩:=h
 exact h.ok
theorem GF.at {w w':World} {B g P M:Nat} {m:Nat->Nat} (h:GF w B g P M m) (hb:Below B w w') (hB:B<=w'.heap.size):GF w' w'.heap.size g P M m:=by
 obtain ⟨A,k,c,eb,eo,ec,lb,lo,lc,x,lg,h⟩:=h
 exact ⟨A,k,c,eb,eo,ec,lb,lo,lc,x,lg,h.ok,h.km,zc6 h.row hb h.lt,Nat.lt_of_lt_of_le h.lt hB,(Rd.below h.md hb (Nat.le_refl _)).mono hB,(Rd.below h.ex hb (Nat.le_refl _)).mono hB,(Rd.below h.lgr hb (Nat.le_refl _)).mono hB,h.x0,h.xq,h.gen,h.lgs⟩
theorem GF.on {w w':World} {g P M:Nat} {m:Nat->Nat} (h:GF w w.heap.size g P M m) (hb:Below w.heap.size w w'):GF w' w'.heap.size g P M m:=h.at hb hb.size
section
variable {P M g:Nat} {m:Nat->Nat} {w:World}
theorem zhB (h:GF w w.heap.size g P M m) :
  Calls Tryz.prog 98 #[.pointer (some ⟨g,0,none⟩)] w fun e w'=>e=.returned (.int .i64 (P ^ M:Nat))/\Below w.heap.size w w':=by
 obtain ⟨A,k,c,eb,eo,ec,lb,lo,lc,x,lg,h⟩:=h
 obtain ⟨Q,hQ⟩:∃ Q,Q=P ^ M:=⟨_,rfl⟩
 have c3:w.cell? ⟨g,3,none⟩=some (.int .i64 (Q:Nat)):=by rw [hQ]; exact h.row.cell (i:=3) (by omega)
 rw [<-hQ]
 have HQ:=hid hQ
 clear hQ h
 go_enter Tryz.func98, Tryz.ntmps98
 go_wp2
 go_ret
 exact ⟨rfl,Below.refl _ _⟩
theorem zeR (x:Int) (h:GF w w.heap.size g P M m) :
  Calls Tryz.prog 99 #[.pointer (some ⟨g,0,none⟩),.int .i64 x] w fun e w'=>e=.returned (.bool (isB (P ^ M) x))/\Below w.heap.size w w':=by
 obtain ⟨A,k,c,eb,eo,ec,lb,lo,lc,y,lg,h⟩:=h
 obtain ⟨Q,hQ⟩:∃ Q,Q=P ^ M:=⟨_,rfl⟩
 have c3:w.cell? ⟨g,3,none⟩=some (.int .i64 (Q:Nat)):=by rw [hQ]; exact h.row.cell (i:=3) (by omega)
 rw [<-hQ];clear hQ h
 by_cases h0:0<=x
 ·have hv:Hid (isB Q x=decide (x<(Q:Int))):=by show _=_; simp [isB,h0]
  have hd:decide (0<=x)=true:=by simpa using h0
  go_enter Tryz.func99, Tryz.ntmps99
  go_wp2
  go_ret
  exact ⟨by rw [hv.out]; rfl,Below.refl _ _⟩
 ·have hv:Hid (isB Q x=false):=by show _=_; simp [isB]; omega
  have hd:decide (0<=x)=false:=by simpa using h0
  go_enter Tryz.func99, Tryz.ntmps99
  go_wp2
  go_ret
  exact ⟨by rw [hv.out]; rfl,Below.refl _ _⟩
theorem zck (x:Int) (h:GF w w.heap.size g P M m) :
  Calls Tryz.prog 181 #[.pointer (some ⟨g,0,none⟩),.int .i64 x] w fun e w'=>e=.returned (.int .i64 (inV (P ^ M) x:Nat))/\Below w.heap.size w w':=by
 go_enter Tryz.func181, Tryz.ntmps181
 go_wp2_with fail
 refine (zeR x h).mono ?_
 rintro e w1 ⟨rfl,hB⟩
 by_cases hx:0<=x/\x<(P ^ M:Nat)
 ·have hv:Hid ((inV (P ^ M) x:Int)=x):=by show _=_; unfold inV; rw [if_pos hx]; omega
  have hd:isB (P ^ M) x=true:=by unfold isB; simpa using hx
  rw [hd];clear hx hd h
  go_wp2
  go_ret
  exact ⟨by rw [hv.out]; rfl,hB⟩
 ·have hv:Hid (inV (P ^ M) x=0):=by show _=_; unfold inV; rw [if_neg hx]
  have hd:isB (P ^ M) x=false:=by unfold isB; simpa using hx
  rw [hd];clear hx hd h
  go_wp2
  go_ret
  exact ⟨by rw [hv.out]; rfl,hB⟩
theorem zdG (x y:Int) (h:GF w w.heap.size g P M m) :
  Calls Tryz.prog 174 #[.pointer (some ⟨g,0,none⟩),.int .i64 x,.int .i64 y] w fun e w'=>e=.returned (.int .i64 (addF P M (inV (P ^ M) x) (inV (P ^ M) y):Nat))/\Below w.heap.size w w':=by
 have hok:=h.ok.1
 have hP2:=hok.1
 have hPl:=hok.P_le
 have hM1:=hok.2.1
 have hq:=hok.2.2.2
 have hPw:Hid (∀ i,i<=M->P ^ i<=256):=fun i hi=>hok.pow_le hi
 have HOK:=hid hok
 clear hok
 have hX:=zex (Nat.pow_pos (n:=M) (show 0<P by omega)) x
 have hY:=zex (Nat.pow_pos (n:=M) (show 0<P by omega)) y
 go_enter Tryz.func174, Tryz.ntmps174
 go_wp2_with fail
 refine (zck x h).mono ?_
 rintro e w1 ⟨rfl,hB⟩
 have h1:=h.on hB
 go_wp2_with fail
 refine (zck y h1).mono ?_
 rintro e w2 ⟨rfl,kb⟩
 have h2:=h1.on kb
 replace hB:=onS hB kb;clear kb h1 h
 obtain ⟨A,k,c,eb,eo,ec,lb,lo,lc,gx,lg,h⟩:=h2
 have c0:=qc0 h.row
 clear h
 obtain ⟨X,hXe⟩:∃ X,X=inV (P ^ M) x:=⟨_,rfl⟩
 obtain ⟨Y,hYe⟩:∃ X,X=inV (P ^ M) y:=⟨_,rfl⟩
 rw [<-hXe] at hX;rw [<-hYe] at hY;rw [<-hXe,<-hYe]
 have HXE:=hid hXe
 have HYE:=hid hYe
 clear hXe hYe
 by_cases hP:P=2
 ·have hPe:((P:Int) == 2)=true:=by simp; omega
  have hxv:Hid (addF P M X Y=X ^^^ Y):=by
   subst hP
   exact ziS hX hY
  have hx8:=zjv (x:=X) (y:=Y) (by omega) (by omega)
  clear hP hX hY
  go_wp2
  go_ret
  exact ⟨by rw [<-HXE.out,<-HYE.out,hxv.out]; rfl,hB⟩
 ·have hPe:((P:Int) == 2)=false:=by simp; omega
  have hX6:X<256:=by omega
  have hY6:Y<256:=by omega
  have HXM:Hid (X<P ^ M):=hX
  have HYM:Hid (Y<P ^ M):=hY
  clear hX hY hq hP
  go_wp2
  clear hPe
  go_loopg [7,8,1,2] M (fun gg sv pv xv yv wx=>∃ i s p u v:Nat,sv=.int .i64 (s:Nat)/\pv=.int .i64 (p:Nat)/\xv=.int .i64 (u:Nat)/\yv=.int .i64 (v:Nat)/\i<=M/\M<=i+gg/\Hid (u=X / P ^ i)/\Hid (v=Y / P ^ i)/\Hid (p=P ^ i)/\Hid (s=valN P (fun i=>(dig P X i+dig P Y i) % P) i)/\wx.cell? ⟨g,0,none⟩=some (.int .i64 (P:Nat))/\Below w.heap.size w wx)
  case atStart=>exact ⟨0,0,1,X,Y,rfl,rfl,rfl,rfl,by omega,by omega,by show _=_; simp,by show _=_; simp,by show _=_; simp,rfl,c0,hB⟩
  case round =>
   clear c0 hB
   obtain ⟨i,s,p,u,v,rfl,rfl,rfl,rfl,hi,hig,HU,HV,HPI,HS,c0,hB⟩:=hrel
   have hu6:u<=X:=by rw [HU.out]; exact Nat.div_le_self _ _
   have hv6:v<=Y:=by rw [HV.out]; exact Nat.div_le_self _ _
   by_cases hend:u=0/\v=0
   ·have hval:Hid (addF P M X Y=s):=by
     show _=_
     rw [HS.out]
     unfold addF
     exact zeP M (fun j h1 _=>by rw [zeQ (by rw [<-HU.out]; exact hend.1) h1,zeQ (by rw [<-HV.out]; exact hend.2) h1]; simp) hi
    obtain ⟨rfl,rfl⟩:=hend
    go_wp2
    go_ret
    exact ⟨by rw [<-HXE.out,<-HYE.out,hval.out]; rfl,hB⟩
   ·have hiM:i<M:=by
     refine Classical.byContradiction fun hn=>hend ?_
     obtain rfl:i=M:=by omega
     exact ⟨by rw [HU.out]; exact Nat.div_eq_of_lt HXM.out,by rw [HV.out]; exact Nat.div_eq_of_lt HYM.out⟩
    obtain ⟨du,hdu⟩:∃ d,d=u % P:=⟨_,rfl⟩
    obtain ⟨dv,hdv⟩:∃ d,d=v % P:=⟨_,rfl⟩
    obtain ⟨qu,hqu⟩:∃ d,d=u / P:=⟨_,rfl⟩
    obtain ⟨qv,hqv⟩:∃ d,d=v / P:=⟨_,rfl⟩
    obtain ⟨ds,hds⟩:∃ d,d=(du+dv) % P:=⟨_,rfl⟩
    obtain ⟨t,ht⟩:∃ t,t=ds*p:=⟨_,rfl⟩
    obtain ⟨p2,hp2⟩:∃ t,t=p*P:=⟨_,rfl⟩
    have hduP:du<P:=by rw [hdu]; exact Nat.mod_lt _ (by omega)
    have hdvP:dv<P:=by rw [hdv]; exact Nat.mod_lt _ (by omega)
    have hdsP:ds<P:=by rw [hds]; exact Nat.mod_lt _ (by omega)
    have hp6:p<=256:=by rw [HPI.out]; exact hPw.out i hi
    have hp26:p2=P ^ (i+1):=by rw [hp2,HPI.out,Nat.pow_succ]
    have hp27:p2<=256:=by rw [hp26]; exact hPw.out (i+1) hiM
    have ht6:t<=256:=by
     have:t<=p2:=by rw [ht,hp2,Nat.mul_comm]; exact Nat.mul_le_mul_left p (by omega)
     omega
    have hs6:s<=256:=by
     have:=za9 (p:=P) (n:=i) (f:=fun i=>(dig P X i+dig P Y i) % P) fun _ _=>Nat.mod_lt _ (by omega)
     rw [<-HS.out] at this
     have:=hPw.out i hi
     omega
    have HS2:Hid (s+t=valN P (fun i=>(dig P X i+dig P Y i) % P) (i+1)):=by
     show _=_
     rw [zcy,<-HS.out,ht,hds,hdu,hdv,HU.out,HV.out,HPI.out,Nat.mul_comm]
     rfl
    have HU2:Hid (qu=X / P ^ (i+1)):=by show _=_; rw [hqu,HU.out,Nat.pow_succ,Nat.div_div_eq_div_mul]
    have HV2:Hid (qv=Y / P ^ (i+1)):=by show _=_; rw [hqv,HV.out,Nat.pow_succ,Nat.div_div_eq_div_mul]
    have HP2:=hid hp26
    have m1:(u:Int).tmod (P:Int)=(du:Int):=by rw [hdu,Int.tmod_eq_emod_of_nonneg (by omega)]; simp
    have m2:(v:Int).tmod (P:Int)=(dv:Int):=by rw [hdv,Int.tmod_eq_emod_of_nonneg (by omega)]; simp
    have m3:((du:Int)+(dv:Int)).tmod (P:Int)=(ds:Int):=by rw [hds,Int.tmod_eq_emod_of_nonneg (by omega)]; simp
    have e1:(u:Int) % (P:Int)=(du:Int):=by rw [hdu]; simp
    have e2:(v:Int) % (P:Int)=(dv:Int):=by rw [hdv]; simp
    have e3:((du:Int)+(dv:Int)) % (P:Int)=(ds:Int):=by rw [hds]; simp
    have e4:(ds:Int)*(p:Int)=(t:Int):=by rw [ht]; simp
    have e5:(p:Int)*(P:Int)=(p2:Int):=by rw [hp2]; simp
    have d1:(u:Int).tdiv (P:Int)=(qu:Int):=by rw [hqu,Int.tdiv_eq_ediv_of_nonneg (by omega)]; rfl
    have d2:(v:Int).tdiv (P:Int)=(qv:Int):=by rw [hqv,Int.tdiv_eq_ediv_of_nonneg (by omega)]; rfl
    have d3:(u:Int) / (P:Int)=(qu:Int):=by rw [hqu]; rfl
    have d4:(v:Int) / (P:Int)=(qv:Int):=by rw [hqv]; rfl
    have qu6:qu<=256:=by have:u / P<=u:=Nat.div_le_self _ _; omega
    have qv6:qv<=256:=by have:v / P<=v:=Nat.div_le_self _ _; omega
    have w1':IntKind.i64.wrap ((du:Int)+(dv:Int))=(du:Int)+(dv:Int):=IntWalk.i64_in _ (by omega)
    have w2':IntKind.i64.wrap (du:Int)=(du:Int):=IntWalk.i64_in _ (by omega)
    have w3':IntKind.i64.wrap (dv:Int)=(dv:Int):=IntWalk.i64_in _ (by omega)
    have w4':IntKind.i64.wrap (ds:Int)=(ds:Int):=IntWalk.i64_in _ (by omega)
    have w5':IntKind.i64.wrap (t:Int)=(t:Int):=IntWalk.i64_in _ (by omega)
    have w6':IntKind.i64.wrap (p2:Int)=(p2:Int):=IntWalk.i64_in _ (by omega)
    have w7':IntKind.i64.wrap ((s:Int)+(t:Int))=(s:Int)+(t:Int):=IntWalk.i64_in _ (by omega)
    have w8':IntKind.i64.wrap (qu:Int)=(qu:Int):=IntWalk.i64_in _ (by omega)
    have w9':IntKind.i64.wrap (qv:Int)=(qv:Int):=IntWalk.i64_in _ (by omega)
    have hP0:¬ (P:Int)=0:=by omega
    have hPn:¬ P=0:=by omega
    clear hdu hdv hqu hqv hds ht hp2 hp26 HU HV HPI HS
    by_cases hu0:u=0
    ·have hv0:0<v:=by omega
     have g1:decide ((0:Int)<(u:Int))=false:=by simp; omega
     have g2:decide ((0:Int)<(v:Int))=true:=by simp; omega
     have g1':decide (0<u)=false:=by simp; omega
     have g2':decide (0<v)=true:=by simp; omega
     clear hend hu0
     go_wp2
     go_quiet (fail)
     go_wp2
     go_roundg (gk - 1)
     case measure=>omega
     case rel=>exact ⟨i+1,s+t,p2,qu,qv,by go_num,rfl,rfl,rfl,by omega,by omega,HU2,HV2,HP2,HS2,c0,zac hB _⟩
    ·have g1:decide ((0:Int)<(u:Int))=true:=by simp; omega
     have g1':decide (0<u)=true:=by simp; omega
     clear hend hu0
     go_wp2
     go_quiet (fail)
     go_wp2
     go_roundg (gk - 1)
     case measure=>omega
     case rel=>exact ⟨i+1,s+t,p2,qu,qv,by go_num,rfl,rfl,rfl,by omega,by omega,HU2,HV2,HP2,HS2,c0,zac hB _⟩
end
theorem IntsR.here {w:World} {B b o n i:Nat} {f:Nat->Int} (h:IntsR w B (some ⟨b,o,none⟩) n f) (hi:i<n):w.cell? ⟨b,o+i,none⟩=some (.int .i64 (f i)):=by
 obtain ⟨b',o',e,_,h⟩:=h.at hi
 injection e with e
 injection e with e1 e2
 subst e1 e2
 exact h
def dotN (add mul:Nat->Nat->Nat) (a b:Nat->Nat):Nat->Nat
 | 0=>0
 | n+1=>add (dotN add mul a b n) (mul (a n) (b n))
section
variable {P M g:Nat} {m:Nat->Nat} {w:World}
theorem zdH (x:Int) (h:GF w w.heap.size g P M m) :
  Calls Tryz.prog 180 #[.pointer (some ⟨g,0,none⟩),.int .i64 x] w fun e w'=>e=.returned (.int .i64 (negF P M (inV (P ^ M) x):Nat))/\Below w.heap.size w w':=by
 have hok:=h.ok.1
 have hP2:=hok.1
 have hPl:=hok.P_le
 have hM1:=hok.2.1
 have hq:=hok.2.2.2
 have hPw:Hid (∀ i,i<=M->P ^ i<=256):=fun i hi=>hok.pow_le hi
 clear hok
 have hX:=zex (Nat.pow_pos (n:=M) (show 0<P by omega)) x
 go_enter Tryz.func180, Tryz.ntmps180
 go_wp2_with fail
 refine (zck x h).mono ?_
 rintro e w2 ⟨rfl,hB⟩
 have h2:=h.on hB
 clear h
 obtain ⟨A,k,c,eb,eo,ec,lb,lo,lc,gx,lg,h⟩:=h2
 have c0:=qc0 h.row
 clear h
 obtain ⟨X,hXe⟩:∃ X,X=inV (P ^ M) x:=⟨_,rfl⟩
 rw [<-hXe] at hX;rw [<-hXe]
 have HXE:=hid hXe
 clear hXe
 have hX6:X<256:=by omega
 have HXM:Hid (X<P ^ M):=hX
 clear hX hq
 go_wp2
 go_loopg [5,6,1] M (fun gg sv pv xv wx=>∃ i s p u:Nat,sv=.int .i64 (s:Nat)/\pv=.int .i64 (p:Nat)/\xv=.int .i64 (u:Nat)/\i<=M/\M<=i+gg/\Hid (u=X / P ^ i)/\Hid (p=P ^ i)/\Hid (s=valN P (fun i=>(P - dig P X i) % P) i)/\wx.cell? ⟨g,0,none⟩=some (.int .i64 (P:Nat))/\Below w.heap.size w wx)
 case atStart=>exact ⟨0,0,1,X,rfl,rfl,rfl,by omega,by omega,by show _=_; simp,by show _=_; simp,rfl,c0,hB⟩
 case round =>
  clear c0 hB
  obtain ⟨i,s,p,u,rfl,rfl,rfl,hi,hig,HU,HPI,HS,c0,hB⟩:=hrel
  have hu6:u<=X:=by rw [HU.out]; exact Nat.div_le_self _ _
  by_cases hend:u=0
  ·have hval:Hid (negF P M X=s):=by
    show _=_
    rw [HS.out]
    unfold negF
    exact zeP M (fun j h1 _=>by rw [zeQ (by rw [<-HU.out]; exact hend) h1]; simp) hi
   subst hend
   go_wp2
   go_ret
   exact ⟨by rw [<-HXE.out,hval.out]; rfl,hB⟩
  ·have hiM:i<M:=by
    refine Classical.byContradiction fun hn=>hend ?_
    obtain rfl:i=M:=by omega
    rw [HU.out]; exact Nat.div_eq_of_lt HXM.out
   obtain ⟨du,hdu⟩:∃ d,d=u % P:=⟨_,rfl⟩
   obtain ⟨qu,hqu⟩:∃ d,d=u / P:=⟨_,rfl⟩
   obtain ⟨ds,hds⟩:∃ d,d=(P - du) % P:=⟨_,rfl⟩
   obtain ⟨t,ht⟩:∃ t,t=ds*p:=⟨_,rfl⟩
   obtain ⟨p2,hp2⟩:∃ t,t=p*P:=⟨_,rfl⟩
   have hduP:du<P:=by rw [hdu]; exact Nat.mod_lt _ (by omega)
   have hdsP:ds<P:=by rw [hds]; exact Nat.mod_lt _ (by omega)
   have hp6:p<=256:=by rw [HPI.out]; exact hPw.out i hi
   have hp26:p2=P ^ (i+1):=by rw [hp2,HPI.out,Nat.pow_succ]
   have hp27:p2<=256:=by rw [hp26]; exact hPw.out (i+1) hiM
   have ht6:t<=256:=by
    have:t<=p2:=by rw [ht,hp2,Nat.mul_comm]; exact Nat.mul_le_mul_left p (by omega)
    omega
   have hs6:s<=256:=by
    have:=za9 (p:=P) (n:=i) (f:=fun i=>(P - dig P X i) % P) fun _ _=>Nat.mod_lt _ (by omega)
    rw [<-HS.out] at this
    have:=hPw.out i hi
    omega
   have HS2:Hid (s+t=valN P (fun i=>(P - dig P X i) % P) (i+1)):=by
    show _=_
    rw [zcy,<-HS.out,ht,hds,hdu,HU.out,HPI.out,Nat.mul_comm]
    rfl
   have HU2:Hid (qu=X / P ^ (i+1)):=by show _=_; rw [hqu,HU.out,Nat.pow_succ,Nat.div_div_eq_div_mul]
   have HP2:=hid hp26
   have m1:(u:Int).tmod (P:Int)=(du:Int):=by rw [hdu,Int.tmod_eq_emod_of_nonneg (by omega)]; simp
   have e1:(u:Int) % (P:Int)=(du:Int):=by rw [hdu]; simp
   have hcast:((P:Int) - (du:Int))=((P - du:Nat):Int):=by omega
   have e3:((P:Int) - (du:Int)) % (P:Int)=(ds:Int):=by rw [hds,hcast]; rfl
   have m3:((P:Int) - (du:Int)).tmod (P:Int)=(ds:Int):=by rw [Int.tmod_eq_emod_of_nonneg (by omega)]; exact e3
   have e4:(ds:Int)*(p:Int)=(t:Int):=by rw [ht]; simp
   have e5:(p:Int)*(P:Int)=(p2:Int):=by rw [hp2]; simp
   have d1:(u:Int).tdiv (P:Int)=(qu:Int):=by rw [hqu,Int.tdiv_eq_ediv_of_nonneg (by omega)]; rfl
   have d3:(u:Int) / (P:Int)=(qu:Int):=by rw [hqu]; rfl
   have qu6:qu<=256:=by have:u / P<=u:=Nat.div_le_self _ _; omega
   have w1':IntKind.i64.wrap ((P:Int) - (du:Int))=(P:Int) - (du:Int):=IntWalk.i64_in _ (by omega)
   have w2':IntKind.i64.wrap (du:Int)=(du:Int):=IntWalk.i64_in _ (by omega)
   have w4':IntKind.i64.wrap (ds:Int)=(ds:Int):=IntWalk.i64_in _ (by omega)
   have w5':IntKind.i64.wrap (t:Int)=(t:Int):=IntWalk.i64_in _ (by omega)
   have w6':IntKind.i64.wrap (p2:Int)=(p2:Int):=IntWalk.i64_in _ (by omega)
   have w7':IntKind.i64.wrap ((s:Int)+(t:Int))=(s:Int)+(t:Int):=IntWalk.i64_in _ (by omega)
   have w8':IntKind.i64.wrap (qu:Int)=(qu:Int):=IntWalk.i64_in _ (by omega)
   have hP0:¬ (P:Int)=0:=by omega
   have hPn:¬ P=0:=by omega
   have hu0:(0:Int)<(u:Int):=by omega
   have hu0':0<u:=by omega
   clear hdu hqu hds ht hp2 hp26 HU HPI HS hcast hend
   go_wp2
   go_quiet (fail)
   go_wp2
   go_roundg (gk - 1)
   case measure=>omega
   case rel=>exact ⟨i+1,s+t,p2,qu,by go_num,rfl,rfl,by omega,by omega,HU2,HP2,HS2,c0,zac hB _⟩
theorem zbG (x y:Int) (h:GF w w.heap.size g P M m) :
  Calls Tryz.prog 108 #[.pointer (some ⟨g,0,none⟩),.int .i64 x,.int .i64 y] w fun e w'=>e=.returned (.int .i64 (mulF P M m (inV (P ^ M) x) (inV (P ^ M) y):Nat))/\Below w.heap.size w w':=by
 have hok:=h.ok
 have hL:=fieldLaws hok
 have hP2:=hok.1.1
 have hq:=hok.1.2.2.2
 have hq2:=hL.two
 have hX:=zex (Nat.pow_pos (n:=M) (show 0<P by omega)) x
 have hY:=zex (Nat.pow_pos (n:=M) (show 0<P by omega)) y
 have HR:=hid (ringM m hok.1)
 go_enter Tryz.func108, Tryz.ntmps108
 go_wp2_with fail
 refine (zck x h).mono ?_
 rintro e w1 ⟨rfl,hB⟩
 have h1:=h.on hB
 go_wp2_with fail
 refine (zck y h1).mono ?_
 rintro e w2 ⟨rfl,kb⟩
 have h2:=h1.on kb
 replace hB:=onS hB kb;clear kb h1 h
 obtain ⟨X,hXe⟩:∃ X,X=inV (P ^ M) x:=⟨_,rfl⟩
 obtain ⟨Y,hYe⟩:∃ X,X=inV (P ^ M) y:=⟨_,rfl⟩
 rw [<-hXe] at hX;rw [<-hYe] at hY;rw [<-hXe,<-hYe]
 have HXE:=hid hXe
 have HYE:=hid hYe
 clear hXe hYe
 have HL:=hid hL
 clear hL hok
 by_cases hX0:X=0
 ·have hv:Hid (mulF P M m X Y=0):=by
   show _=_
   rw [HL.out.mulComm X Y hX hY,hX0]
   exact HL.out.mulZero hY
  have hd:((X:Int) == 0)=true:=by simp [hX0]
  clear hX0 h2
  go_wp2
  go_ret
  exact ⟨by rw [<-HXE.out,<-HYE.out,hv.out]; rfl,hB⟩
 ·have hd:((X:Int) == 0)=false:=by simp [hX0]
  by_cases hY0:Y=0
  ·have hv:Hid (mulF P M m X Y=0):=by
    show _=_
    rw [hY0]
    exact HL.out.mulZero hX
   have hd2:((Y:Int) == 0)=true:=by simp [hY0]
   clear hX0 hY0 h2
   go_wp2
   go_ret
   exact ⟨by rw [<-HXE.out,<-HYE.out,hv.out]; rfl,hB⟩
  ·have hd2:((Y:Int) == 0)=false:=by simp [hY0]
   obtain ⟨A,k,c,eb,eo,ec,lb,lo,lc,gx,lg,h⟩:=h2
   obtain ⟨i,hi,hpi⟩:=zei hq2 h.gen.1 hX0 hX
   obtain ⟨j,hj,hpj⟩:=zei hq2 h.gen.1 hY0 hY
   have hli:lg X=i:=by rw [<-hpi]; exact h.lgs i hi
   have hlj:lg Y=j:=by rw [<-hpj]; exact h.lgs j hj
   have c3:=qc3 h.row
   have c4:=qc4 h.row
   have c5:=qc5 h.row
   have l1:=h.lgr.here hX
   have l2:=h.lgr.here hY
   rw [hli] at l1;rw [hlj] at l2
   obtain ⟨r,hr⟩:∃ r,r=(i+j) % (P ^ M - 1):=⟨_,rfl⟩
   have hrq:r<P ^ M - 1:=by rw [hr]; exact Nat.mod_lt _ (by omega)
   have l3:=h.ex.here hrq
   have hval:pwG (mulF P M m) gx r=mulF P M m X Y:=by rw [hr,<-hpi,<-hpj,zfj HR.out h.xq h.gen hi j hj]
   rw [hval] at l3
   obtain ⟨Z,hZ⟩:∃ Z,Z=mulF P M m X Y:=⟨_,rfl⟩
   rw [<-hZ] at l3
   have HZ:=hid hZ
   obtain ⟨Q,hQ⟩:∃ Q,Q=P ^ M:=⟨_,rfl⟩
   rw [<-hQ] at hX hY hi hj c3 c4 c5 hrq hr hq hq2
   obtain ⟨Q1,hQ1⟩:∃ Q1,Q1=Q - 1:=⟨_,rfl⟩
   rw [<-hQ1] at hi hj c4 hrq hr
   have hQ1i:(Q:Int) - 1=(Q1:Int):=by omega
   have hQ10:¬ (Q1:Int)=0:=by omega
   have hQ1n:¬ Q1=0:=by omega
   have hQl:Q1<=256:=by omega
   have s0:(0:Int)<=(i:Int)+(j:Int):=by omega
   have m1:((i:Int)+(j:Int)) % (Q1:Int)=(r:Int):=by rw [hr]; simp
   have m2:((i:Int)+(j:Int)).tmod (Q1:Int)=(r:Int):=by rw [Int.tmod_eq_emod_of_nonneg s0]; exact m1
   have ws:IntKind.i64.wrap ((i:Int)+(j:Int))=(i:Int)+(j:Int):=IntWalk.i64_in _ (by omega)
   have wr':IntKind.i64.wrap (r:Int)=(r:Int):=IntWalk.i64_in _ (by omega)
   have wq:IntKind.i64.wrap (Q1:Int)=(Q1:Int):=IntWalk.i64_in _ (by omega)
   have hXi:(X:Int)<(Q:Int):=by omega
   have hYi:(Y:Int)<(Q:Int):=by omega
   have hri:(r:Int)<(Q1:Int):=by omega
   clear h hZ hQ hQ1 hr hval hpi hpj hli hlj hX0 hY0 HR HL
   go_wp2
   go_quiet (fail)
   go_wp2
   go_ret
   exact ⟨by rw [<-HXE.out,<-HYE.out,<-HZ.out]; rfl,zac hB _⟩
theorem zfl (x:Int) (h:GF w w.heap.size g P M m) :
  Calls Tryz.prog 179 #[.pointer (some ⟨g,0,none⟩),.int .i64 x] w fun e w'=>Below w.heap.size w w'/\((inV (P ^ M) x=0/\e=.returned (.tuple #[.int .i64 0,.int .i64 7]))∨(inV (P ^ M) x≠0/\∃ y:Nat,e=.returned (.tuple #[.int .i64 (y:Nat),.int .i64 0])/\y<P ^ M/\y≠0/\mulF P M m (inV (P ^ M) x) y=1)):=by
 have hok:=h.ok
 have hL:=fieldLaws hok
 have hP2:=hok.1.1
 have hq:=hok.1.2.2.2
 have hq2:=hL.two
 have hX:=zex (Nat.pow_pos (n:=M) (show 0<P by omega)) x
 have HR:=hid (ringM m hok.1)
 go_enter Tryz.func179, Tryz.ntmps179
 go_wp2_with fail
 refine (zck x h).mono ?_
 rintro e w2 ⟨rfl,hB⟩
 have h2:=h.on hB
 clear h
 obtain ⟨X,hXe⟩:∃ X,X=inV (P ^ M) x:=⟨_,rfl⟩
 rw [<-hXe] at hX;rw [<-hXe]
 have HXE:=hid hXe
 clear hXe hL hok
 by_cases hX0:X=0
 ·have HX0:=hid hX0
  have hd:((X:Int) == 0)=true:=by simp [hX0]
  clear hX0 h2
  go_wp2
  go_ret2
  exact ⟨hB,.inl ⟨by rw [<-HXE.out]; exact HX0.out,rfl⟩⟩
 ·have HX0:=hid hX0
  have hd:((X:Int) == 0)=false:=by simp [hX0]
  obtain ⟨A,k,c,eb,eo,ec,lb,lo,lc,gx,lg,h⟩:=h2
  obtain ⟨i,hi,hpi⟩:=zei hq2 h.gen.1 hX0 hX
  have hli:lg X=i:=by rw [<-hpi]; exact h.lgs i hi
  have c3:=qc3 h.row
  have c4:=qc4 h.row
  have c5:=qc5 h.row
  have l1:=h.lgr.here hX
  rw [hli] at l1
  obtain ⟨d,hd1⟩:∃ d,d=P ^ M - 1 - i:=⟨_,rfl⟩
  obtain ⟨r,hr⟩:∃ r,r=d % (P ^ M - 1):=⟨_,rfl⟩
  have hrq:r<P ^ M - 1:=by rw [hr]; exact Nat.mod_lt _ (by omega)
  have l3:=h.ex.here hrq
  obtain ⟨Z,hZ⟩:∃ Z,Z=pwG (mulF P M m) gx r:=⟨_,rfl⟩
  rw [<-hZ] at l3
  have HV:Hid (Z<P ^ M/\Z≠0/\mulF P M m X Z=1):=by
   refine ⟨by rw [hZ]; exact h.gen.1.lt r hrq,by rw [hZ]; exact h.gen.1.ne r hrq,?_⟩
   rw [hZ,<-hpi,zfj HR.out h.xq h.gen hi r hrq,hr,Nat.add_mod_mod,hd1,show i+(P ^ M - 1 - i)=P ^ M - 1 by omega,Nat.mod_self]
   rfl
  obtain ⟨Q,hQ⟩:∃ Q,Q=P ^ M:=⟨_,rfl⟩
  rw [<-hQ] at hX hi c3 c4 c5 hrq hr hq hq2 hd1 HV
  have HQ:=hid hQ
  obtain ⟨Q1,hQ1⟩:∃ Q1,Q1=Q - 1:=⟨_,rfl⟩
  rw [<-hQ1] at hi c4 hrq hr hd1
  have hQ1i:(Q:Int) - 1=(Q1:Int):=by omega
  have hQ10:¬ (Q1:Int)=0:=by omega
  have hQ1n:¬ Q1=0:=by omega
  have hQl:Q1<=256:=by omega
  have hdi:(Q1:Int) - (i:Int)=(d:Int):=by omega
  have m1:(d:Int) % (Q1:Int)=(r:Int):=by rw [hr]; simp
  have m2:(d:Int).tmod (Q1:Int)=(r:Int):=by rw [Int.tmod_eq_emod_of_nonneg (by omega)]; exact m1
  have wd:IntKind.i64.wrap (d:Int)=(d:Int):=IntWalk.i64_in _ (by omega)
  have wr':IntKind.i64.wrap (r:Int)=(r:Int):=IntWalk.i64_in _ (by omega)
  have wq:IntKind.i64.wrap (Q1:Int)=(Q1:Int):=IntWalk.i64_in _ (by omega)
  have hXi:(X:Int)<(Q:Int):=by omega
  have hri:(r:Int)<(Q1:Int):=by omega
  clear h hZ hQ hQ1 hr hpi hli hX0 HR hd1
  go_wp2
  go_quiet (fail)
  go_wp2
  go_ret2
  refine ⟨zac hB _,.inr ⟨by rw [<-HXE.out]; exact HX0.out,Z,rfl,?_⟩⟩
  rw [<-HXE.out,<-HQ.out]
  exact HV.out
end
section
variable {P M g:Nat} {m:Nat->Nat} {w:World}
theorem zjw {q:Nat} {add mul:Nat->Nat->Nat} (hL:FieldLaws q add mul) (a b:Nat->Nat):∀ n,dotN add mul a b n<q
 | 0=>by have:=hL.two; show 0<q; omega
 | _+1=>hL.addLt _ _
theorem zfM (a n:Nat) (V:Option Addr) (d:Nat) (v:Nat->Nat) (h:GF w w.heap.size g P M m) (ha:a<P ^ M) (hv:IntsR w w.heap.size V n (fun i=>(v i:Nat))) (hvq:∀ i,i<n->v i<P ^ M) (hn:n<=1048576) :
  Calls Tryz.prog 214 #[.pointer (some ⟨g,0,none⟩),.int .i64 (a:Nat),.slice V n d] w (RowPost n (fun i=>.int .i64 (mulF P M m a (v i):Nat)) w):=by
 have hq:=h.ok.1.2.2.2
 have HG:=hid h
 have HV:=hid hv
 have HVL:=hid hvq
 have HIA:=hid (zaE ha)
 clear h hv hvq
 have hmk:=fun W=>zaf (P:=Tryz.prog) 22 3 _ 8 Tryz.underlying22 Tryz.infoInt rfl (n:Int) (by omega) (by omega) (by omega) W
 simp only [Int.toNat_natCast] at hmk
 go_enter Tryz.func214, Tryz.ntmps214
 go_upto_region 2 with fail
 have hB:=(Below.refl w.heap.size w).alloc (Nat.le_refl _) (Obj.cells (madeCells #[Value.int .i64 0] n) 3)
 have ra:=World.rowIs_made w (.int .i64 0) n 3
 obtain ⟨w1,hw1⟩:∃ W,W=w.alloc (Obj.cells (madeCells #[Value.int .i64 0] n) 3):=⟨_,rfl⟩
 obtain ⟨r,hr⟩:∃ b,b=w.heap.size:=⟨_,rfl⟩
 rw [<-hw1] at hB ra ⊢;rw [<-hr] at ra ⊢
 have hrB:w.heap.size<=r:=by omega
 have HRE:=hid hr
 clear hw1 hr hmk
 go_wp2
 go_loopg [15] n (fun gg iv wx=>∃ i:Nat,iv=.int .i64 (i:Nat)/\i<=n/\n<=i+gg/\wx.rowIs r 3 n (fun t=>.int .i64 ((if t<i then mulF P M m a (v t) else 0:Nat):Int))/\Below w.heap.size w wx)
 case atStart=>exact ⟨0,rfl,by omega,by omega,ra.congr fun t _=>by rw [if_neg (by omega)]; rfl,hB⟩
 case round =>
  clear ra hB
  obtain ⟨i,rfl,hi,hig,ra,hB⟩:=hrel
  have hi0:(0:Int)<=(i:Int):=by omega
  by_cases hlt:i<n
  ·have hlt':(i:Int)<(n:Int):=by omega
   obtain ⟨vb,vo,rfl,hvb,x0⟩:=HV.out.at hlt
   have hvr:vb≠r:=by omega
   replace x0:=(hB.cell (p:=⟨vb,vo+i,none⟩) hvb).trans x0
   obtain ⟨x,hx⟩:∃ x,x=v i:=⟨_,rfl⟩
   have hix:inV (P ^ M) (x:Nat)=x:=by rw [hx]; exact zaE (HVL.out i hlt)
   rw [<-hx] at x0
   have HX:=hid hx
   have HIX:=hid hix
   clear hx hix
   have hG:=HG.out.at hB hB.size
   go_wp2_with fail
   refine (zbG (a:Int) (x:Int) hG).mono ?_
   rintro e w2 ⟨rfl,kb⟩
   rw [HIA.out,HIX.out];replace ra:=zaa ra kb;replace hB:=onS hB kb;clear kb hG x0
   obtain ⟨z,hz⟩:∃ z,z=mulF P M m a x:=⟨_,rfl⟩
   rw [<-hz]
   have ra2:(w2.setCell ⟨r,i,none⟩ (.int .i64 (z:Int))).rowIs r 3 n (fun t=>.int .i64 ((if t<i+1 then mulF P M m a (v t) else 0:Nat):Int)):=(ra.set i _).congr fun t ht=>by
    by_cases e:t=i
    ·subst e
     rw [if_pos rfl,if_pos (by omega),hz,HX.out]
    ·rw [if_neg e]
     by_cases e2:t<i
     ·rw [if_pos e2,if_pos (by omega)]
     ·rw [if_neg e2,if_neg (by omega)]
   have RA:=hid ra2
   have HB2:Hid (Below w.heap.size w (w2.setCell ⟨r,i,none⟩ (.int .i64 (z:Int)))):=hB.setCell hrB _
   have c0:=ra.cell hlt
   have z0:=ra.frozen i
   clear hz ra2 ra hB
   go_wp2
   clear c0 z0
   go_roundg (gk - 1)
   case measure=>omega
   case rel=>exact ⟨i+1,by go_num,by omega,by omega,RA.out,HB2.out⟩
  ·obtain rfl:i=n:=by omega
   have hlt':¬ (i:Int)<(i:Int):=by omega
   have hrow:Hid (wr.rowIs r 3 i (fun t=>.int .i64 (mulF P M m a (v t):Nat))):=ra.congr fun t ht=>by rw [if_pos ht]
   clear ra
   go_wp2
   go_ret
   exact ⟨r,rfl,hrB,hrow.out,hB⟩
end
theorem zfN (P M:Int) (A:Option Addr) (k c:Nat) (f:Nat->Int) (w:World) (hr:IntsR w w.heap.size A k f) :
  Calls Tryz.prog 142 #[.agg #[.int .i64 P,.int .i64 M,.slice A k c]] w (CheckPost (GoodF P M k f) w):=by
 have hB:Below w.heap.size w (w.alloc (.cells #[.int .i64 P,.int .i64 M,.slice A k c] 24)):=(Below.refl _ _).alloc (Nat.le_refl _) _
 have rf:=zad (w:=w) (a:=.int .i64 P) (b:=.int .i64 M) (c:=.slice A k c) (T := 24)
 obtain ⟨w0,hw0⟩:∃ W,W=w.alloc (.cells #[.int .i64 P,.int .i64 M,.slice A k c] 24):=⟨_,rfl⟩
 rw [<-hw0] at hB rf
 go_enter Tryz.func142, Tryz.ntmps142
 go_upto_region 1 with fail
 rw [<-hw0];clear hw0
 have q0:=qc0 rf
 have q1:=qc1 rf
 have q2:=qc2 rf
 refine wp_region_held_drew (S:=fun w'=>w'.cell? ⟨w.heap.size,0,none⟩=some (.int .i64 P)/\w'.cell? ⟨w.heap.size,1,none⟩=some (.int .i64 M)/\w'.cell? ⟨w.heap.size,2,none⟩=some (.slice A k c)) (by kernel_rfl) ⟨cellS (Below.refl _ _).drew q0,cellS (Below.refl _ _).drew q1,cellS (Below.refl _ _).drew q2⟩ (fun hHeld=>?_)
 obtain ⟨w1,hw⟩:∃ W,W=World.drew w0:=⟨_,rfl⟩
 have kb:Below w0.heap.size w0 w1:=by rw [hw]; exact (Below.refl _ _).drew
 rw [<-hw] at hHeld ⊢;clear hw;replace hB:=onS hB kb;replace rf:=zaa rf kb;clear kb q0 q1 q2
 refine tkq 0 (h:=rdq 1 (h:=fun K hK=>?_))
 go_simp
 go_wp2_with fail
 refine (zfk P M A k c f w1 (hr.on hB)).mono ?_
 rintro e w2 ⟨b,rfl,hb,kb⟩
 replace hB:=onS hB kb;replace rf:=zaa rf kb
 have HBS:=hid hb
 clear kb hb
 have q0:=qc0 rf
 have q1:=qc1 rf
 have q2:=qc2 rf
 cases b
 ·have hno:Hid (¬ GoodF P M k f):=fun h=>by have:=HBS.out.2 h.shape; cases this
  refine bkq hK ⟨q0,q1,q2⟩ (h:=fun hHeld=>?_)
  clear hK K
  refine tkq 2 (h:=tkq 3 (h:=tkn 4 (h:=tkn 5 (h:=tkn 6 (h:=tkn 7 (h:=tkn 8 (h:=tkn 9 (h:=tkn 10 (h:=tkn 11 (h:=tkq 12 (h:=?_)))))))))))
  refine wpAnyH_done (by kernel_rfl) ?_ _
  clear hHeld
  go_wp2
  go_ret
  exact zaJ hno.out hB
 ·have hs:=HBS.out.1 rfl
  clear HBS
  obtain ⟨P,M,rfl,rfl,hf,hkM⟩:=hs.fld
  have HS:=hid hs
  have HF:=hid hf
  have HKM:Hid (M=1∨k=M):=hkM
  have hov:=hid (zbS hf)
  clear hs hf hkM
  refine bkq hK ⟨q0,q1,q2⟩ (h:=fun hHeld=>?_)
  clear hK K
  refine tkq 2 (h:=tkq 3 (h:=tkq 4 (h:=tkq 5 (h:=tkq 6 (h:=tkq 7 (h:=tkq 8 (h:=rdq 9 (h:=fun K hK=>?_))))))))
  go_simp
  go_wp2_with fail
  refine (zcj (P:Int) (M:Int) _).mono ?_
  rintro e w3 ⟨rfl,kb⟩
  rw [hov.out];replace hB:=onS hB kb;replace rf:=zaa rf kb;clear kb q0 q1 q2
  refine bkq hK ⟨qc0 rf,qc1 rf,qc2 rf⟩ (h:=fun hHeld=>?_)
  clear hK K
  refine rdq 10 (h:=fun K hK=>?_)
  go_simp
  go_wp2_with fail
  refine (zcp P M A k c (fun i=>(f i).toNat) (P ^ M) w3 HF.out (HS.out.mod (hr.on hB)) HKM.out rfl).mono ?_
  rintro e w4 ⟨kb,hg⟩
  have HG:=hid hg
  replace hB:=onS hB kb;replace rf:=zaa rf kb;clear kb hg
  rcases HG.out with ⟨rfl,hno⟩ | ⟨lv,x,rfl,hx1,hxq,hgx,hO⟩
  ·have hno:Hid (¬ GoodF (P:Int) (M:Int) k f):=fun h=>by
    obtain ⟨x,h1,h2,h3⟩:=HS.out.good.1 h
    exact hno x h1 h2 h3
   refine bkq hK ⟨qc0 rf,qc1 rf,qc2 rf⟩ (h:=fun hHeld=>?_)
   clear hK K
   have he:∀ w:World,(binOp .eql 22 (.slice none 0 0) (.slice none 0 0)).run Tryz.prog w=.ok (.bool true) w:=fun _=>rfl
   refine tkq 11 (h:=tkq 12 (h:=?_))
   refine wpAnyH_done (by kernel_rfl) ?_ _
   clear hHeld
   go_wp2
   go_ret
   exact zaJ hno.out hB
  ·have hyes:Hid (GoodF (P:Int) (M:Int) k f):=HS.out.good.2 ⟨x,hx1,hxq,hgx⟩
   have hne:P ^ M - 1≠0:=by omega
   obtain ⟨lb,lo,lc,rfl,_⟩:=hO.form (by omega)
   obtain ⟨L,hL⟩:∃ L,L=P ^ M - 1:=⟨_,rfl⟩
   rw [<-hL];clear hne hO hxq hL hgx HG
   refine bkq hK ⟨qc0 rf,qc1 rf,qc2 rf⟩ (h:=fun hHeld=>?_)
   clear hK K
   have he:∀ w:World,(binOp .eql 22 (.slice (some ⟨lb,lo,none⟩) L lc) (.slice none 0 0)).run Tryz.prog w=.ok (.bool false) w:=fun _=>rfl
   refine tkq 11 (h:=tkq 12 (h:=?_))
   refine wpAnyH_done (by kernel_rfl) ?_ _
   clear hHeld
   go_wp2
   go_ret
   exact zcd hyes.out hB
end Go.Proofs.YtioagplajkoohaaGreat