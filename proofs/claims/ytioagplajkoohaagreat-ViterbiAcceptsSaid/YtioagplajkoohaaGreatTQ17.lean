/- Merged texts of a claim: IVals, BwdMath, Along, AliveAll, PotTop, SoundPl, PotPl, Wt11, SoundLaw, IRepeat. -/
import Derived.Test.YtioagplajkoohaaGreatTQ1
import Derived.Test.YtioagplajkoohaaGreatTQ3
import Derived.Test.YtioagplajkoohaaGreatTQ7
import Derived.Test.YtioagplajkoohaaGreatTQ12
import Derived.Test.YtioagplajkoohaaGreatTQ14
import Derived.Test.YtioagplajkoohaaGreatTQ16
namespace Go.Proofs.YtioagplajkoohaaGreat
set_option maxRecDepth 100000
set_option maxHeartbeats 32000000
open KA KB KC KD KE KF
open Go.RowKit
def Trel.yOf (T:Trel) (C:Nat->Nat->Int) (i j:Nat):Int:=C i (T.lb i j).toNat
def Trel.Fit (T:Trel) (ln:Nat->Nat):Prop:=∀ i,i<T.n->∀ j,j<T.el i->0<=T.lb i j/\T.lb i j<(ln i:Nat)
theorem zdg (CA:Option Addr) (M cc cb i a:Nat) (ln:Nat->Nat) (C:Nat->Nat->Int) (w:World) (h:IntRows w CA M ln C) (hc:w.cell? ⟨cb,0,none⟩=some (.slice CA M cc)) (hi:i<M) (ha:a<ln i) :
  Calls Tryz.prog 244 #[.int .i64 (i:Nat),.int .i64 (a:Nat),.pointer (some ⟨cb,0,none⟩)] w fun e w'=>e=.returned (.int .i64 (C i a))/\Below w.heap.size w w':=by
 obtain ⟨b,o,R,rc,rfl,hb,x0,h1,h2,h3,h4⟩:=h i hi
 obtain ⟨rb,ro,rfl,hrb,x1⟩:=h3.at ha
 obtain ⟨n1,hn1⟩:∃ n,n=ln i:=⟨_,rfl⟩
 obtain ⟨v,hv⟩:∃ v,v=C i a:=⟨_,rfl⟩
 rw [<-hn1] at x0 ha;rw [<-hv] at x1
 have HV:=hid hv
 have hi0:(0:Int)<=(i:Int):=by omega
 have ha0:(0:Int)<=(a:Int):=by omega
 have hi1:(i:Int)<(M:Int):=by omega
 have ha1:(a:Int)<(n1:Int):=by omega
 clear h h3 h4 hv hn1 h1
 go_enter Tryz.func244, Tryz.ntmps244
 go_wp2
 go_ret
 exact ⟨by rw [<-HV.out]; rfl,Below.refl _ _⟩
def SecPost (T:Trel) (x:Nat->Nat->Int) (w:World) (e:Ending) (w':World):Prop :=
 ∃ g F,e=.returned (.slice (some ⟨g,0,none⟩) T.n T.n)/\w.heap.size<=g/\IntTab w' g (g+1) T.n F T.el x/\Below w.heap.size w w'
theorem zhY (T:Trel) (A B CA:Option Addr) (c d M cc cb:Nat) (ln:Nat->Nat) (C:Nat->Nat->Int) (w:World) (h:T.Reads w A B) (hs:T.Shape) (hC:IntRows w CA M ln C) (hM:M=T.n) (hF:T.Fit ln) (hcb:w.cell? ⟨cb,0,none⟩=some (.slice CA M cc)) :
  Calls Tryz.prog 243 #[.agg #[.slice A T.nw c,.slice B T.n d],.func (.func 244) #[] #[.pointer (some ⟨cb,0,none⟩)]] w (SecPost T (T.yOf C) w):=by
 have hcf:∀ (x y p:Value) (W:World),(callFunc 244 #[x,y,p]).run Tryz.prog W=.ok (.enter 244 #[x,y,p]) W:=fun _ _ _ _=>by kernel_rfl
 obtain ⟨RB,hRB⟩:∃ o,o=(Obj.cells #[.slice A T.nw c,.slice B T.n d] 74):=⟨_,rfl⟩
 have hB0:Below (w.heap.size+1) (w.alloc RB) (w.alloc RB):=Below.refl _ _
 have HS:Hid (∀ w',Below (w.heap.size+1) (w.alloc RB) w'->(w'.cell? ⟨w.heap.size,0,none⟩=some (.slice A T.nw c)/\w'.cell? ⟨w.heap.size,1,none⟩=some (.slice B T.n d))/\Below w.heap.size w w'):=fun w' hB=>by
  have hB':=zay hB
  subst hRB
  exact ⟨⟨tbox hB rfl,tbox hB rfl⟩,hB'⟩
 obtain ⟨⟨p0,p1⟩,hW⟩:=HS.out _ hB0
 have hn64:=hs.n64
 have hmk:=fun W=>zaf (P:=Tryz.prog) 25 22 _ 24 Tryz.underlying25 Tryz.infoInts rfl (T.n:Int) (by omega) (by omega) (by omega) W
 simp only [Int.toNat_natCast] at hmk
 have HR:=hid h
 have HSH:=hid hs
 have HC:=hid hC
 have HF:=hid hF
 have HM:=hid hM
 have HCB:=hid hcb
 clear h hs hC hF hM hcb
 have hl0:w.heap.size<(w.alloc RB).heap.size:=by simp
 go_enter Tryz.func243, Tryz.ntmps243
 go_wp2_with fail
 rw [<-hRB]
 go_upto_region 2 with fail
 obtain ⟨W2,hW2⟩:∃ W,W=w.alloc RB:=⟨_,rfl⟩
 have hsz2:W2.heap.size=w.heap.size+1:=by rw [hW2]; simp
 have HS2:Hid (∀ w',Below (w.heap.size+1) W2 w'->(w'.cell? ⟨w.heap.size,0,none⟩=some (.slice A T.nw c)/\w'.cell? ⟨w.heap.size,1,none⟩=some (.slice B T.n d))/\Below w.heap.size w w'):=by rw [hW2]; exact HS
 rw [<-hW2] at hB0 ⊢
 obtain ⟨g,hg⟩:∃ g,g=w.heap.size+1:=⟨_,rfl⟩
 have hgz:g=W2.heap.size:=by omega
 have hr3:=World.rowIs_made W2 (.slice none 0 0) T.n 22
 have hB3:=zai hB0 (Nat.le_of_eq hsz2.symm) ((Below.refl W2.heap.size W2).alloc (Nat.le_refl _) (Obj.cells (madeCells #[Value.slice none 0 0] T.n) 22))
 have hl3:w.heap.size+1<(W2.alloc (Obj.cells (madeCells #[Value.slice none 0 0] T.n) 22)).heap.size:=by simp; omega
 obtain ⟨W3,hW3⟩:∃ W,W=W2.alloc (Obj.cells (madeCells #[Value.slice none 0 0] T.n) 22):=⟨_,rfl⟩
 rw [<-hgz] at hr3;rw [<-hW3] at hr3 hB3 hl3 ⊢;rw [<-hg]
 have hT3:IntTab W3 g (g+1) T.n (fun _=>.slice none 0 0) (fun v=>if v<0 then T.el v else 0) (T.yOf C):=(zbq hr3).congr (fun v _=>(if_neg (by omega)).symm) (fun v _ k hk=>rfl)
 have hg2:w.heap.size+1<=g:=by omega
 clear hW3 hgz hg hr3 hW2 HS hB0 hmk hRB hsz2 hl0 p0 p1 hW
 obtain ⟨⟨p0,p1⟩,hW⟩:=HS2.out _ hB3
 go_wp2
 go_loopg [17] T.n (fun gg iv wx=>∃ (k:Nat) (F:Nat->Value),iv=.int .i64 (k:Nat)/\k<=T.n/\T.n<=k+gg/\IntTab wx g (g+1) T.n F (fun v=>if v<k then T.el v else 0) (T.yOf C)/\Below (w.heap.size+1) W2 wx/\w.heap.size+1<wx.heap.size)
 case atStart=>exact ⟨0,_,rfl,by omega,by omega,hT3,hB3,hl3⟩
 case round =>
  clear hW p0 p1 hT3 hB3 hl3
  obtain ⟨gK,hgK⟩:∃ g,g=gk:=⟨_,rfl⟩
  subst hgK
  obtain ⟨k,F,rfl,hk,hkg,hT,hB,hl⟩:=hrel
  obtain ⟨wk,hwk⟩:∃ W,W=wr:=⟨_,rfl⟩
  subst hwk
  have hk0:(0:Int)<=(k:Int):=by omega
  obtain ⟨⟨p0,p1⟩,hW⟩:=HS2.out _ hB
  by_cases hlt:k<T.n
  ·have hlt':(k:Int)<(T.n:Int):=by omega
   obtain ⟨eb,eo,E,ec,rfl,heb,x0w,he1,he2,he3,he4⟩:=HR.out.sec hlt
   have x0:=cellS hW x0w
   have hel:=HSH.out.elb hlt
   obtain ⟨n1,hn1⟩:∃ n:Nat,n=T.el k:=⟨_,rfl⟩
   rw [<-hn1] at x0 hel
   have HN1:=hid hn1
   have HE3:=hid he3
   have hT0:IntTab wk g (g+1) T.n F (fun v=>if v<k then T.el v else if v=k then 0 else 0) (T.yOf C):=hT.congr (fun v _=>by split <;> simp) (fun v _ q hq=>rfl)
   clear hT hn1 he3 he4 x0w he1 he2
   go_wp2
   go_loopg [24] n1 (fun gg jv wx=>∃ (j:Nat) (F:Nat->Value),jv=.int .i64 (j:Nat)/\j<=n1/\n1<=j+gg/\IntTab wx g (g+1) T.n F (fun v=>if v<k then T.el v else if v=k then j else 0) (T.yOf C)/\Below (w.heap.size+1) W2 wx/\w.heap.size+1<wx.heap.size)
   case atStart=>exact ⟨0,F,rfl,by omega,by omega,hT0,hB,hl⟩
   case round =>
    clear hW p0 p1 hT0 hB hl x0
    obtain ⟨j,F2,rfl,hj,hjg,hT,hB,hl⟩:=hrel
    have hj0:(0:Int)<=(j:Int):=by omega
    have hW:=(HS2.out _ hB).2
    by_cases hltj:j<n1
    ·have hltj':(j:Int)<(n1:Int):=by omega
     obtain ⟨fb,fo,rfl,hfb,e0,e1,e2⟩:=zaS ((Rd.below HE3.out hW (Nat.le_refl _)).mono hW.size) (show j<T.el k by rw [<-HN1.out]; exact hltj)
     have hfit:=HF.out k hlt j (by rw [<-HN1.out]; exact hltj)
     obtain ⟨la,hla⟩:∃ n:Nat,(n:Int)=T.lb k j:=⟨(T.lb k j).toNat,by omega⟩
     have hY:Hid (C k la=T.yOf C k j):=by show C k la=C k (T.lb k j).toNat; rw [<-hla]; rfl
     have hlal:la<ln k:=by omega
     rw [<-hla] at e1
     obtain ⟨fv,hfv⟩:∃ z,z=T.fr k j:=⟨_,rfl⟩
     obtain ⟨tv,htv⟩:∃ z,z=T.to k j:=⟨_,rfl⟩
     rw [<-hfv] at e0;rw [<-htv] at e2
     obtain ⟨fk,hfk⟩:∃ v,v=F2 k:=⟨_,rfl⟩
     have q0:wr.cell? ⟨g,k,none⟩=some fk:=by rw [hfk]; exact hT.row.cell hlt
     have HFK:=hid hfk
     have hCr:=HC.out.on hW
     have hcb:=cellS hW HCB.out
     have hkM:k<M:=by rw [HM.out]; exact hlt
     clear hfk hfv htv hla hfit hW
     go_upto_region 8 with fail
     obtain ⟨OB,hOB⟩:∃ o,o=(Obj.cells #[.int .i64 fv,.int .i64 (la:Int),.int .i64 tv] 148):=⟨_,rfl⟩
     have s1:(wr.alloc OB).cell? ⟨wr.heap.size,1,none⟩=some (.int .i64 (la:Int)):=by subst hOB; exact tbox (Below.refl _ _) rfl
     have kb:Below wr.heap.size wr (wr.alloc OB):=(Below.refl _ _).alloc (Nat.le_refl _) _
     rw [<-hOB]
     obtain ⟨w50,hw50⟩:∃ W,W=wr.alloc OB:=⟨_,rfl⟩
     rw [<-hw50] at s1 kb ⊢
     have hbxl:∀ q,fk.ownBlock=some q->q<wr.heap.size:=fun q e=>by
      have:=(hT.own k hlt).lt q (by rw [<-HFK.out]; exact e)
      exact this.2
     have hxg:wr.heap.size≠g:=by have:=hT.row.lt; omega
     replace hT:=hT.on kb;replace hB:=zai hB (Nat.le_of_lt hl) kb;replace hl:=Nat.lt_of_lt_of_le hl kb.size;replace q0:=cellS kb q0;replace hCr:=hCr.on kb;replace hcb:=cellS kb hcb
     obtain ⟨bx,hbx2⟩:∃ b,b=wr.heap.size:=⟨_,rfl⟩
     rw [<-hbx2] at s1 hxg hbxl ⊢
     have HBXL:=hid hbxl
     clear hw50 hOB kb e0 e1 e2 hbx2 hbxl
     refine wp_region_held_drew (S:=fun w'=>w'.cell? ⟨bx,1,none⟩=some (.int .i64 (la:Int))) (by kernel_rfl) (cellS (Below.refl _ _).drew s1) (fun hHeld=>?_)
     obtain ⟨w51,hw⟩:∃ W,W=World.drew w50:=⟨_,rfl⟩
     have kb:Below w50.heap.size w50 w51:=by rw [hw]; exact (Below.refl _ _).drew
     rw [<-hw] at hHeld ⊢;clear hw;replace hB:=zai hB (Nat.le_of_lt hl) kb;replace hl:=Nat.lt_of_lt_of_le hl kb.size;replace hT:=hT.on kb;replace q0:=cellS kb q0;replace s1:=cellS kb s1;replace hCr:=hCr.on kb;replace hcb:=cellS kb hcb;clear kb
     refine tkq 0 (h:=tkq 1 (h:=tkq 2 (h:=tkq 3 (h:=tkq 4 (h:=tkq 6 (h:=tkq 7 (h:=tkq 8 (h:=tkq 9 (h:=?_)))))))))
     refine rdq2 5 10 (h:=fun K hK=>?_) (h2:=fun K hK=>?_)
     ·go_simp
      refine bkq hK s1 (h:=fun hHeld=>?_)
      clear hK K
      refine rdq 10 (h:=fun K hK=>?_)
      go_simp
      go_wp2_with fail
      refine (zdg CA M cc cb k la ln C w51 hCr hcb hkM hlal).mono ?_
      rintro e w52 ⟨rfl,kb⟩
      replace hB:=zai hB (Nat.le_of_lt hl) kb;replace hl:=Nat.lt_of_lt_of_le hl kb.size;replace hT:=hT.on kb;replace q0:=cellS kb q0;replace s1:=cellS kb s1;replace hCr:=hCr.on kb;replace hcb:=cellS kb hcb;clear kb;rw [hY.out]
      obtain ⟨yv,hyv⟩:∃ z,z=T.yOf C k j:=⟨_,rfl⟩
      rw [<-hyv]
      have HYV:=hid hyv
      clear hyv
      refine bkq hK s1 (h:=fun hHeld=>?_)
      clear hK K
      refine rdq 11 (h:=fun K hK=>?_)
      go_simp
      obtain ⟨w53,hw⟩:∃ W,W=World.alloc w52 (Obj.cells #[Value.int .i64 yv] 3):=⟨_,rfl⟩
      have kb:Below w52.heap.size w52 w53:=by rw [hw]; exact (Below.refl _ _).alloc (Nat.le_refl _) _
      have n1c:w53.cell? ⟨w52.heap.size,0,none⟩=some (Value.int .i64 yv):=by rw [hw]; simp
      rw [<-hw];clear hw
      obtain ⟨nb_n1c,hnb⟩:∃ b,b=w52.heap.size:=⟨_,rfl⟩
      rw [<-hnb] at n1c ⊢;clear hnb;replace hB:=zai hB (Nat.le_of_lt hl) kb;replace hl:=Nat.lt_of_lt_of_le hl kb.size;replace hT:=hT.on kb;replace q0:=cellS kb q0;replace s1:=cellS kb s1;replace hCr:=hCr.on kb;replace hcb:=cellS kb hcb;clear kb
      refine bkq hK s1 (h:=fun hHeld=>?_)
      clear hK K
      refine rdq 12 (h:=fun K hK=>?_)
      have hOwn:Own w53 (g+1) 3 1 fk j (fun i _=>.int .i64 (T.yOf C k i)):=by
       have:=hT.own k hlt
       rw [if_neg (Nat.lt_irrefl k),if_pos rfl,<-HFK.out] at this
       exact this
      have hgl:g+1<=w53.heap.size:=hT.row.lt
      rw [HYV.out] at n1c
      refine zaC (by rfl) (.tmp 33) (.tmp 39) (by rfl) (g+1) fk j (fun i=>T.yOf C k i) (by rfl) hOwn hgl (by omega) nb_n1c 1 (by rfl) n1c ?_
      intro v9 w9 o1 o2 o3
      obtain ⟨A9,c9,hv9⟩:=o1.shape
      subst hv9
      have hfo:∀ q,fk.ownBlock=some q->g+1<=q:=fun q e=>(hOwn.lt q e).1
      have q9:w9.cell? ⟨g,k,none⟩=some fk:=zaB q0 o2 fun e=>by have:=hfo g e; omega
      have z9:w9.frozen? ⟨g,k,none⟩=false:=by
       have:=(hT.row.of_block (o2.block g hT.row.lt fun e=>by have:=hfo g e.symm; omega)).frozen k
       exact this
      have hB9:Below (w.heap.size+1) W2 w9:=hB.grown o2 (Nat.le_of_lt hl) fun q e=>by have:=hfo q e; omega
      have hl9:w.heap.size+1<w9.heap.size:=Nat.lt_of_lt_of_le hl o2.size
      have s1:=zaB s1 o2 fun e=>absurd (HBXL.out _ e) (Nat.lt_irrefl _)
      have hPut:=hid (hT.put (by omega) hlt o1 (by rw [<-HFK.out]; exact o2) (by rw [<-HFK.out]; exact o3))
      refine bkq hK s1 (h:=fun hHeld=>?_)
      clear hK K
      refine tkq 13 (h:=?_)
      refine rdq 14 (h:=fun K hK=>?_)
      go_simp
      replace s1:=zab (p:=⟨g,k,none⟩) (u:=.slice A9 (j+1) c9) s1 hxg
      refine bkq hK s1 (h:=fun hHeld=>?_)
      clear hK K
      refine wpAnyH_done (by kernel_rfl) ?_ _
      clear hHeld
      have hN:=hPut.out.congr (n':=fun v=>if v<k then T.el v else if v=k then j+1 else 0) (x':=T.yOf C) (fun v _=>by
        by_cases e:v=k
        ·subst e; simp
        ·simp [e]) (fun v _ q hq=>by
        by_cases e:v=k
        ·rw [if_pos e,e]
        ·rw [if_neg e])
      have HN:=hid hN
      have hBf:=hB9.setCell (p:=⟨g,k,none⟩) hg2 (.slice A9 (j+1) c9)
      have hlf:w.heap.size+1<(w9.setCell ⟨g,k,none⟩ (.slice A9 (j+1) c9)).heap.size:=by simp; exact hl9
      clear hPut hN q9 z9 hB9
      go_wp2
      go_roundg (gk - 1)
      case measure=>omega
      case rel=>exact ⟨j+1,_,by go_num,by omega,by omega,HN.out,hBf,hlf⟩
     ·go_simp
      go_wp2_with fail
      refine (zdg CA M cc cb k la ln C w51 hCr hcb hkM hlal).mono ?_
      rintro e w52 ⟨rfl,kb⟩
      replace hB:=zai hB (Nat.le_of_lt hl) kb;replace hl:=Nat.lt_of_lt_of_le hl kb.size;replace hT:=hT.on kb;replace q0:=cellS kb q0;replace s1:=cellS kb s1;replace hCr:=hCr.on kb;replace hcb:=cellS kb hcb;clear kb;rw [hY.out]
      obtain ⟨yv,hyv⟩:∃ z,z=T.yOf C k j:=⟨_,rfl⟩
      rw [<-hyv]
      have HYV:=hid hyv
      clear hyv
      refine bkq hK s1 (h:=fun hHeld=>?_)
      clear hK K
      refine rdq2 5 11 (h:=fun K hK=>?_) (h2:=fun K hK=>?_)
      ·go_simp
       refine bkq hK s1 (h:=fun hHeld=>?_)
       clear hK K
       refine rdq 11 (h:=fun K hK=>?_)
       go_simp
       obtain ⟨w53,hw⟩:∃ W,W=World.alloc w52 (Obj.cells #[Value.int .i64 yv] 3):=⟨_,rfl⟩
       have kb:Below w52.heap.size w52 w53:=by rw [hw]; exact (Below.refl _ _).alloc (Nat.le_refl _) _
       have n1c:w53.cell? ⟨w52.heap.size,0,none⟩=some (Value.int .i64 yv):=by rw [hw]; simp
       rw [<-hw];clear hw
       obtain ⟨nb_n1c,hnb⟩:∃ b,b=w52.heap.size:=⟨_,rfl⟩
       rw [<-hnb] at n1c ⊢;clear hnb;replace hB:=zai hB (Nat.le_of_lt hl) kb;replace hl:=Nat.lt_of_lt_of_le hl kb.size;replace hT:=hT.on kb;replace q0:=cellS kb q0;replace s1:=cellS kb s1;replace hCr:=hCr.on kb;replace hcb:=cellS kb hcb;clear kb
       refine bkq hK s1 (h:=fun hHeld=>?_)
       clear hK K
       refine rdq 12 (h:=fun K hK=>?_)
       have hOwn:Own w53 (g+1) 3 1 fk j (fun i _=>.int .i64 (T.yOf C k i)):=by
        have:=hT.own k hlt
        rw [if_neg (Nat.lt_irrefl k),if_pos rfl,<-HFK.out] at this
        exact this
       have hgl:g+1<=w53.heap.size:=hT.row.lt
       rw [HYV.out] at n1c
       refine zaC (by rfl) (.tmp 33) (.tmp 39) (by rfl) (g+1) fk j (fun i=>T.yOf C k i) (by rfl) hOwn hgl (by omega) nb_n1c 1 (by rfl) n1c ?_
       intro v9 w9 o1 o2 o3
       obtain ⟨A9,c9,hv9⟩:=o1.shape
       subst hv9
       have hfo:∀ q,fk.ownBlock=some q->g+1<=q:=fun q e=>(hOwn.lt q e).1
       have q9:w9.cell? ⟨g,k,none⟩=some fk:=zaB q0 o2 fun e=>by have:=hfo g e; omega
       have z9:w9.frozen? ⟨g,k,none⟩=false:=by
        have:=(hT.row.of_block (o2.block g hT.row.lt fun e=>by have:=hfo g e.symm; omega)).frozen k
        exact this
       have hB9:Below (w.heap.size+1) W2 w9:=hB.grown o2 (Nat.le_of_lt hl) fun q e=>by have:=hfo q e; omega
       have hl9:w.heap.size+1<w9.heap.size:=Nat.lt_of_lt_of_le hl o2.size
       have s1:=zaB s1 o2 fun e=>absurd (HBXL.out _ e) (Nat.lt_irrefl _)
       have hPut:=hid (hT.put (by omega) hlt o1 (by rw [<-HFK.out]; exact o2) (by rw [<-HFK.out]; exact o3))
       refine bkq hK s1 (h:=fun hHeld=>?_)
       clear hK K
       refine tkq 13 (h:=?_)
       refine rdq 14 (h:=fun K hK=>?_)
       go_simp
       replace s1:=zab (p:=⟨g,k,none⟩) (u:=.slice A9 (j+1) c9) s1 hxg
       refine bkq hK s1 (h:=fun hHeld=>?_)
       clear hK K
       refine wpAnyH_done (by kernel_rfl) ?_ _
       clear hHeld
       have hN:=hPut.out.congr (n':=fun v=>if v<k then T.el v else if v=k then j+1 else 0) (x':=T.yOf C) (fun v _=>by
         by_cases e:v=k
         ·subst e; simp
         ·simp [e]) (fun v _ q hq=>by
         by_cases e:v=k
         ·rw [if_pos e,e]
         ·rw [if_neg e])
       have HN:=hid hN
       have hBf:=hB9.setCell (p:=⟨g,k,none⟩) hg2 (.slice A9 (j+1) c9)
       have hlf:w.heap.size+1<(w9.setCell ⟨g,k,none⟩ (.slice A9 (j+1) c9)).heap.size:=by simp; exact hl9
       clear hPut hN q9 z9 hB9
       go_wp2
       go_roundg (gk - 1)
       case measure=>omega
       case rel=>exact ⟨j+1,_,by go_num,by omega,by omega,HN.out,hBf,hlf⟩
      ·go_simp
       obtain ⟨w53,hw⟩:∃ W,W=World.alloc w52 (Obj.cells #[Value.int .i64 yv] 3):=⟨_,rfl⟩
       have kb:Below w52.heap.size w52 w53:=by rw [hw]; exact (Below.refl _ _).alloc (Nat.le_refl _) _
       have n1c:w53.cell? ⟨w52.heap.size,0,none⟩=some (Value.int .i64 yv):=by rw [hw]; simp
       rw [<-hw];clear hw
       obtain ⟨nb_n1c,hnb⟩:∃ b,b=w52.heap.size:=⟨_,rfl⟩
       rw [<-hnb] at n1c ⊢;clear hnb;replace hB:=zai hB (Nat.le_of_lt hl) kb;replace hl:=Nat.lt_of_lt_of_le hl kb.size;replace hT:=hT.on kb;replace q0:=cellS kb q0;replace s1:=cellS kb s1;replace hCr:=hCr.on kb;replace hcb:=cellS kb hcb;clear kb
       refine bkq hK s1 (h:=fun hHeld=>?_)
       clear hK K
       refine rdq 5 (h:=fun K hK=>?_)
       go_simp
       refine bkq hK s1 (h:=fun hHeld=>?_)
       clear hK K
       refine rdq 12 (h:=fun K hK=>?_)
       have hOwn:Own w53 (g+1) 3 1 fk j (fun i _=>.int .i64 (T.yOf C k i)):=by
        have:=hT.own k hlt
        rw [if_neg (Nat.lt_irrefl k),if_pos rfl,<-HFK.out] at this
        exact this
       have hgl:g+1<=w53.heap.size:=hT.row.lt
       rw [HYV.out] at n1c
       refine zaC (by rfl) (.tmp 33) (.tmp 39) (by rfl) (g+1) fk j (fun i=>T.yOf C k i) (by rfl) hOwn hgl (by omega) nb_n1c 1 (by rfl) n1c ?_
       intro v9 w9 o1 o2 o3
       obtain ⟨A9,c9,hv9⟩:=o1.shape
       subst hv9
       have hfo:∀ q,fk.ownBlock=some q->g+1<=q:=fun q e=>(hOwn.lt q e).1
       have q9:w9.cell? ⟨g,k,none⟩=some fk:=zaB q0 o2 fun e=>by have:=hfo g e; omega
       have z9:w9.frozen? ⟨g,k,none⟩=false:=by
        have:=(hT.row.of_block (o2.block g hT.row.lt fun e=>by have:=hfo g e.symm; omega)).frozen k
        exact this
       have hB9:Below (w.heap.size+1) W2 w9:=hB.grown o2 (Nat.le_of_lt hl) fun q e=>by have:=hfo q e; omega
       have hl9:w.heap.size+1<w9.heap.size:=Nat.lt_of_lt_of_le hl o2.size
       have s1:=zaB s1 o2 fun e=>absurd (HBXL.out _ e) (Nat.lt_irrefl _)
       have hPut:=hid (hT.put (by omega) hlt o1 (by rw [<-HFK.out]; exact o2) (by rw [<-HFK.out]; exact o3))
       refine bkq hK s1 (h:=fun hHeld=>?_)
       clear hK K
       refine tkq 13 (h:=?_)
       refine rdq 14 (h:=fun K hK=>?_)
       go_simp
       replace s1:=zab (p:=⟨g,k,none⟩) (u:=.slice A9 (j+1) c9) s1 hxg
       refine bkq hK s1 (h:=fun hHeld=>?_)
       clear hK K
       refine wpAnyH_done (by kernel_rfl) ?_ _
       clear hHeld
       have hN:=hPut.out.congr (n':=fun v=>if v<k then T.el v else if v=k then j+1 else 0) (x':=T.yOf C) (fun v _=>by
         by_cases e:v=k
         ·subst e; simp
         ·simp [e]) (fun v _ q hq=>by
         by_cases e:v=k
         ·rw [if_pos e,e]
         ·rw [if_neg e])
       have HN:=hid hN
       have hBf:=hB9.setCell (p:=⟨g,k,none⟩) hg2 (.slice A9 (j+1) c9)
       have hlf:w.heap.size+1<(w9.setCell ⟨g,k,none⟩ (.slice A9 (j+1) c9)).heap.size:=by simp; exact hl9
       clear hPut hN q9 z9 hB9
       go_wp2
       go_roundg (gk - 1)
       case measure=>omega
       case rel=>exact ⟨j+1,_,by go_num,by omega,by omega,HN.out,hBf,hlf⟩
    ·have hltj':¬ (j:Int)<(n1:Int):=by omega
     have hje:j=n1:=by omega
     have hT1:Hid (IntTab wr g (g+1) T.n F2 (fun v=>if v<k+1 then T.el v else 0) (T.yOf C)):=hT.congr (fun v _=>by
      by_cases e:v<k
      ·rw [if_pos e,if_pos (by omega)]
      ·rw [if_neg e]
       by_cases e2:v=k
       ·subst e2
        rw [if_pos rfl,if_pos (by omega),hje]
        exact HN1.out
       ·rw [if_neg e2,if_neg (by omega)]) (fun v _ q hq=>rfl)
     have HB:=hid hB
     clear hT hB hje hW
     go_wp2
     go_roundg (gK - 1)
     case measure=>omega
     case rel=>exact ⟨k+1,F2,by go_num,by omega,by omega,hT1.out,HB.out,hl⟩
  ·have hlt':¬ (k:Int)<(T.n:Int):=by omega
   have hTf:Hid (IntTab wk g (g+1) T.n F T.el (T.yOf C)):=hT.congr (fun v hv=>if_pos (by omega)) (fun v _ q hq=>rfl)
   clear hT
   go_wp2
   go_ret
   exact ⟨g,F,rfl,by omega,hTf.out,hW⟩
section
variable {T:Trel} {y:Nat->Nat->Int}
theorem Trel.bwE_le {next:Nat->Int} {i:Nat} {v:Nat}:∀ j q,q<j->(T.fr i q).toNat=v->T.bwE y next i j v<=capI (y i q) (next (T.to i q).toNat):=by
 intro j
 induction j with
 | zero=>intro q hq; omega
 | succ j ih =>
  intro q hq hf
  show (if (T.fr i j).toNat=v then _ else _)<=_
  by_cases e:q=j
  ·subst e
   rw [if_pos hf]
   exact Int.min_le_right _ _
  ·have:=ih q (by omega) hf
   split
   ·exact Int.le_trans (Int.min_le_left _ _) this
   ·exact this
theorem Trel.bwE_att {next:Nat->Int} {i:Nat} {v:Nat}:∀ j,T.bwE y next i j v=4611686018427387904∨∃ q,q<j/\(T.fr i q).toNat=v/\T.bwE y next i j v=capI (y i q) (next (T.to i q).toNat):=by
 intro j
 induction j with
 | zero=>exact .inl rfl
 | succ j ih =>
  have e:T.bwE y next i (j+1) v=if (T.fr i j).toNat=v then min (T.bwE y next i j v) (capI (y i j) (next (T.to i j).toNat)) else T.bwE y next i j v:=rfl
  rw [e]
  by_cases h:(T.fr i j).toNat=v
  ·rw [if_pos h]
   by_cases h2:T.bwE y next i j v<=capI (y i j) (next (T.to i j).toNat)
   ·rw [Int.min_eq_left h2]
    rcases ih with h3 | ⟨q,h3,h4,h5⟩
    ·exact .inl h3
    ·exact .inr ⟨q,by omega,h4,h5⟩
   ·rw [Int.min_eq_right (by omega)]
    exact .inr ⟨j,by omega,h,rfl⟩
  ·rw [if_neg h]
   rcases ih with h3 | ⟨q,h3,h4,h5⟩
   ·exact .inl h3
   ·exact .inr ⟨q,by omega,h4,h5⟩
theorem Trel.bw_step (T:Trel) (y:Nat->Nat->Int) {i:Nat} (hi:i<T.n) (v:Nat):T.bw y (T.n - i) v=T.bwE y (T.bw y (T.n - (i+1))) i (T.el i) v:=by
 have e:T.n - i=(T.n - (i+1))+1:=by omega
 rw [e]
 show T.bwE y (T.bw y (T.n - (i+1))) (T.n - (T.n - (i+1)+1)) (T.el (T.n - (T.n - (i+1)+1))) v=_
 rw [show T.n - (T.n - (i+1)+1)=i by omega]
theorem Trel.bw_le (hP:T.Proper) (hy:Costs T y):∀ r,r<=T.n->∀ v:Nat,(v:Int)<T.W (T.n - r)->T.bw y r v<=(r:Int)*2147483648:=by
 intro r
 induction r with
 | zero =>
  intro _ v hv
  have:=hP.wn
  rw [Nat.sub_zero] at hv
  obtain rfl:v=0:=by omega
  show (if 0=0 then (0:Int) else _)<=_
  rw [if_pos rfl]
  omega
 | succ r ih =>
  intro hr v hv
  obtain ⟨j,hj⟩:=Trel.outs_pos hP (i:=T.n - (r+1)) (by omega) (by omega) hv
  obtain ⟨hj1,hj2⟩:=Trel.outs_mem.1 hj
  have h2:=hP.shape.ins (T.n - (r+1)) (by omega) j hj1
  unfold Trel.inside at h2
  have e:T.n - (r+1)+1=T.n - r:=by omega
  rw [e] at h2
  have h3:=ih (by omega) (T.to (T.n - (r+1)) j).toNat (by omega)
  have h4:=Trel.bwE_le (T:=T) (y:=y) (next:=T.bw y r) (i:=T.n - (r+1)) (v:=v) _ j hj1 (by omega)
  have h5:=hy (T.n - (r+1)) (by omega) j hj1
  have h6:=hP.shape.n64
  have h7:capI (y (T.n - (r+1)) j) (T.bw y r (T.to (T.n - (r+1)) j).toNat)=y (T.n - (r+1)) j+T.bw y r (T.to (T.n - (r+1)) j).toNat:=zg7 (by omega)
  show T.bwE y (T.bw y r) (T.n - (r+1)) (T.el (T.n - (r+1))) v<=_
  rw [h7] at h4
  have h8:((r+1:Nat):Int)*2147483648=(r:Int)*2147483648+2147483648:=by omega
  omega
def Trel.lp (T:Trel) (y:Nat->Nat->Int) (i v j:Nat):Bool:=(T.fr i j == (v:Int)) && (y i j+T.bw y (T.n - (i+1)) (T.to i j).toNat == T.bw y (T.n - i) v)
theorem Trel.lp_ex (hP:T.Proper) (hy:Costs T y) {i v:Nat} (hi:i<T.n) (hv:(v:Int)<T.W i):∃ j,j<T.el i/\T.lp y i v j=true:=by
 have h1:=Trel.bw_le hP hy (T.n - i) (by omega) v (by rw [show T.n - (T.n - i)=i by omega]; exact hv)
 have h2:=hP.shape.n64
 rw [Trel.bw_step T y hi] at h1
 rcases Trel.bwE_att (T:=T) (y:=y) (next:=T.bw y (T.n - (i+1))) (i:=i) (v:=v) (T.el i) with h3 | ⟨q,h3,h4,h5⟩
 ·omega
 ·refine ⟨q,h3,?_⟩
  have h6:=hP.shape.ins i hi q h3
  unfold Trel.inside at h6
  unfold Trel.lp
  rw [Trel.bw_step T y hi,h5,Bool.and_eq_true,beq_iff_eq,beq_iff_eq];rw [h5] at h1
  unfold capI at h1 ⊢
  refine ⟨by omega,?_⟩
  split
  ·rename_i h7
   rw [if_pos h7] at h1
   omega
  ·rfl
def firstOf (p:Nat->Bool) (m:Nat):Nat:=((List.range m).find? p).getD m
theorem zg9 {p:Nat->Bool} {m j:Nat} (hj:j<m) (hp:p j=true) (hn:∀ q,q<j->p q=false):firstOf p m=j:=by
 unfold firstOf
 have:(List.range m).find? p=some j:=by
  rw [List.find?_range_eq_some]
  exact ⟨hp,List.mem_range.2 hj,fun q hq=>by rw [hn q hq]; rfl⟩
 rw [this]
 rfl
def Trel.nd (T:Trel) (y:Nat->Nat->Int):Nat->Nat
 | 0=>0
 | i+1=>(T.to i (firstOf (T.lp y i (T.nd y i)) (T.el i))).toNat
def Trel.wd (T:Trel) (y:Nat->Nat->Int) (i:Nat):Int:=T.lb i (firstOf (T.lp y i (T.nd y i)) (T.el i))
theorem Trel.nd_step {i j:Nat} (hj:j<T.el i) (hp:T.lp y i (T.nd y i) j=true) (hn:∀ q,q<j->T.lp y i (T.nd y i) q=false):T.nd y (i+1)=(T.to i j).toNat/\T.wd y i=T.lb i j:=by
 have:=zg9 hj hp hn
 exact ⟨by show (T.to i (firstOf _ _)).toNat=_; rw [this],by show T.lb i (firstOf _ _)=_; rw [this]⟩
end
def AlongPost (T:Trel) (y:Nat->Nat->Int) (w:World) (e:Ending) (w':World):Prop :=
 ∃ gw,e=.returned (.tuple #[.slice (some ⟨gw,0,none⟩) T.n T.n,.int .i64 (T.bw y T.n 0)])/\w'.rowIs gw 3 T.n (fun i=>.int .i64 (T.wd y i))/\w.heap.size<=gw/\Below w.heap.size w w'
theorem Costs.of {T:Trel} {M:Nat} {ln:Nat->Nat} {C:Nat->Nat->Int} (hM:M=T.n) (hF:T.Fit ln) (hC:∀ i,i<M->∀ a,a<ln i->0<=C i a/\C i a<=2147483648):Costs T (T.yOf C):=fun i hi j hj=>by
 have:=hF i hi j hj
 exact hC i (by omega) _ (by omega)
theorem zhZ (T:Trel) (A B CA:Option Addr) (c d M cc:Nat) (ln:Nat->Nat) (C:Nat->Nat->Int) (w:World) (h:T.Reads w A B) (hP:T.Proper) (hSE:T.shapeE=0) (hC:IntRows w CA M ln C) (hM:M=T.n) (hF:T.Fit ln) (hpr:∀ i,i<M->∀ a,a<ln i->0<=C i a/\C i a<=2147483648) :
  Calls Tryz.prog 205 #[.agg #[.slice A T.nw c,.slice B T.n d],.slice CA M cc] w (AlongPost T (T.yOf C) w):=by
 have HY:=hid (Costs.of hM hF hpr)
 obtain ⟨y,hy⟩:∃ y,y=T.yOf C:=⟨_,rfl⟩
 have HYC:=hid hy
 rw [<-hy] at HY ⊢
 obtain ⟨O1,hO1⟩:∃ o,o=(Obj.cells #[.slice A T.nw c,.slice B T.n d] 74):=⟨_,rfl⟩
 obtain ⟨O2,hO2⟩:∃ o,o=(Obj.cells #[.slice CA M cc] 25):=⟨_,rfl⟩
 have hB0:Below (w.heap.size+2) ((w.alloc O1).alloc O2) ((w.alloc O1).alloc O2):=Below.refl _ _
 have HS:Hid (∀ w',Below (w.heap.size+2) ((w.alloc O1).alloc O2) w'->(w'.cell? ⟨w.heap.size,0,none⟩=some (.slice A T.nw c)/\w'.cell? ⟨w.heap.size,1,none⟩=some (.slice B T.n d))/\w'.cell? ⟨w.heap.size+1,0,none⟩=some (.slice CA M cc)/\Below w.heap.size w w'):=fun w' hB=>by
  have hB':=zb6 hB
  have hB1:=ziz hB
  subst hO2
  have hr:=zcG hB
  subst hO1
  exact ⟨⟨tbox hB1 rfl,tbox hB1 rfl⟩,hr.cell (i:=0) (by simp),hB'⟩
 obtain ⟨⟨p0,p1⟩,p2,hW⟩:=HS.out _ hB0
 have HR:=hid h
 have HP:=hid hP
 have HSE:=hid hSE
 have HC:=hid hC
 have HM:=hid hM
 have HF:=hid hF
 clear h hP hSE hC hM hF hpr hy
 go_enter Tryz.func205, Tryz.ntmps205
 go_wp2_with fail
 rw [<-hO1,<-hO2]
 refine (zhY T A B CA c d M cc (w.heap.size+1) ln C _ (HR.out.on hW) HP.out.shape (HC.out.on hW) HM.out HF.out p2).mono ?_
 rintro e w1 ⟨g1,F1,rfl,hg1,hT1,kb⟩
 have hB1:=zfS hB0 kb
 rw [<-HYC.out] at hT1;clear p0 p1 p2 hW kb hB0 hO1 hO2 hg1
 obtain ⟨⟨p0,p1⟩,p2,hW⟩:=HS.out _ hB1
 have hrows:=hT1.rows fun i hi j hj=>by have:=HY.out i hi j hj; omega
 go_wp2_with fail
 refine (zhX T A B (some ⟨g1,0,none⟩) c d T.n y w1 (HR.out.on hW) HSE.out hrows HY.out).mono ?_
 rintro e w2 ⟨g2,F2,rfl,hg2,hT2,kb⟩
 have hB2:=zfS hB1 kb
 replace hT1:=hT1.on kb;clear p0 p1 p2 hW kb hB1 hrows hg2
 obtain ⟨⟨p0,p1⟩,p2,hW⟩:=HS.out _ hB2
 have hl2:=zhQ hB2
 have hn64:=HP.out.shape.n64
 have hmk:=fun W=>zaf (P:=Tryz.prog) 22 3 _ 8 Tryz.underlying22 Tryz.infoInt rfl (T.n:Int) (by omega) (by omega) (by omega) W
 simp only [Int.toNat_natCast] at hmk
 have HT1:=hid hT1
 have HT2:=hid hT2
 have HP1:=hid p1
 have HW2:=hid hW
 have hl2':w.heap.size<w2.heap.size:=by omega
 clear hT1 hT2
 go_upto_region 5 with fail
 have hr3:=World.rowIs_made w2 (.int .i64 0) T.n 3
 have kb3:Below w2.heap.size w2 (w2.alloc (Obj.cells (madeCells #[Value.int .i64 0] T.n) 3)):=(Below.refl _ _).alloc (Nat.le_refl _) _
 obtain ⟨w3,hw3⟩:∃ W,W=w2.alloc (Obj.cells (madeCells #[Value.int .i64 0] T.n) 3):=⟨_,rfl⟩
 obtain ⟨gw,hgw⟩:∃ b,b=w2.heap.size:=⟨_,rfl⟩
 have HGW:=hid hgw
 rw [<-hgw] at hr3;rw [<-hw3] at hr3 kb3 ⊢;rw [<-hgw];replace p1:=cellS kb3 p1
 have hr4:w3.rowIs gw 3 T.n (fun i=>.int .i64 (if i<0 then T.wd y i else 0)):=hr3.congr fun i _=>by rw [if_neg (by omega)]
 clear hw3 hgw hmk hr3 p0 p2 hB2
 go_wp2
 go_loopg [10,32] T.n (fun gg vv iv wx=>∃ k:Nat,iv=.int .i64 (k:Nat)/\k<=T.n/\T.n<=k+gg/\vv=.int .i64 (T.nd y k:Nat)/\Hid ((T.nd y k:Int)<T.W k)/\wx.rowIs gw 3 T.n (fun i=>.int .i64 (if i<k then T.wd y i else 0))/\Below w2.heap.size w2 wx)
 case atStart=>exact ⟨0,rfl,by omega,by omega,rfl,by show (0:Int)<T.W 0; have:=HP.out.w0; omega,hr4,kb3⟩
 case round =>
  clear p1 hr4 kb3
  obtain ⟨gK,hgK⟩:∃ g,g=gk:=⟨_,rfl⟩
  subst hgK
  obtain ⟨k,rfl,hk,hkg,rfl,HV,hrow,hB⟩:=hrel
  have hk0:(0:Int)<=(k:Int):=by omega
  obtain ⟨v,hv⟩:∃ v,v=T.nd y k:=⟨_,rfl⟩
  have HVN:=hid hv
  rw [<-hv] at HV ⊢;clear hv
  by_cases hlt:k<T.n
  ·have hlt':(k:Int)<(T.n:Int):=by omega
   obtain ⟨eb,eo,E,ec,rfl,heb,x0w,he1,he2,he3,he4⟩:=HR.out.sec hlt
   have hW3:=onS HW2.out hB
   have x0:=cellS hW3 x0w
   have hel:=HP.out.shape.elb hlt
   have HEX:=hid (Trel.lp_ex HP.out HY.out hlt HV.out)
   obtain ⟨n1,hn1⟩:∃ n:Nat,n=T.el k:=⟨_,rfl⟩
   rw [<-hn1] at x0 hel
   have HN1:=hid hn1
   have HE3:=hid he3
   clear hn1 he3 he4 x0w he1 he2 hW3
   go_wp2
   go_loopg [10,39] n1 (fun gg vv jv wx=>∃ j:Nat,vv=.int .i64 (v:Nat)/\jv=.int .i64 (j:Nat)/\j<=n1/\n1<=j+gg/\Hid (∀ q,q<j->T.lp y k v q=false)/\wx.rowIs gw 3 T.n (fun i=>.int .i64 (if i<k then T.wd y i else 0))/\Below w2.heap.size w2 wx)
   case atStart=>exact ⟨0,rfl,rfl,by omega,by omega,fun q hq=>absurd hq (by omega),hrow,hB⟩
   case round =>
    clear x0 hrow hB
    obtain ⟨j,rfl,rfl,hj,hjg,HN,hrow,hB⟩:=hrel
    have hj0:(0:Int)<=(j:Int):=by omega
    by_cases hltj:j<n1
    ·have hltj':(j:Int)<(n1:Int):=by omega
     have hjel:j<T.el k:=by rw [<-HN1.out]; exact hltj
     have hW:=onS HW2.out hB
     obtain ⟨fb,fo,rfl,hfb,e0,e1,e2⟩:=zaS ((Rd.below HE3.out hW (Nat.le_refl _)).mono hW.size) hjel
     obtain ⟨i1,i2,i3,i4⟩:=HP.out.shape.ins k hlt j hjel
     obtain ⟨fn,hfn⟩:∃ n:Nat,(n:Int)=T.fr k j:=⟨(T.fr k j).toNat,by omega⟩
     obtain ⟨tn,htn⟩:∃ n:Nat,(n:Int)=T.to k j:=⟨(T.to k j).toNat,by omega⟩
     have hkw:k<T.nw:=by have:=HP.out.shape.nw; omega
     have hk1:k+1<T.nw:=by have:=HP.out.shape.nw; omega
     obtain ⟨ab,ao,ad,hFa,hab,habl,aq,_⟩:=(HT2.out.on hB).at (v:=k) hkw (k:=v) (by have:=HV.out; omega)
     obtain ⟨bb,bo,bd,hFb,hbb,hbbl,bq,_⟩:=(HT2.out.on hB).at (v:=k+1) hk1 (k:=tn) (by omega)
     obtain ⟨cb,co,cd,hFc,hcb,hcbl,cq,_⟩:=(HT1.out.on hB).at (v:=k) hlt (k:=j) hjel
     have hrow1:=(HT2.out.on hB).row.cell hkw
     have hrow2:=(HT2.out.on hB).row.cell hk1
     have hrow3:=(HT1.out.on hB).row.cell hlt
     rw [hFa] at hrow1;rw [hFb] at hrow2;rw [hFc] at hrow3
     change wr.cell? ⟨g2,k,none⟩=some (.slice (some ⟨ab,ao,none⟩) (T.W k).toNat ad) at hrow1
     change wr.cell? ⟨g2,k+1,none⟩=some (.slice (some ⟨bb,bo,none⟩) (T.W (k+1)).toNat bd) at hrow2
     have d1:=Trel.bw_cost HY.out (T.n - k) (by omega) v
     have d2:=Trel.bw_cost HY.out (T.n - (k+1)) (by omega) tn
     have d3:=HY.out k hlt j hjel
     have HLP:Hid (T.lp y k v j=((T.fr k j == (v:Int)) && (y k j+T.bw y (T.n - (k+1)) tn == T.bw y (T.n - k) v))):=by
      show T.lp y k v j=_
      unfold Trel.lp
      rw [show (T.to k j).toNat=tn by omega]
     obtain ⟨av,hav⟩:∃ z,z=T.bw y (T.n - k) v:=⟨_,rfl⟩
     obtain ⟨bv,hbv⟩:∃ z,z=T.bw y (T.n - (k+1)) tn:=⟨_,rfl⟩
     obtain ⟨yv,hyv⟩:∃ z,z=y k j:=⟨_,rfl⟩
     obtain ⟨lb,hlb⟩:∃ z,z=T.lb k j:=⟨_,rfl⟩
     obtain ⟨n2,hn2⟩:∃ n,n=(T.W k).toNat:=⟨_,rfl⟩
     obtain ⟨n3,hn3⟩:∃ n,n=(T.W (k+1)).toNat:=⟨_,rfl⟩
     have htl:tn<n3:=by omega
     have hvl:v<n2:=by have:=HV.out; omega
     rw [<-hav] at aq d1 HLP;rw [<-hbv] at bq d2 HLP;rw [<-hyv] at cq d3 HLP;rw [<-hfn] at e0 HLP;rw [<-hlb] at e1;rw [<-htn] at e2;rw [<-hn2] at hrow1;rw [<-hn3] at hrow2;rw [<-HN1.out] at hrow3
     have HTN:Hid (tn=(T.to k j).toNat):=by show tn=_; omega
     have HLB:=hid hlb
     have HTW:Hid ((tn:Int)<T.W (k+1)):=by show (tn:Int)<_; omega
     unfold Cost at d1 d2
     have hwk1:IntKind.i64.wrap ((k:Int)+1)=(k:Int)+1:=IntWalk.i64_in _ (by omega)
     have hws:IntKind.i64.wrap (yv+bv)=yv+bv:=IntWalk.i64_in _ (by omega)
     have htl':(tn:Int)<(n3:Int):=by omega
     have hvl':(v:Int)<(n2:Int):=by omega
     have ht0:(0:Int)<=(tn:Int):=by omega
     have hv0:(0:Int)<=(v:Int):=by omega
     have hk1':(k:Int)+1<(T.nw:Int):=by omega
     have hkw':(k:Int)<(T.nw:Int):=by omega
     have hk01:(0:Int)<=(k:Int)+1:=by omega
     clear hFa hFb hFc hav hbv hyv hlb hfn htn i1 i2 i3 i4 hn2 hn3 hW d1 d2 d3
     go_upto_region 11 with fail
     obtain ⟨OB,hOB⟩:∃ o,o=(Obj.cells #[.int .i64 (fn:Int),.int .i64 lb,.int .i64 (tn:Int)] 148):=⟨_,rfl⟩
     have hq:∀ i v,(#[Value.int .i64 (fn:Int),.int .i64 lb,.int .i64 (tn:Int)]:Array Value)[i]?=some v->(wr.alloc OB).cell? ⟨wr.heap.size,i,none⟩=some v:=fun i v hv=>by subst hOB; exact tbox (Below.refl _ _) hv
     have s0:=hq 0 _ rfl
     have s1:=hq 1 _ rfl
     have s2:=hq 2 _ rfl
     have kb:Below wr.heap.size wr (wr.alloc OB):=(Below.refl _ _).alloc (Nat.le_refl _) _
     rw [<-hOB]
     obtain ⟨w50,hw50⟩:∃ W,W=wr.alloc OB:=⟨_,rfl⟩
     rw [<-hw50] at s0 s1 s2 kb ⊢
     have hxg:wr.heap.size≠gw:=by have:=hrow.lt; omega
     replace hB:=onS hB kb;replace hrow:=zaa hrow kb;replace aq:=cellS kb aq;replace bq:=cellS kb bq;replace cq:=cellS kb cq;replace hrow1:=cellS kb hrow1;replace hrow2:=cellS kb hrow2;replace hrow3:=cellS kb hrow3
     obtain ⟨bx,hbx2⟩:∃ b,b=wr.heap.size:=⟨_,rfl⟩
     rw [<-hbx2] at s0 s1 s2 hxg ⊢;clear hq hw50 hOB kb e0 e1 e2 hbx2 hfb
     by_cases hfv:(fn:Int)=(v:Int)
     ·have b1:((fn:Int) == (v:Int))=true:=by simpa using hfv
      rw [b1,Bool.true_and] at HLP;clear hfv
      by_cases hsm:yv+bv=av
      ·have b2:(yv+bv == av)=true:=by simpa using hsm
       rw [b2] at HLP
       have HND:Hid (T.nd y (k+1)=tn/\T.wd y k=lb):=by
        have:=Trel.nd_step (T:=T) (y:=y) (i:=k) (j:=j) hjel (by rw [<-HVN.out]; exact HLP.out) (by rw [<-HVN.out]; exact HN.out)
        rw [<-HTN.out,<-HLB.out] at this
        exact this
       clear hsm
       go_wp2
       go_quiet (fail)
       go_upto_region 12 with fail
       obtain ⟨w51,hw51⟩:∃ W,W=w50.drewN nq:=⟨_,rfl⟩
       have kb:Below w50.heap.size w50 w51:=by rw [hw51]; exact zac (Below.refl _ _) _
       rw [<-hw51];replace hB:=onS hB kb;replace hrow:=zaa hrow kb;replace s1:=cellS kb s1;replace s2:=cellS kb s2;clear kb hw51 aq bq cq hrow1 hrow2 hrow3 s0 b1 b2 hws
       refine wp_region_held_drew (S:=fun w'=>w'.cell? ⟨bx,1,none⟩=some (.int .i64 lb)/\w'.cell? ⟨bx,2,none⟩=some (.int .i64 (tn:Int))) (by kernel_rfl) ⟨cellS (Below.refl _ _).drew s1,cellS (Below.refl _ _).drew s2⟩ (fun hHeld=>?_)
       obtain ⟨w52,hw⟩:∃ W,W=World.drew w51:=⟨_,rfl⟩
       have kb:Below w51.heap.size w51 w52:=by rw [hw]; exact (Below.refl _ _).drew
       rw [<-hw] at hHeld ⊢;clear hw;replace hB:=onS hB kb;replace s1:=cellS kb s1;replace s2:=cellS kb s2;replace hrow:=zaa hrow kb;clear kb
       refine tkq 0 (h:=tkq 1 (h:=tkq 2 (h:=tkq 3 (h:=tkq 4 (h:=tkq 5 (h:=tkq 6 (h:=?_)))))))
       refine rdq 7 (h:=fun K hK=>?_)
       have q0:=hrow.cell hlt
       have z0:=hrow.frozen k
       go_simp
       replace s1:=zab (p:=⟨gw,k,none⟩) (u:=.int .i64 lb) s1 hxg;replace s2:=zab (p:=⟨gw,k,none⟩) (u:=.int .i64 lb) s2 hxg
       have hr9:=hid (hrow.set k (.int .i64 lb))
       have hB9:=hid (hB.setCell (p:=⟨gw,k,none⟩) (by show w2.heap.size<=gw; rw [HGW.out]; exact Nat.le_refl _) (.int .i64 lb))
       clear q0 z0
       refine bkq hK ⟨s1,s2⟩ (h:=fun hHeld=>?_)
       clear hK K
       refine tkq 8 (h:=?_)
       refine wpAnyH_done (by kernel_rfl) ?_ _
       clear hHeld
       have hr10:=hid (hr9.out.congr (g:=fun i=>.int .i64 (if i<k+1 then T.wd y i else 0)) fun i _=>by
         by_cases e:i=k
         ·subst e; rw [if_pos rfl,if_pos (Nat.lt_succ_self _),HND.out.2]
         ·rw [if_neg e]
          by_cases e2:i<k
          ·rw [if_pos e2,if_pos (by omega)]
          ·rw [if_neg e2,if_neg (by omega)])
       have HVF:Hid ((T.nd y (k+1):Int)<T.W (k+1)):=by rw [HND.out.1]; exact HTW
       clear hr9 hB hrow s1 s2
       go_wp2
       go_roundg (gK - 1)
       case measure=>omega
       case rel=>exact ⟨k+1,by go_num,by omega,by omega,by rw [HND.out.1],HVF,hr10.out,hB9.out⟩
      ·have b2:(yv+bv == av)=false:=by simpa using hsm
       rw [b2] at HLP
       have HN2:Hid (∀ q,q<j+1->T.lp y k v q=false):=fun q hq=>by
        by_cases e:q=j
        ·subst e; exact HLP.out
        ·exact HN.out q (by omega)
       clear hsm
       go_wp2
       go_quiet (fail)
       go_wp2
       go_roundg (gk - 1)
       case measure=>omega
       case rel=>exact ⟨j+1,rfl,by go_num,by omega,by omega,HN2,zaa hrow (zac (Below.refl _ _) _),zac hB _⟩
     ·have b1:((fn:Int) == (v:Int))=false:=by simpa using hfv
      rw [b1,Bool.false_and] at HLP
      have HN2:Hid (∀ q,q<j+1->T.lp y k v q=false):=fun q hq=>by
       by_cases e:q=j
       ·subst e; exact HLP.out
       ·exact HN.out q (by omega)
      clear hfv
      go_wp2
      go_quiet (fail)
      go_wp2
      go_roundg (gk - 1)
      case measure=>omega
      case rel=>exact ⟨j+1,rfl,by go_num,by omega,by omega,HN2,zaa hrow (zac (Below.refl _ _) _),zac hB _⟩
    ·exfalso
     obtain ⟨q,hq,hq2⟩:=HEX.out
     have:=HN.out q (by have:=HN1.out; omega)
     rw [this] at hq2
     cases hq2
  ·have hlt':¬ (k:Int)<(T.n:Int):=by omega
   obtain rfl:k=T.n:=by omega
   have hnw0:0<T.nw:=by have:=HP.out.shape.nw; omega
   have hw0:=HP.out.w0
   obtain ⟨ab,ao,ad,hFa,hab,habl,aq,_⟩:=(HT2.out.on hB).at (v:=0) hnw0 (k:=0) (by show 0<(T.W 0).toNat; omega)
   have hrow1:=(HT2.out.on hB).row.cell hnw0
   rw [hFa] at hrow1
   change wr.cell? ⟨g2,0,none⟩=some (.slice (some ⟨ab,ao,none⟩) (T.W 0).toNat ad) at hrow1
   obtain ⟨n2,hn2⟩:∃ n,n=(T.W 0).toNat:=⟨_,rfl⟩
   rw [<-hn2] at hrow1;rw [Nat.add_zero,Nat.sub_zero] at aq
   obtain ⟨av,hav⟩:∃ z,z=T.bw y T.n 0:=⟨_,rfl⟩
   have HAV:=hid hav
   rw [<-hav] at aq
   have hn2':(0:Int)<(n2:Int):=by omega
   have hnw0':(0:Int)<(T.nw:Int):=by omega
   have hrowf:=hid (hrow.congr (g:=fun i=>.int .i64 (T.wd y i)) fun i hi=>by rw [if_pos hi])
   have hWf:=hid (onS HW2.out hB)
   have hgz:Hid (w.heap.size<=gw):=by show _<=gw; rw [HGW.out]; omega
   clear hFa hn2 hav hw0 hrow HVN HV
   go_wp2
   go_quiet (fail)
   go_wp2
   go_ret2
   exact ⟨gw,by rw [<-HAV.out]; rfl,zaa hrowf.out (zac (Below.refl _ _) _),hgz.out,zac hWf.out _⟩
def PricedP (M:Nat) (ln:Nat->Nat) (C:Nat->Nat->Int):Prop:=∀ i,i<M->∀ a,a<ln i->0<=C i a/\C i a<=2147483648
instance (M:Nat) (ln:Nat->Nat) (C:Nat->Nat->Int):Decidable (PricedP M ln C):=by unfold PricedP; exact inferInstance
theorem zha (CA : Option Addr) (M cc : Nat) (ln : Nat → Nat) (C : Nat → Nat → Int) (w : World) (h : IntRows w CA M ln C) (hM : M ≤ 1048576) :
  Calls Tryz.prog 204 #[.slice CA M cc] w fun e w'=>e=.returned (.int .i64 (if PricedP M ln C then 0 else 6))/\Below w.heap.size w w':=by
 have HC:=hid h
 clear h
 have HYES:Hid ((∀ i,i<M->∀ a,a<ln i->0<=C i a/\C i a<=2147483648)->(0:Int)=if PricedP M ln C then 0 else 6):=fun h=>(if_pos h).symm
 have HNO:Hid ((¬ ∀ i,i<M->∀ a,a<ln i->0<=C i a/\C i a<=2147483648)->(6:Int)=if PricedP M ln C then 0 else 6):=fun h=>(if_neg h).symm
 obtain ⟨r,hr⟩:∃ r:Int,r=if PricedP M ln C then 0 else 6:=⟨_,rfl⟩
 rw [<-hr] at HYES HNO ⊢;clear hr
 go_enter Tryz.func204, Tryz.ntmps204
 go_wp2
 go_loopg [9] M (fun g iv wx=>∃ k:Nat,iv=.int .i64 (k:Nat)/\k<=M/\M<=k+g/\Hid (∀ i,i<k->∀ a,a<ln i->0<=C i a/\C i a<=2147483648)/\Below w.heap.size w wx)
 case atStart=>exact ⟨0,rfl,by omega,by omega,fun i hi=>absurd hi (by omega),Below.refl _ _⟩
 case round =>
  obtain ⟨gK,hgK⟩:∃ g,g=gk:=⟨_,rfl⟩
  subst hgK
  obtain ⟨k,rfl,hk,hkg,HD,hW⟩:=hrel
  have hk0:(0:Int)<=(k:Int):=by omega
  by_cases hlt:k<M
  ·have hlt' : (k : Int) < (M : Int) := by omega
   obtain ⟨b,o,R,rc,rfl,hb,x0,h1,h2,h3,h4⟩:=(HC.out.on hW) k hlt
   obtain ⟨n1,hn1⟩:∃ n,n=ln k:=⟨_,rfl⟩
   rw [<-hn1] at x0 h1 h3
   have HN1:=hid hn1
   have HR:=hid h3
   have hmx:n1<=9223372036854775807:=by unfold maxLen at h2; omega
   obtain ⟨wa,hwa⟩:∃ W,W=wr:=⟨_,rfl⟩
   subst hwa
   clear hn1 h3 h4 h1 h2
   go_wp2
   go_loopg [15] n1 (fun g jv wx=>∃ j:Nat,jv=.int .i64 (j:Nat)/\j<=n1/\n1<=j+g/\Hid (∀ a,a<j->0<=C k a/\C k a<=2147483648)/\Below wa.heap.size wa wx)
   case atStart=>exact ⟨0,rfl,by omega,by omega,fun i hi=>absurd hi (by omega),Below.refl _ _⟩
   case round =>
    obtain ⟨j,rfl,hj,hjg,HE,hV⟩:=hrel
    have hj0:(0:Int)<=(j:Int):=by omega
    by_cases hltj:j<n1
    ·have hltj':(j:Int)<(n1:Int):=by omega
     have hjl:j<ln k:=by rw [<-HN1.out]; exact hltj
     obtain ⟨rb,ro,rfl,hrb,x1⟩:=((HR.out:IntsR _ _ _ _ _).on hV).at hltj
     obtain ⟨x,hx⟩:∃ x,x=C k j:=⟨_,rfl⟩
     rw [<-hx] at x1
     have HX:=hid hx
     clear hx x0
     by_cases h1:x<0
     ·have hf:=hid (HNO.out fun h=>by have:=h k hlt j hjl; rw [<-HX.out] at this; omega)
      have hWf:=hid (onS hW hV)
      go_wp2
      go_ret
      exact ⟨by rw [<-hf.out]; rfl,hWf.out⟩
     ·by_cases h2:2147483648<x
      ·have hf:=hid (HNO.out fun h=>by have:=h k hlt j hjl; rw [<-HX.out] at this; omega)
       have hWf:=hid (onS hW hV)
       go_wp2
       go_ret
       exact ⟨by rw [<-hf.out]; rfl,hWf.out⟩
      ·have HE2:Hid (∀ a,a<j+1->0<=C k a/\C k a<=2147483648):=fun a ha=>by
        by_cases e:a=j
        ·subst e; rw [<-HX.out]; omega
        ·exact HE.out a (by omega)
       go_wp2
       go_roundg (gk - 1)
       case measure=>omega
       case rel=>exact ⟨j+1,by go_num,by omega,by omega,HE2,hV⟩
    ·have hltj':¬ (j:Int)<(n1:Int):=by omega
     have HD2:Hid (∀ i,i<k+1->∀ a,a<ln i->0<=C i a/\C i a<=2147483648):=fun i hi a ha=>by
      by_cases e:i=k
      ·subst e; exact HE.out a (by have:=HN1.out; omega)
      ·exact HD.out i (by omega) a ha
     have hWf:=onS hW hV
     clear x0
     go_wp2
     go_roundg (gK - 1)
     case measure=>omega
     case rel=>exact ⟨k+1,by go_num,by omega,by omega,HD2,hWf⟩
  ·have hlt':¬ (k:Int)<(M:Int):=by omega
   obtain rfl:k=M:=by omega
   have HF:=hid (HYES.out HD.out)
   clear HD
   go_wp2
   go_ret
   exact ⟨by rw [<-HF.out]; rfl,hW⟩
def Trel.fitB (T:Trel) (ln:Nat->Nat):Prop:=∀ i,i<T.n->∀ j,j<T.el i->T.lb i j<(ln i:Nat)
instance (T:Trel) (ln:Nat->Nat):Decidable (T.fitB ln):=by unfold Trel.fitB; exact inferInstance
def Trel.alongE (T:Trel) (M:Nat) (ln:Nat->Nat) (C:Nat->Nat->Int):Int :=
 if T.properE≠0 then T.properE else if M≠T.n then 3 else if ¬ T.fitB ln then 3 else if PricedP M ln C then 0 else 6
def AlongRes (T:Trel) (M:Nat) (ln:Nat->Nat) (C:Nat->Nat->Int) (w:World) (e:Ending) (w':World):Prop :=
 Below w.heap.size w w' /\
 ((T.alongE M ln C≠0/\e=.returned (.tuple #[.slice none 0 0,.int .i64 0,.int .i64 (T.alongE M ln C)])) ∨
 (T.alongE M ln C=0/\∃ gw,e=.returned (.tuple #[.slice (some ⟨gw,0,none⟩) T.n T.n,.int .i64 (T.bw (T.yOf C) T.n 0),.int .i64 0])/\w'.rowIs gw 3 T.n (fun i=>.int .i64 (T.wd (T.yOf C) i))))
theorem Trel.alongE_zero {T:Trel} {M:Nat} {ln:Nat->Nat} {C:Nat->Nat->Int} (h:T.alongE M ln C=0):T.properE=0/\M=T.n/\T.fitB ln/\PricedP M ln C:=by
 unfold Trel.alongE at h
 by_cases h1:T.properE=0
 ·rw [if_neg (by simpa using h1)] at h
  by_cases h2:M=T.n
  ·rw [if_neg (by simpa using h2)] at h
   by_cases h3:T.fitB ln
   ·rw [if_neg (by simpa using h3)] at h
    by_cases h4:PricedP M ln C
    ·exact ⟨h1,h2,h3,h4⟩
    ·rw [if_neg h4] at h; omega
   ·rw [if_pos h3] at h; omega
  ·rw [if_pos h2] at h; omega
 ·rw [if_pos h1] at h; exact absurd h h1
theorem Trel.shapeE_of {T:Trel} (hp:T.properE=0):T.shapeE=0:=by
 cases Decidable.em (T.shapeE=0) with
 | inl h=>exact h
 | inr h=>exact absurd (Trel.properE_shape h ▸ hp) h
theorem zcZ (T:Trel) (A B CA:Option Addr) (c d M cc:Nat) (ln:Nat->Nat) (C:Nat->Nat->Int) (w:World) (h:T.Reads w A B) (hC:IntRows w CA M ln C) :
  Calls Tryz.prog 129 #[.agg #[.slice A T.nw c,.slice B T.n d],.slice CA M cc] w (AlongRes T M ln C w):=by
 obtain ⟨RB,hRB⟩:∃ o,o=(Obj.cells #[.slice A T.nw c,.slice B T.n d] 74):=⟨_,rfl⟩
 have hB0:Below (w.heap.size+1) (w.alloc RB) (w.alloc RB):=Below.refl _ _
 have HS:Hid (∀ w',Below (w.heap.size+1) (w.alloc RB) w'->(w'.cell? ⟨w.heap.size,0,none⟩=some (.slice A T.nw c)/\w'.cell? ⟨w.heap.size,1,none⟩=some (.slice B T.n d))/\Below w.heap.size w w'):=fun w' hB=>by
  have hB':=zay hB
  subst hRB
  exact ⟨⟨tbox hB rfl,tbox hB rfl⟩,hB'⟩
 obtain ⟨⟨p0,p1⟩,hW⟩:=HS.out _ hB0
 have HE0:Hid (T.properE≠0->T.properE=T.alongE M ln C):=fun h=>(if_pos h).symm
 have HE1:Hid (T.properE=0->M≠T.n->(3:Int)=T.alongE M ln C):=fun h h1=>by unfold Trel.alongE; rw [if_neg (by simpa using h),if_pos h1]
 have HE2:Hid (T.properE=0->M=T.n->(¬ T.fitB ln)->(3:Int)=T.alongE M ln C):=fun h h1 h2=>by unfold Trel.alongE; rw [if_neg (by simpa using h),if_neg (by simpa using h1),if_pos h2]
 have HE3:Hid (T.properE=0->M=T.n->T.fitB ln->(if PricedP M ln C then (0:Int) else 6)=T.alongE M ln C):=fun h h1 h2=>(show T.alongE M ln C=_ by unfold Trel.alongE; rw [if_neg (by simpa using h),if_neg (by simpa using h1),if_neg (by simpa using h2)]).symm
 have HRES:Hid (∀ w' r,Below w.heap.size w w'->r=T.alongE M ln C->r≠0->∀ e,e=.returned (.tuple #[.slice none 0 0,.int .i64 0,.int .i64 r])->AlongRes T M ln C w e w'):=fun w' r hB hr h0 e he=>by subst hr; exact ⟨hB,.inl ⟨h0,he⟩⟩
 go_enter Tryz.func129, Tryz.ntmps129
 go_wp2_with fail
 rw [<-hRB]
 refine (zcX T A B c d _ (h.on hW)).mono ?_
 rintro e w1 ⟨rfl,kb⟩
 have hB1:=zaI hB0 kb
 have HR:=hid h
 have HC:=hid hC
 clear p0 p1 hW kb hB0 hRB h hC
 obtain ⟨⟨p0,p1⟩,hW⟩:=HS.out _ hB1
 by_cases hp:T.properE=0
 ·have HP := hid (Trel.proper_of hp)
  have HP0:=hid hp
  rw [hp];clear hp
  by_cases hM:M=T.n
  ·have hMn:((M:Int) != (T.n:Int))=false:=by simp [hM]
   have HM:=hid hM
   have hn64:=HP.out.shape.n64
   obtain ⟨n,hn⟩:∃ n,n=T.n:=⟨_,rfl⟩
   have HN:=hid hn
   rw [<-hn] at hn64 p1 hMn ⊢;clear hM hn
   go_wp2
   go_loopg [29] n (fun g iv wx=>∃ k:Nat,iv=.int .i64 (k:Nat)/\k<=n/\n<=k+g/\Hid (∀ i,i<k->∀ j,j<T.el i->T.lb i j<(ln i:Nat))/\Below (w.heap.size+1) (w.alloc RB) wx)
   case atStart=>exact ⟨0,rfl,by omega,by omega,fun i hi=>absurd hi (by omega),hB1⟩
   case round =>
    clear p0 p1 hW hB1
    obtain ⟨gK,hgK⟩:∃ g,g=gk:=⟨_,rfl⟩
    subst hgK
    obtain ⟨k,rfl,hk,hkg,HD,hB⟩:=hrel
    have hk0:(0:Int)<=(k:Int):=by omega
    obtain ⟨⟨p0,p1⟩,hW⟩:=HS.out _ hB
    rw [<-HN.out] at p1
    by_cases hlt:k<n
    ·have hlt':(k:Int)<(n:Int):=by omega
     have hltn:k<T.n:=by rw [<-HN.out]; exact hlt
     have hltM:k<M:=by rw [HM.out]; exact hltn
     have hltM':(k:Int)<(M:Int):=by omega
     have hel:=HP.out.shape.elb hltn
     obtain ⟨eb,eo,E,ec,rfl,heb,x0w,he1,he2,he3w,he4⟩:=HR.out.sec hltn
     have x0:=cellS hW x0w
     obtain ⟨el,hele⟩:∃ n,n=T.el k:=⟨_,rfl⟩
     have HEL:=hid hele
     rw [<-hele] at hel x0
     have HE3R:=hid he3w
     clear hele he3w he4 he1 he2 x0w
     go_wp2
     go_loopg [36] el (fun g jv wx=>∃ j:Nat,jv=.int .i64 (j:Nat)/\j<=el/\el<=j+g/\Hid (∀ q,q<j->T.lb k q<(ln k:Nat))/\Below (w.heap.size+1) (w.alloc RB) wx)
     case atStart=>exact ⟨0,rfl,by omega,by omega,fun i hi=>absurd hi (by omega),hB⟩
     case round =>
      clear hB p0 p1 hW x0
      obtain ⟨j,rfl,hj,hjg,HE,hB⟩:=hrel
      have hj0:(0:Int)<=(j:Int):=by omega
      obtain ⟨⟨p0,p1⟩,hW⟩:=HS.out _ hB
      by_cases hltj:j<el
      ·have hltj':(j:Int)<(el:Int):=by omega
       obtain ⟨fb,fo,rfl,hfb,e0,e1,e2⟩:=zaS ((Rd.below HE3R.out hW (Nat.le_refl _)).mono hW.size) (show j<T.el k by rw [<-HEL.out]; exact hltj)
       obtain ⟨cb,co,R,rc,rfl,hcb,y0,h1,h2,h3,h4⟩:=(HC.out.on hW) k hltM
       obtain ⟨lv,hlv⟩:∃ z,z=T.lb k j:=⟨_,rfl⟩
       obtain ⟨lk,hlk⟩:∃ z,z=ln k:=⟨_,rfl⟩
       rw [<-hlv] at e1;rw [<-hlk] at y0
       have HLV:=hid hlv
       have HLK:=hid hlk
       obtain ⟨fv,hfv⟩:∃ z,z=T.fr k j:=⟨_,rfl⟩
       obtain ⟨tv,htv⟩:∃ z,z=T.to k j:=⟨_,rfl⟩
       rw [<-hfv] at e0;rw [<-htv] at e2;clear hlv hlk h1 h2 h3 h4 p0 p1 hfv htv
       go_upto_region 12 with fail
       obtain ⟨OB,hOB⟩:∃ o,o=(Obj.cells #[.int .i64 fv,.int .i64 lv,.int .i64 tv] 148):=⟨_,rfl⟩
       have s1:(wr.alloc OB).cell? ⟨wr.heap.size,1,none⟩=some (.int .i64 lv):=by subst hOB; exact tbox (Below.refl _ _) rfl
       have kb:Below wr.heap.size wr (wr.alloc OB):=(Below.refl _ _).alloc (Nat.le_refl _) _
       rw [<-hOB]
       obtain ⟨w50,hw50⟩:∃ W,W=wr.alloc OB:=⟨_,rfl⟩
       rw [<-hw50] at s1 kb ⊢;replace hB:=zaI hB kb;replace hW:=onS hW kb;replace y0:=cellS kb y0
       obtain ⟨bx,hbx2⟩:∃ b,b=wr.heap.size:=⟨_,rfl⟩
       rw [<-hbx2] at s1 ⊢;clear hbx2 hw50 hOB kb e0 e1 e2 hfb
       by_cases hge:lv ≥ (lk:Int)
       ·have b1:decide (lv ≥ (lk:Int))=true:=by simp; omega
        have b2:decide ((lk:Int)<=lv)=true:=by simp; omega
        have hf:=hid (HE2.out HP0.out HM.out fun hh=>by have:=hh k hltn j (by rw [<-HEL.out]; exact hltj); rw [<-HLV.out,<-HLK.out] at this; omega)
        go_wp2
        go_quiet (fail)
        go_wp2
        go_ret3
        exact HRES.out _ 3 (zac hW _) hf.out (by omega) _ rfl
       ·have b1:decide (lv ≥ (lk:Int))=false:=by simp; omega
        have b2:decide ((lk:Int)<=lv)=false:=by simp; omega
        have HE2:Hid (∀ q,q<j+1->T.lb k q<(ln k:Nat)):=fun q hq=>by
         by_cases e:q=j
         ·subst e; rw [<-HLV.out,<-HLK.out]; omega
         ·exact HE.out q (by omega)
        go_wp2
        go_quiet (fail)
        go_wp2
        go_roundg (gk - 1)
        case measure=>omega
        case rel=>exact ⟨j+1,by go_num,by omega,by omega,HE2,zac hB _⟩
      ·have hltj':¬ (j:Int)<(el:Int):=by omega
       have HD2:Hid (∀ i,i<k+1->∀ j,j<T.el i->T.lb i j<(ln i:Nat)):=fun i hi q hq=>by
        by_cases e:i=k
        ·subst e; exact HE.out q (by have:=HEL.out; omega)
        ·exact HD.out i (by omega) q hq
       go_wp2
       go_roundg (gK - 1)
       case measure=>omega
       case rel=>exact ⟨k+1,by go_num,by omega,by omega,HD2,hB⟩
    ·have hlt':¬ (k:Int)<(n:Int):=by omega
     have HFB:Hid (T.fitB ln):=fun i hi=>HD.out i (by have:=HN.out; omega)
     have hf:=hid (HE3.out HP0.out HM.out HFB.out)
     have hM20:M<=1048576:=by have:=HM.out; have:=HN.out; omega
     clear HD
     go_wp2_with fail
     refine (zha CA M cc ln C wr (HC.out.on hW) hM20).mono ?_
     rintro e w2 ⟨rfl,kb⟩
     have hB2:=zaI hB kb
     clear kb p0 p1 hW hB
     obtain ⟨⟨p0,p1⟩,hW⟩:=HS.out _ hB2
     by_cases hpr:PricedP M ln C
     ·rw [if_pos hpr] at hf
      rw [if_pos hpr]
      have HPR:Hid (PricedP M ln C):=hpr
      have hFit:T.Fit ln:=fun i hi j hj=>⟨((HP.out.sec i hi).1 j hj).1,HFB.out i hi j hj⟩
      have HRR:=HR.out.on hW
      have HCC:=HC.out.on hW
      clear hpr
      go_wp2_with fail
      refine (zhZ T A B CA c d M cc ln C w2 HRR HP.out (Trel.shapeE_of HP0.out) HCC HM.out hFit HPR.out).mono ?_
      rintro e w3 ⟨gw,rfl,hrow,_,kb⟩
      have hW3:=hid (onS hW kb)
      obtain ⟨bv,hbv⟩:∃ z,z=T.bw (T.yOf C) T.n 0:=⟨_,rfl⟩
      have HBV:=hid hbv
      have HROW:=hid hrow
      rw [<-hbv];clear hbv hrow kb p0 p1 hW HRR HCC hB2 hFit
      go_wp2
      go_ret3
      exact ⟨hW3.out,.inr ⟨hf.out.symm,gw,by rw [<-HBV.out]; rfl,HROW.out⟩⟩
     ·rw [if_neg hpr] at hf
      rw [if_neg hpr];clear hpr
      go_wp2
      go_ret3
      exact HRES.out _ 6 hW hf.out (by omega) _ rfl
  ·have hMn:((M:Int) != (T.n:Int))=true:=by
    rw [bne_iff_ne]
    omega
   have hf:=hid (HE1.out HP0.out hM)
   clear hM
   go_wp2
   go_ret3
   exact HRES.out _ 3 hW hf.out (by omega) _ rfl
 ·have hne:(T.properE != 0)=true:=by simpa using hp
  have hf:=hid (HE0.out hp)
  have hp':=hid hp
  obtain ⟨x,hx⟩:∃ x,x=T.properE:=⟨_,rfl⟩
  rw [<-hx] at hne hf hp' ⊢;clear hp hx
  go_wp2
  go_ret3
  exact HRES.out _ x hW hf.out hp'.out _ rfl
def parT:Trel:=⟨2,fun _=>1,1,fun _=>2,fun _ _=>0,fun _ j=>if j=0 then 0 else 1,fun _ _=>0⟩
def parC:Nat->Nat->Int:=fun _ a=>if a=0 then 5 else 3
theorem zhb:parT.alongE 1 (fun _=>2) parC=0:=of_decide_eq_true (by kernel_rfl)
theorem zjJ:parT.bw (parT.yOf parC) parT.n 0=3:=of_decide_eq_true (by kernel_rfl)
theorem zjK:parT.wd (parT.yOf parC) 0=1:=of_decide_eq_true (by kernel_rfl)
theorem zh0 {w:World} {b1 b2 b3:Nat} (h1:b1<w.heap.size) (h2:b2<w.heap.size) (h3:b3<w.heap.size) (c0:w.cell? ⟨b1,0,none⟩=some (.int .i64 1)) (c1:w.cell? ⟨b1,1,none⟩=some (.int .i64 1))
  (e:∀ j,j<2->∀ k,k<3->w.cell? ⟨b2,j*3+k,none⟩=some (parT.edge 0 j k)) (s:w.cell? ⟨b3,0,none⟩=some (.slice (some ⟨b2,0,none⟩) 2 2)):parT.Reads w (some ⟨b1,0,none⟩) (some ⟨b3,0,none⟩):=by
 refine ⟨fun i hi=>⟨b1,0,rfl,h1,fun j hj=>?_⟩,fun i _=>⟨by show (-9223372036854775808:Int)<=1; omega,by show (1:Int)<=_; omega⟩,fun i hi=>?_,by show (2:Nat)<=_; omega,by show (1:Nat)<=_; omega,fun i _=>by show (2:Nat)<=_; omega⟩
 ·obtain rfl:j=0:=by omega
  have hi:i<2:=hi
  match i,hi with
  | 0,_=>exact c0
  | 1,_=>exact c1
 ·have hi:i<1:=hi
  obtain rfl:i=0:=by omega
  refine ⟨b3,0,some ⟨b2,0,none⟩,2,rfl,h3,s,Nat.le_refl _,by unfold maxLen; omega,fun j hj=>⟨b2,0,rfl,h2,fun k hk=>?_⟩,fun j hj=>?_⟩
  ·have:=e j hj k hk
   rwa [Nat.zero_add]
  ·unfold InI64
   refine ⟨⟨by show (-9223372036854775808:Int)<=0; omega,by show (0:Int)<=_; omega⟩,?_,⟨by show (-9223372036854775808:Int)<=0; omega,by show (0:Int)<=_; omega⟩⟩
   have e:parT.lb 0 j=if j=0 then (0:Int) else 1:=rfl
   rw [e]
   split <;> omega
theorem zi2 {w:World} {b4 b5:Nat} (h4:b4<w.heap.size) (h5:b5<w.heap.size) (c0:w.cell? ⟨b4,0,none⟩=some (.int .i64 5)) (c1:w.cell? ⟨b4,1,none⟩=some (.int .i64 3)) (s:w.cell? ⟨b5,0,none⟩=some (.slice (some ⟨b4,0,none⟩) 2 2)) :
  IntRows w (some ⟨b5,0,none⟩) 1 (fun _=>2) parC:=fun i hi=>by
 obtain rfl:i=0:=by omega
 refine ⟨b5,0,some ⟨b4,0,none⟩,2,rfl,h5,s,Nat.le_refl _,by unfold maxLen; omega,fun j hj=>⟨b4,0,rfl,h4,fun k hk=>?_⟩,fun j hj=>?_⟩
 ·obtain rfl:k=0:=by omega
  match j,hj with
  | 0,_=>exact c0
  | 1,_=>exact c1
 ·unfold parC
  split <;> omega
theorem zfZ (w:World):Calls Tryz.prog 51 #[] w fun e w'=>e=.returned (.bool true)/\Below w.heap.size w w':=by
 go_enter Tryz.func51, Tryz.ntmps51
 go_wp2_with fail
 obtain ⟨O1,hO1⟩:∃ o,o=(Obj.cells #[Value.int .i64 1,Value.int .i64 1] 3):=⟨_,rfl⟩
 obtain ⟨O2,hO2⟩:∃ o,o=(Obj.cells #[Value.int .i64 0,Value.int .i64 0,Value.int .i64 0,Value.int .i64 0,Value.int .i64 1,Value.int .i64 0] 148):=⟨_,rfl⟩
 obtain ⟨O3,hO3⟩:∃ o,o=(Obj.cells #[Value.slice (some ⟨w.heap.size+1,0,none⟩) 2 2] 149):=⟨_,rfl⟩
 obtain ⟨O4,hO4⟩:∃ o,o=(Obj.cells #[Value.int .i64 5,Value.int .i64 3] 3):=⟨_,rfl⟩
 obtain ⟨O5,hO5⟩:∃ o,o=(Obj.cells #[Value.slice (some ⟨w.heap.size+1+1+1,0,none⟩) 2 2] 22):=⟨_,rfl⟩
 rw [<-hO1,<-hO2,<-hO3,<-hO4,<-hO5]
 have s1:(w.alloc O1).heap.size=w.heap.size+1:=by simp
 have s2:((w.alloc O1).alloc O2).heap.size=w.heap.size+1+1:=by simp
 have s3:(((w.alloc O1).alloc O2).alloc O3).heap.size=w.heap.size+1+1+1:=by simp
 have s4:((((w.alloc O1).alloc O2).alloc O3).alloc O4).heap.size=w.heap.size+1+1+1+1:=by simp
 have k1:Below w.heap.size w (w.alloc O1):=(Below.refl _ _).alloc (Nat.le_refl _) _
 have k2:Below (w.alloc O1).heap.size (w.alloc O1) ((w.alloc O1).alloc O2):=(Below.refl _ _).alloc (Nat.le_refl _) _
 have k3:Below ((w.alloc O1).alloc O2).heap.size ((w.alloc O1).alloc O2) (((w.alloc O1).alloc O2).alloc O3):=(Below.refl _ _).alloc (Nat.le_refl _) _
 have k4:Below (((w.alloc O1).alloc O2).alloc O3).heap.size (((w.alloc O1).alloc O2).alloc O3) ((((w.alloc O1).alloc O2).alloc O3).alloc O4):=(Below.refl _ _).alloc (Nat.le_refl _) _
 have k5:Below ((((w.alloc O1).alloc O2).alloc O3).alloc O4).heap.size ((((w.alloc O1).alloc O2).alloc O3).alloc O4) (((((w.alloc O1).alloc O2).alloc O3).alloc O4).alloc O5):=(Below.refl _ _).alloc (Nat.le_refl _) _
 have k45:=onS k4 k5
 have k345:=onS k3 k45
 have k2345:=onS k2 k345
 have hW:=onS k1 k2345
 have a1:∀ i v,(#[Value.int .i64 1,Value.int .i64 1]:Array Value)[i]?=some v->(w.alloc O1).cell? ⟨w.heap.size,i,none⟩=some v:=fun i v hv=>by rw [hO1]; rw [World.cell?_alloc_at _ _ _ _ rfl]; exact hv
 have a2:∀ i v,(#[Value.int .i64 0,Value.int .i64 0,Value.int .i64 0,Value.int .i64 0,Value.int .i64 1,Value.int .i64 0]:Array Value)[i]?=some v->((w.alloc O1).alloc O2).cell? ⟨w.heap.size+1,i,none⟩=some v:=fun i v hv=>by rw [hO2]; rw [World.cell?_alloc_at _ _ _ _ (by simp)]; exact hv
 have a3:(((w.alloc O1).alloc O2).alloc O3).cell? ⟨w.heap.size+1+1,0,none⟩=some (.slice (some ⟨w.heap.size+1,0,none⟩) 2 2):=by rw [hO3]; rw [World.cell?_alloc_at _ _ _ _ (by simp)]; rfl
 have a4:∀ i v,(#[Value.int .i64 5,Value.int .i64 3]:Array Value)[i]?=some v->((((w.alloc O1).alloc O2).alloc O3).alloc O4).cell? ⟨w.heap.size+1+1+1,i,none⟩=some v:=fun i v hv=>by rw [hO4]; rw [World.cell?_alloc_at _ _ _ _ (by simp)]; exact hv
 have a5:(((((w.alloc O1).alloc O2).alloc O3).alloc O4).alloc O5).cell? ⟨w.heap.size+1+1+1+1,0,none⟩=some (.slice (some ⟨w.heap.size+1+1+1,0,none⟩) 2 2):=by rw [hO5]; rw [World.cell?_alloc_at _ _ _ _ (by simp)]; rfl
 obtain ⟨w5,hw5⟩:∃ W,W=((((w.alloc O1).alloc O2).alloc O3).alloc O4).alloc O5:=⟨_,rfl⟩
 have s5:w5.heap.size=w.heap.size+1+1+1+1+1:=by rw [hw5]; simp
 rw [<-hw5] at k5 k45 k345 k2345 hW a5 ⊢
 have hreads:parT.Reads w5 (some ⟨w.heap.size,0,none⟩) (some ⟨w.heap.size+1+1,0,none⟩):=by
  refine zh0 (by omega) (b2:=w.heap.size+1) (by omega) (by omega) (cellS k2345 (a1 0 _ rfl)) (cellS k2345 (a1 1 _ rfl)) (fun j hj k hk=>?_) (cellS k45 a3)
  refine cellS k345 (a2 (j*3+k) _ ?_)
  match j,hj,k,hk with
  | 0,_,0,_=>rfl
  | 0,_,1,_=>rfl
  | 0,_,2,_=>rfl
  | 1,_,0,_=>rfl
  | 1,_,1,_=>rfl
  | 1,_,2,_=>rfl
 have hcosts:IntRows w5 (some ⟨w.heap.size+1+1+1+1,0,none⟩) 1 (fun _=>2) parC:=zi2 (b4:=w.heap.size+1+1+1) (by omega) (by omega) (cellS k5 (a4 0 _ rfl)) (cellS k5 (a4 1 _ rfl)) a5
 have HW:=hid hW
 clear a1 a2 a3 a4 a5 k1 k2 k3 k4 k5 k45 k345 k2345 s1 s2 s3 s4 s5 hw5 hO1 hO2 hO3 hO4 hO5 hW
 refine (zcZ parT _ _ _ 2 1 1 1 (fun _=>2) parC w5 hreads hcosts).mono ?_
 rintro e w6 ⟨kb,hpost⟩
 have hW6:=onS HW.out kb
 rcases hpost with ⟨h0,_⟩ | ⟨_,gw,rfl,hrow⟩
 ·exact absurd zhb h0
 have q0:=hrow.cell (i:=0) (by show 0<1; omega)
 rw [zjK] at q0;rw [zjJ]
 change w6.cell? ⟨gw,0,none⟩=some (.int .i64 1) at q0
 have HW6:=hid hW6
 clear hrow hreads hcosts kb HW hW6
 have en:parT.n=1:=rfl
 rw [en]
 go_wp2
 go_ret
 exact ⟨rfl,HW6.out⟩
theorem PotOk.path {T:Trel} {e nd:Nat->Nat} {D:Int} {pn:Nat} {ln:Nat->Nat} {L:Nat->Nat->Int} (hp:T.Proper) (hz:T.ZP e nd) (h:PotOk T nd D pn ln L) {x:Nat->Nat} {v u:Nat->Int} (h0:v 0=0)
  (hh:∀ t,t<T.n->x t<T.el t/\T.fr t (x t)=v t/\T.to t (x t)=v (t+1)/\T.lb t (x t)=u t) :
  ∀ i,i<=T.n->(disN u (fun _=>0) i=0/\v i=(nd i:Int))∨(1<=disN u (fun _=>0) i/\L i (v i).toNat<=(disN u (fun _=>0) i:Nat)):=by
 intro i
 induction i with
 | zero=>intro _; exact .inl ⟨rfl,by rw [h0,hz.n0]; rfl⟩
 | succ i ih =>
  intro hi
  obtain ⟨h1,h2,h3,h4⟩:=hh i (by omega)
  have hb:=h.2.2.1 i (by omega) (x i) h1
  rw [h3] at hb
  unfold Trel.mostR at hb
  rw [h4,h2] at hb
  have hd:disN u (fun _=>0) (i+1)=disN u (fun _=>0) i+if u i=0 then 0 else 1:=rfl
  rw [hd]
  by_cases hu:u i=0
  ·rw [if_pos hu,Nat.add_zero]
   rw [if_neg (fun h=>h hu)] at hb
   rcases ih (by omega) with ⟨g1,g2⟩ | ⟨g1,g2⟩
   ·refine .inl ⟨g1,?_⟩
    have:=(hz.iff hp (by omega) h1).1 ⟨by rw [h2,g2],by rw [h4,hu]⟩
    rw [<-h3,this]
    exact (hz.ok i (by omega)).2.2.1
   ·exact .inr ⟨g1,Int.le_trans hb g2⟩
  ·rw [if_neg hu]
   rw [if_pos hu] at hb
   refine .inr ⟨by omega,?_⟩
   by_cases hf:v i=(nd i:Int)
   ·rw [if_pos hf] at hb
    have:=Int.min_le_right (L i (v i).toNat+1) 1
    omega
   ·rw [if_neg hf] at hb
    rcases ih (by omega) with ⟨_,g2⟩ | ⟨g1,g2⟩
    ·exact absurd g2 hf
    ·omega
theorem PChk.sound {P M:Int} {A:Option Addr} {k:Nat} {f:Nat->Int} {N:Int} {TC:Option Addr} {n:Nat} {ln:Nat->Nat} {V:Nat->Nat->Int} {T:Trel} {D:Int} {pn:Nat} {lp:Nat->Nat} {L:Nat->Nat->Int} {w:World} (hr:IntsR w w.heap.size A k f) (h:IntRows w TC n ln V)
  (h1:PChk P M k f N n ln V T D pn lp L 0):∃ P' M' N':Nat,P=P'/\M=M'/\N=N'/\CodeR w P' M' (fun i=>(f i).toNat) A k N' TC n (natT V) /\
   ∀ u,InSp (P' ^ M') (addF P' M') (mulF P' M' fun i=>(f i).toNat) n N' (natT V) u->disN (fun j=>(u j:Int)) (fun _=>0) N'=0∨D<=(disN (fun j=>(u j:Int)) (fun _=>0) N':Nat):=by
 obtain ⟨u0,hu,⟨g1,g2⟩ | ⟨g1,ze,nd,hz,_,hiff⟩⟩:=h1
 ·exact absurd g2.symm g1
 subst g1
 have hpot:=hiff.1 rfl
 rcases hu with ⟨a1,_⟩ | ⟨a1,b1⟩
 ·exact absurd rfl a1
 rcases b1 with ⟨c1,d1⟩ | ⟨c1,P',M',N',rfl,rfl,rfl,d1⟩
 ·exact absurd d1.symm c1
 have hp:=Trel.proper_of c1
 rcases d1 with ⟨_,k1⟩ | ⟨g1,a,H,k1,l1,m1⟩
 ·exact absurd k1 (by omega)
 obtain ⟨P3,M3,N3,x1,x2,x3,hC⟩:=zbP hr h a1
 obtain rfl:P'=P3:=by omega
 obtain rfl:M'=M3:=by omega
 obtain rfl:N'=N3:=by omega
 refine ⟨P',M',N',rfl,rfl,rfl,hC,fun u hu=>?_⟩
 subst g1
 obtain ⟨i1,i2,i3⟩:=m1.1 rfl
 have hL:=fieldLaws hC.fld
 have hneg:∀ x,x<P' ^ M'->negF P' M' x<P' ^ M'/\addF P' M' x (negF P' M' x)=0:=fun x _=>⟨za7 (by have:=hC.fld.1.1; omega),zaR (by have:=hC.fld.1.1; omega)⟩
 obtain ⟨e,v,n0,nn,hh⟩:=Trel.all_words hL hneg hC.rref k1 hp i1 i2 i3 hu
 rcases PotOk.path hp hz hpot n0 hh T.n (Nat.le_refl _) with ⟨g2,_⟩ | ⟨_,g2⟩
 ·exact .inl g2
 ·refine .inr (Int.le_trans hpot.2.2.2 ?_)
  rw [nn] at g2
  exact g2
def Trel.potE (T:Trel) (nd:Nat->Nat) (S:Nat->Int) (i:Nat):Nat->Nat->Int
 | 0,_=>4611686018427387904
 | m+1,v=>if (T.to i m).toNat=v then min (T.potE nd S i m v) (bndV (T.fr i m) (T.lb i m) (S (T.fr i m).toNat) (nd i)) else T.potE nd S i m v
def Trel.pot (T:Trel) (nd:Nat->Nat):Nat->Nat->Int
 | 0,_=>4611686018427387904
 | i+1,v=>T.potE nd (T.pot nd i) i (T.el i) v
theorem zim {fr lb left zero:Int} (h:1<=left/\left<=4611686018427387904):1<=bndV fr lb left zero/\bndV fr lb left zero<=4611686018427387904:=by
 unfold bndV
 obtain ⟨a,ha⟩:∃ a,a=if lb≠0/\left<4611686018427387904 then left+1 else left:=⟨_,rfl⟩
 have h1:1<=a/\a<=4611686018427387904:=by rw [ha]; split <;> omega
 rw [<-ha]
 split
 ·rw [Int.min_eq_right h1.1]; omega
 ·exact h1
theorem Trel.potE_in {T:Trel} {nd:Nat->Nat} {S:Nat->Int} {i:Nat} (hS:∀ v,1<=S v/\S v<=4611686018427387904):∀ m v,1<=T.potE nd S i m v/\T.potE nd S i m v<=4611686018427387904
 | 0,_=>by show (1:Int)<=4611686018427387904/\(4611686018427387904:Int)<=4611686018427387904; omega
 | m + 1, v => by
  have h1:=Trel.potE_in (T:=T) (nd:=nd) (i:=i) hS m v
  have h2:=zim (fr:=T.fr i m) (lb:=T.lb i m) (zero:=(nd i:Int)) (hS (T.fr i m).toNat)
  show 1<=(if (T.to i m).toNat=v then min (T.potE nd S i m v) (bndV (T.fr i m) (T.lb i m) (S (T.fr i m).toNat) (nd i)) else T.potE nd S i m v)/\(if (T.to i m).toNat=v then min (T.potE nd S i m v) (bndV (T.fr i m) (T.lb i m) (S (T.fr i m).toNat) (nd i)) else T.potE nd S i m v)<=4611686018427387904
  split
  ·rcases Int.le_total (T.potE nd S i m v) (bndV (T.fr i m) (T.lb i m) (S (T.fr i m).toNat) (nd i)) with g | g
   ·rw [Int.min_eq_left g]; exact h1
   ·rw [Int.min_eq_right g]; exact h2
  ·exact h1
theorem Trel.pot_in {T:Trel} {nd:Nat->Nat}:∀ i v,1<=T.pot nd i v/\T.pot nd i v<=4611686018427387904
 | 0,_=>by show (1:Int)<=4611686018427387904/\(4611686018427387904:Int)<=4611686018427387904; omega
 | i+1,v=>Trel.potE_in (fun v=>Trel.pot_in i v) _ v
theorem Trel.potE_le {T:Trel} {nd:Nat->Nat} {S:Nat->Int} {i:Nat}:∀ m j,j<m->T.potE nd S i m (T.to i j).toNat<=bndV (T.fr i j) (T.lb i j) (S (T.fr i j).toNat) (nd i)
 | 0,_,h=>absurd h (by omega)
 | m + 1, j, h => by
  show (if (T.to i m).toNat=(T.to i j).toNat then min (T.potE nd S i m (T.to i j).toNat) (bndV (T.fr i m) (T.lb i m) (S (T.fr i m).toNat) (nd i)) else T.potE nd S i m (T.to i j).toNat)<=_
  by_cases e:j=m
  ·subst e
   rw [if_pos rfl]
   exact Int.min_le_right _ _
  ·have:=Trel.potE_le (T:=T) (nd:=nd) (S:=S) (i:=i) m j (by omega)
   split
   ·exact Int.le_trans (Int.min_le_left _ _) this
   ·exact this
theorem Trel.pot_ok {T:Trel} {nd:Nat->Nat} {ln:Nat->Nat} (hl:∀ i,i<T.nw->(ln i:Int)=T.W i):PotOk T nd (T.pot nd T.n 0) T.nw ln (T.pot nd):=by
 refine ⟨rfl,fun i hi=>⟨hl i hi,fun v _=>(Trel.pot_in i v).2⟩,fun i hi j hj=>?_,Int.le_refl _⟩
 exact (zg6 (nd:=nd) (L:=T.pot nd) (i:=i) (j:=j) (Trel.pot_in (i+1) _).2 (Trel.pot_in i _).2).1 (Trel.potE_le (T.el i) j hj)
theorem Trel.potE_from {T:Trel} {nd:Nat->Nat} {S:Nat->Int} {i:Nat}:∀ m v,T.potE nd S i m v<4611686018427387904->∃ j,j<m/\(T.to i j).toNat=v/\T.potE nd S i m v=bndV (T.fr i j) (T.lb i j) (S (T.fr i j).toNat) (nd i)
 | 0,_,h=>by
  have h:(4611686018427387904:Int)<4611686018427387904:=h
  omega
 | m + 1, v, h => by
  have hd:T.potE nd S i (m+1) v=if (T.to i m).toNat=v then min (T.potE nd S i m v) (bndV (T.fr i m) (T.lb i m) (S (T.fr i m).toNat) (nd i)) else T.potE nd S i m v:=rfl
  rw [hd] at h ⊢
  by_cases e:(T.to i m).toNat=v
  ·rw [if_pos e] at h ⊢
   rcases Int.le_total (T.potE nd S i m v) (bndV (T.fr i m) (T.lb i m) (S (T.fr i m).toNat) (nd i)) with g | g
   ·rw [Int.min_eq_left g] at h ⊢
    obtain ⟨j,h1,h2,h3⟩:=Trel.potE_from m v h
    exact ⟨j,by omega,h2,h3⟩
   ·rw [Int.min_eq_right g] at h ⊢
    exact ⟨m,by omega,e,rfl⟩
  ·rw [if_neg e] at h ⊢
   obtain ⟨j,h1,h2,h3⟩:=Trel.potE_from m v h
   exact ⟨j,by omega,h2,h3⟩
def Trel.PathTo (T:Trel) (i:Nat) (x:Nat->Nat) (v:Nat->Int) (u:Nat->Int):Prop:=v 0=0/\∀ t,t<i->x t<T.el t/\T.fr t (x t)=v t/\T.to t (x t)=v (t+1)/\T.lb t (x t)=u t
theorem Trel.PathTo.more {T:Trel} {i j:Nat} {x:Nat->Nat} {v u:Nat->Int} (h:T.PathTo i x v u) (hj:j<T.el i) (hf:T.fr i j=v i):T.PathTo (i+1) (fun t=>if t=i then j else x t) (fun t=>if t=i+1 then T.to i j else v t) (fun t=>if t=i then T.lb i j else u t):=by
 refine ⟨by show (if 0=i+1 then T.to i j else v 0)=0; rw [if_neg (by omega)]; exact h.1,fun t ht=>?_⟩
 by_cases e:t=i
 ·subst e
  simp only [if_true]
  rw [if_neg (by omega)]
  exact ⟨hj,hf,trivial,trivial⟩
 ·simp only [if_neg e]
  rw [if_neg (by omega),if_neg (by omega)]
  exact h.2 t (by omega)
theorem zb7 {f g f' g':Nat->Int}:∀ n,(∀ i,i<n->f i=f' i/\g i=g' i)->disN f g n=disN f' g' n
 | 0,_=>rfl
 | n+1,h=>by
  show disN f g n+_=disN f' g' n+_
  rw [zb7 n fun i hi=>h i (by omega),(h n (by omega)).1,(h n (by omega)).2]
theorem Trel.pot_path {T:Trel} {e nd:Nat->Nat} (hp:T.Proper) (hz:T.ZP e nd):∀ i,i<=T.n->∀ v,T.pot nd i v<4611686018427387904->∃ x nv u,T.PathTo i x nv u/\(nv i).toNat=v/\(disN u (fun _=>0) i:Nat)=T.pot nd i v:=by
 intro i
 induction i with
 | zero => 
  intro _ v h
  have h:(4611686018427387904:Int)<4611686018427387904:=h
  omega
 | succ i ih =>
  intro hi v h
  have hd:T.pot nd (i+1) v=T.potE nd (T.pot nd i) i (T.el i) v:=rfl
  rw [hd] at h ⊢
  obtain ⟨j,h1,h2,h3⟩:=Trel.potE_from (T.el i) v h
  rw [h3] at h ⊢
  have hin:=hp.shape.ins i (by omega) j h1
  have hfr:0<=T.fr i j:=by unfold Trel.inside at hin; omega
  have hdis:∀ (u:Nat->Int) (l:Int),disN (fun t=>if t=i then l else u t) (fun _=>0) (i+1)=disN u (fun _=>0) i+if l=0 then 0 else 1:=fun u l=>by
   show disN (fun t=>if t=i then l else u t) (fun _=>0) i+(if (if i=i then l else u i)=0 then 0 else 1)=_
   rw [if_pos rfl,zb7 (f':=u) (g':=fun _=>0) i fun t ht=>⟨if_neg (by omega),rfl⟩]
  have key:T.pot nd i (T.fr i j).toNat<4611686018427387904->bndV (T.fr i j) (T.lb i j) (T.pot nd i (T.fr i j).toNat) (nd i)=T.pot nd i (T.fr i j).toNat+(if T.lb i j=0 then 0 else 1)->∃ x nv u,T.PathTo (i+1) x nv u/\(nv (i+1)).toNat=v/\(disN u (fun _=>0) (i+1):Nat)=bndV (T.fr i j) (T.lb i j) (T.pot nd i (T.fr i j).toNat) (nd i):=fun g1 g2=>by
   obtain ⟨x,nv,u,k1,k2,k3⟩:=ih (by omega) _ g1
   have hnv:0<=nv i:=by
    by_cases ei:i=0
    ·rw [ei,k1.1]; exact Int.le_refl _
    ·obtain ⟨s,rfl⟩:∃ s,i=s+1:=⟨i - 1,by omega⟩
     obtain ⟨y1,_,y3,_⟩:=k1.2 s (by omega)
     have:=hp.shape.ins s (by omega) _ y1
     unfold Trel.inside at this
     omega
   refine ⟨_,_,_,k1.more h1 (by omega),?_,?_⟩
   ·rw [if_pos rfl]; exact h2
   ·rw [hdis,g2,<-k3]
    split <;> simp
  by_cases hl:T.lb i j=0
  ·have hb:bndV (T.fr i j) (T.lb i j) (T.pot nd i (T.fr i j).toNat) (nd i)=T.pot nd i (T.fr i j).toNat:=by
    unfold bndV
    rw [if_neg (fun h=>h.1 hl),if_neg (fun h=>h.1 hl)]
   rw [hb] at h
   exact key h (by rw [hb,if_pos hl]; omega)
  ·by_cases hf:T.fr i j=(nd i:Int)
   ·have hb:bndV (T.fr i j) (T.lb i j) (T.pot nd i (T.fr i j).toNat) (nd i)=1:=by
     have h5:=(Trel.pot_in (T:=T) (nd:=nd) i (T.fr i j).toNat).1
     unfold bndV
     rw [if_pos ⟨hl,hf⟩,Int.min_eq_right]
     split <;> omega
    rw [hb]
    have hzp:T.PathTo i e (fun t=>(nd t:Int)) (fun _=>0):=⟨by show ((nd 0:Nat):Int)=0; rw [hz.n0]; rfl,fun t ht=>hz.ok t (by omega)⟩
    refine ⟨_,_,_,hzp.more h1 hf,?_,?_⟩
    ·rw [if_pos rfl]; exact h2
    ·rw [hdis,if_neg hl]
     have:∀ n,disN (fun _=>0) (fun _=>0) n=0:=fun n=>by
      induction n with
      | zero=>rfl
      | succ n ih=>show disN _ _ n+_=0; rw [ih,if_pos rfl]
     rw [this]
     rfl
   ·have h5:=Trel.pot_in (T:=T) (nd:=nd) i (T.fr i j).toNat
    have hb:bndV (T.fr i j) (T.lb i j) (T.pot nd i (T.fr i j).toNat) (nd i)=if T.pot nd i (T.fr i j).toNat<4611686018427387904 then T.pot nd i (T.fr i j).toNat+1 else T.pot nd i (T.fr i j).toNat:=by
     unfold bndV
     rw [if_neg (fun h=>hf h.2)]
     by_cases g:T.pot nd i (T.fr i j).toNat<4611686018427387904
     ·rw [if_pos ⟨hl,g⟩,if_pos g]
     ·rw [if_neg (fun h=>g h.2),if_neg g]
    rw [hb] at h
    by_cases g:T.pot nd i (T.fr i j).toNat<4611686018427387904
    ·exact key g (by rw [hb,if_pos g,if_neg hl])
    ·rw [if_neg g] at h
     exact absurd h g
section
variable {add mul:Nat->Nat->Nat} {H:Nat->Nat->Nat} {T:Trel} {q a:Nat}
theorem Trel.PathTo.syn (hok:T.SynOk add mul H q a) {x:Nat->Nat} {v u:Nat->Int}:∀ i,i<=T.n->T.PathTo i x v u->(∀ t,t<i->0<=u t/\u t<(q:Int))/\∀ k,k<a->T.syn add mul H i (v i).toNat k=dotN add mul (fun t=>(u t).toNat) (H k) i:=by
 intro i
 induction i with
 | zero=>intro _ _; exact ⟨fun t ht=>absurd ht (by omega),fun _ _=>rfl⟩
 | succ i ih =>
  intro hi h
  obtain ⟨g1,g2⟩:=ih (by omega) ⟨h.1,fun t ht=>h.2 t (by omega)⟩
  obtain ⟨h1,h2,h3,h4⟩:=h.2 i (by omega)
  refine ⟨fun t ht=>?_,fun k hk=>?_⟩
  ·by_cases e:t=i
   ·rw [e,<-h4]; exact (hok i (by omega) _ h1).1
   ·exact g1 t (by omega)
  ·show T.synL add mul H (T.syn add mul H i) i (T.el i) (v (i+1)).toNat k=add (dotN add mul (fun t=>(u t).toNat) (H k) i) (mul (u i).toNat (H k i))
   rw [<-h3,Trel.syn_edge (T.el i) (fun e he=>hok i (by omega) e he) _ h1 k hk,<-g2 k hk,<-h4,<-h2]
   rfl
end
theorem TChk.least {P M:Int} {A:Option Addr} {k:Nat} {f:Nat->Int} {N:Int} {TC:Option Addr} {n:Nat} {ln:Nat->Nat} {V:Nat->Nat->Int} {T:Trel} {e nd:Nat->Nat} {w:World} (hr:IntsR w w.heap.size A k f) (h:IntRows w TC n ln V)
  (h1:TChk P M k f N n ln V T 0) (hz:T.ZP e nd) (hn1:1<=n):∃ P' M' N':Nat,P=P'/\M=M'/\N=N'/\CodeR w P' M' (fun i=>(f i).toNat) A k N' TC n (natT V) /\
   (∀ u,InSp (P' ^ M') (addF P' M') (mulF P' M' fun i=>(f i).toNat) n N' (natT V) u->disN (fun j=>(u j:Int)) (fun _=>0) N'=0∨T.pot nd T.n 0<=(disN (fun j=>(u j:Int)) (fun _=>0) N':Nat)) /\
   ∃ u,InSp (P' ^ M') (addF P' M') (mulF P' M' fun i=>(f i).toNat) n N' (natT V) u/\disN (fun j=>(u j:Int)) (fun _=>0) N'=T.pot nd T.n 0:=by
 have hpot:PotOk T nd (T.pot nd T.n 0) T.nw (fun i=>(T.W i).toNat) (T.pot nd):=by
  obtain ⟨hp,_⟩:=TChk.zp hr h h1
  exact Trel.pot_ok fun i hi=>by
   have:=(hp.shape.wid (i:=i) (by have:=hp.shape.nw; omega)).1
   omega
 have hP:PChk P M k f N n ln V T (T.pot nd T.n 0) T.nw (fun i=>(T.W i).toNat) (T.pot nd) 0:=⟨0,h1,.inr ⟨rfl,e,nd,hz,.inl rfl,⟨fun _=>hpot,fun _=>rfl⟩⟩⟩
 obtain ⟨P',M',N',rfl,rfl,rfl,hC,hS⟩:=PChk.sound hr h hP
 refine ⟨P',M',N',rfl,rfl,rfl,hC,hS,?_⟩
 have hL:=fieldLaws hC.fld
 have hneg:∀ x,x<P' ^ M'->negF P' M' x<P' ^ M'/\addF P' M' x (negF P' M' x)=0:=fun x _=>⟨za7 (by have:=hC.fld.1.1; omega),zaR (by have:=hC.fld.1.1; omega)⟩
 have hlt:T.pot nd T.n 0<4611686018427387904:=by
  obtain ⟨p,hE⟩:=hC.rref
  obtain ⟨u,hu,hu1⟩:∃ u,InSp (P' ^ M') (addF P' M') (mulF P' M' fun i=>(f i).toNat) n N' (natT V) u/\u (p 0)=1:=by
   have h2:=hL.two
   refine ⟨spE (addF P' M') (mulF P' M' fun i=>(f i).toNat) (natT V) (fun i=>if i=0 then 1 else 0) n,⟨fun i=>if i=0 then 1 else 0,fun i _=>by show (if i=0 then 1 else 0)<P' ^ M'; split <;> omega,fun j _=>rfl⟩,?_⟩
   rw [zcU hL (s:=0) (fun i _=>by show (if i=0 then 1 else 0)<P' ^ M'; split <;> omega) hn1 (hE.one 0 hn1) fun t ht ht0=>hE.zero 0 hn1 t ht ht0]
   rfl
  have hp0:p 0<N':=hE.pvlt 0 hn1
  have hd:∀ m,p 0<m->1<=disN (fun j=>(u j:Int)) (fun _=>0) m:=fun m=>by
   induction m with
   | zero=>intro h; omega
   | succ m ih =>
    intro hm
    show 1<=disN _ _ m+if (u m:Int)=0 then 0 else 1
    by_cases e:p 0=m
    ·rw [<-e,hu1,if_neg (by omega)]; omega
    ·have:=ih (by omega); omega
  have h5:=hd N' hp0
  have h6:=zif (fun j=>(u j:Int)) (fun _=>0) N'
  have h7:=hC.ln2
  rcases hS u hu with g | g <;> omega
 rcases h1 with ⟨a1,_⟩ | ⟨a1,b1⟩
 ·exact absurd rfl a1
 rcases b1 with ⟨c1,d1⟩ | ⟨c1,P2,M2,N2,e1,e2,e3,d1⟩
 ·exact absurd d1.symm c1
 obtain rfl:P'=P2:=by omega
 obtain rfl:M'=M2:=by omega
 obtain rfl:N'=N2:=by omega
 have hp:=Trel.proper_of c1
 rcases d1 with ⟨_,k1⟩ | ⟨g1,a,H,k1,l1,m1⟩
 ·exact absurd k1 (by omega)
 subst g1
 obtain ⟨i1,i2,i3⟩:=m1.1 rfl
 obtain ⟨x,nv,u,y1,y2,y3⟩:=Trel.pot_path hp hz T.n (Nat.le_refl _) 0 hlt
 obtain ⟨z1,z2⟩:=y1.syn i1 T.n (Nat.le_refl _)
 refine ⟨fun t=>(u t).toNat,(zdR hL hneg hC.rref k1 fun j hj=>by have:=z1 j hj; omega).2 fun k hk=>?_,?_⟩
 ·rw [<-z2 k hk,y2]
  exact i2 k hk
 ·rw [<-y3]
  congr 1
  exact zb7 T.n fun i hi=>⟨by have:=z1 i hi; show (((u i).toNat:Nat):Int)=u i; omega,rfl⟩
open Go.ChangeShapes Go.WideShapes Go.ChangeAt
theorem zf0 (b:Nat) (U:Value) (n c:Nat) (w:World) (hcell:w.cell? ⟨b,0,none⟩=some U) (hU:U.oneCell'=true) (h1:1<=n) (hn:n<=1048576) :
  Calls Tryz.prog 135 #[.slice (some ⟨b,0,none⟩) 1 c,.int .i64 (n:Nat)] w fun e w' =>
   ∃ g,e=.returned (.slice (some ⟨g,0,none⟩) n n)/\w.heap.size<=g/\w'.rowIs g 3 n (fun _=>U)/\Below w.heap.size w w':=by
 have hn0:¬ (n:Int)<0:=by omega
 have hwn:IntKind.u64.wrap (n:Int)=(n:Int):=IntWalk.u64_in _ (by omega)
 have hwi:IntKind.i64.wrap (n:Int)=(n:Int):=IntWalk.i64_in _ (by omega)
 go_enter Tryz.func135, Tryz.ntmps135
 go_wp2_with fail
 refine (zik n (by omega) w).mono ?_
 rintro e w1 ⟨rfl,rfl⟩
 have hng:¬ (n:Int) > 9223372036854775807:=by omega
 have hng2:decide ((n:Int) > 9223372036854775807)=false:=by simp; omega
 have hng3:decide (9223372036854775807<(n:Int))=false:=by simp; omega
 have hmk:=fun W=>zaf (P:=Tryz.prog) 22 3 _ 8 Tryz.underlying22 Tryz.infoInt rfl (n:Int) (by omega) (by omega) (by omega) W
 simp only [Int.toNat_natCast] at hmk
 go_upto_region 7 with fail
 obtain ⟨i0,hi0⟩:∃ i,Tryz.prog.info? 3 = some i:=by cases h:Tryz.prog.info? 3 with | none=>have:=Tryz.infoInt; simp [h] at this | some i=>exact ⟨i,rfl⟩
 have hsz:(Tryz.prog.info? 3).map (·.size)=some 1:=by
  have:=Tryz.infoInt
  rw [hi0] at this ⊢
  simp only [Option.map_some,Option.some.injEq,Prod.mk.injEq] at this ⊢
  exact this.2.1
 have hm0:(w1.alloc (Obj.cells (madeCells #[Value.int .i64 0] n) 3)).heap[w1.heap.size]?=some (.cells (filled U (.int .i64 0) 0 n).toArray 3 (0,0)):=by
  rw [<-zbz,Array.toArray_toList]
  exact heap_alloc_new _ _
 have hb0:Below w1.heap.size w1 (w1.alloc (Obj.cells (madeCells #[Value.int .i64 0] n) 3)):=(Below.refl _ _).alloc (Nat.le_refl _) _
 have hc0:=cellS hb0 hcell
 obtain ⟨wm,hwm⟩:∃ W,W=w1.alloc (Obj.cells (madeCells #[Value.int .i64 0] n) 3):=⟨_,rfl⟩
 rw [<-hwm] at hm0 hb0 hc0 ⊢
 obtain ⟨g,hg⟩:∃ g,g=w1.heap.size:=⟨_,rfl⟩
 have hgle:w1.heap.size<=g:=by omega
 rw [<-hg] at hm0 ⊢
 have HC0:=hid hc0
 clear hwm hmk hc0 hg hcell
 have HSRC:Hid (∀ j v,(List.replicate 1 U)[j]?=some v->wm.cell? ((⟨b,0,none⟩:Addr).add j)=some v):=fun j v hv=>by
  have hj:j=0:=by
   have:=(List.getElem?_eq_some_iff.1 hv).1
   simp at this; omega
  subst hj
  have:U=v:=by simpa using hv
  rw [<-this]
  exact HC0.out
 have HONE:Hid (∀ m,∀ v ∈ List.replicate m U,v.oneCell'=true):=fun m v hv=>by rw [List.eq_of_mem_replicate hv]; exact hU
 have HFIT:Hid (0+(List.replicate 1 U).length<=(filled U (.int .i64 0) 0 n).length):=by
  show _<=_
  rw [zbd _ _ (by omega)]; simp; omega
 have HLEN:Hid ((List.replicate 1 U).length=Nat.min 1 n):=by show 1=min 1 n; omega
 go_wp2_with (first | (refine wpList_copy_splice (cur:=filled U (.int .i64 0) 0 n) (cs:=List.replicate 1 U) (B:=w1.heap.size) (w0:=w1) rfl (.tmp 31) (.tmp 32) 22 22 rfl 3 Tryz.underlying22 hsz (some ⟨g,0,none⟩) (some ⟨b,0,none⟩) n n 1 c rfl rfl g 0 3 hm0 HLEN.out (fun _=>⟨rfl,_,rfl,HSRC.out⟩) HFIT.out (HONE.out 1) hb0 hgle ?_; intro w2 hm2 hb2))
 have HM2:Hid (w2.heap[g]?=some (.cells (filled U (.int .i64 0) 1 n).toArray 3 (0,0))):=by
  have:=hm2.out
  rwa [zbe] at this
 clear hm0 hb0 hm2 hU HLEN HFIT HSRC
 go_wp2
 go_loopg [8] n (fun gg iv wx=>∃ k:Nat,iv=.int .i64 (k:Nat)/\1<=k/\k<=n/\n<=k+gg/\Hid (wx.heap[g]?=some (.cells (filled U (.int .i64 0) k n).toArray 3 (0,0)))/\Below w1.heap.size w1 wx)
 case atStart=>exact ⟨1,rfl,by omega,by omega,by omega,HM2,hb2⟩
 case round =>
  clear HM2 hb2
  obtain ⟨k,rfl,hk1,hk,hkg,HM,hb⟩:=hrel
  have hk0:(0:Int)<=(k:Int):=by omega
  by_cases hlt:k<n
  ·have hlt':(k:Int)<(n:Int):=by omega
   obtain ⟨m,hm⟩:∃ m,m=min k (n - k):=⟨_,rfl⟩
   have hm1:1<=m:=by omega
   have hmk:m<=k:=by omega
   have hkm:k+m<=n:=by omega
   have hle1:(k:Int)<=(n:Int):=by omega
   have hkn:k≠n:=by omega
   have hnk:¬ n=k:=by omega
   have HSRC:Hid (∀ j v,(List.replicate m U)[j]?=some v->(World.drew wr).cell? ((⟨g,0,none⟩:Addr).add j)=some v):=fun j v hv=>by
    have hj:j<m:=by
     have:=(List.getElem?_eq_some_iff.1 hv).1
     simpa using this
    have hv':U=v:=by
     rw [List.getElem?_replicate,if_pos hj] at hv
     simpa using hv
    rw [zbj,Nat.zero_add,<-hv']
    show wr.cell? ⟨g,j,none⟩=some U
    rw [cell_of_row wr g j _ _ _ HM.out,List.getElem?_toArray,zb5 (by omega)]
   have HFIT:Hid (k+(List.replicate m U).length<=(filled U (.int .i64 0) k n).length):=by
    show _<=_
    rw [zbd _ _ hk]; simp; omega
   have HLEN:Hid ((List.replicate m U).length=Nat.min k (n - k)):=by show _=_; rw [List.length_replicate]; exact hm
   clear hm
   have hwkm:IntKind.i64.wrap ((k:Int)+(m:Int))=(k:Int)+(m:Int):=IntWalk.i64_in _ (by omega)
   go_upto_region 9 with fail
   refine wp_region_held_drew (S:=fun w'=>Below w1.heap.size w1 w') (by kernel_rfl) hb.drew (fun hHeld=>?_)
   refine tkq 0 (h:=tkq 1 (h:=tkq 2 (h:=tkq 3 (h:=tkq 4 (h:=tkq 5 (h:=tkq 6 (h:=?_)))))))
   refine rdq 7 (h:=fun K hK=>?_)
   refine step_copy_splice (cur:=filled U (.int .i64 0) k n) (cs:=List.replicate m U) (B:=w1.heap.size) (w0:=w1) (by rfl) (.tmp 41) (.tmp 44) 22 22 (by rfl) 3 Tryz.underlying22 hsz (some ⟨g,k,none⟩) (some ⟨g,0,none⟩) (n - k) (n - k) k n (by rfl) (by rfl) g k 3 HM.out HLEN.out (fun _=>⟨rfl,_,rfl,HSRC.out⟩) HFIT.out (HONE.out m) hb.drew hgle ?_
   intro w3 hm3 hb3
   refine bkq hK hb3 (h:=fun hHeld=>?_)
   clear hK K
   refine tkq 8 (h:=tkq 9 (h:=?_))
   refine wpAnyH_done (by kernel_rfl) ?_ _
   clear hHeld
   have HM3:Hid (w3.heap[g]?=some (.cells (filled U (.int .i64 0) (k+m) n).toArray 3 (0,0))):=by
    have:=hm3.out
    rwa [zbe] at this
   clear hm3
   go_wp2
   go_roundg (gk - 1)
   case measure=>omega
   case rel=>exact ⟨k+m,by go_num,by omega,by omega,by omega,HM3,hb3⟩
  ·obtain rfl:k=n:=by omega
   have hfin:wr.rowIs g 3 k (fun _=>U):=⟨_,HM.out,by simp [filled],fun i hi=>by
    rw [List.getElem?_toArray,zb5 hi]⟩
   go_wp2
   go_ret
   exact ⟨g,rfl,hgle,hfin,hb⟩
end Go.Proofs.YtioagplajkoohaaGreat