/- Merged texts of a claim: Renum, SeesCode, Minimal, Total, Secs47, Size47, Small47. -/
import Derived.Test.YtgekjfpapmlndaaGreatTM1
import Derived.Test.YtgekjfpapmlndaaGreatTM6
import Derived.Test.YtgekjfpapmlndaaGreatTM8
import Derived.Test.YtgekjfpapmlndaaGreatTM10
import Derived.Test.YtgekjfpapmlndaaGreatTM11
import Derived.Test.YtgekjfpapmlndaaGreatTM12
import Derived.Test.YtgekjfpapmlndaaGreatTM13
namespace Go.Proofs.YtgekjfpapmlndaaGreat
set_option maxRecDepth 100000
set_option maxHeartbeats 32000000
open KA KB KC KD KE KF
open Go.RowKit
def RenumPost (T:Trel) (w:World) (e:Ending) (w':World):Prop :=
 Below w.heap.size w w'/\((T.properE≠0/\e=.returned (.tuple #[.agg #[.slice none 0 0,.slice none 0 0],.int .i64 T.properE])) ∨
  (T.properE=0/\∃ y A' B' c' d',e=.returned (.tuple #[.agg #[.slice A' T.nw c',.slice B' T.n d'],.int .i64 0])/\IsRen T y/\RenOut T y w' A' B' c' d'))
structure LeastSt (T:Trel) (i j lb bx sb m:Nat) (w:World):Prop where
 least:w.rowIs lb 90 (m*3) (eRow (T.lx (T.nm i) i j))
 box:w.rowIs bx 86 1 (fun _=>.slice (some ⟨lb,0,none⟩) m m)
 seen:w.rowIs sb 4 m (fun v=>.bool (T.sn (T.nm i) i j v))
theorem LeastSt.on {T:Trel} {i j lb bx sb m:Nat} {w w':World} (h:LeastSt T i j lb bx sb m w) (hb:Below w.heap.size w w'):LeastSt T i j lb bx sb m w' :=
 ⟨h.least.of_block (hb.block _ h.least.lt),h.box.of_block (hb.block _ h.box.lt),h.seen.of_block (hb.block _ h.seen.lt)⟩
theorem zhG (T:Trel) (A B:Option Addr) (c d:Nat) (w:World) (h:T.Reads w A B) (hc:T.nw<=c) :
  Calls Tryz.prog 78 #[.agg #[.slice A T.nw c,.slice B T.n d]] w (RenumPost T w):=by
 obtain ⟨RB,hRB⟩:∃ o,o=(Obj.cells #[.slice A T.nw c,.slice B T.n d] 53):=⟨_,rfl⟩
 have hB0:Below (w.heap.size+1) (w.alloc RB) (w.alloc RB):=Below.refl _ _
 have HS:Hid (∀ w',Below (w.heap.size+1) (w.alloc RB) w'->(w'.cell? ⟨w.heap.size,0,none⟩=some (.slice A T.nw c)/\w'.cell? ⟨w.heap.size,1,none⟩=some (.slice B T.n d))/\Below w.heap.size w w'):=fun w' hB=>by
  have hB':=zaO hB
  subst hRB
  exact ⟨⟨tbox hB rfl,tbox hB rfl⟩,hB'⟩
 have HR:=hid h
 have HC:=hid hc
 clear h hc
 go_enter Tryz.func78, Tryz.ntmps78
 go_upto_region 1 with fail
 rw [<-hRB];clear hRB
 have hr0:((w.alloc RB).alloc (Obj.cells #[.slice none 0 0,.slice none 0 0] 53)).rowIs (w.alloc RB).heap.size 53 2 (fun _=>.slice none 0 0):=World.rowIs_alloc (w.alloc RB) _ _ _ (fun i hi=>by
  match i,hi with
  | 0,_=>rfl
  | 1,_=>rfl)
 have hs1:(w.alloc RB).heap.size=w.heap.size+1:=by simp
 rw [hs1] at hr0
 have kb1:Below (w.alloc RB).heap.size (w.alloc RB) ((w.alloc RB).alloc (Obj.cells #[.slice none 0 0,.slice none 0 0] 53)):=(Below.refl _ _).alloc (Nat.le_refl _) _
 have hB1:=zav hB0 kb1
 obtain ⟨w4,hw4⟩:∃ W,W=(w.alloc RB).alloc (Obj.cells #[.slice none 0 0,.slice none 0 0] 53):=⟨_,rfl⟩
 rw [<-hw4] at hr0 hB1 ⊢
 obtain ⟨rb,hrb⟩:∃ b,b=w.heap.size+1:=⟨_,rfl⟩
 rw [<-hrb] at hr0 ⊢
 have HRB:=hid hrb
 clear hw4 kb1 hs1 hB0 hrb
 obtain ⟨⟨p0,p1⟩,hW⟩:=HS.out _ hB1
 go_wp2_with fail
 refine (zd1 T A B c d w4 (HR.out.on hW)).mono ?_
 rintro e w5 ⟨rfl,hb⟩
 have hB5:=zav hB1 hb
 have hr5:=hr0.of_block (hb.block rb hr0.lt)
 clear p0 p1 hW hB1 hr0 hb
 by_cases hs:T.properE=0
 ·have HP:=hid (Trel.proper_of hs)
  have HS0:=hid hs
  rw [hs];clear hs
  go_upto_region 5 with fail
  have hnm:=zfu w5
  have kbs:Below w5.heap.size w5 ((w5.alloc (Obj.cells #[.int .i64 0] 3)).alloc (Obj.cells #[.slice (some ⟨w5.heap.size,0,none⟩) 1 1] 22)):=((Below.refl _ _).alloc (Nat.le_refl _) _).alloc (by simp) _
  obtain ⟨w6,hw6⟩:∃ W,W=(w5.alloc (Obj.cells #[.int .i64 0] 3)).alloc (Obj.cells #[.slice (some ⟨w5.heap.size,0,none⟩) 1 1] 22):=⟨_,rfl⟩
  rw [<-hw6] at hnm kbs ⊢;rw [<-Trel.names_one HP.out] at hnm
  have hB6:=zav hB5 kbs
  have hr6:=hr5.of_block (kbs.block rb hr5.lt)
  have hwb:w.heap.size<w5.heap.size:=zaS hB5
  have hbl:w5.heap.size<=w6.heap.size:=kbs.size
  obtain ⟨nv,hnv⟩:∃ x:Value,x=.slice (some ⟨w5.heap.size+1,0,none⟩) 1 1:=⟨_,rfl⟩
  rw [<-hnv] at hnm ⊢
  obtain ⟨bs,hbs⟩:∃ n,n=w5.heap.size:=⟨_,rfl⟩
  rw [<-hbs] at hnm hwb hbl
  have HNM:=hid hnm
  have HR6:=hid hr6
  obtain ⟨⟨p0,p1⟩,hW⟩:=HS.out _ hB6
  have hn64:=HP.out.shape.n64
  have HNW:=hid HP.out.shape.nw
  clear hnm hw6 kbs hB5 hr5 hr6 hnv hbs
  go_wp2
  go_loopg [5,24] T.n (fun gg nv iv wx=>∃ i:Nat,iv=.int .i64 (i:Nat)/\i<=T.n/\T.n<=i+gg/\Hid (TabL wx bs nv (T.names (i+1)))/\Hid (wx.rowIs rb 53 2 (fun _=>.slice none 0 0))/\Below (w.heap.size+1) (w.alloc RB) wx/\bs<=wx.heap.size)
  case atStart=>exact ⟨0,rfl,by omega,by omega,HNM,HR6,hB6,hbl⟩
  case round =>
   clear HNM HR6 hB6 hbl p0 p1 hW
   obtain ⟨gI,hgI⟩:∃ g,g=gk:=⟨_,rfl⟩
   subst hgI
   obtain ⟨i,rfl,hi,hig,HNM,HRR,hB,hbl⟩:=hrel
   obtain ⟨NA,ncap,hNA⟩:=HNM.out.shape
   rw [T.names_len] at hNA
   subst hNA
   have hi0:(0:Int)<=(i:Int):=by omega
   obtain ⟨⟨p0,p1⟩,hW⟩:=HS.out _ hB
   by_cases hlt:i<T.n
   ·have hlt':(i:Int)<(T.n:Int):=by omega
    obtain ⟨eb,eo,E,ec,heB,heb,x0,he1,he2,he3,_⟩:=HR.out.sec hlt
    obtain ⟨ab,ao,hA,hab,x1,_⟩:=HR.out.width (i:=i+1) (by rw [HNW.out]; omega)
    subst heB hA
    have hel:=HP.out.shape.elb hlt
    obtain ⟨el,hele⟩:∃ n,n=T.el i:=⟨_,rfl⟩
    have HEL:=hid hele
    rw [<-hele] at x0 he1 he3 hel
    have hwid:=HP.out.shape.wid (i:=i+1) (by omega)
    obtain ⟨m,hm⟩:∃ m:Nat,m=(T.W (i+1)).toNat:=⟨_,rfl⟩
    have hmW:T.W (i+1)=(m:Int):=by omega
    rw [hmW] at x1
    have hm1:0<m:=by omega
    have hm2:m<=65536:=by omega
    have HM:=hid hm
    have HE3:=hid he3
    have x0r:=(hW.cell (p:=⟨eb,eo+i,none⟩) heb).trans x0
    have x1r:=(hW.cell (p:=⟨ab,ao+(i+1),none⟩) hab).trans x1
    have hk1':(i:Int)+1<(T.nw:Int):=by have:=HNW.out; omega
    have hk01:(0:Int)<=(i:Int)+1:=by omega
    have hwk1:IntKind.i64.wrap ((i:Int)+1)=(i:Int)+1:=IntWalk.i64_in _ (by omega)
    have htn1:((i:Int)+1).toNat=i+1:=by omega
    have hmk:=fun W=>zew m (by omega) W
    have hmk2:=fun W=>zah (P:=Tryz.prog) 185 4 _ 1 Tryz.underlying185 Tryz.infoBool rfl (m:Int) (by omega) (by omega) (by omega) W
    simp only [Int.toNat_natCast] at hmk2
    clear hele hm hmW hwid he3 x0 x1
    go_upto_region 9 with fail
    have hwz:=zaS hB
    obtain ⟨wa,hwa⟩:∃ W,W=wr:=⟨_,rfl⟩
    subst hwa
    have kb7:Below wa.heap.size wa (wa.alloc (Obj.cells (madeCells #[.int .i64 0,.int .i64 0,.int .i64 0] (m*3)) 90)):=(Below.refl _ _).alloc (Nat.le_refl _) _
    have hl0:=zdB wa m
    have hs7:(wa.alloc (Obj.cells (madeCells #[.int .i64 0,.int .i64 0,.int .i64 0] (m*3)) 90)).heap.size=wa.heap.size+1:=by simp
    obtain ⟨lb,hlb⟩:∃ b,b=wa.heap.size:=⟨_,rfl⟩
    obtain ⟨w7,hw7⟩:∃ W,W=wa.alloc (Obj.cells (madeCells #[.int .i64 0,.int .i64 0,.int .i64 0] (m*3)) 90):=⟨_,rfl⟩
    rw [<-hw7] at kb7 hl0 hs7 ⊢;rw [<-hs7];rw [<-hlb] at hl0 ⊢
    have kb8:Below w7.heap.size w7 (w7.alloc (Obj.cells #[.slice (some ⟨lb,0,none⟩) m m] 86)):=(Below.refl _ _).alloc (Nat.le_refl _) _
    have hb8:(w7.alloc (Obj.cells #[.slice (some ⟨lb,0,none⟩) m m] 86)).rowIs w7.heap.size 86 1 (fun _=>.slice (some ⟨lb,0,none⟩) m m):=World.rowIs_alloc w7 _ _ _ (fun i hi=>by
     match i,hi with
     | 0,_=>rfl)
    have hs8:(w7.alloc (Obj.cells #[.slice (some ⟨lb,0,none⟩) m m] 86)).heap.size=w7.heap.size+1:=by simp
    obtain ⟨bx,hbx⟩:∃ b,b=w7.heap.size:=⟨_,rfl⟩
    obtain ⟨w8,hw8⟩:∃ W,W=w7.alloc (Obj.cells #[.slice (some ⟨lb,0,none⟩) m m] 86):=⟨_,rfl⟩
    rw [<-hw8] at kb8 hb8 hs8 ⊢;rw [<-hbx] at hb8 hs8 ⊢
    have hl8:=hl0.of_block (kb8.block lb hl0.lt)
    have hB8a:=onS kb7 kb8
    replace p0:=cellS hB8a p0;replace x1r:=cellS hB8a x1r
    have HLB:Hid (wa.heap.size<=lb/\wa.heap.size<=bx):=by show _/\_; omega
    clear kb7 kb8 hw7 hw8 hl0 hs7 hs8 hmk hlb hbx
    go_upto_region 10 with fail
    have hs0:=World.rowIs_made w8 (.bool false) m 4
    have kb9:Below w8.heap.size w8 (w8.alloc (Obj.cells (madeCells #[Value.bool false] m) 4)):=(Below.refl _ _).alloc (Nat.le_refl _) _
    obtain ⟨sb,hsb⟩:∃ b,b=w8.heap.size:=⟨_,rfl⟩
    obtain ⟨w9,hw9⟩:∃ W,W=w8.alloc (Obj.cells (madeCells #[Value.bool false] m) 4):=⟨_,rfl⟩
    rw [<-hw9] at kb9 hs0 ⊢;rw [<-hsb] at hs0 ⊢
    have hl9:=(hl8.of_block (kb9.block lb hl8.lt)).congr (g:=eRow (T.lx (T.nm i) i 0)) fun k _=>by
     have:T.lx (T.nm i) i 0=fun _=>(0,0,0):=funext fun v=>Trel.lx_zero _ _ _ _
     rw [this]
    have hb9:=hb8.of_block (kb9.block bx hb8.lt)
    have hs9:w9.rowIs sb 4 m (fun v=>.bool (T.sn (T.nm i) i 0 v)):=hs0.congr fun v _=>by rw [Trel.sn_zero]
    have hB9a:=onS hB8a kb9
    have HSB:Hid (wa.heap.size<=sb):=by show _<=_; have:=hB8a.size; omega
    have HLS:Hid (LeastSt T i 0 lb bx sb m w9):=⟨hl9,hb9,hs9⟩
    have HBA:=hid hB
    clear hl8 hb8 hs0 hl9 hb9 hs9 kb9 hB8a hw9 hsb hmk2 x1r p0 p1 hW x0r hB
    go_wp2
    go_loopg [45] el (fun gg jv wx=>∃ j:Nat,jv=.int .i64 (j:Nat)/\j<=el/\el<=j+gg/\Hid (LeastSt T i j lb bx sb m wx)/\Below wa.heap.size wa wx)
    case atStart=>exact ⟨0,rfl,by omega,by omega,HLS,hB9a⟩
    case round =>
     clear HLS hB9a
     obtain ⟨j,rfl,hj,hjg,HLS,hB⟩:=hrel
     have hj0:(0:Int)<=(j:Int):=by omega
     have hBR:=zav HBA.out hB
     obtain ⟨_,hW⟩:=HS.out _ hBR
     by_cases hltj:j<el
     ·have hltj':(j:Int)<(el:Int):=by omega
      obtain ⟨b9,o9,rfl,hb9,y0,y1,y2⟩:=zc1 ((Rd.below HE3.out hW (Nat.le_refl _)).mono hW.size) hltj
      have hltj2:j<T.el i:=by rw [<-HEL.out]; exact hltj
      have htl:=HP.out.toL hlt hltj2
      have hfl:=HP.out.frL hlt hltj2
      have hll:=(HP.out.sec i hlt).1 j hltj2
      have hlab:0<=T.lb i j/\T.lb i j<256:=⟨hll.1,hll.2.1⟩
      have hnl:=HP.out.nm_lt (i:=i) (by omega) hfl.1
      have hwid2:=(HP.out.shape.wid (i:=i) (by omega)).2
      obtain ⟨tn,htn⟩:∃ n,n=(T.to i j).toNat:=⟨_,rfl⟩
      obtain ⟨fn,hfn⟩:∃ n,n=(T.fr i j).toNat:=⟨_,rfl⟩
      obtain ⟨lv,hlv⟩:∃ z,z=T.lb i j:=⟨_,rfl⟩
      rw [<-htn,<-HM.out] at htl;rw [<-hfn] at hfl hnl;rw [<-hlv] at hlab;rw [<-htl.2] at y2;rw [<-hfl.2] at y0;rw [<-hlv] at y1
      have htl1:=htl.1
      have htl1':(tn:Int)<(m:Int):=by omega
      obtain ⟨a1,ha1⟩:∃ n,n=T.nm i fn:=⟨_,rfl⟩
      have hcd:T.code (T.nm i) i j=a1*256+lv.toNat:=by unfold Trel.code; rw [<-hfn,<-ha1,<-hlv]
      rw [<-ha1] at hnl
      have ha16:a1<65536:=by omega
      obtain ⟨hbk,hok,RA,rc,rfl,hhb,s2,hrow⟩:=(HNM.out.on hB).readR (k:=i) (by rw [T.names_len]; omega)
      rw [T.names_get (by omega:i<i+1),T.nrow_len] at s2 
      rw [T.names_get (by omega:i<i+1)] at hrow
      have hrd:=Own.rd hrow rfl
      obtain ⟨nb,no,rfl,hnb,s3⟩:=Rd.at1 hrd (i:=fn) (by rw [T.nrow_len]; exact hfl.1)
      have hs3:listCell (T.nrow i) fn 0=.int .i64 (a1:Nat):=by
       show Value.int .i64 ((T.nrow i).getD fn 0)=_
       rw [T.nrow_get hfl.1,<-ha1]
      rw [hs3] at s3
      obtain ⟨Wi,hWi⟩:∃ n,n=(T.W i).toNat:=⟨_,rfl⟩
      rw [<-hWi] at s2 hfl
      have hfl1:=hfl.1
      have hfl1':(fn:Int)<(Wi:Int):=by omega
      have HCD:=hid hcd
      have HTN:=hid htn
      have hi1:(i:Int)<(i:Int)+1:=by omega
      obtain ⟨hlr,hbr,hsr⟩:=HLS.out
      have hwr:=hB.size
      clear hrow hrd hs3 htl hfl htn hfn hlv ha1 hcd hll hltj2 hwid2 hnl HLS hWi
      go_upto_region 13 with fail
      obtain ⟨OB,hOB⟩:∃ o,o=(Obj.cells #[Value.int .i64 (fn:Nat),Value.int .i64 lv,Value.int .i64 (tn:Nat)] 90):=⟨_,rfl⟩
      rw [<-hOB]
      have kb:Below wr.heap.size wr (wr.alloc OB):=(Below.refl _ _).alloc (Nat.le_refl _) _
      have c0:(wr.alloc OB).cell? ⟨wr.heap.size,0,none⟩=some (.int .i64 (fn:Nat)):=by subst hOB; exact tbox (Below.refl _ _) rfl
      have c1:(wr.alloc OB).cell? ⟨wr.heap.size,1,none⟩=some (.int .i64 lv):=by subst hOB; exact tbox (Below.refl _ _) rfl
      have c2:(wr.alloc OB).cell? ⟨wr.heap.size,2,none⟩=some (.int .i64 (tn:Nat)):=by subst hOB; exact tbox (Below.refl _ _) rfl
      obtain ⟨w6,hw6⟩:∃ W,W=wr.alloc OB:=⟨_,rfl⟩
      have hlb:=hlr.lt
      have hl6:wr.heap.size<w6.heap.size:=by rw [hw6]; simp
      obtain ⟨pb,hpb⟩:∃ b,b=wr.heap.size:=⟨_,rfl⟩
      rw [<-hw6] at kb c0 c1 c2 ⊢;rw [<-hpb] at c0 c1 c2 hlb hl6 ⊢
      have HPS:Hid (pb≠sb):=by
       have:=hsr.lt
       show _≠_
       omega
      replace hlr:=hlr.of_block (kb.block lb hlr.lt);replace hbr:=hbr.of_block (kb.block bx hbr.lt);replace hsr:=hsr.of_block (kb.block sb hsr.lt);replace s2:=cellS kb s2;replace s3:=cellS kb s3;replace hB:=onS hB kb;clear hpb hw6 hOB kb y0 y1 y2 hW hb9 hBR
      refine wp_region_held_drew (S:=fun w'=>w'.cell? ⟨hbk,hok+i,none⟩=some (.slice (some ⟨nb,no,none⟩) Wi rc)/\w'.cell? ⟨nb,no+fn,none⟩=some (.int .i64 (a1:Nat))/\w'.cell? ⟨pb,0,none⟩=some (.int .i64 (fn:Nat))/\w'.cell? ⟨pb,1,none⟩=some (.int .i64 lv)) (by kernel_rfl) ⟨cellS (Below.refl _ _).drew s2,cellS (Below.refl _ _).drew s3,cellS (Below.refl _ _).drew c0,cellS (Below.refl _ _).drew c1⟩ (fun hHeld=>?_)
      obtain ⟨w7,hw⟩:∃ W,W=World.drew w6:=⟨_,rfl⟩
      have kb:Below w6.heap.size w6 w7:=by rw [hw]; exact (Below.refl _ _).drew
      rw [<-hw] at hHeld ⊢;clear hw;replace hlr:=zab hlr kb;replace hbr:=zab hbr kb;replace hsr:=zab hsr kb;replace hB:=onS hB kb;replace c2:=cellS kb c2;replace s2:=cellS kb s2;replace s3:=cellS kb s3;replace c0:=cellS kb c0;replace c1:=cellS kb c1;clear kb
      refine tkq 0 (h:=tkq 1 (h:=tkq 2 (h:=tkq 3 (h:=tkq 4 (h:=tkq 5 (h:=tkq 6 (h:=tkq 7 (h:=tkq 8 (h:=tkq 9 (h:=tkq 10 (h:=?_)))))))))))
      refine rdq 11 (h:=fun K hK=>?_)
      go_simp
      obtain ⟨w8,hw⟩:∃ W,W=World.alloc w7 (Obj.cells #[.int .i64 0,.int .i64 0,.int .i64 0] 90):=⟨_,rfl⟩
      have kb:Below w7.heap.size w7 w8:=by rw [hw]; exact (Below.refl _ _).alloc (Nat.le_refl _) _
      have hq:w8.rowIs w7.heap.size 90 3 (fun _=>.int .i64 0):=by rw [hw]; exact World.rowIs_alloc w7 _ _ _ (fun i hi=>by
       match i,hi with
       | 0,_=>rfl
       | 1,_=>rfl
       | 2,_=>rfl)
      have hz:=c2
      replace hz:=World.block_lt_of_cell? _ _ hz
      have hz2:=World.block_lt_of_cell? _ _ s2
      have hz3:=World.block_lt_of_cell? _ _ s3
      have hz4:=hlr.lt
      have hz5:=hbr.lt
      have hz6:=hsr.lt
      have hz7:=hB.size
      rw [<-hw];clear hw
      obtain ⟨qb,hqb⟩:∃ b,b=w7.heap.size:=⟨_,rfl⟩
      rw [<-hqb] at hq ⊢
      have HQL:Hid (qb≠lb):=by show _≠_; omega
      have HQS:Hid (qb≠sb):=by show _≠_; omega
      have hpq:pb≠qb:=by rw [hqb]; exact Nat.ne_of_lt hz
      have hhq:hbk≠qb:=by rw [hqb]; exact Nat.ne_of_lt hz2
      have hnq:nb≠qb:=by rw [hqb]; exact Nat.ne_of_lt hz3
      have hlq:lb≠qb:=by omega
      have hbq:bx≠qb:=by omega
      have hsq:sb≠qb:=by omega
      have hwq:wa.heap.size<=qb:=by omega
      clear hqb hz hz2 hz3 hz4 hz5 hz6 hz7;replace hlr:=zab hlr kb;replace hbr:=zab hbr kb;replace hsr:=zab hsr kb;replace hB:=onS hB kb;replace c2:=cellS kb c2;replace s2:=cellS kb s2;replace s3:=cellS kb s3;replace c0:=cellS kb c0;replace c1:=cellS kb c1;clear kb
      refine bkq hK ⟨s2,s3,c0,c1⟩ (h:=fun hHeld=>?_)
      clear hK K
      refine rdq 12 (h:=fun K hK=>?_)
      have hq1:=hq.set 0 (.int .i64 (a1:Nat))
      have hq2:=hq1.set 1 (.int .i64 lv)
      have hq3:=hq2.set 2 (.int .i64 0)
      have d0:=hq.cell (i:=0) (by omega)
      have z0:=hq.frozen 0
      have d1:=hq1.cell (i:=1) (by omega)
      have z1:=hq1.frozen 1
      have d2:=hq2.cell (i:=2) (by omega)
      have z2:=hq2.frozen 2
      have d51:=hq.cell (i:=1) (by omega)
      have z51:=hq.frozen 1
      have d52:=hq.cell (i:=2) (by omega)
      have z52:=hq.frozen 2
      have d62:=hq1.cell (i:=2) (by omega)
      have z62:=hq1.frozen 2
      have s2':=(zaa (p:=⟨qb,2,none⟩) (u:=(.int .i64 0)) (zaa (p:=⟨qb,1,none⟩) (u:=(.int .i64 lv)) (zaa (p:=⟨qb,0,none⟩) (u:=(.int .i64 (a1:Nat))) s2 hhq) hhq) hhq)
      have s3':=(zaa (p:=⟨qb,2,none⟩) (u:=(.int .i64 0)) (zaa (p:=⟨qb,1,none⟩) (u:=(.int .i64 lv)) (zaa (p:=⟨qb,0,none⟩) (u:=(.int .i64 (a1:Nat))) s3 hnq) hnq) hnq)
      have c0':=(zaa (p:=⟨qb,2,none⟩) (u:=(.int .i64 0)) (zaa (p:=⟨qb,1,none⟩) (u:=(.int .i64 lv)) (zaa (p:=⟨qb,0,none⟩) (u:=(.int .i64 (a1:Nat))) c0 hpq) hpq) hpq)
      have c1':=(zaa (p:=⟨qb,2,none⟩) (u:=(.int .i64 0)) (zaa (p:=⟨qb,1,none⟩) (u:=(.int .i64 lv)) (zaa (p:=⟨qb,0,none⟩) (u:=(.int .i64 (a1:Nat))) c1 hpq) hpq) hpq)
      have c2':=(zaa (p:=⟨qb,2,none⟩) (u:=(.int .i64 0)) (zaa (p:=⟨qb,1,none⟩) (u:=(.int .i64 lv)) (zaa (p:=⟨qb,0,none⟩) (u:=(.int .i64 (a1:Nat))) c2 hpq) hpq) hpq)
      have hlr':=((hlr.setOther (a:=⟨qb,0,none⟩) (by simpa using hlq) (.int .i64 (a1:Nat))).setOther (a:=⟨qb,1,none⟩) (by simpa using hlq) (.int .i64 lv)).setOther (a:=⟨qb,2,none⟩) (by simpa using hlq) (.int .i64 0)
      have hbr':=((hbr.setOther (a:=⟨qb,0,none⟩) (by simpa using hbq) (.int .i64 (a1:Nat))).setOther (a:=⟨qb,1,none⟩) (by simpa using hbq) (.int .i64 lv)).setOther (a:=⟨qb,2,none⟩) (by simpa using hbq) (.int .i64 0)
      have hsr':=((hsr.setOther (a:=⟨qb,0,none⟩) (by simpa using hsq) (.int .i64 (a1:Nat))).setOther (a:=⟨qb,1,none⟩) (by simpa using hsq) (.int .i64 lv)).setOther (a:=⟨qb,2,none⟩) (by simpa using hsq) (.int .i64 0)
      have hB':=((hB.setCell (p:=⟨qb,0,none⟩) hwq (.int .i64 (a1:Nat))).setCell (p:=⟨qb,1,none⟩) hwq (.int .i64 lv)).setCell (p:=⟨qb,2,none⟩) hwq (.int .i64 0)
      have HQ3:=hid hq3
      have HB1:=hid hB'
      have HL1:=hid hlr'
      have HX1:=hid hbr'
      have HS1:=hid hsr'
      clear hq1 hq2 hq3 hq hlr hbr hsr hB hlr' hbr' hsr' hB' s2 s3 c0 c1 c2
      go_simp
      clear d0 z0 d1 z1 d2 z2 d51 d52 d62 z51 z52 z62
      refine bkq hK ⟨s2',s3',c0',c1'⟩ (h:=fun hHeld=>?_)
      clear hK K
      refine wpAnyH_done (by kernel_rfl) ?_ _
      clear hHeld
      go_wp2_with fail
      obtain ⟨w20,hw20⟩:∃ W,W=((w8.setCell ⟨qb,0,none⟩ (.int .i64 (a1:Nat))).setCell ⟨qb,1,none⟩ (.int .i64 lv)).setCell ⟨qb,2,none⟩ (.int .i64 0):=⟨_,rfl⟩
      have hq:=HQ3.out
      have hB:=HB1.out
      have hlr:=HL1.out
      have hbr:=HX1.out
      have hsr:=HS1.out
      rw [<-hw20] at hq hB hlr hbr hsr c2' ⊢
      have q0:=hq.cell (i:=0) (by omega)
      have q1:=hq.cell (i:=1) (by omega)
      have q2:=hq.cell (i:=2) (by omega)
      rw [if_neg (by omega),if_neg (by omega),if_pos rfl] at q0
      rw [if_neg (by omega),if_pos rfl] at q1
      rw [if_pos rfl] at q2;clear hw20 HQ3 HB1 HL1 HX1 HS1 s2' s3' c0' c1' hq
      have HL:=hid hlr
      have HX:=hid hbr
      have HSR:=hid hsr
      have HBB:=hid hB
      have z0:=hsr.cell htl1
      have hpb:=World.block_lt_of_cell? _ _ c2'
      have hqbl:=World.block_lt_of_cell? _ _ q0
      clear hlr hbr hsr hB
      by_cases hsn:T.sn (T.nm i) i j tn=true
      ·obtain ⟨l0,l1,l2⟩:=zgL HL.out htl1
       have HLS:=hid (Trel.lx_less (T:=T) (f:=T.nm i) (i:=i) (j:=j) (tn:=tn) hlab HCD.out hsn)
       rw [hsn] at z0
       obtain ⟨v1,hv1⟩:∃ z,z=(T.lx (T.nm i) i j tn).1:=⟨_,rfl⟩
       obtain ⟨v2,hv2⟩:∃ z,z=(T.lx (T.nm i) i j tn).2.1:=⟨_,rfl⟩
       obtain ⟨v3,hv3⟩:∃ z,z=(T.lx (T.nm i) i j tn).2.2:=⟨_,rfl⟩
       rw [<-hv1] at l0 HLS;rw [<-hv2] at l1 HLS;rw [<-hv3] at l2
       have x0:=HX.out.cell (i:=0) (by omega)
       have hc:=fun W=>zh1 (a1:Nat) lv 0 v1 v2 v3 W
       have hcr:∀ W,Calls Tryz.prog 151 #[.agg #[.int .i64 (a1:Nat),.int .i64 lv,.int .i64 0],.agg #[.int .i64 v1,.int .i64 v2,.int .i64 v3]] W fun e w'=>e=.returned (.int .i64 (lessV (a1:Nat) lv v1 v2))/\∃ q os',w'=Go.Sort.grow (W.drewN q) os':=hc
       obtain ⟨r,hr⟩:∃ r,r=lessV (a1:Nat) lv v1 v2:=⟨_,rfl⟩
       rw [<-hr] at HLS hcr
       have mixed:Tryz.prog.follows .mixedOrders=true:=by kernel_rfl
       have g0:=fun k os=>_root_.Go.cell_grown (World.block_lt_of_cell? _ _ c2') c2' k os
       have g1:=fun k os=>_root_.Go.cell_grown (World.block_lt_of_cell? _ _ z0) z0 k os
       have g2:=fun k os=>_root_.Go.cell_grown (World.block_lt_of_cell? _ _ q0) q0 k os
       have g3:=fun k os=>_root_.Go.cell_grown (World.block_lt_of_cell? _ _ q1) q1 k os
       have g4:=fun k os=>_root_.Go.cell_grown (World.block_lt_of_cell? _ _ q2) q2 k os
       have g5:=fun k os=>_root_.Go.cell_grown (World.block_lt_of_cell? _ _ x0) x0 k os
       have g6:=fun k os=>_root_.Go.cell_grown (World.block_lt_of_cell? _ _ l0) l0 k os
       have g7:=fun k os=>_root_.Go.cell_grown (World.block_lt_of_cell? _ _ l1) l1 k os
       have g8:=fun k os=>_root_.Go.cell_grown (World.block_lt_of_cell? _ _ l2) l2 k os
       have C2:=hid c2'
       have Q0:=hid q0
       have Q1:=hid q1
       have Q2:=hid q2
       clear hc hr hv1 hv2 hv3 l0 l1 l2 z0 x0 c2' q0 q1 q2 hpb hqbl hsn
       by_cases hlz:r<0
       ·have HLT:=hid (HLS.out.1 hlz)
        go_quiet_grown (first | (go_at_call 151; refine Calls.grown_of (hcr _)))
        go_upto_region 15 with fail
        obtain ⟨w21,hw21⟩:∃ W,W=Go.Sort.grow (w20.drewN nq) osq:=⟨_,rfl⟩
        rw [<-hw21]
        have kb:Below w20.heap.size w20 w21:=GG.below ⟨nq,osq,hw21⟩
        clear hw21 g0 g1 g2 g3 g4 g5 g6 g7 g8 hcr
        have hlr:=zab HL.out kb
        have hbr:=zab HX.out kb
        have hsr:=zab HSR.out kb
        have hB:=onS HBB.out kb
        have c2:=cellS kb C2.out
        have q0:=cellS kb Q0.out
        have q1:=cellS kb Q1.out
        have q2:=cellS kb Q2.out
        have b0:=hbr.cell (i:=0) (by omega)
        have htl3:tn*3+2<m*3:=by omega
        clear kb
        refine wp_region_held_drew (S:=fun w'=>w'.cell? ⟨bx,0,none⟩=some (.slice (some ⟨lb,0,none⟩) m m)/\w'.cell? ⟨pb,2,none⟩=some (.int .i64 (tn:Nat))/\w'.cell? ⟨qb,0,none⟩=some (.int .i64 (a1:Nat))/\w'.cell? ⟨qb,1,none⟩=some (.int .i64 lv)/\w'.cell? ⟨qb,2,none⟩=some (.int .i64 0)) (by kernel_rfl) ⟨cellS (Below.refl _ _).drew b0,cellS (Below.refl _ _).drew c2,cellS (Below.refl _ _).drew q0,cellS (Below.refl _ _).drew q1,cellS (Below.refl _ _).drew q2⟩ (fun hHeld=>?_)
        obtain ⟨w22,hw⟩:∃ W,W=World.drew w21:=⟨_,rfl⟩
        have kb:Below w21.heap.size w21 w22:=by rw [hw]; exact (Below.refl _ _).drew
        rw [<-hw] at hHeld ⊢;clear hw;replace hlr:=zab hlr kb;replace hbr:=zab hbr kb;replace hsr:=zab hsr kb;replace hB:=onS hB kb;replace b0:=cellS kb b0;replace c2:=cellS kb c2;replace q0:=cellS kb q0;replace q1:=cellS kb q1;replace q2:=cellS kb q2;clear kb
        refine tkq 0 (h:=tkq 1 (h:=tkq 2 (h:=tkq 3 (h:=tkq 4 (h:=tkq 5 (h:=tkq 6 (h:=tkq 7 (h:=?_))))))))
        refine rdq 8 (h:=fun K hK=>?_)
        have h1:=hlr.set (tn*3) (.int .i64 (a1:Nat))
        have h2:=h1.set (tn*3+1) (.int .i64 lv)
        have d0:=hlr.cell (i:=tn*3) (by omega)
        have f0:=hlr.frozen (tn*3)
        have d1:=h1.cell (i:=tn*3+1) (by omega)
        have f1:=h1.frozen (tn*3+1)
        have d2:=h2.cell (i:=tn*3+2) htl3
        have f2:=h2.frozen (tn*3+2)
        have d51:=hlr.cell (i:=tn*3+1) (by omega)
        have f51:=hlr.frozen (tn*3+1)
        have d52:=hlr.cell (i:=tn*3+2) htl3
        have f52:=hlr.frozen (tn*3+2)
        have d62:=h1.cell (i:=tn*3+2) htl3
        have f62:=h1.frozen (tn*3+2)
        have HXL:Hid (bx≠lb/\pb≠lb/\qb≠lb):=⟨zaq hbr hlr (by decide),by omega,HQL.out⟩
        have HXS:Hid (bx≠sb/\pb≠sb/\qb≠sb):=⟨zaq hbr hsr (by decide),HPS.out,HQS.out⟩
        have hls:=zaq hlr hsr (by decide)
        have h9:=zgN (x':=T.lx (T.nm i) i (j+1)) hlr (fun v=>Trel.lx_take HTN.out.symm hlab HCD.out ha16 HLT.out v)
        have hB9:=((hB.setCell (p:=⟨lb,tn*3,none⟩) HLB.out.1 (.int .i64 (a1:Nat))).setCell (p:=⟨lb,tn*3+1,none⟩) HLB.out.1 (.int .i64 lv)).setCell (p:=⟨lb,tn*3+2,none⟩) HLB.out.1 (.int .i64 0)
        have hbr9:=((hbr.setOther (a:=⟨lb,tn*3,none⟩) (by simpa using HXL.out.1) (.int .i64 (a1:Nat))).setOther (a:=⟨lb,tn*3+1,none⟩) (by simpa using HXL.out.1) (.int .i64 lv)).setOther (a:=⟨lb,tn*3+2,none⟩) (by simpa using HXL.out.1) (.int .i64 0)
        have hsr9:=((hsr.setOther (a:=⟨lb,tn*3,none⟩) (by simpa using hls.symm) (.int .i64 (a1:Nat))).setOther (a:=⟨lb,tn*3+1,none⟩) (by simpa using hls.symm) (.int .i64 lv)).setOther (a:=⟨lb,tn*3+2,none⟩) (by simpa using hls.symm) (.int .i64 0)
        have b09:=(zaa (p:=⟨lb,tn*3+2,none⟩) (u:=(.int .i64 0)) (zaa (p:=⟨lb,tn*3+1,none⟩) (u:=(.int .i64 lv)) (zaa (p:=⟨lb,tn*3,none⟩) (u:=(.int .i64 (a1:Nat))) b0 HXL.out.1) HXL.out.1) HXL.out.1)
        have c29:=(zaa (p:=⟨lb,tn*3+2,none⟩) (u:=(.int .i64 0)) (zaa (p:=⟨lb,tn*3+1,none⟩) (u:=(.int .i64 lv)) (zaa (p:=⟨lb,tn*3,none⟩) (u:=(.int .i64 (a1:Nat))) c2 HXL.out.2.1) HXL.out.2.1) HXL.out.2.1)
        have q09:=(zaa (p:=⟨lb,tn*3+2,none⟩) (u:=(.int .i64 0)) (zaa (p:=⟨lb,tn*3+1,none⟩) (u:=(.int .i64 lv)) (zaa (p:=⟨lb,tn*3,none⟩) (u:=(.int .i64 (a1:Nat))) q0 HXL.out.2.2) HXL.out.2.2) HXL.out.2.2)
        have q19:=(zaa (p:=⟨lb,tn*3+2,none⟩) (u:=(.int .i64 0)) (zaa (p:=⟨lb,tn*3+1,none⟩) (u:=(.int .i64 lv)) (zaa (p:=⟨lb,tn*3,none⟩) (u:=(.int .i64 (a1:Nat))) q1 HXL.out.2.2) HXL.out.2.2) HXL.out.2.2)
        have q29:=(zaa (p:=⟨lb,tn*3+2,none⟩) (u:=(.int .i64 0)) (zaa (p:=⟨lb,tn*3+1,none⟩) (u:=(.int .i64 lv)) (zaa (p:=⟨lb,tn*3,none⟩) (u:=(.int .i64 (a1:Nat))) q2 HXL.out.2.2) HXL.out.2.2) HXL.out.2.2)
        have H9:=hid h9
        have HB9:=hid hB9
        have HX9:=hid hbr9
        have HS9:=hid hsr9
        have Hb09:=hid b09
        have Hc29:=hid c29
        have Hq09:=hid q09
        have Hq19:=hid q19
        have Hq29:=hid q29
        clear h9 hB9 hbr9 hsr9 h1 h2 hlr hbr hsr hB b09 c29 q09 q19 q29
        go_simp
        clear d0 f0 d1 f1 d2 f2 d51 f51 d52 f52 d62 f62 b0 c2 q0 q1 q2
        obtain ⟨w23,hwN⟩:∃ W,W=((World.setCell w22 ⟨lb,tn*3,none⟩ (.int .i64 (a1:Nat))).setCell ⟨lb,tn*3+1,none⟩ (.int .i64 lv)).setCell ⟨lb,tn*3+2,none⟩ (.int .i64 0):=⟨_,rfl⟩
        have hlr:=H9.out
        have hB:=HB9.out
        have hbr:=HX9.out
        have hsr:=HS9.out
        have b0:=Hb09.out
        have c2:=Hc29.out
        have q0:=Hq09.out
        have q1:=Hq19.out
        have q2:=Hq29.out
        rw [<-hwN] at hlr hB hbr hsr b0 c2 q0 q1 q2 ⊢;clear hwN H9 HB9 HX9 HS9 Hb09 Hc29 Hq09 Hq19 Hq29
        refine bkq hK ⟨b0,c2,q0,q1,q2⟩ (h:=fun hHeld=>?_)
        clear hK K
        refine tkq 9 (h:=?_)
        refine rdq 10 (h:=fun K hK=>?_)
        have h1:=hsr.set tn (.bool true)
        have y0:=hsr.cell htl1
        have y1:=hsr.frozen tn
        have hB9:=hB.setCell (p:=⟨sb,tn,none⟩) HSB.out (.bool true)
        have hl9:=hlr.setOther (a:=⟨sb,tn,none⟩) (by simpa using hls) (.bool true)
        have hb9:=hbr.setOther (a:=⟨sb,tn,none⟩) (by simpa using HXS.out.1) (.bool true)
        have b09:=zaa (p:=⟨sb,tn,none⟩) (u:=(.bool true)) b0 HXS.out.1
        have c29:=zaa (p:=⟨sb,tn,none⟩) (u:=(.bool true)) c2 HXS.out.2.1
        have q09:=zaa (p:=⟨sb,tn,none⟩) (u:=(.bool true)) q0 HXS.out.2.2
        have q19:=zaa (p:=⟨sb,tn,none⟩) (u:=(.bool true)) q1 HXS.out.2.2
        have q29:=zaa (p:=⟨sb,tn,none⟩) (u:=(.bool true)) q2 HXS.out.2.2
        have HS9:=hid h1
        have HB9:=hid hB9
        have HL9:=hid hl9
        have HX9:=hid hb9
        have Hb09:=hid b09
        have Hc29:=hid c29
        have Hq09:=hid q09
        have Hq19:=hid q19
        have Hq29:=hid q29
        clear h1 hB9 hl9 hb9 hlr hbr hsr hB b0 c2 q0 q1 q2 b09 c29 q09 q19 q29
        go_simp
        clear y0 y1
        refine bkq hK ⟨Hb09.out,Hc29.out,Hq09.out,Hq19.out,Hq29.out⟩ (h:=fun hHeld=>?_)
        clear hK K
        refine wpAnyH_done (by kernel_rfl) ?_ _
        clear hHeld
        go_wp2
        go_roundg (gk - 1)
        case measure=>omega
        case rel =>
         refine ⟨j+1,by go_num,by omega,by omega,⟨HL9.out,HX9.out,HS9.out.congr fun v _=>?_⟩,HB9.out⟩
         rw [Trel.sn_take HTN.out.symm hlab HCD.out ha16 HLT.out v]
         by_cases e:v=tn
         ·rw [if_pos e,if_pos e]
         ·rw [if_neg e,if_neg e]
       ·have HLT:=hid fun e=>hlz (HLS.out.2 e)
        go_quiet_grown (first | (go_at_call 151; refine Calls.grown_of (hcr _)))
        go_wp2
        obtain ⟨w21,hw21⟩:∃ W,W=Go.Sort.grow (w20.drewN nq) osq:=⟨_,rfl⟩
        rw [<-hw21]
        have kb:Below w20.heap.size w20 w21:=GG.below ⟨nq,osq,hw21⟩
        have HLn:Hid (LeastSt T i (j+1) lb bx sb m w21):=by
         refine LeastSt.on (w:=w20) ⟨HL.out.congr fun k _=>?_,HX.out,HSR.out.congr fun v _=>?_⟩ kb
         ·have:T.lx (T.nm i) i (j+1)=T.lx (T.nm i) i j:=funext fun v=>Trel.lx_skip HTN.out.symm HLT.out v
          rw [this]
         ·rw [Trel.sn_skip HTN.out.symm HLT.out v]
        have HBn:=hid (onS HBB.out kb)
        clear kb hw21 g0 g1 g2 g3 g4 g5 g6 g7 g8 hcr
        go_roundg (gk - 1)
        case measure=>omega
        case rel=>exact ⟨j+1,by go_num,by omega,by omega,HLn,HBn.out⟩
      ·have hsf:T.sn (T.nm i) i j tn=false:=by simpa using hsn
       rw [hsf] at z0
       have HLT:=hid (Trel.kt_new hlab HCD.out ha16 hsf)
       clear hsn hsf
       have C2:=hid c2'
       have Q0:=hid q0
       have Q1:=hid q1
       have Q2:=hid q2
       clear hpb hqbl q0 q1 q2
       go_quiet (fail)
       go_upto_region 15 with fail
       obtain ⟨w21,hw21⟩:∃ W,W=w20.drewN nq:=⟨_,rfl⟩
       rw [<-hw21]
       have kb:Below w20.heap.size w20 w21:=by rw [hw21]; exact zae (Below.refl _ _) _
       clear hw21 c2' z0
       have hlr:=zab HL.out kb
       have hbr:=zab HX.out kb
       have hsr:=zab HSR.out kb
       have hB:=onS HBB.out kb
       have c2:=cellS kb C2.out
       have q0:=cellS kb Q0.out
       have q1:=cellS kb Q1.out
       have q2:=cellS kb Q2.out
       have b0:=hbr.cell (i:=0) (by omega)
       have htl3:tn*3+2<m*3:=by omega
       clear kb
       refine wp_region_held_drew (S:=fun w'=>w'.cell? ⟨bx,0,none⟩=some (.slice (some ⟨lb,0,none⟩) m m)/\w'.cell? ⟨pb,2,none⟩=some (.int .i64 (tn:Nat))/\w'.cell? ⟨qb,0,none⟩=some (.int .i64 (a1:Nat))/\w'.cell? ⟨qb,1,none⟩=some (.int .i64 lv)/\w'.cell? ⟨qb,2,none⟩=some (.int .i64 0)) (by kernel_rfl) ⟨cellS (Below.refl _ _).drew b0,cellS (Below.refl _ _).drew c2,cellS (Below.refl _ _).drew q0,cellS (Below.refl _ _).drew q1,cellS (Below.refl _ _).drew q2⟩ (fun hHeld=>?_)
       obtain ⟨w22,hw⟩:∃ W,W=World.drew w21:=⟨_,rfl⟩
       have kb:Below w21.heap.size w21 w22:=by rw [hw]; exact (Below.refl _ _).drew
       rw [<-hw] at hHeld ⊢;clear hw;replace hlr:=zab hlr kb;replace hbr:=zab hbr kb;replace hsr:=zab hsr kb;replace hB:=onS hB kb;replace b0:=cellS kb b0;replace c2:=cellS kb c2;replace q0:=cellS kb q0;replace q1:=cellS kb q1;replace q2:=cellS kb q2;clear kb
       refine tkq 0 (h:=tkq 1 (h:=tkq 2 (h:=tkq 3 (h:=tkq 4 (h:=tkq 5 (h:=tkq 6 (h:=tkq 7 (h:=?_))))))))
       refine rdq 8 (h:=fun K hK=>?_)
       have h1:=hlr.set (tn*3) (.int .i64 (a1:Nat))
       have h2:=h1.set (tn*3+1) (.int .i64 lv)
       have d0:=hlr.cell (i:=tn*3) (by omega)
       have f0:=hlr.frozen (tn*3)
       have d1:=h1.cell (i:=tn*3+1) (by omega)
       have f1:=h1.frozen (tn*3+1)
       have d2:=h2.cell (i:=tn*3+2) htl3
       have f2:=h2.frozen (tn*3+2)
       have d51:=hlr.cell (i:=tn*3+1) (by omega)
       have f51:=hlr.frozen (tn*3+1)
       have d52:=hlr.cell (i:=tn*3+2) htl3
       have f52:=hlr.frozen (tn*3+2)
       have d62:=h1.cell (i:=tn*3+2) htl3
       have f62:=h1.frozen (tn*3+2)
       have HXL:Hid (bx≠lb/\pb≠lb/\qb≠lb):=⟨zaq hbr hlr (by decide),by omega,HQL.out⟩
       have HXS:Hid (bx≠sb/\pb≠sb/\qb≠sb):=⟨zaq hbr hsr (by decide),HPS.out,HQS.out⟩
       have hls:=zaq hlr hsr (by decide)
       have h9:=zgN (x':=T.lx (T.nm i) i (j+1)) hlr (fun v=>Trel.lx_take HTN.out.symm hlab HCD.out ha16 HLT.out v)
       have hB9:=((hB.setCell (p:=⟨lb,tn*3,none⟩) HLB.out.1 (.int .i64 (a1:Nat))).setCell (p:=⟨lb,tn*3+1,none⟩) HLB.out.1 (.int .i64 lv)).setCell (p:=⟨lb,tn*3+2,none⟩) HLB.out.1 (.int .i64 0)
       have hbr9:=((hbr.setOther (a:=⟨lb,tn*3,none⟩) (by simpa using HXL.out.1) (.int .i64 (a1:Nat))).setOther (a:=⟨lb,tn*3+1,none⟩) (by simpa using HXL.out.1) (.int .i64 lv)).setOther (a:=⟨lb,tn*3+2,none⟩) (by simpa using HXL.out.1) (.int .i64 0)
       have hsr9:=((hsr.setOther (a:=⟨lb,tn*3,none⟩) (by simpa using hls.symm) (.int .i64 (a1:Nat))).setOther (a:=⟨lb,tn*3+1,none⟩) (by simpa using hls.symm) (.int .i64 lv)).setOther (a:=⟨lb,tn*3+2,none⟩) (by simpa using hls.symm) (.int .i64 0)
       have b09:=(zaa (p:=⟨lb,tn*3+2,none⟩) (u:=(.int .i64 0)) (zaa (p:=⟨lb,tn*3+1,none⟩) (u:=(.int .i64 lv)) (zaa (p:=⟨lb,tn*3,none⟩) (u:=(.int .i64 (a1:Nat))) b0 HXL.out.1) HXL.out.1) HXL.out.1)
       have c29:=(zaa (p:=⟨lb,tn*3+2,none⟩) (u:=(.int .i64 0)) (zaa (p:=⟨lb,tn*3+1,none⟩) (u:=(.int .i64 lv)) (zaa (p:=⟨lb,tn*3,none⟩) (u:=(.int .i64 (a1:Nat))) c2 HXL.out.2.1) HXL.out.2.1) HXL.out.2.1)
       have q09:=(zaa (p:=⟨lb,tn*3+2,none⟩) (u:=(.int .i64 0)) (zaa (p:=⟨lb,tn*3+1,none⟩) (u:=(.int .i64 lv)) (zaa (p:=⟨lb,tn*3,none⟩) (u:=(.int .i64 (a1:Nat))) q0 HXL.out.2.2) HXL.out.2.2) HXL.out.2.2)
       have q19:=(zaa (p:=⟨lb,tn*3+2,none⟩) (u:=(.int .i64 0)) (zaa (p:=⟨lb,tn*3+1,none⟩) (u:=(.int .i64 lv)) (zaa (p:=⟨lb,tn*3,none⟩) (u:=(.int .i64 (a1:Nat))) q1 HXL.out.2.2) HXL.out.2.2) HXL.out.2.2)
       have q29:=(zaa (p:=⟨lb,tn*3+2,none⟩) (u:=(.int .i64 0)) (zaa (p:=⟨lb,tn*3+1,none⟩) (u:=(.int .i64 lv)) (zaa (p:=⟨lb,tn*3,none⟩) (u:=(.int .i64 (a1:Nat))) q2 HXL.out.2.2) HXL.out.2.2) HXL.out.2.2)
       have H9:=hid h9
       have HB9:=hid hB9
       have HX9:=hid hbr9
       have HS9:=hid hsr9
       have Hb09:=hid b09
       have Hc29:=hid c29
       have Hq09:=hid q09
       have Hq19:=hid q19
       have Hq29:=hid q29
       clear h9 hB9 hbr9 hsr9 h1 h2 hlr hbr hsr hB b09 c29 q09 q19 q29
       go_simp
       clear d0 f0 d1 f1 d2 f2 d51 f51 d52 f52 d62 f62 b0 c2 q0 q1 q2
       obtain ⟨w23,hwN⟩:∃ W,W=((World.setCell w22 ⟨lb,tn*3,none⟩ (.int .i64 (a1:Nat))).setCell ⟨lb,tn*3+1,none⟩ (.int .i64 lv)).setCell ⟨lb,tn*3+2,none⟩ (.int .i64 0):=⟨_,rfl⟩
       have hlr:=H9.out
       have hB:=HB9.out
       have hbr:=HX9.out
       have hsr:=HS9.out
       have b0:=Hb09.out
       have c2:=Hc29.out
       have q0:=Hq09.out
       have q1:=Hq19.out
       have q2:=Hq29.out
       rw [<-hwN] at hlr hB hbr hsr b0 c2 q0 q1 q2 ⊢;clear hwN H9 HB9 HX9 HS9 Hb09 Hc29 Hq09 Hq19 Hq29
       refine bkq hK ⟨b0,c2,q0,q1,q2⟩ (h:=fun hHeld=>?_)
       clear hK K
       refine tkq 9 (h:=?_)
       refine rdq 10 (h:=fun K hK=>?_)
       have h1:=hsr.set tn (.bool true)
       have y0:=hsr.cell htl1
       have y1:=hsr.frozen tn
       have hB9:=hB.setCell (p:=⟨sb,tn,none⟩) HSB.out (.bool true)
       have hl9:=hlr.setOther (a:=⟨sb,tn,none⟩) (by simpa using hls) (.bool true)
       have hb9:=hbr.setOther (a:=⟨sb,tn,none⟩) (by simpa using HXS.out.1) (.bool true)
       have b09:=zaa (p:=⟨sb,tn,none⟩) (u:=(.bool true)) b0 HXS.out.1
       have c29:=zaa (p:=⟨sb,tn,none⟩) (u:=(.bool true)) c2 HXS.out.2.1
       have q09:=zaa (p:=⟨sb,tn,none⟩) (u:=(.bool true)) q0 HXS.out.2.2
       have q19:=zaa (p:=⟨sb,tn,none⟩) (u:=(.bool true)) q1 HXS.out.2.2
       have q29:=zaa (p:=⟨sb,tn,none⟩) (u:=(.bool true)) q2 HXS.out.2.2
       have HS9:=hid h1
       have HB9:=hid hB9
       have HL9:=hid hl9
       have HX9:=hid hb9
       have Hb09:=hid b09
       have Hc29:=hid c29
       have Hq09:=hid q09
       have Hq19:=hid q19
       have Hq29:=hid q29
       clear h1 hB9 hl9 hb9 hlr hbr hsr hB b0 c2 q0 q1 q2 b09 c29 q09 q19 q29
       go_simp
       clear y0 y1
       refine bkq hK ⟨Hb09.out,Hc29.out,Hq09.out,Hq19.out,Hq29.out⟩ (h:=fun hHeld=>?_)
       clear hK K
       refine wpAnyH_done (by kernel_rfl) ?_ _
       clear hHeld
       go_wp2
       go_roundg (gk - 1)
       case measure=>omega
       case rel =>
        refine ⟨j+1,by go_num,by omega,by omega,⟨HL9.out,HX9.out,HS9.out.congr fun v _=>?_⟩,HB9.out⟩
        rw [Trel.sn_take HTN.out.symm hlab HCD.out ha16 HLT.out v]
        by_cases e:v=tn
        ·rw [if_pos e,if_pos e]
        ·rw [if_neg e,if_neg e]
     ·have hltj':¬ (j:Int)<(el:Int):=by omega
      obtain rfl:j=el:=by omega
      obtain ⟨hlr,hbr,hsr⟩:=HLS.out
      rw [HEL.out] at hlr
      have HRS:=hid (HRR.out.of_block (hB.block rb HRR.out.lt))
      have hTab:=HNM.out.on hB
      have b0:=hbr.cell (i:=0) (by omega)
      have HKL:Hid (∀ u v,u<m->v<m->(lessV (T.lx (T.nm i) i (T.el i) u).1 (T.lx (T.nm i) i (T.el i) u).2.1 (T.lx (T.nm i) i (T.el i) v).1 (T.lx (T.nm i) i (T.el i) v).2.1<0↔T.kt (T.nm i) i (T.el i) u<T.kt (T.nm i) i (T.el i) v)):=fun u v hu hv=>HP.out.lx_key hlt u v (by rw [<-HM.out]; exact hu) (by rw [<-HM.out]; exact hv)
      have HKI:Hid (∀ a b,a<m->b<m->T.kt (T.nm i) i (T.el i) a=T.kt (T.nm i) i (T.el i) b->a=b):=fun a b ha hb e=>HP.out.keys hlt a b (by rw [<-HM.out]; exact ha) (by rw [<-HM.out]; exact hb) e
      have HNL:Hid ((T.names (i+1)).length<=1048576):=by show _<=_; rw [T.names_len]; omega
      have HNW2:Hid (T.nrow (i+1)=(List.range m).map fun u=>(((rankOf (T.kt (T.nm i) i (T.el i)) m u:Nat)):Int)):=by
       show T.nrow (i+1)=_
       unfold Trel.nrow
       rw [<-HM.out]
       refine List.map_congr_left fun u _=>?_
       show ((rankOf (T.kt (T.nm i) i (T.el i)) (T.W (i+1)).toNat u:Nat):Int)=_
       rw [<-HM.out]
      obtain ⟨w6,hw6⟩:∃ W,W=wr:=⟨_,rfl⟩
      subst hw6
      have hzb:=HBA.out.size
      have hgb:=hB.size
      have HCB:Hid (CmpB bx m (fun u v=>lessV (T.lx (T.nm i) i (T.el i) u).1 (T.lx (T.nm i) i (T.el i) u).2.1 (T.lx (T.nm i) i (T.el i) v).1 (T.lx (T.nm i) i (T.el i) v).2.1) w6):=fun W hW u v hu hv=>zev bx lb m m (T.lx (T.nm i) i (T.el i)) W (cellS hW b0) (zab hlr hW) u v hu hv
      have HTB:=hid hTab
      have HB6:=hid hB
      clear hsr HLS hTab hlr hbr hB
      go_wp2_with fail
      refine (zgM bx m _ (T.kt (T.nm i) i (T.el i)) w6 HCB.out HKL.out HKI.out hm1 (by omega)).mono ?_
      rintro e w7 ⟨go,rfl,hgo,hgz,kb⟩
      have kb8:Below w7.heap.size w7 (w7.alloc (Obj.cells #[Value.slice (some ⟨go,0,none⟩) m m] 22)):=(Below.refl _ _).alloc (Nat.le_refl _) _
      have hOL:OwnL w7 bs (.slice (some ⟨go,0,none⟩) m m) (T.nrow (i+1)):=by
       rw [HNW2.out]
       exact zft hgo (by omega) (by unfold maxLen; omega)
      have HOL:=hid (hOL.on kb8)
      have hB8:=onS (onS HB6.out kb) kb8
      have hTab:=(HTB.out.on kb).on kb8
      have hBo:=zav HBA.out hB8
      have HT8:=hid hTab
      have HB8:=hid hBo
      have HRS8:=hid ((HRS.out.of_block (kb.block rb HRS.out.lt)).of_block (kb8.block rb (by have:=HRS.out.lt; have:=kb.size; omega)))
      have HC8:Hid ((w7.alloc (Obj.cells #[Value.slice (some ⟨go,0,none⟩) m m] 22)).cell? ((⟨w7.heap.size,0,none⟩:Addr).add 0)=some (.slice (some ⟨go,0,none⟩) m m)):=tbox (Below.refl _ _) rfl
      have HZ8:Hid (bs<=(w7.alloc (Obj.cells #[Value.slice (some ⟨go,0,none⟩) m m] 22)).heap.size):=by show _<=_; have:=hB8.size; omega
      clear hgo hgz kb kb8 hOL hB8 hTab hBo HCB b0
      go_wp2_with (first | (at_builtin; (refine zbX rfl (.tmp 86) (.tmp 91) rfl HT8.out rfl (ad:=⟨w7.heap.size,0,none⟩) (c:=1) rfl HC8.out rfl HOL.out HZ8.out HNL.out ?_); intro v9 w9 o1 o2))
      obtain ⟨RR,hA,_⟩:=HT8.out
      have hne2:=zag HRS8.out hA (by decide)
      have HR9:=hid (HRS8.out.of_block (o2.block rb HRS8.out.lt fun e=>hne2 e.symm))
      have HB9:=hid (HB8.out.grown o2 (by have:=HB8.out.size; simpa using this) fun q e=>by have:=(hA.lt q e).1; omega)
      have hbs9:bs<=w9.heap.size:=Nat.le_trans HZ8.out o2.size
      rw [<-T.names_succ] at o1
      have HT9:=hid o1
      clear hA hne2 o1 o2
      go_wp2
      go_roundg (gI - 1)
      case measure=>omega
      case rel=>exact ⟨i+1,by go_num,by omega,by omega,HT9,HR9,HB9.out,hbs9⟩
   ·have hlt':¬ (i:Int)<(T.n:Int):=by omega
    obtain rfl:i=T.n:=by omega
    obtain ⟨O,oc,hO,hrows⟩:=Trel.names_rows HP.out HNM.out
    injection hO with hO _ hO2
    subst hO hO2
    have HROW:=hid hrows
    have HBW:=hid hB
    clear hrows hB
    go_wp2_with fail
    refine (zgO T A B NA c d ncap wr (HR.out.on hW) HP.out HC.out HROW.out).mono ?_
    rintro e w7 ⟨hb,y,A',B',c',d',rfl,hren,hout⟩
    have hr:=HRR.out.of_block (hb.block rb HRR.out.lt)
    have hB7:=zav HBW.out hb
    have r0:=hr.cell (i:=0) (by omega)
    have r1:=hr.cell (i:=1) (by omega)
    have z0:=hr.frozen 0
    have z1:=hr.frozen 1
    have q0:=hr.set 0 (.slice A' T.nw c')
    have q1:=q0.cell (i:=1) (by omega)
    rw [if_neg (by omega)] at q1
    have q2:=q0.frozen 1
    have q3:=q0.set 1 (.slice B' T.n d')
    have q4:=q3.cell (i:=0) (by omega)
    have q5:=q3.cell (i:=1) (by omega)
    rw [if_neg (by omega),if_pos rfl] at q4
    rw [if_pos rfl] at q5
    have HREN:=hid hren
    have HB7:=hid hB7
    have HOUT:=hid ((hout.setCell (b:=rb) (i:=0) hr (by decide) (by decide) (by decide) (.slice A' T.nw c')).setCell (b:=rb) (i:=1) q0 (by decide) (by decide) (by decide) (.slice B' T.n d'))
    clear hren hout hr q0 q3 hb hB7 p0 p1
    go_wp2
    refine bodyPost_ret (v:=.tuple #[.agg #[.slice A' T.nw c',.slice B' T.n d'],.int .i64 0]) (by simp [results,Tryz.results78, go_sem,q4,q5]) rfl ?_
    refine ⟨(HS.out _ ((HB7.out.setCell (p:=⟨rb,0,none⟩) (by rw [HRB.out]; exact Nat.le_refl _) _).setCell (p:=⟨rb,1,none⟩) (by rw [HRB.out]; exact Nat.le_refl _) _)).2,.inr ⟨HS0.out,_,_,_,_,_,rfl,HREN.out,HOUT.out⟩⟩
 ·obtain ⟨pe,hpe⟩:∃ x,x=T.properE:=⟨_,rfl⟩
  have HPE:=hid hpe
  rw [<-hpe] at hs ⊢;clear hpe
  have hs':(pe != 0)=true:=by simp [hs]
  have r0:=hr5.cell (i:=0) (by omega)
  have r1:=hr5.cell (i:=1) (by omega)
  have z0:=hr5.frozen 0
  have z1:=hr5.frozen 1
  have q0:=hr5.set 0 (.slice none 0 0)
  have q1:=q0.cell (i:=1) (by omega)
  rw [if_neg (by omega)] at q1
  have q2:=q0.frozen 1
  have q3:=q0.set 1 (.slice none 0 0)
  have q4:=q3.cell (i:=0) (by omega)
  have q5:=q3.cell (i:=1) (by omega)
  rw [if_neg (by omega),if_pos rfl] at q4
  rw [if_pos rfl] at q5
  have HB5:=hid hB5
  clear q0 q3 hB5 hr5
  go_wp2
  refine bodyPost_ret (v:=.tuple #[.agg #[.slice none 0 0,.slice none 0 0],.int .i64 pe]) (by simp [results,Tryz.results78, go_sem,q4,q5]) rfl ?_
  refine ⟨(HS.out _ ((HB5.out.setCell (p:=⟨rb,0,none⟩) (by rw [HRB.out]; exact Nat.le_refl _) _).setCell (p:=⟨rb,1,none⟩) (by rw [HRB.out]; exact Nat.le_refl _) _)).2,.inl ⟨by rw [<-HPE.out]; exact hs,by rw [<-HPE.out]⟩⟩
section
variable {H:Type} {enc:TypeId × Value->H} {w:World} {base:Nat} {spare:Nat->Bool} {held:Bool} {cs:List Value}
theorem zhH (h:Sees enc Tryz.prog w base spare held 27 cs) :
  ∃ (P M:Int) (A:Option Addr) (k c:Nat) (N:Int) (T:Option Addr) (n d:Nat) (f:Nat->Int) (ln:Nat->Nat) (V:Nat->Nat->Int),cs=[.int .i64 P,.int .i64 M,.slice A k c,.int .i64 N,.slice T n d] /\
   -9223372036854775808<=N/\N<=9223372036854775807/\k<=c/\c<=maxLen/\n<=d/\d<=maxLen/\IntsR w w.heap.size A k f/\IntRows w T n ln V:=by
 obtain ⟨hl,_⟩:=zcT Tryz.underlying27 h
 match cs,hl.trans (show Tryz.prog.cellsOf 27 = 5 by kernel_rfl) with
 | [c0,c1,c2,c3,c4],_ =>
  have hc:Tryz.prog.cellsOf 3 = 1:=by kernel_rfl
  have hc':Tryz.prog.cellsOf 22 = 1:=by kernel_rfl
  have hct:Tryz.prog.cellsOf 25 = 1:=by kernel_rfl
  have hcf:Tryz.prog.cellsOf 24 = 3:=by kernel_rfl
  have gf:=zcU Tryz.underlying27 h 0 24 0 3 ⟨_,rfl,rfl,rfl⟩ hcf
  have gN:=zcU Tryz.underlying27 h 1 3 3 1 ⟨_,rfl,rfl,rfl⟩ hc
  have gT:=zcU Tryz.underlying27 h 2 25 4 1 ⟨_,rfl,rfl,rfl⟩ hct
  have g0:=zcU Tryz.underlying24 gf 0 3 0 1 ⟨_,rfl,rfl,rfl⟩ hc
  have g1:=zcU Tryz.underlying24 gf 1 3 1 1 ⟨_,rfl,rfl,rfl⟩ hc
  have g2:=zcU Tryz.underlying24 gf 2 22 2 1 ⟨_,rfl,rfl,rfl⟩ hc'
  obtain ⟨P,hP,_⟩:=zcu Tryz.underlying3 g0
  obtain ⟨M,hM,_⟩:=zcu Tryz.underlying3 g1
  obtain ⟨A,k,c,f,hs,k1,k2,hr,_⟩:=zez Tryz.underlying22 Tryz.underlying3 hc g2
  obtain ⟨N,hN,hNw⟩:=zcu Tryz.underlying3 gN
  obtain ⟨T,n,d,ln,V,hT,k3,k4,hrows⟩:=zgU gT
  simp at hP hM hs hN hT
  subst hP hM hs hN hT
  have:=ziK hNw
  exact ⟨P,M,A,k,c,N,T,n,d,f,ln,V,rfl,this.1,this.2,k1,k2,k3,k4,hr,hrows⟩
end
open Go.ChangeShapes Go.WideShapes Go.ChangeAt
theorem Trel.Shape.E0 {T:Trel} (h:T.Shape):T.shapeE=0:=by
 have h1:=h.n64
 have h2:=h.nw
 have h3:=h.sW
 have h4:=h.sE
 unfold Trel.shapeE
 rw [if_neg (by omega),if_neg (by simp only [Decidable.not_not]; exact fun i hi=>h.w1 i (by omega)),if_neg (by rw [h2]; omega),if_neg (by omega),if_neg (by simp only [Decidable.not_not]; exact h.ins)]
theorem Trel.Proper.E0 {T:Trel} (h:T.Proper):T.properE=0:=Trel.properE_ok h.shape.E0 h.w0 h.wn h.sec
theorem ETab.kept {w w':World} {base n:Nat} {v:Value} {el:Nat->Nat} {y:Nat->Nat->Int × Int × Int} (h:ETab w base v n el y) {m:Nat} {z:Value} {f:Nat->Nat->Value} (ho:Own w base 3 1 z m f) (hg:w.grownBy w' z.ownBlock):ETab w' base v n el y:=by
 obtain ⟨R,h1,h2⟩:=h
 exact ⟨R,h1.kept hg (za0 ho h1 (by decide)),fun i hi=>(h2 i hi).kept hg (za0 ho (h2 i hi) (by decide))⟩
theorem ETab.own {w:World} {base n:Nat} {v:Value} {el:Nat->Nat} {y:Nat->Nat->Int × Int × Int} (h:ETab w base v n el y):∃ R:Nat->Value,Own w base 86 1 v n (fun i _=>R i):=⟨h.choose,h.choose_spec.1⟩
def MinPost (P M : Int) (k : Nat) (f : Nat → Int) (N : Int) (n : Nat) (ln : Nat → Nat) (V : Nat → Nat → Int) (w : World) (e : Ending) (w' : World) : Prop :=
  Below w.heap.size w w'/\∃ u,FirstErr (CodeErrs P M k f N n ln V) u/\((u≠0/\e=.returned (.tuple #[.agg #[.slice none 0 0,.slice none 0 0],.int .i64 u])) ∨
    (u = 0 ∧ ∃ P' M' N' : Nat, P = P' ∧ M = M' ∧ N = N' ∧ ∃ pv R, SpanF (P' ^ M') n N' pv R ∧ SameSp (P' ^ M') (addF P' M') (mulF P' M' fun i => (f i).toNat) N' n n (natT V) R ∧ (∀ i j, i < j → j < n → lE (R i) N' ≠ lE (R j) N') ∧
      ((¬ SizeIn (P' ^ M') n N' pv R/\e=.returned (.tuple #[.agg #[.slice none 0 0,.slice none 0 0],.int .i64 8])) ∨
       (SizeIn (P' ^ M') n N' pv R/\∃ T y A B c d,MinT (P' ^ M') (addF P' M') (mulF P' M' fun i=>(f i).toNat) n N' pv R T/\T.Proper/\IsRen T y/\RenOut T y w' A B c d/\e=.returned (.tuple #[.agg #[.slice A T.nw c,.slice B T.n d],.int .i64 0])))))
theorem zfw (P M:Int) (A:Option Addr) (k c:Nat) (f:Nat->Int) (N:Int) (TC:Option Addr) (n d:Nat) (ln:Nat->Nat) (V:Nat->Nat->Int) (w:World) (hr:IntsR w w.heap.size A k f) (h:IntRows w TC n ln V) :
  Calls Tryz.prog 30 #[.agg #[.int .i64 P,.int .i64 M,.slice A k c,.int .i64 N,.slice TC n d]] w (MinPost P M k f N n ln V w):=by
 have HI:=hid hr
 have HT:=hid h
 clear hr h
 have rf0:=zai (w:=w) (a:=.int .i64 P) (b:=.int .i64 M) (c:=.slice A k c) (d:=.int .i64 N) (e:=.slice TC n d) (T := 27)
 have hBa:Below w.heap.size w (w.alloc (.cells #[.int .i64 P,.int .i64 M,.slice A k c,.int .i64 N,.slice TC n d] 27)):=(Below.refl _ _).alloc (Nat.le_refl _) _
 obtain ⟨wa,hwa⟩:∃ W,W=w.alloc (.cells #[.int .i64 P,.int .i64 M,.slice A k c,.int .i64 N,.slice TC n d] 27):=⟨_,rfl⟩
 have hsa:wa.heap.size=w.heap.size+1:=by rw [hwa]; simp
 rw [<-hwa] at hBa rf0
 have rr:(wa.alloc (Obj.cells #[.slice none 0 0,.slice none 0 0] 53)).rowIs wa.heap.size 53 2 (fun _=>.slice none 0 0):=World.rowIs_alloc wa _ _ _ (fun i hi=>by
  match i,hi with
  | 0,_=>rfl
  | 1,_=>rfl)
 have kb:Below wa.heap.size wa (wa.alloc (Obj.cells #[.slice none 0 0,.slice none 0 0] 53)):=(Below.refl _ _).alloc (Nat.le_refl _) _
 obtain ⟨w1,hw1⟩:∃ W,W=wa.alloc (Obj.cells #[.slice none 0 0,.slice none 0 0] 53):=⟨_,rfl⟩
 have hs1:w1.heap.size=w.heap.size+2:=by rw [hw1]; simp [hsa]
 rw [<-hw1] at rr kb
 have rf:=zab rf0 kb
 have hB:=onS hBa kb
 clear kb hBa rf0
 go_enter Tryz.func30, Tryz.ntmps30
 go_upto_region 1 with fail
 rw [<-hwa];rw [<-hw1];rw [hsa] at rr;clear hw1 hwa hsa
 obtain ⟨b0,hb0⟩:∃ b,b=w.heap.size:=⟨_,rfl⟩
 rw [<-hb0] at rf;rw [<-hb0]
 obtain ⟨rb,hrb⟩:∃ b,b=b0+1:=⟨_,rfl⟩
 rw [<-hb0] at rr hs1;rw [<-hrb] at rr ⊢
 have HBB:Hid (b0=w.heap.size/\rb=w.heap.size+1/\w1.heap.size=w.heap.size+2):=hid ⟨hb0,by omega,by omega⟩
 clear hb0 hrb hs1
 have HBOX:Hid (∀ X,Below w1.heap.size w1 X->(X.cell? ⟨b0,0,none⟩=some (.int .i64 P)/\X.cell? ⟨b0,1,none⟩=some (.int .i64 M)/\X.cell? ⟨b0,2,none⟩=some (.slice A k c)/\X.cell? ⟨b0,3,none⟩=some (.int .i64 N)/\X.cell? ⟨b0,4,none⟩=some (.slice TC n d))):=hid fun X hx =>
  ⟨(zab rf hx).cell (i:=0) (by omega),(zab rf hx).cell (i:=1) (by omega),(zab rf hx).cell (i:=2) (by omega),(zab rf hx).cell (i:=3) (by omega),(zab rf hx).cell (i:=4) (by omega)⟩
 have HRR:=hid rr
 have HB:=hid hB
 clear hB rf rr
 obtain ⟨q0,q1,q2,q3,q4⟩:=HBOX.out _ (Below.refl _ _)
 go_wp2_with fail
 refine (zhz P M A k c f N TC n d ln V w1 (HI.out.on HB.out) (HT.out.on HB.out)).mono ?_
 rintro e w2 ⟨kb,u,hu,he⟩
 have HU:=hid hu
 have KB:=hid kb
 clear kb hu q0 q1 q2 q3 q4
 -- the two ways back with nothing
 rcases he with ⟨hu0,rfl⟩ | ⟨rfl,P',M',N',rfl,rfl,rfl,g,F,pv,R,rfl,hg,hTab,hSF,hSP,hDI⟩
 ·have hub:(u != 0)=true:=by simpa using hu0
  have HU0:=hid hu0
  clear hu0
  have hr5:=zab HRR.out KB.out
  have r0:=hr5.cell (i:=0) (by omega)
  have r1:=hr5.cell (i:=1) (by omega)
  have z0:=hr5.frozen 0
  have z1:=hr5.frozen 1
  have p0:=hr5.set 0 (.slice none 0 0)
  have p1:=p0.cell (i:=1) (by omega)
  rw [if_neg (by omega)] at p1
  have p2:=p0.frozen 1
  have p3:=p0.set 1 (.slice none 0 0)
  have p4:=p3.cell (i:=0) (by omega)
  have p5:=p3.cell (i:=1) (by omega)
  rw [if_neg (by omega),if_pos rfl] at p4
  rw [if_pos rfl] at p5;clear p0 p3 hr5
  go_wp2
  refine bodyPost_ret (v:=.tuple #[.agg #[.slice none 0 0,.slice none 0 0],.int .i64 u]) (by simp [results,Tryz.results30, go_sem,p4,p5]) rfl ?_
  have hle:w.heap.size<=rb:=by have:=HBB.out.2.1; omega
  exact ⟨((onS HB.out KB.out).setCell (p:=⟨rb,0,none⟩) hle _).setCell (p:=⟨rb,1,none⟩) hle _,u,HU.out,.inl ⟨HU0.out,rfl⟩⟩
 obtain ⟨P2,M2,N2,e1,e2,e3,hC⟩:=zb5 HI.out HT.out HU.out
 obtain rfl:P'=P2:=by omega
 obtain rfl:M'=M2:=by omega
 obtain rfl:N'=N2:=by omega
 have HC:=hid hC
 have hN64:=hC.ln2
 have hnN:=hC.n_le
 have hok:=hC.fld
 clear hC e1 e2 e3
 have HSF:=hid hSF
 have HSP:=hid hSP
 have HDI:=hid hDI
 have HRW:Hid (IntRows w2 (some ⟨g,0,none⟩) n (fun _=>N') (fun i j=>((R i j:Nat):Int))):=hid (hTab.rows fun v hv j hj=>by
  have h1:=hSF.lt v hv j hj
  have h2:=hok.1.2.2.2
  omega)
 clear hTab hSF hSP hDI hg
 have hub:((0:Int) != 0)=false:=by simp
 obtain ⟨q0,q1,q2,q3,q4⟩:=HBOX.out _ KB.out
 go_wp2_with fail
 refine (zbP (P':Int) (M':Int) A k c f w2 (HI.out.on (onS HB.out KB.out))).mono ?_
 rintro e w3 ⟨kb,hcase⟩
 rcases hcase with ⟨hbad,_⟩ | ⟨_,gf,P2,M2,hP2,hM2,rfl,_,hG⟩
 ·refine absurd ?_ hbad
  rcases HU.out with ⟨_,h9⟩ | ⟨h1,_⟩
  ·cases h9
  ·exact h1
 obtain rfl:P'=P2:=by omega
 obtain rfl:M'=M2:=by omega
 have HG:=hid hG.gf
 replace HRW:=hid (HRW.out.on kb);replace KB:=hid (onS KB.out kb);clear kb q0 q1 q2 q3 q4 hP2 hM2 hG
 obtain ⟨q,hq⟩:∃ q,q=P' ^ M':=⟨_,rfl⟩
 have HQ:=hid hq
 have hq2:2<=q:=by rw [hq]; exact (fieldLaws hok).two
 have hq256:q<=256:=by rw [hq]; exact hok.1.2.2.2
 clear hq
 have HSFq:Hid (SpanF q n N' pv R):=hid (by rw [HQ.out]; exact HSF.out)
 obtain ⟨q0,q1,q2,q3,q4⟩:=HBOX.out _ KB.out
 go_upto_region 5 with fail
 clear q0 q1 q2 q3 q4
 refine wp_region_held_drew (S:=fun X=>(X.cell? ⟨b0,0,none⟩=some (.int .i64 (P':Int))/\X.cell? ⟨b0,1,none⟩=some (.int .i64 (M':Int))/\X.cell? ⟨b0,2,none⟩=some (.slice A k c)/\X.cell? ⟨b0,3,none⟩=some (.int .i64 (N':Int))/\X.cell? ⟨b0,4,none⟩=some (.slice TC n d))) (by kernel_rfl) (HBOX.out _ (onS KB.out (Below.refl _ _).drew)) (fun hHeld=>?_)
 obtain ⟨w4,hw⟩:∃ W,W=World.drew w3:=⟨_,rfl⟩
 have kb:Below w3.heap.size w3 w4:=by rw [hw]; exact (Below.refl _ _).drew
 rw [<-hw] at hHeld ⊢;clear hw
 have K3:=hid kb
 clear kb
 refine tkq 0 (h:=tkq 2 (h:=tkq 3 (h:=tkq 4 (h:=?_))))
 clear hHeld
 refine rdq 1 (h:=fun K hK=>?_)
 go_simp
 go_wp2_with fail
 refine (zeN (HG.out.on K3.out)).mono ?_
 rintro e w5 ⟨he,kb⟩
 rw [<-HQ.out] at he
 subst he
 replace K3:=hid (onS K3.out kb);clear kb
 refine bkq hK (HBOX.out _ (onS KB.out K3.out)) (h:=fun hHeld=>?_)
 clear hK K hHeld
 refine rdq 5 (h:=fun K hK=>?_)
 go_simp
 go_wp2_with fail
 refine (ziE q n N' pv R (some ⟨g,0,none⟩) n w5 (HRW.out.on K3.out) HSFq.out hq2 hq256 (by omega) hN64).mono ?_
 rintro e w6 ⟨hcase,kb⟩
 have hef:∃ ev:Int,e=.returned (.int .i64 ev)/\((SizeIn q n N' pv R/\ev=0)∨(¬ SizeIn q n N' pv R/\ev=8)):=by
  rcases hcase with ⟨h1,h2⟩ | ⟨h1,h2⟩
  ·exact ⟨_,h2,.inl ⟨h1,rfl⟩⟩
  ·exact ⟨_,h2,.inr ⟨h1,rfl⟩⟩
 obtain ⟨ev,rfl,hev⟩:=hef
 have HEV:=hid hev
 replace K3:=hid (onS K3.out kb);clear kb hev hcase
 refine bkq hK (HBOX.out _ (onS KB.out K3.out)) (h:=fun hHeld=>?_)
 clear hK K
 refine tkq 6 (h:=?_)
 refine wpAnyH_done (by kernel_rfl) ?_ _
 clear hHeld
 rcases HEV.out with ⟨hSZ,rfl⟩ | ⟨hSZ,rfl⟩
 rotate_left
 ·have hub8:((8:Int) != 0)=true:=by simp
  have HSZ:Hid (¬ SizeIn (P' ^ M') n N' pv R):=hid (by rw [<-HQ.out]; exact hSZ)
  clear hSZ HEV hok
  have KF:=hid (onS KB.out K3.out)
  have hr5:=zab HRR.out KF.out
  have r0:=hr5.cell (i:=0) (by omega)
  have r1:=hr5.cell (i:=1) (by omega)
  have z0:=hr5.frozen 0
  have z1:=hr5.frozen 1
  have p0:=hr5.set 0 (.slice none 0 0)
  have p1:=p0.cell (i:=1) (by omega)
  rw [if_neg (by omega)] at p1
  have p2:=p0.frozen 1
  have p3:=p0.set 1 (.slice none 0 0)
  have p4:=p3.cell (i:=0) (by omega)
  have p5:=p3.cell (i:=1) (by omega)
  rw [if_neg (by omega),if_pos rfl] at p4
  rw [if_pos rfl] at p5;clear p0 p3 hr5
  go_wp2
  refine bodyPost_ret (v:=.tuple #[.agg #[.slice none 0 0,.slice none 0 0],.int .i64 8]) (by simp [results,Tryz.results30, go_sem,p4,p5]) rfl ?_
  have hle:w.heap.size<=rb:=by have:=HBB.out.2.1; omega
  exact ⟨((onS HB.out KF.out).setCell (p:=⟨rb,0,none⟩) hle _).setCell (p:=⟨rb,1,none⟩) hle _,0,HU.out,.inr ⟨rfl,P',M',N',rfl,rfl,rfl,pv,R,HSF.out,HSP.out,HDI.out,.inl ⟨HSZ.out,rfl⟩⟩⟩
 ·have hub0:((0:Int) != 0)=false:=by simp
  have HSZ:Hid (SizeIn q n N' pv R):=hid hSZ
  clear hSZ HEV hok
  obtain ⟨q0,q1,q2,q3,q4⟩:=HBOX.out _ (onS KB.out K3.out)
  go_upto_region 9 with fail
  clear q0 q1 q2 q3 q4
  obtain ⟨wN,hwN⟩:∃ wN:Nat->Nat,wN=fun i=>q ^ cntB (actA pv R N' i) n:=⟨_,rfl⟩
  obtain ⟨eN,heN⟩:∃ eN:Nat->Nat,eN=fun i=>q ^ cntB (actE pv R N' i) n:=⟨_,rfl⟩
  have HW0:Hid (wN 0=1):=hid (by rw [hwN]; show q ^ cntB (actA pv R N' 0) n=1; rw [zbS zes]; rfl)
  have HWN:=hid hwN
  have HEN:=hid heN
  clear hwN heN
  obtain ⟨bs,hbs⟩:∃ bs,bs=w6.heap.size:=⟨_,rfl⟩
  have HBS:=hid hbs
  have hbs6:bs<=w6.heap.size:=by omega
  clear hbs
  have ho1:=Own.new (w:=w6) (base:=bs) (e := 3) (s:=1) (m:=1) (cap:=1) (cur:=#[.int .i64 1]) (f:=fun k _=>.int .i64 (wN k:Nat)) hbs6 (by omega) (by unfold maxLen; omega) (by simp) (fun k hk j hj=>by
   obtain rfl:k=0:=by omega
   obtain rfl:j=0:=by omega
   rw [HW0.out]
   rfl)
  have kb1:Below w6.heap.size w6 (w6.alloc (Obj.cells #[Value.int .i64 1] 3)):=(Below.refl _ _).alloc (Nat.le_refl _) _
  obtain ⟨wx,hwx⟩:∃ W,W=w6.alloc (Obj.cells #[Value.int .i64 1] 3):=⟨_,rfl⟩
  have hsx:wx.heap.size=w6.heap.size+1:=by rw [hwx]; simp
  rw [<-hwx] at ho1 kb1 ⊢
  have hro:(wx.alloc (Obj.cells #[Value.slice (some ⟨w6.heap.size,0,none⟩) 1 1,Value.slice none 0 0] 53)).rowIs wx.heap.size 53 2 (fun k=>if k=0 then .slice (some ⟨w6.heap.size,0,none⟩) 1 1 else .slice none 0 0):=World.rowIs_alloc wx _ _ _ (fun j hj=>by
   match j,hj with
   | 0,_=>rfl
   | 1,_=>rfl)
  have kb2:Below wx.heap.size wx (wx.alloc (Obj.cells #[Value.slice (some ⟨w6.heap.size,0,none⟩) 1 1,Value.slice none 0 0] 53)):=(Below.refl _ _).alloc (Nat.le_refl _) _
  obtain ⟨w7,hw7⟩:∃ W,W=wx.alloc (Obj.cells #[Value.slice (some ⟨w6.heap.size,0,none⟩) 1 1,Value.slice none 0 0] 53):=⟨_,rfl⟩
  rw [<-hw7] at hro kb2 ⊢;rw [hsx] at hro
  obtain ⟨ob,hob⟩:∃ b,b=w6.heap.size+1:=⟨_,rfl⟩
  rw [<-hob] at hro ⊢
  have HOBL:Hid (w6.heap.size<=ob):=hid (by omega)
  have HRO:=hid hro
  have HOW:=hid (ho1.on kb2)
  have K7:=hid (onS kb1 kb2)
  clear ho1 kb1 kb2 hwx hsx hw7 hob hro
  obtain ⟨q0,q1,q2,q3,q4⟩:=HBOX.out _ (onS KB.out (onS K3.out K7.out))
  go_upto_region 10 with fail
  clear q0 q1 q2 q3 q4
  go_loopg [42] N' (fun gg iv wx=>∃ (i:Nat) (WA EA:Option Addr) (wc ec:Nat) (y:Nat->Nat->Int × Int × Int),iv=.int .i64 (i:Nat)/\i<=N'/\N'<=i+gg/\Hid (wx.rowIs ob 53 2 (fun k=>if k=0 then .slice WA (i+1) wc else .slice EA i ec))/\Hid (Own wx bs 3 1 (.slice WA (i+1) wc) (i+1) (fun k _=>.int .i64 (wN k:Nat)))/\Hid (ETab wx bs (.slice EA i ec) i eN y)/\Hid (∀ j,j<i->SecM (P' ^ M') (addF P' M') (mulF P' M' fun i=>(f i).toNat) n N' pv R j (eN j) (y j))/\Below w6.heap.size w6 wx)
  case atStart=>exact ⟨0,_,_,_,_,fun _ _=>(0,0,0),rfl,by omega,by omega,HRO,HOW,hid (ETab.nil _ _ _ _),hid fun j hj=>absurd hj (by omega),K7.out⟩
  case round =>
   clear HRO HOW K7
   obtain ⟨i,WA,EA,wc,ec,y,rfl,hi,hig,HRO,HOW,HET,HSM,hBx⟩:=hrel
   have hi0:(0:Int)<=(i:Int):=by omega
   have K7:=hid hBx
   obtain ⟨w8,hw8⟩:∃ X,X=wr:=⟨_,rfl⟩
   subst hw8
   clear hBx
   by_cases hin:i<N'
   ·have hin':(i:Int)<(N':Int):=by omega
    have hE:(P' ^ M') ^ cntB (actE pv R N' i) n<=262144:=by
     have h1:=zjd (q:=q) (d:=fun i=>cntB (actE pv R N' i) n) hin
     have h2:=HSZ.out.2
     rw [<-HQ.out]
     exact Nat.le_trans h1 h2
    have HEE:=hid hE
    clear hE
    go_wp2_with fail
    refine (zfv P' M' (fun i=>(f i).toNat) gf n N' i pv R (some ⟨g,0,none⟩) n w8 (HG.out.on (onS K3.out K7.out)) (HRW.out.on (onS K3.out K7.out)) HSF.out (by omega) hN64 hin HEE.out).mono ?_
    rintro e w9 ⟨SA,sm,sc,ys,he,hM,hO,kb⟩
    rw [show (P' ^ M') ^ cntB (actA pv R N' (i+1)) n=wN (i+1) by rw [HWN.out,HQ.out]] at he
    subst he
    have hsm:sm=eN i:=by rw [hM.el,HEN.out,HQ.out]
    subst hsm
    have HSN:=hid hM
    have HON:=hid (hO.mono (base':=bs) (Nat.le_trans hbs6 K7.out.size))
    replace HRO:=hid (zab HRO.out kb);replace HOW:=hid (HOW.out.on kb);replace HET:=hid (HET.out.on kb);replace K7:=hid (onS K7.out kb);clear kb hM hO
    -- the widths
    have y0:=HRO.out.cell (i:=0) (by omega)
    rw [if_pos rfl] at y0
    have kbd:Below w9.heap.size w9 (w9.alloc (Obj.cells #[Value.int .i64 (wN (i+1):Nat)] 3)):=(Below.refl _ _).alloc (Nat.le_refl _) _
    have HW1:=hid (HOW.out.on kbd)
    have HR1:=hid (zab HRO.out kbd)
    have HE1:=hid (HET.out.on kbd)
    have HN1:=hid (HON.out.on kbd)
    have HK1:=hid (onS K7.out kbd)
    have HC:Hid ((w9.alloc (Obj.cells #[Value.int .i64 (wN (i+1):Nat)] 3)).cell? ((⟨w9.heap.size,0,none⟩:Addr).add 0)=some (.int .i64 (wN (i+1):Nat))):=tbox2
    have HZ:Hid (bs<=(w9.alloc (Obj.cells #[Value.int .i64 (wN (i+1):Nat)] 3)).heap.size):=hid (Nat.le_trans hbs6 HK1.out.size)
    have HL:Hid (i+1<=1048576):=hid (by omega)
    have HNE:=hid (zag HR1.out HW1.out (by decide))
    clear kbd HOW HRO HET HON K7
    go_upto_region 14 with (first | (at_builtin; (refine zbd rfl (.tmp 53) (.tmp 55) rfl HW1.out rfl (ad:=⟨w9.heap.size,0,none⟩) (c:=1) rfl HC.out HZ.out HL.out ?_); intro v7 wa o1 o2 o3; obtain ⟨A7,c7,hs7⟩:=o1.shape; subst hs7; have hX7:=HR1.out.of_block (o2.block ob HR1.out.lt fun e=>HNE.out e.symm); have y7:=hX7.cell (i:=0) (by omega); rw [if_pos rfl] at y7; have z7:=hX7.frozen 0))
    have hW2:=o1.setCell (zag hX7 o1 (by decide)) (a:=⟨ob,0,none⟩) (.slice A7 (i+1+1) c7)
    have hE2:=(HE1.out.kept HW1.out o2).setCell (b:=ob) (i:=0) hX7 (by decide) (by decide) (.slice A7 (i+1+1) c7)
    have hN2a:=HN1.out.kept o2 (za0 HW1.out HN1.out (by decide))
    have hN2:=hN2a.setCell (zag hX7 hN2a (by decide)) (a:=⟨ob,0,none⟩) (.slice A7 (i+1+1) c7)
    have hR2:=(hX7.set 0 (.slice A7 (i+1+1) c7)).congr (g:=fun k=>if k=0 then .slice A7 (i+1+1) c7 else .slice EA i ec) fun k hk=>by
     by_cases e:k=0
     ·subst e; rw [if_pos rfl,if_pos rfl]
     ·rw [if_neg e,if_neg e,if_neg e]
    have kb:=(HK1.out.grown o2 HK1.out.size fun b e=>by
     have h1:=(HW1.out.lt _ e).1
     have h2:=HBS.out
     omega).setCell (p:=⟨ob,0,none⟩) HOBL.out (.slice A7 (i+1+1) c7)
    obtain ⟨wb,hwb⟩:∃ X,X=wa.setCell ⟨ob,0,none⟩ (.slice A7 (i+1+1) c7):=⟨_,rfl⟩
    rw [<-hwb] at hW2 hE2 hN2 hR2 kb ⊢
    have HW2:=hid hW2
    have HE2:=hid hE2
    have HN2:=hid hN2
    have HR2:=hid hR2
    have HK2:=hid kb
    clear hW2 hE2 hN2 hR2 kb hwb o1 o2 o3 hX7 y7 z7 hN2a y0 HW1 HR1 HE1 HN1 HK1 HC HZ HNE
    -- the sections
    have y1:=HR2.out.cell (i:=1) (by omega)
    rw [if_neg (by omega)] at y1
    obtain ⟨yn,hyn⟩:∃ yn:Nat->Nat->Int × Int × Int,yn=fun j=>if j=i then ys else y j:=⟨_,rfl⟩
    have HYI:Hid (yn i=ys):=hid (by rw [hyn]; exact if_pos rfl)
    have HYN:Hid (∀ j,j≠i->yn j=y j):=hid fun j hj=>by rw [hyn]; exact if_neg hj
    clear hyn
    have kbd:Below wb.heap.size wb (wb.alloc (Obj.cells #[Value.slice SA (eN i) sc] 86)):=(Below.refl _ _).alloc (Nat.le_refl _) _
    have HW1:=hid (HW2.out.on kbd)
    have HR1:=hid (zab HR2.out kbd)
    have HE1:Hid (ETab (wb.alloc (Obj.cells #[Value.slice SA (eN i) sc] 86)) bs (.slice EA i ec) i eN yn):=hid ((HE2.out.on kbd).congr (fun _ _=>rfl) fun j hj q _=>by rw [HYN.out j (by omega)])
    have HN1:Hid (Own (wb.alloc (Obj.cells #[Value.slice SA (eN i) sc] 86)) bs 90 3 (.slice SA (eN i) sc) (eN i) (edgeCell (yn i))):=hid (by rw [HYI.out]; exact HN2.out.on kbd)
    have HK1:=hid (onS HK2.out kbd)
    have HC:Hid ((wb.alloc (Obj.cells #[Value.slice SA (eN i) sc] 86)).cell? ((⟨wb.heap.size,0,none⟩:Addr).add 0)=some (.slice SA (eN i) sc)):=tbox2
    have HZ:Hid (bs<=(wb.alloc (Obj.cells #[Value.slice SA (eN i) sc] 86)).heap.size):=hid (Nat.le_trans hbs6 HK1.out.size)
    have HL2:Hid (i<=1048576):=hid (by omega)
    obtain ⟨RR,hRR⟩:=HE1.out.own
    have HRR2:=hid hRR
    have HNE:=hid (zag HR1.out hRR (by decide))
    clear kbd HW2 HR2 HE2 HN2 HK2 hRR
    go_upto_region 15 with (first | (at_builtin; (refine zcj rfl (.tmp 59) (.tmp 61) rfl HE1.out rfl (ad:=⟨wb.heap.size,0,none⟩) (c:=1) rfl HC.out rfl HN1.out HZ.out HL2.out ?_); intro v7 wc2 o1 o2; obtain ⟨A8,c8,hs8⟩:=o1.shape; subst hs8; have hX7:=HR1.out.of_block (o2.block ob HR1.out.lt fun e=>HNE.out e.symm); have y7:=hX7.cell (i:=1) (by omega); rw [if_neg (by omega)] at y7; have z7:=hX7.frozen 1))
    have hW2a:=HW1.out.kept o2 (za0 HRR2.out HW1.out (by decide))
    have hW2:=hW2a.setCell (zag hX7 hW2a (by decide)) (a:=⟨ob,1,none⟩) (.slice A8 (i+1) c8)
    have hE2:=o1.setCell (b:=ob) (i:=1) hX7 (by decide) (by decide) (.slice A8 (i+1) c8)
    have hR2:=(hX7.set 1 (.slice A8 (i+1) c8)).congr (g:=fun k=>if k=0 then .slice A7 (i+1+1) c7 else .slice A8 (i+1) c8) fun k hk=>by
     by_cases e:k=0
     ·subst e; rw [if_neg (by omega),if_pos rfl,if_pos rfl]
     ·rw [if_pos (by omega),if_neg e]
    have kb:=(HK1.out.grown o2 HK1.out.size fun b e=>by
     have h1:=(HRR2.out.lt _ e).1
     have h2:=HBS.out
     omega).setCell (p:=⟨ob,1,none⟩) HOBL.out (.slice A8 (i+1) c8)
    obtain ⟨we,hwe⟩:∃ X,X=wc2.setCell ⟨ob,1,none⟩ (.slice A8 (i+1) c8):=⟨_,rfl⟩
    rw [<-hwe] at hW2 hE2 hR2 kb ⊢
    have HW2:=hid hW2
    have HE2:=hid hE2
    have HR2:=hid hR2
    have HK2:=hid kb
    have HSM2:Hid (∀ j,j<i+1->SecM (P' ^ M') (addF P' M') (mulF P' M' fun i=>(f i).toNat) n N' pv R j (eN j) (yn j)):=hid fun j hj=>by
     by_cases e:j=i
     ·subst e; rw [HYI.out]; exact HSN.out
     ·rw [HYN.out j e]; exact HSM.out j (by omega)
    clear hW2 hE2 hR2 kb hwe o1 o2 hX7 y7 z7 hW2a y1 HW1 HR1 HE1 HN1 HK1 HC HZ HNE HSM HSN
    go_wp2
    go_roundg (gk - 1)
    case measure=>omega
    case rel=>exact ⟨i+1,A7,A8,c7,c8,yn,by go_num,by omega,by omega,HR2,HW2,HE2,HSM2,HK2.out⟩
   ·have hin':¬ (i:Int)<(N':Int):=by omega
    obtain rfl:N'=i:=by omega
    have key:∃ T:Trel,T.nw=N'+1/\T.n=N'/\MinT (P' ^ M') (addF P' M') (mulF P' M' fun i=>(f i).toNat) n N' pv R T/\T.Proper/\T.Reads w8 WA EA/\T.nw<=wc:=by
     have hMT:MinT (P' ^ M') (addF P' M') (mulF P' M' fun i=>(f i).toNat) n N' pv R ⟨N'+1,fun k=>((wN k:Nat):Int),N',eN,fun i j=>(y i j).1,fun i j=>(y i j).2.1,fun i j=>(y i j).2.2⟩ :=
      ⟨rfl,rfl,fun i _=>by show ((wN i:Nat):Int)=_; rw [HWN.out,<-HQ.out],fun i _=>by show eN i=_; rw [HEN.out,<-HQ.out],fun i h c hc=>(HSM.out i h).out c hc,fun i h j hj=>(HSM.out i h).inn j hj,fun i h a b hab hb=>(HSM.out i h).srt a b hab hb⟩
     have hPR:=hMT.proper_in (fieldLaws HC.out.fld) HC.out.fld.1.2.2.2 hN64 (by rw [<-HQ.out]; exact HSZ.out)
     have hin64:∀ i,i<N'->∀ j,j<eN i->InI64 (y i j).1/\InI64 (y i j).2.1/\InI64 (y i j).2.2:=fun i h j hj=>by
      have h1:=hPR.shape.ins i h j hj
      have h2:=hPR.lbL h hj
      have h3:=hPR.shape.wid (i:=i) (Nat.le_of_lt h)
      have h4:=hPR.shape.wid (i:=i+1) h
      unfold Trel.inside at h1
      unfold InI64
      have h1:0<=(y i j).1/\(y i j).1<((wN i:Nat):Int)/\0<=(y i j).2.2/\(y i j).2.2<((wN (i+1):Nat):Int):=h1
      have h2:(y i j).2.1.toNat<256/\(((y i j).2.1.toNat:Nat):Int)=(y i j).2.1:=h2
      have h3:1<=((wN i:Nat):Int)/\((wN i:Nat):Int)<=65536:=h3
      have h4:1<=((wN (i+1):Nat):Int)/\((wN (i+1):Nat):Int)<=65536:=h4
      omega
     obtain ⟨A2,B2,c2,d2,hv1,hv2,hrd,hc1,_⟩:=ETab.reads (T:=⟨N'+1,fun k=>((wN k:Nat):Int),N',eN,fun i j=>(y i j).1,fun i j=>(y i j).2.1,fun i j=>(y i j).2.2⟩) HET.out HOW.out (fun i h=>by
       have h1:=hPR.shape.wid (i:=i) (by have h:i<N'+1:=h; show i<=N'; omega)
       have h1:1<=((wN i:Nat):Int)/\((wN i:Nat):Int)<=65536:=h1
       show InI64 ((wN i:Nat):Int)
       unfold InI64
       omega) hin64 (by show N'+1<=_; omega) (by show N'<=_; omega) (fun i h=>by
       have h1:=hPR.shape.elb (i:=i) h
       have h1:eN i<=262144:=h1
       show eN i<=_
       omega)
     injection hv1 with e1 _ e3
     injection hv2 with e4 _ _
     subst e1 e3 e4
     exact ⟨_,rfl,rfl,hMT,hPR,hrd,hc1⟩
    obtain ⟨T,hTw,hTn,hMT,hPR,hRD,hWC⟩:=key
    have HMT:=hid hMT
    have HPR:=hid hPR
    have y0:=HRO.out.cell (i:=0) (by omega)
    rw [if_pos rfl] at y0
    have y1:=HRO.out.cell (i:=1) (by omega)
    rw [if_neg (by omega)] at y1
    have hren:=zhG T WA EA wc ec w8 hRD hWC
    rw [hTw,hTn] at hren
    have HREN:=hid hren
    clear hMT hPR hRD hWC hren
    go_wp2_with fail
    clear y0 y1
    refine HREN.out.mono ?_
    rintro e w9 ⟨kb,hcase⟩
    have KF:=hid (onS KB.out (onS K3.out (onS K7.out kb)))
    clear kb
    rcases hcase with ⟨h0,_⟩ | ⟨_,y2,A',B',c',d',rfl,hre,hout⟩
    ·exact absurd HPR.out.E0 h0
    rw [hTw,hTn]
    have hr:=zab HRR.out KF.out
    have r0:=hr.cell (i:=0) (by omega)
    have r1:=hr.cell (i:=1) (by omega)
    have z0:=hr.frozen 0
    have z1:=hr.frozen 1
    have p0:=hr.set 0 (.slice A' (N'+1) c')
    have p1:=p0.cell (i:=1) (by omega)
    rw [if_neg (by omega)] at p1
    have p2:=p0.frozen 1
    have p3:=p0.set 1 (.slice B' N' d')
    have p4:=p3.cell (i:=0) (by omega)
    have p5:=p3.cell (i:=1) (by omega)
    rw [if_neg (by omega),if_pos rfl] at p4
    rw [if_pos rfl] at p5
    have HRE:=hid hre
    have HOUT:=hid ((hout.setCell (b:=rb) (i:=0) hr (by decide) (by decide) (by decide) (.slice A' (N'+1) c')).setCell (b:=rb) (i:=1) p0 (by decide) (by decide) (by decide) (.slice B' N' d'))
    clear hre hout hr p0 p3
    go_wp2
    refine bodyPost_ret (v:=.tuple #[.agg #[.slice A' (N'+1) c',.slice B' N' d'],.int .i64 0]) (by simp [results,Tryz.results30, go_sem,p4,p5]) rfl ?_
    have hle:w.heap.size<=rb:=by have:=HBB.out.2.1; omega
    exact ⟨((onS HB.out KF.out).setCell (p:=⟨rb,0,none⟩) hle _).setCell (p:=⟨rb,1,none⟩) hle _,0,HU.out,.inr ⟨rfl,P',M',N',rfl,rfl,rfl,pv,R,HSF.out,HSP.out,HDI.out,.inr ⟨by rw [<-HQ.out]; exact HSZ.out,T,y2,A',B',c',d',HMT.out,HPR.out,HRE.out,HOUT.out,by rw [hTw,hTn]⟩⟩⟩
theorem ze6 (q m most:Nat) (A:Option Addr) (c:Nat) (d:Nat->Int) (w:World) (h:IntsR w w.heap.size A m d) (hq:2<=q) (hq2:q<=256) (hm:m<=1048576) (hd:∀ i,i<m->d i<=1048576) (ho1:1<=most) (ho:most<=1048576) :
  Calls Tryz.prog 85 #[.int .i64 (q:Nat),.slice A m c,.int .i64 (most:Nat)] w fun e w'=>e=.returned (.int .i64 (min (powS q (fun i=>(d i).toNat) m) (most+1):Nat))/\Below w.heap.size w w':=by
 have HA:=hid h
 have HD:=hid hd
 clear h hd
 go_enter Tryz.func85, Tryz.ntmps85
 go_upto_region 3 with fail
 go_loopg [7,8] m (fun gg sv iv wx=>∃ i s:Nat,iv=.int .i64 (i:Nat)/\sv=.int .i64 (s:Nat)/\i<=m/\m<=i+gg/\Hid (s=min (powS q (fun i=>(d i).toNat) i) (most+1))/\s<=most+1/\Below w.heap.size w wx)
 case atStart=>exact ⟨0,0,rfl,rfl,by omega,by omega,hid (by show 0=min 0 (most+1); omega),by omega,Below.refl _ _⟩
 case round =>
  obtain ⟨i,s,rfl,rfl,hi,hig,HS,hs,hBx⟩:=hrel
  have hi0:(0:Int)<=(i:Int):=by omega
  have HB:=hid hBx
  obtain ⟨w3,hw3⟩:∃ X,X=wr:=⟨_,rfl⟩
  subst hw3
  clear hBx
  by_cases hlt:i<m
  ·have hlt':(i:Int)<(m:Int):=by omega
   obtain ⟨E,hE⟩:∃ E,E=d i:=⟨_,rfl⟩
   obtain ⟨D,hD⟩:∃ D,D=E.toNat:=⟨_,rfl⟩
   have hEl:E<=1048576:=by rw [hE]; exact HD.out i hlt
   have hDl:D<=1048576:=by omega
   have HDE:=hid hE
   have HDD:Hid (D=(d i).toNat):=hid (by rw [hD,hE])
   have hkE:∀ k:Nat,k<D↔(k:Int)<E:=fun k=>by omega
   have HKE:=hid hkE
   clear hD hE hkE
   obtain ⟨gO,hgO⟩:∃ x,x=gk:=⟨_,rfl⟩
   subst hgO
   go_upto_region 7 with fail
   go_loopg [9,10] D (fun gg pv kv wx=>∃ k p:Nat,kv=.int .i64 (k:Nat)/\pv=.int .i64 (p:Nat)/\k<=D/\D<=k+gg/\Hid (p=q ^ k)/\p<=most*256/\Below w.heap.size w wx)
   case atStart=>exact ⟨0,1,rfl,rfl,by omega,by omega,hid rfl,by omega,HB.out⟩
   case round =>
    clear HB
    obtain ⟨k,p,rfl,rfl,hk,hkg,HP,hp,hBx⟩:=hrel
    have HB:=hid hBx
    obtain ⟨w4,hw4⟩:∃ X,X=wr:=⟨_,rfl⟩
    subst hw4
    clear hBx
    obtain ⟨b,o,hAe,hb,e0⟩:=(HA.out.on HB.out).at hlt
    rw [<-HDE.out] at e0
    subst hAe
    have fin:∀ p2:Nat,p2=p->(p=q ^ D∨most<p/\p<=q ^ D)->∃ s2:Nat,(min ((s:Int)+(p:Int)) ((most:Int)+1)=(s2:Int))/\s2<=most+1/\Hid (s2=min (powS q (fun i=>(d i).toNat) (i+1)) (most+1)):=fun p2 _ hpp=>by
     refine ⟨min (s+p) (most+1),by omega,by omega,hid ?_⟩
     have h1:=HS.out
     have h2:powS q (fun i=>(d i).toNat) (i+1)=powS q (fun i=>(d i).toNat) i+q ^ D:=by rw [HDD.out]; rfl
     rw [h2]
     omega
    by_cases hkD:k<D
    ·have hkD':(k:Int)<E:=(HKE.out k).1 hkD
     have hkd:decide ((k:Int)<E)=true:=by simp; omega
     by_cases hpm:p<=most
     ·have hpm':(p:Int)<=(most:Int):=by omega
      have hpd:decide ((p:Int)<=(most:Int))=true:=by simp; omega
      have h2:p*q<=most*256:=Nat.mul_le_mul hpm hq2
      have hb1:most*256<=1048576*256:=Nat.mul_le_mul_right _ ho
      obtain ⟨z,hz⟩:∃ z,z=p*q:=⟨_,rfl⟩
      have hz2:(p:Int)*(q:Int)=(z:Int):=by rw [hz]; push_cast; rfl
      have HZ:Hid (z=q ^ (k+1)):=hid (by rw [hz,Nat.pow_succ,<-HP.out])
      rw [<-hz] at h2
      have hzb0:0<=(p:Int)*(q:Int):=by rw [hz2]; omega
      have hzb:(p:Int)*(q:Int)<=268435456:=by rw [hz2]; omega
      clear hz fin
      go_wp2
      go_roundg (gk - 1)
      case measure=>omega
      case rel=>exact ⟨k+1,z,by go_num,rfl,by omega,by omega,HZ,by omega,HB.out⟩
     ·have hpm':¬ (p:Int)<=(most:Int):=by omega
      have hpd:decide ((p:Int)<=(most:Int))=false:=by simp; omega
      obtain ⟨s2,hs2,hs2l,HS2⟩:=fin p rfl (.inr ⟨by omega,by rw [HP.out]; exact Nat.pow_le_pow_right (by omega) hk⟩)
      have hb1:most*256<=1048576*256:=Nat.mul_le_mul_right _ ho
      clear fin
      go_wp2
      all_goals
       go_roundg (gO - 1)
       case measure=>omega
       case rel=>exact ⟨i+1,s2,by go_num,(by first | (congr 1; omega) | (congr 1)),by omega,by omega,HS2,by omega,HB.out⟩
    ·have hkD':¬ (k:Int)<E:=fun g=>hkD ((HKE.out k).2 g)
     have hkd:decide ((k:Int)<E)=false:=by simp; omega
     obtain rfl:k=D:=by omega
     obtain ⟨s2,hs2,hs2l,HS2⟩:=fin p rfl (.inl HP.out)
     have hb1:most*256<=1048576*256:=Nat.mul_le_mul_right _ ho
     clear fin
     go_wp2
     all_goals
      go_roundg (gO - 1)
      case measure=>omega
      case rel=>exact ⟨i+1,s2,by go_num,(by first | (congr 1; omega) | (congr 1)),by omega,by omega,HS2,by omega,HB.out⟩
  ·have hlt':¬ (i:Int)<(m:Int):=by omega
   obtain rfl:i=m:=by omega
   go_wp2
   go_ret
   exact ⟨by rw [<-HS.out]; rfl,HB.out⟩
def RanksSec (q:Nat) (add mul:Nat->Nat->Nat) (n N:Nat) (V:Nat->Nat->Nat) (t:Nat) (ra rb:Nat->Nat):Prop:=∀ i,i<t->RankIs q add mul n V 0 (i+1) (ra i)/\RankIs q add mul n V i (N - i) (rb i)
def SecsPost (q:Nat) (add mul:Nat->Nat->Nat) (n N:Nat) (V:Nat->Nat->Nat) (w:World) (e:Ending) (w':World):Prop :=
 ∃ g ra rb,e=.returned (.slice (some ⟨g,0,none⟩) (N) (N))/\w.heap.size<=g/\w'.rowIs g 3 (N) (fun i=>.int .i64 (((ra i+rb i:Nat):Int) - (n:Nat)))/\RanksSec q add mul n N V (N) ra rb/\Below w.heap.size w w'
theorem zgP (P M:Nat) (m:Nat->Nat) (A:Option Addr) (k c N:Nat) (T:Option Addr) (n d:Nat) (V:Nat->Nat->Nat) (w:World) (h:CodeR w P M m A k N T n V) :
  Calls Tryz.prog 86 #[.agg #[.int .i64 (P:Nat),.int .i64 (M:Nat),.slice A k c,.int .i64 (N:Nat),.slice T n d]] w (SecsPost (P ^ M) (addF P M) (mulF P M m) n N V w):=by
 have HC:=hid h
 have hN64:=h.ln2
 have hnN:=h.n_le
 clear h
 have rf:=zai (w:=w) (a:=.int .i64 (P:Nat)) (b:=.int .i64 (M:Nat)) (c:=.slice A k c) (d:=.int .i64 (N:Nat)) (e:=.slice T n d) (T := 27)
 have hB:Below w.heap.size w (w.alloc (.cells #[.int .i64 (P:Nat),.int .i64 (M:Nat),.slice A k c,.int .i64 (N:Nat),.slice T n d] 27)):=(Below.refl _ _).alloc (Nat.le_refl _) _
 obtain ⟨w1,hw1⟩:∃ W,W=w.alloc (.cells #[.int .i64 (P:Nat),.int .i64 (M:Nat),.slice A k c,.int .i64 (N:Nat),.slice T n d] 27):=⟨_,rfl⟩
 rw [<-hw1] at hB rf
 have hmk:=fun W=>zah (P:=Tryz.prog) 22 3 _ 8 Tryz.underlying22 Tryz.infoInt rfl (N:Int) (by omega) (by omega) (by omega) W
 simp only [Int.toNat_natCast] at hmk
 go_enter Tryz.func86, Tryz.ntmps86
 go_upto_region 1 with fail
 rw [<-hw1];clear hw1
 obtain ⟨b0,hb0⟩:∃ b,b=w.heap.size:=⟨_,rfl⟩
 rw [<-hb0] at rf;rw [<-hb0];clear hb0
 have HBOX:Hid (∀ X,Below w1.heap.size w1 X->(X.cell? ⟨b0,0,none⟩=some (.int .i64 (P:Nat))/\X.cell? ⟨b0,1,none⟩=some (.int .i64 (M:Nat))/\X.cell? ⟨b0,2,none⟩=some (.slice A k c)/\X.cell? ⟨b0,3,none⟩=some (.int .i64 (N:Nat))/\X.cell? ⟨b0,4,none⟩=some (.slice T n d))):=hid fun X hx =>
  ⟨(zab rf hx).cell (i:=0) (by omega),(zab rf hx).cell (i:=1) (by omega),(zab rf hx).cell (i:=2) (by omega),(zab rf hx).cell (i:=3) (by omega),(zab rf hx).cell (i:=4) (by omega)⟩
 have HB:=hid hB
 have HB0L:Hid (b0<w1.heap.size):=hid rf.lt
 clear hB rf
 obtain ⟨q0,q1,q2,q3,q4⟩:=HBOX.out _ (Below.refl _ _)
 go_upto_region 2 with fail
 clear q0 q1 q2 q3 q4
 have rz:World.rowIs (World.alloc w1 (Obj.cells (madeCells #[Value.int .i64 0] (N)) 3)) w1.heap.size 3 (N) (fun _=>.int .i64 0):=World.rowIs_made _ (.int .i64 0) (N) 3
 have kb:Below w1.heap.size w1 (World.alloc w1 (Obj.cells (madeCells #[Value.int .i64 0] (N)) 3)):=(Below.refl _ _).alloc (Nat.le_refl _) _
 obtain ⟨w2,hw2⟩:∃ W,W=World.alloc w1 (Obj.cells (madeCells #[Value.int .i64 0] (N)) 3):=⟨_,rfl⟩
 rw [<-hw2] at rz kb ⊢
 obtain ⟨go,hgo⟩:∃ g,g=w1.heap.size:=⟨_,rfl⟩
 have hgoB:w.heap.size<=go:=by rw [hgo]; exact HB.out.size
 have HGO:=hid hgo
 rw [<-hgo] at rz ⊢
 have K2:=hid kb
 clear kb hw2 hgo hmk
 go_upto_region 3 with fail
 go_loopg [4] (N) (fun gg iv wx=>∃ (i:Nat) (ra rb:Nat->Nat),iv=.int .i64 (i:Nat)/\i<=N/\N<=i+gg/\Hid (RanksSec (P ^ M) (addF P M) (mulF P M m) n N V i ra rb)/\Hid (wx.rowIs go 3 (N) (fun t=>.int .i64 (if t<i then ((ra t+rb t:Nat):Int) - (n:Nat) else 0)))/\Below w1.heap.size w1 wx)
 case atStart=>exact ⟨0,fun _=>0,fun _=>0,rfl,by omega,by omega,hid fun _ h=>absurd h (by omega),rz.congr fun t _=>by rw [if_neg (by omega)],K2.out⟩
 case round =>
  clear rz K2
  obtain ⟨i,ra,rb,rfl,hi,hig,HRK,HROW,hBx⟩:=hrel
  have hi0:(0:Int)<=(i:Int):=by omega
  have K2:=hid hBx
  obtain ⟨w3,hw3⟩:∃ X,X=wr:=⟨_,rfl⟩
  subst hw3
  clear hBx
  by_cases hin:i<N
  ·have hin':(i:Int)<(N:Int):=by omega
   have hi1w:wrap64 ((i:Int)+1)=((i+1:Nat):Int):=by unfold wrap64; omega
   have hi1x:IntKind.i64.wrap ((i:Int)+1)=((i+1:Nat):Int):=by rw [IntWalk.i64_in _ (by omega)]; omega
   obtain ⟨q0,q1,q2,q3,q4⟩:=HBOX.out _ K2.out
   go_upto_region 5 with fail
   clear q0 q1 q2 q3 q4
   refine wp_region_held_drew (S:=fun X=>(X.cell? ⟨b0,0,none⟩=some (.int .i64 (P:Nat))/\X.cell? ⟨b0,1,none⟩=some (.int .i64 (M:Nat))/\X.cell? ⟨b0,2,none⟩=some (.slice A k c)/\X.cell? ⟨b0,3,none⟩=some (.int .i64 (N:Nat))/\X.cell? ⟨b0,4,none⟩=some (.slice T n d))) (by kernel_rfl) (HBOX.out _ (onS K2.out (Below.refl _ _).drew)) (fun hHeld=>?_)
   obtain ⟨w4,hw⟩:∃ W,W=World.drew w3:=⟨_,rfl⟩
   have kb:Below w3.heap.size w3 w4:=by rw [hw]; exact (Below.refl _ _).drew
   rw [<-hw] at hHeld ⊢;clear hw
   have K3:=hid kb
   clear kb
   refine tkq 0 (h:=tkq 1 (h:=tkq 2 (h:=tkq 3 (h:=tkq 4 (h:=tkq 6 (h:=tkq 7 (h:=tkq 8 (h:=tkq 9 (h:=tkq 12 (h:=tkq 13 (h:=tkq 14 (h:=?_))))))))))))
   clear hHeld hi1w hi1x
   refine rdq 5 (h:=fun K hK=>?_)
   go_simp
   go_wp2_with fail
   refine (zbQ P M m A k c N T n d V 0 (i+1) w4 (HC.out.on (onS HB.out (onS K2.out K3.out))) (Nat.zero_le _) hin).mono ?_
   rintro e w5 ⟨a,rfl,ha,kb⟩
   have HRA:=hid ha
   have han:=ha.le
   replace K3:=hid (onS K3.out kb);clear kb ha
   refine bkq hK (HBOX.out _ (onS K2.out K3.out)) (h:=fun hHeld=>?_)
   clear hK K hHeld
   refine rdq 10 (h:=fun K hK=>?_)
   go_simp
   go_wp2_with fail
   refine (zbQ P M m A k c N T n d V i N w5 (HC.out.on (onS HB.out (onS K2.out K3.out))) (Nat.le_of_lt hin) (Nat.le_refl _)).mono ?_
   rintro e w6 ⟨b,rfl,hb,kb⟩
   have HRB:=hid hb
   have hbn:=hb.le
   replace K3:=hid (onS K3.out kb);clear kb hb
   refine bkq hK (HBOX.out _ (onS K2.out K3.out)) (h:=fun hHeld=>?_)
   clear hK K
   have hs1:wrap64 ((a:Int)+(b:Int))=(a:Int)+(b:Int):=by unfold wrap64; omega
   have hs2:IntKind.i64.wrap ((a:Int)+(b:Int))=(a:Int)+(b:Int):=IntWalk.i64_in _ (by omega)
   obtain ⟨z,hz⟩:∃ z:Int,z=((a+b:Nat):Int) - (n:Nat):=⟨_,rfl⟩
   have hs3:wrap64 ((a:Int)+(b:Int) - (n:Int))=z:=by unfold wrap64; omega
   have hs4:IntKind.i64.wrap ((a:Int)+(b:Int) - (n:Int))=z:=by rw [IntWalk.i64_in _ (by omega)]; omega
   have hN1:(i:Int)<((N:Nat):Int):=by omega
   have HZ:=hid hz
   clear hz
   refine tkq 11 (h:=tkq 15 (h:=tkq 16 (h:=?_)))
   clear hHeld hs1 hs2 hs3 hs4
   refine rdq 17 (h:=fun K hK=>?_)
   have u0:=(zab HROW.out K3.out).cell (i:=i) (by omega)
   have u1:=(zab HROW.out K3.out).frozen i
   go_simp
   clear u0 u1
   have hrow2:=(zab HROW.out K3.out).set i (.int .i64 z)
   have kb:=(onS K2.out K3.out).setCell (p:=⟨go,i,none⟩) (by show _<=go; rw [HGO.out]; exact Nat.le_refl _) (.int .i64 z)
   have hb0:=HBOX.out _ (onS K2.out K3.out)
   have hne:b0≠go:=by rw [HGO.out]; exact Nat.ne_of_lt HB0L.out
   obtain ⟨a0,a1,a2,a3,a4⟩:=hb0
   replace a0:=zaa (p:=⟨go,i,none⟩) (u:=.int .i64 z) a0 hne;replace a1:=zaa (p:=⟨go,i,none⟩) (u:=.int .i64 z) a1 hne;replace a2:=zaa (p:=⟨go,i,none⟩) (u:=.int .i64 z) a2 hne;replace a3:=zaa (p:=⟨go,i,none⟩) (u:=.int .i64 z) a3 hne;replace a4:=zaa (p:=⟨go,i,none⟩) (u:=.int .i64 z) a4 hne
   obtain ⟨w7,hw⟩:∃ W,W=w6.setCell ⟨go,i,none⟩ (.int .i64 z):=⟨_,rfl⟩
   rw [<-hw] at hrow2 kb a0 a1 a2 a3 a4 ⊢
   have HROW2:Hid (w7.rowIs go 3 (N) (fun t=>.int .i64 (if t<i+1 then (((if t=i then a else ra t)+(if t=i then b else rb t):Nat):Int) - (n:Nat) else 0))):=hid (hrow2.congr fun t _=>by
    by_cases et:t=i
    ·rw [if_pos et,if_pos (by omega),if_pos et,if_pos et,HZ.out]
    ·have h1:(t<i)↔(t<i+1):=by omega
     rw [if_neg et,if_neg et,if_neg et]
     simp only [h1])
   have HRK2:Hid (RanksSec (P ^ M) (addF P M) (mulF P M m) n N V (i+1) (fun t=>if t=i then a else ra t) (fun t=>if t=i then b else rb t)):=hid fun t ht=>by
    by_cases et:t=i
    ·subst et
     simp only [if_true]
     exact ⟨HRA.out,HRB.out⟩
    ·simp only [if_neg et]
     exact HRK.out t (by omega)
   have K9:=hid kb
   clear hrow2 kb hw hne
   refine bkq hK ⟨a0,a1,a2,a3,a4⟩ (h:=fun hHeld=>?_)
   clear hK K a0 a1 a2 a3 a4
   refine wpAnyH_done (by kernel_rfl) ?_ _
   clear hHeld
   go_wp2
   go_roundg (gk - 1)
   case measure=>omega
   case rel=>exact ⟨i+1,_,_,by go_num,by omega,by omega,HRK2,HROW2,K9.out⟩
  ·have hin':¬ (i:Int)<(N:Int):=by omega
   obtain rfl:i=N:=by omega
   obtain ⟨q0,q1,q2,q3,q4⟩:=HBOX.out _ K2.out
   have HF:Hid (w3.rowIs go 3 (i) (fun t=>.int .i64 (((ra t+rb t:Nat):Int) - (n:Nat)))):=hid (HROW.out.congr fun t ht=>by rw [if_pos ht])
   go_wp2
   go_ret
   exact ⟨go,ra,rb,rfl,hgoB,HF.out,HRK.out,onS HB.out K2.out⟩
def ProfIs (q:Nat) (add mul:Nat->Nat->Nat) (n N:Nat) (V:Nat->Nat->Nat) (pr:Nat->Nat):Prop:=∀ i,i<N+1->∃ a b,RankIs q add mul n V 0 i a/\RankIs q add mul n V i (N - i) b/\pr i=a+b - n
def SecsIs (q:Nat) (add mul:Nat->Nat->Nat) (n N:Nat) (V:Nat->Nat->Nat) (se:Nat->Nat):Prop:=∀ i,i<N->∃ a b,RankIs q add mul n V 0 (i+1) a/\RankIs q add mul n V i (N - i) b/\se i=a+b - n
def SizeOk (q N:Nat) (pr se:Nat->Nat):Prop:=powS q pr (N+1)<=65536/\powS q se N<=262144
def Size47Post (P M:Int) (k:Nat) (f:Nat->Int) (N:Int) (n:Nat) (ln:Nat->Nat) (V:Nat->Nat->Int) (w:World) (e:Ending) (w':World):Prop :=
 Below w.heap.size w w'/\∃ u,FirstErr (CodeErrs P M k f N n ln V) u/\((u≠0/\e=.returned (.tuple #[.int .i64 0,.int .i64 u])) ∨
  (u=0/\∃ P' M' N':Nat,P=P'/\M=M'/\N=N'/\∃ pr se:Nat->Nat,ProfIs (P' ^ M') (addF P' M') (mulF P' M' fun i=>(f i).toNat) n N' (natT V) pr/\SecsIs (P' ^ M') (addF P' M') (mulF P' M' fun i=>(f i).toNat) n N' (natT V) se /\
   ((SizeOk (P' ^ M') N' pr se/\e=.returned (.tuple #[.int .i64 (powS (P' ^ M') se N':Nat),.int .i64 0]))∨(¬ SizeOk (P' ^ M') N' pr se/\e=.returned (.tuple #[.int .i64 0,.int .i64 8])))))
theorem zgQ (P M:Int) (A:Option Addr) (k c:Nat) (f:Nat->Int) (N:Int) (TC:Option Addr) (n d:Nat) (ln:Nat->Nat) (V:Nat->Nat->Int) (w:World) (hr:IntsR w w.heap.size A k f) (h:IntRows w TC n ln V) :
  Calls Tryz.prog 33 #[.agg #[.int .i64 P,.int .i64 M,.slice A k c,.int .i64 N,.slice TC n d]] w (Size47Post P M k f N n ln V w):=by
 have HI:=hid hr
 have HT:=hid h
 clear hr h
 have rf:=zai (w:=w) (a:=.int .i64 P) (b:=.int .i64 M) (c:=.slice A k c) (d:=.int .i64 N) (e:=.slice TC n d) (T := 27)
 have hB:Below w.heap.size w (w.alloc (.cells #[.int .i64 P,.int .i64 M,.slice A k c,.int .i64 N,.slice TC n d] 27)):=(Below.refl _ _).alloc (Nat.le_refl _) _
 obtain ⟨w1,hw1⟩:∃ W,W=w.alloc (.cells #[.int .i64 P,.int .i64 M,.slice A k c,.int .i64 N,.slice TC n d] 27):=⟨_,rfl⟩
 rw [<-hw1] at hB rf
 go_enter Tryz.func33, Tryz.ntmps33
 go_upto_region 1 with fail
 rw [<-hw1];clear hw1
 obtain ⟨b0,hb0⟩:∃ b,b=w.heap.size:=⟨_,rfl⟩
 rw [<-hb0] at rf;rw [<-hb0];clear hb0
 have HBOX:Hid (∀ X,Below w1.heap.size w1 X->(X.cell? ⟨b0,0,none⟩=some (.int .i64 P)/\X.cell? ⟨b0,1,none⟩=some (.int .i64 M)/\X.cell? ⟨b0,2,none⟩=some (.slice A k c)/\X.cell? ⟨b0,3,none⟩=some (.int .i64 N)/\X.cell? ⟨b0,4,none⟩=some (.slice TC n d))):=hid fun X hx =>
  ⟨(zab rf hx).cell (i:=0) (by omega),(zab rf hx).cell (i:=1) (by omega),(zab rf hx).cell (i:=2) (by omega),(zab rf hx).cell (i:=3) (by omega),(zab rf hx).cell (i:=4) (by omega)⟩
 have HB:=hid hB
 clear hB rf
 obtain ⟨q0,q1,q2,q3,q4⟩:=HBOX.out _ (Below.refl _ _)
 go_wp2_with fail
 refine (zbz P M A k c f N TC n d ln V w1 (HI.out.on HB.out) (HT.out.on HB.out)).mono ?_
 rintro e w2 ⟨u,rfl,hu,kb⟩
 have HU:=hid hu
 have KB:=hid kb
 clear kb hu q0 q1 q2 q3 q4
 by_cases hu0:u=0
 rotate_left
 ·have hub:(u != 0)=true:=by simpa using hu0
  have HU0:=hid hu0
  clear hu0
  go_wp2
  go_ret2
  exact ⟨onS HB.out KB.out,u,HU.out,.inl ⟨HU0.out,rfl⟩⟩
 subst hu0
 have hub:((0:Int) != 0)=false:=by simp
 obtain ⟨P',M',N',rfl,rfl,rfl,hC⟩:=zb5 HI.out HT.out HU.out
 have HC:=hid hC
 have hN64:=hC.ln2
 have hnN:=hC.n_le
 have hq2:=(fieldLaws hC.fld).two
 have hq256:P' ^ M'<=256:=hC.fld.1.2.2.2
 clear hC
 have HORD:Hid (ordV (P':Int) (M':Int)=((P' ^ M':Nat):Int)):=hid (zbI HC.out.fld.1)
 obtain ⟨q0,q1,q2,q3,q4⟩:=HBOX.out _ KB.out
 go_wp2_with fail
 refine (zbv (P':Int) (M':Int) A k c w2).mono ?_
 rintro e w3 ⟨rfl,kb⟩
 rw [HORD.out]
 obtain ⟨q,hq⟩:∃ q,q=P' ^ M':=⟨_,rfl⟩
 have HQ:=hid hq
 rw [<-hq] at hq2 hq256 ⊢;replace KB:=hid (onS KB.out kb);clear kb q0 q1 q2 q3 q4 hub hq
 obtain ⟨q0,q1,q2,q3,q4⟩:=HBOX.out _ KB.out
 go_wp2_with fail
 refine (zgP P' M' (fun i=>(f i).toNat) A k c N' TC n d (natT V) w3 (HC.out.on (onS HB.out KB.out))).mono ?_
 rintro e w4 ⟨g,ra,rb,rfl,hg,hrow,hrk,kb⟩
 have HSEC:Hid (SecsIs (P' ^ M') (addF P' M') (mulF P' M' fun i=>(f i).toNat) n N' (natT V) fun i=>ra i+rb i - n):=hid fun i hi=>⟨ra i,rb i,(hrk i hi).1,(hrk i hi).2,rfl⟩
 have hbd:∀ i,i<N'->((ra i+rb i:Nat):Int) - (n:Nat)<=1048576:=fun i hi=>by
  have h1:=(hrk i hi).1.le
  have h2:=(hrk i hi).2.le
  omega
 have HBD:=hid hbd
 have HROW:Hid (IntsR w4 w4.heap.size (some ⟨g,0,none⟩) N' (fun i=>((ra i+rb i:Nat):Int) - (n:Nat))):=hid (zaH hrow)
 replace KB:=hid (onS KB.out kb);clear kb hg hrow hrk hbd q0 q1 q2 q3 q4
 go_wp2_with fail
 refine (ze6 q N' 262144 (some ⟨g,0,none⟩) N' _ w4 HROW.out hq2 hq256 (by omega) HBD.out (by omega) (by omega)).mono ?_
 rintro e w5 ⟨rfl,kb⟩
 have hcg:powS q (fun i=>(((ra i+rb i:Nat):Int) - (n:Nat)).toNat) N'=powS q (fun i=>ra i+rb i - n) N':=zcO N' fun i _=>by omega
 rw [hcg]
 obtain ⟨se,hse⟩:∃ se:Nat->Nat,se=fun i=>ra i+rb i - n:=⟨_,rfl⟩
 rw [<-hse] at HSEC ⊢
 obtain ⟨es,hes⟩:∃ es,es=powS q se N':=⟨_,rfl⟩
 rw [<-hes]
 have HES:=hid hes
 obtain ⟨em,hem⟩:∃ em,em=min es (262144+1):=⟨_,rfl⟩
 rw [<-hem]
 have hem1:em<=262145:=by omega
 have hem2:es<=262144->em=es:=fun _=>by omega
 have hem3:¬ es<=262144->262144<em:=fun _=>by omega
 have HEM2:=hid hem2
 have HEM3:=hid hem3
 clear hem hem2 hem3;replace KB:=hid (onS KB.out kb);clear kb hcg hse hes HROW HBD
 obtain ⟨q0,q1,q2,q3,q4⟩:=HBOX.out _ KB.out
 go_wp2_with fail
 refine (zdX P' M' (fun i=>(f i).toNat) A k c N' TC n d (natT V) w5 (HC.out.on (onS HB.out KB.out))).mono ?_
 rintro e w6 ⟨g,ra,rb,rfl,hg,hrow,hrk,kb⟩
 have HPR:Hid (ProfIs (P' ^ M') (addF P' M') (mulF P' M' fun i=>(f i).toNat) n N' (natT V) fun i=>ra i+rb i - n):=hid fun i hi=>⟨ra i,rb i,(hrk i hi).1,(hrk i hi).2,rfl⟩
 have hbd:∀ i,i<N'+1->((ra i+rb i:Nat):Int) - (n:Nat)<=1048576:=fun i hi=>by
  have h1:=(hrk i hi).1.le
  have h2:=(hrk i hi).2.le
  omega
 have HBD:=hid hbd
 have HROW:Hid (IntsR w6 w6.heap.size (some ⟨g,0,none⟩) (N'+1) (fun i=>((ra i+rb i:Nat):Int) - (n:Nat))):=hid (zaH hrow)
 replace KB:=hid (onS KB.out kb);clear kb hg hrow hrk hbd q0 q1 q2 q3 q4
 go_wp2_with fail
 refine (ze6 q (N'+1) 65536 (some ⟨g,0,none⟩) (N'+1) _ w6 HROW.out hq2 hq256 (by omega) HBD.out (by omega) (by omega)).mono ?_
 rintro e w7 ⟨rfl,kb⟩
 have hcg:powS q (fun i=>(((ra i+rb i:Nat):Int) - (n:Nat)).toNat) (N'+1)=powS q (fun i=>ra i+rb i - n) (N'+1):=zcO (N'+1) fun i _=>by omega
 rw [hcg]
 obtain ⟨pr,hpr⟩:∃ pr:Nat->Nat,pr=fun i=>ra i+rb i - n:=⟨_,rfl⟩
 rw [<-hpr] at HPR ⊢
 obtain ⟨ps,hps⟩:∃ ps,ps=powS q pr (N'+1):=⟨_,rfl⟩
 rw [<-hps]
 have HPS:=hid hps
 obtain ⟨pm,hpm⟩:∃ pm,pm=min ps (65536+1):=⟨_,rfl⟩
 rw [<-hpm]
 have hpm1:pm<=65537:=by omega
 have hpm2:ps<=65536->pm<=65536:=fun _=>by omega
 have hpm3:¬ ps<=65536->65536<pm:=fun _=>by omega
 have HPM2:=hid hpm2
 have HPM3:=hid hpm3
 clear hpm hpm2 hpm3;replace KB:=hid (onS KB.out kb);clear kb hcg hpr hps HROW HBD
 have HOKI:Hid (SizeOk (P' ^ M') N' pr se↔ps<=65536/\es<=262144):=hid (by unfold SizeOk; rw [HPS.out,HES.out,<-HQ.out])
 by_cases h1:ps<=65536
 ·have h1p:=HPM2.out h1
  have h1':¬ ((pm:Int) > 65536):=by omega
  have h1d:decide ((pm:Int) > 65536)=false:=by simp; omega
  by_cases h2:es<=262144
  ·have h2p:=HEM2.out h2
   have HEQ:=hid h2p
   have h2q:em<=262144:=by omega
   clear h2p
   have h2':¬ ((em:Int) > 262144):=by omega
   have h2d:decide ((em:Int) > 262144)=false:=by simp; omega
   have HOK:Hid (SizeOk (P' ^ M') N' pr se):=hid (HOKI.out.2 ⟨h1,h2⟩)
   have HEE:Hid (em=powS (P' ^ M') se N'):=hid (by rw [HEQ.out,HES.out,HQ.out])
   go_wp2
   go_ret2
   exact ⟨onS HB.out KB.out,0,HU.out,.inr ⟨rfl,P',M',N',rfl,rfl,rfl,pr,se,HPR.out,HSEC.out,.inl ⟨HOK.out,by rw [<-HEE.out]; rfl⟩⟩⟩
  ·have h2p:=HEM3.out h2
   have h2':(em:Int) > 262144:=by omega
   have h2d:decide ((em:Int) > 262144)=true:=by simp; omega
   have HNO:Hid (¬ SizeOk (P' ^ M') N' pr se):=hid fun g=>h2 (HOKI.out.1 g).2
   go_wp2
   go_ret2
   exact ⟨onS HB.out KB.out,0,HU.out,.inr ⟨rfl,P',M',N',rfl,rfl,rfl,pr,se,HPR.out,HSEC.out,.inr ⟨HNO.out,rfl⟩⟩⟩
 ·have h1p:=HPM3.out h1
  have h1':(pm:Int) > 65536:=by omega
  have h1d:decide ((pm:Int) > 65536)=true:=by simp; omega
  have HNO:Hid (¬ SizeOk (P' ^ M') N' pr se):=hid fun g=>h1 (HOKI.out.1 g).1
  go_wp2
  go_ret2
  exact ⟨onS HB.out KB.out,0,HU.out,.inr ⟨rfl,P',M',N',rfl,rfl,rfl,pr,se,HPR.out,HSEC.out,.inr ⟨HNO.out,rfl⟩⟩⟩
def BigC (P M:Int) (_:Nat) (f:Nat->Int) (N:Int) (n:Nat) (V:Nat->Nat->Int):Prop:=∃ P' M' N':Nat,P=P'/\M=M'/\N=N'/\∃ pr se:Nat->Nat,ProfIs (P' ^ M') (addF P' M') (mulF P' M' fun i=>(f i).toNat) n N' (natT V) pr/\SecsIs (P' ^ M') (addF P' M') (mulF P' M' fun i=>(f i).toNat) n N' (natT V) se/\¬ SizeOk (P' ^ M') N' pr se
def SmallPost (most:Nat) (P M:Int) (k:Nat) (f:Nat->Int) (N:Int) (n:Nat) (ln:Nat->Nat) (V:Nat->Nat->Int) (w:World) (e:Ending) (w':World):Prop :=
 Below w.heap.size w w'/\∃ b:Bool,e=.returned (.bool b)/\(b=true->(¬ FirstErr (CodeErrs P M k f N n ln V) 0)∨(P.toNat ^ M.toNat) ^ n<=most∨BigC P M k f N n V)
theorem zfx (P M:Int) (A:Option Addr) (k c:Nat) (f:Nat->Int) (N:Int) (TC:Option Addr) (n d:Nat) (ln:Nat->Nat) (V:Nat->Nat->Int) (w:World) (hr:IntsR w w.heap.size A k f) (h:IntRows w TC n ln V) :
  Calls Tryz.prog 29 #[.agg #[.int .i64 P,.int .i64 M,.slice A k c,.int .i64 N,.slice TC n d]] w (SmallPost 1024 P M k f N n ln V w):=by
 have HI:=hid hr
 have HT:=hid h
 clear hr h
 have rf:=zai (w:=w) (a:=.int .i64 P) (b:=.int .i64 M) (c:=.slice A k c) (d:=.int .i64 N) (e:=.slice TC n d) (T := 27)
 have hB:Below w.heap.size w (w.alloc (.cells #[.int .i64 P,.int .i64 M,.slice A k c,.int .i64 N,.slice TC n d] 27)):=(Below.refl _ _).alloc (Nat.le_refl _) _
 obtain ⟨w1,hw1⟩:∃ W,W=w.alloc (.cells #[.int .i64 P,.int .i64 M,.slice A k c,.int .i64 N,.slice TC n d] 27):=⟨_,rfl⟩
 rw [<-hw1] at hB rf
 go_enter Tryz.func29, Tryz.ntmps29
 go_upto_region 1 with fail
 rw [<-hw1];clear hw1
 obtain ⟨b0,hb0⟩:∃ b,b=w.heap.size:=⟨_,rfl⟩
 rw [<-hb0] at rf;rw [<-hb0];clear hb0
 have HBOX:Hid (∀ X,Below w1.heap.size w1 X->(X.cell? ⟨b0,0,none⟩=some (.int .i64 P)/\X.cell? ⟨b0,1,none⟩=some (.int .i64 M)/\X.cell? ⟨b0,2,none⟩=some (.slice A k c)/\X.cell? ⟨b0,3,none⟩=some (.int .i64 N)/\X.cell? ⟨b0,4,none⟩=some (.slice TC n d))):=hid fun X hx =>
  ⟨(zab rf hx).cell (i:=0) (by omega),(zab rf hx).cell (i:=1) (by omega),(zab rf hx).cell (i:=2) (by omega),(zab rf hx).cell (i:=3) (by omega),(zab rf hx).cell (i:=4) (by omega)⟩
 have HB:=hid hB
 clear hB rf
 obtain ⟨q0,q1,q2,q3,q4⟩:=HBOX.out _ (Below.refl _ _)
 go_wp2_with fail
 refine (zbz P M A k c f N TC n d ln V w1 (HI.out.on HB.out) (HT.out.on HB.out)).mono ?_
 rintro e w2 ⟨u,rfl,hu,kb⟩
 have HU:=hid hu
 have KB:=hid kb
 clear kb hu q0 q1 q2 q3 q4
 obtain ⟨q0,q1,q2,q3,q4⟩:=HBOX.out _ KB.out
 by_cases hu0:u=0
 rotate_left
 ·have hub:(u != 0)=true:=by simpa using hu0
  have HU0:Hid (¬ FirstErr (CodeErrs P M k f N n ln V) 0):=hid fun h0=>hu0 (FirstErr.unique HU.out h0)
  clear hu0
  go_wp2
  go_ret
  exact ⟨onS HB.out KB.out,true,rfl,fun _=>.inl HU0.out⟩
 subst hu0
 have hub:((0:Int) != 0)=false:=by simp
 go_wp2_with fail
 refine (zfj 1024 P M A k c f N TC n d ln V w2 (HI.out.on (onS HB.out KB.out)) (HT.out.on (onS HB.out KB.out)) (by omega)).mono ?_
 rintro e w3 ⟨v,rfl,hv,kb⟩
 replace KB:=hid (onS KB.out kb);clear kb q0 q1 q2 q3 q4
 by_cases hv0:v > 0
 ·have HC:Hid ((P.toNat ^ M.toNat) ^ n<=1024):=hid (by
   rcases hv with ⟨h1,_⟩ | ⟨_,h2,_⟩
   ·omega
   ·exact h2)
  have hvd:decide (v > 0)=true:=by simp; omega
  clear hv
  go_wp2
  go_ret
  exact ⟨onS HB.out KB.out,true,rfl,fun _=>.inr (.inl HC.out)⟩
 have hvd:decide (v > 0)=false:=by simp; omega
 clear hv
 obtain ⟨q0,q1,q2,q3,q4⟩:=HBOX.out _ KB.out
 go_wp2_with fail
 refine (zgQ P M A k c f N TC n d ln V w3 (HI.out.on (onS HB.out KB.out)) (HT.out.on (onS HB.out KB.out))).mono ?_
 rintro e w4 ⟨kb,u,hu,he⟩
 obtain rfl:u=0:=FirstErr.unique hu HU.out
 replace KB:=hid (onS KB.out kb);clear kb hu q0 q1 q2 q3 q4
 rcases he with ⟨h0,_⟩ | ⟨_,P',M',N',hP,hM,hN,pr,se,h1,h2,⟨h3,rfl⟩ | ⟨h3,rfl⟩⟩
 ·exact absurd rfl h0
 ·have he8:((0:Int) == 8)=false:=by simp
  clear h1 h2 h3 hP hM hN
  go_wp2
  go_ret
  exact ⟨onS HB.out KB.out,false,rfl,fun h=>by cases h⟩
 ·have he8:((8:Int) == 8)=true:=by simp
  have HBG:Hid (BigC P M k f N n V):=hid ⟨P',M',N',hP,hM,hN,pr,se,h1,h2,h3⟩
  clear h1 h2 h3 hP hM hN
  go_wp2
  go_ret
  exact ⟨onS HB.out KB.out,true,rfl,fun _=>.inr (.inr HBG.out)⟩
end Go.Proofs.YtgekjfpapmlndaaGreat