/- Merged texts of a claim: NumRows, Valued, Forward, Paths, FewT. -/
import Derived.Test.YtioagplajkoohaaGreatTQ12
namespace Go.Proofs.YtioagplajkoohaaGreat
set_option maxRecDepth 100000
set_option maxHeartbeats 32000000
open KA KB KC KD KE KF
open Go.RowKit
theorem Tryz.infoNats:(Tryz.prog.info? 107).map (fun i=>(i.zero,i.size,i.bytes))=some (some (.slice none 0 0),1,24):=by kernel_rfl
theorem zaB {w w':World} {g k:Nat} {v:Value} {row:Option Nat} (h:w.cell? ⟨g,k,none⟩=some v) (hg:w.grownBy w' row) (hne:row≠some g):w'.cell? ⟨g,k,none⟩=some v:=by
 have hl:=World.block_lt_of_cell? _ _ h
 have hb:=hg.block g hl (fun e=>hne e.symm)
 rw [<-h]
 simp only [World.cell?,hb]
theorem zb6 {w wr:World} {o1 o2:Obj} (h:Below (w.heap.size+2) ((w.alloc o1).alloc o2) wr):Below w.heap.size w wr:=(((Below.refl w.heap.size w).alloc (Nat.le_refl _) o1).alloc (by simp) o2).trans (h.mono (by omega))
theorem zhQ {w wr:World} {o1 o2:Obj} (h:Below (w.heap.size+2) ((w.alloc o1).alloc o2) wr):w.heap.size+2<=wr.heap.size:=by have:=h.size; simp at this; omega
theorem zfS {w wr w':World} {o1 o2:Obj} (h:Below (w.heap.size+2) ((w.alloc o1).alloc o2) wr) (hb:Below wr.heap.size wr w'):Below (w.heap.size+2) ((w.alloc o1).alloc o2) w':=h.trans (hb.mono (zhQ h))
theorem zai {b:Nat} {w W Y:World} (h:Below b w W) (hl:b<=W.heap.size) (kb:Below W.heap.size W Y):Below b w Y:=h.trans (kb.mono hl)
theorem zbQ {w:World} {g base m:Nat} {x:Nat->Nat->Nat} (h:w.rowIs g 107 m (fun _=>.slice none 0 0)):NumTab w g base m (fun _=>.slice none 0 0) (fun _=>0) x :=
 ⟨h,fun _ _=>NatOwn.nil _ _ _,fun _ _ _ _ _=>.inl rfl⟩
def TabPost (T:Trel) (x:Nat->Nat->Nat) (w:World) (e:Ending) (w':World):Prop :=
 ∃ g F,e=.returned (.slice (some ⟨g,0,none⟩) T.nw T.nw)/\w.heap.size<=g/\NumTab w' g (g+1) T.nw F (fun v=>(T.W v).toNat) x/\Below w.heap.size w w'
theorem zhR (T:Trel) (A B:Option Addr) (c d:Nat) (w:World) (h:T.Reads w A B) (hs:T.Shape) :
  Calls Tryz.prog 231 #[.agg #[],.agg #[.slice A T.nw c,.slice B T.n d]] w (TabPost T (fun _ _=>0) w):=by
 obtain ⟨O1,hO1⟩:∃ o,o=(Obj.cells #[] 201):=⟨_,rfl⟩
 obtain ⟨O2,hO2⟩:∃ o,o=(Obj.cells #[.slice A T.nw c,.slice B T.n d] 74):=⟨_,rfl⟩
 have hB0:Below (w.heap.size+2) ((w.alloc O1).alloc O2) ((w.alloc O1).alloc O2):=Below.refl _ _
 have HS:Hid (∀ w',Below (w.heap.size+2) ((w.alloc O1).alloc O2) w'->(w'.cell? ⟨w.heap.size+1,0,none⟩=some (.slice A T.nw c)/\w'.cell? ⟨w.heap.size+1,1,none⟩=some (.slice B T.n d))/\Below w.heap.size w w'):=fun w' hB=>by
  have hB':=zb6 hB
  subst hO2
  have hr:=zcG hB
  exact ⟨⟨hr.cell (i:=0) (by simp),hr.cell (i:=1) (by simp)⟩,hB'⟩
 obtain ⟨⟨p0,p1⟩,hW⟩:=HS.out _ hB0
 have hn64:=hs.n64
 have hnw:=hs.nw
 have hmk:=fun W=>zaf (P:=Tryz.prog) 196 107 _ 24 Tryz.underlying196 Tryz.infoNats rfl (T.nw:Int) (by omega) (by omega) (by omega) W
 simp only [Int.toNat_natCast] at hmk
 have HR:=hid h
 have HSH:=hid hs
 have hnw65:T.nw<=65:=by omega
 clear h hs hnw
 go_enter Tryz.func231, Tryz.ntmps231
 go_wp2_with fail
 rw [<-hO1,<-hO2]
 go_upto_region 2 with fail
 obtain ⟨W2,hW2⟩:∃ W,W=(w.alloc O1).alloc O2:=⟨_,rfl⟩
 have hsz2:W2.heap.size=w.heap.size+2:=by rw [hW2]; simp
 have HS2:Hid (∀ w',Below (w.heap.size+2) W2 w'->(w'.cell? ⟨w.heap.size+1,0,none⟩=some (.slice A T.nw c)/\w'.cell? ⟨w.heap.size+1,1,none⟩=some (.slice B T.n d))/\Below w.heap.size w w'):=by rw [hW2]; exact HS
 rw [<-hW2] at hB0 ⊢
 obtain ⟨g,hg⟩:∃ g,g=w.heap.size+1+1:=⟨_,rfl⟩
 have hgz:g=W2.heap.size:=by omega
 have hr3:=World.rowIs_made W2 (.slice none 0 0) T.nw 107
 have hB3:=zai hB0 (Nat.le_of_eq hsz2.symm) ((Below.refl W2.heap.size W2).alloc (Nat.le_refl _) (Obj.cells (madeCells #[Value.slice none 0 0] T.nw) 107))
 have hl3:w.heap.size+2<(W2.alloc (Obj.cells (madeCells #[Value.slice none 0 0] T.nw) 107)).heap.size:=by simp; omega
 obtain ⟨W3,hW3⟩:∃ W,W=W2.alloc (Obj.cells (madeCells #[Value.slice none 0 0] T.nw) 107):=⟨_,rfl⟩
 rw [<-hgz] at hr3;rw [<-hW3] at hr3 hB3 hl3 ⊢;rw [<-hg]
 have hT3:NumTab W3 g (g+1) T.nw (fun _=>.slice none 0 0) (fun v=>if v<0 then (T.W v).toNat else 0) (fun _ _=>0):=(zbQ hr3).congr (fun v _=>(if_neg (by omega)).symm) (fun v _ k hk=>rfl)
 have hg2:w.heap.size+2<=g:=by omega
 clear hW3 hgz hg hr3 hW2 HS hB0 hmk hO1 hO2 hsz2
 go_loopg [15] T.nw (fun gg iv wx=>∃ (k:Nat) (F:Nat->Value),iv=.int .i64 (k:Nat)/\k<=T.nw/\T.nw<=k+gg/\NumTab wx g (g+1) T.nw F (fun v=>if v<k then (T.W v).toNat else 0) (fun _ _=>0)/\Below (w.heap.size+2) W2 wx/\w.heap.size+2<wx.heap.size)
 case atStart=>exact ⟨0,_,rfl,by omega,by omega,hT3,hB3,hl3⟩
 case round =>
  clear hW p0 p1 hT3 hB3 hl3
  obtain ⟨gK,hgK⟩:∃ g,g=gk:=⟨_,rfl⟩
  subst hgK
  obtain ⟨k,F,rfl,hk,hkg,hT,hB,hl⟩:=hrel
  obtain ⟨wk,hwk⟩:∃ W,W=wr:=⟨_,rfl⟩
  subst hwk
  have hk0:(0:Int)<=(k:Int):=by omega
  obtain ⟨⟨p0,p1⟩,hW⟩:=HS2.out _ hB
  by_cases hlt:k<T.nw
  ·have hlt':(k:Int)<(T.nw:Int):=by omega
   obtain ⟨wb,wo,rfl,hwb,y0,hy1,hy2⟩:=(HR.out.on hW).width hlt
   have hwid:=HSH.out.wid (i:=k) (by have:=HSH.out.nw; omega)
   obtain ⟨n1,hn1⟩:∃ n:Nat,(n:Int)=T.W k:=⟨(T.W k).toNat,by omega⟩
   rw [<-hn1] at y0 hwid
   have HN1:=hid hn1
   clear hn1 hy1 hy2
   have hT0:NumTab wk g (g+1) T.nw F (fun v=>if v<k then (T.W v).toNat else if v=k then 0 else 0) (fun _ _=>0):=hT.congr (fun v _=>by split <;> simp) (fun v _ q hq=>rfl)
   clear hT
   go_wp2
   go_loopg [21] n1 (fun gg jv wx=>∃ (j:Nat) (F:Nat->Value),jv=.int .i64 (j:Nat)/\j<=n1/\n1<=j+gg/\NumTab wx g (g+1) T.nw F (fun v=>if v<k then (T.W v).toNat else if v=k then j else 0) (fun _ _=>0)/\Below (w.heap.size+2) W2 wx/\w.heap.size+2<wx.heap.size)
   case atStart=>exact ⟨0,F,rfl,by omega,by omega,hT0,hB,hl⟩
   case round =>
    clear hW p0 p1 hT0 hB hl y0
    obtain ⟨j,F2,rfl,hj,hjg,hT,hB,hl⟩:=hrel
    have hj0:(0:Int)<=(j:Int):=by omega
    obtain ⟨⟨p0,p1⟩,hW⟩:=HS2.out _ hB
    by_cases hltj:j<n1
    ·have hltj':(j:Int)<(n1:Int):=by omega
     obtain ⟨fk,hfk⟩:∃ v,v=F2 k:=⟨_,rfl⟩
     have q0:wr.cell? ⟨g,k,none⟩=some fk:=by rw [hfk]; exact hT.row.cell hlt
     have HFK:=hid hfk
     clear hfk p0 p1 hW
     rename World=>w50
     go_upto_region 7 with fail
     refine wp_region_held_drew (S:=fun _=>True) (by kernel_rfl) trivial (fun hHeld=>?_)
     obtain ⟨w51,hw⟩:∃ W,W=World.drew w50:=⟨_,rfl⟩
     have kb:Below w50.heap.size w50 w51:=by rw [hw]; exact (Below.refl _ _).drew
     rw [<-hw];clear hw;replace hB:=zai hB (Nat.le_of_lt hl) kb;replace hl:=Nat.lt_of_lt_of_le hl kb.size;replace hT:=hT.on kb;replace q0:=cellS kb q0;clear kb
     refine tkq 0 (h:=tkq 1 (h:=tkq 2 (h:=tkq 3 (h:=tkq 4 (h:=tkq 6 (h:=tkq 7 (h:=?_)))))))
     refine rdq2 5 8 (h:=fun K hK=>?_) (h2:=fun K hK=>?_)
     ·go_simp
      refine bkq hK trivial (h:=fun hHeld=>?_)
      clear hK K
      refine rdq 8 (h:=fun K hK=>?_)
      go_simp
      go_wp2_with fail
      refine (zfo w51).mono ?_
      rintro e w52 ⟨A0,c0,rfl,z1,z2,z3,kb⟩
      replace hB:=zai hB (Nat.le_of_lt hl) kb;replace hl:=Nat.lt_of_lt_of_le hl kb.size;replace hT:=hT.on kb;replace q0:=cellS kb q0;clear kb
      refine bkq hK trivial (h:=fun hHeld=>?_)
      clear hK K
      refine rdq 9 (h:=fun K hK=>?_)
      go_simp
      obtain ⟨w53,hw⟩:∃ W,W=World.alloc w52 (Obj.cells #[Value.slice A0 (dl 0) c0] 47):=⟨_,rfl⟩
      have kb:Below w52.heap.size w52 w53:=by rw [hw]; exact (Below.refl _ _).alloc (Nat.le_refl _) _
      have n1c:w53.cell? ⟨w52.heap.size,0,none⟩=some (.slice A0 (dl 0) c0):=by rw [hw]; simp
      rw [<-hw];clear hw
      obtain ⟨nb,hnb⟩:∃ b,b=w52.heap.size:=⟨_,rfl⟩
      rw [<-hnb] at n1c ⊢;clear hnb;replace hB:=zai hB (Nat.le_of_lt hl) kb;replace hl:=Nat.lt_of_lt_of_le hl kb.size;replace hT:=hT.on kb;replace q0:=cellS kb q0;replace z3:=z3.on kb;clear kb
      refine bkq hK trivial (h:=fun hHeld=>?_)
      clear hK K
      refine rdq 10 (h:=fun K hK=>?_)
      have hOwn:NatOwn w53 (g+1) fk j (fun _=>0):=by
       have:=hT.own k hlt
       rw [if_neg (Nat.lt_irrefl k),if_pos rfl,<-HFK.out] at this
       exact this
      have hgl:g+1<=w53.heap.size:=hT.row.lt
      have hzg:=hT.row.frozen k
      refine za8 (by rfl) (.tmp 28) (.tmp 32) (by rfl) (g+1) fk j (fun _=>0) (by rfl) hOwn hgl (by omega) nb 1 (by rfl) A0 c0 n1c z3 z1 z2 ?_
      intro v9 w9 o1 o2 o3
      obtain ⟨A9,c9,hv9⟩:=o1.isSlice
      subst hv9
      have hfo:∀ q,fk.ownBlock=some q->g+1<=q:=fun q e=>(hOwn.lt q e).1
      have q9:w9.cell? ⟨g,k,none⟩=some fk:=zaB q0 o2 fun e=>by have:=hfo g e; omega
      have z9:w9.frozen? ⟨g,k,none⟩=false:=by
       have:=(hT.row.of_block (o2.block g hT.row.lt fun e=>by have:=hfo g e.symm; omega)).frozen k
       exact this
      have hB9:Below (w.heap.size+2) W2 w9:=hB.grown o2 (Nat.le_of_lt hl) fun q e=>by have:=hfo q e; omega
      have hl9:w.heap.size+2<w9.heap.size:=Nat.lt_of_lt_of_le hl o2.size
      have hPut:=hid (hT.put (by omega) hlt o1 (by rw [<-HFK.out]; exact o2) (by rw [<-HFK.out]; exact o3))
      refine bkq hK trivial (h:=fun hHeld=>?_)
      clear hK K
      refine tkq 11 (h:=?_)
      refine rdq 12 (h:=fun K hK=>?_)
      go_simp
      refine bkq hK trivial (h:=fun hHeld=>?_)
      clear hK K
      refine wpAnyH_done (by kernel_rfl) ?_ _
      clear hHeld
      have hN:=hPut.out.congr (n':=fun v=>if v<k then (T.W v).toNat else if v=k then j+1 else 0) (x':=fun _ _=>0) (fun v _=>by
        by_cases e:v=k
        ·subst e; simp
        ·simp [e]) (fun v _ q hq=>by split <;> rfl)
      have HN:=hid hN
      have hBf:=hB9.setCell (p:=⟨g,k,none⟩) hg2 (.slice A9 (j+1) c9)
      have hlf:w.heap.size+2<(w9.setCell ⟨g,k,none⟩ (.slice A9 (j+1) c9)).heap.size:=by simp; exact hl9
      clear hPut hN q9 z9 hB9
      go_wp2
      go_roundg (gk - 1)
      case measure=>omega
      case rel=>exact ⟨j+1,_,by go_num,by omega,by omega,HN.out,hBf,hlf⟩
     ·go_simp
      go_wp2_with fail
      refine (zfo w51).mono ?_
      rintro e w52 ⟨A0,c0,rfl,z1,z2,z3,kb⟩
      replace hB:=zai hB (Nat.le_of_lt hl) kb;replace hl:=Nat.lt_of_lt_of_le hl kb.size;replace hT:=hT.on kb;replace q0:=cellS kb q0;clear kb
      refine bkq hK trivial (h:=fun hHeld=>?_)
      clear hK K
      refine rdq2 5 9 (h:=fun K hK=>?_) (h2:=fun K hK=>?_)
      ·go_simp
       refine bkq hK trivial (h:=fun hHeld=>?_)
       clear hK K
       refine rdq 9 (h:=fun K hK=>?_)
       go_simp
       obtain ⟨w53,hw⟩:∃ W,W=World.alloc w52 (Obj.cells #[Value.slice A0 (dl 0) c0] 47):=⟨_,rfl⟩
       have kb:Below w52.heap.size w52 w53:=by rw [hw]; exact (Below.refl _ _).alloc (Nat.le_refl _) _
       have n1c:w53.cell? ⟨w52.heap.size,0,none⟩=some (.slice A0 (dl 0) c0):=by rw [hw]; simp
       rw [<-hw];clear hw
       obtain ⟨nb,hnb⟩:∃ b,b=w52.heap.size:=⟨_,rfl⟩
       rw [<-hnb] at n1c ⊢;clear hnb;replace hB:=zai hB (Nat.le_of_lt hl) kb;replace hl:=Nat.lt_of_lt_of_le hl kb.size;replace hT:=hT.on kb;replace q0:=cellS kb q0;replace z3:=z3.on kb;clear kb
       refine bkq hK trivial (h:=fun hHeld=>?_)
       clear hK K
       refine rdq 10 (h:=fun K hK=>?_)
       have hOwn:NatOwn w53 (g+1) fk j (fun _=>0):=by
        have:=hT.own k hlt
        rw [if_neg (Nat.lt_irrefl k),if_pos rfl,<-HFK.out] at this
        exact this
       have hgl:g+1<=w53.heap.size:=hT.row.lt
       have hzg:=hT.row.frozen k
       refine za8 (by rfl) (.tmp 28) (.tmp 32) (by rfl) (g+1) fk j (fun _=>0) (by rfl) hOwn hgl (by omega) nb 1 (by rfl) A0 c0 n1c z3 z1 z2 ?_
       intro v9 w9 o1 o2 o3
       obtain ⟨A9,c9,hv9⟩:=o1.isSlice
       subst hv9
       have hfo:∀ q,fk.ownBlock=some q->g+1<=q:=fun q e=>(hOwn.lt q e).1
       have q9:w9.cell? ⟨g,k,none⟩=some fk:=zaB q0 o2 fun e=>by have:=hfo g e; omega
       have z9:w9.frozen? ⟨g,k,none⟩=false:=by
        have:=(hT.row.of_block (o2.block g hT.row.lt fun e=>by have:=hfo g e.symm; omega)).frozen k
        exact this
       have hB9:Below (w.heap.size+2) W2 w9:=hB.grown o2 (Nat.le_of_lt hl) fun q e=>by have:=hfo q e; omega
       have hl9:w.heap.size+2<w9.heap.size:=Nat.lt_of_lt_of_le hl o2.size
       have hPut:=hid (hT.put (by omega) hlt o1 (by rw [<-HFK.out]; exact o2) (by rw [<-HFK.out]; exact o3))
       refine bkq hK trivial (h:=fun hHeld=>?_)
       clear hK K
       refine tkq 11 (h:=?_)
       refine rdq 12 (h:=fun K hK=>?_)
       go_simp
       refine bkq hK trivial (h:=fun hHeld=>?_)
       clear hK K
       refine wpAnyH_done (by kernel_rfl) ?_ _
       clear hHeld
       have hN:=hPut.out.congr (n':=fun v=>if v<k then (T.W v).toNat else if v=k then j+1 else 0) (x':=fun _ _=>0) (fun v _=>by
         by_cases e:v=k
         ·subst e; simp
         ·simp [e]) (fun v _ q hq=>by split <;> rfl)
       have HN:=hid hN
       have hBf:=hB9.setCell (p:=⟨g,k,none⟩) hg2 (.slice A9 (j+1) c9)
       have hlf:w.heap.size+2<(w9.setCell ⟨g,k,none⟩ (.slice A9 (j+1) c9)).heap.size:=by simp; exact hl9
       clear hPut hN q9 z9 hB9
       go_wp2
       go_roundg (gk - 1)
       case measure=>omega
       case rel=>exact ⟨j+1,_,by go_num,by omega,by omega,HN.out,hBf,hlf⟩
      ·go_simp
       obtain ⟨w53,hw⟩:∃ W,W=World.alloc w52 (Obj.cells #[Value.slice A0 (dl 0) c0] 47):=⟨_,rfl⟩
       have kb:Below w52.heap.size w52 w53:=by rw [hw]; exact (Below.refl _ _).alloc (Nat.le_refl _) _
       have n1c:w53.cell? ⟨w52.heap.size,0,none⟩=some (.slice A0 (dl 0) c0):=by rw [hw]; simp
       rw [<-hw];clear hw
       obtain ⟨nb,hnb⟩:∃ b,b=w52.heap.size:=⟨_,rfl⟩
       rw [<-hnb] at n1c ⊢;clear hnb;replace hB:=zai hB (Nat.le_of_lt hl) kb;replace hl:=Nat.lt_of_lt_of_le hl kb.size;replace hT:=hT.on kb;replace q0:=cellS kb q0;replace z3:=z3.on kb;clear kb
       refine bkq hK trivial (h:=fun hHeld=>?_)
       clear hK K
       refine rdq 5 (h:=fun K hK=>?_)
       go_simp
       refine bkq hK trivial (h:=fun hHeld=>?_)
       clear hK K
       refine rdq 10 (h:=fun K hK=>?_)
       have hOwn:NatOwn w53 (g+1) fk j (fun _=>0):=by
        have:=hT.own k hlt
        rw [if_neg (Nat.lt_irrefl k),if_pos rfl,<-HFK.out] at this
        exact this
       have hgl:g+1<=w53.heap.size:=hT.row.lt
       have hzg:=hT.row.frozen k
       refine za8 (by rfl) (.tmp 28) (.tmp 32) (by rfl) (g+1) fk j (fun _=>0) (by rfl) hOwn hgl (by omega) nb 1 (by rfl) A0 c0 n1c z3 z1 z2 ?_
       intro v9 w9 o1 o2 o3
       obtain ⟨A9,c9,hv9⟩:=o1.isSlice
       subst hv9
       have hfo:∀ q,fk.ownBlock=some q->g+1<=q:=fun q e=>(hOwn.lt q e).1
       have q9:w9.cell? ⟨g,k,none⟩=some fk:=zaB q0 o2 fun e=>by have:=hfo g e; omega
       have z9:w9.frozen? ⟨g,k,none⟩=false:=by
        have:=(hT.row.of_block (o2.block g hT.row.lt fun e=>by have:=hfo g e.symm; omega)).frozen k
        exact this
       have hB9:Below (w.heap.size+2) W2 w9:=hB.grown o2 (Nat.le_of_lt hl) fun q e=>by have:=hfo q e; omega
       have hl9:w.heap.size+2<w9.heap.size:=Nat.lt_of_lt_of_le hl o2.size
       have hPut:=hid (hT.put (by omega) hlt o1 (by rw [<-HFK.out]; exact o2) (by rw [<-HFK.out]; exact o3))
       refine bkq hK trivial (h:=fun hHeld=>?_)
       clear hK K
       refine tkq 11 (h:=?_)
       refine rdq 12 (h:=fun K hK=>?_)
       go_simp
       refine bkq hK trivial (h:=fun hHeld=>?_)
       clear hK K
       refine wpAnyH_done (by kernel_rfl) ?_ _
       clear hHeld
       have hN:=hPut.out.congr (n':=fun v=>if v<k then (T.W v).toNat else if v=k then j+1 else 0) (x':=fun _ _=>0) (fun v _=>by
         by_cases e:v=k
         ·subst e; simp
         ·simp [e]) (fun v _ q hq=>by split <;> rfl)
       have HN:=hid hN
       have hBf:=hB9.setCell (p:=⟨g,k,none⟩) hg2 (.slice A9 (j+1) c9)
       have hlf:w.heap.size+2<(w9.setCell ⟨g,k,none⟩ (.slice A9 (j+1) c9)).heap.size:=by simp; exact hl9
       clear hPut hN q9 z9 hB9
       go_wp2
       go_roundg (gk - 1)
       case measure=>omega
       case rel=>exact ⟨j+1,_,by go_num,by omega,by omega,HN.out,hBf,hlf⟩
    ·have hltj':¬ (j:Int)<(n1:Int):=by omega
     have hje:j=n1:=by omega
     have hT1:Hid (NumTab wr g (g+1) T.nw F2 (fun v=>if v<k+1 then (T.W v).toNat else 0) (fun _ _=>0)):=hT.congr (fun v _=>by
      by_cases e:v<k
      ·rw [if_pos e,if_pos (by omega)]
      ·rw [if_neg e]
       by_cases e2:v=k
       ·subst e2
        rw [if_pos rfl,if_pos (by omega),hje]
        have:=HN1.out
        omega
       ·rw [if_neg e2,if_neg (by omega)]) (fun v _ q hq=>rfl)
     have HB:=hid hB
     clear hT hB hje
     go_wp2
     go_roundg (gK - 1)
     case measure=>omega
     case rel=>exact ⟨k+1,F2,by go_num,by omega,by omega,hT1.out,HB.out,hl⟩
  ·have hlt':¬ (k:Int)<(T.nw:Int):=by omega
   have hTf:Hid (NumTab wk g (g+1) T.nw F (fun v=>(T.W v).toNat) (fun _ _=>0)):=hT.congr (fun v hv=>if_pos (by omega)) (fun v _ q hq=>rfl)
   clear hT
   go_wp2
   go_ret
   exact ⟨g,F,rfl,by omega,hTf.out,hW⟩
def VTab (w:World) (V:Option Addr) (m:Nat) (ln:Nat->Nat) (y:Nat->Nat->Nat):Prop :=
 ∀ i,i<m->∃ b off R rc,V=some ⟨b,off,none⟩/\b<w.heap.size/\w.cell? ⟨b,off+i,none⟩=some (.slice R (ln i) rc)/\NatTab w w.heap.size R (ln i) (y i)
theorem VTab.on {w w':World} {V:Option Addr} {m:Nat} {ln:Nat->Nat} {y:Nat->Nat->Nat} (h:VTab w V m ln y) (hb:Below w.heap.size w w'):VTab w' V m ln y:=fun i hi=>by
 obtain ⟨b,off,R,rc,e,h1,h2,h3⟩:=h i hi
 exact ⟨b,off,R,rc,e,Nat.lt_of_lt_of_le h1 hb.size,(hb.cell (p:=⟨b,_,none⟩) h1).trans h2,h3.on hb⟩
def Trel.fwdE (T:Trel) (y:Nat->Nat->Nat) (prev:Nat->Nat) (i:Nat):Nat->Nat->Nat
 | 0,_=>0
 | j+1,v=>T.fwdE y prev i j v+if (T.to i j).toNat=v then prev (T.fr i j).toNat*y i j else 0
def Trel.fwd (T:Trel) (y:Nat->Nat->Nat):Nat->Nat->Nat
 | 0,v=>if v=0 then 1 else 0
 | i+1,v=>T.fwdE y (T.fwd y i) i (T.el i) v
theorem Trel.fwdE_le {T:Trel} {y:Nat->Nat->Nat} {prev:Nat->Nat} {i M:Nat} (hp:∀ v,prev v<=M):∀ j,(∀ q,q<j->y i q<=1)->∀ v,T.fwdE y prev i j v<=j*M:=by
 intro j
 induction j with
 | zero=>intro _ v; simp [Trel.fwdE]
 | succ j ih =>
  intro hy v
  have h1:=ih (fun q hq=>hy q (by omega)) v
  have h2:prev (T.fr i j).toNat*y i j<=M*1:=Nat.mul_le_mul (hp _) (hy j (by omega))
  show _+(if _ then _ else 0)<=(j+1)*M
  rw [Nat.add_mul]
  obtain ⟨z,hz⟩:∃ z,z=prev (T.fr i j).toNat*y i j:=⟨_,rfl⟩
  rw [<-hz] at h2 ⊢
  obtain ⟨a,ha⟩:∃ a,a=T.fwdE y prev i j v:=⟨_,rfl⟩
  rw [<-ha] at h1 ⊢
  split <;> omega
theorem Trel.fwd_le {T:Trel} (hs:T.Shape) {y:Nat->Nat->Nat} (hy:∀ i,i<T.n->∀ j,j<T.el i->y i j<=1):∀ i,i<=T.n->∀ v,T.fwd y i v<=262144 ^ i:=by
 intro i
 induction i with
 | zero=>intro _ v; show (if v=0 then 1 else 0)<=_; split <;> simp
 | succ i ih =>
  intro hi v
  have h1:=Trel.fwdE_le (T:=T) (y:=y) (i:=i) (ih (by omega)) (T.el i) (hy i (by omega)) v
  have h2:=hs.elb (i:=i) (by omega)
  show T.fwdE y (T.fwd y i) i (T.el i) v<=_
  rw [Nat.pow_succ,Nat.mul_comm]
  exact Nat.le_trans h1 (Nat.mul_le_mul_right _ h2)
theorem zfp {x i:Nat} (hi:i<=64) (h:x<=262144 ^ i):dl x<=37:=by
 refine zhe ?_
 have h1:(262144:Nat) ^ i<=262144 ^ 64:=Nat.pow_le_pow_right (by omega) hi
 have h2:(262144:Nat) ^ 64<4294967296 ^ 37:=by decide +kernel
 omega
theorem Trel.fwd_dl {T:Trel} (hs:T.Shape) {y:Nat->Nat->Nat} (hy:∀ i,i<T.n->∀ j,j<T.el i->y i j<=1) {i:Nat} (hi:i<=T.n) (v:Nat):dl (T.fwd y i v)<=37 :=
 zfp (Nat.le_trans hi hs.n64) (Trel.fwd_le hs hy i hi v)
theorem Trel.fwdE_dl {T:Trel} (hs:T.Shape) {y:Nat->Nat->Nat} (hy:∀ i,i<T.n->∀ j,j<T.el i->y i j<=1) {i j:Nat} (hi:i<T.n) (hj:j<=T.el i) (v:Nat):dl (T.fwdE y (T.fwd y i) i j v)<=37:=by
 have h1:=Trel.fwdE_le (T:=T) (y:=y) (i:=i) (Trel.fwd_le hs hy i (by omega)) j (fun q hq=>hy i hi q (by omega)) v
 have h2:=hs.elb (i:=i) hi
 have h3:j*262144 ^ i<=262144*262144 ^ i:=Nat.mul_le_mul_right _ (by omega)
 refine zfp (i:=i+1) (by have:=hs.n64; omega) ?_
 rw [Nat.pow_succ,Nat.mul_comm (262144 ^ i)]
 exact Nat.le_trans h1 h3
theorem zfT (T:Trel) (A B V:Option Addr) (c d vc:Nat) (y:Nat->Nat->Nat) (w:World) (h:T.Reads w A B) (hs:T.shapeE=0) (hv:VTab w V T.n T.el y) :
  Calls Tryz.prog 230 #[.agg #[.slice A T.nw c,.slice B T.n d],.slice V T.n vc] w fun e w'=>e=.returned (.int .i64 0)/\Below w.heap.size w w':=by
 obtain ⟨RB,hRB⟩:∃ o,o=(Obj.cells #[.slice A T.nw c,.slice B T.n d] 74):=⟨_,rfl⟩
 have hB0:Below (w.heap.size+1) (w.alloc RB) (w.alloc RB):=Below.refl _ _
 have HS:Hid (∀ w',Below (w.heap.size+1) (w.alloc RB) w'->(w'.cell? ⟨w.heap.size,0,none⟩=some (.slice A T.nw c)/\w'.cell? ⟨w.heap.size,1,none⟩=some (.slice B T.n d))/\Below w.heap.size w w'):=fun w' hB=>by
  have hB':=zay hB
  subst hRB
  exact ⟨⟨tbox hB rfl,tbox hB rfl⟩,hB'⟩
 obtain ⟨⟨p0,p1⟩,hW⟩:=HS.out _ hB0
 go_enter Tryz.func230, Tryz.ntmps230
 go_wp2_with fail
 rw [<-hRB]
 refine (zcV T A B c d _ (h.on hW)).mono ?_
 rintro e w1 ⟨rfl,hb⟩
 have hB1:=zaI hB0 hb
 rw [hs]
 have HR:=hid h
 have HV:=hid hv
 have hn64:=(Trel.shape_of hs).n64
 clear hW p0 p1 hb hB0 hRB h hv hs
 obtain ⟨⟨p0,p1⟩,hW⟩:=HS.out _ hB1
 go_wp2
 go_loopg [22] T.n (fun gg iv wx=>∃ k:Nat,iv=.int .i64 (k:Nat)/\k<=T.n/\T.n<=k+gg/\Below w1.heap.size w1 wx)
 case atStart=>exact ⟨0,rfl,by omega,by omega,Below.refl _ _⟩
 case round =>
  obtain ⟨k,rfl,hk,hkg,hb⟩:=hrel
  have hk0:(0:Int)<=(k:Int):=by omega
  replace p0:=cellS hb p0;replace p1:=cellS hb p1
  have hWr:=onS hW hb
  clear hW
  by_cases hlt:k<T.n
  ·have hlt':(k:Int)<(T.n:Int):=by omega
   obtain ⟨b,o,E,ec,rfl,_,x0,_,_,_,_⟩:=(HR.out.on hWr).sec hlt
   obtain ⟨vb,vo,R,rc,rfl,_,x1,_⟩:=(HV.out.on hWr) k hlt
   have hne:((T.el k:Int) != (T.el k:Int))=false:=by simp
   go_wp2
   go_roundg (gk - 1)
   case measure=>omega
   case rel=>exact ⟨k+1,by go_num,by omega,by omega,hb⟩
  ·have hlt':¬ (k:Int)<(T.n:Int):=by omega
   go_wp2
   go_ret
   exact ⟨rfl,hWr⟩
def Trel.fwdX (T:Trel) (y:Nat->Nat->Nat) (i j:Nat):Nat->Nat->Nat:=fun u v=>if u<=i then T.fwd y u v else if u=i+1 then T.fwdE y (T.fwd y i) i j v else 0
theorem Trel.fwdX_next (T:Trel) (y:Nat->Nat->Nat) (i u v:Nat):T.fwdX y i (T.el i) u v=T.fwdX y (i+1) 0 u v:=by
 simp only [Trel.fwdX]
 by_cases h:u<=i
 ·rw [if_pos h,if_pos (by omega)]
 ·rw [if_neg h]
  by_cases h2:u=i+1
  ·subst h2
   rw [if_pos rfl,if_pos (Nat.le_refl _)]
   rfl
  ·rw [if_neg h2,if_neg (by omega)]
   split
   ·rfl
   ·rfl
theorem Trel.fwdX_put (T:Trel) (y:Nat->Nat->Nat) (i j u v:Nat):upd2 (T.fwdX y i j) (i+1) (T.to i j).toNat (T.fwdE y (T.fwd y i) i j (T.to i j).toNat+T.fwd y i (T.fr i j).toNat*y i j) u v=T.fwdX y i (j+1) u v:=by
 simp only [Trel.fwdX,upd2]
 by_cases h:u<=i
 ·rw [if_pos h,if_pos h,if_neg (by omega)]
 ·rw [if_neg h,if_neg h]
  by_cases h2:u=i+1
  ·rw [if_pos h2,if_pos h2]
   show _=T.fwdE y (T.fwd y i) i j v+if (T.to i j).toNat=v then _ else 0
   by_cases h3:v=(T.to i j).toNat
   ·rw [if_pos ⟨h2,h3⟩,if_pos h3.symm,h3]
   ·rw [if_neg (fun hh=>h3 hh.2),if_neg (fun e=>h3 e.symm)]
    rfl
  ·rw [if_neg h2,if_neg h2,if_neg (by omega)]
def FwdPost (T:Trel) (x:Nat->Nat->Nat) (w:World) (e:Ending) (w':World):Prop :=
 ∃ g F,e=.returned (.tuple #[.slice (some ⟨g,0,none⟩) T.nw T.nw,.int .i64 0])/\w.heap.size<=g/\NumTab w' g (g+1) T.nw F (fun v=>(T.W v).toNat) x/\Below w.heap.size w w'
theorem zeX (T:Trel) (A B V:Option Addr) (c d vc:Nat) (y:Nat->Nat->Nat) (w:World) (h:T.Reads w A B) (hs:T.shapeE=0) (hv:VTab w V T.n T.el y) (hy:∀ i,i<T.n->∀ j,j<T.el i->y i j<=1) :
  Calls Tryz.prog 183 #[.agg #[],.agg #[.slice A T.nw c,.slice B T.n d],.slice V T.n vc] w (FwdPost T (T.fwd y) w):=by
 obtain ⟨O1,hO1⟩:∃ o,o=(Obj.cells #[] 201):=⟨_,rfl⟩
 obtain ⟨O2,hO2⟩:∃ o,o=(Obj.cells #[.slice A T.nw c,.slice B T.n d] 74):=⟨_,rfl⟩
 have hB0:Below (w.heap.size+2) ((w.alloc O1).alloc O2) ((w.alloc O1).alloc O2):=Below.refl _ _
 have HS:Hid (∀ w',Below (w.heap.size+2) ((w.alloc O1).alloc O2) w'->(w'.cell? ⟨w.heap.size+1,0,none⟩=some (.slice A T.nw c)/\w'.cell? ⟨w.heap.size+1,1,none⟩=some (.slice B T.n d))/\Below w.heap.size w w'):=fun w' hB=>by
  have hB':=zb6 hB
  subst hO2
  have hr:=zcG hB
  exact ⟨⟨hr.cell (i:=0) (by simp),hr.cell (i:=1) (by simp)⟩,hB'⟩
 obtain ⟨⟨p0,p1⟩,hW⟩:=HS.out _ hB0
 have HSH:=hid (Trel.shape_of hs)
 have HSE:=hid hs
 have HR:=hid h
 have HV:=hid hv
 have HY:=hid hy
 clear h hs hv hy
 go_enter Tryz.func183, Tryz.ntmps183
 go_wp2_with fail
 rw [<-hO1,<-hO2]
 refine (zfT T A B V c d vc y _ (HR.out.on hW) HSE.out (HV.out.on hW)).mono ?_
 rintro e w1 ⟨rfl,kb⟩
 have hB1:=zfS hB0 kb
 clear p0 p1 hW kb hB0 hO1 hO2
 obtain ⟨⟨p0,p1⟩,hW⟩:=HS.out _ hB1
 go_wp2_with fail
 refine (zhR T A B c d _ (HR.out.on hW) HSH.out).mono ?_
 rintro e w2 ⟨g,F,rfl,hg,hT,kb⟩
 have hB2:=zfS hB1 kb
 have hl1:=zhQ hB1
 have hg2:w.heap.size+2<=g:=by omega
 have hl2:w.heap.size+2<w2.heap.size:=by have:=hT.row.lt; omega
 obtain ⟨W2,hW2⟩:∃ W,W=(w.alloc O1).alloc O2:=⟨_,rfl⟩
 have HS2:Hid (∀ w',Below (w.heap.size+2) W2 w'->(w'.cell? ⟨w.heap.size+1,0,none⟩=some (.slice A T.nw c)/\w'.cell? ⟨w.heap.size+1,1,none⟩=some (.slice B T.n d))/\Below w.heap.size w w'):=by rw [hW2]; exact HS
 rw [<-hW2] at hB2;clear p0 p1 hW kb hB1 hl1 hg hW2 HS
 have hn64:=HSH.out.n64
 have HNW:=hid HSH.out.nw
 have hnw0:0<T.nw:=by have:=HNW.out; omega
 have hnw0':(0:Int)<(T.nw:Int):=by omega
 have hw0:=HSH.out.wid (i:=0) (by omega)
 have hw0n:0<(T.W 0).toNat:=by omega
 obtain ⟨b0,o0,d0,A0,c0,hF0,hb0,hbl0,q0,_,_,_,z0,hni0⟩:=hT.at (v:=0) hnw0 (k:=0) hw0n
 obtain ⟨n0,hn0⟩:∃ n,n=(T.W 0).toNat:=⟨_,rfl⟩
 have HN0:=hid hn0
 have r0:=hT.row.cell hnw0
 rw [hF0] at r0
 change w2.cell? ⟨g,0,none⟩=some (.slice (some ⟨b0,o0,none⟩) (T.W 0).toNat d0) at r0
 rw [<-hn0] at hw0n r0
 have hw0n':(0:Int)<(n0:Int):=by omega
 clear hn0
 go_upto_region 5 with fail
 have hl:=hl2
 refine wp_region_held_drew (S:=fun w'=>w'.cell? ⟨g,0,none⟩=some (.slice (some ⟨b0,o0,none⟩) n0 d0)) (by kernel_rfl) (cellS (Below.refl _ _).drew r0) (fun hHeld=>?_)
 obtain ⟨w3,hw⟩:∃ W,W=World.drew w2:=⟨_,rfl⟩
 have kb:Below w2.heap.size w2 w3:=by rw [hw]; exact (Below.refl _ _).drew
 rw [<-hw] at hHeld ⊢;clear hw;replace hB2:=zai hB2 (Nat.le_of_lt hl) kb;replace hl:=Nat.lt_of_lt_of_le hl kb.size;replace hT:=hT.on kb;replace r0:=cellS kb r0;replace q0:=cellS kb q0;clear kb
 refine tkq 0 (h:=tkq 1 (h:=tkq 2 (h:=tkq 3 (h:=tkq 4 (h:=?_)))))
 refine rdq 5 (h:=fun K hK=>?_)
 go_simp
 go_wp2_with fail
 refine (ziY w3).mono ?_
 rintro e w4 ⟨A1,c1,rfl,z1,z2,z3,kb⟩
 replace hB2:=zai hB2 (Nat.le_of_lt hl) kb;replace hl:=Nat.lt_of_lt_of_le hl kb.size;replace hT:=hT.on kb;replace r0:=cellS kb r0;replace q0:=cellS kb q0;clear kb
 refine bkq hK r0 (h:=fun hHeld=>?_)
 clear hK K
 refine tkq 6 (h:=?_)
 refine rdq 7 (h:=fun K hK=>?_)
 have zf:w4.frozen? ⟨b0,o0,none⟩=false:=by
  obtain ⟨b9,o9,d9,A9,c9,hF9,_,_,_,_,_,_,z9,_⟩:=hT.at (v:=0) hnw0 (k:=0) (by rw [<-HN0.out]; exact hw0n)
  rw [hF0] at hF9
  injection hF9 with e1 _ _
  injection e1 with e1
  injection e1 with e1 e2
  subst e1 e2
  exact z9
 rw [Nat.add_zero] at q0
 go_simp
 replace r0:=zab (p:=⟨b0,o0,none⟩) (u:=.slice A1 (dl 1) c1) r0 (by show g≠b0; omega)
 have hT9:=hT.set (by omega) hnw0 (k:=0) (by rw [<-HN0.out]; exact hw0n) hF0 z3 z1 z2
 rw [Nat.add_zero] at hT9
 have hB9:=hB2.setCell (p:=⟨b0,o0,none⟩) (by show w.heap.size+2<=b0; omega) (.slice A1 (dl 1) c1)
 have hl9:w.heap.size+2<(World.setCell w4 ⟨b0,o0,none⟩ (.slice A1 (dl 1) c1)).heap.size:=by simp; exact hl
 refine bkq hK r0 (h:=fun hHeld=>?_)
 clear hK K
 refine wpAnyH_done (by kernel_rfl) ?_ _
 clear hHeld
 obtain ⟨w9,hw9⟩:∃ W,W=World.setCell w4 ⟨b0,o0,none⟩ (.slice A1 (dl 1) c1):=⟨_,rfl⟩
 rw [<-hw9] at hT9 hB9 hl9 ⊢;clear hw9 hT hB2 hl r0 q0 z3
 have hT0:NumTab w9 g (g+1) T.nw F (fun v=>(T.W v).toNat) (T.fwdX y 0 0):=hT9.congr (fun v _=>rfl) (fun u _ v hv=>by
  simp only [Trel.fwdX,upd2]
  by_cases e:u=0
  ·subst e
   rw [if_pos (Nat.le_refl _)]
   show _=if v=0 then 1 else 0
   by_cases e2:v=0
   ·rw [if_pos ⟨rfl,e2⟩,if_pos e2]
   ·rw [if_neg (fun h=>e2 h.2),if_neg e2]
  ·rw [if_neg (fun h=>e h.1),if_neg (by omega)]
   split <;> rfl)
 clear hT9 hw0n hw0n' z0 hni0 hbl0 z1 z2 HN0 hw0
 obtain ⟨⟨p0,p1⟩,hW⟩:=HS2.out _ hB9
 go_wp2
 go_loopg [33] T.n (fun gg iv wx=>∃ k:Nat,iv=.int .i64 (k:Nat)/\k<=T.n/\T.n<=k+gg/\NumTab wx g (g+1) T.nw F (fun v=>(T.W v).toNat) (T.fwdX y k 0)/\Below (w.heap.size+2) W2 wx/\w.heap.size+2<wx.heap.size)
 case atStart=>exact ⟨0,rfl,by omega,by omega,hT0,hB9,hl9⟩
 case round =>
  clear hW p0 p1 hT0 hB9 hl9
  obtain ⟨gK,hgK⟩:∃ g,g=gk:=⟨_,rfl⟩
  subst hgK
  obtain ⟨k,rfl,hk,hkg,hT,hB,hl⟩:=hrel
  obtain ⟨wk,hwk⟩:∃ W,W=wr:=⟨_,rfl⟩
  subst hwk
  have hk0:(0:Int)<=(k:Int):=by omega
  obtain ⟨⟨p0,p1⟩,hW⟩:=HS2.out _ hB
  by_cases hlt:k<T.n
  ·have hlt':(k:Int)<(T.n:Int):=by omega
   have hk1:k+1<T.nw:=by have:=HNW.out; omega
   have hkw:k<T.nw:=by omega
   have hk1':(k:Int)+1<(T.nw:Int):=by omega
   have hkw':(k:Int)<(T.nw:Int):=by omega
   have hk01:(0:Int)<=(k:Int)+1:=by omega
   have hwk1:IntKind.i64.wrap ((k:Int)+1)=(k:Int)+1:=IntWalk.i64_in _ (by omega)
   obtain ⟨eb,eo,E,ec,rfl,heb,x0w,he1,he2,he3,he4⟩:=HR.out.sec hlt
   obtain ⟨vb,vo,R,rc,rfl,hvb,y0w,hvt⟩:=HV.out k hlt
   have hel:=HSH.out.elb hlt
   have HE3:=hid he3
   have HVT:=hid hvt
   have HX0:=hid x0w
   have HY0:=hid y0w
   have x0:=cellS hW x0w
   clear he3 he4 he2 hvt x0w y0w
   go_wp2
   go_loopg [40] (T.el k) (fun gg jv wx=>∃ j:Nat,jv=.int .i64 (j:Nat)/\j<=T.el k/\T.el k<=j+gg/\NumTab wx g (g+1) T.nw F (fun v=>(T.W v).toNat) (T.fwdX y k j)/\Below (w.heap.size+2) W2 wx/\w.heap.size+2<wx.heap.size)
   case atStart=>exact ⟨0,rfl,by omega,by omega,hT,hB,hl⟩
   case round =>
    clear p0 p1 hT hB hl x0 hW
    obtain ⟨j,rfl,hj,hjg,hT,hB,hl⟩:=hrel
    have hj0:(0:Int)<=(j:Int):=by omega
    by_cases hltj:j<T.el k
    ·have hltj':(j:Int)<(T.el k:Int):=by omega
     have hW:=(HS2.out _ hB).2
     obtain ⟨fb,fo,rfl,hfb,e0,e1,e2⟩:=zaS ((Rd.below HE3.out hW (Nat.le_refl _)).mono hW.size) hltj
     obtain ⟨i1,i2,i3,i4⟩:=HSH.out.ins k hlt j hltj
     obtain ⟨fn,hfn⟩:∃ n:Nat,(n:Int)=T.fr k j:=⟨(T.fr k j).toNat,by omega⟩
     obtain ⟨tn,htn⟩:∃ n:Nat,(n:Int)=T.to k j:=⟨(T.to k j).toNat,by omega⟩
     obtain ⟨lb,hlb⟩:∃ z,z=T.lb k j:=⟨_,rfl⟩
     obtain ⟨n1,hn1⟩:∃ n,n=(T.W k).toNat:=⟨_,rfl⟩
     obtain ⟨n2,hn2⟩:∃ n,n=(T.W (k+1)).toNat:=⟨_,rfl⟩
     have hfl:fn<n1:=by omega
     have htl:tn<n2:=by omega
     have hfl':(fn:Int)<(n1:Int):=by omega
     have htl':(tn:Int)<(n2:Int):=by omega
     have hf0:(0:Int)<=(fn:Int):=by omega
     have ht0:(0:Int)<=(tn:Int):=by omega
     obtain ⟨ab,ao,ad,Ap,cp,hFa,hab,habl,aq,ap1,ap2,apn,_,_⟩:=hT.at (v:=k) hkw (k:=fn) (by omega)
     obtain ⟨bb,bo,bd,Aq,cq,hFb,hbb,hbbl,bq,bq1,bq2,bqn,zq,_⟩:=hT.at (v:=k+1) hk1 (k:=tn) (by omega)
     obtain ⟨rb,ro,Av,cv,rfl,hrb,vq,vq1,vq2,vn⟩:=(HVT.out.on hW) j hltj
     have hrow1:=hT.row.cell hkw
     have hrow2:=hT.row.cell hk1
     have y0:=cellS hW HY0.out
     have hapart:=hT.apart k (k+1) hkw hk1 (by omega)
     rw [hFa] at hrow1;rw [hFb] at hrow2
     have hne:ab≠bb:=fun e=>by
      rw [hFa,hFb,e] at hapart
      simp [Value.ownBlock] at hapart
     have epv:T.fwdX y k j k fn=T.fwd y k fn:=if_pos (Nat.le_refl _)
     have eqv:T.fwdX y k j (k+1) tn=T.fwdE y (T.fwd y k) k j tn:=by
      show (if k+1<=k then _ else if k+1=k+1 then _ else 0)=_
      rw [if_neg (by omega),if_pos rfl]
     have d1:=Trel.fwd_dl HSH.out HY.out (i:=k) (by omega) fn
     have d2:=Trel.fwdE_dl HSH.out HY.out (i:=k) (j:=j) hlt hj tn
     have d3:=Trel.fwdE_dl HSH.out HY.out (i:=k) (j:=j+1) hlt hltj tn
     have hyv:=HY.out k hlt j hltj
     have hsum:T.fwdE y (T.fwd y k) k (j+1) tn=T.fwdE y (T.fwd y k) k j tn+T.fwd y k fn*y k j:=by
      show _+(if (T.to k j).toNat=tn then T.fwd y k (T.fr k j).toNat*y k j else 0)=_
      have e1:(T.fr k j).toNat=fn:=by omega
      have e2:(T.to k j).toNat=tn:=by omega
      rw [e1,e2,if_pos rfl]
     rw [epv] at aq ap1 apn;rw [eqv] at bq bq1 bqn;rw [hsum] at d3
     obtain ⟨pv,hpv⟩:∃ z,z=T.fwd y k fn:=⟨_,rfl⟩
     obtain ⟨qv,hqv⟩:∃ z,z=T.fwdE y (T.fwd y k) k j tn:=⟨_,rfl⟩
     obtain ⟨yv,hyv2⟩:∃ z,z=y k j:=⟨_,rfl⟩
     rw [<-hpv] at aq ap1 apn d1 d3;rw [<-hqv] at bq bq1 bqn d2 d3;rw [<-hyv2] at vq vq1 vn hyv d3
     have d4:dl yv<=37:=zfp (i:=0) (by omega) (by simpa using hyv)
     have d5:dl (pv*yv)<=37:=by
      refine Nat.le_trans (zcC (y:=pv) ?_) d1
      exact Nat.le_trans (Nat.mul_le_mul_left pv hyv) (by omega)
     have HPUT:Hid (∀ u v,upd2 (T.fwdX y k j) (k+1) tn (qv+pv*yv) u v=T.fwdX y k (j+1) u v):=fun u v=>by
      have:=Trel.fwdX_put T y k j u v
      have e1:(T.fr k j).toNat=fn:=by omega
      have e2:(T.to k j).toNat=tn:=by omega
      rw [e1,e2,<-hpv,<-hqv,<-hyv2] at this
      exact this
     change wr.cell? ⟨g,k,none⟩=some (.slice (some ⟨ab,ao,none⟩) (T.W k).toNat ad) at hrow1
     change wr.cell? ⟨g,k+1,none⟩=some (.slice (some ⟨bb,bo,none⟩) (T.W (k+1)).toNat bd) at hrow2
     have x0:=cellS hW HX0.out
     rw [<-hn1] at hrow1;rw [<-hn2] at hrow2;rw [<-hfn] at e0;rw [<-hlb] at e1;rw [<-htn] at e2
     have hgbb:g≠bb:=by omega
     have hbx:wr.heap.size≠bb:=by omega
     have hvbb:vb≠bb:=by omega
     have hWs:=hW.size
     have HSET:Hid (F (k+1)=.slice (some ⟨bb,bo,none⟩) (T.W (k+1)).toNat bd):=hFb
     have HTL:Hid (tn<(T.W (k+1)).toNat):=by rw [<-hn2]; exact htl
     have hrbb:rb≠bb:=by
      obtain ⟨_,_,_,_,e8,h8,_⟩:=HVT.out j hltj
      injection e8 with e8
      injection e8 with e8
      omega
     clear hapart hFa hFb epv eqv hsum hpv hqv hyv2 hyv hfn htn hlb i1 i2 i3 i4 hn1 hn2 hW
     go_upto_region 12 with fail
     obtain ⟨OB,hOB⟩:∃ o,o=(Obj.cells #[.int .i64 (fn:Int),.int .i64 lb,.int .i64 (tn:Int)] 148):=⟨_,rfl⟩
     have hq:∀ i v,(#[Value.int .i64 (fn:Int),.int .i64 lb,.int .i64 (tn:Int)]:Array Value)[i]?=some v->(wr.alloc OB).cell? ⟨wr.heap.size,i,none⟩=some v:=fun i v hv=>by subst hOB; exact tbox (Below.refl _ _) hv
     have s0:=hq 0 _ rfl
     have s2:=hq 2 _ rfl
     have kb:Below wr.heap.size wr (wr.alloc OB):=(Below.refl _ _).alloc (Nat.le_refl _) _
     rw [<-hOB]
     obtain ⟨w50,hw50⟩:∃ W,W=wr.alloc OB:=⟨_,rfl⟩
     rw [<-hw50] at s0 s2 kb ⊢;replace hT:=hT.on kb;replace hB:=zai hB (Nat.le_of_lt hl) kb;replace hl:=Nat.lt_of_lt_of_le hl kb.size;replace aq:=cellS kb aq;replace bq:=cellS kb bq;replace vq:=cellS kb vq;replace y0:=cellS kb y0;replace hrow1:=cellS kb hrow1;replace hrow2:=cellS kb hrow2;replace apn:=apn.on kb;replace bqn:=bqn.on kb;replace vn:=vn.on kb
     obtain ⟨bx,hbx2⟩:∃ b,b=wr.heap.size:=⟨_,rfl⟩
     rw [<-hbx2] at s0 s2 hbx ⊢;clear hq hw50 hOB kb x0 e0 e1 e2 hbx2
     refine wp_region_held_drew (S:=fun w'=>w'.cell? ⟨g,k,none⟩=some (.slice (some ⟨ab,ao,none⟩) n1 ad)/\w'.cell? ⟨g,k+1,none⟩=some (.slice (some ⟨bb,bo,none⟩) n2 bd)/\w'.cell? ⟨bx,0,none⟩=some (.int .i64 (fn:Int))/\w'.cell? ⟨bx,2,none⟩=some (.int .i64 (tn:Int))/\w'.cell? ⟨vb,vo+k,none⟩=some (.slice (some ⟨rb,ro,none⟩) (T.el k) rc)/\w'.cell? ⟨rb,ro+j,none⟩=some (.slice Av (dl yv) cv)/\w'.cell? ⟨ab,ao+fn,none⟩=some (.slice Ap (dl pv) cp)) (by kernel_rfl) ⟨cellS (Below.refl _ _).drew hrow1,cellS (Below.refl _ _).drew hrow2,cellS (Below.refl _ _).drew s0,cellS (Below.refl _ _).drew s2,cellS (Below.refl _ _).drew y0,cellS (Below.refl _ _).drew vq,cellS (Below.refl _ _).drew aq⟩ (fun hHeld=>?_)
     obtain ⟨w51,hw⟩:∃ W,W=World.drew w50:=⟨_,rfl⟩
     have kb:Below w50.heap.size w50 w51:=by rw [hw]; exact (Below.refl _ _).drew
     rw [<-hw] at hHeld ⊢;clear hw;replace hB:=zai hB (Nat.le_of_lt hl) kb;replace hl:=Nat.lt_of_lt_of_le hl kb.size;replace hT:=hT.on kb;replace aq:=cellS kb aq;replace bq:=cellS kb bq;replace vq:=cellS kb vq;replace y0:=cellS kb y0;replace hrow1:=cellS kb hrow1;replace hrow2:=cellS kb hrow2;replace s0:=cellS kb s0;replace s2:=cellS kb s2;replace apn:=apn.on kb;replace bqn:=bqn.on kb;replace vn:=vn.on kb
     clear kb
     refine tkq 0 (h:=tkq 1 (h:=tkq 2 (h:=tkq 3 (h:=tkq 4 (h:=tkq 5 (h:=tkq 6 (h:=tkq 7 (h:=tkq 8 (h:=tkq 9 (h:=tkq 10 (h:=tkq 11 (h:=tkq 12 (h:=tkq 13 (h:=tkq 14 (h:=tkq 15 (h:=tkq 16 (h:=tkq 18 (h:=tkq 19 (h:=tkq 20 (h:=tkq 21 (h:=tkq 22 (h:=tkq 23 (h:=tkq 24 (h:=tkq 25 (h:=tkq 26 (h:=tkq 27 (h:=tkq 28 (h:=tkq 29 (h:=tkq 30 (h:=tkq 31 (h:=tkq 32 (h:=tkq 33 (h:=tkq 34 (h:=?_))))))))))))))))))))))))))))))))))
     refine rdq2 17 35 (h:=fun K hK=>?_) (h2:=fun K hK=>?_)
     ·go_simp
      refine bkq hK ⟨hrow1,hrow2,s0,s2,y0,vq,aq⟩ (h:=fun hHeld=>?_)
      clear hK K
      refine rdq 35 (h:=fun K hK=>?_)
      go_simp
      go_wp2_with fail
      refine (zg0 Ap Av cp cv pv yv w51 apn vn ap1 ap2 vq1 vq2 (by omega) (by omega) (by omega)).mono ?_
      rintro e w52 ⟨Am,cm,rfl,m1,m2,m3,kb⟩
      replace hB:=zai hB (Nat.le_of_lt hl) kb;replace hl:=Nat.lt_of_lt_of_le hl kb.size;replace hT:=hT.on kb;replace aq:=cellS kb aq;replace bq:=cellS kb bq;replace vq:=cellS kb vq;replace y0:=cellS kb y0;replace hrow1:=cellS kb hrow1;replace hrow2:=cellS kb hrow2;replace s0:=cellS kb s0;replace s2:=cellS kb s2;replace apn:=apn.on kb;replace bqn:=bqn.on kb;replace vn:=vn.on kb;clear kb
      refine bkq hK ⟨hrow1,hrow2,s0,s2,y0,vq,aq⟩ (h:=fun hHeld=>?_)
      clear hK K
      refine rdq 36 (h:=fun K hK=>?_)
      go_simp
      go_wp2_with fail
      refine (zgZ Aq Am cq cm qv (pv*yv) w52 bqn m3 bq1 bq2 m1 m2 (by omega) (by omega) (by omega)).mono ?_
      rintro e w53 ⟨As,cs,rfl,t1,t2,t3,kb⟩
      replace hB:=zai hB (Nat.le_of_lt hl) kb;replace hl:=Nat.lt_of_lt_of_le hl kb.size;replace hT:=hT.on kb;replace aq:=cellS kb aq;replace bq:=cellS kb bq;replace vq:=cellS kb vq;replace y0:=cellS kb y0;replace hrow1:=cellS kb hrow1;replace hrow2:=cellS kb hrow2;replace s0:=cellS kb s0;replace s2:=cellS kb s2;replace apn:=apn.on kb;replace bqn:=bqn.on kb;replace vn:=vn.on kb;replace m3:=m3.on kb
      clear kb
      refine bkq hK ⟨hrow1,hrow2,s0,s2,y0,vq,aq⟩ (h:=fun hHeld=>?_)
      clear hK K
      refine tkq 37 (h:=?_)
      refine rdq 38 (h:=fun K hK=>?_)
      have zf:w53.frozen? ⟨bb,bo+tn,none⟩=false:=by
       obtain ⟨b9,o9,d9,A9,c9,hF9,_,_,_,_,_,_,z9,_⟩:=hT.at (v:=k+1) hk1 (k:=tn) HTL.out
       rw [HSET.out] at hF9
       injection hF9 with e1 _ _
       injection e1 with e1
       injection e1 with e1 e2
       subst e1 e2
       exact z9
      go_simp
      replace hrow1:=zab (p:=⟨bb,bo+tn,none⟩) (u:=(.slice As (dl (qv+pv*yv)) cs)) hrow1 (by simpa using hgbb)
      replace hrow2:=zab (p:=⟨bb,bo+tn,none⟩) (u:=(.slice As (dl (qv+pv*yv)) cs)) hrow2 (by simpa using hgbb)
      replace s0:=zab (p:=⟨bb,bo+tn,none⟩) (u:=(.slice As (dl (qv+pv*yv)) cs)) s0 (by simpa using hbx)
      replace s2:=zab (p:=⟨bb,bo+tn,none⟩) (u:=(.slice As (dl (qv+pv*yv)) cs)) s2 (by simpa using hbx)
      replace y0:=zab (p:=⟨bb,bo+tn,none⟩) (u:=(.slice As (dl (qv+pv*yv)) cs)) y0 (by simpa using hvbb)
      replace vq:=zab (p:=⟨bb,bo+tn,none⟩) (u:=(.slice As (dl (qv+pv*yv)) cs)) vq (by simpa using hrbb)
      replace aq:=zab (p:=⟨bb,bo+tn,none⟩) (u:=(.slice As (dl (qv+pv*yv)) cs)) aq (by simpa using hne)
      have hT9:=hT.set (by omega) hk1 (k:=tn) HTL.out HSET.out t3 t1 t2
      have hB9:=hB.setCell (p:=⟨bb,bo+tn,none⟩) (by show w.heap.size+2<=bb; omega) (.slice As (dl (qv+pv*yv)) cs)
      have hl9:w.heap.size+2<(World.setCell w53 ⟨bb,bo+tn,none⟩ (.slice As (dl (qv+pv*yv)) cs)).heap.size:=by simp; exact hl
      refine bkq hK ⟨hrow1,hrow2,s0,s2,y0,vq,aq⟩ (h:=fun hHeld=>?_)
      clear hK K
      refine wpAnyH_done (by kernel_rfl) ?_ _
      clear hHeld
      have hN:=hid (hT9.congr (x':=T.fwdX y k (j+1)) (fun v _=>rfl) (fun u _ v _=>HPUT.out u v))
      have HB9:=hid hB9
      clear hT9 hT hB9 hB bq
      go_wp2
      go_roundg (gk - 1)
      case measure=>omega
      case rel=>exact ⟨j+1,by go_num,by omega,by omega,hN.out,HB9.out,hl9⟩
     ·go_simp
      go_wp2_with fail
      refine (zg0 Ap Av cp cv pv yv w51 apn vn ap1 ap2 vq1 vq2 (by omega) (by omega) (by omega)).mono ?_
      rintro e w52 ⟨Am,cm,rfl,m1,m2,m3,kb⟩
      replace hB:=zai hB (Nat.le_of_lt hl) kb;replace hl:=Nat.lt_of_lt_of_le hl kb.size;replace hT:=hT.on kb;replace aq:=cellS kb aq;replace bq:=cellS kb bq;replace vq:=cellS kb vq;replace y0:=cellS kb y0;replace hrow1:=cellS kb hrow1;replace hrow2:=cellS kb hrow2;replace s0:=cellS kb s0;replace s2:=cellS kb s2;replace apn:=apn.on kb;replace bqn:=bqn.on kb;replace vn:=vn.on kb;clear kb
      refine bkq hK ⟨hrow1,hrow2,s0,s2,y0,vq,aq⟩ (h:=fun hHeld=>?_)
      clear hK K
      refine rdq 17 (h:=fun K hK=>?_)
      go_simp
      refine bkq hK ⟨hrow1,hrow2,s0,s2,y0,vq,aq⟩ (h:=fun hHeld=>?_)
      clear hK K
      refine rdq 36 (h:=fun K hK=>?_)
      go_simp
      go_wp2_with fail
      refine (zgZ Aq Am cq cm qv (pv*yv) w52 bqn m3 bq1 bq2 m1 m2 (by omega) (by omega) (by omega)).mono ?_
      rintro e w53 ⟨As,cs,rfl,t1,t2,t3,kb⟩
      replace hB:=zai hB (Nat.le_of_lt hl) kb;replace hl:=Nat.lt_of_lt_of_le hl kb.size;replace hT:=hT.on kb;replace aq:=cellS kb aq;replace bq:=cellS kb bq;replace vq:=cellS kb vq;replace y0:=cellS kb y0;replace hrow1:=cellS kb hrow1;replace hrow2:=cellS kb hrow2;replace s0:=cellS kb s0;replace s2:=cellS kb s2;replace apn:=apn.on kb;replace bqn:=bqn.on kb;replace vn:=vn.on kb;replace m3:=m3.on kb
      clear kb
      refine bkq hK ⟨hrow1,hrow2,s0,s2,y0,vq,aq⟩ (h:=fun hHeld=>?_)
      clear hK K
      refine tkq 37 (h:=?_)
      refine rdq 38 (h:=fun K hK=>?_)
      have zf:w53.frozen? ⟨bb,bo+tn,none⟩=false:=by
       obtain ⟨b9,o9,d9,A9,c9,hF9,_,_,_,_,_,_,z9,_⟩:=hT.at (v:=k+1) hk1 (k:=tn) HTL.out
       rw [HSET.out] at hF9
       injection hF9 with e1 _ _
       injection e1 with e1
       injection e1 with e1 e2
       subst e1 e2
       exact z9
      go_simp
      replace hrow1:=zab (p:=⟨bb,bo+tn,none⟩) (u:=(.slice As (dl (qv+pv*yv)) cs)) hrow1 (by simpa using hgbb)
      replace hrow2:=zab (p:=⟨bb,bo+tn,none⟩) (u:=(.slice As (dl (qv+pv*yv)) cs)) hrow2 (by simpa using hgbb)
      replace s0:=zab (p:=⟨bb,bo+tn,none⟩) (u:=(.slice As (dl (qv+pv*yv)) cs)) s0 (by simpa using hbx)
      replace s2:=zab (p:=⟨bb,bo+tn,none⟩) (u:=(.slice As (dl (qv+pv*yv)) cs)) s2 (by simpa using hbx)
      replace y0:=zab (p:=⟨bb,bo+tn,none⟩) (u:=(.slice As (dl (qv+pv*yv)) cs)) y0 (by simpa using hvbb)
      replace vq:=zab (p:=⟨bb,bo+tn,none⟩) (u:=(.slice As (dl (qv+pv*yv)) cs)) vq (by simpa using hrbb)
      replace aq:=zab (p:=⟨bb,bo+tn,none⟩) (u:=(.slice As (dl (qv+pv*yv)) cs)) aq (by simpa using hne)
      have hT9:=hT.set (by omega) hk1 (k:=tn) HTL.out HSET.out t3 t1 t2
      have hB9:=hB.setCell (p:=⟨bb,bo+tn,none⟩) (by show w.heap.size+2<=bb; omega) (.slice As (dl (qv+pv*yv)) cs)
      have hl9:w.heap.size+2<(World.setCell w53 ⟨bb,bo+tn,none⟩ (.slice As (dl (qv+pv*yv)) cs)).heap.size:=by simp; exact hl
      refine bkq hK ⟨hrow1,hrow2,s0,s2,y0,vq,aq⟩ (h:=fun hHeld=>?_)
      clear hK K
      refine wpAnyH_done (by kernel_rfl) ?_ _
      clear hHeld
      have hN:=hid (hT9.congr (x':=T.fwdX y k (j+1)) (fun v _=>rfl) (fun u _ v _=>HPUT.out u v))
      have HB9:=hid hB9
      clear hT9 hT hB9 hB bq
      go_wp2
      go_roundg (gk - 1)
      case measure=>omega
      case rel=>exact ⟨j+1,by go_num,by omega,by omega,hN.out,HB9.out,hl9⟩
    ·have hltj':¬ (j:Int)<(T.el k:Int):=by omega
     have hje:j=T.el k:=by omega
     rw [hje] at hT
     have hT1:=hid (hT.congr (x':=T.fwdX y (k+1) 0) (fun v _=>rfl) (fun u _ v _=>T.fwdX_next y k u v))
     have HB:=hid hB
     clear hT hB hje
     go_wp2
     go_roundg (gK - 1)
     case measure=>omega
     case rel=>exact ⟨k+1,by go_num,by omega,by omega,hT1.out,HB.out,hl⟩
  ·have hlt':¬ (k:Int)<(T.n:Int):=by omega
   have hken:k=T.n:=by omega
   have hTf:=hid (hT.congr (x':=T.fwd y) (fun v _=>rfl) (fun u hu v _=>if_pos (by have:=HNW.out; omega)))
   clear hT hken
   go_wp2
   go_ret2
   exact ⟨g,F,rfl,by omega,hTf.out,hW⟩
theorem ziZ {f:Nat->Int} {j:Nat} {v:Int} (h:hitB f j v=true):0<j:=by
 obtain ⟨i,hi,_⟩:=zdM.1 h
 omega
theorem Trel.Proper.el1 {T:Trel} (h:T.Proper) {i:Nat} (hi:i<T.n):1<=T.el i:=by
 have h1:=(h.sec i hi).2.2 0 (by have:=h.shape.w1 (i+1) (by omega); omega)
 exact ziZ h1
def PathsPost (T:Trel) (w:World) (e:Ending) (w':World):Prop :=
 (T.properE≠0/\e=.returned (.tuple #[.slice none 0 0,.int .i64 T.properE])/\Below w.heap.size w w') ∨
 (T.properE=0/\∃ A c,e=.returned (.tuple #[.slice A (dl (T.fwd (fun _ _=>1) T.n 0)) c,.int .i64 0])/\dl (T.fwd (fun _ _=>1) T.n 0)<=c/\c<=maxLen/\NatOk w' w'.heap.size A (T.fwd (fun _ _=>1) T.n 0)/\Below w.heap.size w w')
def OnesUpTo (T:Trel) (wx:World) (gv k:Nat) (A1:Option Addr) (c1:Nat):Prop :=
 ∃ R:Nat->Nat,wx.rowIs gv 107 T.n (fun i=>if i<k then .slice (some ⟨R i,0,none⟩) (T.el i) (T.el i) else .slice none 0 0)/\∀ i,i<k->R i≠gv/\wx.rowIs (R i) 47 (T.el i) (fun _=>.slice A1 (dl 1) c1)
theorem OnesUpTo.on {T:Trel} {w w':World} {gv k:Nat} {A1:Option Addr} {c1:Nat} (h:OnesUpTo T w gv k A1 c1) (hb:Below w.heap.size w w'):OnesUpTo T w' gv k A1 c1:=by
 obtain ⟨R,h1,h2⟩:=h
 exact ⟨R,zaa h1 hb,fun i hi=>⟨(h2 i hi).1,zaa (h2 i hi).2 hb⟩⟩
theorem OnesUpTo.noInt {T:Trel} {w:World} {gv k:Nat} {A1:Option Addr} {c1:Nat} (h:OnesUpTo T w gv k A1 c1):NoInt w gv:=by
 obtain ⟨R,h1,h2⟩:=h
 exact zdN h1 fun i _ u e=>by
  revert e
  show (if i<k then _ else _)=_->_
  split <;> (intro e; cases e)
theorem OnesUpTo.put {T:Trel} {w:World} {gv k r:Nat} {A1:Option Addr} {c1:Nat} (h:OnesUpTo T w gv k A1 c1) (hr:w.rowIs r 47 (T.el k) (fun _=>.slice A1 (dl 1) c1)) (hne:r≠gv) :
  OnesUpTo T (w.setCell ⟨gv,k,none⟩ (.slice (some ⟨r,0,none⟩) (T.el k) (T.el k))) gv (k+1) A1 c1:=by
 obtain ⟨R,h1,h2⟩:=h
 refine ⟨fun i=>if i=k then r else R i,(h1.set k _).congr fun i _=>?_,fun i hi=>?_⟩
 ·show (if i=k then _ else if i<k then _ else _)=if i<k+1 then Value.slice (some ⟨if i=k then r else R i,0,none⟩) (T.el i) (T.el i) else .slice none 0 0
  by_cases e:i=k
  ·subst e; rw [if_pos rfl,if_pos (by omega),if_pos rfl]
  ·rw [if_neg e,if_neg e]
   by_cases e2:i<k
   ·rw [if_pos e2,if_pos (by omega)]
   ·rw [if_neg e2,if_neg (by omega)]
 ·show (if i=k then r else R i)≠gv/\World.rowIs _ (if i=k then r else R i) _ _ _
  by_cases e:i=k
  ·subst e
   rw [if_pos rfl]
   exact ⟨hne,hr.setOther (by simpa using hne) _⟩
  ·rw [if_neg e]
   exact ⟨(h2 i (by omega)).1,(h2 i (by omega)).2.setOther (by simpa using (h2 i (by omega)).1) _⟩
theorem OnesUpTo.tab {T:Trel} {w:World} {gv:Nat} {A1:Option Addr} {c1:Nat} (h:OnesUpTo T w gv T.n A1 c1) (hn:NatOk w w.heap.size A1 1) (h1:dl 1<=c1) (h2:c1<=maxLen):VTab w (some ⟨gv,0,none⟩) T.n T.el (fun _ _=>1):=fun i hi=>by
 obtain ⟨R,k1,k2⟩:=h
 have hc:=k1.cell hi
 rw [if_pos hi] at hc
 refine ⟨gv,0,some ⟨R i,0,none⟩,T.el i,rfl,k1.lt,by rw [Nat.zero_add]; exact hc,fun j hj=>?_⟩
 exact ⟨R i,0,A1,c1,rfl,(k2 i hi).2.lt,by rw [Nat.zero_add]; exact (k2 i hi).2.cell hj,h1,h2,hn⟩
theorem zhS (T:Trel) (A B:Option Addr) (c d:Nat) (w:World) (h:T.Reads w A B) :
  Calls Tryz.prog 109 #[.agg #[.slice A T.nw c,.slice B T.n d]] w (PathsPost T w):=by
 obtain ⟨RB,hRB⟩:∃ o,o=(Obj.cells #[.slice A T.nw c,.slice B T.n d] 74):=⟨_,rfl⟩
 have hB0:Below (w.heap.size+1) (w.alloc RB) (w.alloc RB):=Below.refl _ _
 have HS:Hid (∀ w',Below (w.heap.size+1) (w.alloc RB) w'->(w'.cell? ⟨w.heap.size,0,none⟩=some (.slice A T.nw c)/\w'.cell? ⟨w.heap.size,1,none⟩=some (.slice B T.n d))/\Below w.heap.size w w'):=fun w' hB=>by
  have hB':=zay hB
  subst hRB
  exact ⟨⟨tbox hB rfl,tbox hB rfl⟩,hB'⟩
 obtain ⟨⟨p0,p1⟩,hW⟩:=HS.out _ hB0
 go_enter Tryz.func109, Tryz.ntmps109
 go_wp2_with fail
 rw [<-hRB]
 refine (zcX T A B c d _ (h.on hW)).mono ?_
 rintro e w1 ⟨rfl,hb⟩
 have hB1:=zaI hB0 hb
 clear hW p0 p1 hb hB0 hRB
 obtain ⟨⟨p0,p1⟩,hW⟩:=HS.out _ hB1
 by_cases hp:T.properE=0
 ·have HP:=hid (Trel.proper_of hp)
  have HP0:=hid hp
  have HR:=hid h
  have HSE:Hid (T.shapeE=0):=by
   show _=_
   cases Decidable.em (T.shapeE=0) with
   | inl h=>exact h
   | inr h=>exact absurd (Trel.properE_shape h ▸ hp) h
  rw [hp];clear hp h
  go_wp2_with fail
  refine (zcw 1 _ (by omega)).mono ?_
  rintro e w2 ⟨A1,c1,rfl,g1,g2,g3,kb⟩
  have hB2:=zaI hB1 kb
  clear hW p0 p1 hB1 kb
  obtain ⟨⟨p0,p1⟩,hW⟩:=HS.out _ hB2
  have hl2:=zaV hB2
  have hn64:=HP.out.shape.n64
  have hmk:=fun W=>zaf (P:=Tryz.prog) 196 107 _ 24 Tryz.underlying196 Tryz.infoNats rfl (T.n:Int) (by omega) (by omega) (by omega) W
  simp only [Int.toNat_natCast] at hmk
  obtain ⟨x,hx⟩:∃ x,x=T.fwd (fun _ _=>1) T.n 0:=⟨_,rfl⟩
  have HX:=hid hx
  clear hx
  go_upto_region 6 with fail
  obtain ⟨gv,hgv⟩:∃ b,b=w2.heap.size:=⟨_,rfl⟩
  have hrv:=World.rowIs_made w2 (.slice none 0 0) T.n 107
  have kb3:Below w2.heap.size w2 (w2.alloc (Obj.cells (madeCells #[Value.slice none 0 0] T.n) 107)):=(Below.refl _ _).alloc (Nat.le_refl _) _
  obtain ⟨w3,hw3⟩:∃ W,W=w2.alloc (Obj.cells (madeCells #[Value.slice none 0 0] T.n) 107):=⟨_,rfl⟩
  rw [<-hgv] at hrv;rw [<-hw3] at hrv kb3 ⊢;rw [<-hgv]
  have hl3:w.heap.size<gv:=by omega
  have hon:OnesUpTo T w3 gv 0 A1 c1:=⟨fun _=>0,hrv.congr fun i _=>(if_neg (by omega)).symm,fun i hi=>absurd hi (by omega)⟩
  have hB3:=zaI hB2 kb3
  replace g3:=g3.on kb3;clear hw3 hrv hmk p0 p1 hW hB2 kb3 hl2 hgv
  obtain ⟨⟨p0,p1⟩,hW⟩:=HS.out _ hB3
  go_wp2
  go_loopg [24] T.n (fun gg iv wx=>∃ k:Nat,iv=.int .i64 (k:Nat)/\k<=T.n/\T.n<=k+gg/\OnesUpTo T wx gv k A1 c1/\NatOk wx wx.heap.size A1 1/\Below (w.heap.size+1) (w.alloc RB) wx)
  case atStart=>exact ⟨0,rfl,by omega,by omega,hon,g3,hB3⟩
  case round =>
   clear p0 p1 hW hon g3 hB3
   obtain ⟨k,rfl,hk,hkg,hon,g3,hB⟩:=hrel
   obtain ⟨⟨p0,p1⟩,hW⟩:=HS.out _ hB
   have hk0:(0:Int)<=(k:Int):=by omega
   have hwz:=zaV hB
   have hgw:gv<wr.heap.size:=by obtain ⟨R,h1,_⟩:=hon; exact h1.lt
   by_cases hlt:k<T.n
   ·have hlt':(k:Int)<(T.n:Int):=by omega
    obtain ⟨eb,eo,E,ec,rfl,heb,x0,_,_,_,_⟩:=(HR.out.on hW).sec hlt
    have hel:=HP.out.shape.elb hlt
    have hel1:=HP.out.el1 hlt
    obtain ⟨el,hele⟩:∃ n,n=T.el k:=⟨_,rfl⟩
    rw [<-hele] at x0 hel hel1
    have HEL:=hid hele
    clear hele
    go_wp2_with fail
    have kb:Below wr.heap.size wr (wr.alloc (Obj.cells #[Value.slice A1 (dl 1) c1] 47)):=(Below.refl _ _).alloc (Nat.le_refl _) _
    have hc:(wr.alloc (Obj.cells #[Value.slice A1 (dl 1) c1] 47)).cell? ⟨wr.heap.size,0,none⟩=some (.slice A1 (dl 1) c1):=by simp
    replace hon:=hon.on kb;replace g3:=g3.on kb;replace hB:=zaI hB kb
    obtain ⟨w4,hw4⟩:∃ W,W=wr.alloc (Obj.cells #[Value.slice A1 (dl 1) c1] 47):=⟨_,rfl⟩
    obtain ⟨nb,hnb⟩:∃ b,b=wr.heap.size:=⟨_,rfl⟩
    rw [<-hw4] at hon g3 hB hc kb ⊢;rw [<-hnb] at hc ⊢;clear p0 p1 hW hnb hw4 x0 heb
    refine (zgY nb (.slice A1 (dl 1) c1) el 1 w4 hc rfl hel1 (by omega)).mono ?_
    rintro e w5 ⟨r,rfl,hrz,hrr,kb2⟩
    have hgw4:gv<w4.heap.size:=by obtain ⟨R,h1,_⟩:=hon; exact h1.lt
    replace hon:=hon.on kb2;replace g3:=g3.on kb2;replace hB:=zaI hB kb2
    have hni:=hon.noInt
    have hrne:r≠gv:=by omega
    have hrr2:w5.rowIs r 47 (T.el k) (fun _=>.slice A1 (dl 1) c1):=by rw [<-HEL.out]; exact hrr
    have hput:=hid (hon.put hrr2 hrne)
    rw [<-HEL.out] at hput
    have hg5:=hid (zaN (i:=k) g3 hni (.slice (some ⟨r,0,none⟩) el el))
    have hB5:=hid (hB.setCell (p:=⟨gv,k,none⟩) (by show w.heap.size+1<=gv; omega) (.slice (some ⟨r,0,none⟩) el el))
    have q0:∃ v,w5.cell? ⟨gv,k,none⟩=some v:=by obtain ⟨R,h1,_⟩:=hon; exact ⟨_,h1.cell hlt⟩
    have z0:w5.frozen? ⟨gv,k,none⟩=false:=by obtain ⟨R,h1,_⟩:=hon; exact h1.frozen k
    obtain ⟨v0,q0⟩:=q0
    clear hc kb kb2 hon g3 hB hni hrr hrr2
    go_wp2
    go_roundg (gk - 1)
    case measure=>omega
    case rel=>exact ⟨k+1,by go_num,by omega,by omega,hput.out,hg5.out,hB5.out⟩
   ·have hlt':¬ (k:Int)<(T.n:Int):=by omega
    have hken:k=T.n:=by omega
    rw [hken] at hon
    have hvt:=hon.tab g3 g1 g2
    have hlr:=zaV hB
    clear hken hon g3
    go_wp2_with fail
    refine (zeX T A B (some ⟨gv,0,none⟩) c d T.n (fun _ _=>1) wr (HR.out.on hW) HSE.out hvt (fun _ _ _ _=>Nat.le_refl _)).mono ?_
    rintro e w6 ⟨g,F,rfl,hg,hT,kb⟩
    have hB6:=zaI hB kb
    clear hvt p0 p1 hW kb hB
    obtain ⟨⟨p0,p1⟩,hW⟩:=HS.out _ hB6
    have hnw:=HP.out.shape.nw
    have hnl:T.n<T.nw:=by omega
    have hnl':(T.n:Int)<(T.nw:Int):=by omega
    have hwn:=HP.out.wn
    obtain ⟨b0,o0,d0,A0,c0,hF0,hb0,hbl0,q0,q1,q2,q3,_,_⟩:=hT.at (v:=T.n) hnl (k:=0) (by show 0<(T.W T.n).toNat; omega)
    have r0:=hT.row.cell hnl
    rw [hF0] at r0
    have h1n:(T.W T.n).toNat=1:=by omega
    change w6.cell? ⟨g,T.n,none⟩=some (.slice (some ⟨b0,o0,none⟩) (T.W T.n).toNat d0) at r0
    rw [h1n] at r0;rw [Nat.add_zero,<-HX.out] at q0;rw [<-HX.out] at q1 q3
    have hXN:=HX.out
    have HFIN:Hid (∀ e,e=.returned (.tuple #[.slice A0 (dl x) c0,.int .i64 0])->PathsPost T w e w6):=fun e he=>.inr ⟨HP0.out,A0,c0,by rw [<-HX.out]; exact he,by rw [<-HX.out]; exact q1,q2,by rw [<-HX.out]; exact q3,hW⟩
    clear hnw hXN hwn h1n hT hF0 q3
    go_wp2
    go_ret2
    exact HFIN.out _ rfl
 ·have hne:(T.properE != 0)=true:=by simpa using hp
  have HP:=hid hp
  obtain ⟨x,hx⟩:∃ x,x=T.properE:=⟨_,rfl⟩
  have HX:=hid hx
  rw [<-hx] at hne ⊢;clear hp hx
  go_wp2
  go_ret2
  exact .inl ⟨HP.out,by rw [<-HX.out]; rfl,hW⟩
def AnyBool (e:Ending):Prop:=∃ r:Bool,e=.returned (.bool r)
theorem zi0 (T:Trel) (A B:Option Addr) (c d:Nat) (most:Nat) (hm:most<=1000000) (w:World) (h:T.Reads w A B) :
  Calls Tryz.prog 46 #[.agg #[.slice A T.nw c,.slice B T.n d],.int .i64 (most:Nat)] w fun e w'=>AnyBool e/\Below w.heap.size w w':=by
 obtain ⟨RB,hRB⟩:∃ o,o=(Obj.cells #[.slice A T.nw c,.slice B T.n d] 74):=⟨_,rfl⟩
 have hB0:Below (w.heap.size+1) (w.alloc RB) (w.alloc RB):=Below.refl _ _
 have HS:Hid (∀ w',Below (w.heap.size+1) (w.alloc RB) w'->(w'.cell? ⟨w.heap.size,0,none⟩=some (.slice A T.nw c)/\w'.cell? ⟨w.heap.size,1,none⟩=some (.slice B T.n d))/\Below w.heap.size w w'):=fun w' hB=>by
  have hB':=zay hB
  subst hRB
  exact ⟨⟨tbox hB rfl,tbox hB rfl⟩,hB'⟩
 obtain ⟨⟨p0,p1⟩,hW⟩:=HS.out _ hB0
 have hn47:=h.2.2.2.2.1
 go_enter Tryz.func46, Tryz.ntmps46
 go_wp2_with fail
 rw [<-hRB]
 go_wp2
 go_loopg [5,6] T.n (fun gg nv iv wx=>∃ k m:Nat,iv=.int .i64 (k:Nat)/\nv=.int .i64 (m:Nat)/\k<=T.n/\T.n<=k+gg/\m<=2*most+1/\Below (w.heap.size+1) (w.alloc RB) wx)
 case atStart=>exact ⟨0,0,rfl,rfl,by omega,by omega,by omega,hB0⟩
 case round =>
  obtain ⟨k,m,rfl,rfl,hk,hkg,hm2,hB⟩:=hrel
  clear hW p0 p1
  obtain ⟨⟨p0,p1⟩,hW⟩:=HS.out _ hB
  have hk0:(0:Int)<=(k:Int):=by omega
  by_cases hlt:k<T.n
  ·have hlt':(k:Int)<(T.n:Int):=by omega
   by_cases hle:(m:Int)<=(most:Int)
   ·obtain ⟨eb,eo,E,ec,hE,heb,x0,_,_,_,_⟩:=(h.on hW).sec hlt
    have hel:=h.2.2.2.2.2 k hlt
    obtain ⟨el,hele⟩:∃ n,n=T.el k:=⟨_,rfl⟩
    rw [<-hele] at x0 hel
    subst hE
    clear hele
    by_cases hmin:(el:Int)<=(most:Int)+1
    ·go_wp2
     go_roundg (gk - 1)
     case measure=>omega
     case rel=>exact ⟨k+1,m+el,by go_num,by go_num,by omega,by omega,by omega,hB⟩
    ·go_wp2
     go_roundg (gk - 1)
     case measure=>omega
     case rel=>exact ⟨k+1,m+(most+1),by go_num,by go_num,by omega,by omega,by omega,hB⟩
   ·go_wp2
    go_ret
    exact ⟨⟨_,rfl⟩,hW⟩
  ·have hlt':¬ (k:Int)<(T.n:Int):=by omega
   by_cases hle:(m:Int)<=(most:Int)
   ·go_wp2
    go_ret
    exact ⟨⟨_,rfl⟩,hW⟩
   ·go_wp2
    go_ret
    exact ⟨⟨_,rfl⟩,hW⟩
end Go.Proofs.YtioagplajkoohaaGreat