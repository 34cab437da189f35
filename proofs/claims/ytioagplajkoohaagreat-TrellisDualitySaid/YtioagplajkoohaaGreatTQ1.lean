/- Merged texts of a claim: Base, Tk, IntsAll, FldP, Own, Copy. -/
import Derived.Test.YtioagplajkoohaaGreatRows
import Derived.WalkKit
import Derived.WalkSpells
import Derived.WalkLawsBesides
import Derived.Deep.OwnRows
import Derived.ProofKit
import Derived.Deep.RegionHeld3
import Derived.Deep.Slices
import Derived.Lib.SmallJoins
import Derived.Deep.LoopGhost
import Derived.Deep.QuietTactic
import Derived.BigQuiet
import Derived.Deep.Cut
import Derived.Deep.CutBlock
import Derived.Deep.DeepCutAuto
import Derived.IntWalk
import Derived.StillTailTactics
import Derived.SizedLaws
import Derived.Deep.AppendSrc
import Derived.Maps.AppendAt
namespace Go.Proofs.YtioagplajkoohaaGreat
set_option maxRecDepth 100000
set_option maxHeartbeats 32000000
theorem KE.qc0 {w:World} {g:Nat} {T:TypeId} {v:Value} (h:w.rowIs g T 1 (fun _=>v)) : w.cell? ⟨g,0,none⟩=some v:=h.cell (i:=0) (by decide)
open KE
open Go.RowKit
theorem hid {p:Prop} (h:p):Hid p:=h
theorem zah {k:IntKind} {a b:Int} (h:a=b):Ending.returned (.int k a)=.returned (.int k b):=by rw [h]
theorem cellS {X w1:World} {p:Addr} {v:Value} (hb:Below X.heap.size X w1) (h:X.cell? p=some v):w1.cell? p=some v :=
 (hb.cell (World.block_lt_of_cell? X p h)).trans h
theorem onS {w X w1:World} (h:Below w.heap.size w X) (hb:Below X.heap.size X w1):Below w.heap.size w w1:=h.trans (hb.mono h.size)
theorem zac {B:Nat} {a w:World} (h:Below B a w) (n:Nat):Below B a (w.drewN n):=⟨h.os,h.tape,h.output,h.size,h.block⟩
def Rd (w:World) (B:Nat) (A:Option Addr) (n s:Nat) (f:Nat->Nat->Value):Prop :=
 ∀ i,i<n->∃ b off,A=some ⟨b,off,none⟩/\b<B/\∀ j,j<s->w.cell? ⟨b,off+i*s+j,none⟩=some (f i j)
section
variable {w w':World} {B B' n s i:Nat} {A:Option Addr} {f:Nat->Nat->Value}
theorem Rd.keep (h:Rd w B A n s f) (hk:∀ p:Addr,p.block<B->w'.cell? p=w.cell? p):Rd w' B A n s f:=fun i hi=>by
 obtain ⟨b,off,e,hb,hc⟩:=h i hi
 exact ⟨b,off,e,hb,fun j hj=>(hk _ hb).trans (hc j hj)⟩
theorem Rd.mono (h:Rd w B A n s f) (hB:B<=B'):Rd w B' A n s f:=fun i hi=>by
 obtain ⟨b,off,e,hb,hc⟩:=h i hi
 exact ⟨b,off,e,by omega,hc⟩
theorem Rd.below (h:Rd w B A n s f) (hb:Below B' w w') (hB:B<=B'):Rd w' B A n s f:=h.keep fun _ hp=>hb.cell (by omega)
theorem Rd.alloc (h:Rd w B A n s f) (hB:B<=w.heap.size) (o:Obj):Rd (w.alloc o) B A n s f:=h.keep fun p hp=>World.cell?_alloc_lt w o p (by omega)
theorem Rd.at1 (h:Rd w B A n 1 f) (hi:i<n):∃ b off,A=some ⟨b,off,none⟩/\b<B/\w.cell? ⟨b,off+i,none⟩=some (f i 0):=by
 obtain ⟨b,off,e,hb,hc⟩:=h i hi
 exact ⟨b,off,e,hb,by simpa using hc 0 (by omega)⟩
theorem Rd.at3 (h:Rd w B A n 3 f) (hi:i<n):∃ b off,A=some ⟨b,off,none⟩/\b<B/\w.cell? ⟨b,off+i*3,none⟩=some (f i 0)/\w.cell? ⟨b,off+i*3+1,none⟩=some (f i 1)/\w.cell? ⟨b,off+i*3+2,none⟩=some (f i 2):=by
 obtain ⟨b,off,e,hb,hc⟩:=h i hi
 exact ⟨b,off,e,hb,by simpa using hc 0 (by omega),by simpa using hc 1 (by omega),by simpa using hc 2 (by omega)⟩
end
theorem zaf {P:Program} (t e:TypeId) (z:Value) (bytes:Nat) (ht:P.underlying t=some (.slice e)) (hinfo:(P.info? e).map (fun i=>(i.zero,i.size,i.bytes))=some (some z,1,bytes)) (hz1:z.cells=#[z])
  (x:Int) (h0:0<=x) (hbytes:bytes*x.toNat<=281474976710656) (h63:x.toNat<=9223372036854775807) (w:World) :
  (Instr.makeSlice t (.int .i64 x) (.int .i64 x)).run P w=.ok (.slice (some ⟨w.heap.size,0,none⟩) x.toNat x.toNat) (w.alloc (.cells (madeCells #[z] x.toNat) e)):=by
 obtain ⟨n,rfl⟩:=Int.eq_ofNat_of_zero_le h0
 simp only [Int.toNat_natCast] at hbytes h63 ⊢
 exact run_make_row' t e z bytes ht hinfo hz1 _ _ n hbytes h63 w
theorem zbi {w:World} {b:Nat} {t:TypeId} {n:Nat} {f:Nat->Value} (h:w.rowIs b t n f) (k:Nat):(w.drewN k).rowIs b t n f:=h
theorem zc6 {w w':World} {B b:Nat} {t:TypeId} {n:Nat} {f:Nat->Value} (h:w.rowIs b t n f) (hb:Below B w w') (hB:b<B):w'.rowIs b t n f:=h.of_block (hb.block b hB)
theorem zaa {w w':World} {b:Nat} {t:TypeId} {n:Nat} {f:Nat->Value} (h:w.rowIs b t n f) (hb:Below w.heap.size w w'):w'.rowIs b t n f:=h.of_block (hb.block b h.lt)
theorem zbk {w : World} {b : Nat} {t : TypeId} {n : Nat} {f : Nat → Value} (h : w.rowIs b t n f) : Rd w w.heap.size (some ⟨b, 0, none⟩) n 1 (fun i _ => f i) := fun i hi =>
  ⟨b, 0, rfl, h.lt, fun j hj => by obtain rfl : j = 0 := by omega
                                   simpa using h.cell hi⟩
theorem Tryz.infoInt:(Tryz.prog.info? 3).map (fun i=>(i.zero,i.size,i.bytes))=some (some (.int .i64 0),1,8):=by kernel_rfl
theorem Tryz.infoBool:(Tryz.prog.info? 4).map (fun i=>(i.zero,i.size,i.bytes))=some (some (.bool false),1,1):=by kernel_rfl
section
variable {P:Program} {md:Region.Mode} {ops:Array Oper} {Q:Exit->Act->World->Prop} {S:World->Prop}
theorem tkq (i:Nat) {oi:Oper} {v:Value} {fuel:Nat} {listed l':Array Bool} {a a':Act} {w:World}
  (hi:ops[i]?=some oi:=by simp only [List.getElem?_toArray,List.getElem?_cons_succ,List.getElem?_cons_zero]; rfl)
  (hs:Region.noSelect ops=true:=by kernel_rfl) (hf:Region.free md ops listed i=true:=by kernel_rfl) (hr:(Region.ready md ops listed).contains i=true:=by kernel_rfl)
  (hQ:∀ c a w,Q (.panic c) (a.put oi.dst v) w->Q (.panic c) a w:=by exact fun _ _ _ h=>h)
  (hw:Region.wanted oi (yielded ops a.tmps)=true:=by rfl)
  (hy:∀ w,S w->(execOp a.eval oi).run P w=.ok (.value v) w:=by (intro w hSw; (try dsimp only at hSw); go_simp); first | done | with_reducible rfl)
  (hS:S w:=by assumption)
  (ha:a.put oi.dst v=a':=by (try simp only [Act.put,List.setIfInBounds_toArray,List.set_cons_zero,List.set_cons_succ]); first | done | rfl)
  (hl:listed.setIfInBounds i true=l':=by (try simp only [List.setIfInBounds_toArray,List.set_cons_zero,List.set_cons_succ]); first | done | rfl)
  (h:wpAnyH P md ops Q S fuel l' a' w):wpAnyH P md ops Q S (fuel+1) listed a w:=by
 subst ha hl
 exact wpAnyH_take hi hs hf hr hQ (Or.inl ⟨hw,hy⟩) hS h
theorem tkn (i:Nat) {oi:Oper} {fuel:Nat} {listed l':Array Bool} {a a':Act} {w:World}
  (hi:ops[i]?=some oi:=by simp only [List.getElem?_toArray,List.getElem?_cons_succ,List.getElem?_cons_zero]; rfl)
  (hs:Region.noSelect ops=true:=by kernel_rfl) (hf:Region.free md ops listed i=true:=by kernel_rfl) (hr:(Region.ready md ops listed).contains i=true:=by kernel_rfl)
  (hQ:∀ c a w,Q (.panic c) (a.put oi.dst undef) w->Q (.panic c) a w:=by exact fun _ _ _ h=>h)
  (hw:Region.wanted oi (yielded ops a.tmps)=false:=by rfl)
  (hS:S w:=by assumption)
  (ha:a.put oi.dst undef=a':=by (try simp only [Act.put,List.setIfInBounds_toArray,List.set_cons_zero,List.set_cons_succ]); first | done | rfl)
  (hl:listed.setIfInBounds i true=l':=by (try simp only [List.setIfInBounds_toArray,List.set_cons_zero,List.set_cons_succ]); first | done | rfl)
  (h:wpAnyH P md ops Q S fuel l' a' w):wpAnyH P md ops Q S (fuel+1) listed a w:=by
 subst ha hl
 exact wpAnyH_take hi hs hf hr hQ (Or.inr ⟨hw,rfl⟩) hS h
theorem rdq (i:Nat) {o:Oper} {fuel:Nat} {listed l':Array Bool} {a:Act} {w:World}
  (hr:Region.ready md ops listed=[i]:=by kernel_rfl)
  (ho:ops[i]?=some o:=by simp only [List.getElem?_toArray,List.getElem?_cons_succ,List.getElem?_cons_zero]; rfl)
  (hl:listed.setIfInBounds i true=l':=by (try simp only [List.setIfInBounds_toArray,List.set_cons_zero,List.set_cons_succ]); first | done | rfl)
  (h:∀ K':Act->World->Prop,Shut (∀ a w,S w->(S w->wpAnyH P md ops Q S fuel l' a w)->K' a w)->if Region.wanted o (yielded ops a.tmps)=true then Oper.wp P o a w K' Q else K' (a.put o.dst undef) w) :
  wpAnyH P md ops Q S (fuel+1) listed a w:=by
 subst hl
 exact wpAnyH_ready hr (by simp) (AllReadyH.cons ho h AllReadyH.nil)
theorem rdq2 (i j:Nat) {o o2:Oper} {fuel:Nat} {listed l' l2:Array Bool} {a:Act} {w:World}
  (hr:Region.ready md ops listed=[i,j]:=by kernel_rfl)
  (ho:ops[i]?=some o:=by simp only [List.getElem?_toArray,List.getElem?_cons_succ,List.getElem?_cons_zero]; rfl)
  (ho2:ops[j]?=some o2:=by simp only [List.getElem?_toArray,List.getElem?_cons_succ,List.getElem?_cons_zero]; rfl)
  (hl:listed.setIfInBounds i true=l':=by (try simp only [List.setIfInBounds_toArray,List.set_cons_zero,List.set_cons_succ]); first | done | rfl)
  (hl2:listed.setIfInBounds j true=l2:=by (try simp only [List.setIfInBounds_toArray,List.set_cons_zero,List.set_cons_succ]); first | done | rfl)
  (h:∀ K':Act->World->Prop,Shut (∀ a w,S w->(S w->wpAnyH P md ops Q S fuel l' a w)->K' a w)->if Region.wanted o (yielded ops a.tmps)=true then Oper.wp P o a w K' Q else K' (a.put o.dst undef) w)
  (h2:∀ K':Act->World->Prop,Shut (∀ a w,S w->(S w->wpAnyH P md ops Q S fuel l2 a w)->K' a w)->if Region.wanted o2 (yielded ops a.tmps)=true then Oper.wp P o2 a w K' Q else K' (a.put o2.dst undef) w) :
  wpAnyH P md ops Q S (fuel+1) listed a w:=by
 subst hl hl2
 exact wpAnyH_ready hr (by simp) (AllReadyH.cons ho h (AllReadyH.cons ho2 h2 AllReadyH.nil))
theorem bkq {K:Act->World->Prop} {fuel:Nat} {l:Array Bool} {a a':Act} {w:World} (hK:Shut (∀ a w,S w->(S w->wpAnyH P md ops Q S fuel l a w)->K a w)) (hS:S w)
  (ha:a=a':=by (try simp only [Act.put,List.setIfInBounds_toArray,List.set_cons_zero,List.set_cons_succ]); first | done | rfl)
  (h:S w->wpAnyH P md ops Q S fuel l a' w):K a w:=by
 subst ha
 exact hK.out _ _ hS h
end
open Go.ChangeShapes Go.WideShapes Go.ChangeAt
section
variable {H:Type} {enc:TypeId × Value->H} {P:Program} {w:World} {base:Nat} {spare:Nat->Bool} {held:Bool} {fuel:Nat} {cs:List Value} {x:DataW H × List MemPlace} {t e s:Nat}
def Sees (enc:TypeId × Value->H) (P:Program) (w:World) (base:Nat) (spare:Nat->Bool) (held:Bool) (t:TypeId) (cs:List Value):Prop :=
 ∃ fuel x,DataW.trod enc P w base spare held fuel t cs=some x
theorem zbt {k:IntKind} (ht:P.underlying t=some (.int k)) (h:Sees enc P w base spare held t cs):∃ n,cs=[.int k n]/\(Lit.int k n).wf=true:=by
 obtain ⟨fuel,x,h⟩:=h
 obtain ⟨n,h1,_,h2⟩:=DataW.trod_int ht h
 exact ⟨n,h1,h2⟩
theorem zbj (b off j:Nat):(⟨b,off,none⟩:Addr).add j=⟨b,off+j,none⟩:=by
 unfold Addr.add; split <;> simp_all
theorem zdU (ht:P.underlying t=some (.slice e)) (hC:P.cellsOf e=s) (hs:0<s) (h:Sees enc P w base spare held t cs) :
  ∃ (A:Option Addr) (n c:Nat) (f:Nat->Nat->Value),cs=[.slice A n c]/\n<=c/\c<=maxLen/\Rd w w.heap.size A n s f/\∀ i,i<n->Sees enc P w base spare held e ((List.range s).map (f i)):=by
 obtain ⟨fuel,x,h⟩:=h
 rcases Go.Deep.open_slice ht h with ⟨rfl,_⟩ | ⟨a,len,cap,m,n,D,Pl,rfl,hb,hl,hm,hmm,_,hi⟩
 ·exact ⟨none,0,0,fun _ _=>undef,rfl,Nat.le_refl _,Nat.zero_le _,fun i hi=>absurd hi (by omega),fun i hi=>absurd hi (by omega)⟩
 ·have hlm:len<=m:=by rw [hmm]; split <;> omega
  refine ⟨some a,len,cap,fun i j=>(w.cell? (a.add (i*s+j))).getD undef,rfl,hl,hm,fun i hi'=>?_,fun i hi'=>?_⟩
  ·obtain ⟨cs',hc,_⟩:=hi i (by omega)
   rw [hC] at hc
   obtain ⟨_,hlen,hat⟩:=World.cells?_some hc
   have h0:=hat 0 hs
   rw [List.getElem?_eq_getElem (by omega),Go.Deep.add_add] at h0
   have hlt:=World.block_lt_of_cell? _ _ h0
   obtain ⟨ab,ao,sp⟩:=a
   have hsp0:w.cell? ((⟨ab,ao,sp⟩:Addr).add (i*s+0))=some (cs'[0]'(by omega)):=h0
   by_cases hz:i*s=0
   ·have:(⟨ab,ao,sp⟩:Addr).add (i*s+0)=⟨ab,ao,sp⟩:=by unfold Addr.add; rw [if_pos (by omega)]
    rw [this] at hsp0 hlt
    obtain rfl:sp=none:=World.cell?_spot hsp0
    refine ⟨ab,ao,rfl,hlt,fun j hj=>?_⟩
    have hj':=hat j hj
    rw [Go.Deep.add_add,zbj] at hj'
    show w.cell? ⟨ab,ao+i*s+j,none⟩=some ((w.cell? ((⟨ab,ao,none⟩:Addr).add (i*s+j))).getD undef)
    rw [zbj,hj',List.getElem?_eq_getElem (by omega)]
    rw [show ao+i*s+j=ao+(i*s+j) by omega,hj',List.getElem?_eq_getElem (by omega)]
    rfl
   ·-- the first element tells that the address has no spot
    obtain ⟨cs0,hc0,_⟩:=hi 0 (by omega)
    rw [hC] at hc0
    obtain ⟨_,hlen0,hat0⟩:=World.cells?_some hc0
    have k0:=hat0 0 hs
    rw [List.getElem?_eq_getElem (by omega),Go.Deep.add_add] at k0
    have:(⟨ab,ao,sp⟩:Addr).add (0*s+0)=⟨ab,ao,sp⟩:=by unfold Addr.add; rw [if_pos (by omega)]
    rw [this] at k0
    obtain rfl:sp=none:=World.cell?_spot k0
    refine ⟨ab,ao,rfl,World.block_lt_of_cell? _ _ k0,fun j hj=>?_⟩
    have hj':=hat j hj
    rw [Go.Deep.add_add,zbj] at hj'
    show w.cell? ⟨ab,ao+i*s+j,none⟩=some ((w.cell? ((⟨ab,ao,none⟩:Addr).add (i*s+j))).getD undef)
    rw [zbj]
    rw [show ao+i*s+j=ao+(i*s+j) by omega,hj',List.getElem?_eq_getElem (by omega)]
    rfl
  ·obtain ⟨cs',hc,htr⟩:=hi i (by omega)
   rw [hC] at hc
   obtain ⟨_,hlen,hat⟩:=World.cells?_some hc
   refine ⟨n,(D i,Pl i),?_⟩
   have:(List.range s).map (fun j=>(w.cell? (a.add (i*s+j))).getD undef)=cs':=by
    apply List.ext_getElem
    ·simp [hlen]
    ·intro j h1 h2
     have:=hat j (by omega)
     rw [Go.Deep.add_add,List.getElem?_eq_getElem h2] at this
     simp [this]
   rw [this]
   exact htr
theorem zbA {fs:Array Field} (ht:P.underlying t=some (.struct fs)) (h:Sees enc P w base spare held t cs) :
  cs.length=P.cellsOf t/\∀ (i:Nat) (f:Field),fs[i]?=some f->Sees enc P w base spare held f.type ((cs.drop f.offset).take (P.cellsOf f.type)):=by
 obtain ⟨fuel,x,h⟩:=h
 obtain ⟨xs,n,_,_,hlen,hxl,hf⟩:=DataW.trod_struct ht h
 refine ⟨hlen,fun i f hi=>?_⟩
 have hlt:i<xs.length:=by rw [hxl]; exact (Array.getElem?_eq_some_iff.1 hi).1
 exact ⟨n,xs[i],(hf i f hi).trans (List.getElem?_eq_getElem hlt)⟩
theorem zbR {fs:Array Field} (ht:P.underlying t=some (.struct fs)) (h:Sees enc P w base spare held t cs) (i T off m:Nat)
  (hi:∃ f,fs[i]?=some f/\f.type=T/\f.offset=off) (hC:P.cellsOf T=m):Sees enc P w base spare held T ((cs.drop off).take m):=by
 obtain ⟨f,hf,rfl,rfl⟩:=hi
 subst hC
 exact (zbA ht h).2 i f hf
theorem zdh {k:IntKind} (ht:P.underlying t=some (.slice e)) (he:P.underlying e=some (.int k)) (hC:P.cellsOf e=1) (h:Sees enc P w base spare held t cs) :
  ∃ (A:Option Addr) (n c:Nat) (g:Nat->Int),cs=[.slice A n c]/\n<=c/\c<=maxLen/\Rd w w.heap.size A n 1 (fun i _=>.int k (g i))/\∀ i,i<n->(Lit.int k (g i)).wf=true:=by
 obtain ⟨A,n,c,f,hcs,h1,h2,hr,hf⟩:=zdU ht hC (by omega) h
 refine ⟨A,n,c,fun i=>intOf (f i 0),hcs,h1,h2,fun i hi=>?_,fun i hi=>?_⟩
 ·obtain ⟨z,hz,_⟩:=zbt he (hf i hi)
  have hz':f i 0=.int k z:=by simpa using hz
  obtain ⟨b,off,hA,hb,hc⟩:=hr i hi
  refine ⟨b,off,hA,hb,fun j hj=>?_⟩
  obtain rfl:j=0:=by omega
  show _=some (Value.int k (intOf (f i 0)))
  rw [hc 0 hj,hz']
  rfl
 ·obtain ⟨z,hz,hw⟩:=zbt he (hf i hi)
  have hz':f i 0=.int k z:=by simpa using hz
  show (Lit.int k (intOf (f i 0))).wf=true
  rw [hz']
  exact hw
end
theorem zfv {n:Int} (h:(Lit.int .i64 n).wf=true) : -9223372036854775808<=n/\n<=9223372036854775807:=by
 simpa [Lit.wf,IntKind.min,IntKind.max,IntKind.signed,IntKind.bits] using h
theorem Tryz.own:ownKnob Tryz.prog.godebug=none:=by kernel_rfl
theorem Tryz.laidOut:laidOutB Tryz.prog=true:=by kernel_rfl
def IntsR (w:World) (B:Nat) (A:Option Addr) (n:Nat) (f:Nat->Int):Prop:=Rd w B A n 1 (fun j _=>.int .i64 (f j))
theorem IntsR.on {w w':World} {A:Option Addr} {n:Nat} {f:Nat->Int} (h:IntsR w w.heap.size A n f) (hb:Below w.heap.size w w'):IntsR w' w'.heap.size A n f:=(Rd.below h hb (Nat.le_refl _)).mono hb.size
theorem IntsR.at {w:World} {B n i:Nat} {A:Option Addr} {f:Nat->Int} (h:IntsR w B A n f) (hi:i<n):∃ b off,A=some ⟨b,off,none⟩/\b<B/\w.cell? ⟨b,off+i,none⟩=some (.int .i64 (f i)):=Rd.at1 h hi
theorem IntsR.congr {w:World} {B n:Nat} {A:Option Addr} {f g:Nat->Int} (h:IntsR w B A n f) (e:∀ i,i<n->f i=g i):IntsR w B A n g:=fun i hi=>by
 obtain ⟨b,off,e1,hb,hc⟩:=h i hi
 exact ⟨b,off,e1,hb,fun j hj=>by rw [hc j hj]; show some (Value.int .i64 (f i))=some (.int .i64 (g i)); rw [e i hi]⟩
def IntRows (w:World) (T:Option Addr) (M:Nat) (ln:Nat->Nat) (W:Nat->Nat->Int):Prop :=
 ∀ i,i<M->∃ b off A c,T=some ⟨b,off,none⟩/\b<w.heap.size/\w.cell? ⟨b,off+i,none⟩=some (.slice A (ln i) c)/\ln i<=c/\c<=maxLen/\IntsR w w.heap.size A (ln i) (W i)/\∀ j,j<ln i -> -9223372036854775808<=W i j/\W i j<=9223372036854775807
theorem IntRows.on {w w':World} {T:Option Addr} {M:Nat} {ln:Nat->Nat} {W:Nat->Nat->Int} (h:IntRows w T M ln W) (hb:Below w.heap.size w w'):IntRows w' T M ln W:=fun i hi=>by
 obtain ⟨b,off,A,c,e,h1,h2,h3,h4,h5,h6⟩:=h i hi
 exact ⟨b,off,A,c,e,Nat.lt_of_lt_of_le h1 hb.size,(hb.cell (p:=⟨b,_,none⟩) h1).trans h2,h3,h4,h5.on hb,h6⟩
section
variable {H:Type} {enc:TypeId × Value->H} {w:World} {base:Nat} {spare:Nat->Bool} {held:Bool} {cs:List Value}
theorem zhf (h:Sees enc Tryz.prog w base spare held 25 cs):∃ T M c ln W,cs=[.slice T M c]/\M<=c/\c<=maxLen/\IntRows w T M ln W:=by
 obtain ⟨T,m,c,f,hcs,h1,h2,hr,hf⟩:=zdU Tryz.underlying25 (show Tryz.prog.cellsOf 22 = 1 by kernel_rfl) (by omega) h
 have key:∀ i,∃ t:Option Addr × Nat × Nat × (Nat->Int),i<m->f i 0=.slice t.1 t.2.1 t.2.2.1/\t.2.1<=t.2.2.1/\t.2.2.1<=maxLen/\IntsR w w.heap.size t.1 t.2.1 t.2.2.2/\∀ j,j<t.2.1 -> -9223372036854775808<=t.2.2.2 j/\t.2.2.2 j<=9223372036854775807:=by
  intro i
  by_cases hi:i<m
  ·obtain ⟨A,n,c,g,e,g1,g2,hx,hw⟩:=zdh Tryz.underlying22 Tryz.underlying3 (by kernel_rfl) (hf i hi)
   have e':[f i 0]=[.slice A n c]:=e
   simp only [List.cons.injEq,and_true] at e'
   exact ⟨(A,n,c,g),fun _=>⟨e',g1,g2,hx,fun j hj=>zfv (hw j hj)⟩⟩
  ·exact ⟨(none,0,0,fun _=>0),fun h=>absurd h hi⟩
 obtain ⟨t,key⟩:=Classical.axiomOfChoice key
 refine ⟨T,m,c,fun i=>(t i).2.1,fun i=>(t i).2.2.2,hcs,h1,h2,fun i hi=>?_⟩
 obtain ⟨e0,g1,g2,hx,hw⟩:=key i hi
 obtain ⟨b,off,e,hb,hc⟩:=hr i hi
 have hc0:=hc 0 (by omega)
 rw [e0] at hc0
 exact ⟨b,off,_,_,e,hb,by simpa using hc0,g1,g2,hx,hw⟩
end
def FldOk (P M:Nat):Prop:=2<=P/\1<=M/\M<=8/\P ^ M<=256
theorem FldOk.pow_le {P M i:Nat} (h:FldOk P M) (hi:i<=M):P ^ i<=256:=Nat.le_trans (Nat.pow_le_pow_right (by have:=h.1; omega) hi) h.2.2.2
theorem FldOk.P_le {P M:Nat} (h:FldOk P M):P<=256:=by
 have:=h.pow_le (i:=1) h.2.1
 simpa using this
theorem fieldBox {w:World} {P M:Int} {A:Option Addr} {k c:Nat} (T:TypeId) :
  (w.alloc (.cells #[.int .i64 P,.int .i64 M,.slice A k c] T)).cell? ⟨w.heap.size,0,none⟩=some (.int .i64 P)/\(w.alloc (.cells #[.int .i64 P,.int .i64 M,.slice A k c] T)).cell? ⟨w.heap.size,1,none⟩=some (.int .i64 M)/\(w.alloc (.cells #[.int .i64 P,.int .i64 M,.slice A k c] T)).cell? ⟨w.heap.size,2,none⟩=some (.slice A k c):=by
 have hg:=heap_alloc_new w (.cells #[.int .i64 P,.int .i64 M,.slice A k c] T)
 exact ⟨by rw [cell_of_row _ _ _ _ T (0,0) hg]; rfl,by rw [cell_of_row _ _ _ _ T (0,0) hg]; rfl,by rw [cell_of_row _ _ _ _ T (0,0) hg]; rfl⟩
def ordV (P M:Int):Int:=if 2<=P/\1<=M/\M<=8/\P.toNat ^ M.toNat<=256 then ((P.toNat ^ M.toNat:Nat):Int) else 0
theorem zbS {P M:Nat} (h:FldOk P M):ordV (P:Int) (M:Int)=((P ^ M:Nat):Int):=by
 obtain ⟨h1,h2,h3,h4⟩:=h
 unfold ordV
 rw [if_pos ⟨by omega,by omega,by omega,by simpa using h4⟩]
 simp
theorem zh1 {P M:Int} (h:ordV P M≠0):∃ P' M':Nat,P=P'/\M=M'/\FldOk P' M':=by
 unfold ordV at h
 by_cases e:2<=P/\1<=M/\M<=8/\P.toNat ^ M.toNat<=256
 ·exact ⟨P.toNat,M.toNat,by omega,by omega,by omega,by omega,by omega,e.2.2.2⟩
 ·rw [if_neg e] at h; exact absurd rfl h
theorem zc7 {P M:Int} (h:P<2∨M<1∨8<M):ordV P M=0:=by unfold ordV; rw [if_neg (by omega)]
def OrderPost (P M:Int) (w:World) (e:Ending) (w':World):Prop:=e=.returned (.int .i64 (ordV P M))/\Below w.heap.size w w'
theorem zaF {P M:Int} {w w':World} (h:ordV P M=0) (hB:Below w.heap.size w w'):OrderPost P M w (.returned (.int .i64 0)) w':=⟨by rw [h],hB⟩
theorem zbB (P M:Int) (A:Option Addr) (k c:Nat) (w:World) :
  Calls Tryz.prog 33 #[.agg #[.int .i64 P,.int .i64 M,.slice A k c]] w (OrderPost P M w):=by
 have hB:Below w.heap.size w (w.alloc (.cells #[.int .i64 P,.int .i64 M,.slice A k c] 24)):=(Below.refl _ _).alloc (Nat.le_refl _) _
 obtain ⟨f0,f1,f2⟩:=fieldBox (w:=w) (P:=P) (M:=M) (A:=A) (k:=k) (c:=c) 24
 obtain ⟨w0,hw0⟩:∃ W,W=w.alloc (.cells #[.int .i64 P,.int .i64 M,.slice A k c] 24):=⟨_,rfl⟩
 rw [<-hw0] at hB f0 f1 f2
 by_cases h1:P<2
 ·go_enter Tryz.func33, Tryz.ntmps33
  go_upto_region 1 with fail
  rw [<-hw0];clear hw0
  go_wp2
  go_ret
  exact zaF (zc7 (.inl h1)) hB
 by_cases h2:M<1
 ·have h1':¬ P<2:=h1
  go_enter Tryz.func33, Tryz.ntmps33
  go_upto_region 1 with fail
  rw [<-hw0];clear hw0
  go_wp2
  go_ret
  exact zaF (zc7 (.inr (.inl h2))) hB
 by_cases h3:8<M
 ·have h1':¬ P<2:=h1
  have h2':¬ M<1:=h2
  go_enter Tryz.func33, Tryz.ntmps33
  go_upto_region 1 with fail
  rw [<-hw0];clear hw0
  go_wp2
  go_ret
  exact zaF (zc7 (.inr (.inr h3))) hB
 obtain ⟨P,rfl⟩:=Int.eq_ofNat_of_zero_le (show 0<=P by omega)
 obtain ⟨M,rfl⟩:=Int.eq_ofNat_of_zero_le (show 0<=M by omega)
 have hP2:(2:Int)<=(P:Int):=by omega
 have hM1:(1:Int)<=(M:Int):=by omega
 have hM8:(M:Int)<=8:=by omega
 have hP0:¬ (P:Int)=0:=by omega
 have d1:decide ((P:Int)<2)=false:=by simp; omega
 have d2:decide ((M:Int)<1)=false:=by simp; omega
 have d3:decide ((8:Int)<(M:Int))=false:=by simp; omega
 clear h1 h2 h3
 go_enter Tryz.func33, Tryz.ntmps33
 go_upto_region 1 with fail
 rw [<-hw0];clear hw0
 go_wp2
 go_loop [3,4] (fun qv iv=>∃ i:Nat,iv=.int .i64 (i:Nat)/\i<=M/\qv=.int .i64 (P ^ i:Nat)/\P ^ i<=256) (fun _ iv=>M - (intOf iv).toNat)
 case atStart=>exact ⟨0,rfl,by omega,rfl,by simp⟩
 case round =>
  obtain ⟨i,rfl,hi,rfl,hq⟩:=hrel
  have hi0:(0:Int)<=(i:Int):=by omega
  obtain ⟨Q,hQ⟩:∃ Q,Q=P ^ i:=⟨_,rfl⟩
  rw [<-hQ] at hq;rw [<-hQ]
  have HQ:=hid hQ
  clear hQ
  by_cases hlt:i<M
  ·have hlt':(i:Int)<(M:Int):=by omega
   have hq0:(0:Int)<=(Q:Int):=by omega
   have hq1:(Q:Int)<=256:=by omega
   by_cases hbig:(256:Int) / (P:Int)<(Q:Int)
   ·have hno:ordV (P:Int) (M:Int)=0:=by
     unfold ordV
     rw [if_neg]
     intro hc
     have h1:(256:Int) / (P:Int)=((256 / P:Nat):Int):=by simp
     rw [h1] at hbig
     have h2:¬ Q*P<=256:=fun h=>by
      have:=(Nat.le_div_iff_mul_le (show 0<P by omega)).2 h
      omega
     have h3:P ^ (i+1)<=P ^ M:=Nat.pow_le_pow_right (by omega) (by omega)
     have h4:=hc.2.2.2
     simp only [Int.toNat_natCast] at h4
     rw [Nat.pow_succ,<-HQ.out] at h3
     omega
    have HNO:=hid hno
    clear hno
    go_wp2
    go_ret
    exact zaF HNO.out hB
   ·have hnb:¬ (256:Int) / (P:Int)<(Q:Int):=hbig
    have hle:Q*P<=256:=by
     have h1:(256:Int) / (P:Int)=((256 / P:Nat):Int):=by simp
     rw [h1] at hbig
     have h2:Q<=256 / P:=by omega
     exact (Nat.le_div_iff_mul_le (by omega)).1 h2
    have hmul:(Q:Int)*(P:Int)=((Q*P:Nat):Int):=by simp
    obtain ⟨R,hR⟩:∃ R,R=Q*P:=⟨_,rfl⟩
    rw [<-hR] at hle hmul
    have HR:Hid (R=P ^ (i+1)):=by rw [hR,HQ.out,Nat.pow_succ]; rfl
    have hwr:IntKind.i64.wrap ((Q:Int)*(P:Int))=(R:Int):=by rw [hmul]; exact IntWalk.i64_in _ (by omega)
    clear hR hbig
    go_wp2
    go_round
    case rel=>exact ⟨i+1,by go_num,by omega,by rw [<-HR.out],by rw [<-HR.out]; exact hle⟩
    case measure=>simp [intOf]; omega
  ·obtain rfl:i=M:=by omega
   have hlt':¬ (i:Int)<(i:Int):=by omega
   go_wp2
   go_ret
   exact ⟨by rw [zbS ⟨by omega,by omega,by omega,by rw [<-HQ.out]; exact hq⟩,<-HQ.out]; rfl,hB⟩
def PrimeB (P:Nat):Prop:=∀ d,2<=d->d<P->P % d≠0
def PrimePost (P:Nat) (w:World) (e:Ending) (w':World):Prop:=∃ v:Bool,e=.returned (.bool v)/\(v=true↔PrimeB P)/\w=w'
theorem zhg (P:Nat) (w:World) (hP:P<=256) :
  Calls Tryz.prog 139 #[.int .i64 (P:Nat)] w (PrimePost P w):=by
 go_enter Tryz.func139, Tryz.ntmps139
 go_wp2
 go_loop [3] (fun iv=>∃ d:Nat,iv=.int .i64 (d:Nat)/\2<=d/\d<=P+2/\∀ d',2<=d'->d'<d->P % d'≠0) (fun iv=>P+2 - (intOf iv).toNat)
 case atStart=>exact ⟨2,rfl,by omega,by omega,fun d' h1 h2=>by omega⟩
 case round =>
  obtain ⟨d,rfl,h2,hd,hg⟩:=hrel
  have HG:=hid hg
  clear hg
  have hd2:(2:Int)<=(d:Int):=by omega
  have hd0:¬ (d:Int)=0:=by omega
  have hP0:(0:Int)<=(P:Int):=by omega
  by_cases hlt:d<P
  ·have hlt':(d:Int)<(P:Int):=by omega
   have hmod:(P:Int) % (d:Int)=((P % d:Nat):Int):=by simp
   obtain ⟨r,hr⟩:∃ r,r=P % d:=⟨_,rfl⟩
   rw [<-hr] at hmod
   have HR:=hid hr
   clear hr
   by_cases h0:r=0
   ·subst h0
    go_wp2
    go_ret
    exact ⟨false,rfl,⟨(fun h=>by cases h),fun h=>absurd HR.out.symm (h d h2 hlt)⟩,rfl⟩
   ·have hb:((r:Int) == 0)=false:=by simp; omega
    have hnx:Hid (∀ d',2<=d'->d'<d+1->P % d'≠0):=fun d' e1 e2=>by
     by_cases e:d'=d
     ·rw [e,<-HR.out]; exact h0
     ·exact HG.out d' e1 (by omega)
    go_wp2
    go_round
    case rel=>exact ⟨d+1,by go_num,by omega,by omega,hnx.out⟩
    case measure=>simp [intOf]; omega
  ·have hlt':¬ (d:Int)<(P:Int):=by omega
   go_wp2
   go_ret
   exact ⟨true,rfl,⟨fun _ d' e1 e2=>HG.out d' e1 (by omega),fun _=>rfl⟩,rfl⟩
def dig (p x i:Nat):Nat:=x / p ^ i % p
theorem zdV (x p n:Nat) (w:World) (hx:x<=1048576) (hp:1<=p) (hp2:p<=256) (hn:n<=64) :
  Calls Tryz.prog 208 #[.int .i64 (x:Nat),.int .i64 (p:Nat),.int .i64 (n:Nat)] w fun e w'=>e=.returned (.slice (some ⟨w.heap.size,0,none⟩) n n)/\w'.rowIs w.heap.size 3 n (fun i=>.int .i64 (dig p x i:Nat))/\Below w.heap.size w w':=by
 have hmk:=fun W=>zaf (P:=Tryz.prog) 22 3 _ 8 Tryz.underlying22 Tryz.infoInt rfl (n:Int) (by omega) (by omega) (by omega) W
 simp only [Int.toNat_natCast] at hmk
 have row:=World.rowIs_made w (.int .i64 0) n 3
 have hB:Below w.heap.size w (w.alloc (.cells (madeCells #[.int .i64 0] n) 3)):=(Below.refl _ _).alloc (Nat.le_refl _) _
 have hp1:(1:Int)<=(p:Int):=by omega
 have hp0:¬ (p:Int)=0:=by omega
 have hpm:(p:Int)<=256:=by omega
 go_enter Tryz.func208, Tryz.ntmps208
 go_wp2
 obtain ⟨w1,hw1⟩:∃ W,W=w.alloc (.cells (madeCells #[.int .i64 0] n) 3):=⟨_,rfl⟩
 obtain ⟨g,hg⟩:∃ g,g=w.heap.size:=⟨_,rfl⟩
 rw [<-hw1,<-hg];rw [<-hw1] at hB row;rw [<-hg] at row
 have hgB:w.heap.size<=g:=by omega
 have HGE:=hid hg
 clear hw1 hg hmk
 go_loopg [0,8] n (fun gg xv iv wx=>∃ i:Nat,iv=.int .i64 (i:Nat)/\xv=.int .i64 (x / p ^ i:Nat)/\i<=n/\n<=i+gg/\wx.rowIs g 3 n (fun j=>.int .i64 (if j<i then (dig p x j:Nat) else 0:Int))/\Below w.heap.size w wx)
 case atStart=>exact ⟨0,rfl,by simp,by omega,by omega,row.congr fun i _=>rfl,hB⟩
 case round =>
  clear row hB
  obtain ⟨i,rfl,rfl,hi,hig,row,hB⟩:=hrel
  have hi0:(0:Int)<=(i:Int):=by omega
  have hle:x / p ^ i<=x:=Nat.div_le_self _ _
  have hst:x / p ^ (i+1)=x / p ^ i / p:=by rw [Nat.pow_succ,Nat.div_div_eq_div_mul]
  have hdg:dig p x i=x / p ^ i % p:=rfl
  obtain ⟨y,hy⟩:∃ y,y=x / p ^ i:=⟨_,rfl⟩
  rw [<-hy] at hle hst hdg;rw [<-hy]
  have HST:=hid hst
  have HDG:=hid hdg
  clear hy hst hdg
  by_cases hlt:i<n
  ·have hlt':(i:Int)<(n:Int):=by omega
   have hy0:(0:Int)<=(y:Int):=by omega
   have hy1:(y:Int)<=1048576:=by omega
   have hmod:(y:Int) % (p:Int)=((y % p:Nat):Int):=by simp
   have hdiv:(y:Int) / (p:Int)=((y / p:Nat):Int):=by simp
   obtain ⟨r,hr⟩:∃ r,r=y % p:=⟨_,rfl⟩
   obtain ⟨z,hz⟩:∃ r,r=y / p:=⟨_,rfl⟩
   rw [<-hr] at hmod;rw [<-hz] at hdiv
   have hz0:(0:Int)<=(z:Int):=by omega
   have hz1:(z:Int)<=1048576:=by have:y / p<=y:=Nat.div_le_self _ _; omega
   have HR:=hid hr
   have HZ:=hid hz
   clear hr hz
   have c0:=row.cell hlt
   have z0:=row.frozen i
   have row2:(wr.setCell ⟨g,i,none⟩ (.int .i64 (r:Int))).rowIs g 3 n (fun j=>.int .i64 (if j<i+1 then (dig p x j:Nat) else 0:Int)):=(row.set i _).congr fun j hj=>by
    by_cases e:j=i
    ·subst e
     rw [if_pos rfl,if_pos (by omega),HDG.out,HR.out]
    ·rw [if_neg e]
     by_cases e2:j<i
     ·rw [if_pos e2,if_pos (by omega)]
     ·rw [if_neg e2,if_neg (by omega)]
   have HB2:Hid (Below w.heap.size w (wr.setCell ⟨g,i,none⟩ (.int .i64 (r:Int)))):=hB.setCell hgB _
   have HROW2:=hid row2
   clear row2
   go_wp2
   go_roundg (gk - 1)
   case measure=>omega
   case rel=>exact ⟨i+1,by go_num,by rw [HST.out,HZ.out],by omega,by omega,HROW2.out,HB2.out⟩
  ·obtain rfl:i=n:=by omega
   have hlt':¬ (i:Int)<(i:Int):=by omega
   have hrow:Hid (wr.rowIs g 3 i (fun j=>.int .i64 (dig p x j:Nat))):=row.congr fun j hj=>by rw [if_pos hj]
   clear row
   go_wp2
   go_ret
   exact ⟨by rw [HGE.out]; rfl,by rw [<-HGE.out]; exact hrow.out,hB⟩
def fldCell (a b c:Value) (i:Nat):Value:=if i=0 then a else if i=1 then b else c
theorem KB.qc0 {w:World} {g:Nat} {T:TypeId} {a b c:Value} (h:w.rowIs g T 3 (fldCell a b c)) : w.cell? ⟨g,0,none⟩=some a:=h.cell (i:=0) (by decide)
theorem KB.qc1 {w:World} {g:Nat} {T:TypeId} {a b c:Value} (h:w.rowIs g T 3 (fldCell a b c)) : w.cell? ⟨g,1,none⟩=some b:=h.cell (i:=1) (by decide)
theorem KB.qc2 {w:World} {g:Nat} {T:TypeId} {a b c:Value} (h:w.rowIs g T 3 (fldCell a b c)) : w.cell? ⟨g,2,none⟩=some c:=h.cell (i:=2) (by decide)
open KB
theorem zad {w:World} {a b c:Value} {T:TypeId}:(w.alloc (.cells #[a,b,c] T)).rowIs w.heap.size T 3 (fldCell a b c) :=
 ⟨_,heap_alloc_new w _,rfl,fun i hi=>by match i,hi with | 0,_=>rfl | 1,_=>rfl | 2,_=>rfl⟩
theorem zaj {w w':World} {g g2:Nat} {t:TypeId} {n:Nat} {f:Nat->Value} (h:w.rowIs g2 t n f) (hg:w.grownBy w' (some g)) (hne:g2≠g):w'.rowIs g2 t n f:=h.of_block (hg.block g2 h.lt (by simp; omega))
theorem zaO (w:World) (g i:Nat) (v:Value):w.grownBy (w.setCell ⟨g,i,none⟩ v) (some g):=by
 refine ⟨rfl,rfl,rfl,by simp,fun k hk hne=>?_⟩
 simp only [World.setCell,Array.getElem?_modify]
 rw [if_neg (fun e=>hne (by rw [e]))]
def isB (q:Nat) (x:Int):Bool:=decide (0<=x/\x<q)
def inV (q:Nat) (x:Int):Nat:=if 0<=x/\x<q then x.toNat else 0
theorem zex {q:Nat} (hq:0<q) (x:Int):inV q x<q:=by unfold inV; split <;> omega
theorem zaE {q x:Nat} (h:x<q):inV q (x:Int)=x:=by unfold inV; rw [if_pos ⟨by omega,by omega⟩]; simp
theorem zey (P M:Nat) (A:Option Addr) (k c:Nat) (x:Int) (w:World) (hf:FldOk P M) :
  Calls Tryz.prog 184 #[.agg #[.int .i64 (P:Nat),.int .i64 (M:Nat),.slice A k c],.int .i64 x] w fun e w'=>e=.returned (.bool (isB (P ^ M) x))/\Below w.heap.size w w':=by
 by_cases h0:0<=x
 ·have hv:Hid (isB (P ^ M) x=decide (x<(P ^ M:Nat))):=by show _=_; simp [isB,h0]
  have ho:=hid (zbS hf)
  have hB:Below w.heap.size w (w.alloc (.cells #[.int .i64 (P:Nat),.int .i64 (M:Nat),.slice A k c] 24)):=(Below.refl _ _).alloc (Nat.le_refl _) _
  have rf:=zad (w:=w) (a:=.int .i64 (P:Nat)) (b:=.int .i64 (M:Nat)) (c:=.slice A k c) (T := 24)
  obtain ⟨w0,hw0⟩:∃ W,W=w.alloc (.cells #[.int .i64 (P:Nat),.int .i64 (M:Nat),.slice A k c] 24):=⟨_,rfl⟩
  rw [<-hw0] at hB rf
  go_enter Tryz.func184, Tryz.ntmps184
  go_upto_region 1 with fail
  rw [<-hw0];clear hw0
  have q0:=qc0 rf
  have q1:=qc1 rf
  have q2:=qc2 rf
  go_wp2_with fail
  refine (zbB (P:Int) (M:Int) A k c _).mono ?_
  rintro e w1 ⟨rfl,kb⟩
  rw [ho.out];replace hB:=onS hB kb;clear kb q0 q1 q2
  obtain ⟨Q,hQ⟩:∃ Q,Q=P ^ M:=⟨_,rfl⟩
  rw [<-hQ] at hv;rw [<-hQ]
  have HQ:=hid hQ
  clear hQ
  go_wp2
  go_ret
  exact ⟨by rw [<-HQ.out,hv.out]; rfl,hB⟩
 ·have hv:Hid (isB (P ^ M) x=false):=by show _=_; simp [isB]; omega
  have hB:Below w.heap.size w (w.alloc (.cells #[.int .i64 (P:Nat),.int .i64 (M:Nat),.slice A k c] 24)):=(Below.refl _ _).alloc (Nat.le_refl _) _
  have rf:=zad (w:=w) (a:=.int .i64 (P:Nat)) (b:=.int .i64 (M:Nat)) (c:=.slice A k c) (T := 24)
  obtain ⟨w0,hw0⟩:∃ W,W=w.alloc (.cells #[.int .i64 (P:Nat),.int .i64 (M:Nat),.slice A k c] 24):=⟨_,rfl⟩
  rw [<-hw0] at hB rf
  go_enter Tryz.func184, Tryz.ntmps184
  go_upto_region 1 with fail
  rw [<-hw0];clear hw0
  go_wp2
  go_ret
  exact ⟨by rw [hv.out]; rfl,hB⟩
theorem zin (P M:Nat) (A:Option Addr) (k c:Nat) (x:Int) (w:World) (hf:FldOk P M) :
  Calls Tryz.prog 228 #[.agg #[.int .i64 (P:Nat),.int .i64 (M:Nat),.slice A k c],.int .i64 x] w fun e w'=>e=.returned (.int .i64 (inV (P ^ M) x:Nat))/\Below w.heap.size w w':=by
 have hB:Below w.heap.size w (w.alloc (.cells #[.int .i64 (P:Nat),.int .i64 (M:Nat),.slice A k c] 24)):=(Below.refl _ _).alloc (Nat.le_refl _) _
 have rf:=zad (w:=w) (a:=.int .i64 (P:Nat)) (b:=.int .i64 (M:Nat)) (c:=.slice A k c) (T := 24)
 obtain ⟨w0,hw0⟩:∃ W,W=w.alloc (.cells #[.int .i64 (P:Nat),.int .i64 (M:Nat),.slice A k c] 24):=⟨_,rfl⟩
 rw [<-hw0] at hB rf
 go_enter Tryz.func228, Tryz.ntmps228
 go_upto_region 1 with fail
 rw [<-hw0];clear hw0
 have q0:=qc0 rf
 have q1:=qc1 rf
 have q2:=qc2 rf
 go_wp2_with fail
 refine (zey P M A k c x _ hf).mono ?_
 rintro e w1 ⟨rfl,kb⟩
 replace hB:=onS hB kb;clear kb q0 q1 q2
 by_cases hx:0<=x/\x<(P ^ M:Nat)
 ·have hv:Hid ((inV (P ^ M) x:Int)=x):=by show _=_; unfold inV; rw [if_pos hx]; omega
  have hd:isB (P ^ M) x=true:=by unfold isB; simpa using hx
  rw [hd];clear hx hd
  go_wp2
  go_ret
  exact ⟨by rw [hv.out]; rfl,hB⟩
 ·have hv:Hid (inV (P ^ M) x=0):=by show _=_; unfold inV; rw [if_neg hx]
  have hd:isB (P ^ M) x=false:=by unfold isB; simpa using hx
  rw [hd];clear hx hd
  go_wp2
  go_ret
  exact ⟨by rw [hv.out]; rfl,hB⟩
def RowPost (n:Nat) (f:Nat->Value) (w:World) (e:Ending) (w':World):Prop:=∃ g,e=.returned (.slice (some ⟨g,0,none⟩) n n)/\w.heap.size<=g/\w'.rowIs g 3 n f/\Below w.heap.size w w'
theorem za3 (P M:Nat) (A:Option Addr) (k c:Nat) (x:Int) (w:World) (hf:FldOk P M) :
  Calls Tryz.prog 175 #[.agg #[.int .i64 (P:Nat),.int .i64 (M:Nat),.slice A k c],.int .i64 x] w (RowPost M (fun i=>.int .i64 (dig P (inV (P ^ M) x) i:Nat)) w):=by
 have hP2:=hf.1
 have hP:=hf.P_le
 have hM8:=hf.2.2.1
 have hin:=zex (q:=P ^ M) (Nat.pow_pos (by omega)) x
 have hq:=hf.2.2.2
 have hB:Below w.heap.size w (w.alloc (.cells #[.int .i64 (P:Nat),.int .i64 (M:Nat),.slice A k c] 24)):=(Below.refl _ _).alloc (Nat.le_refl _) _
 have rf:=zad (w:=w) (a:=.int .i64 (P:Nat)) (b:=.int .i64 (M:Nat)) (c:=.slice A k c) (T := 24)
 obtain ⟨w0,hw0⟩:∃ W,W=w.alloc (.cells #[.int .i64 (P:Nat),.int .i64 (M:Nat),.slice A k c] 24):=⟨_,rfl⟩
 rw [<-hw0] at hB rf
 go_enter Tryz.func175, Tryz.ntmps175
 go_upto_region 1 with fail
 rw [<-hw0];clear hw0
 have HS:Hid (∀ w':World,w'.rowIs w.heap.size 24 3 (fldCell (.int .i64 (P:Nat)) (.int .i64 (M:Nat)) (.slice A k c))->w'.cell? ⟨w.heap.size,0,none⟩=some (.int .i64 (P:Nat))/\w'.cell? ⟨w.heap.size,1,none⟩=some (.int .i64 (M:Nat))/\w'.cell? ⟨w.heap.size,2,none⟩=some (.slice A k c)):=fun w' hf  => ⟨hf.cell (i:=0) (by omega),hf.cell (i:=1) (by omega),hf.cell (i:=2) (by omega)⟩
 refine wp_region_held_drew (S:=fun w'=>w'.cell? ⟨w.heap.size,0,none⟩=some (.int .i64 (P:Nat))/\w'.cell? ⟨w.heap.size,1,none⟩=some (.int .i64 (M:Nat))/\w'.cell? ⟨w.heap.size,2,none⟩=some (.slice A k c)) (by kernel_rfl) (HS.out _ (show World.rowIs (World.drew _) _ _ _ _ from rf)) (fun hHeld=>?_)
 obtain ⟨w1,hw⟩:∃ W,W=World.drew w0:=⟨_,rfl⟩
 have kb:Below w0.heap.size w0 w1:=by rw [hw]; exact (Below.refl _ _).drew
 rw [<-hw] at hHeld ⊢;clear hw;replace rf:=zaa rf kb;replace hB:=onS hB kb;clear kb
 refine tkq 0 (h:=tkq 1 (h:=tkq 3 (h:=tkq 4 (h:=tkq 5 (h:=tkq 6 (h:=?_))))))
 refine rdq 2 (h:=fun K hK=>?_)
 go_simp
 go_wp2_with fail
 refine (zin P M A k c x _ hf).mono ?_
 rintro e w2 ⟨rfl,kb⟩
 replace rf:=zaa rf kb;replace hB:=onS hB kb;clear kb
 obtain ⟨y,hy⟩:∃ y,y=inV (P ^ M) x:=⟨_,rfl⟩
 rw [<-hy] at hin;rw [<-hy]
 have HY:=hid hy
 clear hy
 refine bkq hK (HS.out _ rf) (h:=fun hHeld=>?_)
 clear hK K
 refine rdq 7 (h:=fun K hK=>?_)
 go_simp
 go_wp2_with fail
 refine (zdV y P M _ (by omega) (by omega) (by omega) (by omega)).mono ?_
 have hgt:=hB.size
 obtain ⟨g,hg⟩:∃ g,g=w2.heap.size:=⟨_,rfl⟩
 rw [<-hg] at hgt ⊢
 rintro e w3 ⟨rfl,rd,kb⟩
 rw [hg] at kb;replace rf:=zaa rf kb;replace hB:=onS hB kb;clear kb;clear hg
 refine bkq hK (HS.out _ rf) (h:=fun hHeld=>?_)
 clear hK K
 refine tkq 8 (h:=?_)
 refine wpAnyH_done (by kernel_rfl) ?_ _
 clear hHeld;clear HS
 go_wp2
 go_ret
 exact ⟨g,rfl,hgt,by rw [<-HY.out]; exact rd,hB⟩
def valN (p:Nat) (f:Nat->Nat):Nat->Nat
 | 0=>0
 | n+1=>f 0+p*valN p (fun i=>f (i+1)) n
theorem za9 {p:Nat}:∀ {n:Nat} {f:Nat->Nat},(∀ i,i<n->f i<p)->valN p f n<p ^ n
 | 0,_,_=>by show 0<1; omega
 | n+1,f,h=>by
  have h1:=za9 (p:=p) (n:=n) (f:=fun i=>f (i+1)) fun i hi=>h (i+1) (by omega)
  have h0:=h 0 (by omega)
  show f 0+p*_<p ^ (n+1)
  have h2:p*(valN p (fun i=>f (i+1)) n+1)<=p*p ^ n:=Nat.mul_le_mul_left p h1
  rw [Nat.mul_add,Nat.mul_one] at h2;rw [Nat.pow_succ,Nat.mul_comm (p ^ n) p]
  omega
theorem zaP {p:Nat}:∀ {n:Nat} {f g:Nat->Nat},(∀ i,i<n->f i=g i)->valN p f n=valN p g n
 | 0,_,_,_=>rfl
 | n+1,f,g,h=>by
  show f 0+p*_=g 0+p*_
  rw [h 0 (by omega),zaP fun i hi=>h (i+1) (by omega)]
theorem zb8 (P M:Nat) (A:Option Addr) (k c:Nat) (T:Option Addr) (n d:Nat) (f:Nat->Nat) (w:World) (hP2:2<=P) (hP:P<=256) (h:IntsR w w.heap.size T n (fun i=>(f i:Nat))) (hd:Hid (∀ i,i<n->f i<P)) (hn:P ^ n<=256) (hn8:n<=8) :
  Calls Tryz.prog 176 #[.agg #[.int .i64 (P:Nat),.int .i64 (M:Nat),.slice A k c],.slice T n d] w fun e w'=>e=.returned (.int .i64 (valN P f n:Nat))/\Below w.heap.size w w':=by
 have hB:Below w.heap.size w (w.alloc (.cells #[.int .i64 (P:Nat),.int .i64 (M:Nat),.slice A k c] 24)):=(Below.refl _ _).alloc (Nat.le_refl _) _
 have rf:=zad (w:=w) (a:=.int .i64 (P:Nat)) (b:=.int .i64 (M:Nat)) (c:=.slice A k c) (T := 24)
 obtain ⟨w0,hw0⟩:∃ W,W=w.alloc (.cells #[.int .i64 (P:Nat),.int .i64 (M:Nat),.slice A k c] 24):=⟨_,rfl⟩
 rw [<-hw0] at hB rf
 go_enter Tryz.func176, Tryz.ntmps176
 go_upto_region 1 with fail
 rw [<-hw0];clear hw0
 go_wp2
 go_loopg [5,6] n (fun gg xv iv wx=>∃ j:Nat,iv=.int .i64 ((n:Int) - 1 - (j:Nat))/\xv=.int .i64 (valN P (fun i=>f (n - j+i)) j:Nat)/\j<=n/\n<=j+gg/\wx.rowIs w.heap.size 24 3 (fldCell (.int .i64 (P:Nat)) (.int .i64 (M:Nat)) (.slice A k c))/\Below w.heap.size w wx)
 case atStart=>exact ⟨0,by go_num,rfl,by omega,by omega,rf,hB⟩
 case round =>
  clear rf hB
  obtain ⟨j,rfl,rfl,hj,hjg,rf,hB⟩:=hrel
  have hvl:=za9 (p:=P) (n:=j) (f:=fun i=>f (n - j+i)) (fun i hi=>hd.out _ (by omega))
  have hpw:P ^ j<=P ^ n:=Nat.pow_le_pow_right (by omega) hj
  by_cases hlt:j<n
  ·have hge:(0:Int)<=(n:Int) - 1 - (j:Int):=by omega
   obtain ⟨i,hi⟩:∃ i:Nat,i=n - 1 - j:=⟨_,rfl⟩
   have hii:(n:Int) - 1 - (j:Int)=(i:Int):=by omega
   have hin:i<n:=by omega
   have hin':(i:Int)<(n:Int):=by omega
   have hi0:(0:Int)<=(i:Int):=by omega
   rw [hii]
   obtain ⟨b,o,rfl,hb,e0⟩:=(h.on hB).at hin
   have hfi:=hd.out i hin
   have hnx:valN P (fun t=>f (n - (j+1)+t)) (j+1)=f i+P*valN P (fun t=>f (n - j+t)) j:=by
    show f (n - (j+1)+0)+P*valN P (fun t=>f (n - (j+1)+(t+1))) j=_
    rw [show n - (j+1)+0=i by omega]
    congr 2
    exact zaP fun t _=>by rw [show n - (j+1)+(t+1)=n - j+t by omega]
   obtain ⟨V,hV⟩:∃ V,V=valN P (fun t=>f (n - j+t)) j:=⟨_,rfl⟩
   obtain ⟨D,hD⟩:∃ D,D=f i:=⟨_,rfl⟩
   rw [<-hV] at hvl hnx;rw [<-hD] at e0 hfi hnx;rw [<-hV]
   have HNX:=hid hnx
   have HI:=hid hi
   have HII:=hid hii
   clear hV hD hnx hi hii hge
   have hV0:(0:Int)<=(V:Int):=by omega
   have hV1:(V:Int)<=256:=by omega
   have hD0:(0:Int)<=(D:Int):=by omega
   have hD1:(D:Int)<=256:=by omega
   have hVP:V*P<=256*256:=Nat.mul_le_mul (by omega) hP
   have hmul:(V:Int)*(P:Int)=((V*P:Nat):Int):=by simp
   obtain ⟨R,hR⟩:∃ R,R=V*P:=⟨_,rfl⟩
   rw [<-hR] at hVP hmul
   have HR:=hid hR
   clear hR
   have hw1:IntKind.i64.wrap ((V:Int)*(P:Int))=(R:Int):=by rw [hmul]; exact IntWalk.i64_in _ (by omega)
   have hw2:IntKind.i64.wrap ((R:Int)+(D:Int))=(R:Int)+(D:Int):=IntWalk.i64_in _ (by omega)
   have hw3:IntKind.i64.wrap (R:Int)=(R:Int):=IntWalk.i64_in _ (by omega)
   have q0:=qc0 rf
   have q1:=qc1 rf
   have q2:=qc2 rf
   go_wp2
   go_quiet (fail)
   clear q0 q1 q2
   go_wp2
   go_roundg (gk - 1)
   case measure=>omega
   case rel=>exact ⟨j+1,by have:=HII.out; go_num,by rw [HNX.out,Nat.mul_comm P V,<-HR.out]; go_num,by omega,by omega,zbi rf _,zac hB _⟩
  ·obtain rfl:j=n:=by omega
   have hge:¬ (0:Int)<=(j:Int) - 1 - (j:Int):=by omega
   have hge2:¬ (j:Int)<=(j:Int) - 1:=by omega
   have hv:valN P (fun i=>f (j - j+i)) j=valN P f j:=zaP fun i _=>by rw [show j - j+i=i by omega]
   rw [hv] at hvl ⊢
   obtain ⟨V,hV⟩:∃ V,V=valN P f j:=⟨_,rfl⟩
   rw [<-hV] at hvl ⊢
   have HV:=hid hV
   clear hV hv rf
   go_wp2
   go_ret
   exact ⟨by rw [HV.out]; rfl,hB⟩
def addF (P M x y:Nat):Nat:=valN P (fun i=>(dig P x i+dig P y i) % P) M
theorem zbT {p:Nat} (hp:0<p) (x i:Nat):dig p x i<p:=Nat.mod_lt _ hp
theorem zc8 {P M:Nat} (hP:0<P) (x y:Nat):addF P M x y<P ^ M:=za9 fun _ _=>Nat.mod_lt _ hP
theorem rowInts {w:World} {g n:Nat} {f:Nat->Nat} (h:w.rowIs g 3 n (fun i=>.int .i64 (f i:Nat))):IntsR w w.heap.size (some ⟨g,0,none⟩) n (fun i=>(f i:Nat)):=zbk h
theorem zhh (P M:Nat) (A:Option Addr) (k c:Nat) (x y:Int) (w:World) (hf:FldOk P M) :
  Calls Tryz.prog 102 #[.agg #[.int .i64 (P:Nat),.int .i64 (M:Nat),.slice A k c],.int .i64 x,.int .i64 y] w fun e w'=>e=.returned (.int .i64 (addF P M (inV (P ^ M) x) (inV (P ^ M) y):Nat))/\Below w.heap.size w w':=by
 have hP2:=hf.1
 have hP:=hf.P_le
 have hM8:=hf.2.2.1
 have hq:=hf.2.2.2
 have hB:Below w.heap.size w (w.alloc (.cells #[.int .i64 (P:Nat),.int .i64 (M:Nat),.slice A k c] 24)):=(Below.refl _ _).alloc (Nat.le_refl _) _
 have rf:=zad (w:=w) (a:=.int .i64 (P:Nat)) (b:=.int .i64 (M:Nat)) (c:=.slice A k c) (T := 24)
 obtain ⟨w0,hw0⟩:∃ W,W=w.alloc (.cells #[.int .i64 (P:Nat),.int .i64 (M:Nat),.slice A k c] 24):=⟨_,rfl⟩
 rw [<-hw0] at hB rf
 go_enter Tryz.func102, Tryz.ntmps102
 go_upto_region 1 with fail
 rw [<-hw0];clear hw0
 have hw0:=rf.lt
 have q0:=qc0 rf
 have q1:=qc1 rf
 have q2:=qc2 rf
 go_wp2_with fail
 refine (za3 P M A k c x _ hf).mono ?_
 rintro e w1 ⟨ga,rfl,hga,ra,kb⟩
 replace rf:=zaa rf kb
 have hga':=hB.size
 replace hB:=onS hB kb;clear kb q0 q1 q2
 have hal:=ra.lt
 have q0:=qc0 rf
 have q1:=qc1 rf
 have q2:=qc2 rf
 go_wp2_with fail
 refine (za3 P M A k c y _ hf).mono ?_
 rintro e w2 ⟨gb,rfl,hgb,rb,kb⟩
 replace rf:=zaa rf kb;replace ra:=zaa ra kb;replace hB:=onS hB kb;clear kb q0 q1 q2
 obtain ⟨X,hX⟩:∃ X,X=inV (P ^ M) x:=⟨_,rfl⟩
 obtain ⟨Y,hY⟩:∃ X,X=inV (P ^ M) y:=⟨_,rfl⟩
 rw [<-hX] at ra;rw [<-hY] at rb
 have HX:=hid hX
 have HY:=hid hY
 clear hX hY
 have hgab:ga≠gb:=by omega
 have hgfa:w.heap.size≠ga:=by omega
 have hgaB:w.heap.size<=ga:=by omega
 clear hga hgb hal hga' hw0
 go_wp2
 go_loopg [9] M (fun gg iv wx=>∃ i:Nat,iv=.int .i64 (i:Nat)/\i<=M/\M<=i+gg/\wx.rowIs ga 3 M (fun t=>.int .i64 (if t<i then ((dig P X t+dig P Y t) % P:Nat) else (dig P X t:Nat):Nat))/\wx.rowIs gb 3 M (fun t=>.int .i64 (dig P Y t:Nat))/\wx.rowIs w.heap.size 24 3 (fldCell (.int .i64 (P:Nat)) (.int .i64 (M:Nat)) (.slice A k c))/\Below w.heap.size w wx)
 case atStart=>exact ⟨0,rfl,by omega,by omega,ra.congr fun t _=>rfl,rb,rf,hB⟩
 case round =>
  clear ra rb rf hB
  obtain ⟨i,rfl,hi,hig,ra,rb,rf,hB⟩:=hrel
  have hi0:(0:Int)<=(i:Int):=by omega
  by_cases hlt:i<M
  ·have hlt':(i:Int)<(M:Int):=by omega
   have hda:=zbT (p:=P) (by omega) X i
   have hdb:=zbT (p:=P) (by omega) Y i
   have ca:wr.cell? ⟨ga,i,none⟩=some (.int .i64 (dig P X i:Nat)):=by have:=ra.cell hlt; simpa using this
   have cb:wr.cell? ⟨gb,i,none⟩=some (.int .i64 (dig P Y i:Nat)):=rb.cell hlt
   have q0:=qc0 rf
   have q1:=qc1 rf
   have q2:=qc2 rf
   have za:=ra.frozen i
   obtain ⟨R,hR⟩:∃ R,R=(dig P X i+dig P Y i) % P:=⟨_,rfl⟩
   have hRP:R<P:=by rw [hR]; exact Nat.mod_lt _ (by omega)
   have ra2:(wr.setCell ⟨ga,i,none⟩ (.int .i64 (R:Int))).rowIs ga 3 M (fun t=>.int .i64 (if t<i+1 then ((dig P X t+dig P Y t) % P:Nat) else (dig P X t:Nat):Nat)):=(ra.set i _).congr fun t ht=>by
    by_cases e:t=i
    ·subst e
     rw [if_pos rfl,if_pos (by omega),hR]
    ·rw [if_neg e]
     by_cases e2:t<i
     ·rw [if_pos e2,if_pos (by omega)]
     ·rw [if_neg e2,if_neg (by omega)]
   have rb2:=rb.setOther (a:=⟨ga,i,none⟩) (by simpa using fun h=>hgab h.symm) (.int .i64 (R:Int))
   have rf2:=rf.setOther (a:=⟨ga,i,none⟩) (by simpa using hgfa) (.int .i64 (R:Int))
   have hB2:Below w.heap.size w (wr.setCell ⟨ga,i,none⟩ (.int .i64 (R:Int))):=hB.setCell hgaB _
   have RA:=hid ra2
   have RB:=hid rb2
   have RF:=hid rf2
   have HB:=hid hB2
   obtain ⟨D,hD⟩:∃ D,D=dig P X i:=⟨_,rfl⟩
   obtain ⟨E,hE⟩:∃ D,D=dig P Y i:=⟨_,rfl⟩
   rw [<-hD] at ca hda hR;rw [<-hE] at cb hdb hR;clear ra2 rb2 rf2 hB2 hD hE ra rb rf hB
   have hP0:¬ (P:Int)=0:=by omega
   have hPp:(2:Int)<=(P:Int):=by omega
   have hR0:(0:Int)<=(R:Int):=by omega
   have hR1:(R:Int)<=256:=by omega
   have hD0:(0:Int)<=(D:Int):=by omega
   have hE0:(0:Int)<=(E:Int):=by omega
   have hsum0:(0:Int)<=(D:Int)+(E:Int):=by omega
   have htm:((D:Int)+(E:Int)).tmod (P:Int)=(R:Int):=by rw [Int.tmod_eq_emod_of_nonneg hsum0,hR]; simp
   have hws:IntKind.i64.wrap ((D:Int)+(E:Int))=(D:Int)+(E:Int):=IntWalk.i64_in _ (by omega)
   have hwm:IntKind.i64.wrap (R:Int)=(R:Int):=IntWalk.i64_in _ (by omega)
   have hem:((D:Int)+(E:Int)) % (P:Int)=(R:Int):=by rw [hR]; simp
   have hPn:¬ P=0:=by omega
   clear hR
   go_wp2
   go_still_tail 14,(by kernel_rfl)
   change wpList _ _ _ _ _ wr.drew
   go_wp2
   clear htm hws hwm hem
   go_roundg (gk - 1)
   case measure=>omega
   case rel=>exact ⟨i+1,by go_num,by omega,by omega,RA.out,RB.out,RF.out,HB.out.drew⟩
  ·obtain rfl:M=i:=by omega
   have hlt':¬ (M:Int)<(M:Int):=by omega
   have hr:wr.rowIs ga 3 M (fun t=>.int .i64 ((dig P X t+dig P Y t) % P:Nat)):=ra.congr fun t ht=>by rw [if_pos ht]
   have hint:=rowInts hr
   have hval:Hid (valN P (fun t=>(dig P X t+dig P Y t) % P) M=addF P M (inV (P ^ M) x) (inV (P ^ M) y)):=by rw [HX.out,HY.out]; rfl
   have hlts:Hid (∀ t,t<M->(dig P X t+dig P Y t) % P<P):=fun t _=>Nat.mod_lt _ (by omega)
   clear ra rb hr
   have q0:=qc0 rf
   have q1:=qc1 rf
   have q2:=qc2 rf
   go_wp2_with fail
   refine (zb8 P M A k c (some ⟨ga,0,none⟩) M M _ _ hP2 hP hint hlts hq hM8).mono ?_
   rintro e w3 ⟨rfl,kb⟩
   replace hB:=onS hB kb;clear kb q0 q1 q2 rf;rw [hval.out]
   obtain ⟨R,hR⟩:∃ R,R=addF P M (inV (P ^ M) x) (inV (P ^ M) y):=⟨_,rfl⟩
   rw [<-hR]
   have HR:=hid hR
   clear hR hint
   go_wp2
   go_ret
   exact ⟨by rw [HR.out]; rfl,hB⟩
def mIn (P:Nat) (a b:Nat->Nat) (i:Nat) (c:Nat->Nat):Nat->Nat->Nat
 | 0=>c
 | j+1=>fun t=>if t=i+j then (mIn P a b i c j (i+j)+a i*b j) % P else mIn P a b i c j t
def mOut (P:Nat) (a b:Nat->Nat) (M:Nat):Nat->Nat->Nat
 | 0=>fun _=>0
 | i+1=>mIn P a b i (mOut P a b M i) M
def rIn (P M:Nat) (m:Nat->Nat) (i:Nat) (c:Nat->Nat):Nat->Nat->Nat
 | 0=>c
 | j+1=>fun t=>if t=i - M+j then (rIn P M m i c j (i - M+j)+(P - rIn P M m i c j i)*m j) % P else rIn P M m i c j t
def rOut (P M:Nat) (m:Nat->Nat) (c:Nat->Nat):Nat->Nat->Nat
 | 0=>c
 | s+1=>rIn P M m (2*M - 2 - s) (rOut P M m c s) M
def mulF (P M:Nat) (m:Nat->Nat) (x y:Nat):Nat:=valN P (rOut P M m (mOut P (dig P x) (dig P y) M M) (M - 1)) M
theorem zi6 {P:Nat} (hP:0<P) {a b c:Nat->Nat} {i:Nat} (hc:∀ t,c t<P):∀ j t,mIn P a b i c j t<P:=by
 intro j
 induction j with
 | zero=>exact hc
 | succ j ih =>
  intro t
  show (if t=i+j then _ else _)<P
  split
  ·exact Nat.mod_lt _ hP
  ·exact ih t
theorem ze1 {P:Nat} (hP:0<P) {a b:Nat->Nat} {M:Nat}:∀ i t,mOut P a b M i t<P:=by
 intro i
 induction i with
 | zero=>exact fun _=>hP
 | succ i ih=>exact zi6 hP ih M
theorem zio {P M:Nat} (hP:0<P) {m c:Nat->Nat} {i:Nat} (hc:∀ t,c t<P):∀ j t,rIn P M m i c j t<P:=by
 intro j
 induction j with
 | zero=>exact hc
 | succ j ih =>
  intro t
  show (if t=i - M+j then _ else _)<P
  split
  ·exact Nat.mod_lt _ hP
  ·exact ih t
theorem zdW {P M:Nat} (hP:0<P) {m c:Nat->Nat} (hc:∀ t,c t<P):∀ s t,rOut P M m c s t<P:=by
 intro s
 induction s with
 | zero=>exact hc
 | succ s ih=>exact zio hP ih M
def ModOk (w:World) (P M:Nat) (A:Option Addr) (m:Nat->Nat):Prop:=M=1∨(IntsR w w.heap.size A M (fun i=>(m i:Nat))/\∀ i,i<M->m i<P)
theorem zdi (P M:Nat) (A:Option Addr) (k c:Nat) (m:Nat->Nat) (x y:Int) (w:World) (hf:FldOk P M) (hm:ModOk w P M A m) (hkM:M=1∨k=M) :
  Calls Tryz.prog 225 #[.agg #[.int .i64 (P:Nat),.int .i64 (M:Nat),.slice A k c],.int .i64 x,.int .i64 y] w fun e w'=>e=.returned (.int .i64 (mulF P M m (inV (P ^ M) x) (inV (P ^ M) y):Nat))/\Below w.heap.size w w':=by
 have hP2:=hf.1
 have hP:=hf.P_le
 have hM8:=hf.2.2.1
 have hM1:=hf.2.1
 have hq:=hf.2.2.2
 have hB:Below w.heap.size w (w.alloc (.cells #[.int .i64 (P:Nat),.int .i64 (M:Nat),.slice A k c] 24)):=(Below.refl _ _).alloc (Nat.le_refl _) _
 have rf:=zad (w:=w) (a:=.int .i64 (P:Nat)) (b:=.int .i64 (M:Nat)) (c:=.slice A k c) (T := 24)
 obtain ⟨w0,hw0⟩:∃ W,W=w.alloc (.cells #[.int .i64 (P:Nat),.int .i64 (M:Nat),.slice A k c] 24):=⟨_,rfl⟩
 rw [<-hw0] at hB rf
 go_enter Tryz.func225, Tryz.ntmps225
 go_upto_region 1 with fail
 rw [<-hw0];clear hw0
 have hw0:=rf.lt
 have q0:=qc0 rf
 have q1:=qc1 rf
 have q2:=qc2 rf
 go_wp2_with fail
 refine (za3 P M A k c x _ hf).mono ?_
 rintro e w1 ⟨ga,rfl,hga,ra,kb⟩
 replace rf:=zaa rf kb
 have hga':=hB.size
 replace hB:=onS hB kb;clear kb q0 q1 q2
 have hal:=ra.lt
 have q0:=qc0 rf
 have q1:=qc1 rf
 have q2:=qc2 rf
 go_wp2_with fail
 refine (za3 P M A k c y _ hf).mono ?_
 rintro e w2 ⟨gb,rfl,hgb,rb,kb⟩
 replace rf:=zaa rf kb;replace ra:=zaa ra kb;replace hB:=onS hB kb;clear kb q0 q1 q2
 have hbl:=rb.lt
 obtain ⟨X,hX⟩:∃ X,X=inV (P ^ M) x:=⟨_,rfl⟩
 obtain ⟨Y,hY⟩:∃ X,X=inV (P ^ M) y:=⟨_,rfl⟩
 rw [<-hX] at ra;rw [<-hY] at rb
 have HX:=hid hX
 have HY:=hid hY
 clear hX hY
 obtain ⟨N1,hN1⟩:∃ N,N=2*M - 1:=⟨_,rfl⟩
 have hN1i:2*(M:Int) - 1=(N1:Int):=by omega
 have hN1a:2*M<=N1+1:=by omega
 have hN1b:N1+1<=2*M:=by omega
 clear hN1
 have hmk:=fun W=>zaf (P:=Tryz.prog) 22 3 _ 8 Tryz.underlying22 Tryz.infoInt rfl (N1:Int) (by omega) (by omega) (by omega) W
 simp only [Int.toNat_natCast] at hmk
 have rc:=World.rowIs_made w2 (.int .i64 0) N1 3
 have kb:Below w2.heap.size w2 (w2.alloc (.cells (madeCells #[.int .i64 0] N1) 3)):=(Below.refl _ _).alloc (Nat.le_refl _) _
 have q0:=qc0 rf
 have q1:=qc1 rf
 have q2:=qc2 rf
 replace ra:=zaa ra kb;replace rb:=zaa rb kb;replace rf:=zaa rf kb;replace hB:=onS hB kb;clear kb
 have hMi:(1:Int)<=(M:Int):=by omega
 have hMi8:(M:Int)<=8:=by omega
 go_wp2
 clear q0 q1 q2 hmk
 obtain ⟨w3,hw3⟩:∃ W,W=w2.alloc (.cells (madeCells #[.int .i64 0] N1) 3):=⟨_,rfl⟩
 obtain ⟨gc,hgc⟩:∃ g,g=w2.heap.size:=⟨_,rfl⟩
 rw [<-hw3,<-hgc];rw [<-hw3] at ra rb rf rc hB;rw [<-hgc] at rc hbl
 have hne1:ga≠gc:=by omega
 have hne2:gb≠gc:=by omega
 have hne3:w.heap.size≠gc:=by omega
 have hgcB:w.heap.size<=gc:=by omega
 clear hw3 hgc hga hgb hal hga' hw0 hbl
 replace rc:w3.rowIs gc 3 N1 (fun t=>.int .i64 (mOut P (dig P X) (dig P Y) M 0 t:Nat)):=rc
 go_loopg [10] M (fun gg iv wx=>∃ i:Nat,iv=.int .i64 (i:Nat)/\i<=M/\M<=i+gg/\wx.rowIs gc 3 N1 (fun t=>.int .i64 (mOut P (dig P X) (dig P Y) M i t:Nat))/\wx.rowIs ga 3 M (fun t=>.int .i64 (dig P X t:Nat))/\wx.rowIs gb 3 M (fun t=>.int .i64 (dig P Y t:Nat))/\wx.rowIs w.heap.size 24 3 (fldCell (.int .i64 (P:Nat)) (.int .i64 (M:Nat)) (.slice A k c))/\Below w.heap.size w wx)
 case atStart=>exact ⟨0,rfl,by omega,by omega,rc,ra,rb,rf,hB⟩
 case round =>
  clear ra rb rc rf hB
  obtain ⟨i,rfl,hi,hig,rc,ra,rb,rf,hB⟩:=hrel
  have hi0:(0:Int)<=(i:Int):=by omega
  have q0:=qc0 rf
  have q1:=qc1 rf
  have q2:=qc2 rf
  by_cases hlt:i<M
  ·have hlt':(i:Int)<(M:Int):=by omega
   go_wp2
   clear q0 q1 q2
   obtain ⟨gI,rfl⟩:∃ gK:Nat,gK=gk:=⟨_,rfl⟩
   obtain ⟨C0,hC0⟩:∃ C,C=mOut P (dig P X) (dig P Y) M i:=⟨_,rfl⟩
   have hCl:∀ t,C0 t<P:=by rw [hC0]; exact ze1 (by omega) i
   rw [<-hC0] at rc
   have HC0:=hid hC0
   have HCL:=hid hCl
   clear hC0 hCl
   go_loopg [11] M (fun gg jv wx=>∃ j:Nat,jv=.int .i64 (j:Nat)/\j<=M/\M<=j+gg/\wx.rowIs gc 3 N1 (fun t=>.int .i64 (mIn P (dig P X) (dig P Y) i C0 j t:Nat))/\wx.rowIs ga 3 M (fun t=>.int .i64 (dig P X t:Nat))/\wx.rowIs gb 3 M (fun t=>.int .i64 (dig P Y t:Nat))/\wx.rowIs w.heap.size 24 3 (fldCell (.int .i64 (P:Nat)) (.int .i64 (M:Nat)) (.slice A k c))/\Below w.heap.size w wx)
   case atStart=>exact ⟨0,rfl,by omega,by omega,rc,ra,rb,rf,hB⟩
   case round =>
    clear ra rb rc rf hB
    obtain ⟨j,rfl,hj,hjg,rc,ra,rb,rf,hB⟩:=hrel
    have hj0:(0:Int)<=(j:Int):=by omega
    have q0:=qc0 rf
    have q1:=qc1 rf
    have q2:=qc2 rf
    by_cases hlj:j<M
    ·have hlj':(j:Int)<(M:Int):=by omega
     have hcl:=zi6 (P:=P) (by omega) (a:=dig P X) (b:=dig P Y) (i:=i) HCL.out j (i+j)
     have hda:=zbT (p:=P) (by omega) X i
     have hdb:=zbT (p:=P) (by omega) Y j
     obtain ⟨Q,hQ⟩:∃ Q,Q=i+j:=⟨_,rfl⟩
     have hQN:Q<N1:=by omega
     have cc:=rc.cell (i:=Q) hQN
     have zc:=rc.frozen Q
     have ca:=ra.cell (i:=i) hlt
     have cb:=rb.cell (i:=j) hlj
     have hnx:∀ t,mIn P (dig P X) (dig P Y) i C0 (j+1) t=if t=Q then (mIn P (dig P X) (dig P Y) i C0 j Q+dig P X i*dig P Y j) % P else mIn P (dig P X) (dig P Y) i C0 j t:=fun t=>by rw [hQ]; rfl
     obtain ⟨R,hR⟩:∃ R,R=(mIn P (dig P X) (dig P Y) i C0 j Q+dig P X i*dig P Y j) % P:=⟨_,rfl⟩
     have hRP:R<P:=by rw [hR]; exact Nat.mod_lt _ (by omega)
     rw [<-hQ] at hcl
     have rc2:(wr.setCell ⟨gc,Q,none⟩ (.int .i64 (R:Int))).rowIs gc 3 N1 (fun t=>.int .i64 (mIn P (dig P X) (dig P Y) i C0 (j+1) t:Nat)):=(rc.set Q _).congr fun t ht=>by
      rw [hnx t,<-hR]
      by_cases e:t=Q
      ·rw [if_pos e,if_pos e]
      ·rw [if_neg e,if_neg e]
     have ra2:=ra.setOther (a:=⟨gc,Q,none⟩) (by simpa using hne1) (.int .i64 (R:Int))
     have rb2:=rb.setOther (a:=⟨gc,Q,none⟩) (by simpa using hne2) (.int .i64 (R:Int))
     have rf2:=rf.setOther (a:=⟨gc,Q,none⟩) (by simpa using hne3) (.int .i64 (R:Int))
     have hB2:Below w.heap.size w (wr.setCell ⟨gc,Q,none⟩ (.int .i64 (R:Int))):=hB.setCell hgcB _
     have RC:=hid rc2
     have RA:=hid ra2
     have RB:=hid rb2
     have RF:=hid rf2
     have HB:=hid hB2
     clear rc2 ra2 rb2 rf2 hB2
     obtain ⟨D,hD⟩:∃ D,D=mIn P (dig P X) (dig P Y) i C0 j Q:=⟨_,rfl⟩
     obtain ⟨E,hE⟩:∃ D,D=dig P X i:=⟨_,rfl⟩
     obtain ⟨G,hG⟩:∃ D,D=dig P Y j:=⟨_,rfl⟩
     rw [<-hD] at cc hcl hR;rw [<-hE] at ca hda hR;rw [<-hG] at cb hdb hR
     have hEG:E*G<=256*256:=Nat.mul_le_mul (by omega) (by omega)
     obtain ⟨Hh,hH⟩:∃ H,H=E*G:=⟨_,rfl⟩
     rw [<-hH] at hR hEG
     have hij:(i:Int)+(j:Int)=(Q:Int):=by omega
     have hmul:(E:Int)*(G:Int)=(Hh:Int):=by rw [hH]; simp
     clear hD hE hG hH hnx ra rb rc rf hB hQ
     have hQ0:(0:Int)<=(Q:Int):=by omega
     have hQ1:(Q:Int)<(N1:Int):=by omega
     have hP0:¬ (P:Int)=0:=by omega
     have hPp:(2:Int)<=(P:Int):=by omega
     have hR0:(0:Int)<=(R:Int):=by omega
     have hR1:(R:Int)<=256:=by omega
     have hD0:(0:Int)<=(D:Int):=by omega
     have hH0:(0:Int)<=(Hh:Int):=by omega
     have hsum0:(0:Int)<=(D:Int)+(Hh:Int):=by omega
     have hPn:¬ P=0:=by omega
     have w1:IntKind.i64.wrap (Q:Int)=(Q:Int):=IntWalk.i64_in _ (by omega)
     have w2:IntKind.i64.wrap (Hh:Int)=(Hh:Int):=IntWalk.i64_in _ (by omega)
     have w3:IntKind.i64.wrap ((D:Int)+(Hh:Int))=(D:Int)+(Hh:Int):=IntWalk.i64_in _ (by omega)
     have w4:IntKind.i64.wrap (R:Int)=(R:Int):=IntWalk.i64_in _ (by omega)
     have htm:((D:Int)+(Hh:Int)).tmod (P:Int)=(R:Int):=by rw [Int.tmod_eq_emod_of_nonneg hsum0,hR]; simp
     have hem:((D:Int)+(Hh:Int)) % (P:Int)=(R:Int):=by rw [hR]; simp
     clear hR
     go_wp2
     go_still_tail 23,(by kernel_rfl)
     change wpList _ _ _ _ _ wr.drew
     go_wp2
     clear w1 w2 w3 w4 htm hem hij hmul
     go_roundg (gk - 1)
     case measure=>omega
     case rel=>exact ⟨j+1,by go_num,by omega,by omega,RC.out,RA.out,RB.out,RF.out,HB.out.drew⟩
    ·obtain rfl:M=j:=by omega
     have hlj':¬ (M:Int)<(M:Int):=by omega
     replace rc:wr.rowIs gc 3 N1 (fun t=>.int .i64 (mOut P (dig P X) (dig P Y) M (i+1) t:Nat)):=rc.congr fun t _=>by rw [HC0.out]; rfl
     go_wp2
     go_roundg (gI - 1)
     case measure=>omega
     case rel=>exact ⟨i+1,by go_num,by omega,by omega,rc,ra,rb,rf,hB⟩
  ·obtain rfl:M=i:=by omega
   have hlt':¬ (M:Int)<(M:Int):=by omega
   have hM2:(0:Int)<=2*(M:Int):=by omega
   have hM16:2*(M:Int)<=16:=by omega
   go_wp2
   clear q0 q1 q2
   obtain ⟨C1,hC1⟩:∃ C,C=mOut P (dig P X) (dig P Y) M M:=⟨_,rfl⟩
   have hCl:∀ t,C1 t<P:=by rw [hC1]; exact ze1 (by omega) M
   rw [<-hC1] at rc
   have HC1:=hid hC1
   have HCL:=hid hCl
   clear hC1 hCl
   go_loopg [12] (M - 1) (fun gg iv wx=>∃ s:Nat,iv=.int .i64 (2*(M:Int) - 2 - (s:Int))/\s+1<=M/\M<=s+1+gg/\wx.rowIs gc 3 N1 (fun t=>.int .i64 (rOut P M m C1 s t:Nat))/\wx.rowIs w.heap.size 24 3 (fldCell (.int .i64 (P:Nat)) (.int .i64 (M:Nat)) (.slice A k c))/\Below w.heap.size w wx)
   case atStart=>exact ⟨0,by go_num,by omega,by omega,rc,rf,hB⟩
   case round =>
    clear ra rb rc rf hB
    obtain ⟨s,rfl,hs,hsg,rc,rf,hB⟩:=hrel
    have q0:=qc0 rf
    have q1:=qc1 rf
    have q2:=qc2 rf
    by_cases hlt2:s+1<M
    ·obtain ⟨I,hI⟩:∃ I,I=2*M - 2 - s:=⟨_,rfl⟩
     have hiv:2*(M:Int) - 2 - (s:Int)=(I:Int):=by omega
     rw [hiv]
     have hIM:M<=I:=by omega
     have hIMi:(M:Int)<=(I:Int):=by omega
     have hI16:(I:Int)<=16:=by omega
     have hIN:I<N1:=by omega
     have hI0:(0:Int)<=(I:Int):=by omega
     have HI:=hid hI
     clear hI hiv
     go_wp2
     clear q0 q1 q2
     obtain ⟨gI,rfl⟩:∃ gK:Nat,gK=gk:=⟨_,rfl⟩
     obtain ⟨C0,hC0⟩:∃ C,C=rOut P M m C1 s:=⟨_,rfl⟩
     have hCl:∀ t,C0 t<P:=by rw [hC0]; exact zdW (by omega) HCL.out s
     rw [<-hC0] at rc
     have HC0:=hid hC0
     have HCL2:=hid hCl
     clear hC0 hCl
     obtain ⟨hmr,hml⟩:IntsR w w.heap.size A M (fun i=>(m i:Nat))/\∀ i,i<M->m i<P:=hm.resolve_left (by omega)
     obtain rfl:k=M:=hkM.resolve_left (by omega)
     go_loopg [13] k (fun gg jv wx=>∃ j:Nat,jv=.int .i64 (j:Nat)/\j<=k/\k<=j+gg/\wx.rowIs gc 3 N1 (fun t=>.int .i64 (rIn P k m I C0 j t:Nat))/\wx.rowIs w.heap.size 24 3 (fldCell (.int .i64 (P:Nat)) (.int .i64 (k:Nat)) (.slice A k c))/\Below w.heap.size w wx)
     case atStart=>exact ⟨0,rfl,by omega,by omega,rc,rf,hB⟩
     case round =>
      clear rc rf hB
      obtain ⟨j,rfl,hj,hjg,rc,rf,hB⟩:=hrel
      have hj0:(0:Int)<=(j:Int):=by omega
      have q0:=qc0 rf
      have q1:=qc1 rf
      have q2:=qc2 rf
      by_cases hlj:j<k
      ·have hlj':(j:Int)<(k:Int):=by omega
       have hcl:=zio (P:=P) (M:=k) (m:=m) (i:=I) (by omega) HCL2.out j (I - k+j)
       have hcl2:=zio (P:=P) (M:=k) (m:=m) (i:=I) (by omega) HCL2.out j I
       have hdm:=hml j hlj
       obtain ⟨mb,mo,rfl,hmb,hmc⟩:=hmr.at hlj
       have cm:=cellS hB hmc
       obtain ⟨Z,hZ⟩:∃ Q,Q=I - k:=⟨_,rfl⟩
       have hIz:(I:Int) - (k:Int)=(Z:Int):=by omega
       have hZ16:Z<=16:=by omega
       obtain ⟨Q,hQ⟩:∃ Q,Q=I - k+j:=⟨_,rfl⟩
       have hII:=HI.out
       have hQN:Q<N1:=by omega
       have cc:=rc.cell (i:=Q) hQN
       have zc:=rc.frozen Q
       have ci:=rc.cell (i:=I) hIN
       have hnx:∀ t,rIn P k m I C0 (j+1) t=if t=Q then (rIn P k m I C0 j Q+(P - rIn P k m I C0 j I)*m j) % P else rIn P k m I C0 j t:=fun t=>by rw [hQ]; rfl
       obtain ⟨R,hR⟩:∃ R,R=(rIn P k m I C0 j Q+(P - rIn P k m I C0 j I)*m j) % P:=⟨_,rfl⟩
       have hRP:R<P:=by rw [hR]; exact Nat.mod_lt _ (by omega)
       rw [<-hQ] at hcl
       have rc2:(wr.setCell ⟨gc,Q,none⟩ (.int .i64 (R:Int))).rowIs gc 3 N1 (fun t=>.int .i64 (rIn P k m I C0 (j+1) t:Nat)):=(rc.set Q _).congr fun t ht=>by
        rw [hnx t,<-hR]
        by_cases e:t=Q
        ·rw [if_pos e,if_pos e]
        ·rw [if_neg e,if_neg e]
       have rf2:=rf.setOther (a:=⟨gc,Q,none⟩) (by simpa using hne3) (.int .i64 (R:Int))
       have hB2:Below w.heap.size w (wr.setCell ⟨gc,Q,none⟩ (.int .i64 (R:Int))):=hB.setCell hgcB _
       have RC:=hid rc2
       have RF:=hid rf2
       have HB:=hid hB2
       clear rc2 rf2 hB2
       obtain ⟨D,hD⟩:∃ D,D=rIn P k m I C0 j Q:=⟨_,rfl⟩
       obtain ⟨D2,hD2⟩:∃ D,D=rIn P k m I C0 j I:=⟨_,rfl⟩
       obtain ⟨G,hG⟩:∃ D,D=m j:=⟨_,rfl⟩
       rw [<-hD] at cc hcl hR;rw [<-hD2] at ci hcl2 hR;rw [<-hG] at cm hdm hR
       obtain ⟨E,hE⟩:∃ D,D=P - D2:=⟨_,rfl⟩
       rw [<-hE] at hR
       have hPD:(P:Int) - (D2:Int)=(E:Int):=by omega
       have hEG:E*G<=256*256:=Nat.mul_le_mul (by omega) (by omega)
       obtain ⟨Hh,hH⟩:∃ H,H=E*G:=⟨_,rfl⟩
       rw [<-hH] at hR hEG
       have hij:(Z:Int)+(j:Int)=(Q:Int):=by omega
       have hmul:(E:Int)*(G:Int)=(Hh:Int):=by rw [hH]; simp
       have hE256:E<=256:=by omega
       clear hD hD2 hE hG hH hnx rc rf hB hQ hZ hII hmr hml hmc
       have hQ0:(0:Int)<=(Q:Int):=by omega
       have hQ1:(Q:Int)<(N1:Int):=by omega
       have hI1:(I:Int)<(N1:Int):=by omega
       have hP0:¬ (P:Int)=0:=by omega
       have hPp:(2:Int)<=(P:Int):=by omega
       have hR0:(0:Int)<=(R:Int):=by omega
       have hR1:(R:Int)<=256:=by omega
       have hD0:(0:Int)<=(D:Int):=by omega
       have hH0:(0:Int)<=(Hh:Int):=by omega
       have hsum0:(0:Int)<=(D:Int)+(Hh:Int):=by omega
       have hPn:¬ P=0:=by omega
       have w1:IntKind.i64.wrap (Q:Int)=(Q:Int):=IntWalk.i64_in _ (by omega)
       have w2:IntKind.i64.wrap (Hh:Int)=(Hh:Int):=IntWalk.i64_in _ (by omega)
       have w3:IntKind.i64.wrap ((D:Int)+(Hh:Int))=(D:Int)+(Hh:Int):=IntWalk.i64_in _ (by omega)
       have w4:IntKind.i64.wrap (R:Int)=(R:Int):=IntWalk.i64_in _ (by omega)
       have w5:IntKind.i64.wrap (Z:Int)=(Z:Int):=IntWalk.i64_in _ (by omega)
       have w6:IntKind.i64.wrap (E:Int)=(E:Int):=IntWalk.i64_in _ (by omega)
       have htm:((D:Int)+(Hh:Int)).tmod (P:Int)=(R:Int):=by rw [Int.tmod_eq_emod_of_nonneg hsum0,hR]; simp
       have hem:((D:Int)+(Hh:Int)) % (P:Int)=(R:Int):=by rw [hR]; simp
       clear hR
       go_wp2
       go_still_tail 33,(by kernel_rfl)
       change wpList _ _ _ _ _ wr.drew
       go_wp2
       clear w1 w2 w3 w4 w5 w6 htm hem hij hmul
       go_roundg (gk - 1)
       case measure=>omega
       case rel=>exact ⟨j+1,by go_num,by omega,by omega,RC.out,RF.out,HB.out.drew⟩
      ·obtain rfl:k=j:=by omega
       have hlj':¬ (k:Int)<(k:Int):=by omega
       replace rc:wr.rowIs gc 3 N1 (fun t=>.int .i64 (rOut P k m C1 (s+1) t:Nat)):=rc.congr fun t _=>by rw [HC0.out,HI.out]; rfl
       have hII:=HI.out
       clear HI
       go_wp2
       go_roundg (gI - 1)
       case measure=>omega
       case rel=>exact ⟨s+1,by go_num,by omega,by omega,rc,rf,hB⟩
    ·obtain ⟨s2,hs2⟩:∃ t,t=M - 1:=⟨_,rfl⟩
     obtain rfl:s=s2:=by omega
     obtain ⟨I,hI⟩:∃ I,I=M - 1:=⟨_,rfl⟩
     have hiv:2*(M:Int) - 2 - (s:Int)=(I:Int):=by omega
     rw [hiv]
     have hIM:¬ M<=I:=by omega
     have hIMi:¬ (M:Int)<=(I:Int):=by omega
     have hI16:(I:Int)<=16:=by omega
     have hI0:(0:Int)<=(I:Int):=by omega
     have hMN:M<=N1:=by omega
     have hMNi:(M:Int)<=(N1:Int):=by omega
     have hint:IntsR wr.drew wr.drew.heap.size (some ⟨gc,0,none⟩) M (fun t=>(rOut P M m C1 s t:Nat)):=fun i hi=>rowInts rc i (by omega)
     have hval:Hid (valN P (rOut P M m C1 s) M=mulF P M m (inV (P ^ M) x) (inV (P ^ M) y)):=by rw [HC1.out,HX.out,HY.out,hs2]; rfl
     have hlts:Hid (∀ t,t<M->rOut P M m C1 s t<P):=fun t _=>zdW (by omega) HCL.out s t
     clear rc hs2 hI hiv hs hsg
     go_wp2
     go_still_tail 5,(by kernel_rfl)
     change wpList _ _ _ _ _ wr.drew
     go_wp2_with fail
     refine (zb8 P M A k c (some ⟨gc,0,none⟩) M N1 _ _ hP2 hP hint hlts hq hM8).mono ?_
     rintro e w5 ⟨rfl,kb⟩
     replace hB:=onS hB.drew kb;clear kb q0 q1 q2 rf;rw [hval.out]
     obtain ⟨R,hR⟩:∃ R,R=mulF P M m (inV (P ^ M) x) (inV (P ^ M) y):=⟨_,rfl⟩
     rw [<-hR]
     have HR:=hid hR
     clear hR hint
     go_wp2
     go_ret
     exact ⟨by rw [HR.out]; rfl,hB⟩
theorem zbJ (p i:Nat):dig p 0 i=0:=by simp [dig]
theorem zct (p x:Nat):dig p x 0=x % p:=by simp [dig]
theorem zdj (p x i:Nat):dig p x (i+1)=dig p (x / p) i:=by
 unfold dig
 rw [Nat.pow_succ',Nat.div_div_eq_div_mul]
theorem zez {p:Nat} (hp:0<p):∀ (n x:Nat),x<p ^ n->valN p (dig p x) n=x:=by
 intro n
 induction n with
 | zero =>
  intro x hx
  have:x<1:=by simpa using hx
  have:x=0:=by omega
  subst this
  rfl
 | succ n ih =>
  intro x hx
  have h1:x / p<p ^ n:=by
   rw [Nat.div_lt_iff_lt_mul hp,<-Nat.pow_succ]
   exact hx
  show dig p x 0+p*valN p (fun i=>dig p x (i+1)) n=x
  have h2:valN p (fun i=>dig p x (i+1)) n=valN p (dig p (x / p)) n:=zaP fun i _=>zdj p x i
  rw [h2,ih _ h1,zct]
  exact Nat.mod_add_div x p
theorem zhi {P M x:Nat} (hP:0<P) (hx:x<P ^ M):addF P M 0 x=x:=by
 have h:addF P M 0 x=valN P (dig P x) M:=zaP fun i _=>by
  rw [zbJ,Nat.zero_add]
  exact Nat.mod_eq_of_lt (zbT hP x i)
 rw [h,zez hP M x hx]
theorem zhj (P M x y:Nat):addF P M x y=addF P M y x:=zaP fun i _=>by rw [Nat.add_comm]
def Own (w:World) (base:Nat) (e:TypeId) (s:Nat) (v:Value) (n:Nat) (f:Nat->Nat->Value):Prop :=
 (v=.slice none 0 0/\n=0) ∨
 ∃ g o cap cur,v=.slice (some ⟨g,o,none⟩) n cap/\base<=g/\w.heap[g]?=some (.cells cur e (0,0))/\n<=cap/\cap<=maxLen/\o+cap*s<=cur.size/\∀ i,i<n->∀ j,j<s->cur[o+i*s+j]?=some (f i j)
section
variable {w w':World} {base e s n:Nat} {v:Value} {f f':Nat->Nat->Value}
theorem Own.nil (w:World) (base e s:Nat) (f:Nat->Nat->Value):Own w base e s (.slice none 0 0) 0 f:=.inl ⟨rfl,rfl⟩
theorem Own.congr (h:Own w base e s v n f) (hf:∀ i,i<n->∀ j,j<s->f i j=f' i j):Own w base e s v n f':=by
 rcases h with h | ⟨g,o,cap,cur,h1,h2,h3,h4,h5,h6,h7⟩
 ·exact .inl h
 ·exact .inr ⟨g,o,cap,cur,h1,h2,h3,h4,h5,h6,fun i hi j hj=>by rw [h7 i hi j hj,hf i hi j hj]⟩
theorem Own.mono {base':Nat} (h:Own w base e s v n f) (hb:base'<=base):Own w base' e s v n f:=by
 rcases h with h | ⟨g,o,cap,cur,h1,h2,h3⟩
 ·exact .inl h
 ·exact .inr ⟨g,o,cap,cur,h1,by omega,h3⟩
theorem Own.lt (h:Own w base e s v n f):∀ k,v.ownBlock=some k->base<=k/\k<w.heap.size:=by
 intro k hk
 rcases h with ⟨rfl,_⟩ | ⟨g,o,cap,cur,rfl,hb,hg,_⟩
 ·simp [Value.ownBlock] at hk
 ·simp [Value.ownBlock] at hk
  subst hk
  exact ⟨hb,(Array.getElem?_eq_some_iff.1 hg).1⟩
theorem Own.of_block (h:Own w base e s v n f) (hb:∀ k,v.ownBlock=some k->w'.heap[k]?=w.heap[k]?):Own w' base e s v n f:=by
 rcases h with h | ⟨g,o,cap,cur,rfl,h2,h3,h4⟩
 ·exact .inl h
 ·exact .inr ⟨g,o,cap,cur,rfl,h2,(hb g rfl).trans h3,h4⟩
theorem Own.kept {row:Option Nat} (h:Own w base e s v n f) (hg:w.grownBy w' row) (hne:v.ownBlock=none∨v.ownBlock≠row):Own w' base e s v n f :=
 h.of_block fun k hk=>hg.block k (h.lt k hk).2 (by rcases hne with h0 | h0 <;> rw [hk] at h0; cases h0; exact h0)
theorem Own.below {B:Nat} (h:Own w base e s v n f) (hb:Below B w w') (hB:∀ k,v.ownBlock=some k->k<B):Own w' base e s v n f:=h.of_block fun k hk=>hb.block k (hB k hk)
theorem Own.on (h:Own w base e s v n f) (hb:Below w.heap.size w w'):Own w' base e s v n f:=h.below hb fun k hk=>(h.lt k hk).2
theorem Own.alloc (h:Own w base e s v n f) (o:Obj):Own (w.alloc o) base e s v n f:=h.of_block fun k hk=>Below.heap_alloc w o k (h.lt k hk).2
theorem Own.drew (h:Own w base e s v n f):Own w.drew base e s v n f:=h
theorem Own.setCell (h:Own w base e s v n f) {a:Addr} (ha:v.ownBlock≠some a.block) (u:Value):Own (w.setCell a u) base e s v n f :=
 h.of_block fun k hk=>Below.heap_setCell w a u k (fun e=>ha (by rw [hk,e]))
theorem Own.shape (h:Own w base e s v n f):∃ A c,v=.slice A n c:=by
 rcases h with ⟨rfl,rfl⟩ | ⟨g,o,cap,cur,rfl,_⟩
 ·exact ⟨_,_,rfl⟩
 ·exact ⟨_,_,rfl⟩
theorem Own.len_le (h:Own w base e s v n f):n<=maxLen:=by
 rcases h with ⟨rfl,rfl⟩ | ⟨g,o,cap,cur,rfl,_,_,h4,h5,_⟩
 ·exact Nat.zero_le _
 ·omega
theorem Own.form (h:Own w base e s v n f) (hn:0<n):∃ g o cap,v=.slice (some ⟨g,o,none⟩) n cap/\base<=g/\g<w.heap.size/\n<=cap/\cap<=maxLen/\∀ i,i<n->∀ j,j<s->w.cell? ⟨g,o+i*s+j,none⟩=some (f i j):=by
 rcases h with ⟨rfl,rfl⟩ | ⟨g,o,cap,cur,rfl,hb,hg,hc,hm,_,h7⟩
 ·omega
 ·exact ⟨g,o,cap,rfl,hb,(Array.getElem?_eq_some_iff.1 hg).1,hc,hm,fun i hi j hj=>by rw [cell_of_row w g _ cur e (0,0) hg]; exact h7 i hi j hj⟩
theorem Own.frozen {g o c:Nat} (h:Own w base e s (.slice (some ⟨g,o,none⟩) n c) n f) (k:Nat):w.frozen? ⟨g,k,none⟩=false:=by
 rcases h with ⟨h,_⟩ | ⟨g',o',cap,cur,h1,_,hg,_⟩
 ·cases h
 ·injection h1 with h1
  injection h1 with h1
  injection h1 with h1
  subst h1
  exact frozen_of_row w g k cur e hg
theorem Own.rd (h:Own w base e s v n f) {A:Option Addr} {c:Nat} (hv:v=.slice A n c):Rd w w.heap.size A n s f:=by
 intro i hi
 obtain ⟨g,o,cap,h1,_,hlt,_,_,hc⟩:=h.form (by omega)
 rw [hv] at h1
 injection h1 with h1
 exact ⟨g,o,h1,hlt,fun j hj=>hc i hi j hj⟩
end
theorem zbu {w:World} {g:Nat} {cur cs:Array Value} {e:TypeId} {fr:Nat × Nat} (h:w.heap[g]?=some (.cells cur e fr)):(w.setRow g cs).heap[g]?=some (.cells cs e fr):=by
 simp [World.setRow,Array.getElem?_modify,h]
theorem zcr {w:World} {g k:Nat} {cs:Array Value} (h:k≠g):(w.setRow g cs).heap[k]?=w.heap[k]?:=by
 simp only [World.setRow,Array.getElem?_modify]
 rw [if_neg (fun e=>h e.symm)]
theorem zdk (w:World) (g:Nat) (cs:Array Value):w.grownBy (w.setRow g cs) (some g) :=
 ⟨rfl,rfl,rfl,by simp,fun k _ hne=>zcr (fun e=>hne (by rw [e]))⟩
def elem (s:Nat) (u:Nat->Value):List Value:=(List.range s).map u
theorem zao (s:Nat) (u:Nat->Value):(elem s u).length=s:=by simp [elem]
theorem zdl {s:Nat} {u:Nat->Value} {j:Nat} (hj:j<s):(elem s u)[j]?=some (u j):=by simp [elem,hj]
def flat (s:Nat) (f:Nat->Nat->Value) (n:Nat):List Value:=(List.range (n*s)).map fun k=>f (k / s) (k % s)
theorem zat (s:Nat) (f:Nat->Nat->Value) (n:Nat):(flat s f n).length=n*s:=by simp [flat]
theorem zcz {s:Nat} (hs:0<s) {f:Nat->Nat->Value} {n i j:Nat} (hi:i<n) (hj:j<s):(flat s f n)[i*s+j]?=some (f i j):=by
 have hlt:i*s+j<n*s:=by
  have:(i+1)*s<=n*s:=Nat.mul_le_mul_right s hi
  rw [Nat.add_mul] at this; omega
 simp only [flat,List.getElem?_map]
 rw [List.getElem?_range hlt]
 simp only [Option.map_some]
 rw [show (i*s+j) / s=i by rw [Nat.mul_comm,Nat.mul_add_div hs,Nat.div_eq_of_lt hj,Nat.add_zero],show (i*s+j) % s=j by rw [Nat.mul_comm,Nat.mul_add_mod,Nat.mod_eq_of_lt hj]]
section
variable {P:Program} (w:World)
theorem zba (t ty e:TypeId) (i:TypeInfo) (ht:P.underlying t=some (.slice e)) (hi:P.info? e=some i)
  (g o sLen sCap:Nat) (cur:Array Value) (hg:w.heap[g]?=some (.cells cur e (0,0)))
  (a:Addr) (c:Nat) (news:List Value) (hl:news.length=i.size) (hnews:∀ j u,news[j]?=some u->w.cell? (a.add j)=some u) (h1:∀ u ∈ news,u.oneCell'=true)
  (hroom:sLen+1<=sCap) (hfit:o+sLen*i.size+news.length<=cur.size) :
  (Builtin.append_ #[t,t] ty #[.slice (some ⟨g,o,none⟩) sLen sCap,.slice (some a) 1 c]).run P w =
   .ok (.slice (some ⟨g,o,none⟩) (sLen+1) sCap) (w.setRow g (cur.toList.take (o+sLen*i.size) ++ news ++ cur.toList.drop (o+sLen*i.size+news.length)).toArray):=by
 have hf:=run_firstCells_some (P:=P) w i.size 1 a 1 c news (by omega) hnews
 have hst:=run_storeCells_at P g (o+sLen*i.size) e news 0 cur w hg (by simpa using hfit) h1
 simp only [Nat.add_zero] at hst
 simp [Builtin.append_,run_underlying ht,sizeOf,typeInfo,hi,Builtin.lenOf,hroom,hf,Addr.add_lit,hst]
theorem zaZ (base:Nat) (t ty e:TypeId) (i:TypeInfo) (z:Value) (s bytes:Nat) (ht:P.underlying t=some (.slice e)) (hi:P.info? e=some i) (hz:i.zero=some z)
  (hsize:i.size=s) (hby:i.bytes=bytes) (hzs:z.cells.size=s) (hs:0<s)
  (v:Value) (n:Nat) (f:Nat->Nat->Value) (hown:Own w base e s v n f)
  (a:Addr) (c:Nat) (hnews:∀ j,j<s->w.cell? (a.add j)=some (f n j)) (h1:∀ j,j<s->(f n j).oneCell'=true)
  (h63:n+1<=maxLen) (hbytes:(n+1)*bytes<=140737488355328) (hbase:base<=w.heap.size) :
  ∃ v' w',(Builtin.append_ #[t,t] ty #[v,.slice (some a) 1 c]).run P w=.ok v' w'/\Own w' base e s v' (n+1) f/\w.grownBy w' v.ownBlock/\(v'.ownBlock=v.ownBlock∨v'.ownBlock=some w.heap.size)/\∃ g o cap,v'=.slice (some ⟨g,o,none⟩) (n+1) cap:=by
 subst hsize
 subst hby
 have hsmall:n+1<=9223372036854775807:=by simp only [maxLen] at h63; omega
 have hnews':∀ j u,(elem i.size (f n))[j]?=some u->w.cell? (a.add j)=some u:=fun j u hu=>by
  have hj:j<i.size:=by have:=(List.getElem?_eq_some_iff.1 hu).1; rwa [zao] at this
  rw [zdl hj] at hu
  injection hu with hu
  subst hu
  exact hnews j hj
 have h1':∀ u ∈ elem i.size (f n),u.oneCell'=true:=fun u hu=>by
  obtain ⟨j,hj,rfl⟩:=List.mem_map.1 hu
  exact h1 j (List.mem_range.1 hj)
 have hsrc:=Src.ofSlice (P:=P) w (size:=i.size) (e':=e) ht a 1 c (elem i.size (f n)) (by rw [zao]; omega) hnews' h1'
 -- what the growing arm leaves
 have grown:∀ (A:Option Addr) (cap:Nat),cap<n+1->(Builtin.firstCells i.size n (.slice A n cap)).run P w.drew=.ok (flat i.size f n).toArray w.drew->∀ row:Option Nat,
   ∃ v' w',(Builtin.append_ #[t,t] ty #[.slice A n cap,.slice (some a) 1 c]).run P w=.ok v' w'/\Own w' base e i.size v' (n+1) f/\w.grownBy w' row/\v'.ownBlock=some w.heap.size/\∃ g o cap,v'=.slice (some ⟨g,o,none⟩) (n+1) cap:=by
  intro A cap hcap hold row
  have hrun:=run_append_grow_src (P:=P) w t t ty e i z ht hi hz A n cap (flat i.size f n) hold (.slice (some a) 1 c) 1 (elem i.size (f n)) hsrc hcap (by omega) (growslice_fits hcap hbytes)
  refine ⟨_,_,hrun,.inr ⟨w.heap.size,0,_,_,rfl,hbase,heap_alloc_new w.drew _,grownCap_ge w (n+1) cap e,grownCap_le_maxLen w (n+1) cap e h63,?_,fun k hk j hj=>?_⟩,⟨rfl,rfl,rfl,by simp,fun k hk _=>Below.heap_alloc w.drew _ k hk⟩,rfl,_,_,_,rfl⟩
  ·have hge:=grownCap_ge w (n+1) cap e
   have e1:(grownCap w (n+1) cap e - (n+1))*i.size+(n+1)*i.size=grownCap w (n+1) cap e*i.size:=by rw [<-Nat.add_mul]; congr 1; omega
   simp [zat,zao,size_zeroCells,hzs]
   rw [Nat.add_mul] at e1
   omega
  ·have hlt:k*i.size+j<(n+1)*i.size:=by
    have:(k+1)*i.size<=(n+1)*i.size:=Nat.mul_le_mul_right i.size (by omega)
    rw [Nat.add_mul] at this; omega
   have hlen:(flat i.size f n ++ elem i.size (f n)).length=(n+1)*i.size:=by rw [List.length_append,zat,zao,Nat.add_mul]; omega
   rw [Nat.zero_add,Array.getElem?_append_left (by simpa [hlen] using hlt)]
   rw [List.getElem?_toArray]
   by_cases hkn:k<n
   ·rw [List.getElem?_append_left (by
     rw [zat]
     have:(k+1)*i.size<=n*i.size:=Nat.mul_le_mul_right i.size hkn
     rw [Nat.add_mul] at this; omega)]
    exact zcz hs hkn hj
   ·obtain rfl:k=n:=by omega
    rw [List.getElem?_append_right (by rw [zat]; omega),zat,show k*i.size+j - k*i.size=j by omega]
    exact zdl hj
 rcases hown with ⟨rfl,rfl⟩ | ⟨g,o,cap,cur,rfl,hb,hg,hnc,hcm,hfit,hcur⟩
 ·obtain ⟨v',w',h2,h3,h4,h5,h6⟩:=grown none 0 (by omega) (by simp [Builtin.firstCells,flat]) (Value.ownBlock (.slice none 0 0))
  exact ⟨v',w',h2,h3,h4,.inr h5,h6⟩
 ·by_cases hroom:n+1<=cap
  ·have hsz:o+n*i.size+(elem i.size (f n)).length<=cur.size:=by
    rw [zao]
    have:(n+1)*i.size<=cap*i.size:=Nat.mul_le_mul_right i.size hroom
    rw [Nat.add_mul] at this; omega
   have hrun:=zba (P:=P) w t ty e i ht hi g o n cap cur hg a c (elem i.size (f n)) (zao _ _) hnews' h1' hroom hsz
   refine ⟨_,_,hrun,.inr ⟨g,o,cap,_,rfl,hb,zbu hg,hroom,hcm,?_,fun k hk j hj=>?_⟩,zdk w g _,.inl rfl,_,_,_,rfl⟩
   ·rw [zao] at hsz
    simp [zao]; omega
   ·rw [zao] at hsz
    have hto:(cur.toList.take (o+n*i.size)).length=o+n*i.size:=by simp; omega
    rw [List.getElem?_toArray]
    by_cases hkn:k<n
    ·have:(k+1)*i.size<=n*i.size:=Nat.mul_le_mul_right i.size hkn
     rw [Nat.add_mul] at this
     rw [List.append_assoc,List.getElem?_append_left (by omega),List.getElem?_take,if_pos (by omega)]
     rw [Array.getElem?_toList]
     exact hcur k hkn j hj
    ·obtain rfl:k=n:=by omega
     rw [List.append_assoc,List.getElem?_append_right (by omega),hto,show o+k*i.size+j - (o+k*i.size)=j by omega,List.getElem?_append_left (by rw [zao]; omega)]
     exact zdl hj
  ·have hcap:cap=n:=by omega
   subst hcap
   have hold:(Builtin.firstCells i.size cap (.slice (some ⟨g,o,none⟩) cap cap)).run P w.drew=.ok (flat i.size f cap).toArray w.drew:=by
    refine run_firstCells_some (P:=P) w.drew i.size cap ⟨g,o,none⟩ cap cap (flat i.size f cap) (zat _ _ _) fun j u hu=>?_
    have hj:j<cap*i.size:=by have:=(List.getElem?_eq_some_iff.1 hu).1; rwa [zat] at this
    have e1:j / i.size<cap:=Nat.div_lt_of_lt_mul (by rw [Nat.mul_comm]; exact hj)
    have e2:j % i.size<i.size:=Nat.mod_lt _ hs
    have e3:j / i.size*i.size+j % i.size=j:=Nat.div_add_mod' j i.size
    have:=zcz (f:=f) hs e1 e2
    rw [e3,hu] at this
    injection this with this
    subst this
    have:=hcur _ e1 _ e2
    have hadd:(⟨g,o,none⟩:Addr).add j=⟨g,o+j,none⟩:=by unfold Addr.add; split <;> simp_all
    rw [hadd]
    show w.cell? ⟨g,o+j,none⟩=_
    rw [cell_of_row w g _ cur e (0,0) hg,<-this]
    congr 1; omega
   obtain ⟨v',w',h2,h3,h4,h5,h6⟩:=grown (some ⟨g,o,none⟩) cap (by omega) hold (Value.ownBlock (.slice (some ⟨g,o,none⟩) cap cap))
   exact ⟨v',w',h2,h3,h4,.inr h5,h6⟩
theorem zaK {ops:Array Oper} {rest:List Oper} {o:Oper} {a:Act} {Q:Exit->Act->World->Prop} (hgd:o.guard=none) (sl x:Operand) (t:TypeId)
  (ho:o.op=.call { callee:=.builtin .append,args:=#[sl,x],argTypes:=#[t,t] })
  (base:Nat) (e:TypeId) (i:TypeInfo) (z:Value) (s bytes:Nat) (ht:P.underlying t=some (.slice e)) (hi:P.info? e=some i) (hz:i.zero=some z)
  (hsize:i.size=s) (hby:i.bytes=bytes) (hzs:z.cells.size=s) (hs:0<s)
  (v:Value) (n:Nat) (f:Nat->Nat->Value) (hv:a.eval sl=v) (hown:Own w base e s v n f)
  (ad:Addr) (c:Nat) (hx:a.eval x=.slice (some ad) 1 c) (hnews:∀ j,j<s->w.cell? (ad.add j)=some (f n j)) (h1:∀ j,j<s->(f n j).oneCell'=true)
  (h63:n+1<=maxLen) (hbytes:(n+1)*bytes<=140737488355328) (hbase:base<=w.heap.size)
  (h:∀ v' w',Own w' base e s v' (n+1) f->w.grownBy w' v.ownBlock->(v'.ownBlock=v.ownBlock∨v'.ownBlock=some w.heap.size)->wpList P ops Q rest (a.put o.dst v') w'):wpList P ops Q (o :: rest) a w:=by
 refine wpList_plain hgd fun K hK=>?_
 obtain ⟨v',w',hrun,h2,h3,h4,_⟩:=zaZ (P:=P) w base t o.type e i z s bytes ht hi hz hsize hby hzs hs v n f hown ad c hnews h1 h63 hbytes hbase
 unfold Oper.wp execOp
 simp only [ho,resolve,invoke,builtin,Sem.run_bind,Sem.run_pure,Result.andThen_ok,List.map_toArray,List.map_cons,List.map_nil,hv,hx,hrun]
 exact hK _ _ (h v' w' h2 h3 h4)
theorem zc0 {ops:Array Oper} {o:Oper} {a:Act} {K:Act->World->Prop} {Q:Exit->Act->World->Prop} {E:Prop} (hgd:o.guard=none) (sl x:Operand) (t:TypeId)
  (ho:o.op=.call { callee:=.builtin .append,args:=#[sl,x],argTypes:=#[t,t] })
  (base:Nat) (e:TypeId) (i:TypeInfo) (z:Value) (s bytes:Nat) (ht:P.underlying t=some (.slice e)) (hi:P.info? e=some i) (hz:i.zero=some z)
  (hsize:i.size=s) (hby:i.bytes=bytes) (hzs:z.cells.size=s) (hs:0<s)
  (v:Value) (n:Nat) (f:Nat->Nat->Value) (hv:a.eval sl=v) (hown:Own w base e s v n f)
  (ad:Addr) (c:Nat) (hx:a.eval x=.slice (some ad) 1 c) (hnews:∀ j,j<s->w.cell? (ad.add j)=some (f n j)) (h1:∀ j,j<s->(f n j).oneCell'=true)
  (h63:n+1<=maxLen) (hbytes:(n+1)*bytes<=140737488355328) (hbase:base<=w.heap.size)
  (h:∀ v' w',Own w' base e s v' (n+1) f->w.grownBy w' v.ownBlock->(v'.ownBlock=v.ownBlock∨v'.ownBlock=some w.heap.size)->K (a.put o.dst v') w') :
  if Region.wanted o (yielded ops a.tmps)=true then Oper.wp P o a w K Q else E:=by
 have hw:Region.wanted o (yielded ops a.tmps)=true:=by simp [Region.wanted,hgd]
 rw [if_pos hw]
 obtain ⟨v',w',hrun,h2,h3,h4,_⟩:=zaZ (P:=P) w base t o.type e i z s bytes ht hi hz hsize hby hzs hs v n f hown ad c hnews h1 h63 hbytes hbase
 unfold Oper.wp execOp
 simp only [ho,resolve,invoke,builtin,Sem.run_bind,Sem.run_pure,Result.andThen_ok,List.map_toArray,List.map_cons,List.map_nil,hv,hx,hrun]
 exact h v' w' h2 h3 h4
end
section
variable {P:Program} (w:World)
theorem za4 (t ty e:TypeId) (i:TypeInfo) (ht:P.underlying t=some (.slice e)) (hi:P.info? e=some i) (b0 o0:Nat) (A:Option Addr) (c:Nat) :
  (Builtin.append_ #[t,t] ty #[.slice (some ⟨b0,o0,none⟩) 0 0,.slice A 0 c]).run P w=.ok (.slice (some ⟨b0,o0,none⟩) 0 0) w:=by
 have hs:Src P i.size t (.slice A 0 c) 0 [] w:=by
  cases A with
  | none=>exact Src.ofNil w ht c
  | some a=>exact Src.ofSlice w (e':=e) ht a 0 c [] (by simp) (fun j u h=>by simp at h) (fun u h=>by cases h)
 have h:=run_append_room_src (P:=P) w t t ty e i ht hi b0 o0 0 0 (.slice A 0 c) 0 [] hs (Nat.le_refl _) (fun j hj=>by simp at hj) (fun j hj=>by simp at hj)
 rw [h]
 rfl
theorem za5 (t ty e:TypeId) (i:TypeInfo) (z:Value) (s bytes:Nat) (ht:P.underlying t=some (.slice e)) (hi:P.info? e=some i) (hz:i.zero=some z)
  (hsize:i.size=s) (hby:i.bytes=bytes) (hzs:z.cells.size=s) (hs:0<s) (A0:Option Addr)
  (A:Option Addr) (m c:Nat) (f:Nat->Nat->Value) (hsrc:Rd w w.heap.size A m s f) (hm:0<m) (h1:∀ k,k<m->∀ j,j<s->(f k j).oneCell'=true)
  (h63:m<=maxLen) (hbytes:m*bytes<=140737488355328) :
  ∃ cap cur,(Builtin.append_ #[t,t] ty #[.slice A0 0 0,.slice A m c]).run P w=.ok (.slice (some ⟨w.heap.size,0,none⟩) m cap) (w.drew.alloc (.cells cur e)) /\
   m<=cap/\cap<=maxLen/\cap*s<=cur.size/\∀ k,k<m->∀ j,j<s->cur[k*s+j]?=some (f k j):=by
 subst hsize
 subst hby
 obtain ⟨b,off,rfl,hb,_⟩:=hsrc 0 hm
 have hcell:∀ j u,(flat i.size f m)[j]?=some u->w.cell? ((⟨b,off,none⟩:Addr).add j)=some u:=fun j u hu=>by
  have hj:j<m*i.size:=by have:=(List.getElem?_eq_some_iff.1 hu).1; rwa [zat] at this
  have e1:j / i.size<m:=Nat.div_lt_of_lt_mul (by rw [Nat.mul_comm]; exact hj)
  have e2:j % i.size<i.size:=Nat.mod_lt _ hs
  have e3:j / i.size*i.size+j % i.size=j:=Nat.div_add_mod' j i.size
  have:=zcz (f:=f) hs e1 e2
  rw [e3,hu] at this
  injection this with this
  subst this
  obtain ⟨b',off',e',_,hc⟩:=hsrc _ e1
  injection e' with e'
  injection e' with e' e''
  subst e' e''
  have:=hc _ e2
  have hadd:(⟨b,off,none⟩:Addr).add j=⟨b,off+j,none⟩:=by unfold Addr.add; split <;> simp_all
  rw [hadd,<-this]
  congr 2; omega
 have hsr:=Src.ofSlice (P:=P) w (size:=i.size) (e':=e) ht ⟨b,off,none⟩ m c (flat i.size f m) (zat _ _ _) hcell (fun u hu=>by
  obtain ⟨j,hj,rfl⟩:=List.mem_map.1 hu
  rw [List.mem_range] at hj
  exact h1 _ (Nat.div_lt_of_lt_mul (by rw [Nat.mul_comm]; exact hj)) _ (Nat.mod_lt _ hs))
 have hsmall:0+m<=9223372036854775807:=by simp only [maxLen] at h63; omega
 have hrun:=run_append_grow_src (P:=P) w t t ty e i z ht hi hz A0 0 0 [] (by cases A0 <;> simp [Builtin.firstCells,loadCells,loadCellsFrom]) (.slice (some ⟨b,off,none⟩) m c) m (flat i.size f m) hsr (by omega) (by omega) (growslice_fits (by omega) (by simpa using hbytes))
 simp only [Nat.zero_add,List.nil_append] at hrun
 refine ⟨_,_,hrun,grownCap_ge w m 0 e,grownCap_le_maxLen w m 0 e h63,?_,fun k hk j hj=>?_⟩
 ·have hge:=grownCap_ge w m 0 e
  have e1:(grownCap w m 0 e - m)*i.size+m*i.size=grownCap w m 0 e*i.size:=by rw [<-Nat.add_mul]; congr 1; omega
  simp [zat,size_zeroCells,hzs]
  omega
 ·have hlt:k*i.size+j<m*i.size:=by
   have:(k+1)*i.size<=m*i.size:=Nat.mul_le_mul_right i.size (by omega)
   rw [Nat.add_mul] at this; omega
  rw [Array.getElem?_append_left (by simpa [zat] using hlt),List.getElem?_toArray]
  exact zcz hs hk hj
end
theorem Own.new {w:World} {base:Nat} {e:TypeId} {s m cap:Nat} {cur:Array Value} {f:Nat->Nat->Value} (hb:base<=w.heap.size) (h1:m<=cap) (h2:cap<=maxLen) (h3:cap*s<=cur.size) (h4:∀ k,k<m->∀ j,j<s->cur[k*s+j]?=some (f k j)) :
  Own (w.alloc (.cells cur e)) base e s (.slice (some ⟨w.heap.size,0,none⟩) m cap) m f :=
 .inr ⟨w.heap.size,0,cap,cur,rfl,hb,heap_alloc_new w _,h1,h2,by omega,fun i hi j hj=>by rw [Nat.zero_add]; exact h4 i hi j hj⟩
theorem Own.set {w:World} {base:Nat} {e:TypeId} {s n g o c:Nat} {f:Nat->Nat->Value} (h:Own w base e s (.slice (some ⟨g,o,none⟩) n c) n f) {a b:Nat} (ha:a<n) (hb:b<s) (u:Value) :
  Own (w.setCell ⟨g,o+a*s+b,none⟩ u) base e s (.slice (some ⟨g,o,none⟩) n c) n (fun i j=>if i=a/\j=b then u else f i j):=by
 rcases h with ⟨h,_⟩ | ⟨g',o',cap,cur,h1,h2,hg,hc,hm,h6,h7⟩
 ·cases h
 ·injection h1 with h1 _ h1'
  injection h1 with h1
  injection h1 with h1 h1''
  subst h1 h1' h1''
  have hle:(a+1)*s<=n*s:=Nat.mul_le_mul_right s ha
  have hle2:n*s<=c*s:=Nat.mul_le_mul_right s hc
  rw [Nat.add_mul] at hle
  have hin:o+a*s+b<cur.size:=by omega
  refine .inr ⟨g,o,c,cur.setIfInBounds (o+a*s+b) u,rfl,h2,?_,hc,hm,by simpa using h6,fun i hi j hj=>?_⟩
  ·simp [World.setCell,Array.getElem?_modify,hg]
  ·by_cases e:i=a/\j=b
   ·obtain ⟨rfl,rfl⟩:=e
    simp [hin]
   ·simp only [if_neg e]
    have hne:o+a*s+b≠o+i*s+j:=fun e2=>by
     rcases Nat.lt_trichotomy i a with h | h | h
     ·have:(i+1)*s<=a*s:=Nat.mul_le_mul_right s h
      rw [Nat.add_mul] at this; omega
     ·subst h; exact e ⟨rfl,by omega⟩
     ·have:(a+1)*s<=i*s:=Nat.mul_le_mul_right s h
      rw [Nat.add_mul] at this; omega
    rw [Array.getElem?_setIfInBounds_ne hne]
    exact h7 i hi j hj
end Go.Proofs.YtioagplajkoohaaGreat