/- Merged texts of a claim: Base, Tk, Own, Copy, NatLow, NatLo2, NatA, NatB, IntsAll. -/
import Derived.Test.YtgekjfpapmlndaaGreatRows
import Derived.WalkKit
import Derived.WalkSpells
import Derived.WalkLawsBesides
import Derived.Deep.OwnRows
import Derived.ProofKit
import Derived.Deep.RegionHeld3
import Derived.Deep.AppendSrc
import Derived.Maps.AppendAt
import Derived.Deep.LoopGhost
import Derived.IntWalk
import Derived.Deep.DeepCutAuto
import Derived.Laws.Bits64b
import Derived.Shelf.Small.Bits
import Derived.Deep.QuietTactic
import Derived.BigQuiet
import Derived.Deep.Slices
import Derived.Lib.SmallJoins
import Derived.Deep.Cut
import Derived.Deep.CutBlock
import Derived.StillTailTactics
import Derived.SizedLaws
namespace Go.Proofs.YtgekjfpapmlndaaGreat
set_option maxRecDepth 100000
set_option maxHeartbeats 32000000
theorem KE.qc0 {w:World} {g:Nat} {T:TypeId} {v:Value} (h:w.rowIs g T 1 (fun _=>v)) : w.cell? ⟨g,0,none⟩=some v:=h.cell (i:=0) (by decide)
open KE
open Go.RowKit
theorem hid {p:Prop} (h:p):Hid p:=h
theorem zas {k:IntKind} {a b:Int} (h:a=b):Ending.returned (.int k a)=.returned (.int k b):=by rw [h]
theorem cellS {X w1:World} {p:Addr} {v:Value} (hb:Below X.heap.size X w1) (h:X.cell? p=some v):w1.cell? p=some v :=
 (hb.cell (World.block_lt_of_cell? X p h)).trans h
theorem onS {w X w1:World} (h:Below w.heap.size w X) (hb:Below X.heap.size X w1):Below w.heap.size w w1:=h.trans (hb.mono h.size)
theorem zac {B:Nat} {a w:World} (h:Below B a w) (n:Nat):Below B a (w.drewN n):=⟨h.os,h.tape,h.output,h.size,h.block⟩
def Rd (w:World) (B:Nat) (A:Option Addr) (n s:Nat) (f:Nat->Nat->Value):Prop :=
 ∀ i,i<n->∃ b off,A=some ⟨b,off,none⟩/\b<B/\∀ j,j<s->w.cell? ⟨b,off+i*s+j,none⟩=some (f i j)
section
variable {w w':World} {B B' n s i:Nat} {A:Option Addr} {f:Nat->Nat->Value}
theorem Rd.keep (h:Rd w B A n s f) (hk:∀ p:Addr,p.block<B->w'.cell? p=w.cell? p):Rd w' B A n s f:=fun i hi=>by
 obtain ⟨b,off,e,hb,hc⟩:=h i hi
 exact ⟨b,off,e,hb,fun j hj=>(hk _ hb).trans (hc j hj)⟩
theorem Rd.mono (h:Rd w B A n s f) (hB:B<=B'):Rd w B' A n s f:=fun i hi=>by
 obtain ⟨b,off,e,hb,hc⟩:=h i hi
 exact ⟨b,off,e,by omega,hc⟩
theorem Rd.below (h:Rd w B A n s f) (hb:Below B' w w') (hB:B<=B'):Rd w' B A n s f:=h.keep fun _ hp=>hb.cell (by omega)
theorem Rd.alloc (h:Rd w B A n s f) (hB:B<=w.heap.size) (o:Obj):Rd (w.alloc o) B A n s f:=h.keep fun p hp=>World.cell?_alloc_lt w o p (by omega)
theorem Rd.at1 (h:Rd w B A n 1 f) (hi:i<n):∃ b off,A=some ⟨b,off,none⟩/\b<B/\w.cell? ⟨b,off+i,none⟩=some (f i 0):=by
 obtain ⟨b,off,e,hb,hc⟩:=h i hi
 exact ⟨b,off,e,hb,by simpa using hc 0 (by omega)⟩
theorem Rd.at3 (h:Rd w B A n 3 f) (hi:i<n):∃ b off,A=some ⟨b,off,none⟩/\b<B/\w.cell? ⟨b,off+i*3,none⟩=some (f i 0)/\w.cell? ⟨b,off+i*3+1,none⟩=some (f i 1)/\w.cell? ⟨b,off+i*3+2,none⟩=some (f i 2):=by
 obtain ⟨b,off,e,hb,hc⟩:=h i hi
 exact ⟨b,off,e,hb,by simpa using hc 0 (by omega),by simpa using hc 1 (by omega),by simpa using hc 2 (by omega)⟩
end
theorem zaf {P:Program} (t e:TypeId) (z:Value) (bytes:Nat) (ht:P.underlying t=some (.slice e)) (hinfo:(P.info? e).map (fun i=>(i.zero,i.size,i.bytes))=some (some z,1,bytes)) (hz1:z.cells=#[z])
  (x:Int) (h0:0<=x) (hbytes:bytes*x.toNat<=281474976710656) (h63:x.toNat<=9223372036854775807) (w:World) :
  (Instr.makeSlice t (.int .i64 x) (.int .i64 x)).run P w=.ok (.slice (some ⟨w.heap.size,0,none⟩) x.toNat x.toNat) (w.alloc (.cells (madeCells #[z] x.toNat) e)):=by
 obtain ⟨n,rfl⟩:=Int.eq_ofNat_of_zero_le h0
 simp only [Int.toNat_natCast] at hbytes h63 ⊢
 exact run_make_row' t e z bytes ht hinfo hz1 _ _ n hbytes h63 w
theorem za9 {w:World} {b:Nat} {t:TypeId} {n:Nat} {f:Nat->Value} (h:w.rowIs b t n f) (k:Nat):(w.drewN k).rowIs b t n f:=h
theorem zc7 {w w':World} {B b:Nat} {t:TypeId} {n:Nat} {f:Nat->Value} (h:w.rowIs b t n f) (hb:Below B w w') (hB:b<B):w'.rowIs b t n f:=h.of_block (hb.block b hB)
theorem zab {w w':World} {b:Nat} {t:TypeId} {n:Nat} {f:Nat->Value} (h:w.rowIs b t n f) (hb:Below w.heap.size w w'):w'.rowIs b t n f:=h.of_block (hb.block b h.lt)
theorem zbv {w : World} {b : Nat} {t : TypeId} {n : Nat} {f : Nat → Value} (h : w.rowIs b t n f) : Rd w w.heap.size (some ⟨b, 0, none⟩) n 1 (fun i _ => f i) := fun i hi =>
  ⟨b, 0, rfl, h.lt, fun j hj => by obtain rfl : j = 0 := by omega
                                   simpa using h.cell hi⟩
theorem Tryz.infoInt:(Tryz.prog.info? 3).map (fun i=>(i.zero,i.size,i.bytes))=some (some (.int .i64 0),1,8):=by kernel_rfl
theorem Tryz.infoBool:(Tryz.prog.info? 4).map (fun i=>(i.zero,i.size,i.bytes))=some (some (.bool false),1,1):=by kernel_rfl
section
variable {P:Program} {md:Region.Mode} {ops:Array Oper} {Q:Exit->Act->World->Prop} {S:World->Prop}
theorem tkq (i:Nat) {oi:Oper} {v:Value} {fuel:Nat} {listed l':Array Bool} {a a':Act} {w:World}
  (hi:ops[i]?=some oi:=by simp only [List.getElem?_toArray,List.getElem?_cons_succ,List.getElem?_cons_zero]; rfl)
  (hs:Region.noSelect ops=true:=by kernel_rfl) (hf:Region.free md ops listed i=true:=by kernel_rfl) (hr:(Region.ready md ops listed).contains i=true:=by kernel_rfl)
  (hQ:∀ c a w,Q (.panic c) (a.put oi.dst v) w->Q (.panic c) a w:=by exact fun _ _ _ h=>h)
  (hw:Region.wanted oi (yielded ops a.tmps)=true:=by rfl)
  (hy:∀ w,S w->(execOp a.eval oi).run P w=.ok (.value v) w:=by (intro w hSw; (try dsimp only at hSw); go_simp); first | done | with_reducible rfl)
  (hS:S w:=by assumption)
  (ha:a.put oi.dst v=a':=by (try simp only [Act.put,List.setIfInBounds_toArray,List.set_cons_zero,List.set_cons_succ]); first | done | rfl)
  (hl:listed.setIfInBounds i true=l':=by (try simp only [List.setIfInBounds_toArray,List.set_cons_zero,List.set_cons_succ]); first | done | rfl)
  (h:wpAnyH P md ops Q S fuel l' a' w):wpAnyH P md ops Q S (fuel+1) listed a w:=by
 subst ha hl
 exact wpAnyH_take hi hs hf hr hQ (Or.inl ⟨hw,hy⟩) hS h
theorem tkn (i:Nat) {oi:Oper} {fuel:Nat} {listed l':Array Bool} {a a':Act} {w:World}
  (hi:ops[i]?=some oi:=by simp only [List.getElem?_toArray,List.getElem?_cons_succ,List.getElem?_cons_zero]; rfl)
  (hs:Region.noSelect ops=true:=by kernel_rfl) (hf:Region.free md ops listed i=true:=by kernel_rfl) (hr:(Region.ready md ops listed).contains i=true:=by kernel_rfl)
  (hQ:∀ c a w,Q (.panic c) (a.put oi.dst undef) w->Q (.panic c) a w:=by exact fun _ _ _ h=>h)
  (hw:Region.wanted oi (yielded ops a.tmps)=false:=by rfl)
  (hS:S w:=by assumption)
  (ha:a.put oi.dst undef=a':=by (try simp only [Act.put,List.setIfInBounds_toArray,List.set_cons_zero,List.set_cons_succ]); first | done | rfl)
  (hl:listed.setIfInBounds i true=l':=by (try simp only [List.setIfInBounds_toArray,List.set_cons_zero,List.set_cons_succ]); first | done | rfl)
  (h:wpAnyH P md ops Q S fuel l' a' w):wpAnyH P md ops Q S (fuel+1) listed a w:=by
 subst ha hl
 exact wpAnyH_take hi hs hf hr hQ (Or.inr ⟨hw,rfl⟩) hS h
theorem rdq (i:Nat) {o:Oper} {fuel:Nat} {listed l':Array Bool} {a:Act} {w:World}
  (hr:Region.ready md ops listed=[i]:=by kernel_rfl)
  (ho:ops[i]?=some o:=by simp only [List.getElem?_toArray,List.getElem?_cons_succ,List.getElem?_cons_zero]; rfl)
  (hl:listed.setIfInBounds i true=l':=by (try simp only [List.setIfInBounds_toArray,List.set_cons_zero,List.set_cons_succ]); first | done | rfl)
  (h:∀ K':Act->World->Prop,Shut (∀ a w,S w->(S w->wpAnyH P md ops Q S fuel l' a w)->K' a w)->if Region.wanted o (yielded ops a.tmps)=true then Oper.wp P o a w K' Q else K' (a.put o.dst undef) w) :
  wpAnyH P md ops Q S (fuel+1) listed a w:=by
 subst hl
 exact wpAnyH_ready hr (by simp) (AllReadyH.cons ho h AllReadyH.nil)
theorem rdq2 (i j:Nat) {o o2:Oper} {fuel:Nat} {listed l' l2:Array Bool} {a:Act} {w:World}
  (hr:Region.ready md ops listed=[i,j]:=by kernel_rfl)
  (ho:ops[i]?=some o:=by simp only [List.getElem?_toArray,List.getElem?_cons_succ,List.getElem?_cons_zero]; rfl)
  (ho2:ops[j]?=some o2:=by simp only [List.getElem?_toArray,List.getElem?_cons_succ,List.getElem?_cons_zero]; rfl)
  (hl:listed.setIfInBounds i true=l':=by (try simp only [List.setIfInBounds_toArray,List.set_cons_zero,List.set_cons_succ]); first | done | rfl)
  (hl2:listed.setIfInBounds j true=l2:=by (try simp only [List.setIfInBounds_toArray,List.set_cons_zero,List.set_cons_succ]); first | done | rfl)
  (h:∀ K':Act->World->Prop,Shut (∀ a w,S w->(S w->wpAnyH P md ops Q S fuel l' a w)->K' a w)->if Region.wanted o (yielded ops a.tmps)=true then Oper.wp P o a w K' Q else K' (a.put o.dst undef) w)
  (h2:∀ K':Act->World->Prop,Shut (∀ a w,S w->(S w->wpAnyH P md ops Q S fuel l2 a w)->K' a w)->if Region.wanted o2 (yielded ops a.tmps)=true then Oper.wp P o2 a w K' Q else K' (a.put o2.dst undef) w) :
  wpAnyH P md ops Q S (fuel+1) listed a w:=by
 subst hl hl2
 exact wpAnyH_ready hr (by simp) (AllReadyH.cons ho h (AllReadyH.cons ho2 h2 AllReadyH.nil))
theorem bkq {K:Act->World->Prop} {fuel:Nat} {l:Array Bool} {a a':Act} {w:World} (hK:Shut (∀ a w,S w->(S w->wpAnyH P md ops Q S fuel l a w)->K a w)) (hS:S w)
  (ha:a=a':=by (try simp only [Act.put,List.setIfInBounds_toArray,List.set_cons_zero,List.set_cons_succ]); first | done | rfl)
  (h:S w->wpAnyH P md ops Q S fuel l a' w):K a w:=by
 subst ha
 exact hK.out _ _ hS h
end
def Own (w:World) (base:Nat) (e:TypeId) (s:Nat) (v:Value) (n:Nat) (f:Nat->Nat->Value):Prop :=
 (v=.slice none 0 0/\n=0) ∨
 ∃ g o cap cur,v=.slice (some ⟨g,o,none⟩) n cap/\base<=g/\w.heap[g]?=some (.cells cur e (0,0))/\n<=cap/\cap<=maxLen/\o+cap*s<=cur.size/\∀ i,i<n->∀ j,j<s->cur[o+i*s+j]?=some (f i j)
section
variable {w w':World} {base e s n:Nat} {v:Value} {f f':Nat->Nat->Value}
theorem Own.nil (w:World) (base e s:Nat) (f:Nat->Nat->Value):Own w base e s (.slice none 0 0) 0 f:=.inl ⟨rfl,rfl⟩
theorem Own.congr (h:Own w base e s v n f) (hf:∀ i,i<n->∀ j,j<s->f i j=f' i j):Own w base e s v n f':=by
 rcases h with h | ⟨g,o,cap,cur,h1,h2,h3,h4,h5,h6,h7⟩
 ·exact .inl h
 ·exact .inr ⟨g,o,cap,cur,h1,h2,h3,h4,h5,h6,fun i hi j hj=>by rw [h7 i hi j hj,hf i hi j hj]⟩
theorem Own.mono {base':Nat} (h:Own w base e s v n f) (hb:base'<=base):Own w base' e s v n f:=by
 rcases h with h | ⟨g,o,cap,cur,h1,h2,h3⟩
 ·exact .inl h
 ·exact .inr ⟨g,o,cap,cur,h1,by omega,h3⟩
theorem Own.lt (h:Own w base e s v n f):∀ k,v.ownBlock=some k->base<=k/\k<w.heap.size:=by
 intro k hk
 rcases h with ⟨rfl,_⟩ | ⟨g,o,cap,cur,rfl,hb,hg,_⟩
 ·simp [Value.ownBlock] at hk
 simp [Value.ownBlock] at hk
 subst hk
 exact ⟨hb,(Array.getElem?_eq_some_iff.1 hg).1⟩
theorem Own.of_block (h:Own w base e s v n f) (hb:∀ k,v.ownBlock=some k->w'.heap[k]?=w.heap[k]?):Own w' base e s v n f:=by
 rcases h with h | ⟨g,o,cap,cur,rfl,h2,h3,h4⟩
 ·exact .inl h
 ·exact .inr ⟨g,o,cap,cur,rfl,h2,(hb g rfl).trans h3,h4⟩
theorem Own.kept {row:Option Nat} (h:Own w base e s v n f) (hg:w.grownBy w' row) (hne:v.ownBlock=none∨v.ownBlock≠row):Own w' base e s v n f :=
 h.of_block fun k hk=>hg.block k (h.lt k hk).2 (by rcases hne with h0 | h0 <;> rw [hk] at h0; cases h0; exact h0)
theorem Own.below {B:Nat} (h:Own w base e s v n f) (hb:Below B w w') (hB:∀ k,v.ownBlock=some k->k<B):Own w' base e s v n f:=h.of_block fun k hk=>hb.block k (hB k hk)
theorem Own.on (h:Own w base e s v n f) (hb:Below w.heap.size w w'):Own w' base e s v n f:=h.below hb fun k hk=>(h.lt k hk).2
theorem Own.alloc (h:Own w base e s v n f) (o:Obj):Own (w.alloc o) base e s v n f:=h.of_block fun k hk=>Below.heap_alloc w o k (h.lt k hk).2
theorem Own.drew (h:Own w base e s v n f):Own w.drew base e s v n f:=h
theorem Own.setCell (h:Own w base e s v n f) {a:Addr} (ha:v.ownBlock≠some a.block) (u:Value):Own (w.setCell a u) base e s v n f :=
 h.of_block fun k hk=>Below.heap_setCell w a u k (fun e=>ha (by rw [hk,e]))
theorem Own.shape (h:Own w base e s v n f):∃ A c,v=.slice A n c:=by
 rcases h with ⟨rfl,rfl⟩ | ⟨g,o,cap,cur,rfl,_⟩
 ·exact ⟨_,_,rfl⟩
 ·exact ⟨_,_,rfl⟩
theorem Own.form (h:Own w base e s v n f) (hn:0<n):∃ g o cap,v=.slice (some ⟨g,o,none⟩) n cap/\base<=g/\g<w.heap.size/\n<=cap/\cap<=maxLen/\∀ i,i<n->∀ j,j<s->w.cell? ⟨g,o+i*s+j,none⟩=some (f i j):=by
 rcases h with ⟨rfl,rfl⟩ | ⟨g,o,cap,cur,rfl,hb,hg,hc,hm,_,h7⟩
 ·omega
 ·exact ⟨g,o,cap,rfl,hb,(Array.getElem?_eq_some_iff.1 hg).1,hc,hm,fun i hi j hj=>by rw [cell_of_row w g _ cur e (0,0) hg]; exact h7 i hi j hj⟩
theorem Own.frozen {g o c:Nat} (h:Own w base e s (.slice (some ⟨g,o,none⟩) n c) n f) (k:Nat):w.frozen? ⟨g,k,none⟩=false:=by
 rcases h with ⟨h,_⟩ | ⟨g',o',cap,cur,h1,_,hg,_⟩
 ·cases h
 injection h1 with h1
 injection h1 with h1
 injection h1 with h1
 subst h1
 exact frozen_of_row w g k cur e hg
theorem Own.rd (h:Own w base e s v n f) {A:Option Addr} {c:Nat} (hv:v=.slice A n c):Rd w w.heap.size A n s f:=by
 intro i hi
 obtain ⟨g,o,cap,h1,_,a,_,_,hc⟩:=h.form (by omega)
 rw [hv] at h1
 injection h1 with h1
 exact ⟨g,o,h1,a,fun j hj=>hc i hi j hj⟩
end
theorem zbn {w:World} {g:Nat} {cur cs:Array Value} {e:TypeId} {fr:Nat × Nat} (h:w.heap[g]?=some (.cells cur e fr)):(w.setRow g cs).heap[g]?=some (.cells cs e fr):=by
 simp [World.setRow,Array.getElem?_modify,h]
theorem zcf {w:World} {g k:Nat} {cs:Array Value} (h:k≠g):(w.setRow g cs).heap[k]?=w.heap[k]?:=by
 simp only [World.setRow,Array.getElem?_modify]
 rw [if_neg (fun e=>h e.symm)]
theorem zdh (w:World) (g:Nat) (cs:Array Value):w.grownBy (w.setRow g cs) (some g) :=
 ⟨rfl,rfl,rfl,by simp,fun k _ hne=>zcf (fun e=>hne (by rw [e]))⟩
def elem (s:Nat) (u:Nat->Value):List Value:=(List.range s).map u
theorem zak (s:Nat) (u:Nat->Value):(elem s u).length=s:=by simp [elem]
theorem zdi {s:Nat} {u:Nat->Value} {j:Nat} (hj:j<s):(elem s u)[j]?=some (u j):=by simp [elem,hj]
def flat (s:Nat) (f:Nat->Nat->Value) (n:Nat):List Value:=(List.range (n*s)).map fun k=>f (k / s) (k % s)
theorem zao (s:Nat) (f:Nat->Nat->Value) (n:Nat):(flat s f n).length=n*s:=by simp [flat]
theorem zcq {s:Nat} (hs:0<s) {f:Nat->Nat->Value} {n i j:Nat} (hi:i<n) (hj:j<s):(flat s f n)[i*s+j]?=some (f i j):=by
 have a:i*s+j<n*s:=by
  have:(i+1)*s<=n*s:=Nat.mul_le_mul_right s hi
  rw [Nat.add_mul] at this; omega
 simp only [flat,List.getElem?_map]
 rw [List.getElem?_range a]
 simp only [Option.map_some]
 rw [show (i*s+j) / s=i by rw [Nat.mul_comm,Nat.mul_add_div hs,Nat.div_eq_of_lt hj,Nat.add_zero],show (i*s+j) % s=j by rw [Nat.mul_comm,Nat.mul_add_mod,Nat.mod_eq_of_lt hj]]
section
variable {P:Program} (w:World)
theorem za3 (t ty e:TypeId) (i:TypeInfo) (ht:P.underlying t=some (.slice e)) (hi:P.info? e=some i)
  (g o sLen sCap:Nat) (cur:Array Value) (hg:w.heap[g]?=some (.cells cur e (0,0)))
  (a:Addr) (c:Nat) (news:List Value) (hl:news.length=i.size) (hnews:∀ j u,news[j]?=some u->w.cell? (a.add j)=some u) (h1:∀ u ∈ news,u.oneCell'=true)
  (hroom:sLen+1<=sCap) (hfit:o+sLen*i.size+news.length<=cur.size) :
  (Builtin.append_ #[t,t] ty #[.slice (some ⟨g,o,none⟩) sLen sCap,.slice (some a) 1 c]).run P w =
   .ok (.slice (some ⟨g,o,none⟩) (sLen+1) sCap) (w.setRow g (cur.toList.take (o+sLen*i.size) ++ news ++ cur.toList.drop (o+sLen*i.size+news.length)).toArray):=by
 have hf:=run_firstCells_some (P:=P) w i.size 1 a 1 c news (by omega) hnews
 have b:=run_storeCells_at P g (o+sLen*i.size) e news 0 cur w hg (by simpa using hfit) h1
 simp only [Nat.add_zero] at b
 simp [Builtin.append_,run_underlying ht,sizeOf,typeInfo,hi,Builtin.lenOf,hroom,hf,Addr.add_lit,b]
theorem zbc (base:Nat) (t ty e:TypeId) (i:TypeInfo) (z:Value) (s bytes:Nat) (ht:P.underlying t=some (.slice e)) (hi:P.info? e=some i) (hz:i.zero=some z)
  (hsize:i.size=s) (hby:i.bytes=bytes) (hzs:z.cells.size=s) (hs:0<s)
  (v:Value) (n:Nat) (f:Nat->Nat->Value) (hown:Own w base e s v n f)
  (a:Addr) (c:Nat) (hnews:∀ j,j<s->w.cell? (a.add j)=some (f n j)) (h1:∀ j,j<s->(f n j).oneCell'=true)
  (h63:n+1<=maxLen) (hbytes:(n+1)*bytes<=140737488355328) (hbase:base<=w.heap.size) :
  ∃ v' w',(Builtin.append_ #[t,t] ty #[v,.slice (some a) 1 c]).run P w=.ok v' w'/\Own w' base e s v' (n+1) f/\w.grownBy w' v.ownBlock/\(v'.ownBlock=v.ownBlock∨v'.ownBlock=some w.heap.size)/\∃ g o cap,v'=.slice (some ⟨g,o,none⟩) (n+1) cap:=by
 subst hsize
 subst hby
 have r:n+1<=9223372036854775807:=by simp only [maxLen] at h63; omega
 have b:∀ j u,(elem i.size (f n))[j]?=some u->w.cell? (a.add j)=some u:=fun j u hu=>by
  have hj:j<i.size:=by have:=(List.getElem?_eq_some_iff.1 hu).1; rwa [zak] at this
  rw [zdi hj] at hu
  injection hu with hu
  subst hu
  exact hnews j hj
 have B:∀ u ∈ elem i.size (f n),u.oneCell'=true:=fun u hu=>by
  obtain ⟨j,hj,rfl⟩:=List.mem_map.1 hu
  exact h1 j (List.mem_range.1 hj)
 have q:=Src.ofSlice (P:=P) w (size:=i.size) (e':=e) ht a 1 c (elem i.size (f n)) (by rw [zak]; omega) b B
 have grown:∀ (A:Option Addr) (cap:Nat),cap<n+1->(Builtin.firstCells i.size n (.slice A n cap)).run P w.drew=.ok (flat i.size f n).toArray w.drew->∀ row:Option Nat,
   ∃ v' w',(Builtin.append_ #[t,t] ty #[.slice A n cap,.slice (some a) 1 c]).run P w=.ok v' w'/\Own w' base e i.size v' (n+1) f/\w.grownBy w' row/\v'.ownBlock=some w.heap.size/\∃ g o cap,v'=.slice (some ⟨g,o,none⟩) (n+1) cap:=by
  intro A cap d l row
  have h:=run_append_grow_src (P:=P) w t t ty e i z ht hi hz A n cap (flat i.size f n) l (.slice (some a) 1 c) 1 (elem i.size (f n)) q d (by omega) (growslice_fits d hbytes)
  refine ⟨_,_,h,.inr ⟨w.heap.size,0,_,_,rfl,hbase,heap_alloc_new w.drew _,grownCap_ge w (n+1) cap e,grownCap_le_maxLen w (n+1) cap e h63,?_,fun k hk j hj=>?_⟩,⟨rfl,rfl,rfl,by simp,fun k hk _=>Below.heap_alloc w.drew _ k hk⟩,rfl,_,_,_,rfl⟩
  ·have H:=grownCap_ge w (n+1) cap e
   have e1:(grownCap w (n+1) cap e - (n+1))*i.size+(n+1)*i.size=grownCap w (n+1) cap e*i.size:=by rw [<-Nat.add_mul]; congr 1; omega
   simp [zao,zak,size_zeroCells,hzs]
   rw [Nat.add_mul] at e1
   omega
  ·have D:k*i.size+j<(n+1)*i.size:=by
    have:(k+1)*i.size<=(n+1)*i.size:=Nat.mul_le_mul_right i.size (by omega)
    rw [Nat.add_mul] at this; omega
   have x:(flat i.size f n ++ elem i.size (f n)).length=(n+1)*i.size:=by rw [List.length_append,zao,zak,Nat.add_mul]; omega
   rw [Nat.zero_add,Array.getElem?_append_left (by simpa [x] using D)]
   rw [List.getElem?_toArray]
   by_cases hkn:k<n
   ·rw [List.getElem?_append_left (by
     rw [zao]
     have:(k+1)*i.size<=n*i.size:=Nat.mul_le_mul_right i.size hkn
     rw [Nat.add_mul] at this; omega)]
    exact zcq hs hkn hj
   ·obtain rfl:k=n:=by omega
    rw [List.getElem?_append_right (by rw [zao]; omega),zao,show k*i.size+j - k*i.size=j by omega]
    exact zdi hj
 rcases hown with ⟨rfl,rfl⟩ | ⟨g,o,cap,cur,rfl,hb,hg,G,F,E,m⟩
 ·obtain ⟨v',w',h2,h3,h4,h5,h6⟩:=grown none 0 (by omega) (by simp [Builtin.firstCells,flat]) (Value.ownBlock (.slice none 0 0))
  exact ⟨v',w',h2,h3,h4,.inr h5,h6⟩
 by_cases hroom:n+1<=cap
 ·have p:o+n*i.size+(elem i.size (f n)).length<=cur.size:=by
   rw [zak]
   have:(n+1)*i.size<=cap*i.size:=Nat.mul_le_mul_right i.size hroom
   rw [Nat.add_mul] at this; omega
  have h:=za3 (P:=P) w t ty e i ht hi g o n cap cur hg a c (elem i.size (f n)) (zak _ _) b B hroom p
  refine ⟨_,_,h,.inr ⟨g,o,cap,_,rfl,hb,zbn hg,hroom,F,?_,fun k hk j hj=>?_⟩,zdh w g _,.inl rfl,_,_,_,rfl⟩
  ·rw [zak] at p
   simp [zak]; omega
  rw [zak] at p
  have C:(cur.toList.take (o+n*i.size)).length=o+n*i.size:=by simp; omega
  rw [List.getElem?_toArray]
  by_cases hkn:k<n
  ·have:(k+1)*i.size<=n*i.size:=Nat.mul_le_mul_right i.size hkn
   rw [Nat.add_mul] at this
   rw [List.append_assoc,List.getElem?_append_left (by omega),List.getElem?_take,if_pos (by omega)]
   rw [Array.getElem?_toList]
   exact m k hkn j hj
  obtain rfl:k=n:=by omega
  rw [List.append_assoc,List.getElem?_append_right (by omega),C,show o+k*i.size+j - (o+k*i.size)=j by omega,List.getElem?_append_left (by rw [zak]; omega)]
  exact zdi hj
 have d:cap=n:=by omega
 subst d
 have l:(Builtin.firstCells i.size cap (.slice (some ⟨g,o,none⟩) cap cap)).run P w.drew=.ok (flat i.size f cap).toArray w.drew:=by
  refine run_firstCells_some (P:=P) w.drew i.size cap ⟨g,o,none⟩ cap cap (flat i.size f cap) (zao _ _ _) fun j u hu=>?_
  have hj:j<cap*i.size:=by have:=(List.getElem?_eq_some_iff.1 hu).1; rwa [zao] at this
  have e1:j / i.size<cap:=Nat.div_lt_of_lt_mul (by rw [Nat.mul_comm]; exact hj)
  have e2:j % i.size<i.size:=Nat.mod_lt _ hs
  have e3:j / i.size*i.size+j % i.size=j:=Nat.div_add_mod' j i.size
  have:=zcq (f:=f) hs e1 e2
  rw [e3,hu] at this
  injection this with this
  subst this
  have:=m _ e1 _ e2
  have y:(⟨g,o,none⟩:Addr).add j=⟨g,o+j,none⟩:=by unfold Addr.add; split <;> simp_all
  rw [y]
  show w.cell? ⟨g,o+j,none⟩=_
  rw [cell_of_row w g _ cur e (0,0) hg,<-this]
  congr 1; omega
 obtain ⟨v',w',h2,h3,h4,h5,h6⟩:=grown (some ⟨g,o,none⟩) cap (by omega) l (Value.ownBlock (.slice (some ⟨g,o,none⟩) cap cap))
 exact ⟨v',w',h2,h3,h4,.inr h5,h6⟩
theorem zal {ops:Array Oper} {rest:List Oper} {o:Oper} {a:Act} {Q:Exit->Act->World->Prop} (hgd:o.guard=none) (sl x:Operand) (t:TypeId)
  (ho:o.op=.call { callee:=.builtin .append,args:=#[sl,x],argTypes:=#[t,t] })
  (base:Nat) (e:TypeId) (i:TypeInfo) (z:Value) (s bytes:Nat) (ht:P.underlying t=some (.slice e)) (hi:P.info? e=some i) (hz:i.zero=some z)
  (hsize:i.size=s) (hby:i.bytes=bytes) (hzs:z.cells.size=s) (hs:0<s)
  (v:Value) (n:Nat) (f:Nat->Nat->Value) (hv:a.eval sl=v) (hown:Own w base e s v n f)
  (ad:Addr) (c:Nat) (hx:a.eval x=.slice (some ad) 1 c) (hnews:∀ j,j<s->w.cell? (ad.add j)=some (f n j)) (h1:∀ j,j<s->(f n j).oneCell'=true)
  (h63:n+1<=maxLen) (hbytes:(n+1)*bytes<=140737488355328) (hbase:base<=w.heap.size)
  (h:∀ v' w',Own w' base e s v' (n+1) f->w.grownBy w' v.ownBlock->(v'.ownBlock=v.ownBlock∨v'.ownBlock=some w.heap.size)->wpList P ops Q rest (a.put o.dst v') w'):wpList P ops Q (o :: rest) a w:=by
 refine wpList_plain hgd fun K hK=>?_
 obtain ⟨v',w',b,h2,h3,h4,_⟩:=zbc (P:=P) w base t o.type e i z s bytes ht hi hz hsize hby hzs hs v n f hown ad c hnews h1 h63 hbytes hbase
 unfold Oper.wp execOp
 simp only [ho,resolve,invoke,builtin,Sem.run_bind,Sem.run_pure,Result.andThen_ok,List.map_toArray,List.map_cons,List.map_nil,hv,hx,b]
 exact hK _ _ (h v' w' h2 h3 h4)
theorem zbz {ops:Array Oper} {o:Oper} {a:Act} {K:Act->World->Prop} {Q:Exit->Act->World->Prop} {E:Prop} (hgd:o.guard=none) (sl x:Operand) (t:TypeId)
  (ho:o.op=.call { callee:=.builtin .append,args:=#[sl,x],argTypes:=#[t,t] })
  (base:Nat) (e:TypeId) (i:TypeInfo) (z:Value) (s bytes:Nat) (ht:P.underlying t=some (.slice e)) (hi:P.info? e=some i) (hz:i.zero=some z)
  (hsize:i.size=s) (hby:i.bytes=bytes) (hzs:z.cells.size=s) (hs:0<s)
  (v:Value) (n:Nat) (f:Nat->Nat->Value) (hv:a.eval sl=v) (hown:Own w base e s v n f)
  (ad:Addr) (c:Nat) (hx:a.eval x=.slice (some ad) 1 c) (hnews:∀ j,j<s->w.cell? (ad.add j)=some (f n j)) (h1:∀ j,j<s->(f n j).oneCell'=true)
  (h63:n+1<=maxLen) (hbytes:(n+1)*bytes<=140737488355328) (hbase:base<=w.heap.size)
  (h:∀ v' w',Own w' base e s v' (n+1) f->w.grownBy w' v.ownBlock->(v'.ownBlock=v.ownBlock∨v'.ownBlock=some w.heap.size)->K (a.put o.dst v') w') :
  if Region.wanted o (yielded ops a.tmps)=true then Oper.wp P o a w K Q else E:=by
 have hw:Region.wanted o (yielded ops a.tmps)=true:=by simp [Region.wanted,hgd]
 rw [if_pos hw]
 obtain ⟨v',w',b,h2,h3,h4,_⟩:=zbc (P:=P) w base t o.type e i z s bytes ht hi hz hsize hby hzs hs v n f hown ad c hnews h1 h63 hbytes hbase
 unfold Oper.wp execOp
 simp only [ho,resolve,invoke,builtin,Sem.run_bind,Sem.run_pure,Result.andThen_ok,List.map_toArray,List.map_cons,List.map_nil,hv,hx,b]
 exact h v' w' h2 h3 h4
end
section
variable {P:Program} (w:World)
theorem zaX (t ty e:TypeId) (i:TypeInfo) (ht:P.underlying t=some (.slice e)) (hi:P.info? e=some i) (b0 o0:Nat) (A:Option Addr) (c:Nat) :
  (Builtin.append_ #[t,t] ty #[.slice (some ⟨b0,o0,none⟩) 0 0,.slice A 0 c]).run P w=.ok (.slice (some ⟨b0,o0,none⟩) 0 0) w:=by
 have hs:Src P i.size t (.slice A 0 c) 0 [] w:=by
  cases A with
  | none=>exact Src.ofNil w ht c
  | some a=>exact Src.ofSlice w (e':=e) ht a 0 c [] (by simp) (fun j u h=>by simp at h) (fun u h=>by cases h)
 have h:=run_append_room_src (P:=P) w t t ty e i ht hi b0 o0 0 0 (.slice A 0 c) 0 [] hs (Nat.le_refl _) (fun j hj=>by simp at hj) (fun j hj=>by simp at hj)
 rw [h]
 rfl
theorem zaY (t ty e:TypeId) (i:TypeInfo) (z:Value) (s bytes:Nat) (ht:P.underlying t=some (.slice e)) (hi:P.info? e=some i) (hz:i.zero=some z)
  (hsize:i.size=s) (hby:i.bytes=bytes) (hzs:z.cells.size=s) (hs:0<s) (A0:Option Addr)
  (A:Option Addr) (m c:Nat) (f:Nat->Nat->Value) (hsrc:Rd w w.heap.size A m s f) (hm:0<m) (h1:∀ k,k<m->∀ j,j<s->(f k j).oneCell'=true)
  (h63:m<=maxLen) (hbytes:m*bytes<=140737488355328) :
  ∃ cap cur,(Builtin.append_ #[t,t] ty #[.slice A0 0 0,.slice A m c]).run P w=.ok (.slice (some ⟨w.heap.size,0,none⟩) m cap) (w.drew.alloc (.cells cur e)) /\
   m<=cap/\cap<=maxLen/\cap*s<=cur.size/\∀ k,k<m->∀ j,j<s->cur[k*s+j]?=some (f k j):=by
 subst hsize
 subst hby
 obtain ⟨b,off,rfl,hb,_⟩:=hsrc 0 hm
 have d:∀ j u,(flat i.size f m)[j]?=some u->w.cell? ((⟨b,off,none⟩:Addr).add j)=some u:=fun j u hu=>by
  have hj:j<m*i.size:=by have:=(List.getElem?_eq_some_iff.1 hu).1; rwa [zao] at this
  have e1:j / i.size<m:=Nat.div_lt_of_lt_mul (by rw [Nat.mul_comm]; exact hj)
  have e2:j % i.size<i.size:=Nat.mod_lt _ hs
  have e3:j / i.size*i.size+j % i.size=j:=Nat.div_add_mod' j i.size
  have:=zcq (f:=f) hs e1 e2
  rw [e3,hu] at this
  injection this with this
  subst this
  obtain ⟨b',off',e',_,hc⟩:=hsrc _ e1
  injection e' with e'
  injection e' with e' e''
  subst e' e''
  have:=hc _ e2
  have h:(⟨b,off,none⟩:Addr).add j=⟨b,off+j,none⟩:=by unfold Addr.add; split <;> simp_all
  rw [h,<-this]
  congr 2; omega
 have l:=Src.ofSlice (P:=P) w (size:=i.size) (e':=e) ht ⟨b,off,none⟩ m c (flat i.size f m) (zao _ _ _) d (fun u hu=>by
  obtain ⟨j,hj,rfl⟩:=List.mem_map.1 hu
  rw [List.mem_range] at hj
  exact h1 _ (Nat.div_lt_of_lt_mul (by rw [Nat.mul_comm]; exact hj)) _ (Nat.mod_lt _ hs))
 have g:0+m<=9223372036854775807:=by simp only [maxLen] at h63; omega
 have a:=run_append_grow_src (P:=P) w t t ty e i z ht hi hz A0 0 0 [] (by cases A0 <;> simp [Builtin.firstCells,loadCells,loadCellsFrom]) (.slice (some ⟨b,off,none⟩) m c) m (flat i.size f m) l (by omega) (by omega) (growslice_fits (by omega) (by simpa using hbytes))
 simp only [Nat.zero_add,List.nil_append] at a
 refine ⟨_,_,a,grownCap_ge w m 0 e,grownCap_le_maxLen w m 0 e h63,?_,fun k hk j hj=>?_⟩
 ·have o:=grownCap_ge w m 0 e
  have e1:(grownCap w m 0 e - m)*i.size+m*i.size=grownCap w m 0 e*i.size:=by rw [<-Nat.add_mul]; congr 1; omega
  simp [zao,size_zeroCells,hzs]
  omega
 have n:k*i.size+j<m*i.size:=by
  have:(k+1)*i.size<=m*i.size:=Nat.mul_le_mul_right i.size (by omega)
  rw [Nat.add_mul] at this; omega
 rw [Array.getElem?_append_left (by simpa [zao] using n),List.getElem?_toArray]
 exact zcq hs hk hj
end
theorem Own.new {w:World} {base:Nat} {e:TypeId} {s m cap:Nat} {cur:Array Value} {f:Nat->Nat->Value} (hb:base<=w.heap.size) (h1:m<=cap) (h2:cap<=maxLen) (h3:cap*s<=cur.size) (h4:∀ k,k<m->∀ j,j<s->cur[k*s+j]?=some (f k j)) :
  Own (w.alloc (.cells cur e)) base e s (.slice (some ⟨w.heap.size,0,none⟩) m cap) m f :=
 .inr ⟨w.heap.size,0,cap,cur,rfl,hb,heap_alloc_new w _,h1,h2,by omega,fun i hi j hj=>by rw [Nat.zero_add]; exact h4 i hi j hj⟩
theorem Own.set {w:World} {base:Nat} {e:TypeId} {s n g o c:Nat} {f:Nat->Nat->Value} (h:Own w base e s (.slice (some ⟨g,o,none⟩) n c) n f) {a b:Nat} (ha:a<n) (hb:b<s) (u:Value) :
  Own (w.setCell ⟨g,o+a*s+b,none⟩ u) base e s (.slice (some ⟨g,o,none⟩) n c) n (fun i j=>if i=a/\j=b then u else f i j):=by
 rcases h with ⟨h,_⟩ | ⟨g',o',cap,cur,h1,h2,hg,hc,hm,h6,h7⟩
 ·cases h
 injection h1 with h1 _ h1'
 injection h1 with h1
 injection h1 with h1 h1''
 subst h1 h1' h1''
 have l:(a+1)*s<=n*s:=Nat.mul_le_mul_right s ha
 have k:n*s<=c*s:=Nat.mul_le_mul_right s hc
 rw [Nat.add_mul] at l
 have m:o+a*s+b<cur.size:=by omega
 refine .inr ⟨g,o,c,cur.setIfInBounds (o+a*s+b) u,rfl,h2,?_,hc,hm,by simpa using h6,fun i hi j hj=>?_⟩
 ·simp [World.setCell,Array.getElem?_modify,hg]
 by_cases e:i=a/\j=b
 ·obtain ⟨rfl,rfl⟩:=e
  simp [m]
 simp only [if_neg e]
 have d:o+a*s+b≠o+i*s+j:=fun e2=>by
  rcases Nat.lt_trichotomy i a with h | h | h
  ·have:(i+1)*s<=a*s:=Nat.mul_le_mul_right s h
   rw [Nat.add_mul] at this; omega
  ·subst h; exact e ⟨rfl,by omega⟩
  ·have:(a+1)*s<=i*s:=Nat.mul_le_mul_right s h
   rw [Nat.add_mul] at this; omega
 rw [Array.getElem?_setIfInBounds_ne d]
 exact h7 i hi j hj
def nv (f:Nat->Nat):Nat->Nat
 | 0=>0
 | k+1=>nv f k+f k*4294967296 ^ k
def dg (x i:Nat):Nat:=x / 4294967296 ^ i % 4294967296
def dl (x:Nat):Nat:=if h:x=0 then 0 else dl (x / 4294967296)+1
termination_by x
decreasing_by exact Nat.div_lt_self (by omega) (by omega)
theorem zfY {f g:Nat->Nat} {n:Nat} (h:∀ i,i<n->f i=g i):nv f n=nv g n:=by
 induction n with
 | zero=>rfl
 | succ n ih=>simp only [nv]; rw [ih fun i hi=>h i (by omega),h n (by omega)]
theorem zjn {f:Nat->Nat} {n:Nat} (h:∀ i,i<n->f i<4294967296):nv f n<4294967296 ^ n:=by
 induction n with
 | zero=>simp [nv]
 | succ n ih =>
  have h1:=ih fun i hi=>h i (by omega)
  have h2:=h n (by omega)
  have h3:(f n+1)*4294967296 ^ n<=4294967296*4294967296 ^ n:=Nat.mul_le_mul_right _ h2
  simp only [nv,Nat.pow_succ]
  grind
theorem zei {f:Nat->Nat} {n m:Nat} (hnm:n<=m) (h:∀ i,n<=i->i<m->f i=0):nv f m=nv f n:=by
  induction m with
  | zero => have : n = 0 := by omega
            rw [this]
  | succ m ih =>
    by_cases e:n=m+1
    · rw [e]
    · simp only [nv]
      rw [ih (by omega) fun i h1 h2=>h i h1 (by omega),h m (by omega) (by omega)]
      omega
theorem zjo {f:Nat->Nat} {n:Nat} (h:∀ i,i<n->f i=0):nv f n=0:=zei (Nat.zero_le n) fun i _ hi=>h i hi
theorem zjp (f:Nat->Nat) (n:Nat):nv f (n+1)=f 0+4294967296*nv (fun i=>f (i+1)) n:=by
 induction n with
 | zero=>simp [nv]
 | succ n ih =>
  have h1:nv f (n+1+1)=nv f (n+1)+f (n+1)*4294967296 ^ (n+1):=rfl
  have h2:nv (fun i=>f (i+1)) (n+1)=nv (fun i=>f (i+1)) n+f (n+1)*4294967296 ^ n:=rfl
  rw [h1,h2,ih,Nat.pow_succ]
  grind
theorem zkc {f:Nat->Nat} {n k:Nat} (hk:k<n) (h:f k≠0):4294967296 ^ k<=nv f n:=by
 induction n with
 | zero=>omega
 | succ n ih =>
  simp only [nv]
  by_cases e:k=n
  ·subst e
   have:1*4294967296 ^ k<=f k*4294967296 ^ k:=Nat.mul_le_mul_right _ (by omega)
   omega
  ·have:=ih (by omega)
   omega
theorem zkd (x i:Nat):dg x i<4294967296:=Nat.mod_lt _ (by omega)
theorem zfZ (x i:Nat):dg x (i+1)=dg (x / 4294967296) i:=by
 unfold dg
 rw [Nat.pow_succ,Nat.mul_comm,Nat.div_div_eq_div_mul]
theorem zdj (x:Nat):dg x 0=x % 4294967296:=by simp [dg]
theorem zaG:dl 0=0:=by unfold dl; simp
theorem zf0 {x:Nat} (h:x≠0):dl x=dl (x / 4294967296)+1:=by rw [dl]; simp [h]
theorem zhe (x:Nat):nv (dg x) (dl x)=x:=by
 induction x using Nat.strongRecOn with
 | _ x ih =>
  by_cases h:x=0
  ·subst h; rw [zaG]; rfl
  ·rw [zf0 h,zjp,zdj]
   have:=ih (x / 4294967296) (Nat.div_lt_self (by omega) (by omega))
   rw [show (fun i=>dg x (i+1))=dg (x / 4294967296) from funext fun i=>zfZ x i,this]
   exact Nat.mod_add_div x 4294967296
theorem zjq {x:Nat} (h:x≠0):dg x (dl x - 1)≠0:=by
 induction x using Nat.strongRecOn with
 | _ x ih =>
  rw [zf0 h,Nat.add_sub_cancel]
  by_cases h1:x / 4294967296=0
  ·rw [h1,zaG,zdj]
   have:=Nat.mod_add_div x 4294967296
   rw [h1] at this
   omega
  ·have h2:=ih (x / 4294967296) (Nat.div_lt_self (by omega) (by omega)) h1
   have h3:=zf0 h1
   rw [h3,Nat.add_sub_cancel] at h2;rw [h3,zfZ]
   exact h2
theorem zaZ {x:Nat}:dl x=0↔x=0:=by
 constructor
 ·intro h
  rcases Nat.eq_zero_or_pos x with h0 | h0
  ·exact h0
  ·rw [zf0 (by omega)] at h; omega
 ·intro h; rw [h]; exact zaG
theorem zeQ (x:Nat):x<4294967296 ^ dl x:=by
 have:=zjn (f:=dg x) (n:=dl x) fun i _=>zkd x i
 rwa [zhe] at this
theorem zhf {x:Nat} (h:x≠0):4294967296 ^ (dl x - 1)<=x:=by
 have h1:dl x≠0:=fun e=>h (zaZ.1 e)
 have:=zkc (f:=dg x) (n:=dl x) (k:=dl x - 1) (by omega) (zjq h)
 rwa [zhe] at this
theorem zjm {x n:Nat} (h:x<4294967296 ^ n):dl x<=n:=by
 by_cases h0:x=0
 ·rw [h0,zaG]; omega
 have h1:=zhf h0
 have h2:4294967296 ^ (dl x - 1)<4294967296 ^ n:=by omega
 have:=(Nat.pow_lt_pow_iff_right (a:=4294967296) (by omega)).1 h2
 omega
theorem zkf {f:Nat->Nat} {n:Nat} (h:∀ i,i<n->f i<4294967296):∀ i,i<n->dg (nv f n) i=f i:=by
 induction n generalizing f with
 | zero=>intro i hi; omega
 | succ n ih =>
  intro i hi
  rw [zjp]
  have h0:=h 0 (by omega)
  cases i with
  | zero =>
   rw [zdj,Nat.add_mul_mod_self_left,Nat.mod_eq_of_lt h0]
  | succ i =>
   rw [zfZ,Nat.add_mul_div_left _ _ (by omega),Nat.div_eq_of_lt h0,Nat.zero_add]
   exact ih (f:=fun i=>f (i+1)) (fun i hi=>h (i+1) (by omega)) i (by omega)
theorem zjX {f:Nat->Nat} {n m:Nat} (hnm:n<=m) (h:∀ i,i<m->f i<4294967296) (hz:∀ i,n<=i->i<m->f i=0) (hl:n=0∨f (n - 1)≠0):dl (nv f m)=n/\∀ i,i<n->dg (nv f m) i=f i:=by
 have hv:=zei hnm hz
 rw [hv]
 refine ⟨?_,zkf fun i hi=>h i (by omega)⟩
 have h1:=zjm (zjn (f:=f) (n:=n) fun i hi=>h i (by omega))
 rcases hl with h0 | h0
 ·omega
 rcases Nat.eq_zero_or_pos n with e | e
 ·omega
 have h2:=zkc (f:=f) (n:=n) (k:=n - 1) (by omega) h0
 have h3:=zeQ (nv f n)
 have h4:4294967296 ^ (n - 1)<4294967296 ^ dl (nv f n):=by omega
 have:=(Nat.pow_lt_pow_iff_right (a:=4294967296) (by omega)).1 h4
 omega
theorem zf1 {x y:Nat} (h:x<=y):dl x<=dl y:=zjm (Nat.lt_of_le_of_lt h (zeQ y))
def upd (f:Nat->Nat) (k v:Nat):Nat->Nat:=fun i=>if i=k then v else f i
theorem zej (f:Nat->Nat) (k v:Nat):upd f k v k=v:=by simp [upd]
theorem zci {f:Nat->Nat} {k v i:Nat} (h:i≠k):upd f k v i=f i:=by simp [upd,h]
theorem zdk {f:Nat->Nat} {k v n:Nat} (h:n<=k):nv (upd f k v) n=nv f n:=zfY fun i hi=>zci (by omega)
theorem zjr {f:Nat->Nat} {k v n:Nat} (h:k<n):nv (upd f k v) n+f k*4294967296 ^ k=nv f n+v*4294967296 ^ k:=by
 induction n with
 | zero=>omega
 | succ n ih =>
  simp only [nv]
  by_cases e:k=n
  ·subst e
   rw [zdk (Nat.le_refl _),zej]
   omega
  ·rw [zci (by omega)]
   have:=ih (by omega)
   omega
theorem zf2 (s P:Nat) (n:Nat):(s % 4294967296)*4294967296 ^ n*P+(s / 4294967296)*4294967296 ^ (n+1)*P=s*4294967296 ^ n*P:=by
 have h:=Nat.mod_add_div s 4294967296
 have h2:s*4294967296 ^ n*P=(s % 4294967296+4294967296*(s / 4294967296))*4294967296 ^ n*P:=by rw [h]
 rw [h2,Nat.pow_succ]
 grind
theorem zc8 (s:Nat) (n:Nat):(s % 4294967296)*4294967296 ^ n+(s / 4294967296)*4294967296 ^ (n+1)=s*4294967296 ^ n:=by
 have:=zf2 s 1 n
 simpa using this
def hv (f:Nat->Nat) (i n:Nat):Nat:=nv (fun j=>f (i+j)) (n - i)
def Lims (w:World) (B:Nat) (A:Option Addr) (n:Nat) (f:Nat->Nat):Prop:=Rd w B A n 1 (fun i _=>.int .u32 (f i:Nat))
def NatOk (w:World) (B:Nat) (A:Option Addr) (x:Nat):Prop:=Lims w B A (dl x) (dg x)
section
variable {w w':World} {B B' n i:Nat} {A:Option Addr} {f:Nat->Nat} {x:Nat}
theorem Lims.at (h:Lims w B A n f) (hi:i<n):∃ b off,A=some ⟨b,off,none⟩/\b<B/\w.cell? ⟨b,off+i,none⟩=some (.int .u32 (f i:Nat)):=Rd.at1 h hi
theorem Lims.on (h:Lims w w.heap.size A n f) (hb:Below w.heap.size w w'):Lims w' w'.heap.size A n f:=(Rd.below h hb (Nat.le_refl _)).mono hb.size
theorem NatOk.on (h:NatOk w w.heap.size A x) (hb:Below w.heap.size w w'):NatOk w' w'.heap.size A x:=Lims.on h hb
end
theorem zcr {w:World} {b n:Nat} {t:TypeId} {f:Nat->Nat} (h:w.rowIs b t n (fun i=>.int .u32 (f i:Nat))):Lims w w.heap.size (some ⟨b,0,none⟩) n f:=zbv h
def NatPost (x:Nat) (w:World) (e:Ending) (w':World):Prop :=
 ∃ A c,e=.returned (.slice A (dl x) c)/\dl x<=c/\c<=maxLen/\NatOk w' w'.heap.size A x/\Below w.heap.size w w'
theorem zbF {P:Program} (w:World) (t ty e:TypeId) (i:TypeInfo) (ht:P.underlying t=some (.slice e)) (hi:P.info? e=some i) (A:Option Addr) (c:Nat) :
  (Builtin.append_ #[t,t] ty #[.slice none 0 0,.slice A 0 c]).run P w=.ok (.slice none 0 0) w:=by
 cases A with
 | none=>simp [Builtin.append_,run_underlying ht,sizeOf,typeInfo,hi,Builtin.lenOf,Builtin.firstCells]
 | some a=>simp [Builtin.append_,run_underlying ht,sizeOf,typeInfo,hi,Builtin.lenOf,Builtin.firstCells,loadCells,loadCellsFrom]
section
variable {P:Program} {w:World}
theorem zbo {ops:Array Oper} {rest:List Oper} {o:Oper} {a:Act} {Q:Exit->Act->World->Prop} (hgd:o.guard=none) (sl x:Operand) (t:TypeId)
  (ho:o.op=.call { callee:=.builtin .append,args:=#[sl,x],argTypes:=#[t,t] })
  (e:TypeId) (i:TypeInfo) (ht:P.underlying t=some (.slice e)) (hi:P.info? e=some i) (hv:a.eval sl=.slice none 0 0)
  (A:Option Addr) (c:Nat) (hx:a.eval x=.slice A 0 c)
  (h:wpList P ops Q rest (a.put o.dst (.slice none 0 0)) w):wpList P ops Q (o :: rest) a w:=by
 refine wpList_plain hgd fun K hK=>?_
 have b:=zbF (P:=P) w t o.type e i ht hi A c
 unfold Oper.wp execOp
 simp only [ho,resolve,invoke,builtin,Sem.run_bind,Sem.run_pure,Result.andThen_ok,List.map_toArray,List.map_cons,List.map_nil,hv,hx,b]
 exact hK _ _ h
theorem zai {ops:Array Oper} {rest:List Oper} {o:Oper} {a:Act} {Q:Exit->Act->World->Prop} (hgd:o.guard=none) (sl x:Operand) (t:TypeId)
  (ho:o.op=.call { callee:=.builtin .append,args:=#[sl,x],argTypes:=#[t,t] })
  (e:TypeId) (i:TypeInfo) (z:Value) (s bytes:Nat) (ht:P.underlying t=some (.slice e)) (hi:P.info? e=some i) (hz:i.zero=some z)
  (hsize:i.size=s) (hby:i.bytes=bytes) (hzs:z.cells.size=s) (hs:0<s) (A0:Option Addr) (hv:a.eval sl=.slice A0 0 0)
  (A:Option Addr) (m c:Nat) (f:Nat->Nat->Value) (hx:a.eval x=.slice A m c) (hsrc:Rd w w.heap.size A m s f) (hm:0<m) (h1:∀ k,k<m->∀ j,j<s->(f k j).oneCell'=true)
  (h63:m<=maxLen) (hbytes:m*bytes<=140737488355328)
  (h:∀ cap cur,m<=cap->cap<=maxLen->cap*s<=cur.size->(∀ k,k<m->∀ j,j<s->cur[k*s+j]?=some (f k j))->wpList P ops Q rest (a.put o.dst (.slice (some ⟨w.heap.size,0,none⟩) m cap)) (w.drew.alloc (.cells cur e))) :
  wpList P ops Q (o :: rest) a w:=by
 refine wpList_plain hgd fun K hK=>?_
 obtain ⟨cap,cur,b,h2,h3,h4,h5⟩:=zaY (P:=P) w t o.type e i z s bytes ht hi hz hsize hby hzs hs A0 A m c f hsrc hm h1 h63 hbytes
 unfold Oper.wp execOp
 simp only [ho,resolve,invoke,builtin,Sem.run_bind,Sem.run_pure,Result.andThen_ok,List.map_toArray,List.map_cons,List.map_nil,hv,hx,b]
 exact hK _ _ (h cap cur h2 h3 h4 h5)
end
theorem Tryz.infoU32:(Tryz.prog.info? 109).map (fun i=>(i.zero,i.size,i.bytes))=some (some (.int .u32 0),1,4):=by kernel_rfl
theorem zcj (A:Option Addr) (n c:Nat) (f:Nat->Nat) (w:World) (h:Lims w w.heap.size A n f) (hf:Hid (∀ i,i<n->f i<4294967296)) (hc:n<=c) (hm:c<=maxLen) :
  Calls Tryz.prog 176 #[.slice A n c] w fun e w'=>e=.returned (.slice A (dl (nv f n)) (dl (nv f n)))/\NatOk w w.heap.size A (nv f n)/\w=w':=by
 have q:c<=9223372036854775807:=by unfold maxLen at hm; omega
 go_enter Tryz.func176, Tryz.ntmps176
 go_wp2
 go_loopg [3] n (fun g kv wx=>∃ k:Nat,k<=n/\k<=g/\kv=.int .i64 (k:Nat)/\Hid (∀ i,k<=i->i<n->f i=0)/\w=wx)
 case atStart=>exact ⟨n,by omega,by omega,rfl,hid fun i h1 h2=>absurd h1 (by omega),rfl⟩
 obtain ⟨k,hk,r,rfl,hz,rfl⟩:=hrel
 by_cases h0:0<k
 rotate_left
 ·obtain rfl:k=0:=by omega
  obtain ⟨d1,d2⟩:=zjX (f:=f) hk hf.out hz.out (.inl rfl)
  have D1:=hid d1
  have hR:NatOk w w.heap.size A (nv f n):=by
   unfold NatOk Lims
   rw [d1]
   exact fun i hi=>absurd hi (by omega)
  clear d1 d2
  cases A with
  | none =>
   go_wp2
   go_ret
   exact ⟨by rw [D1.out]; rfl,hR,rfl⟩
  | some a =>
   go_wp2
   go_ret
   exact ⟨by rw [D1.out]; rfl,hR,rfl⟩
 obtain ⟨b,o,rfl,hb,e0⟩:=h.at (i:=k - 1) (by omega)
 have s:(0:Int)<(k:Int):=by omega
 have m:((k:Int) - 1).toNat=k - 1:=by omega
 by_cases hz0:f (k - 1)=0
 ·rw [hz0] at e0
  have HN:Hid (∀ i,k - 1<=i->i<n->f i=0):=fun i h1 h2=>by
   by_cases e:i=k - 1
   ·rw [e]; exact hz0
   ·exact hz.out i (by omega) h2
  clear hz0
  go_wp2
  go_roundg (gk - 1)
  case measure=>omega
  case rel=>exact ⟨k - 1,by omega,by omega,by congr 1; omega,HN,rfl⟩
 obtain ⟨d1,d2⟩:=zjX (f:=f) hk hf.out hz.out (.inr hz0)
 obtain ⟨v,hv⟩:∃ v:Int,v=(f (k - 1):Nat):=⟨_,rfl⟩
 rw [<-hv] at e0
 have p:(v == 0)=false:=by simp; omega
 have D1:=hid d1
 have hR:NatOk w w.heap.size (some ⟨b,o,none⟩) (nv f n):=by
  unfold NatOk Lims
  rw [d1]
  exact fun i hi=>by
   obtain ⟨b',o',e,l,d⟩:=h i (by omega)
   exact ⟨b',o',e,l,fun j hj=>by show _=some (Value.int .u32 (dg (nv f n) i:Nat)); rw [d2 i hi]; exact d j hj⟩
 clear hv d1 d2 hz0
 go_wp2
 go_ret
 exact ⟨by rw [D1.out]; rfl,hR,rfl⟩
theorem zek (A:Option Addr) (n c:Nat) (f:Nat->Nat) (w:World) (h:Lims w w.heap.size A n f) (hf:Hid (∀ i,i<n->f i<4294967296)) (hc:n<=c) (hm:c<=maxLen) (hn:n<=1073741824) :
  Calls Tryz.prog 169 #[.slice A n c] w (NatPost (nv f n) w):=by
 obtain ⟨i0,qi0,qz0,qz1,qz2⟩:=info_parts Tryz.infoU32
 have hl:dl (nv f n)<=n:=zjm (zjn hf.out)
 obtain ⟨x,hx⟩:∃ x,nv f n=x:=⟨_,rfl⟩
 have HX:=hid hx
 rw [hx] at hl ⊢;clear hx
 go_enter Tryz.func169, Tryz.ntmps169
 go_wp2_with fail
 refine (zcj A n c f w h hf hc hm).mono ?_
 rintro e w1 ⟨rfl,hR,rfl⟩
 rw [HX.out] at hR ⊢
 rcases Nat.eq_zero_or_pos (dl x) with h0 | h0
 ·have H0:=hid h0
  rw [h0];clear h0
  go_wp2_with (first | (at_builtin; (refine zbo rfl (.const (.slice none 0 0)) (.tmp 4) _ rfl 109 i0 Tryz.underlying69 qi0 rfl A 0 rfl ?_)))
  go_ret
  exact ⟨none,0,by rw [H0.out]; rfl,by have:=H0.out; omega,by unfold maxLen; omega,fun i hi=>absurd hi (by have:=H0.out; omega),Below.refl _ _⟩
 have n3:Hid (dl x<=maxLen):=by show _<=_; unfold maxLen; omega
 have n4:Hid (dl x*4<=140737488355328):=by show _<=_; omega
 go_wp2_with (first | (at_builtin; (refine zai rfl (.const (.slice none 0 0)) (.tmp 4) _ rfl 109 i0 _ 1 4 Tryz.underlying69 qi0 qz0 qz1 qz2 rfl (by omega) none rfl A (dl x) (dl x) (fun i _=>.int .u32 (dg x i:Nat)) rfl hR h0 (fun _ _ _ _=>rfl) n3.out n4.out ?_); intro cap cur k1 k2 k3 k4))
 go_ret
 have hO:=Own.new (w:=w) (base:=w.heap.size) (e := 109) (Nat.le_refl _) k1 k2 k3 k4
 exact ⟨_,cap,rfl,k1,k2,hO.drew.rd rfl,(((Below.refl _ _).alloc (Nat.le_refl _) _).drew)⟩
def two (x:Nat) (i:Nat):Nat:=if i=0 then x % 4294967296 else x / 4294967296
theorem zjs (x:Nat):nv (two x) 2=x:=by
 simp only [nv,two]
 have:=Nat.mod_add_div x 4294967296
 simp
 omega
theorem zeR (x:Nat) (w:World) (hx:x<18446744073709551616) :
  Calls Tryz.prog 102 #[.int .u64 (x:Nat)] w (NatPost x w):=by
 have hL:Lims (w.alloc (Obj.cells #[Value.int .u32 ((x:Int) % 4294967296),Value.int .u32 ((x:Int) / 4294967296)] 109)) (w.alloc (Obj.cells #[Value.int .u32 ((x:Int) % 4294967296),Value.int .u32 ((x:Int) / 4294967296)] 109)).heap.size (some ⟨w.heap.size,0,none⟩) 2 (two x):=by
  refine zcr (t := 109) ⟨_,heap_alloc_new _ _,rfl,fun i hi=>?_⟩
  match i,hi with
  | 0,_=>simp [two]
  | 1,_=>simp [two]
 have H2:Hid (∀ i,i<2->two x i<4294967296):=fun i hi=>by
  unfold two
  split <;> omega
 go_enter Tryz.func102, Tryz.ntmps102
 go_wp2_with fail
 refine (zek _ 2 2 (two x) _ hL H2 (Nat.le_refl _) (by unfold maxLen; omega) (by omega)).mono ?_
 rintro e w2 ⟨A,c,rfl,g1,g2,g3,g4⟩
 rw [zjs] at g1 g3 ⊢
 have hB:=onS ((Below.refl _ _).alloc (Nat.le_refl _) _) g4
 clear g4 hL
 go_wp2
 go_ret
 exact ⟨A,c,rfl,g1,g2,g3,hB⟩
def padded (g:Nat->Nat) (m:Nat) (i:Nat):Nat:=if i<m then g i else 0
theorem zhg (g:Nat->Nat) {m n:Nat} (h:m<=n):nv (padded g m) n=nv g m:=by
 rw [zei h fun i h1 _=>by unfold padded; rw [if_neg (by omega)]]
 exact zfY fun i hi=>by unfold padded; rw [if_pos hi]
theorem ziD (A A2:Option Addr) (n c n2 c2:Nat) (f f2:Nat->Nat) (w:World) (h:Lims w w.heap.size A n f) (h2:Lims w w.heap.size A2 n2 f2) (hf:Hid (∀ i,i<n->f i<4294967296)) (hf2:Hid (∀ i,i<n2->f2 i<4294967296)) (hn:n<=536870912) (hn2:n2<=536870912) :
  Calls Tryz.prog 291 #[.slice A n c,.slice A2 n2 c2] w (NatPost (nv f n+nv f2 n2) w):=by
 have E:=fun (x:Int) (h0:0<=x) (h1:x<=1073741824) W=>zaf (P:=Tryz.prog) 69 109 _ 4 Tryz.underlying69 Tryz.infoU32 rfl x h0 (by omega) (by omega) W
 go_enter Tryz.func291, Tryz.ntmps291
 go_upto_if 13 with fail
 go_cut [0,1] (fun v0 v1 wx=>∃ B m d,∃ g:Nat->Nat,∃ B2 m2 d2,∃ g2:Nat->Nat,v0=.slice B m d/\v1=.slice B2 m2 d2/\m2<=m/\m<=536870912/\Lims w w.heap.size B m g/\Lims w w.heap.size B2 m2 g2/\Hid (∀ i,i<m->g i<4294967296)/\Hid (∀ i,i<m2->g2 i<4294967296)/\Hid (nv f n+nv f2 n2=nv g m+nv g2 m2)/\w=wx)
 case first =>
  by_cases hlt:n<n2
  ·go_wp2
   go_meet
   exact ⟨A2,n2,c2,f2,A,n,c,f,rfl,rfl,by omega,hn2,h2,h,hf2,hf,Nat.add_comm _ _,rfl⟩
  go_wp2
  go_meet
  exact ⟨A,n,c,f,A2,n2,c2,f2,rfl,rfl,by omega,hn,h,h2,hf,hf2,rfl,rfl⟩
 obtain ⟨B,m,d,g,B2,m2,d2,g2,rfl,rfl,hm,J,hg,H,G,D,u,rfl⟩:=hcut
 clear h h2 hf hf2
 have z:=fun W=>E ((m:Int)+1) (by omega) (by omega) W
 have e1:((m:Int)+1).toNat=m+1:=by omega
 have l:=World.rowIs_made w (.int .u32 0) (m+1) 109
 clear E
 go_wp2
 go_loopg [22,6] m (fun gg iv cv wx=>∃ k cc:Nat,∃ o:Nat->Nat,iv=.int .i64 (k:Nat)/\cv=.int .u64 (cc:Nat)/\k<=m/\m<=k+gg/\cc<=1/\Below w.heap.size w wx/\wx.rowIs w.heap.size 109 (m+1) (fun i=>.int .u32 (o i:Nat))/\Hid (∀ i,o i<4294967296)/\Hid (nv o k+cc*4294967296 ^ k=nv g k+nv (padded g2 m2) k))
 case atStart=>exact ⟨0,0,fun _=>0,rfl,rfl,by omega,by omega,by omega,(Below.refl _ _).alloc (Nat.le_refl _) _,l,hid fun _=>by show 0<_; omega,hid rfl⟩
 clear l z
 obtain ⟨k,cc,o,rfl,rfl,hk,K,M,hB,a,HO,HV⟩:=hrel
 have hz:=a.lt
 by_cases hlt:k<m
 rotate_left
 ·obtain rfl:k=m:=by omega
  have y0:=a.cell (i:=k) (by omega)
  have z0:=a.frozen k
  have e2:(k:Int)<(k:Int)+1:=by omega
  have HS:Hid (nv f n+nv f2 n2=nv (upd o k cc) (k+1)):=by
   show _=_
   simp only [nv]
   rw [zdk (Nat.le_refl _),zej,HV.out,zhg g2 hm,u.out]
  have j:(wr.setCell ⟨w.heap.size,k,none⟩ (.int .u32 (cc:Nat))).rowIs w.heap.size 109 (k+1) (fun i=>.int .u32 (upd o k cc i:Nat)):=by
   refine (a.set k _).congr fun i _=>?_
   unfold upd
   by_cases e:i=k
   ·rw [if_pos e,if_pos e]
   ·rw [if_neg e,if_neg e]
  have p:Hid (∀ i,i<k+1->upd o k cc i<4294967296):=fun i _=>by
   unfold upd
   split
   ·omega
   ·exact HO.out i
  have I:Below w.heap.size w (wr.setCell ⟨w.heap.size,k,none⟩ (.int .u32 (cc:Nat))):=hB.setCell (Nat.le_refl _) _
  go_wp2_with fail
  refine (zcj (some ⟨w.heap.size,0,none⟩) (k+1) (k+1) (upd o k cc) _ (zcr j) p (Nat.le_refl _) (by unfold maxLen; omega)).mono ?_
  rintro e w1 ⟨rfl,hR,rfl⟩
  rw [<-HS.out] at hR ⊢
  have L:dl (nv f n+nv f2 n2)<=k+1:=by rw [HS.out]; exact zjm (zjn p.out)
  clear a j hB HV HO y0 z0
  go_wp2
  go_ret
  exact ⟨_,_,rfl,Nat.le_refl _,by unfold maxLen; omega,hR,I⟩
 obtain ⟨b,o1,rfl,hb,e0⟩:=(hg.on hB).at hlt
 have q1:=G.out k hlt
 have y0:=a.cell (i:=k) (by omega)
 have z0:=a.frozen k
 have F:(k:Int)<(m:Int):=by omega
 have q:∀ t:Nat,t=padded g2 m2 k->Hid (nv (upd o k ((g k+cc+t) % 4294967296)) (k+1)+(g k+cc+t) / 4294967296*4294967296 ^ (k+1)=nv g (k+1)+nv (padded g2 m2) (k+1)):=fun t ht=>by
  show _=_
  simp only [nv]
  rw [zdk (Nat.le_refl _),zej]
  have hv:=HV.out
  have hc:=zc8 (g k+cc+t) k
  rw [<-ht]
  grind
 have r:∀ s:Nat,∀ v:Int,v=((s % 4294967296:Nat):Int)->Hid ((wr.setCell ⟨w.heap.size,k,none⟩ (.int .u32 v)).rowIs w.heap.size 109 (m+1) (fun i=>.int .u32 (upd o k (s % 4294967296) i:Nat))):=fun s v hv=>by
  refine (a.set k _).congr fun i _=>?_
  unfold upd
  by_cases e:i=k
  ·rw [if_pos e,if_pos e,hv]
  ·rw [if_neg e,if_neg e]
 have p:∀ s:Nat,Hid (∀ i,upd o k (s % 4294967296) i<4294967296):=fun s i=>by
  unfold upd
  split
  ·omega
  ·exact HO.out i
 by_cases hlt2:k<m2
 ·obtain ⟨b2,o2,rfl,N,e2⟩:=(H.on hB).at hlt2
  have q2:=D.out k hlt2
  have C:(k:Int)<(m2:Int):=by omega
  obtain ⟨x,hx⟩:∃ x,x=g k:=⟨_,rfl⟩
  obtain ⟨y,hy⟩:∃ y,y=g2 k:=⟨_,rfl⟩
  have K1:=q y (by rw [hy]; unfold padded; rw [if_pos hlt2])
  have K2:=hid (r (x+cc+y) (((x:Int)+cc+y) % 4294967296) (by omega))
  have K3:=p (x+cc+y)
  rw [<-hx] at e0 q1 K1;rw [<-hy] at e2 q2;clear q r p hx hy
  go_wp2
  go_roundg (gk - 1)
  case measure=>omega
  case rel=>exact ⟨k+1,(x+cc+y) / 4294967296,_,by go_num,by congr 1 <;> omega,by omega,by omega,by omega,hB.setCell (Nat.le_refl _) _,K2.out,K3,K1⟩
 have C:¬ (k:Int)<(m2:Int):=by omega
 obtain ⟨x,hx⟩:∃ x,x=g k:=⟨_,rfl⟩
 have K1:=q 0 (by unfold padded; rw [if_neg hlt2])
 have K2:=hid (r (x+cc+0) (((x:Int)+cc) % 4294967296) (by omega))
 have K3:=p (x+cc+0)
 rw [<-hx] at e0 q1 K1;clear q r p hx
 go_wp2
 go_roundg (gk - 1)
 case measure=>omega
 case rel=>exact ⟨k+1,(x+cc+0) / 4294967296,_,by go_num,by congr 1 <;> omega,by omega,by omega,by omega,hB.setCell (Nat.le_refl _) _,K2.out,K3,K1⟩
def NatTab (w:World) (B:Nat) (T:Option Addr) (m:Nat) (x:Nat->Nat):Prop :=
 ∀ v,v<m->∃ b off A c,T=some ⟨b,off,none⟩/\b<B/\w.cell? ⟨b,off+v,none⟩=some (.slice A (dl (x v)) c)/\dl (x v)<=c/\c<=maxLen/\NatOk w B A (x v)
theorem NatTab.on {w w':World} {T:Option Addr} {m:Nat} {x:Nat->Nat} (h:NatTab w w.heap.size T m x) (hb:Below w.heap.size w w'):NatTab w' w'.heap.size T m x:=fun v hv=>by
 obtain ⟨b,off,A,c,e,h1,h2,h3,h4,h5⟩:=h v hv
 have:=hb.size
 exact ⟨b,off,A,c,e,by omega,by rw [hb.cell (by simp; omega)]; exact h2,h3,h4,h5.on hb⟩
def sumN (x:Nat->Nat):Nat->Nat
 | 0=>0
 | k+1=>sumN x k+x k
theorem zel (x:Nat):Hid (∀ i,i<dl x->dg x i<4294967296):=fun i _=>zkd x i
theorem ziE (A A2:Option Addr) (c c2 x y:Nat) (w:World) (h:NatOk w w.heap.size A x) (h2:NatOk w w.heap.size A2 y) (hn:dl x<=536870912) (hn2:dl y<=536870912) :
  Calls Tryz.prog 291 #[.slice A (dl x) c,.slice A2 (dl y) c2] w (NatPost (x+y) w):=by
 have:=ziD A A2 (dl x) c (dl y) c2 (dg x) (dg y) w h h2 (zel x) (zel y) hn hn2
 rwa [zhe,zhe] at this
theorem zeS (A:Option Addr) (c x:Nat) (w:World) (h:NatOk w w.heap.size A x) (hc:dl x<=c) (hm:c<=maxLen) :
  Calls Tryz.prog 176 #[.slice A (dl x) c] w fun e w'=>e=.returned (.slice A (dl x) (dl x))/\w=w':=by
 refine (zcj A (dl x) c (dg x) w h (zel x) hc hm).mono ?_
 rintro e w' ⟨he,_,hw⟩
 rw [zhe] at he
 exact ⟨he,hw⟩
theorem zf3 (A:Option Addr) (c x:Nat) (w:World) (h:NatOk w w.heap.size A x) (hc:dl x<=c) (hm:c<=maxLen) (hn:dl x<=1073741824) :
  Calls Tryz.prog 169 #[.slice A (dl x) c] w (NatPost x w):=by
 have:=zek A (dl x) c (dg x) w h (zel x) hc hm hn
 rwa [zhe] at this
theorem zf4 (T:Option Addr) (m c:Nat) (x:Nat->Nat) (w:World) (h:NatTab w w.heap.size T m x) (hm:m<=1048576) (hs:Hid (∀ k,k<=m->dl (sumN x k)<=536870912)) (hx:Hid (∀ k,k<m->dl (x k)<=536870912)) :
  Calls Tryz.prog 288 #[.slice T m c] w (NatPost (sumN x m) w):=by
 go_enter Tryz.func288, Tryz.ntmps288
 go_wp2
 go_loopg [8,3] m (fun g iv sv wx=>∃ k:Nat,∃ A c,iv=.int .i64 (k:Nat)/\sv=.slice A (dl (sumN x k)) c/\k<=m/\m<=k+g/\dl (sumN x k)<=c/\c<=maxLen/\NatOk wx wx.heap.size A (sumN x k)/\Below w.heap.size w wx)
 case atStart=>exact ⟨0,none,0,rfl,by simp [sumN,zaG],by omega,by omega,by simp [sumN,zaG],by omega,fun i hi=>absurd hi (by simp [sumN,zaG]),Below.refl _ _⟩
 obtain ⟨k,A,cA,rfl,rfl,hk,p,hc,n,hA,hB⟩:=hrel
 by_cases hlt:k<m
 ·obtain ⟨b,off,B,cB,rfl,hb,e0,o,a,d⟩:=(h.on hB) k hlt
  have l:(k:Int)<(m:Int):=by omega
  have H1:=hs.out k hk
  have H2:=hx.out k hlt
  go_wp2_with fail
  refine (zeS B cB (x k) wr d o a).mono ?_
  rintro e w1 ⟨rfl,rfl⟩
  go_wp2_with fail
  refine (ziE A B cA (dl (x k)) (sumN x k) (x k) wr hA d H1 H2).mono ?_
  rintro e w1 ⟨A',c',rfl,g1,g2,g3,g4⟩
  have j:=onS hB g4
  clear g4 hA hB d e0
  go_wp2
  go_roundg (gk - 1)
  case measure=>omega
  case rel=>exact ⟨k+1,A',c',by go_num,rfl,by omega,by omega,g1,g2,g3,j⟩
 obtain rfl:k=m:=by omega
 have H1:=hs.out k (Nat.le_refl _)
 go_wp2_with fail
 refine (zf3 A cA (sumN x k) wr hA hc n (by omega)).mono ?_
 rintro e w1 ⟨A',c',rfl,g1,g2,g3,g4⟩
 have j:=onS hB g4
 clear g4
 go_wp2
 go_ret
 exact ⟨A',c',rfl,g1,g2,g3,j⟩
theorem zf5 {x y:Nat} (hx:x<4294967296) (hy:y<4294967296):x*y<=18446744065119617025:=by
 have:x*y<=4294967295*4294967295:=Nat.mul_le_mul (by omega) (by omega)
 omega
theorem zf6 {o g:Nat->Nat} {N k j x cc y:Nat} {v:Nat} (hkj:k+j<N) (hv:nv o N+cc*4294967296 ^ (k+j)=v+x*nv g j*4294967296 ^ k) (hy:y=g j) :
  nv (upd o (k+j) ((x*y+o (k+j)+cc) % 4294967296)) N+(x*y+o (k+j)+cc) / 4294967296*4294967296 ^ (k+(j+1))=v+x*nv g (j+1)*4294967296 ^ k:=by
 have h1:=zjr (f:=o) (v:=(x*y+o (k+j)+cc) % 4294967296) hkj
 have h2:=zc8 (x*y+o (k+j)+cc) (k+j)
 have h3:(4294967296:Nat) ^ (k+j)=4294967296 ^ k*4294967296 ^ j:=Nat.pow_add _ _ _
 simp only [nv]
 rw [show k+(j+1)=k+j+1 by omega,<-hy]
 generalize (x*y+o (k+j)+cc) % 4294967296=r at *
 generalize (x*y+o (k+j)+cc) / 4294967296*4294967296 ^ (k+j+1)=q at *
 generalize nv (upd o (k+j) r) N=u at *
 grind
theorem zhh (A A2:Option Addr) (n c m c2:Nat) (f g:Nat->Nat) (w:World) (h:Lims w w.heap.size A n f) (h2:Lims w w.heap.size A2 m g) (hf:Hid (∀ i,i<n->f i<4294967296)) (hg:Hid (∀ i,i<m->g i<4294967296)) (hn:n<=536870912) (hm:m<=536870912) :
  Calls Tryz.prog 177 #[.slice A n c,.slice A2 m c2] w (NatPost (nv f n*nv g m) w):=by
 have z:=fun W=>zaf (P:=Tryz.prog) 69 109 _ 4 Tryz.underlying69 Tryz.infoU32 rfl ((n:Int)+(m:Int)) (by omega) (by omega) (by omega) W
 have e1:((n:Int)+(m:Int)).toNat=n+m:=by omega
 have d:=World.rowIs_made w (.int .u32 0) (n+m) 109
 go_enter Tryz.func177, Tryz.ntmps177
 go_wp2
 go_loopg [20] n (fun gg iv wx=>∃ k:Nat,∃ o:Nat->Nat,iv=.int .i64 (k:Nat)/\k<=n/\n<=k+gg/\Below w.heap.size w wx/\wx.rowIs w.heap.size 109 (n+m) (fun i=>.int .u32 (o i:Nat))/\Hid (∀ i,o i<4294967296)/\Hid (∀ i,k+m<=i->o i=0)/\Hid (nv o (n+m)=nv f k*nv g m))
 case atStart=>exact ⟨0,fun _=>0,rfl,by omega,by omega,(Below.refl _ _).alloc (Nat.le_refl _) _,d,hid fun _=>by show 0<_; omega,hid fun _ _=>rfl,hid (by rw [zjo fun _ _=>rfl]; simp [nv])⟩
 clear d z e1
 obtain ⟨k,o,rfl,hk,D,hB,a,HO,HZ,HV⟩:=hrel
 by_cases hlt:k<n
 rotate_left
 ·obtain rfl:k=n:=by omega
  have q:Hid (∀ i,i<k+m->o i<4294967296):=fun i _=>HO.out i
  go_wp2_with fail
  refine (zcj (some ⟨w.heap.size,0,none⟩) (k+m) (k+m) o wr (zcr a) q (Nat.le_refl _) (by unfold maxLen; omega)).mono ?_
  rintro e w1 ⟨rfl,hR,rfl⟩
  rw [HV.out] at hR ⊢
  have F:dl (nv f k*nv g m)<=k+m:=by rw [<-HV.out]; exact zjm (zjn q.out)
  clear a HO HZ
  go_wp2
  go_ret
  exact ⟨_,_,rfl,Nat.le_refl _,by unfold maxLen; omega,hR,hB⟩
 obtain ⟨b,o1,rfl,hb,e0⟩:=(h.on hB).at hlt
 have q1:=hf.out k hlt
 have B:(k:Int)<(n:Int):=by omega
 obtain ⟨x,hx⟩:∃ x,x=f k:=⟨_,rfl⟩
 rw [<-hx] at e0 q1
 have HX:=hid hx
 obtain ⟨wo,rfl⟩:∃ wo:World,wo=wr:=⟨_,rfl⟩
 obtain ⟨K,rfl⟩:∃ K:Nat,K=gk:=⟨_,rfl⟩
 clear hx
 go_wp2
 go_loopg [27,8] m (fun gg jv cv wx=>∃ j cc:Nat,∃ o':Nat->Nat,jv=.int .i64 (j:Nat)/\cv=.int .u64 (cc:Nat)/\j<=m/\m<=j+gg/\cc<4294967296/\Below w.heap.size w wx/\wx.rowIs w.heap.size 109 (n+m) (fun i=>.int .u32 (o' i:Nat))/\Hid (∀ i,o' i<4294967296)/\Hid (∀ i,k+m<=i->o' i=0)/\Hid (nv o' (n+m)+cc*4294967296 ^ (k+j)=nv o (n+m)+x*nv g j*4294967296 ^ k))
 case atStart=>exact ⟨0,0,o,rfl,rfl,by omega,by omega,by omega,hB,a,HO,HZ,hid (by simp [nv])⟩
 clear hB a e0
 obtain ⟨j,cc,o',rfl,rfl,hj,E,G,hB,a,p,l,s⟩:=hrel
 have hz:=a.lt
 by_cases hjlt:j<m
 ·obtain ⟨b2,o2,rfl,H,e2⟩:=(h2.on hB).at hjlt
  have q2:=hg.out j hjlt
  have r:(j:Int)<(m:Int):=by omega
  have y0:=a.cell (i:=k+j) (by omega)
  have z0:=a.frozen (k+j)
  have q3:=p.out (k+j)
  have C:((k:Int)+(j:Int)).toNat=k+j:=by omega
  obtain ⟨y,hy⟩:∃ y,y=g j:=⟨_,rfl⟩
  obtain ⟨u,hu⟩:∃ u,u=o' (k+j):=⟨_,rfl⟩
  rw [<-hy] at e2 q2
  have K1:=hid (zf6 (y:=y) (show k+j<n+m by omega) s.out hy)
  rw [<-hu] at y0 q3 K1
  have p0:(0:Int)<=(x:Int)*(y:Int):=by rw [<-Int.natCast_mul]; omega
  have p1:(x:Int)*(y:Int)<=18446744065119617025:=by rw [<-Int.natCast_mul]; have:=zf5 q1 q2; omega
  have p2:(x:Int)*(y:Int)=((x*y:Nat):Int):=by rw [Int.natCast_mul]
  have p3:=zf5 q1 q2
  have K2:Hid ((wr.setCell ⟨w.heap.size,k+j,none⟩ (.int .u32 (((x:Int)*y+u+cc) % 4294967296))).rowIs w.heap.size 109 (n+m) (fun i=>.int .u32 (upd o' (k+j) ((x*y+u+cc) % 4294967296) i:Nat))):=by
   refine (a.set (k+j) _).congr fun i _=>?_
   unfold upd
   by_cases e:i=k+j
   ·rw [if_pos e,if_pos e]; congr 1 <;> omega
   ·rw [if_neg e,if_neg e]
  have K3:Hid (∀ i,upd o' (k+j) ((x*y+u+cc) % 4294967296) i<4294967296):=fun i=>by
   unfold upd
   split
   ·omega
   ·exact p.out i
  have K4:Hid (∀ i,k+m<=i->upd o' (k+j) ((x*y+u+cc) % 4294967296) i=0):=fun i hi=>by
   rw [zci (by omega)]; exact l.out i hi
  have K5:Hid ((((x:Int)*y+u+cc) / 4294967296)=(((x*y+u+cc) / 4294967296:Nat):Int)):=by show _=_; omega
  have K6:Hid ((x*y+u+cc) / 4294967296<4294967296):=by show _<_; omega
  clear hy hu p2 a
  go_wp2
  go_roundg (gk - 1)
  case measure=>omega
  case rel=>exact ⟨j+1,(x*y+u+cc) / 4294967296,_,by go_num,by rw [<-K5.out],by omega,by omega,K6.out,hB.setCell (Nat.le_refl _) _,K2.out,K3,K4,K1⟩
 obtain rfl:j=m:=by omega
 have y0:=a.cell (i:=k+j) (by omega)
 have z0:=a.frozen (k+j)
 have C:((k:Int)+(j:Int)).toNat=k+j:=by omega
 have K1:Hid (nv (upd o' (k+j) cc) (n+j)=nv f (k+1)*nv g j):=by
  have h1:=zjr (f:=o') (v:=cc) (show k+j<n+j by omega)
  rw [l.out (k+j) (Nat.le_refl _)] at h1
  have h3:=s.out
  rw [HV.out,HX.out] at h3
  show _=_
  simp only [nv]
  grind
 have K2:Hid ((wr.setCell ⟨w.heap.size,k+j,none⟩ (.int .u32 (cc:Nat))).rowIs w.heap.size 109 (n+j) (fun i=>.int .u32 (upd o' (k+j) cc i:Nat))):=by
  refine (a.set (k+j) _).congr fun i _=>?_
  unfold upd
  by_cases e:i=k+j
  ·rw [if_pos e,if_pos e]
  ·rw [if_neg e,if_neg e]
 have K3:Hid (∀ i,upd o' (k+j) cc i<4294967296):=fun i=>by
  unfold upd
  split
  ·omega
  ·exact p.out i
 have K4:Hid (∀ i,k+1+j<=i->upd o' (k+j) cc i=0):=fun i hi=>by
  rw [zci (by omega)]; exact l.out i (by omega)
 clear a
 go_wp2
 go_roundg (K - 1)
 case measure=>omega
 case rel=>exact ⟨k+1,_,by go_num,by omega,by omega,hB.setCell (Nat.le_refl _) _,K2.out,K3,K4,K1⟩
theorem zhi (A A2:Option Addr) (c c2 x y:Nat) (w:World) (h:NatOk w w.heap.size A x) (h2:NatOk w w.heap.size A2 y) (hn:dl x<=536870912) (hn2:dl y<=536870912) :
  Calls Tryz.prog 177 #[.slice A (dl x) c,.slice A2 (dl y) c2] w (NatPost (x*y) w):=by
 have:=zhh A A2 (dl x) c (dl y) c2 (dg x) (dg y) w h h2 (zel x) (zel y) hn hn2
 rwa [zhe,zhe] at this
theorem zbQ {x:Nat} (h:0<x) (h1:x<4294967296):dl x=1:=by
 rw [zf0 (by omega),Nat.div_eq_of_lt h1,zaG]
theorem ziF {x:Nat} (h1:x<4294967296):dg x 0=x:=by rw [zdj,Nat.mod_eq_of_lt h1]
theorem zhj {w:World} {x:Nat} (T:TypeId) (h:0<x) (h1:x<4294967296):NatOk (w.alloc (Obj.cells #[Value.int .u32 (x:Nat)] T)) (w.alloc (Obj.cells #[Value.int .u32 (x:Nat)] T)).heap.size (some ⟨w.heap.size,0,none⟩) x:=by
 refine zcr (t:=T) ⟨_,heap_alloc_new _ _,by rw [zbQ h h1]; rfl,fun i hi=>?_⟩
 rw [zbQ h h1] at hi
 obtain rfl:i=0:=by omega
 show _=some (Value.int .u32 (dg x 0:Nat))
 rw [ziF h1]
 rfl
def prodN (x:Nat->Nat):Nat->Nat
 | 0=>1
 | k+1=>prodN x k*x k
theorem zf7 (T:Option Addr) (m c:Nat) (x:Nat->Nat) (w:World) (h:NatTab w w.heap.size T m x) (hm:m<=1048576) (hs:Hid (∀ k,k<=m->dl (prodN x k)<=536870912)) (hx:Hid (∀ k,k<m->dl (x k)<=536870912)) :
  Calls Tryz.prog 290 #[.slice T m c] w (NatPost (prodN x m) w):=by
 have d1:Hid (dl (prodN x 0)=1):=zbQ (by show 0<1; omega) (by show 1<_; omega)
 have a:=zhj (w:=w) 109 (x:=1) (by omega) (by omega)
 go_enter Tryz.func290, Tryz.ntmps290
 go_wp2
 go_loopg [9,3] m (fun g iv sv wx=>∃ k:Nat,∃ A c,iv=.int .i64 (k:Nat)/\sv=.slice A (dl (prodN x k)) c/\k<=m/\m<=k+g/\dl (prodN x k)<=c/\c<=maxLen/\NatOk wx wx.heap.size A (prodN x k)/\Below w.heap.size w wx)
 case atStart=>exact ⟨0,_,1,rfl,by rw [d1.out],by omega,by omega,by rw [d1.out]; omega,by unfold maxLen; omega,a,(Below.refl _ _).alloc (Nat.le_refl _) _⟩
 clear a
 obtain ⟨k,A,cA,rfl,rfl,hk,p,hc,n,hA,hB⟩:=hrel
 by_cases hlt:k<m
 ·obtain ⟨b,off,B,cB,rfl,hb,e0,o,d,i⟩:=(h.on hB) k hlt
  have l:(k:Int)<(m:Int):=by omega
  have H1:=hs.out k hk
  have H2:=hx.out k hlt
  go_wp2_with fail
  refine (zeS B cB (x k) wr i o d).mono ?_
  rintro e w1 ⟨rfl,rfl⟩
  go_wp2_with fail
  refine (zhi A B cA (dl (x k)) (prodN x k) (x k) wr hA i H1 H2).mono ?_
  rintro e w1 ⟨A',c',rfl,g1,g2,g3,g4⟩
  have j:=onS hB g4
  clear g4 hA hB i e0
  go_wp2
  go_roundg (gk - 1)
  case measure=>omega
  case rel=>exact ⟨k+1,A',c',by go_num,rfl,by omega,by omega,g1,g2,g3,j⟩
 obtain rfl:k=m:=by omega
 have H1:=hs.out k (Nat.le_refl _)
 go_wp2_with fail
 refine (zf3 A cA (prodN x k) wr hA hc n (by omega)).mono ?_
 rintro e w1 ⟨A',c',rfl,g1,g2,g3,g4⟩
 have j:=onS hB g4
 clear g4
 go_wp2
 go_ret
 exact ⟨A',c',rfl,g1,g2,g3,j⟩
open Go.Shelf
section
variable {P:Program} {w:World}
theorem zaA {ops:Array Oper} {rest:List Oper} {o:Oper} {a:Act} {Q:Exit->Act->World->Prop} (hgd:o.guard=none) (sl x:Operand) (t:TypeId)
  (ho:o.op=.call { callee:=.builtin .append,args:=#[sl,x],argTypes:=#[t,t] })
  (e:TypeId) (i:TypeInfo) (ht:P.underlying t=some (.slice e)) (hi:P.info? e=some i) (b0 o0:Nat) (hv:a.eval sl=.slice (some ⟨b0,o0,none⟩) 0 0)
  (A:Option Addr) (c:Nat) (hx:a.eval x=.slice A 0 c)
  (h:wpList P ops Q rest (a.put o.dst (.slice (some ⟨b0,o0,none⟩) 0 0)) w):wpList P ops Q (o :: rest) a w:=by
 refine wpList_plain hgd fun K hK=>?_
 have b:=zaX (P:=P) w t o.type e i ht hi b0 o0 A c
 unfold Oper.wp execOp
 simp only [ho,resolve,invoke,builtin,Sem.run_bind,Sem.run_pure,Result.andThen_ok,List.map_toArray,List.map_cons,List.map_nil,hv,hx,b]
 exact hK _ _ h
end
theorem zdL (X:World) (o:Obj):Below X.heap.size X (X.alloc o):=(Below.refl _ _).alloc (Nat.le_refl _) _
theorem zfm (A:Option Addr) (n c:Nat) (f:Nat->Nat) (w:World) (h:Lims w w.heap.size A n f) (hf:Hid (∀ i,i<n->f i<4294967296)) (hc:n<=c) (hm:c<=maxLen) (hn:n<=1073741824) :
  Calls Tryz.prog 110 #[.slice A n c] w (NatPost (nv f n) w):=by
 have q:c<=9223372036854775807:=by unfold maxLen at hm; omega
 obtain ⟨i0,qi0,qz0,qz1,qz2⟩:=info_parts Tryz.infoU32
 obtain ⟨x,hx⟩:∃ x,nv f n=x:=⟨_,rfl⟩
 have HX:=hid hx
 rw [hx];clear hx
 go_enter Tryz.func110, Tryz.ntmps110
 go_wp2
 go_loopg [3] n (fun g kv wx=>∃ k:Nat,k<=n/\k<=g/\kv=.int .i64 (k:Nat)/\Hid (∀ i,k<=i->i<n->f i=0)/\w=wx)
 case atStart=>exact ⟨n,by omega,by omega,rfl,hid fun i h1 h2=>absurd h1 (by omega),rfl⟩
 obtain ⟨k,hk,r,rfl,hz,rfl⟩:=hrel
 by_cases h0:0<k
 rotate_left
 ·obtain rfl:k=0:=by omega
  obtain ⟨d1,d2⟩:=zjX (f:=f) hk hf.out hz.out (.inl rfl)
  rw [HX.out] at d1
  have D1:=hid d1
  clear d1 d2
  cases A with
  | none =>
   go_wp2_with (first | (at_builtin; (refine zaA rfl (.tmp 18) (.tmp 21) _ rfl 109 i0 Tryz.underlying69 qi0 w.heap.size 0 rfl none c rfl ?_)))
   go_ret
   exact ⟨_,0,by rw [D1.out]; rfl,by rw [D1.out]; omega,by unfold maxLen; omega,fun i hi=>absurd hi (by rw [D1.out]; omega),zdL _ _⟩
  | some a =>
   go_wp2_with (first | (at_builtin; (refine zaA rfl (.tmp 18) (.tmp 21) _ rfl 109 i0 Tryz.underlying69 qi0 w.heap.size 0 rfl (some a) c rfl ?_)))
   go_ret
   exact ⟨_,0,by rw [D1.out]; rfl,by rw [D1.out]; omega,by unfold maxLen; omega,fun i hi=>absurd hi (by rw [D1.out]; omega),zdL _ _⟩
 obtain ⟨b,o,rfl,hb,e0⟩:=h.at (i:=k - 1) (by omega)
 have s:(0:Int)<(k:Int):=by omega
 have m:((k:Int) - 1).toNat=k - 1:=by omega
 by_cases hz0:f (k - 1)=0
 ·rw [hz0] at e0
  have HN:Hid (∀ i,k - 1<=i->i<n->f i=0):=fun i h1 h2=>by
   by_cases e:i=k - 1
   ·rw [e]; exact hz0
   ·exact hz.out i (by omega) h2
  clear hz0
  go_wp2
  go_roundg (gk - 1)
  case measure=>omega
  case rel=>exact ⟨k - 1,by omega,by omega,by rw [show ((k - 1:Nat):Int)=(k:Int) - 1 by omega],HN,rfl⟩
 obtain ⟨d1,d2⟩:=zjX (f:=f) hk hf.out hz.out (.inr hz0)
 obtain ⟨v,hv⟩:∃ v:Int,v=(f (k - 1):Nat):=⟨_,rfl⟩
 rw [<-hv] at e0
 have p:(v == 0)=false:=by simp; omega
 rw [HX.out] at d1 d2
 have D1:=hid d1
 have hR:Hid (∀ o1,Rd (w.alloc o1) (w.alloc o1).heap.size (some ⟨b,o,none⟩) k 1 (fun i _=>.int .u32 (dg x i:Nat))):=fun o1=>by
  have h1:Rd w w.heap.size (some ⟨b,o,none⟩) k 1 (fun i _=>.int .u32 (dg x i:Nat)):=fun i hi=>by
   obtain ⟨b',o',e,l,d⟩:=h i (by omega)
   exact ⟨b',o',e,l,fun j hj=>by show _=some (Value.int .u32 (dg x i:Nat)); rw [d2 i hi]; exact d j hj⟩
  exact (Rd.alloc h1 (Nat.le_refl _) o1).mono (by simp)
 have n3:Hid (k<=maxLen):=by show _<=_; unfold maxLen; omega
 have n4:Hid (k*4<=140737488355328):=by show _<=_; omega
 clear hv d1 d2 hz0
 go_wp2_with (first | (at_builtin; (refine zai rfl (.tmp 18) (.tmp 21) _ rfl 109 i0 _ 1 4 Tryz.underlying69 qi0 qz0 qz1 qz2 rfl (by omega) _ rfl (some ⟨b,o,none⟩) k c (fun i _=>.int .u32 (dg x i:Nat)) rfl (hR.out _) h0 (fun _ _ _ _=>rfl) n3.out n4.out ?_); intro cap cur k1 k2 k3 k4))
 go_ret
 have hO:=Own.new (w:=w.alloc (Obj.cells #[] 109)) (base:=w.heap.size) (e := 109) (by simp) k1 k2 k3 k4
 simp only [World.size_alloc] at hO
 refine ⟨_,cap,by rw [D1.out]; rfl,by rw [D1.out]; exact k1,k2,?_,(((Below.refl _ _).alloc (Nat.le_refl _) _).alloc (by simp) _).drew⟩
 unfold NatOk Lims
 rw [D1.out]
 exact hO.drew.rd rfl
theorem zhk (x:Nat) (w:World) (hx:x<18446744073709551616) :
  Calls Tryz.prog 43 #[.int .u64 (x:Nat)] w (NatPost x w):=by
 have hL:Lims (w.alloc (Obj.cells #[Value.int .u32 ((x:Int) % 4294967296),Value.int .u32 ((x:Int) / 4294967296)] 109)) (w.alloc (Obj.cells #[Value.int .u32 ((x:Int) % 4294967296),Value.int .u32 ((x:Int) / 4294967296)] 109)).heap.size (some ⟨w.heap.size,0,none⟩) 2 (two x):=by
  refine zcr (t := 109) ⟨_,heap_alloc_new _ _,rfl,fun i hi=>?_⟩
  match i,hi with
  | 0,_=>simp [two]
  | 1,_=>simp [two]
 have H2:Hid (∀ i,i<2->two x i<4294967296):=fun i hi=>by
  unfold two
  split <;> omega
 go_enter Tryz.func43, Tryz.ntmps43
 go_wp2_with fail
 refine (zfm _ 2 2 (two x) _ hL H2 (Nat.le_refl _) (by unfold maxLen; omega) (by omega)).mono ?_
 rintro e w2 ⟨A,c,rfl,g1,g2,g3,g4⟩
 rw [zjs] at g1 g3 ⊢
 have hB:=onS ((Below.refl _ _).alloc (Nat.le_refl _) _) g4
 clear g4 hL
 go_wp2
 go_ret
 exact ⟨A,c,rfl,g1,g2,g3,hB⟩
theorem zfn (A A2:Option Addr) (c c2 x:Nat) (w:World) (h:NatOk w w.heap.size A x) (h2:NatOk w w.heap.size A2 x) (hn:dl x<=1073741824) :
  Calls Tryz.prog 42 #[.slice A (dl x) c,.slice A2 (dl x) c2] w fun e w'=>e=.returned (.bool true)/\Below w.heap.size w w':=by
 obtain ⟨n,a⟩:∃ n,n=dl x:=⟨_,rfl⟩
 have HN:=hid a
 rw [<-a] at hn ⊢;clear a
 go_enter Tryz.func42, Tryz.ntmps42
 go_wp2
 go_loopg [5] n (fun gg iv wx=>∃ k:Nat,iv=.int .i64 (k:Nat)/\k<=n/\n<=k+gg/\Below w.heap.size w wx)
 case atStart=>exact ⟨0,rfl,by omega,by omega,Below.refl _ _⟩
 obtain ⟨k,rfl,hk,g,hB⟩:=hrel
 by_cases hlt:k<n
 ·obtain ⟨b,o,rfl,hb,e0⟩:=Lims.at (h.on hB) (i:=k) (by rw [<-HN.out]; exact hlt)
  obtain ⟨b2,o2,rfl,l,e2⟩:=Lims.at (h2.on hB) (i:=k) (by rw [<-HN.out]; exact hlt)
  have d:(k:Int)<(n:Int):=by omega
  have j:(0:Int)<=(k:Int):=by omega
  go_wp2
  go_quiet (fail)
  go_wp2
  go_roundg (gk - 1)
  case measure=>omega
  case rel=>exact ⟨k+1,by go_num,by omega,by omega,zac hB _⟩
 obtain rfl:k=n:=by omega
 go_wp2
 go_ret
 exact ⟨rfl,hB⟩
open Go.ChangeShapes Go.WideShapes Go.ChangeAt
section
variable {H:Type} {enc:TypeId × Value->H} {P:Program} {w:World} {base:Nat} {spare:Nat->Bool} {held:Bool} {fuel:Nat} {cs:List Value} {x:DataW H × List MemPlace} {t e s:Nat}
def Sees (enc:TypeId × Value->H) (P:Program) (w:World) (base:Nat) (spare:Nat->Bool) (held:Bool) (t:TypeId) (cs:List Value):Prop :=
 ∃ fuel x,DataW.trod enc P w base spare held fuel t cs=some x
theorem zcs {k:IntKind} (ht:P.underlying t=some (.int k)) (h:Sees enc P w base spare held t cs):∃ n,cs=[.int k n]/\(Lit.int k n).wf=true:=by
 obtain ⟨fuel,x,h⟩:=h
 obtain ⟨n,h1,_,h2⟩:=DataW.trod_int ht h
 exact ⟨n,h1,h2⟩
theorem zc9 (b off j:Nat):(⟨b,off,none⟩:Addr).add j=⟨b,off+j,none⟩:=by
 unfold Addr.add; split <;> simp_all
theorem zdM (ht:P.underlying t=some (.slice e)) (hC:P.cellsOf e=s) (hs:0<s) (h:Sees enc P w base spare held t cs) :
  ∃ (A:Option Addr) (n c:Nat) (f:Nat->Nat->Value),cs=[.slice A n c]/\n<=c/\c<=maxLen/\Rd w w.heap.size A n s f/\∀ i,i<n->Sees enc P w base spare held e ((List.range s).map (f i)):=by
 obtain ⟨fuel,x,h⟩:=h
 rcases Go.Deep.open_slice ht h with ⟨rfl,_⟩ | ⟨a,len,cap,m,n,D,Pl,rfl,hb,hl,hm,u,_,hi⟩
 ·exact ⟨none,0,0,fun _ _=>undef,rfl,Nat.le_refl _,Nat.zero_le _,fun i hi=>absurd hi (by omega),fun i hi=>absurd hi (by omega)⟩
 have v:len<=m:=by rw [u]; split <;> omega
 refine ⟨some a,len,cap,fun i j=>(w.cell? (a.add (i*s+j))).getD undef,rfl,hl,hm,fun i hi'=>?_,fun i hi'=>?_⟩
 rotate_left
 ·obtain ⟨cs',hc,r⟩:=hi i (by omega)
  rw [hC] at hc
  obtain ⟨_,g,k⟩:=World.cells?_some hc
  refine ⟨n,(D i,Pl i),?_⟩
  have:(List.range s).map (fun j=>(w.cell? (a.add (i*s+j))).getD undef)=cs':=by
   apply List.ext_getElem
   ·simp [g]
   intro j h1 h2
   have:=k j (by omega)
   rw [Go.Deep.add_add,List.getElem?_eq_getElem h2] at this
   simp [this]
  rw [this]
  exact r
 obtain ⟨cs',hc,_⟩:=hi i (by omega)
 rw [hC] at hc
 obtain ⟨_,g,k⟩:=World.cells?_some hc
 have h0:=k 0 hs
 rw [List.getElem?_eq_getElem (by omega),Go.Deep.add_add] at h0
 have o:=World.block_lt_of_cell? _ _ h0
 obtain ⟨ab,ao,sp⟩:=a
 have d:w.cell? ((⟨ab,ao,sp⟩:Addr).add (i*s+0))=some (cs'[0]'(by omega)):=h0
 by_cases hz:i*s=0
 ·have:(⟨ab,ao,sp⟩:Addr).add (i*s+0)=⟨ab,ao,sp⟩:=by unfold Addr.add; rw [if_pos (by omega)]
  rw [this] at d o
  obtain rfl:sp=none:=World.cell?_spot d
  refine ⟨ab,ao,rfl,o,fun j hj=>?_⟩
  have b:=k j hj
  rw [Go.Deep.add_add,zc9] at b
  show w.cell? ⟨ab,ao+i*s+j,none⟩=some ((w.cell? ((⟨ab,ao,none⟩:Addr).add (i*s+j))).getD undef)
  rw [zc9,b,List.getElem?_eq_getElem (by omega)]
  rw [show ao+i*s+j=ao+(i*s+j) by omega,b,List.getElem?_eq_getElem (by omega)]
  rfl
 -- the first element tells that the address has no spot
 obtain ⟨cs0,q,_⟩:=hi 0 (by omega)
 rw [hC] at q
 obtain ⟨_,p,l⟩:=World.cells?_some q
 have k0:=l 0 hs
 rw [List.getElem?_eq_getElem (by omega),Go.Deep.add_add] at k0
 have:(⟨ab,ao,sp⟩:Addr).add (0*s+0)=⟨ab,ao,sp⟩:=by unfold Addr.add; rw [if_pos (by omega)]
 rw [this] at k0
 obtain rfl:sp=none:=World.cell?_spot k0
 refine ⟨ab,ao,rfl,World.block_lt_of_cell? _ _ k0,fun j hj=>?_⟩
 have b:=k j hj
 rw [Go.Deep.add_add,zc9] at b
 show w.cell? ⟨ab,ao+i*s+j,none⟩=some ((w.cell? ((⟨ab,ao,none⟩:Addr).add (i*s+j))).getD undef)
 rw [zc9]
 rw [show ao+i*s+j=ao+(i*s+j) by omega,b,List.getElem?_eq_getElem (by omega)]
 rfl
theorem zda {fs:Array Field} (ht:P.underlying t=some (.struct fs)) (h:Sees enc P w base spare held t cs) :
  cs.length=P.cellsOf t/\∀ (i:Nat) (f:Field),fs[i]?=some f->Sees enc P w base spare held f.type ((cs.drop f.offset).take (P.cellsOf f.type)):=by
 obtain ⟨fuel,x,h⟩:=h
 obtain ⟨xs,n,_,_,a,b,hf⟩:=DataW.trod_struct ht h
 refine ⟨a,fun i f hi=>?_⟩
 have c:i<xs.length:=by rw [b]; exact (Array.getElem?_eq_some_iff.1 hi).1
 exact ⟨n,xs[i],(hf i f hi).trans (List.getElem?_eq_getElem c)⟩
theorem zdb {fs:Array Field} (ht:P.underlying t=some (.struct fs)) (h:Sees enc P w base spare held t cs) (i T off m:Nat)
  (hi:∃ f,fs[i]?=some f/\f.type=T/\f.offset=off) (hC:P.cellsOf T=m):Sees enc P w base spare held T ((cs.drop off).take m):=by
 obtain ⟨f,hf,rfl,rfl⟩:=hi
 subst hC
 exact (zda ht h).2 i f hf
theorem zeT {k:IntKind} (ht:P.underlying t=some (.slice e)) (he:P.underlying e=some (.int k)) (hC:P.cellsOf e=1) (h:Sees enc P w base spare held t cs) :
  ∃ (A:Option Addr) (n c:Nat) (g:Nat->Int),cs=[.slice A n c]/\n<=c/\c<=maxLen/\Rd w w.heap.size A n 1 (fun i _=>.int k (g i))/\∀ i,i<n->(Lit.int k (g i)).wf=true:=by
 obtain ⟨A,n,c,f,d,h1,h2,hr,hf⟩:=zdM ht hC (by omega) h
 refine ⟨A,n,c,fun i=>intOf (f i 0),d,h1,h2,fun i hi=>?_,fun i hi=>?_⟩
 ·obtain ⟨z,hz,_⟩:=zcs he (hf i hi)
  have a:f i 0=.int k z:=by simpa using hz
  obtain ⟨b,off,hA,hb,hc⟩:=hr i hi
  refine ⟨b,off,hA,hb,fun j hj=>?_⟩
  obtain rfl:j=0:=by omega
  show _=some (Value.int k (intOf (f i 0)))
  rw [hc 0 hj,a]
  rfl
 obtain ⟨z,hz,hw⟩:=zcs he (hf i hi)
 have a:f i 0=.int k z:=by simpa using hz
 show (Lit.int k (intOf (f i 0))).wf=true
 rw [a]
 exact hw
end
theorem zjt {n:Int} (h:(Lit.int .i64 n).wf=true) : -9223372036854775808<=n/\n<=9223372036854775807:=by
 simpa [Lit.wf,IntKind.min,IntKind.max,IntKind.signed,IntKind.bits] using h
theorem Tryz.own:ownKnob Tryz.prog.godebug=none:=by kernel_rfl
theorem Tryz.laidOut:laidOutB Tryz.prog=true:=by kernel_rfl
def IntsR (w:World) (B:Nat) (A:Option Addr) (n:Nat) (f:Nat->Int):Prop:=Rd w B A n 1 (fun j _=>.int .i64 (f j))
theorem IntsR.on {w w':World} {A:Option Addr} {n:Nat} {f:Nat->Int} (h:IntsR w w.heap.size A n f) (hb:Below w.heap.size w w'):IntsR w' w'.heap.size A n f:=(Rd.below h hb (Nat.le_refl _)).mono hb.size
theorem IntsR.at {w:World} {B n i:Nat} {A:Option Addr} {f:Nat->Int} (h:IntsR w B A n f) (hi:i<n):∃ b off,A=some ⟨b,off,none⟩/\b<B/\w.cell? ⟨b,off+i,none⟩=some (.int .i64 (f i)):=Rd.at1 h hi
theorem IntsR.congr {w:World} {B n:Nat} {A:Option Addr} {f g:Nat->Int} (h:IntsR w B A n f) (e:∀ i,i<n->f i=g i):IntsR w B A n g:=fun i hi=>by
 obtain ⟨b,off,e1,hb,hc⟩:=h i hi
 exact ⟨b,off,e1,hb,fun j hj=>by rw [hc j hj]; show some (Value.int .i64 (f i))=some (.int .i64 (g i)); rw [e i hi]⟩
def IntRows (w:World) (T:Option Addr) (M:Nat) (ln:Nat->Nat) (W:Nat->Nat->Int):Prop :=
 ∀ i,i<M->∃ b off A c,T=some ⟨b,off,none⟩/\b<w.heap.size/\w.cell? ⟨b,off+i,none⟩=some (.slice A (ln i) c)/\ln i<=c/\c<=maxLen/\IntsR w w.heap.size A (ln i) (W i)/\∀ j,j<ln i -> -9223372036854775808<=W i j/\W i j<=9223372036854775807
theorem IntRows.on {w w':World} {T:Option Addr} {M:Nat} {ln:Nat->Nat} {W:Nat->Nat->Int} (h:IntRows w T M ln W) (hb:Below w.heap.size w w'):IntRows w' T M ln W:=fun i hi=>by
 obtain ⟨b,off,A,c,e,h1,h2,h3,h4,h5,h6⟩:=h i hi
 exact ⟨b,off,A,c,e,Nat.lt_of_lt_of_le h1 hb.size,(hb.cell (p:=⟨b,_,none⟩) h1).trans h2,h3,h4,h5.on hb,h6⟩
section
variable {H:Type} {enc:TypeId × Value->H} {w:World} {base:Nat} {spare:Nat->Bool} {held:Bool} {cs:List Value}
theorem zhl (h:Sees enc Tryz.prog w base spare held 25 cs):∃ T M c ln W,cs=[.slice T M c]/\M<=c/\c<=maxLen/\IntRows w T M ln W:=by
 obtain ⟨T,m,c,f,k,h1,h2,hr,hf⟩:=zdM Tryz.underlying25 (show Tryz.prog.cellsOf 22 = 1 by kernel_rfl) (by omega) h
 have a:∀ i,∃ t:Option Addr × Nat × Nat × (Nat->Int),i<m->f i 0=.slice t.1 t.2.1 t.2.2.1/\t.2.1<=t.2.2.1/\t.2.2.1<=maxLen/\IntsR w w.heap.size t.1 t.2.1 t.2.2.2/\∀ j,j<t.2.1 -> -9223372036854775808<=t.2.2.2 j/\t.2.2.2 j<=9223372036854775807:=by
  intro i
  by_cases hi:i<m
  ·obtain ⟨A,n,c,g,e,g1,g2,hx,hw⟩:=zeT Tryz.underlying22 Tryz.underlying3 (by kernel_rfl) (hf i hi)
   have e':[f i 0]=[.slice A n c]:=e
   simp only [List.cons.injEq,and_true] at e'
   exact ⟨(A,n,c,g),fun _=>⟨e',g1,g2,hx,fun j hj=>zjt (hw j hj)⟩⟩
  ·exact ⟨(none,0,0,fun _=>0),fun h=>absurd h hi⟩
 obtain ⟨t,a⟩:=Classical.axiomOfChoice a
 refine ⟨T,m,c,fun i=>(t i).2.1,fun i=>(t i).2.2.2,k,h1,h2,fun i hi=>?_⟩
 obtain ⟨e0,g1,g2,hx,hw⟩:=a i hi
 obtain ⟨b,off,e,hb,hc⟩:=hr i hi
 have d:=hc 0 (by omega)
 rw [e0] at d
 exact ⟨b,off,_,_,e,hb,by simpa using d,g1,g2,hx,hw⟩
end
theorem exx {α:Sort _} (a:α):∃ x,x=a:=⟨a,rfl⟩
theorem dwx (w:World):∃ W,W=World.drew w/\Below w.heap.size w W:=⟨_,rfl,(Below.refl _ _).drew⟩
theorem aly (w:World) (o:Obj):Below w.heap.size w (w.alloc o):=(Below.refl _ _).alloc (Nat.le_refl _) _
theorem alx {a b:World} {o:Obj} (h:b=a.alloc o):Below a.heap.size a b:=by rw [h]; exact aly a o
end Go.Proofs.YtgekjfpapmlndaaGreat
