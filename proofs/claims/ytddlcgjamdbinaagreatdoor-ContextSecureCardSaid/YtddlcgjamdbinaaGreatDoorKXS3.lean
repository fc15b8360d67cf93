/-
  Parts of the proof, merged by a program of the prover's own; no condition.
-/
import Derived.Test.YtddlcgjamdbinaaGreatDoorKXS2
import Derived.Deep.Draws
import Derived.JoinedCond
import Derived.KernelRfl
import Derived.LaidMore
import Derived.LaidSub
import Derived.Laws.RangeString
import Derived.Lay
import Derived.Lib.IndexMore
import Derived.Lib.ItoaNum
import Derived.Lib.Join
import Derived.Lib.LaidTab
import Derived.Lib.LaidU8
import Derived.Lib.RuneCount
import Derived.Lib.TrailingZeros
import Derived.Lib.ValidU
import Derived.OpenShut
import Derived.ProofKit
import Derived.RangeFuncLeaves
import Derived.RangeFuncNested
import Derived.Shelf.Vars
import Derived.Sort.Grow
import Derived.Test.YtddlcgjamdbinaaGreatDoorChecked
import Derived.Test.YtddlcgjamdbinaaGreatDoorProg
import Derived.Test.YtddlcgjamdbinaaGreatDoorRows
import Derived.WalkKit
open List renaming length->c9,flatten->j0,getD->j1,getElem?_eq_getElem->j2,replicate->j5,isEmpty->k9,getD_eq_getElem?_getD->o5,getElem_mem->o6,getElem?_eq_none->p7,mem_append->s8,all_eq_true->v7,getElem_map->v8,map->w8,length_map->x9,mem_cons->y5,take->y7,getElem?_map->aa4,eq_nil_iff_forall_not_mem->aa6,all->ab0,append_nil->ab3,isPrefixOf->ab4,map_append->ab5,getElem_append_left->ac3,cons_append->ac6,prefix_iff_eq_take->ac7,suffix_iff_eq_drop->ac8,take_of_length_le->ad1,mem_cons_of_mem->ad8,drop->ae0,getElem?_range->ae1,length_append->ae2,isSuffixOf->af4,nodup_cons->af5,drop_drop->af7,drop_zero->af8,mapM_cons->af9,range->ag0,take_add->ag5,all_map->ag8,map_map->ag9,set->ah5
open Int renaming toNat->j4,eq_ofNat_of_zero_le->x6,tdiv->aa9,tmod->ab9
open Option.some renaming injEq->j6,inj->o8
open Go.Proofs.Tryz renaming prog->j7,checked->ae6,f26->ae7,f157->ae9,f166->af0,f187->af1,f193->af2,f33->ag1,f47->ag2,f87->ag3,f184->ag6,f46->ah8,f57->ah9,f62->ai0,f63->ai1
open Option renaming isSome->j8,map_some->ab6,isSome_iff_exists->ac4
open Eq renaming trans->j9
open Bool renaming and_eq_true->o0,eq_iff_iff->ad2
open Go.IntKind renaming wrap->o7,signed->aa1,bits->ab7
open Nat renaming mod_eq_of_lt->o9,lt_of_lt_of_le->p5,le_refl->p6,eq_of_beq_eq_true->p9,ble->s9,beq->x3,le_of_not_lt->ac9,add_comm->ah0,blt->ah1,zero_mul->ah2
open Prod.mk renaming injEq->p4
open Array renaming getElem?_eq_some_iff->w6,replicate->ab2,getElem?_eq_none->ad0
open Go.Lib renaming cut->w9,decDigits->x5,tabData->aa0,VarReads->aa2,deBruijn64tab->ac1,acceptData->ad5,decodeL->ad6,join->ad7,firstTab->ae3,pow10Tab->ae4
open UInt8 renaming ofNat->x4,le_iff_toNat_le->aa5,toNat->ai2
open Go.World renaming putObj_heap_other->x7,laidAll->y9,alloc_heap_new->ab1,cells?_some->ae8,cell?->ai3
open BitVec renaming ofInt->x8,ofInt_natCast->ad4
open Go.Value renaming okWide->y8,int->aa7
open Go.DataW renaming trod->z7,TrodAll->aa8,Whole->ah4
open Go.Lib.laidMet renaming reads->aa3
open Go.Fence renaming wide->ab8
open Go.MakeChecks renaming laidMetH_plain->ac0
open Go.Oper renaming uponIn_enter->ac2
open Classical renaming choose->ac5,choose_spec->ad3
open Go.Result renaming andThen->ad9
open Go.Sem renaming run_bind->ae5
open Go.Ending renaming returned->af3
open Go.Code renaming rangeFunc->af6
open Go.Instr renaming loadAt->ag7
set_option maxRecDepth 100000
variable{R:Type}
namespace Go.Proofs.YtddlcgjamdbinaaGreatDoor.E
set_option linter.all false
section
open Go
def Ctx.hide(Γ:Ctx)(ns:List Nat):Ctx:={ Γ with nm:=λb=>if b∈ns then none else Γ.nm b }
def Ctx.reyv(Γ:Ctx)(y:Value)(hy:y.oneCell'=true):Ctx:={ Γ with yv:=y,yv1:=hy }
section
variable {X R : Type} {r : R} {C : Cfg} {I : X -> (Nat -> Prop) -> (Nat -> Prop) -> World -> Prop} {Γ Γ' : Ctx} {Z T : Nat -> Prop} {Y : St X} {a : Act} {w w' : World} {W : G4} {J : Yh X} {K : Value} {H H' : List Blk} {N : Array Value}
def Ku:∀{l:List PV},yfL l=true->∀v∈l,v.yf=true
 | [],_,v,b=>by simp at b
 | x::r,h,v,b=>by
  simp only[yfL,o0] at h;rcases y5.1 b with rfl|b
  ·exact h.1
  ·exact Ku h.2 v b
def VP.reyv{sh:Nat->Option Shp}{y:Value}{hy:y.oneCell'=true}{v:PV}{V:Value}(h:VP Γ sh w v V):v.yf=true->VP (Γ.reyv y hy) sh w v V:=by
 induction h with
 | s v V h=>intro _;exact .s v V h
 | nsl=>intro _;exact .nsl
 | flv b e sz h=>intro _;exact .flv b e sz h
 | fl b g v e sz n cap h hv hg hcap hm hs=>intro _;exact .fl b g v e sz n cap h hv hg hcap hm hs
 | vwv b e sz i h=>intro _;exact .vwv b e sz i h
 | vw b i n g a cap v e sz m h hv hg ha hi hcap hm=>intro _;exact .vw b i n g a cap v e sz m h hv hg ha hi hcap hm
 | ptrA b i off g v e sz n h hg=>intro _;exact .ptrA b i off g v e sz n h hg
 | ptrB b off g h hg=>intro _;exact .ptrB b off g h hg
 | fnr g x y A B As Bs hf hA hB ha hb hx hy ihx ihy=>
  intro hc;simp only[PV.yf,o0] at hc;exact .fnr g x y A B As Bs hf hA hB ha hb (λj h=>ihx j h (Ku hc.1 _ (o6 h))) (λj h=>ihy j h (Ku hc.2 _ (o6 h)))
 | it b g h hg=>intro _;exact .it b g h hg
 | mpv b g h hg=>intro _;exact .mpv b g h hg
 | yd=>intro h;simp[PV.yf] at h
 | agg l A As hA ha hl ih=>
  intro hc;simp only[PV.yf] at hc;exact .agg l A As hA ha (λj h=>ih j h (Ku hc _ (o6 h)))
 | tup l A As hA ha hl ih=>
  intro hc;simp only[PV.yf] at hc;exact .tup l A As hA ha (λj h=>ih j h (Ku hc _ (o6 h)))
 | bad V=>intro _;exact .bad V
mutual
def PV.yf_rn(f:Nat->Nat):∀v:PV,(v.rn f).yf=v.yf
 | .s _=>rfl
 | .nsl=>rfl
 | .fl b=>rfl
 | .vw b _ _=>rfl
 | .ptr b _ _=>rfl
 | .fnr _ x y=>by simp only[PV.rn,PV.yf,Xa f x,Xa f y]
 | .it b=>rfl
 | .yd=>rfl
 | .agg l=>by simp only[PV.rn,PV.yf,Xa f l]
 | .tup l=>by simp only[PV.rn,PV.yf,Xa f l]
 | .bad=>rfl
def Xa(f:Nat->Nat):∀l:List PV,yfL (rnL f l)=yfL l
 | []=>rfl
 | v::r=>by simp only[rnL,yfL,PV.yf_rn f v,Xa f r]
end
def C17(f:PV->PV)(l:List (List UInt8 × PV)):(PJ f l).map Prod.snd=(l.map Prod.snd).map f:=by simp[PJ]
def Blk.yf_rn(f:Nat->Nat)(x:Blk):(x.rn f).yf=x.yf:=(by cases x with|mp ents=>simp only[Blk.rn,Blk.yf,C17,<-Ou,Xa]|_=>simp[Blk.rn,Blk.yf,Xa])
def D06(a:Bool)(l:List SV):(svV a l).yf=true:=by
 cases a with
 | true=>
  simp only[svV,aa,PV.yf]
  induction l with
  | nil=>rfl
  | cons x l b=>exact b
 | false=>simp only[svV,ab];split<;>rfl
def BR.reyv{sh:Nat->Option Shp}{b:Nat}{x:Blk}{y:Value}{hy:y.oneCell'=true}(h:BR Γ sh w b x)(hx:x.yf=true):BR (Γ.reyv y hy) sh w b x:=by
 cases x with
 | arr v e sz els=>exact h
 | box cells=>
  simp only[Blk.yf] at hx;obtain⟨g,cur,e,h1,h2,h3,h4⟩:=h;refine⟨g,cur,e,h1,h2,h3,λj h=>?_⟩;obtain⟨V,e1,e2⟩:=h4 j h;exact⟨V,e1,e2.reyv (Ku hx _ (o6 h))⟩
 | iter s p=>exact h
 | mp ents=>
  simp only[Blk.yf] at hx;obtain⟨g,es,ck,h1,h2,h3⟩:=h;exact⟨g,es,ck,h1,h2,h3.imp λv hv V k=>k.reyv (Ku hx v hv)⟩
 | ms a ents=>
  obtain⟨g,es,ck,h1,h2,h3⟩:=h;refine⟨g,es,ck,h1,h2,h3.imp λv hv V k=>k.reyv ?_⟩;obtain⟨e,he,rfl⟩:=HC hv;exact D06 a _
 | dead=>exact h
def HR.reyv{y:Value}{hy:y.oneCell'=true}(h:HR Γ H w)(hx:∀b (h:b<H.length),(H[b]).yf=true):HR (Γ.reyv y hy) H w:=
 ⟨h.inj,h.lt,h.stlt,h.nms,λb hb=>(h.blk b hb).reyv (hx b hb)⟩
def MO:∀(H:List Blk) (n:Nat),∀b (h:b<H.length),(n+b)∈Cr C H n\/Fq C H[b]=true
 | [],n,b,h=>by simp at h
 | x::r,n,0,_=>by
  cases c:Fq C x with
  | true=>exact .inr c
  | false=>exact .inl (by simp[Cr,c])
 | x::r,n,b+1,h=>by
  have:=MO r (n+1) b (by simpa using h);rw[show n+1+b=n+(b+1) by omega] at this;rcases this with q|q
  ·refine .inl ?_;simp only[Cr];cases Fq C x with
   | true=>exact q
   | false=>exact ad8 _ q
  ·exact .inr (by simpa using q)
def SD{d:List Nat}(c:∀b,b∉d->A3 H' b=A3 H b):Am Γ (A3 H) w (Γ.hide d) (A3 H') w (·∉d):=
 ⟨λ_ _=>rfl,λ_ h=>h,λb e=>by simp only[Ctx.hide];rw[ae e],c,λ_ _ _ _=>rfl,rfl⟩
def Db8{f:List Nat}(o:HR Γ H w)(v:f.Nodup)(u:∀b∈f,b<H.length):(P0 f H).length=H.length/\(∀b,b∉f->A3 (P0 f H) b=A3 H b)/\(∀b,b∈f->A3 (P0 f H) b=some .dead)/\HR (Γ.hide f) (P0 f H) w:=by
 obtain⟨i,x,q⟩:=Rj (Γ:=Γ) (sh:=A3 H) (w:=w) f H;obtain⟨A,t⟩:=Kp f (j5 f.length .dead) (T2 f H) v (by simp) (λb d=>by rw[i];exact u b d);have k:(P0 f H).length=H.length:=by rw[P0,A,i]
 have j:∀b,b∉f->(P0 f H)[b]? = (T2 f H)[b]?:=λb d=>by rw[P0,t,ae d]
 have l:∀b,b∈f->(P0 f H)[b]? = some .dead:=λb d=>by
  rw[P0,t,ac d,List.getElem?_replicate,ac (List.idxOf_lt_length_of_mem d)]
 have p:∀b,b∉f->A3 (P0 f H) b=A3 H b:=λb d=>by
  rw[<-x b];simp only[A3,j b d]
 have M:=SD (Γ:=Γ) (H:=H) (w:=w) p;have m:∀b g,(Γ.hide f).nm b=some g->b∉f/\Γ.nm b=some g:=λb g h=>by
  simp only[Ctx.hide] at h;split at h
  ·cases h
  ·exact⟨‹_›,h⟩
 refine⟨k,p,λb d=>by simp only[A3,l b d];rfl,⟨λb B g D F=>o.inj b B g (m b g D).2 (m B g F).2,λb g h=>?_,o.stlt,λb d c n=>?_,λb d=>?_⟩⟩
 ·obtain⟨y,z,G⟩:=o.lt b g (m b g h).2;exact⟨by rw[k];exact y,z,G⟩
 ·rw[k] at d ⊢;by_cases h:b∈f
  ·have:=l b h;rw[j2 (by rw[k];exact d)] at this;simp only[j6] at this;rw[this] at n;simp[Blk.nms] at n
  ·have e:=j b h;rw[j2 (by rw[k];exact d),j2 (by rw[i];exact d)] at e;simp only[j6] at e;rw[e] at n;exact o.nms b d c ((q b (by rw[i];exact d) d).1 c n).2
 ·rw[k] at d;by_cases h:b∈f
  ·have:=l b h;rw[j2 (by rw[k];exact d)] at this;simp only[j6] at this;rw[this];trivial
  ·have e:=j b h;rw[j2 (by rw[k];exact d),j2 (by rw[i];exact d)] at e;simp only[j6] at e;rw[e];obtain⟨y,z⟩:=q b (by rw[i];exact d) d;exact(z b (o.blk b d)).mono M (M.nm b h) (λ_ _=>rfl) (λc n=>(y c n).1)
def Sr{b:Obj}{g:Nat}(h:g<w.heap.size):(w.alloc b).heap[g]? = w.heap[g]?:=by show(w.heap.push b)[g]? = w.heap[g]?;rw[Array.getElem?_push];rw[ae (by omega)]
def Uj{v:PV}{V:Value}{sh:Nat->Option Shp}{f:Nat}{first b:List PV}(h:Tm v=some (f,first,b))(i:VP Γ sh w v V):∃A B,V = .func (.func f) A B/\CR Γ sh w first A/\CR Γ sh w b B/\∀c∈D1 (first++b),c∈v.nms:=by
 have g:∀(l:List SV),D1 (l.map PV.s)=[]:=λl=>by
  rw[aa6];intro c d;obtain⟨j,k,d⟩:=C8.1 d;simp[PV.nms] at d
 unfold Tm at h;split at h
 ·simp only[j6,p4] at h;obtain⟨rfl,rfl,rfl⟩:=h;obtain⟨A,B,rfl,hA,e⟩:=i.inv_fn';exact⟨A,B,rfl,hA,e,λc d=>by rw[P4,g,g] at d;simp at d⟩
 ·simp only[j6,p4] at h;obtain⟨rfl,rfl,rfl⟩:=h;obtain⟨A,B,rfl,hA,e⟩:=i.inv_fnr';exact⟨A,B,rfl,hA,e,λc d=>by rw[P4] at d;simpa[PV.nms] using d⟩
 ·cases h
def VP.ndead{sh:Nat->Option Shp}{v:PV}{V:Value}(h:VP Γ sh w v V):∀c∈v.nms,sh c≠some .dead:=by
 induction h with
 | s v V h=>intro c hc;simp[PV.nms] at hc
 | nsl=>intro c hc;simp[PV.nms] at hc
 | flv b e sz h=>intro c hc;simp[PV.nms] at hc;subst hc;rw[h];simp
 | fl b g v e sz n cap h hv hg hcap hm hs=>intro c hc;simp[PV.nms] at hc;subst hc;rw[h];simp
 | vwv b e sz i h=>intro c hc;simp[PV.nms] at hc;subst hc;rw[h];simp
 | vw b i n g a cap v e sz m h hv hg ha hi hcap hm=>intro c hc;simp[PV.nms] at hc;subst hc;rw[h];simp
 | ptrA b i off g v e sz n h hg=>intro c hc;simp[PV.nms] at hc;subst hc;rw[h];simp
 | ptrB b off g h hg=>intro c hc;simp[PV.nms] at hc;subst hc;rw[h];simp
 | fnr g x y A B As Bs hf hA hB ha hb hx hy ihx ihy=>
  intro c hc;simp only[PV.nms,s8] at hc;rcases hc with hc|hc
  ·obtain⟨j,hj,hc⟩:=C8.1 hc;exact ihx j hj c hc
  ·obtain⟨j,hj,hc⟩:=C8.1 hc;exact ihy j hj c hc
 | it b g h hg=>intro c hc;simp[PV.nms] at hc;subst hc;rw[h];simp
 | mpv b g h hg=>intro c hc;simp[PV.nms] at hc;subst hc;rw[h];simp
 | yd=>intro c hc;simp[PV.nms] at hc
 | agg l A As hA ha hl ih=>intro c hc;simp only[PV.nms] at hc;obtain⟨j,hj,hc⟩:=C8.1 hc;exact ih j hj c hc
 | tup l A As hA ha hl ih=>intro c hc;simp only[PV.nms] at hc;obtain⟨j,hj,hc⟩:=C8.1 hc;exact ih j hj c hc
 | bad V=>intro c hc;simp[PV.nms] at hc
def BR.ndead{sh:Nat->Option Shp}{b:Nat}{x:Blk}(h:BR Γ sh w b x):∀c∈x.nms,sh c≠some .dead:=by
 cases x with
 | box cells=>
  intro c hc;simp only[Blk.nms] at hc;obtain⟨j,hj,hc⟩:=C8.1 hc;obtain⟨g,cur,e,h1,h2,h3,h4⟩:=h;obtain⟨V,_,e2⟩:=h4 j hj;exact e2.ndead c hc
 | arr v e sz els=>intro c hc;simp[Blk.nms] at hc
 | iter s p=>intro c hc;simp[Blk.nms] at hc
 | mp ents=>
  intro c hc;simp only[Blk.nms] at hc;obtain⟨j,hj,hc⟩:=C8.1 hc;obtain⟨g,es,ck,h1,h2,h3⟩:=h;exact h3.vals _ (o6 hj) (λV k=>k.ndead c hc)
 | ms a ents=>intro c hc;simp[Blk.nms] at hc
 | dead=>intro c hc;simp[Blk.nms] at hc
def NO{ro:Option Nat}{n n0:Nat}{g:Operand}{ps:Array Tmp}{aq body:Code}{k:Out->St X->Option R}{Q:Exit->Act->World->Prop}{f6:G4}{f:Nat}{first a0:List PV}{m:List Nat}(A:Ask C I W J K)(h8:Cw C f6)(l4:Γ.yv=K)(i5:WP C I W J K aq)(i7:WP C I W J K body)
  (l2:Tm (opnd C Y.sl g)=some (f,first,a0)) (f3:m.Nodup) (b8:∀c∈D1 (first++a0),c∈m) (a4:∀b∈m,b<Y.hp.length)
  (h:Zp C f6 f first a0 m Y (λl6=>Li ps l6 (λY k=>A9 C W J aq Y k) (λY k=>A9 C W J body Y k)) k=some r) (S:SI C I Γ Z Y a.tmps w) (hM:Mk n0 Γ Z w a.defers) (hR:Ro ro Γ Z w) (hP:Da0 C I n0 Γ Z Y.hp w k r Q) :
  (af6 g ps aq body).wpIn (I4 ro) n C.P Q a w:=by
 have hv:=(S.opnd g).1;have hvn:=(S.opnd g).2;obtain⟨FA,FB,h9,i9,j3,m4⟩:=Uj l2 hv;unfold Zp at h;split at h
 case isFalse=>cases h
 rename_i b5;simp only[o0,v7] at b5;obtain⟨⟨⟨k0,f4⟩,l3⟩,d4⟩:=b5;split at h
 case h_2=>cases h
 rename_i ret Hc H1 a2 s' e8;refine wpIn_rangeFunc (λfn _=>?_);have h7:∃(G:World) (l Dv:Nat) (D:Option Nat),(Instr.enterLoop fn a.tmps ps aq body ro).run C.P w = .ok (l,D.toList.map mkD) G/\w.heap.size<=l/\l<G.heap.size/\w.heap.size<=G.heap.size/\(∀g,g<w.heap.size->G.heap[g]? = w.heap[g]?)/\
   G.heap[l]? = some (.loop (Lh fn a.tmps ps aq body Dv .ready none))/\(∀d,D=some d->w.heap.size<=d/\d<G.heap.size/\d≠l/\G.heap[d]? = some (.deferred (some [])))/\G.os=w.os/\G.tape=w.tape/\G.output=w.output:=by
  cases ro with
  | none=>
   refine⟨(w.alloc (.deferred (some []))).alloc (.loop (Lh fn a.tmps ps aq body w.heap.size .ready none)),w.heap.size+1,w.heap.size,some w.heap.size,run_enterLoop_outer _ _ _ _ _,by omega,by simp,by simp;omega,λg B=>?_,?_,λd hd=>?_,rfl,rfl,rfl⟩
   ·rw[Sr (by simp;omega),Sr B]
   ·have:=ab1 (w.alloc (.deferred (some []))) (.loop (Lh fn a.tmps ps aq body w.heap.size .ready none));rwa [World.size_alloc] at this
   ·simp only[j6] at hd;subst hd;exact⟨p6 _,by simp;omega,by omega,by rw[Sr (by simp)];exact ab1 w _⟩
  | some l0=>
   obtain⟨_,r0,l1⟩:=hR l0 rfl;exact⟨w.alloc (.loop (Lh fn a.tmps ps aq body r0.defers .ready none)),w.heap.size,r0.defers,none,run_enterLoop_inner l1 _ _ _ _ _,p6 _,by simp,by simp,λg B=>Sr B,ab1 w _,λd hd=>(by cases hd),rfl,rfl,rfl⟩
 obtain⟨G,lw,Dv,D,c4,k8,k6,g9,a5,k7,hD,ho⟩:=h7;obtain⟨S1,m5⟩:=S.wide A.hI (St':=Γ.St) a5 g9 (λ_ h=>h) (λ_ h=>.inl h) (λg B=>by have:=S.hr.stlt g B;omega) ho.1 ho.2.1 ho.2.2;have S1:SI C I Γ Z Y a.tmps G:=S1;have k4:=A.hI.foot _ _ _ _ S.inv;have d8:∀{g},w.heap.size<=g->g<G.heap.size->Off Γ Z G g:=fun {g} h1 h2=>⟨h2,λq=>by have:=S.hr.stlt g q;omega,λb q=>by have:=(S.hr.lt b g q).2.1;omega,λq=>by have:=(k4 g q).1;omega⟩
 have d1:Off Γ Z G lw:=d8 k8 k6;have d0:∀d,D=some d->Off Γ Z G d:=λd h=>d8 (hD d h).1 (hD d h).2.1
 obtain⟨dl,b9,f7,e3⟩:=Db8 S1.hr f3 a4;have c6:=Od (Γ:=Γ) (sh:=A3 Y.hp) (w:=G) (m++Cr C Y.hp 0) Y.sl;have f0:=SD (Γ:=Γ) (H:=Y.hp) (H':=P0 m Y.hp) (w:=G) b9;have a1:∀c∈D1 (M7 (m++Cr C Y.hp 0) Y.sl),c∉m/\c<Y.hp.length/\Fq C (Y.hp.getD c .dead)=true:=λc u=>by
  obtain⟨F,q2⟩:=c6.2.1 c u;have q3:=S.sr.nms c q2;simp only[s8,not_or] at F;refine⟨F.1,q3,?_⟩;have e:Y.hp.getD c .dead=Y.hp[c]:=by rw[o5,j2 q3];rfl
  rw[e];rcases MO (C:=C) Y.hp 0 c q3 with q|q
  ·rw[Nat.zero_add] at q;exact absurd q F.2
  ·exact q
 have g0:SR (Γ.hide m) (P0 m Y.hp) G (M7 (m++Cr C Y.hp 0) Y.sl) a.tmps:=by
  have h0:SR Γ Y.hp G (M7 (m++Cr C Y.hp 0) Y.sl) a.tmps:=⟨by rw[c6.1];exact S1.sr.size,λc u=>(a1 c u).2.1,λi hi=>by
   have b7:i<Y.sl.length:=by rw[<-c6.1];exact hi
   obtain⟨V,e1,e2⟩:=S1.sr.slot i b7;exact⟨V,e1,c6.2.2 i hi b7 V e2⟩⟩
  exact h0.mono f0 (λc u=>⟨(a1 c u).1,by rw[dl];exact(a1 c u).2.1⟩)
 have M:∀{b g},(Γ.hide m).nm b=some g->b∉m/\Γ.nm b=some g:=fun {b g} h=>by
  simp only[Ctx.hide] at h;split at h
  ·cases h
  ·exact⟨‹_›,h⟩
 have SS:SI C I (Γ.hide m) Z { sl:=M7 (m++Cr C Y.hp 0) Y.sl,hp:=P0 m Y.hp,s:=Y.s } a.tmps G:=⟨e3,g0,S1.g,S1.inv,λb g p=>S1.dis b g (M p).2⟩
 have g4:∀c∈D1 (M7 (m++Cr C Y.hp 0) Y.sl),c<(P0 m Y.hp).length/\Je C (A3 (P0 m Y.hp) c):=λc u=>by
  obtain⟨F,q2,q3⟩:=a1 c u;exact⟨by rw[dl];exact q2,by rw[b9 c F];exact(LN q2).1 q3⟩
 have d7:∀{g},Off Γ Z G g->Off (Γ.hide m) Z G g:=fun {g} h=>⟨h.1,h.2.1,λb q=>h.2.2.1 b (M q).2,h.2.2.2⟩
 let Φc:Nat->Prop:=λg=>Z g\/(∃b,(Γ.hide m).nm b=some g)\/g=lw\/D=some g
 have h6:RI C I (Γ.hide m) (P0 m Y.hp) G Z (M7 (m++Cr C Y.hp 0) Y.sl) a.tmps lw D (Lh fn a.tmps ps aq body Dv) (P0 m Y.hp,none,Y.s) Γ.St Φc G:=by
  refine⟨Γ.hide m,Z,SS,Stp.pg (Stp.refl e3),λ_ h=>h,λ_=>Iff.rfl,λg B=>?_,d7 d1,λd h=>d7 (d0 d h),k7,λd h=>(hD d h).2.2.2⟩;rcases B with q|⟨b,q⟩|q|q
  ·have:=A.hI.foot _ _ _ _ S1.inv g q;exact this
  ·have:=e3.lt b g q;exact⟨this.2.1,this.2.2⟩
  ·rw[q];exact⟨d1.1,d1.2.1⟩
  ·exact⟨(d0 g q).1,(d0 g q).2.1⟩
 have i0:=Aa7 S1.hr f3 a4 k0;have a3:=λb (h:b∈m)=>Ca h
 have f2:(P9 Y.hp m).length=m.length:=by simp[P9]
 let y:Value:=.func (.yield lw) #[] #[];have b0:y.oneCell'=true:=rfl;have f9:HR ((Γ.lent m).reyv y b0) (P9 Y.hp m) G:=i0.reyv (λb p=>by
  have i6:b<m.length:=by rw[<-f2];exact p
  simp only[P9,v8,Blk.yf_rn];exact l3 _ (o6 i6))
 have d9:∀{l:List PV} {V:Array Value},CR Γ (A3 Y.hp) w l V->yfL l=true->(∀c∈D1 l,c∈m)->CR ((Γ.lent m).reyv y b0) (A3 (P9 Y.hp m)) G (rnL (I5 m) l) V:=fun {l V} u hy hn=>by
  have g2:CR Γ (A3 Y.hp) G l V:=u.mono (Γ':=Γ) (H':=Y.hp) (EK S.hr a5 (λ_ h=>h)) (λ_ _=>trivial);rw[Ou];refine⟨by rw[x9];exact g2.1,λj hj=>?_⟩;have f1:j<l.length:=by simpa using hj
  obtain⟨U,e,q⟩:=g2.2 j f1;refine⟨U,e,?_⟩;rw[v8];refine VP.reyv (VP.rn (Γ:=Γ) (Γ':=Γ.lent m) rfl q (.inr λ_ h=>h) (λc u=>?_)) (by rw[PV.yf_rn];exact Ku hy _ (o6 f1));have c3:=hn c (C8.2 ⟨j,f1,u⟩);obtain⟨F,q2⟩:=a3 c c3;exact⟨Ta c3,by rw[Mh a4 F,q2]⟩
 have l7:∀(x z:List PV),yfL (x++z)=(yfL x&&yfL z):=λx z=>by
  induction x with
  | nil=>simp[yfL]
  | cons v x ih=>simp[yfL,ih,Bool.and_assoc]
 rw[l7,o0] at f4;have e7:CR ((Γ.lent m).reyv y b0) (A3 (P9 Y.hp m)) G (rnL (I5 m) first++.yd::rnL (I5 m) a0) (FA++#[y]++FB):=by
  have h1:=d9 i9 f4.1 (λc u=>b8 c (by rw[P4];simp[u]));have h2:=d9 j3 f4.2 (λc u=>b8 c (by rw[P4];simp[u]));have h3:CR ((Γ.lent m).reyv y b0) (A3 (P9 Y.hp m)) G [.yd] #[y]:=CR.one .yd;have:=(h1.append h3).append h2;simpa using this
 have e6:∀c∈D1 (rnL (I5 m) first++.yd::rnL (I5 m) a0),c<(P9 Y.hp m).length:=λc u=>by
  have:c∈(D1 (first++a0)).map (I5 m):=by
   rw[P4] at u;simp only[D1,PV.nms,List.nil_append,Gy,s8] at u;rw[P4,ab5,s8];exact u
  obtain⟨d,hd,rfl⟩:=List.mem_map.1 this;rw[f2];exact(a3 d (b8 d hd)).1
 have a7:∀{i g},(Γ.lent m).nm i=some g->∃hi:i<m.length,Γ.nm m[i]=some g:=fun {i g} h=>by
  simp only[Ctx.lent] at h;cases hi:m[i]? with
  | none=>rw[hi] at h;simp at h
  | some b=>
   obtain⟨h1,h2⟩:=List.getElem?_eq_some_iff.1 hi;rw[hi] at h;exact⟨h1,by rw[h2];exact h⟩
 have c1:=h8 _ _ _ y (D54 A.hI) (D55 (fn:=fn) (ps:=ps) (aq:=aq) (body:=body) (l:=lw) (Dv:=Dv) (D:=D) (tmps:=a.tmps) (w0:=G) (Φ0:=Z) (Γ0:=Γ.hide m) A.hI l4 i5 i7 g4) f _ _ _ ret Hc _ e8 ((Γ.lent m).reyv y b0) Φc G (FA++#[y]++FB) rfl f9 S1.g h6 (λi g hi=>by
  obtain⟨k5,c5⟩:=a7 hi;rintro(q|⟨b,q⟩|q|q)
  ·exact S1.dis _ g c5 q
  ·obtain⟨F,q2⟩:=M q;have:=S1.hr.inj _ _ g c5 q2;exact F (this▸o6 k5)
  ·exact d1.2.2.1 _ (q▸c5)
  ·exact(d0 _ q).2.2.1 _ c5) e7 e6
 have c2:=AV (ro:=ro) (n:=n) (Bu d4) c1;refine⟨lw,D.toList.map mkD,G,{ target:=.fn (.func f) FB,args:=FA++#[y] },G,f,FA++#[y]++FB,G,?_,?_,λ_ _=>trivial,?_,λh=>by simp[I4,ab8] at h,c2.mono ?_⟩
 ·exact c4
 ·simp[resolve,h9,Deferred.ofValue];rfl
 ·show(callFunc f (FA++#[y]++FB)).run C.P G=_;exact Bu d4
 rintro e W2 ⟨V,rfl,Γ1,Φ1,hs,b3,m6,l9,⟨Γb,Φb,r1⟩,b6⟩;have g5:=r1.hl;have d3:=run_endLoop (P:=C.P) g5 (by cases a2<;>simp[Lh,Do1]);obtain⟨w4,c8⟩:∃w4,W2.putObj lw (.loop { Lh fn a.tmps ps aq body Dv (Do1 a2) (a2.map jmp) with state:=.exhausted })=w4:=⟨_,rfl⟩
 rw[c8] at d3;have O:Xb Γb Φb W2 w4:=by rw[<-c8];exact Xb.put r1.ol
 have a9:w4.heap.size=W2.heap.size:=by rw[<-c8];simp
 have h4:∀g,g≠lw->w4.heap[g]? = W2.heap[g]?:=λg B=>by rw[<-c8];exact x7 B
 have inΦ:∀{g},Φb g\/(∃b,Γb.nm b=some g)\/g=lw\/D=some g->Φ1 g:=fun {g} h=>(r1.ph g).2 h
 have S5:=(r1.si.offW A.hI O).wideSt A.hI (St':=Γ1.St) r1.st (λg B hp=>(r1.ft g (inΦ (.inl hp))).2 B) (λb g p B=>(r1.ft g (inΦ (.inr (.inl ⟨b,p⟩)))).2 B) (λg B=>by rw[a9];exact b3.stlt g B);have c7:Y.hp.length<=H1.length:=by have:=r1.pg.len;rw[dl] at this;exact this
 have d2:m.length<=Hc.length:=by have:=hs.len;rw[x9] at this;exact this
 obtain⟨l5,h5⟩:=Kp m (m.map λb=>cond (Fq C (Y.hp.getD b .dead)) (Jw (Hc.getD (I5 m b) .dead)) .dead) H1 f3 (by simp) (λb p=>p5 (a4 b p) c7);generalize e5:Al9 C m Y.hp Hc H1=H2 at h;have a6:H2.length=H1.length:=by rw[<-e5];exact l5
 have e4:∀b (p:b∈m),H2[b]? = some (cond (Fq C (Y.hp.getD b .dead)) (Jw (Hc.getD (I5 m b) .dead)) .dead):=λb p=>by
  rw[<-e5];simp only[Al9];rw[h5,ac p,aa4];have e:m.idxOf b=I5 m b:=rfl;rw[e,j2 (a3 b p).1,(a3 b p).2];rfl
 have b2:∀b,b∉m->H2[b]? = H1[b]?:=λb p=>by
  rw[<-e5];simp only[Al9];rw[h5,ae p]
 let Γf:Ctx:={ St:=Γ1.St,nm:=λb=>if b∈m then (if Fq C (Y.hp.getD b .dead)=true then Γ1.nm (I5 m b) else none) else Γb.nm b,yv:=Γ.yv,yv1:=Γ.yv1 }
 have b1:∀{b},b∈m->Fq C (Y.hp.getD b .dead)=true->Γf.nm b=Γ1.nm (I5 m b):=fun {b} h1 h2=>by simp only[Γf];rw[ac h1,ac h2]
 have f8:∀{b},b∈m->¬Fq C (Y.hp.getD b .dead)=true->Γf.nm b=none:=fun {b} h1 h2=>by simp only[Γf];rw[ac h1,ae h2]
 have a8:∀{b},b∉m->Γf.nm b=Γb.nm b:=fun {b} h1=>by simp only[Γf];rw[ae h1]
 have L:∀{b g},Γf.nm b=some g->(b∈m/\Γ1.nm (I5 m b)=some g)\/(b∉m/\Γb.nm b=some g):=fun {b g} h=>by
  by_cases p:b∈m
  ·by_cases hf:Fq C (Y.hp.getD b .dead)=true
   ·rw[b1 p hf] at h;exact .inl ⟨p,h⟩
   ·rw[f8 p hf] at h;cases h
  ·rw[a8 p] at h;exact .inr ⟨p,h⟩
 have g7:∀c,c∈m->A3 H1 c=some .dead:=λc u=>by
  obtain⟨_,k2,_⟩:=r1.pg.keep c (by rw[dl];exact a4 c u) (by rw[f7 c u];trivial);rw[k2];exact f7 c u
 have d6:∀b,b∉m->A3 H2 b=A3 H1 b:=λb p=>by simp only[A3,b2 b p]
 have Mf:Am { Γb with St:=Γ1.St } (A3 H1) w4 Γf (A3 H2) w4 (·∉m):=⟨λ_ _=>rfl,λ_ h=>h,λb p=>a8 p,d6,λ_ _ _ _=>rfl,(r1.pg.yv:Γb.yv=Γ.yv).symm⟩
 have i3:HR Γf H2 w4:=by
  refine⟨λb b' g h1 h2=>?_,λb g p=>?_,λg B=>by rw[a9];exact b3.stlt g B,λb p c u=>?_,λb p=>?_⟩
  ·rcases L h1 with⟨p1,F⟩|⟨p1,F⟩<;>rcases L h2 with⟨p2,q2⟩|⟨p2,q2⟩
   ·have:=b3.inj _ _ g F q2;have e1:=(a3 b p1).2;have e2:=(a3 b' p2).2;rw[<-e1,<-e2];simp only[this]
   ·exact absurd (inΦ (.inr (.inl ⟨b',q2⟩))) (b6 _ g F)
   ·exact absurd (inΦ (.inr (.inl ⟨b,F⟩))) (b6 _ g q2)
   ·exact r1.si.hr.inj b b' g F q2
  ·rcases L p with⟨p1,F⟩|⟨p1,F⟩
   ·have:=b3.lt _ g F;exact⟨by rw[a6];exact p5 (a4 b p1) c7,by rw[a9];exact this.2.1,this.2.2⟩
   ·have:=S5.hr.lt b g F;exact⟨by rw[a6];exact this.1,this.2⟩
  ·by_cases t:b∈m
   ·have e:=e4 b t;rw[j2 p] at e;simp only[j6] at e;rw[e] at u;cases hf:Fq C (Y.hp.getD b .dead) with
    | true=>rw[hf,aa,QW] at u;simp at u
    | false=>rw[hf] at u;simp[Blk.nms] at u
   ·have e:=b2 b t;have b4:b<H1.length:=by rw[<-a6];exact p
    rw[j2 p,j2 b4] at e;simp only[j6] at e;rw[e] at u;rw[a6];exact S5.hr.nms b b4 c u
  ·by_cases t:b∈m
   ·have e:=e4 b t;rw[j2 p] at e;simp only[j6] at e;rw[e];cases hf:Fq C (Y.hp.getD b .dead) with
    | true=>
     rw[aa];have hi:I5 m b<Hc.length:=p5 (a3 b t).1 d2;rw[Yk hi];refine Cq0 (b3.blk _ hi) (b1 t hf) (λg B=>h4 g ?_) (λ_ h=>h) (λg B=>h4 g ?_)
     ·intro e;rw[e] at B;exact(r1.ft _ (inΦ (.inr (.inr (.inl rfl))))).2 B
     ·intro e;rw[e] at B;exact b6 _ _ B (inΦ (.inr (.inr (.inl rfl))))
    | false=>trivial
   ·have e:=b2 b t;have b4:b<H1.length:=by rw[<-a6];exact p
    rw[j2 p,j2 b4] at e;simp only[j6] at e;rw[e];have hB:=S5.hr.blk b b4;exact hB.mono Mf (a8 t) (λ_ _=>rfl) (λc u c3=>hB.ndead c u (g7 c c3))
 have g1:SR Γf H2 w4 (M7 (m++Cr C Y.hp 0) Y.sl) a.tmps:=S5.sr.mono Mf (λc u=>⟨(a1 c u).1,by rw[a6];exact p5 (a1 c u).2.1 c7⟩);have SF:SI C I Γf Φb { sl:=M7 (m++Cr C Y.hp 0) Y.sl,hp:=H2,s:=s' } a.tmps w4:=⟨i3,g1,S5.g,S5.inv,λb g p=>by
  rcases L p with⟨_,F⟩|⟨_,F⟩
  ·exact λq=>b6 _ g F (inΦ (.inl q))
  ·exact S5.dis b g F⟩
 have l8:=hs.size;have f5:Stp C Γ Y.hp w Z Γf H2 w4 Φb:=by
  refine⟨O.os.trans (hs.os.trans ho.1),O.tape.trans (hs.tape.trans ho.2.1),O.output.trans (hs.output.trans ho.2.2),by omega,λg B=>hs.sub g B,λg B=>?_,λb g p=>?_,λg B=>?_,λg B hn hp=>?_,rfl,by rw[a6];exact c7,λb p hf=>?_⟩
  ·rcases hs.stnew g B with q|q
   ·exact .inl q
   ·exact .inr (by omega)
  ·rcases L p with⟨p1,F⟩|⟨p1,F⟩
   ·rcases hs.own _ g F with⟨_,q⟩|q
    ·obtain⟨i1,i2⟩:=a7 q;rw[(a3 b p1).2] at i2;exact .inl ⟨a4 b p1,i2⟩
    ·exact .inr (by omega)
   ·rcases r1.pg.own b g F with⟨q,q'⟩|q
    ·exact .inl ⟨by rw[<-dl];exact q,(M q').2⟩
    ·exact .inr (by omega)
  ·rcases r1.pg.foot g B with q|q
   ·exact .inl q
   ·exact .inr (by omega)
  ·have np:¬ Φc g:=by
    rintro(q|⟨b,q⟩|q|q)
    ·exact hp q
    ·exact hn b (M q).2
    ·omega
    ·have:=(hD g q).1;omega
   rw[h4 g (by omega),hs.frame g (by omega) (λb q=>by obtain⟨_,i2⟩:=a7 q;exact hn _ i2) np,a5 g B]
  ·by_cases t:b∈m
   ·have g3:=(LN (C:=C) (H:=Y.hp) p).2 hf;obtain⟨F,q2⟩:=a3 b t;have hi:I5 m b<(P9 Y.hp m).length:=by rw[f2];exact F
    have g8:A3 (P9 Y.hp m) (I5 m b)=A3 Y.hp b:=by rw[Mh a4 F,q2]
    obtain⟨k1,k2,k3⟩:=hs.keep _ hi (by show Je C (A3 (P9 Y.hp m) _);rw[g8];exact hf);have k2:A3 Hc (I5 m b)=A3 (P9 Y.hp m) (I5 m b):=k2;have d5:((Γ.lent m).reyv y b0).nm (I5 m b)=Γ.nm b:=Ta t;refine⟨(b1 t g3).trans (k1.trans d5),?_,λg B=>?_⟩
    ·have b7:I5 m b<Hc.length:=p5 F d2;simp only[A3,e4 b t,g3,aa,ab6,QX,Yk b7];show some (Hc[I5 m b]).shp=A3 Y.hp b;rw[<-g8,<-k2];simp only[A3,j2 b7,ab6]
    ·have e1:=k3 g (d5.trans B);have e9:=S.hr.lt b g B;rw[F3 (h4 g (by omega)),e1,F3 (a5 g e9.2.1)]
   ·obtain⟨k1,k2,k3⟩:=r1.pg.keep b (by rw[dl];exact p) (by rw[b9 b t];exact hf);have hh:(Γ.hide m).nm b=Γ.nm b:=by simp only[Ctx.hide];rw[ae t]
    refine⟨(a8 t).trans (k1.trans hh),by rw[d6 b t,k2,b9 b t],λg B=>?_⟩;have e9:=S.hr.lt b g B;rw[F3 (h4 g (by omega)),k3 g (hh.trans B),F3 (a5 g e9.2.1)]
 have i4:Mk n0 Γf Φb w4 (D.toList.map mkD++a.defers):=by
  obtain⟨m0,Ds,m1,m2,m3⟩:=hM;refine⟨by omega,D.toList++Ds,by rw[m1,ab5],?_,λd hd=>?_⟩
  ·cases D with
   | none=>exact m2
   | some d=>exact af5.2 ⟨λg6=>by have:=(m3 _ g6).2.1.1;have:=(hD d rfl).1;omega,m2⟩
  ·rcases s8.1 hd with hd|hd
   ·have e:D=some d:=by
     cases D with
     | none=>simp at hd
     | some d'=>simp at hd;rw[hd]
    refine⟨Nat.le_trans m0 (hD d e).1,⟨by rw[a9];exact(r1.od d e).1,(r1.ft _ (inΦ (.inr (.inr (.inr e))))).2,λb q=>?_,(r1.od d e).2.2.2⟩,by rw[h4 _ (hD d e).2.2.1];exact r1.hd d e⟩;rcases L q with⟨_,F⟩|⟨_,F⟩
    ·exact b6 _ _ F (inΦ (.inr (.inr (.inr e))))
    ·exact(r1.od d e).2.2.1 b F
   ·obtain⟨k1,k2,k3⟩:=m3 d hd;obtain⟨F,q2⟩:=k2.step f5;exact⟨k1,F,q2.trans k3⟩
 have c0:=hP (a2.getD .normal) { sl:=M7 (m++Cr C Y.hp 0) Y.sl,hp:=H2,s:=s' } { a with defers:=D.toList.map mkD++a.defers } w4 Γf Φb h f5 SF i4;refine⟨a2.map jmp,w4,d3,?_⟩;cases a2 with
 | none=>exact c0
 | some o=>
  cases o with
  | normal=>exact wpIn_skip c0
  | exit id=>exact wpIn_exit c0
  | ret=>exact wpIn_ret c0
def FU{n:Array Tmp}{d:List PV}{g c:Code}:∀(L:List (List PV)) (H:List Blk) (s:X) {k:Option Out->List Blk->X->Option R},U4 n d (λY k=>A9 C W J g Y k) (λY k=>A9 C W J c Y k) L H s k=some r->
  ∃H' b f,T3 (Li n d (λY k=>A9 C W J g Y k) (λY k=>A9 C W J c Y k)) L (H,none,s)=some (H',b,f)/\k b H' f=some r
 | [],H,s,k,h=>⟨H,none,s,rfl,h⟩
 | x::xs,H,s,k,h=>by
  simp only[U4] at h;split at h
  case isFalse=>cases h
  rename_i v;obtain⟨o,y,p,i⟩:=LM h;cases o with
  | exit id=>cases i
  | ret=>cases i
  | normal=>
  obtain⟨m,e,q,j⟩:=LM i;have l:Li n d (λY k=>A9 C W J g Y k) (λY k=>A9 C W J c Y k) x (H,none,s)=some ((Et m).isNone,((X4 H.length e).hp,Et m,e.s)):=by
   simp only[Li];rw[ac v,RP p];dsimp only;rw[RP q]
  cases m with
  | normal=>
   obtain⟨H',b,f,t,u⟩:=FU xs _ _ j;refine⟨H',b,f,?_,u⟩;simp only[T3,l];exact t
  | exit id=>exact⟨_,_,_,by simp only[T3,l];rfl,j⟩
  | ret=>exact⟨_,_,_,by simp only[T3,l];rfl,j⟩
def Cd5{ro:Option Nat}{n n0:Nat}{g:Operand}{G:Array Tmp}{q i:Code}{k:Out->St X->Option R}{Q:Exit->Act->World->Prop}(A:Ask C I W J K)(z:Γ.yv=K)(t:WP C I W J K q)(u:WP C I W J K i)
  (h:Wn C W (opnd C Y.sl g) Y (λp=>Li G p (λY k=>A9 C W J q Y k) (λY k=>A9 C W J i Y k)) (λp=>U4 G p (λY k=>A9 C W J q Y k) (λY k=>A9 C W J i Y k)) k=some r) (S:SI C I Γ Z Y a.tmps w) (P:Mk n0 Γ Z w a.defers) (V:Ro ro Γ Z w) (U:Da0 C I n0 Γ Z Y.hp w k r Q) :
  (af6 g G q i).wpIn (I4 ro) n C.P Q a w:=by
 have hvn:=(S.opnd g).2;have hv:=(S.opnd g).1;unfold Wn at h;split at h
 case h_2=>cases h
 rename_i f first d o;obtain⟨FA,FB,a0,a1,a2,O⟩:=Uj o hv;have y:=FT Y.hp (D1 (first++d));have m:=TP Y.hp (D1 (first++d));have v:∀b∈Dw Y.hp (D1 (first++d)),b<Y.hp.length:=TO Y.hp (D1 (first++d)) (· < Y.hp.length) (λb D c F=>by
  have e:Y.hp.getD b .dead=Y.hp[b]:=by rw[o5,j2 D];rfl
  rw[e] at F;exact S.hr.nms b D c F) (λc F=>hvn c (O c F))
 generalize Dw Y.hp (D1 (first++d))=l at *;split at h
 ·rename_i pf hS;unfold Bg3 at h;split at h
  case isFalse=>cases h
  rename_i j;rw[o0] at j;split at h
  case h_2=>cases h
  rename_i cL L hL;obtain⟨rfl,h⟩:=C9 h;obtain⟨H',B,s',h1,h2⟩:=FU L _ _ h;refine NO A A.hX.s z t u o y m v ?_ S P V U;unfold Zp;rw[ac j.1];have M:(l.map λb=>(Y.hp.getD b .dead).rn (I5 l)).all ME=true:=by
   rw[ag8,v7];intro b D;have:=v7.1 j.2 b D;simp only[Function.comp];generalize Y.hp.getD b .dead=x at this;cases x<;>simp_all [ME,Blk.rn]
  have e:clS C (List Blk × Option Out × X) (Li G (M7 (l++Cr C Y.hp 0) Y.sl) (λY k=>A9 C W J q Y k) (λY k=>A9 C W J i Y k)) f (rnL (I5 l) first++PV.yd::rnL (I5 l) d) (l.map λb=>(Y.hp.getD b .dead).rn (I5 l)) (P0 l Y.hp,none,Y.s)=some (.tup [],(l.map λb=>(Y.hp.getD b .dead).rn (I5 l)).map Jw,(H',B,s')):=by
   simp only[clS,hS];rw[ac M,hL];simp only[h1]
  rw[e];exact h2
 ·exact NO A A.hC z t u o y m v h S P V U
end
section
variable {J R : Type} {r : R} {C : Cfg} {I : J -> (Nat -> Prop) -> (Nat -> Prop) -> World -> Prop} {Y : Ctx} {W : Nat -> Prop} {L : St J} {a : Act} {w : World} {Z : G4} {U : Yh J} {K : Value} {o : Oper} {H : List Blk}
def B66(A:Ask C I Z U K)(hm:C.P.follows .mixedOrders=true):∀(c:Code) {ro:Option Nat} {n n0:Nat} {rf:Bool} {R:Type} {r:R} {Y:Ctx} {W:Nat->Prop} {L:St J} {a:Act} {w:World} {k:Out->St J->Option R} {Q:Exit->Act->World->Prop},
  V6 C rf c=true->Y.yv=K->A9 C Z U c L k=some r->SI C I Y W L a.tmps w->Mk n0 Y W w a.defers->Ro ro Y W w->Da0 C I n0 Y W L.hp w k r Q->c.wpIn (I4 ro) n C.P Q a w:=by
 intro c
 induction c with
 | skip=>intro ro n n0 rf R r Y W L a w k Q b f h S z G q;exact wpIn_skip (q .normal L a w Y W h (Stp.refl S.hr) S z)
 | label l=>intro ro n n0 rf R r Y W L a w k Q b f h S z G q;exact wpIn_label (q .normal L a w Y W h (Stp.refl S.hr) S z)
 | region id T d=>
  intro ro n n0 rf R r Y W L a w k Q b f h S z G q;cases d with
  | false=>
   have h:Gg C Z U T T.toList L (λp=>k .normal (Yj (C.keepR id) L.hp.length p))=some r:=by
    simp only[A9,Bh1] at h;split at h
    ·exact h
    ·cases h
   refine wpIn_region_list (Ac8 A T.toList f h S ?_);intro p F w' Γ' i v u B D;obtain⟨N,V,M⟩:=Ue A.hI B u (C.keepR id) (p6 _);exact q .normal _ F w' N i v M V (by rw[D];exact z.step M)
  | true=>
   simp only[V6,Bool.not_true,Bool.false_or] at b;refine Dk6 A hm b f h S ?_;intro p F w' Γ' i v u B D;obtain⟨N,V,M⟩:=Ue A.hI B u (C.keepR id) (p6 _);exact q .normal _ F w' N i v M V (by rw[D];exact z.step M)
 | seq x y O P=>
  intro ro n n0 rf R r Y W L a w k Q b f h S z G q;simp only[V6,o0] at b;refine wpIn_seq (O b.1 f h S z G ?_);intro o p F w' Γ' i v u B D;cases o with
  | normal=>exact P b.2 (u.yv.trans f) v B D (G.step u) λo2 a3 a2 w2 N Φ2 k1 k2 k3 k4=>q o2 a3 a2 w2 N Φ2 k1 (u.trans k2) k3 k4
  | exit id=>exact q (.exit id) p F w' Γ' i v u B D
  | ret=>exact q .ret p F w' Γ' i v u B D
 | cond c x y O P=>
  intro ro n n0 rf R r Y W L a w k Q b f h S z G q;simp only[V6,o0] at b;simp only[A9] at h;split at h
  ·rename_i t hc;have hv:=(S.opnd c).1;rw[hc] at hv;have hb:=hv.inv_bool;cases t with
   | true=>exact wpIn_cond hb (O b.1 f h S z G q)
   | false=>exact wpIn_cond hb (P b.2 f h S z G q)
  ·cases h
 | block id x ih=>
  intro ro n n0 rf R r Y W L a w k Q b f h S z G q;refine wpIn_block (ih b f h S z G ?_);intro o p F w' Γ' i v u B D;cases o with
  | normal=>exact q .normal p F w' Γ' i v u B D
  | exit j=>
   simp only[Out.exit',Exit.inBlock];dsimp only at v;split at v
   ·rename_i e;rw[ac e];exact q .normal p F w' Γ' i v u B D
   ·rename_i e;rw[ae e];exact q (.exit j) p F w' Γ' i v u B D
  | ret=>exact q .ret p F w' Γ' i v u B D
 | loop x ih=>
  intro ro n n0 rf R r Y W L a w k Q b f h S z G q;simp only[A9] at h;refine Br9 (λm F w'=>∃p Γ' i,E0 L.hp.length (C.keep (Ap5 x)) (λL k=>A9 C Z U x L k) m p k=some r/\Stp C Y L.hp w W Γ' p.hp w' i/\SI C I Γ' i p F.tmps w'/\Mk n0 Γ' i w' F.defers) C.lf ⟨_,Y,W,h,by rw[Ia];exact Stp.refl S.hr,Hz S _,z⟩ ?_;rintro m a1 w1 ⟨a4,Γ1,Φ1,v,u,B,D⟩;cases m with
  | zero=>simp[E0] at v
  | succ m=>
   simp only[E0] at v;refine ih b (u.yv.trans f) v B D (G.step u) ?_;intro o p F w' Γ' i k1 k2 k3 k4;cases o with
   | normal=>
    obtain⟨N,V,M,X⟩:=Az2 A.hI k3 (u.trans k2);have a0:=Mk.sub k4 X;exact⟨m,Nat.lt_succ_self m,_,N,i,k1,by rw[Ia];exact M,Hz V _,a0⟩
   | exit j=>exact q (.exit j) _ F w' Γ' i k1 (by rw[Ia];exact u.trans k2) (Hz k3 _) k4
   | ret=>exact q .ret _ F w' Γ' i k1 (by rw[Ia];exact u.trans k2) (Hz k3 _) k4
 | exit id=>intro ro n n0 rf R r Y W L a w k Q b f h S z G q;exact wpIn_exit (q (.exit id) _ a w Y W h (by rw[Ia];exact Stp.refl S.hr) (Hz S _) z)
 | ret=>intro ro n n0 rf R r Y W L a w k Q b f h S z G q;exact wpIn_ret (q .ret _ a w Y W h (by rw[Ia];exact Stp.refl S.hr) (Hz S _) z)
 | scope x ih=>
  intro ro n n0 rf R r Y W L a w k Q b f h S z G q;refine A02 (ih (Q:=λe a w=>(∀l,e≠.goto l)/\Q e a w) b f h S z G ?_);intro o p F w' Γ' i v u B D;exact⟨λl=>by cases o<;>simp[Out.exit'],q o p F w' Γ' i v u B D⟩
 | rangeFunc g ps x y O P=>
  intro ro n n0 rf R r Y W L a w k Q b f h S z G q;simp only[V6,o0] at b;obtain⟨hx,hy⟩:=b;simp only[A9] at h;exact Cd5 A f (fun {R r ro n n0 Y W L a w k Q} v u B D h6 h5=>O hx v u B D h6 h5) (fun {R r ro n n0 Y W L a w k Q} v u B D h6 h5=>P hy v u B D h6 h5) h S z G q
 | _=>intro ro n n0 rf R r Y W L a w k Q b f h S z G q;simp[A9] at h
end
section
variable {J R : Type} {r : R} {C : Cfg} {I : J -> (Nat -> Prop) -> (Nat -> Prop) -> World -> Prop} {L : Ctx} {W : Nat -> Prop} {Y : St J} {a : Act} {w : World} {O : G4} {K : Yh J} {Z : Value} {o : Oper} {H : List Blk}
def DY(b:Array Value):ResultVar->Sem Value
 | .tmp t=>pure (b.getD t undef)
 | .cell a t=>do loadVar t (<-asAddr (b.getD a undef))
def Bi1(fn:Func)(b:Array Value):results fn b=(fn.results.toList.mapM (DY b) >>= λl=>pure (if h:l.length=1 then l[0] else .tuple l.toArray)):=by
 unfold results;have:∀(c:Array ResultVar),(c.mapM (DY b) >>= λd=>(pure (if h:d.size=1 then d[0] else .tuple d):Sem Value))=(c.toList.mapM (DY b) >>= λl=>pure (if h:l.length=1 then l[0] else .tuple l.toArray)):=by
  intro c;rw[Array.mapM_eq_mapM_toList,map_eq_pure_bind,bind_assoc]
  congr 1
 exact this fn.results
def RV(S:SR L H w Y.sl a.tmps)(t:Nat):VP L (A3 H) w (Y.sl.getD t (.tup [])) (a.tmps.getD t undef)/\∀c∈(Y.sl.getD t (.tup [])).nms,c<H.length:=by
 by_cases h:t<Y.sl.length
 ·obtain⟨V,e,k⟩:=S.slot t h;have g:∀c∈(Y.sl[t]).nms,c<H.length:=λc f=>S.nms c (C8.2 ⟨t,h,f⟩)
  simp_all
 ·have b:Y.sl.getD t (.tup []) = .tup []:=by rw[o5,p7 (ac9 h)];rfl
  have d:a.tmps.getD t undef=undef:=by rw[Array.getD_eq_getD_getElem?,ad0 (by rw[S.size];exact ac9 h)];rfl
  rw[b,d];exact⟨Ak,by simp[PV.nms,D1]⟩
def LR(L:Ctx)(sh:Nat->Option Shp)(w:World):List PV->List Value->Prop
 | [],[]=>True
 | v::r,V::q=>VP L sh w v V/\LR L sh w r q
 | _,_=>False
def LR.len{sh:Nat->Option Shp}:∀{l:List PV} {A:List Value},LR L sh w l A->A.length=l.length
 | [],[],_=>rfl
 | v::r,V::q,h=>by simp[LR.len h.2]
 | [],_::_,h=>h.elim
 | _::_,[],h=>h.elim
def LR.CR{sh:Nat->Option Shp}:∀{l:List PV} {A:List Value},LR L sh w l A->∀j (h:j<l.length),∃U,A[j]? = some U/\VP L sh w (l[j]) U
 | [],[],_,j,h=>by simp at h
 | v::r,V::q,h,0,_=>⟨V,rfl,h.1⟩
 | v::r,V::q,h,j+1,hj=>by
  obtain⟨U,e,k⟩:=LR.CR h.2 j (by simpa using hj);grind
 | [],_::_,h,_,_=>h.elim
 | _::_,[],h,_,_=>h.elim
def Dg9{t:TypeId}{A V:Value}{w':World}(h:(ag7 t A).run C.P w' = .ok V w'):(do loadVar t (<-asAddr A):Sem Value).run C.P w' = .ok V w':=by
 simp only[ag7] at h;unfold Instr.sureAddr at h;split at h
 ·exact h
 simp_all
def Wo(j:HR L H w)(S:SR L H w Y.sl a.tmps):∀(n:List ResultVar) {k:List PV->Option R},GM C Y.sl H n k=some r->
  ∃e d,k e=some r/\(n.mapM (DY a.tmps)).run C.P w = .ok d w/\LR L (A3 H) w e d/\∀c∈D1 e,c<H.length
 | [],k,h=>⟨[],[],h,by simp,trivial,by simp[D1]⟩
 | .tmp t::b,k,h=>by
  simp only[GM] at h;obtain⟨e,d,g,m,i,q⟩:=Wo j S b h;obtain⟨f,p⟩:=RV S t;refine⟨_,a.tmps.getD t undef::d,g,?_,⟨f,i⟩,λc l=>?_⟩
  ·rw[af9];simp only[DY,ae5,Sem.run_pure,ad9,m]
  ·simp only[D1,s8] at l;grind
 | .cell x t::b,k,h=>by
  simp only[GM] at h;obtain⟨f,p⟩:=RV S x;obtain⟨v,u,A,V,z,y⟩:=FJ j h f;obtain⟨e,d,g,m,i,q⟩:=Wo j S b u;refine⟨_,V::d,g,?_,⟨z,i⟩,λc l=>?_⟩
  ·rw[af9];have:=Dg9 (y w (Ext.refl w));rw[show DY a.tmps (.cell x t)=(do loadVar t (<-asAddr (a.tmps.getD x undef)):Sem Value) from rfl];rw[ae5,this];simp_all
  ·simp only[D1,s8] at l;grind
def As8{b:List PV}{c:Nat}(h:c∈(Df b).nms):c∈D1 b:=by
 unfold Df at h;split at h
 ·simp[D1,h]
 ·exact h
def Di6{f:List PV}{b:List Value}(h:LR L (A3 H) w f b):VP L (A3 H) w (Df f) (if h:b.length=1 then b[0] else .tuple b.toArray):=by
 have c:=h.len;unfold Df;split
 ·rename_i v;cases b with
  | nil=>simp at c
  | cons V q=>
   cases q with
   | nil=>exact h.1
   | cons _ _=>simp at c
 ·rename_i d;have:b.length≠1:=by
   intro e;rw[e] at c
   match f,c with
   | [v],_=>exact d v rfl
  rw[dif_neg this];refine VP.mk_tup (by simpa using c) λj g=>?_
  obtain⟨U,e,k⟩:=h.CR j g;grind
def Lo(C:Cfg):Prop:=∀ f fn c,C.okf f=true->C.P.funcs[f]? = some fn->fn.body=some c->Cq8 C c=true/\(fn.name == "runtime.NumGoroutine")=false
def Qz{f:Nat}{fn:Func}{c:Code}{d:Array Value}(g:C.P.funcs[f]? = some fn)(e:fn.body=some c)(h:(fn.name == "runtime.NumGoroutine")=false):(callFunc f d).run C.P w = .ok (.enter f d) w:=by
 have b:¬ fn.name = "runtime.NumGoroutine":=by simpa using h
 simp[callFunc,g,e,b,ad9]
def Da6{args:List PV}{d:Array Value}{n:Nat}(e:CR L (A3 H) w args d)(i:∀c∈D1 args,c<H.length) :
  SR L H w (args++j5 (n-args.length) (.tup [])) (d++ab2 (n-d.size) undef):=by
 have h:CR L (A3 H) w (j5 (n-args.length) (.tup [])) (ab2 (n-d.size) undef):=⟨by simp[e.1],λj f=>by
  simp only[List.length_replicate] at f;refine⟨undef,by rw[e.1];simp[f],?_⟩;simp only[List.getElem_replicate];exact Ak⟩
 have g:=e.append h;refine⟨g.1,λc b=>?_,g.2⟩;rw[P4,s8] at b;rcases b with b|b
 ·exact i c b
 ·obtain⟨j,f,b⟩:=C8.1 b;simp[PV.nms,D1] at b
def Stp.put{Γ0 Γ':Ctx}{H0 H':List Blk}{w0 w':World}{Φ0 Φ':Nat->Prop}{D:Nat}{ob:Obj}(h:Stp C Γ0 H0 w0 Φ0 Γ' H' w' Φ')(hD:w0.heap.size<=D)(hO:Off Γ' Φ' w' D):Stp C Γ0 H0 w0 Φ0 Γ' H' (w'.putObj D ob) Φ':=by
 refine⟨h.os,h.tape,h.output,by rw[World.putObj_size];exact h.size,h.sub,h.stnew,h.own,h.foot,λg hg hn hp=>?_,h.yv,h.len,λb hb hf=>?_⟩
 ·rw[x7 (by omega)];exact h.frame g hg hn hp
 ·obtain⟨k1,k2,k3⟩:=h.keep b hb hf;refine⟨k1,k2,λg hg=>?_⟩;rw[<-k3 g hg];refine F3 (x7 ?_);rintro rfl;exact hO.2.2.1 b (k1.trans hg)
def By8{F:Fence}{n:Nat}{fn:Func}{l:Ending->World->Prop}{f Γ':Ctx}{k:List Blk}{j:World}{g c:Nat->Prop}{d:St J}{b:Array Value}(q:HI I)
  (t:∀w',SI C I Γ' c d b w'->Stp C f k j g Γ' d.hp w' c->∃V,(results fn b).run C.P w' = .ok V w'/\l (.returned V) w') :
  ∀(e:List Nat) (w:World),e.Nodup->(∀D∈e,j.heap.size<=D/\Off Γ' c w D/\w.heap[D]? = some (.deferred (some [])))->SI C I Γ' c d b w->Stp C f k j g Γ' d.hp w c->LeavesInM F n C.P fn b l (e.map mkD) .returning w
 | [],w,_,_,S,h=>t w S h
 | D::e,w,y,p,S,h=>by
  obtain⟨u,m,v⟩:=p D (by simp);refine⟨by simp,.inl ⟨D,w.putObj D (.deferred none),rfl,run_takeDeferred v,?_⟩⟩;have i:=af5.1 y;refine By8 q t e _ i.2 (λE x=>?_) (S.offW q (Xb.put m)) (h.put u m);obtain⟨z,A,B⟩:=p E (by simp[x]);refine⟨z,A.put,(x7 ?_).trans B⟩;grind
def Lz(hX:XOK C)(hO:Lo C)(hm:C.P.follows .mixedOrders=true):∀d,Cw C (evC C d)
 | 0=>λJ I K Z D hy g args H s ret j k h=>by simp[evC] at h
 | d+1=>λJ I K Z D hy g args H s ret j k h L W w u S hH hg hi A G hn=>by
  have ih:=Lz hX hO hm d;simp only[evC] at h;split at h
  ·rename_i fn P M;split at h
   ·rename_i c F;obtain⟨m,p⟩:=hO g fn c P M F;intro ro n o a next Q N
    rw[Qz M F p];simp only[ac2];refine⟨λh=>(by simp[I4,ab8] at h),?_⟩;have key:CallsIn ab8 (n-1) C.P g u w λe i=>∃V,e = .returned V/\Bx C I L H w W ret j k V i:=by
     refine callsIn_of_wp_marks M F trivial ?_;have S0:SI C I L W { sl:=args++j5 (fn.ntmps-args.length) (.tup []),hp:=H,s:=s } (u++ab2 (fn.ntmps-u.size) undef) w:=⟨hH,Da6 G hn,hg,hi,A⟩
     refine B66 (ro:=none) (rf:=true) (n:=n-1) (n0:=w.heap.size) (a:={ tmps:=u++ab2 (fn.ntmps-u.size) undef,defers:=[] }) ⟨D,ih,hX,hy⟩ hm c m S h S0 (Mk.nil (p6 _)) Ro.none ?_;intro o f y w' Γ' t T U q ⟨_,Ds,k4,k5,k6⟩
     suffices z:∀w',SI C I Γ' t f y.tmps w'->Stp C L H w W Γ' f.hp w' t->GM C f.sl f.hp fn.results.toList (λv=>some (Df v,f.hp,f.s))=some (ret,j,k)->∃V,(results fn y.tmps).run C.P w' = .ok V w'/\∃x,af3 V = .returned x/\Bx C I L H w W ret j k x w' by
      have l:GM C f.sl f.hp fn.results.toList (λv=>some (Df v,f.hp,f.s))=some (ret,j,k)->LeavesInM (I4 none) (n-1) C.P fn y.tmps (λe i=>∃V,e = .returned V/\Bx C I L H w W ret j k V i) y.defers .returning w':=λh=>by
       rw[k4];exact By8 D (λw' a b=>z w' a b h) Ds w' k5 k6 q U
      cases o with
      | normal=>exact l T
      | ret=>exact l T
      | exit id=>cases T
     intro w' q U;have z:∀(h:GM C f.sl f.hp fn.results.toList (λv=>some (Df v,f.hp,f.s))=some (ret,j,k)),∃V,(results fn y.tmps).run C.P w' = .ok V w'/\∃x,af3 V = .returned x/\Bx C I L H w W ret j k x w':=λh=>by
      obtain⟨v,Us,X,h2,h3,h4⟩:=Wo q.hr q.sr _ h;simp only[j6,p4] at X;obtain⟨rfl,rfl,rfl⟩:=X;refine⟨_,?_,_,rfl,Γ',t,U,q.hr,Di6 h3,λc G=>h4 c (As8 G),q.inv,q.dis⟩;rw[Bi1,ae5,h2];rfl
     omega
    have B:CallsIn (I4 ro) (n-1) C.P g u w λe i=>∃V,e = .returned V/\Bx C I L H w W ret j k V i:=key
    refine B.mono ?_;grind
   ·cases h
  ·cases h
end
end
section
open Go Go.ChangeShapes Go.RowKit Go.WideShapes
inductive Ty where
 | bool
 | int (k:IntKind)
 | str
 | slice (e:List Ty)
 deriving Inhabited
def C36(P:Program)(f:Nat->Option (List Ty)):List Field->Nat->Option (List Ty)
 | [],_=>some []
 | x::r,off=>if x.offset==off then match f x.type with
   | some a=>if P.cellsOf x.type==a.length then match C36 P f r (off+a.length) with
    | some b=>some (a++b)
    | none=>none else none
   | none=>none else none
def My(P:Program):Nat->Nat->Option (List Ty)
 | 0,_=>none
 | d+1,t=>match P.underlying t with
  | some .bool=>some [.bool]
  | some (.int k)=>some [.int k]
  | some .string=>some [.str]
  | some (.slice e)=>match My P d e with
   | some a=>if P.cellsOf e==a.length&&decide (0<a.length) then some [.slice a] else none
   | none=>none
  | some (.struct b)=>match C36 P (My P d) b.toList 0 with
   | some r=>if P.cellsOf t==r.length then some r else none
   | none=>none
  | some (.array n e)=>match My P d e with
   | some a=>if P.cellsOf e==a.length&&P.cellsOf t==n*a.length then some (j5 n a).flatten else none
   | none=>none
  | _=>none
mutual
def Ty.of:Ty->SV->Prop
 | .bool,v=>∃b,v = .bool b
 | .int k,v=>∃n,v = .int k n/\k.min<=n/\n<=k.max
 | .str,v=>∃l,v = .str l/\l.length<=maxLen
 | .slice e,v=>v = .sl true false e.length []\/∃els,v = .sl false false e.length els/\els.length<=maxLen/\∀el∈els,Ty.ofL e el
def Ty.ofL:List Ty->List SV->Prop
 | [],l=>l=[]
 | t::r,l=>∃v q,l=v::q/\t.of v/\Ty.ofL r q
end
def Ty.ofL_len:∀{ts:List Ty} {l:List SV},Ty.ofL ts l->l.length=ts.length
 | [],l,h=>by simp only[Ty.ofL] at h;subst h;rfl
 | t::r,l,h=>by
  simp only[Ty.ofL] at h;obtain⟨v,q,rfl,_,hq⟩:=h;simp[Ty.ofL_len hq]
def Ty.ofL_append:∀{a b:List Ty} {x y:List SV},Ty.ofL a x->Ty.ofL b y->Ty.ofL (a++b) (x++y)
 | [],b,x,y,h,k=>by simp only[Ty.ofL] at h;subst h;exact k
 | t::r,b,x,y,h,k=>by
  simp only[Ty.ofL] at h;obtain⟨v,q,rfl,hv,hq⟩:=h;simp only[ac6,Ty.ofL];exact⟨v,q++y,rfl,hv,Ty.ofL_append hq k⟩
def CVS(St:Nat->Prop)(w:World)(l:List SV)(A:List Value):Prop:=A.length=l.length/\∀j (h:j<l.length),∃U,A[j]? = some U/\VS St w (l[j]) U
def CVS.append{St:Nat->Prop}{w:World}{x y:List SV}{X Y:List Value}(hx:CVS St w x X)(hy:CVS St w y Y):CVS St w (x++y) (X++Y):=by
 refine⟨by simp[hx.1,hy.1],λj hj=>?_⟩;by_cases h:j<x.length
 ·obtain⟨U,e,k⟩:=hx.2 j h;exact⟨U,by rw[List.getElem?_append_left (by rw[hx.1];exact h)];exact e,by rw[ac3 h];exact k⟩
 ·obtain⟨U,e,k⟩:=hy.2 (j-x.length) (by simp at hj;omega);exact⟨U,by rw[List.getElem?_append_right (by rw[hx.1];omega),hx.1];exact e,by rw[List.getElem_append_right (by omega)];exact k⟩
def CVS.one{St:Nat->Prop}{w:World}{v:SV}{V:Value}(h:VS St w v V):CVS St w [v] [V]:=⟨rfl,λj hj=>by
 have:j=0:=by simpa using hj
 subst this;exact⟨V,rfl,h⟩⟩
def Ch5{w:World}{a:Addr}{V:Value}(h:w.cell? a=some V):a.spot=none/\a.block<w.heap.size:=by
 unfold ai3 at h;split at h
 ·rename_i c t e b;refine⟨?_,(w6.1 b).1⟩;cases d:a.spot with
  | none=>rfl
  | some x=>rw[d] at h;simp at h
 ·cases h
def Ak7{a:Addr}(h:a.spot=none)(n:Nat):a.add n=⟨a.block,a.off+n,none⟩:=by
 unfold Addr.add;split
 ·rename_i b;subst b;cases a;simp_all
 ·rfl
def Da3{a:Addr}{m n:Nat}(h:a.spot=none):(a.add m).add n=⟨a.block,a.off+m+n,none⟩:=by rw[Ak7 h,Ak7 rfl]
def UI{H:Type}{enc:TypeId × Value->H}{P:Program}{w:World}{base:Nat}{sp:Nat->Bool}{held:Bool}{f:Nat->Option (List Ty)}{m:Nat}
  (q:∀t c g x,f t=some c->z7 enc P w base sp held m t g=some x->∃d,Ty.ofL c d/\CVS (· < w.heap.size) w d g) (g:List Value) :
  ∀(n:List Field) (off:Nat) (c:List Ty),C36 P f n off=some c->(∀(i:Nat) (fl:Field),n[i]? = some fl->∃y,z7 enc P w base sp held m fl.type ((g.drop fl.offset).take (P.cellsOf fl.type))=some y)->
   ∃d,Ty.ofL c d/\CVS (· < w.heap.size) w d ((g.drop off).take c.length)
 | [],off,c,h,_=>by
  simp only[C36,j6] at h;subst h;exact⟨[],rfl,by simp,λj F=>by simp at F⟩
 | x::r,off,c,h,k=>by
  simp only[C36] at h;split at h
  ·rename_i l;simp only[beq_iff_eq] at l;split at h
   ·rename_i a B;split at h
    ·rename_i o;simp only[beq_iff_eq] at o;split at h
     ·rename_i b C;simp only[j6] at h;subst h;obtain⟨y,p⟩:=k 0 x rfl;rw[l,o] at p;obtain⟨G,u,v⟩:=q _ _ _ _ B p;obtain⟨I,z,A⟩:=UI q g r _ b C (λi fl D=>k (i+1) fl (by simpa using D));refine⟨G++I,Ty.ofL_append u z,?_⟩;have:=v.append A;have e:(g.drop off).take (a++b).length=(g.drop off).take a.length++(g.drop (off+a.length)).take b.length:=by
       rw[ae2,ag5,af7]
      rw[e];exact this
     ·cases h
    ·cases h
   ·cases h
  ·cases h
def Al0{H:Type}{enc:TypeId × Value->H}{P:Program}{w:World}{base:Nat}{sp:Nat->Bool}{held:Bool}{e m:Nat}{a:List Ty}(c:List Value)
  (g:∀c x,z7 enc P w base sp held m e c=some x->∃b,Ty.ofL a b/\CVS (· < w.heap.size) w b c) (f:P.cellsOf e=a.length) :
  ∀(n k:Nat),(∀i,k<=i->i<k+n->∃y,z7 enc P w base sp held m e ((c.drop (i*P.cellsOf e)).take (P.cellsOf e))=some y)->
   ∃b,Ty.ofL (j5 n a).flatten b/\CVS (· < w.heap.size) w b ((c.drop (k*a.length)).take (n*a.length))
 | 0,k,_=>⟨[],by simp[Ty.ofL],by simp,λj r=>by simp at r⟩
 | n+1,k,hall=>by
  obtain⟨y,t⟩:=hall k (p6 _) (by omega);obtain⟨u,h,d⟩:=g _ _ t;obtain⟨v,l,o⟩:=Al0 c g f n (k+1) (λi p q=>hall i (by omega) (by omega));rw[f] at d;refine⟨u++v,?_,?_⟩
  ·rw[List.replicate_succ,List.flatten_cons];exact Ty.ofL_append h l
  ·have:=d.append o;have e:(c.drop (k*a.length)).take ((n+1)*a.length)=(c.drop (k*a.length)).take a.length++(c.drop ((k+1)*a.length)).take (n*a.length):=by
    rw[show(n+1)*a.length=a.length+n*a.length by rw[Nat.add_mul,Nat.one_mul,ah0],ag5,af7,show k*a.length+a.length=(k+1)*a.length by rw[Nat.add_mul,Nat.one_mul]]
   rw[e];exact this
def HM{H:Type}{enc:TypeId × Value->H}{P:Program}{w:World}{base:Nat}{sp:Nat->Bool}{held:Bool}:∀(n t:Nat) (q:List Ty) (m:Nat) (C:List Value) (x:DataW H × List MemPlace),My P n t=some q->
  z7 enc P w base sp held m t C=some x->∃p,Ty.ofL q p/\CVS (· < w.heap.size) w p C
 | 0,t,q,m,C,x,h,_=>by simp[My] at h
 | n+1,t,q,m,C,x,h,hd=>by
  simp only[My] at h;split at h
  ·rename_i B;simp only[j6] at h;subst h;obtain⟨b,rfl,_⟩:=DataW.trod_bool B hd;exact⟨[.bool b],by simp[Ty.ofL,Ty.of],CVS.one (.bool b)⟩
  ·rename_i k B;simp only[j6] at h;subst h;obtain⟨b,rfl,_,S⟩:=DataW.trod_int B hd;simp only[Lit.wf,o0,af] at S;exact⟨[.int k b],by simp[Ty.ofL,Ty.of,S],CVS.one (.int k b)⟩
  ·rename_i B;simp only[j6] at h;subst h;obtain⟨b,rfl,_,S⟩:=DataW.trod_string B hd;exact⟨[.str b.data.toList],by simpa[Ty.ofL,Ty.of] using S,CVS.one (.str b)⟩
  ·rename_i e B;split at h
   ·rename_i a V;split at h
    ·rename_i F;simp only[o0,beq_iff_eq,af] at F;simp only[j6] at h;subst h;rcases DataW.trod_slice B hd with⟨rfl,_⟩|⟨g,len,cap,T,a1,Q,_,rfl,_,hb,hl,hm,G,D,_,_⟩
     ·exact⟨[.sl true false a.length []],by simp[Ty.ofL,Ty.of],CVS.one (.nil _ _)⟩
     ·have v:∀i,i<len->∃M d,w.cells? base (g.add (i*a.length)) a.length=some d/\Ty.ofL a M/\CVS (· < w.heap.size) w M d:=λi f=>by
       have u:=D i f;rw[j2 (by omega),F.1,Option.bind_eq_some_iff] at u;obtain⟨d,o,K⟩:=u;obtain⟨M,h4,h5⟩:=HM n e a Q d _ V K;exact⟨M,d,o,h4,h5⟩
      by_cases h0:len=0
      ·subst h0;exact⟨[.sl false false a.length []],by simp[Ty.ofL,Ty.of],CVS.one (.emp _ _ _ _ (by simp) hm)⟩
      ·let c:List (List SV):=(ag0 len).attach.map λi=>ac5 (v i.1 (List.mem_range.1 i.2))
       have N:c.length=len:=by simp[c]
       have l:∀i (f:i<c.length),∃d,w.cells? base (g.add (i*a.length)) a.length=some d/\Ty.ofL a (c[i])/\CVS (· < w.heap.size) w (c[i]) d:=λi f=>by
        have z:i<len:=by omega
        have e:c[i]=ac5 (v i z):=by simp[c]
        rw[e];exact ad3 (v i z)
       have A:g.spot=none/\g.block<w.heap.size:=by
        obtain⟨d,u,o,K⟩:=l 0 (by omega);obtain⟨_,Y,J⟩:=ae8 u;have:=J 0 F.2;rw[j2 (by omega)] at this;simp only[ah2,Addr.add,if_true] at this;exact Ch5 this
       have D:∀i (f:i<c.length),(c[i]).length=a.length:=λi f=>by
        obtain⟨d,u,o,K⟩:=l i f;exact Ty.ofL_len o
       have y:∀i (f:i<c.length) j (I:j<(c[i]).length),∃U,w.cell? ⟨g.block,g.off+i*a.length+j,none⟩=some U/\VS (· < w.heap.size) w (c[i][j]) U:=λi f j I=>by
        obtain⟨d,u,o,K⟩:=l i f;obtain⟨_,Y,J⟩:=ae8 u;have X:j<a.length:=by rw[<-D i f];exact I
        obtain⟨U,L,R⟩:=K.2 j I;refine⟨U,?_,R⟩;rw[<-L,<-J j X,Da3 A.1]
       refine⟨[.sl false false a.length c],?_,CVS.one ?_⟩
       ·simp only[Ty.ofL,Ty.of];refine⟨_,[],rfl,.inr ⟨c,rfl,by omega,λM a0=>?_⟩,rfl⟩;obtain⟨i,f,rfl⟩:=List.getElem_of_mem a0;obtain⟨d,u,o,K⟩:=l i f;exact o
       ·have e:g=⟨g.block,g.off,none⟩:=by cases g;simp_all
        rw[e];refine .sl false c g.block g.off len cap a.length (λi j=>(w.cell? ⟨g.block,g.off+i*a.length+j,none⟩).getD undef) N.symm hl hm (by simp) A.2 D (λi f j I=>?_) (λi f j I=>?_)
        ·obtain⟨U,L,R⟩:=y i f j I;rw[L];rfl
        ·obtain⟨U,L,R⟩:=y i f j I;rw[L];exact R
    ·cases h
   ·cases h
  ·rename_i fs B;split at h
   ·rename_i r hr;split at h
    ·rename_i F;simp only[beq_iff_eq] at F;simp only[j6] at h;subst h;obtain⟨xs,Q,_,_,G,O,W⟩:=DataW.trod_struct B hd;obtain⟨p,u,o⟩:=UI (λt q C x=>HM n t q Q C x) C fs.toList 0 r hr (λi fl f=>by
      have z:fs[i]? = some fl:=by simpa using f
      have:=W i fl z;have Z:i<xs.length:=by rw[O];exact(w6.1 z).1
      rw[j2 Z] at this;exact⟨_,this⟩)
     refine⟨p,u,?_⟩;rw[af8,ad1 (by omega)] at o;exact o
    ·cases h
   ·cases h
  ·rename_i k e B;split at h
   ·rename_i a V;split at h
    ·rename_i F;simp only[o0,beq_iff_eq] at F;simp only[j6] at h;subst h;obtain⟨xs,Q,_,_,G,O,W⟩:=DataW.trod_array B hd;obtain⟨p,u,o⟩:=Al0 C (λC x=>HM n e a Q C x V) F.1 k 0 (λi _ f=>by
      have:=W i (by omega);rw[j2 (by omega)] at this;exact⟨_,this⟩)
     refine⟨p,u,?_⟩;rw[ah2,af8,ad1 (by omega)] at o;exact o
    ·cases h
   ·cases h
  ·cases h
def EN(P:Program)(t:Nat):Bool:=match P.underlying t with
 | some (.struct _)=>true
 | some (.array _ _)=>true
 | _=>false
def QG(P:Program)(t:Nat)(v:PV):Prop:=∃a l,My P 20 t=some a/\Ty.ofL a l/\((EN P t=true/\v = .agg (l.map .s))\/(EN P t=false/\∃x,l=[x]/\v = .s x))
def Nd(P:Program):List Nat->List PV->Prop
 | [],l=>l=[]
 | t::r,l=>∃v q,l=v::q/\QG P t v/\Nd P r q
def QG.nms{P:Program}{t:Nat}{v:PV}(h:QG P t v):v.nms=[]:=by
 obtain⟨tys,l,_,_,h⟩:=h;rcases h with⟨_,rfl⟩|⟨_,x,_,rfl⟩
 ·simp only[PV.nms];rw[aa6];intro c hc;obtain⟨j,hj,hc⟩:=C8.1 hc;simp[PV.nms] at hc
 ·rfl
def Nd.nms{P:Program}:∀{ts:List Nat} {l:List PV},Nd P ts l->D1 l=[]
 | [],l,h=>by simp only[Nd] at h;subst h;rfl
 | t::r,l,h=>by
  simp only[Nd] at h;obtain⟨v,q,rfl,h1,h2⟩:=h;simp[D1,h1.nms,h2.nms]
section
variable {H : Type} {enc : TypeId × Value -> H} {P : Program} {w : World}
def Di3{v:Value}{r:Reach}{b:Nat}{t:Nat}(e:EN P t=false)(Qe:y8 P w r b t v):∀a,v = .agg a->False:=by
 rintro a rfl;simp only[y8,Cell.okWide] at Qe;unfold EN at e;split at Qe
 ·grind
 ·grind
 ·revert Qe
  cases c:P.underlying t with
  | none=>simp[Cell.ok,c]
  | some d=>cases d<;>simp[Cell.ok,c]
def Cy2{Γ:Ctx}{sh:Nat->Option Shp}{sp:Nat->Bool}{held:Bool}{r:Reach}{b y t:Nat}{v:Value}{d:DataW H}{F:List MemPlace}(hΓ:∀g,g<w.heap.size->Γ.St g)(i:(My P 20 t).isSome=true)(Qe:y8 P w r b t v)(A:DataW.Trod enc P w y sp held t v d F) :
  ∃u,QG P t u/\VP Γ sh w u v:=by
 obtain⟨c,p⟩:=ac4.1 i;obtain⟨m,D⟩:=A;obtain⟨a,q,f⟩:=HM 20 t c m _ _ p D;have lift:∀{x:SV} {V:Value},VS (· < w.heap.size) w x V->VS Γ.St w x V:=λh=>h.mono (λ_ _=>rfl) hΓ
 cases n:EN P t with
 | true=>
  refine⟨.agg (a.map .s),⟨c,a,p,q,.inl ⟨n,rfl⟩⟩,?_⟩;have:∃l,v = .agg l:=by
   unfold EN at n;simp only[y8] at Qe;grind
  obtain⟨l,rfl⟩:=this;simp only[Value.cells] at f;refine VP.mk_agg (by simpa using f.1) λj B=>?_
  have o:j<a.length:=by simpa using B
  obtain⟨U,e,k⟩:=f.2 j o;exact⟨U,by simpa using e,by rw[v8];exact .s _ _ (lift k)⟩
 | false=>
  have z:v.cells = #[v]:=by
   have:=Di3 n Qe;cases v with
   | agg l=>exact(this l rfl).elim
   | _=>rfl
  rw[z] at f;have C:a.length=1:=by have:=f.1;simpa using this.symm
  obtain⟨x,rfl⟩:∃x,a=[x]:=by
   match a,C with
   | [x],_=>exact⟨x,rfl⟩
  obtain⟨U,e,k⟩:=f.2 0 (by simp);simp only[List.getElem?_cons_zero,j6] at e;subst e;exact⟨.s x,⟨c,[x],p,q,.inr ⟨n,x,rfl,rfl⟩⟩,.s _ _ (lift k)⟩
def TQ{Γ:Ctx}{sh:Nat->Option Shp}{sp:Nat->Bool}{held:Bool}{r:Reach}{b x:Nat}(hΓ:∀g,g<w.heap.size->Γ.St g):∀(f:List Nat) (i:List Value) (ds:List (DataW H)) (n:List MemPlace),(∀t∈f,(My P 20 t).isSome=true)->(∀(j:Nat) t v,f[j]? = some t->i[j]? = some v->y8 P w r b t v)->aa8 enc P w x sp held f i ds n->
  ∃a,Nd P f a/\i.length=a.length/\ds.length=f.length/\∀j (h:j<a.length),∃U,i[j]? = some U/\VP Γ sh w (a[j]) U
 | [],i,ds,n,_,_,h=>by
  obtain⟨rfl,rfl,_⟩:=trodAll_nil h;exact⟨[],rfl,rfl,rfl,λj l=>by simp at l⟩
 | t::f,i,ds,n,c,Qe,h=>by
  obtain⟨v,o,d,m,p,q,rfl,rfl,rfl,C,D⟩:=trodAll_cons h;obtain⟨u,I,J⟩:=Cy2 (Γ:=Γ) (sh:=sh) hΓ (c t (by simp)) (Qe 0 t v rfl rfl) C;obtain⟨a,y,z,A,B⟩:=TQ (Γ:=Γ) (sh:=sh) hΓ f o m q (λt F=>c t (by simp[F])) (λj t v l G=>Qe (j+1) t v (by simpa using l) (by simpa using G)) D;refine⟨u::a,⟨u,a,rfl,I,y⟩,by simp[z],by simp[A],λj l=>?_⟩;cases j with
  | zero=>exact⟨v,rfl,J⟩
  | succ j=>
   obtain⟨U,e,k⟩:=B j (by simpa using l);grind
def KC(g:laidOutB P=true){w':World}{ts:List Nat}{vs:List Value}{ds:List (DataW H)}{ps:List MemPlace}:∀{ts:List Nat} {vs:List Value} {ds:List (DataW H)} {ps:List MemPlace},(∀t∈ts,P.readableRec t=true/\t<P.types.size)->aa8 enc P w 0 (λ_=>true) true ts vs ds ps->(∀x∈ps,w.sameAt w' x)->∀sp:Nat->Bool,(∀x∈ps,sp x.block=true)->
  aa8 enc P w' 0 sp true ts vs ds ps
 | [],vs,ds,ps,_,h,_,sp,_=>by
  obtain⟨rfl,rfl,rfl⟩:=trodAll_nil h;exact trodAll_mk0
 | t::ts,vs,ds,ps,e,h,i,sp,b=>by
  obtain⟨v,f,d,c,p,q,rfl,rfl,rfl,j,k⟩:=trodAll_cons h;refine⟨p,q,WideElems.Trod_stays g (e t (by simp)).1 (e t (by simp)).2 j (λx a=>i x (by simp[a])) (λx a=>b x (by simp[a])),KC g (w':=w') (ts:=ts) (vs:=f) (ds:=c) (ps:=q) (λt l=>e t (by simp[l])) k (λx a=>i x (by simp[a])) sp (λx a=>b x (by simp[a])),rfl⟩
def PM{f:Func}{s:ChangeSpec}{c fresh d k:Bool}{W m:World}{args:Array Value}{v:Value}{ds n:List (DataW H)}{a pa pv:List MemPlace}
  (u:ah4 enc P f.params.toList s.vars c W args.toList ds n a)
  (i:∀(b:Nat) (sp:Nat->Bool) (B:Bool),aa8 enc P m b sp B f.resultTypes.toList (v.resultList f.resultTypes.size) (s.fn H (ds++n)).results [])
  (e:∀sp:Nat->Bool,(∀p∈a,sp p.block=true)->aa8 enc P m 0 sp true f.params.toList args.toList (s.fn H (ds++n)).args pa)
  (g:∀sp:Nat->Bool,(∀p∈a,sp p.block=true)->DataW.TrodVars enc P m sp s.vars (s.fn H (ds++n)).vars pv)
  (l:a=pa++pv) (z:Below W.heap.size W m)
  (y:∀(j:Nat) (t:TypeId) (r:Value),f.resultTypes[j]? = some t->(v.resultList f.resultTypes.size)[j]? = some r->y8 P m .any 0 t r) :
  s.post enc P f c fresh d k W args v m:=by
 have h:∀p∈a,(λb=>decide (b<W.heap.size)) p.block=true:=λp o=>by simpa using u.lt p o
 refine⟨ds,n,a,[],pa,pv,u,i _ _ _,e _ h,g _ h,z.frame _,λ_=>?_⟩;have x:=u.lt;obtain⟨_,_,_,_,_,D,C⟩:=u;refine⟨y,_,_,([]++pa)++pv,⟨[]++pa,pv,trodAll_append (e _ (λ_ _=>rfl)) (i _ _ _),g _ (λ_ _=>rfl),rfl,?_,?_⟩,?_⟩
 ·intro b off o;have q:MemPlace.cell b off∈a:=by rw[l];simpa using o
  rw[z.frozen (x _ q)];exact D b off q
 ·intro A;have:=C A;rw[l] at this;simpa using this
 ·intro p o _;rw[l];simpa using o
end
def Bq4{P:Program}{f:Nat}{a:Array Value}{w:World}{R:Value->World->Prop}(b:(callFunc f a).run P w = .ok (.enter f a) w)(h:Q6 P ((callFunc f a).run P w) R):Calls P f a w λe w'=>∃V,e = .returned V/\R V w':=by
 rw[b] at h;have:=h none 1 { op:=.move (.const undef),dst:=some 0,guard:=none,type:=0,after:=#[],pos:=default } { tmps:=#[undef],defers:=[] } (λg w'=>∃V,g.tmps[0]? = some V/\R V w') (λ_ _ _=>False) (λV w' k=>⟨V,by simp[Act.put],k⟩);rw[ac2] at this;have j:CallsIn ab8 0 P f a w _:=this.2;refine(callsIn_wide.1 j).mono λe w' d=>?_
 cases e with
 | returned v=>
  obtain⟨V,i,l⟩:=d;simp[Act.put] at i;grind
 | panicked c=>exact d.elim
 | outgrown=>obtain⟨_,_,h⟩:=d;exact h.elim
def noY:Yh Unit:=λ_ _=>none
def Cq9{H:Type}{enc:TypeId × Value->H}{C:Cfg}{f R:Nat}{fn:Func}{c:Code}{s:ChangeSpec}{apart fresh handsOn again:Bool}(hX:XOK C)(hO:Lo C)(hm:C.P.follows .mixedOrders=true)(hl:laidOutB C.P=true)(I:C.P.funcs[f]? = some fn)(hb:fn.body=some c)(r:(fn.name == "runtime.NumGoroutine")=false)
  (Q:∀t∈fn.params.toList,(C.P.readableRec t=true/\t<C.P.types.size)/\(My C.P 20 t).isSome=true) (n:fn.resultTypes = #[R]) (a:C.P.underlying R=some .bool) (i:s.vars=[])
  (y:∀ds:List (DataW H),ds.length=fn.params.toList.length->s.fn H ds = { results:=[.lit (.bool true)],args:=ds })
  (G:∀args,Nd C.P fn.params.toList args->∃d D,evC C d Unit noY f args [] ()=some (.s (.bool true),D,()))
  (W:World) (Z:GOK C (· < W.heap.size) W) (base:Nat) (args:Array Value) (ds S:List (DataW H)) (l:List MemPlace)
  (Qe:∀(j:Nat) t v,fn.params[j]? = some t->args[j]? = some v->y8 C.P W .any base t v)
  (O:ah4 enc C.P fn.params.toList s.vars apart W args.toList ds S l) :
  Calls C.P f args W λe F=>∃v,e = .returned v/\s.post enc C.P fn apart fresh handsOn again W args v F:=by
 have o:=O;obtain⟨p,q,hA,hV,rfl,a0,a1⟩:=O;rw[i] at hV;obtain⟨rfl,rfl⟩:=trodVars_none hV;let Γ:Ctx:={ St:=(· < W.heap.size),nm:=λ_=>none,yv:=.nilFunc,yv1:=rfl }
 obtain⟨B,N,T,X,Y⟩:=TQ (Γ:=Γ) (sh:=A3 []) (λ_ h=>h) fn.params.toList args.toList ds p (λt L=>(Q t L).2) (λj t v J M=>Qe j t v (by simpa using J) (by simpa using M)) hA;obtain⟨d,D,P⟩:=G B N;have hS:=Lz hX hO hm d Unit I0 noY .nilFunc Cl5 Cl6 f B [] () _ D () P Γ noΦ W args rfl (Nl (λ_=>rfl) (λ_ h=>h)) Z (λ_ h=>h) (λb g h=>by cases h)
  ⟨by rw[<-Array.length_toList];exact T,λj J=>by obtain⟨U,e,k⟩:=Y j J;exact⟨U,by simpa using e,k⟩⟩ (by rw[N.nms];simp)
 refine(Bq4 (Qz I hb r) hS).mono ?_;rintro e F ⟨V,rfl,Γ',Φ',z,hH,M,_⟩;have hV:=M.inv_bool;subst hV;have m:Below W.heap.size W F:=⟨z.os,z.tape,z.output,z.size,λk hk=>z.frame k hk (λb=>by simp[Γ]) (λx=>x)⟩
 simp only[ab3] at o;refine⟨_,rfl,?_⟩;have u:=y ds X;have K:=o.lt;refine PM (pa:=p) (pv:=[]) o (λb sp P=>?_) (λsp A=>?_) (λsp _=>?_) (by simp) m ?_
 ·rw[ab3,u,n];exact trodAll_cons_mk (shut_bool a _) trodAll_mk0
 ·rw[ab3,u];exact KC hl (w:=W) (ts:=fn.params.toList) (vs:=args.toList) (ds:=ds) (ps:=p) (λt L=>(Q t L).1) hA (λx hx=>m.same (K x hx)) sp A
 ·rw[ab3,u,i];rfl
 ·exact ok_one n rfl (okWide_bool_mk a _)
end
section
open Go
def C0(P:Program)(G:GT)(g:Nat)(pf:List PV->Tr):Prop:=
 ∀args ret c,L8 (pf args)=some (ret,c)->∀C:Cfg,C.P=P->C.G=G->∀a w d,(∀b,a.nm b=none)->HR a [] w->GOK C a.St w->CR a (A3 []) w args d->
  Q6 P ((callFunc g d).run P w) (Bx C I0 a [] w noΦ ret c ())
def Kt{C₀:Cfg}{g:Nat}{pf:List PV->Tr}(y:XOK C₀)(x:Lo C₀)(B:C₀.P.follows .mixedOrders=true)
  (h:∀args ret c,L8 (pf args)=some (ret,c)->D1 args=[]/\∃d,evC C₀ d Unit noY g args [] ()=some (ret,c,())):C0 C₀.P C₀.G g pf:=by
 intro args ret c o C F f p w t n v u A;obtain⟨m,d,k⟩:=h args ret c o;have e:GOK C₀ p.St w:=u.congr f.symm;refine(Lz y x B d Unit I0 noY p.yv Cl5 Cl6 g args [] () ret c () k p noΦ w t rfl v e (λ_ h=>h) (λb g h=>by rw[n] at h;cases h) A (by rw[m];simp)).mono ?_;rintro V w' ⟨q,r,a,i,D,hvn,l,j⟩;exact⟨q,r,⟨a.os,a.tape,a.output,a.size,a.sub,a.stnew,a.own,a.foot,a.frame,a.yv,a.len,λb z=>by simp at z⟩,i,D,hvn,l,j⟩
def Tr.snap:Tr->Tr
 | .ret v H=>cond (v.snap H).nms.isEmpty (.ret (v.snap H) []) .fail
 | .need c t=>.need c t.snap
 | .split c a b=>.split c a.snap b.snap
 | .fail=>.fail
def Tr.snap_res:∀{t:Tr} {v:PV} {H:List Blk},L8 t.snap=some (v,H)->∃v' H',L8 t=some (v',H')/\v=v'.snap H'/\H=[]/\v.nms=[]
 | .ret v' H',v,H,h=>by
  simp only[Tr.snap] at h;cases he:(v'.snap H').nms.isEmpty with
  | false=>rw[he] at h;cases h
  | true=>
   rw[he] at h;simp only[aa,L8,Gk,j6,p4] at h;obtain⟨rfl,rfl⟩:=h;exact⟨v',H',rfl,rfl,rfl,List.isEmpty_iff.1 he⟩
 | .need c t,v,H,h=>by
  cases c with
  | true=>exact Tr.snap_res (t:=t) h
  | false=>cases h
 | .split c a b,v,H,h=>by
  cases c with
  | true=>exact Tr.snap_res (t:=a) h
  | false=>exact Tr.snap_res (t:=b) h
 | .fail,_,_,h=>by cases h
def C0.snap{P:Program}{G:GT}{g:Nat}{pf:List PV->Tr}(h:C0 P G g pf):C0 P G g (λargs=>(pf args).snap):=by
 intro args ret Hc hpf C hP hGe Γ w Vs hnm hH hG hc;obtain⟨ret',Hc',hpf',rfl,rfl,hnr⟩:=Tr.snap_res hpf;refine(h args ret' Hc' hpf' C hP hGe Γ w Vs hnm hH hG hc).mono ?_;rintro V w' ⟨Γ1,Φ1,hs,hH1,hv,hvn,hi1,hd1⟩;let Γ2:Ctx:={ Γ1.all with nm:=λ_=>none }
 have hlt:∀g,Γ2.St g->g<w'.heap.size:=λg hg=>by
  rcases hg with hg|⟨b,hb⟩
  ·exact hH1.stlt g hg
  ·exact(hH1.lt b g hb).2.1
 refine⟨Γ2,Φ1,⟨hs.os,hs.tape,hs.output,hs.size,λg hg=>.inl (hs.sub g hg),λg hg=>?_,λb g h=>by simp[Γ2] at h,hs.foot,hs.frame,hs.yv,p6 _,λb hb=>by simp at hb⟩,
  Nl (λ_=>rfl) hlt,?_,by rw[hnr];simp,hi1,λb g h=>by simp[Γ2] at h⟩
 ·rcases hg with hg|⟨b,hb⟩
  ·exact hs.stnew g hg
  ·rcases hs.own b g hb with⟨h',_⟩|h'
   all_goals grind
 ·exact VP.mono (Γ:=Γ1.all) (Γ':=Γ2) (w:=w') (w':=w') (sh:=A3 Hc') (ok:=λ_=>False) ⟨λ_ _=>rfl,λ_ h=>h,λ_ h=>h.elim,λ_ h=>h.elim,λ_ _ h=>h.elim,rfl⟩ (hv.snap hH1) (by rw[hnr];simp)
def Ah0:List (Nat × (List PV->Tr))->Nat->Option (List PV->Tr)
 | [],_=>none
 | (g,a)::r,n=>cond (x3 n g) (some a) (Ah0 r n)
def L9(P:Program)(G:GT):List (Nat × (List PV->Tr))->Prop
 | []=>True
 | (g,a)::r=>C0 P G g a/\L9 P G r
def L9.x1{C:Cfg}{l:List (Nat × (List PV->Tr))}(hl:C.X=Ah0 l)(h:L9 C.P C.G l):D56 C:=by
 intro g pf args ret Hc hg hpf Γ w Vs hnm hH hG hc;rw[hl] at hg;have key:∀l:List (Nat × (List PV->Tr)),L9 C.P C.G l->Ah0 l g=some pf->C0 C.P C.G g pf:=by
  intro l
  induction l with
  | nil=>intro _ h;cases h
  | cons e r ih=>
   intro h1 h2;obtain⟨n,q⟩:=e;simp only[Ah0] at h2;cases hb:x3 g n with
   | true=>
    rw[hb] at h2;simp only[aa,j6] at h2;have:=p9 hb;subst this;subst h2;exact h1.1
   | false=>
    rw[hb] at h2;exact ih h1.2 h2
 exact key l h hg args ret Hc hpf C rfl rfl Γ w Vs hnm hH hG hc
def LQ{C a:Cfg}(h:C.P=a.P):Je C=Je a:=by
 funext s
 unfold Je;split
 ·simp only[Ge,Cfg.sh,h]
 ·rfl
 ·rfl
def Stp.congr{C C':Cfg}(h:C.P=C'.P){Γ Γ':Ctx}{H H':List Blk}{w w':World}{Φ Φ':Nat->Prop}(s:Stp C Γ H w Φ Γ' H' w' Φ'):Stp C' Γ H w Φ Γ' H' w' Φ':=
 ⟨s.os,s.tape,s.output,s.size,s.sub,s.stnew,s.own,s.foot,s.frame,s.yv,s.len,λb hb hf=>s.keep b hb (by rw[LQ h];exact hf)⟩
def Xh(P:Program)(G:GT)(g:Nat)(j:List PV->List Blk->Tr):Prop:=
 ∀C:Cfg,C.P=P->C.G=G->∀(i:Type) (I:i->(Nat->Prop)->(Nat->Prop)->World->Prop) (k:Yh i) (h:Value),HI I->A37 P I k h->
  ∀args H s ret e,L8 (j args H)=some (ret,e)->∀a d w f,a.yv=h->HR a H w->GOK C a.St w->I s a.St d w->(∀b g,a.nm b=some g->¬d g)->CR a (A3 H) w args f->(∀c∈D1 args,c<H.length)->
   Q6 P ((callFunc g f).run P w) (Bx C I a H w d ret e s)
def Aj3(P:Program)(G:GT)(g:Nat)(k:List PV->List Blk->Option (Bool × List (List PV))):Prop:=
 ∀C:Cfg,C.P=P->C.G=G->∀(j:Type) (I:j->(Nat->Prop)->(Nat->Prop)->World->Prop) (h:Yh j) (i:Value),HI I->A37 P I h i->
  ∀args H L s f,k args H=some (true,L)->H.all ME=true->T3 h L s=some f->∀a d w e,a.yv=i->HR a H w->GOK C a.St w->I s a.St d w->(∀b g,a.nm b=some g->¬d g)->CR a (A3 H) w args e->(∀c∈D1 args,c<H.length)->
   Q6 P ((callFunc g e).run P w) (Bx C I a H w d (.tup []) (H.map Jw) f)
def Cq1{C o:Cfg}{σ:Type}{I:σ->(Nat->Prop)->(Nat->Prop)->World->Prop}{S:Ctx}{H D:List Blk}{w w':World}{Φ:Nat->Prop}{s':σ}{V:Value}(hP:o.P=C.P)(hb:H.all ME=true)(hH:HR S H w)(h:Bx o I S H w Φ (.tup []) D s' V w'):Bx C I S H w Φ (.tup []) (H.map Jw) s' V w':=by
 obtain⟨n,T,l,G,k2,k3,k4,k5⟩:=h;have B:∀b g,(if b<H.length then n.nm b else none)=some g->b<H.length/\n.nm b=some g:=λb g h=>by grind
 have p:(H.map Jw).length=H.length:=x9 _;refine⟨{ n with nm:=λb=>if b<H.length then n.nm b else none },T,⟨l.os,l.tape,l.output,l.size,l.sub,l.stnew,λb g y=>l.own b g (B b g y).2,l.foot,l.frame,l.yv,by rw[p];exact p6 _,λb i hf=>?_⟩,
  ⟨λb U g K M=>G.inj b U g (B b g K).2 (B U g M).2,λb g y=>?_,G.stlt,λb i c Y=>?_,λb i=>?_⟩,?_,by simp[PV.nms,D1],k4,λb g y=>k5 b g (B b g y).2⟩
 ·obtain⟨Z,Q,R⟩:=l.keep b i (by rw[LQ hP];exact hf);refine⟨by simp only;rw[ac i];exact Z,?_,R⟩;simp only[A3,aa4];cases H[b]? with
  | none=>rfl
  | some x=>exact congrArg some (QX x)
 ·obtain⟨q1,q2⟩:=B b g y;have:=G.lt b g q2;grind
 ·rw[v8,QW] at Y;simp at Y
 ·rw[p] at i;rw[v8];have k:=v7.1 hb _ (o6 i);have X:=hH.blk b i;cases q:H[b] with
  | box cells=>
   rw[q] at X;obtain⟨g,a0,e,K,M,W,_⟩:=X;obtain⟨Z,Q,R⟩:=l.keep b i (by simp only[A3,j2 i,q];exact trivial);have z:b<D.length:=p5 i l.len;have v:=G.blk b z;have f:(D[b]).shp = .box:=by
    simp only[A3,j2 i,j2 z,ab6,j6] at Q;rw[Q,q];rfl
   cases t:D[b] with
   | box F=>
    rw[t] at v;obtain⟨J,m,e',L,u,a1,a2⟩:=v;have N:J=g:=by grind
    subst N;have r:=R J K;simp only[World.shape?,M,u,j6,p4] at r;refine⟨J,m,e',by simp only;rw[ac i];exact L,u,by rw[r.2,W];simp,λj O=>?_⟩;have P:j<m.size:=by rw[r.2,W];simpa using O
    exact⟨m[j],Array.getElem?_eq_getElem P,by rw[v8];exact .bad _⟩
   | arr a b c d=>rw[t] at f;cases f
   | iter a b=>rw[t] at f;cases f
   | mp a=>rw[t] at f;cases f
   | ms a b=>rw[t] at f;cases f
   | dead=>rw[t] at f;cases f
  | arr a b c d=>rw[q] at k;cases k
  | iter a b=>rw[q] at k;cases k
  | mp a=>rw[q] at k;cases k
  | ms a b=>rw[q] at k;cases k
  | dead=>rw[q] at k;cases k
 ·obtain⟨A,rfl,hA,a3⟩:=k2.inv_tup;exact VP.mk_tup hA λj O=>by simp at O
def FZ{C₀:Cfg}{g:Nat}{n:List PV->List Blk->Option (Bool × List (List PV))}(u:XOK C₀)(r:Lo C₀)(A:C₀.P.follows .mixedOrders=true)
  (h:∀args H L,n args H=some (true,L)->∀(a:Type) (f:Yh a) (s e:a),T3 f L s=some e->∃d i,evC C₀ d a f g args H s=some (.tup [],i,e)):Aj3 C₀.P C₀.G g n:=by
 intro C t p a I f G q F args H L s e k v c J K w o l m y z b x B;obtain⟨d,i,j⟩:=h args H L k a f s e c;exact(Lz u r A d a I f G q F g args H s _ i e j J K w o l m (y.congr p.symm) z b x B).mono λV w' D=>Cq1 t.symm v m D
def Mw{a:Type}:List (Nat × a)->Nat->Option a
 | [],_=>none
 | (g,b)::r,n=>cond (x3 n g) (some b) (Mw r n)
def AO{b:Type}:∀{l:List (Nat × b)} {g:Nat} {a:b},Mw l g=some a->(g,a)∈l
 | [],_,_,h=>by cases h
 | (n,q)::r,g,a,h=>by
  simp only[Mw] at h;cases c:x3 g n with
  | true=>
   simp_all
  | false=>
   rw[c] at h;exact ad8 _ (AO h)
def Kw(P:Program)(G:GT):List (Nat × (List PV->List Blk->Tr))->Prop
 | []=>True
 | (g,a)::r=>Xh P G g a/\Kw P G r
def Kv(P:Program)(G:GT):List (Nat × (List PV->List Blk->Option (Bool × List (List PV))))->Prop
 | []=>True
 | (g,a)::r=>Aj3 P G g a/\Kv P G r
def Kw.mem{P:Program}{G:GT}:∀{l:List (Nat × (List PV->List Blk->Tr))} {g:Nat} {pf:List PV->List Blk->Tr},Kw P G l->(g,pf)∈l->Xh P G g pf
 | [],_,_,_,hm=>by simp at hm
 | (n,q)::r,g,pf,h,hm=>by
  rcases y5.1 hm with e|hm
  ·cases e;exact h.1
  ·exact Kw.mem h.2 hm
def Kv.mem{P:Program}{G:GT}:∀{l:List (Nat × (List PV->List Blk->Option (Bool × List (List PV))))} {g:Nat} {pf:List PV->List Blk->Option (Bool × List (List PV))},Kv P G l->(g,pf)∈l->Aj3 P G g pf
 | [],_,_,_,hm=>by simp at hm
 | (n,q)::r,g,pf,h,hm=>by
  rcases y5.1 hm with e|hm
  ·cases e;exact h.1
  ·exact Kv.mem h.2 hm
def Kw.ok{C:Cfg}{l:List (Nat × (List PV->List Blk->Tr))}(hl:C.Y=Mw l)(h:Kw C.P C.G l):Cw C (clY C):=by
 intro σ I yh yv hI hy g args H s ret Hc s' hcl Γ Φ w Vs hyv hH hg hi hd hc hn;simp only[clY,hl] at hcl;split at hcl
 ·rename_i pf hpf;split at hcl
  ·rename_i r' h' hr;simp only[j6,p4] at hcl;obtain⟨rfl,rfl,rfl⟩:=hcl;exact h.mem (AO hpf) C rfl rfl σ I yh yv hI hy args H s _ _ hr Γ Φ w Vs hyv hH hg hi hd hc hn
  grind
 ·cases hcl
def Kv.ok{C:Cfg}{l:List (Nat × (List PV->List Blk->Option (Bool × List (List PV))))}(hl:C.S=Mw l)(h:Kv C.P C.G l):Cw C (clS C):=by
 intro σ I yh yv hI hy g args H s ret Hc s' hcl Γ Φ w Vs hyv hH hg hi hd hc hn;simp only[clS,hl] at hcl;split at hcl
 ·rename_i pf hpf;split at hcl
  ·rename_i hb;split at hcl
   ·rename_i L hL;split at hcl
    ·rename_i s2 hr;simp only[j6,p4] at hcl;obtain⟨rfl,rfl,rfl⟩:=hcl;exact h.mem (AO hpf) C rfl rfl σ I yh yv hI hy args H L s _ hL hb hr Γ Φ w Vs hyv hH hg hi hd hc hn
    grind
   grind
  grind
 ·cases hcl
def Pp{C:Cfg}{lx:List (Nat × (List PV->Tr))}{ly:List (Nat × (List PV->List Blk->Tr))}{ls:List (Nat × (List PV->List Blk->Option (Bool × List (List PV))))}(a:C.X=Ah0 lx)(b:C.Y=Mw ly)(c:C.S=Mw ls)(x:L9 C.P C.G lx)(y:Kw C.P C.G ly)(s:Kv C.P C.G ls)(d:C.Z=Mw []:=by rfl):XOK C:=
 ⟨L9.x1 a x,Kw.ok b y,Kv.ok c s,λg e h=>by rw[d] at h;cases h⟩
def L9.ok{C:Cfg}{l:List (Nat × (List PV->Tr))}(hl:C.X=Ah0 l)(h:L9 C.P C.G l)(h2:C.Y=Mw []:=by rfl)(h3:C.S=Mw []:=by rfl)(h4:C.Z=Mw []:=by rfl):XOK C:=
 Pp hl h2 h3 h trivial trivial h4
def okL:List Nat->Nat->Bool
 | [],_=>false
 | a::r,n=>x3 n a||okL r n
def Bd6(C:Cfg)(l:List Nat):Bool:=l.all λf=>match C.P.funcs[f]? with
 | some fn=>match fn.body with
  | some c=>Cq8 C c && !(fn.name == "runtime.NumGoroutine")
  | none=>true
 | none=>true
def I1{C:Cfg}{l:List Nat}(d:C.okf=okL l)(h:Bd6 C l=true):Lo C:=by
 intro f fn c b g e;have key:∀l:List Nat,okL l f=true->f∈l:=by
  intro l
  induction l with
  | nil=>intro h;cases h
  | cons a r j=>
   intro h;simp only[okL,Bool.or_eq_true] at h;rcases h with h|h
   all_goals simp_all
 have i:f∈l:=key l (by rw[<-d];exact b);simp only[Bd6,v7] at h;grind
def cd:List Nat->Code->Code
 | [],c=>c
 | 0::p,.seq a _=>cd p a
 | 1::p,.seq _ b=>cd p b
 | 0::p,.cond _ a _=>cd p a
 | 1::p,.cond _ _ b=>cd p b
 | 0::p,.block _ a=>cd p a
 | 0::p,.loop a=>cd p a
 | 0::p,.scope a=>cd p a
 | 0::p,.rangeFunc _ _ a _=>cd p a
 | 1::p,.rangeFunc _ _ _ b=>cd p b
 | _,_=>.skip
def I2:List Nat->Code->Code->Code
 | [],b,_=>b
 | 0::p,b,.seq x y=>.seq (I2 p b x) y
 | 1::p,b,.seq x y=>.seq x (I2 p b y)
 | 0::p,b,.cond c x y=>.cond c (I2 p b x) y
 | 1::p,b,.cond c x y=>.cond c x (I2 p b y)
 | 0::p,b,.block id x=>.block id (I2 p b x)
 | 0::p,b,.loop x=>.loop (I2 p b x)
 | 0::p,b,.scope x=>.scope (I2 p b x)
 | 0::p,b,.rangeFunc g a x y=>.rangeFunc g a (I2 p b x) y
 | 1::p,b,.rangeFunc g a x y=>.rangeFunc g a x (I2 p b y)
 | _,_,c=>c
def D4(f:Func):Code:=f.body.getD .skip
section
variable {Y R : Type}
def bd(C:Cfg)(a:G4)(d:Yh Y)(c:Code):St Y->(Out->St Y->Option R)->Option R:=λb k=>A9 C a d c b k
def F5(C:Cfg)(c:G4)(d:Yh Y)(b:Code)(k:Out->St Y->Option R):Out->St Y->Option R:=λo a=>match o with
 | .normal=>A9 C c d b a k
 | o=>k o a
def F0(id:Nat)(k:Out->St Y->Option R):Out->St Y->Option R:=λo a=>match o with
 | .exit j=>if j=id then k .normal a else k (.exit j) a
 | o=>k o a
def G1(C:Cfg)(fn:Func):Out->St Y->Option (PV × List Blk × Y):=λo a=>match o with
 | .normal=>GM C a.sl a.hp fn.results.toList λb=>some (Df b,a.hp,a.s)
 | .ret=>GM C a.sl a.hp fn.results.toList λb=>some (Df b,a.hp,a.s)
 | _=>none
def lpK(L:Nat)(ds:Option (List Nat))(a:St Y->(Out->St Y->Option R)->Option R)(n:Nat)(k:Out->St Y->Option R):Out->St Y->Option R:=λo b=>match o with
 | .normal=>E0 L ds a n (Nz ds (X4 L b)) k
 | o=>k o (Nz ds b)
end
def Dx7{C:Cfg}{d f:Nat}{fn:Func}{e:Type}{g:Yh e}{args:List PV}{H:List Blk}{s:e}(i:C.P.funcs[f]? = some fn)(h:C.okf f=true)(a:fn.body=some (D4 fn)) :
  evC C (d+1) e g f args H s=A9 C (evC C d) g (D4 fn) { sl:=args++j5 (fn.ntmps-args.length) (.tup []),hp:=H,s:=s } (G1 C fn):=by
 simp only[evC,h,i];split
 ·rename_i c b;rw[b] at a;simp only[j6] at a;rw[<-a];rfl
 ·rename_i b;rw[b] at a;cases a
def evE{C:Cfg}{d f:Nat}{fn:Func}{a:Type}{b:Yh a}{args:List PV}{H:List Blk}{s:a}(h:(C.P.funcs[f]?,C.okf f,fn.body)=(some fn,true,some (D4 fn))) :
  evC C (d+1) a b f args H s=A9 C (evC C d) b (D4 fn) { sl:=args++j5 (fn.ntmps-args.length) (.tup []),hp:=H,s:=s } (G1 C fn):=by
 simp only[p4] at h;exact Dx7 h.1 h.2.1 h.2.2
def Lc:List Nat->List Blk->List Blk
 | [],H=>H
 | i::r,H=>Lc r (H.set i .dead)
def A73(a:List Nat)(ret:PV)(H:List Blk):Bool:=a.all λi=>!(ret.nms.contains i)&&(Lc a H).all λb=>!(b.nms.contains i)
def EY:∀(b:List Nat) (H:List Blk),(Lc b H).length=H.length/\∀i (h:i<(Lc b H).length) (c:i<H.length),(i∈b/\(Lc b H)[i] = .dead)\/(i∉b/\(Lc b H)[i]=H[i])
 | [],H=>⟨rfl,λi h c=>.inr ⟨by simp,rfl⟩⟩
 | a::r,H=>by
  obtain⟨d,e⟩:=EY r (H.set a .dead);simp only[Lc];grind
def Bx.dead{C:Cfg}{Γ:Ctx}{w w':World}{ret:PV}{Hc:List Blk}{V:Value}{idx:List Nat}(h:Bx C I0 Γ [] w noΦ ret Hc () V w')(hok:A73 idx ret Hc=true):Bx C I0 Γ [] w noΦ ret (Lc idx Hc) () V w':=by
 obtain⟨Γ1,Φ1,hs,hH1,hv,hvn,hi1,hd1⟩:=h;obtain⟨hl,hsp⟩:=EY idx Hc;simp only[A73,v7,o0,Bool.not_eq_true',List.contains_iff_mem,<-Bool.not_eq_true] at hok;let Γ2:Ctx:={ Γ1 with nm:=λb=>if b∈idx then none else Γ1.nm b }
 have hnm:∀b g,Γ2.nm b=some g->b∉idx/\Γ1.nm b=some g:=λb g h=>by
  simp only[Γ2] at h;split at h
  ·cases h
  ·exact⟨‹_›,h⟩
 have M:Am Γ1 (A3 Hc) w' Γ2 (A3 (Lc idx Hc)) w' (·∉idx):=⟨λ_ _=>rfl,λ_ h=>h,λb hb=>by simp only[Γ2];rw[ae hb],λb hb=>by
  simp only[A3];by_cases hlt:b<Hc.length
  ·rcases hsp b (by omega) hlt with⟨q,_⟩|⟨_,q⟩
   ·exact absurd q hb
   ·rw[j2 (by omega),j2 hlt,q]
  ·rw[p7 (by omega),p7 (by omega)],λ_ _ _ _=>rfl,rfl⟩
 refine⟨Γ2,Φ1,⟨hs.os,hs.tape,hs.output,hs.size,hs.sub,hs.stnew,λb g h=>hs.own b g (hnm b g h).2,hs.foot,hs.frame,hs.yv,Nat.zero_le _,λb hb=>by simp at hb⟩,
  ⟨λb b' g h1 h2=>hH1.inj b b' g (hnm b g h1).2 (hnm b' g h2).2,λb g h=>by have:=hH1.lt b g (hnm b g h).2;rw[hl];exact this,hH1.stlt,λb hb c hc=>?_,λb hb=>?_⟩,
  hv.mono M (λb hb hi=>by have:=(hok b hi).1;exact this hb),λc hc=>by rw[hl];exact hvn c hc,hi1,λb g h=>hd1 b g (hnm b g h).2⟩
 ·have hlt:b<Hc.length:=by omega
  rcases hsp b hb hlt with⟨_,q⟩|⟨_,q⟩
  ·rw[q] at hc;simp[Blk.nms] at hc
  ·rw[q] at hc;rw[hl];exact hH1.nms b hlt c hc
 ·have hlt:b<Hc.length:=by omega
  rcases hsp b hb hlt with⟨_,q⟩|⟨q0,q⟩
  ·rw[q];trivial
  ·rw[q];refine(hH1.blk b hlt).mono M (M.nm b q0) (λ_ _=>rfl) (λc hc hi=>?_);have:=(hok c hi).2 _ (o6 hb);rw[q] at this;exact this hc
def Ba{C₀:Cfg}{g:Nat}{pf:List PV->Tr}(y:XOK C₀)(u:Lo C₀)(B:C₀.P.follows .mixedOrders=true)
  (h:∀args ret i,L8 (pf args)=some (ret,i)->D1 args=[]/\∃d e c,evC C₀ d Unit noY g args [] ()=some (ret,e,())/\A73 c ret e=true/\Lc c e=i):C0 C₀.P C₀.G g pf:=by
 intro args ret i f C v j D w o m t q z;obtain⟨l,d,e,c,k,A,rfl⟩:=h args ret i f;have p:=Kt (C₀:=C₀) (g:=g) (pf:=λa=>match L8 (pf a) with|some _=>(match evC C₀ d Unit noY g a [] () with|some (r,H,_)=>cond (D1 a).isEmpty (.ret r H) .fail|none=>.fail)|none=>.fail) y u B (λa r H b=>by
  split at b
  ·split at b
   ·rename_i G H' _ F;cases n:(D1 a).isEmpty with
    | true=>
     rw[n] at b;simp only[aa,L8,Gk,j6,p4] at b;grind
    | false=>rw[n] at b;cases b
   ·cases b
  ·cases b)
 refine(p args ret e ?_ C v j D w o m t q z).mono λV w' x=>x.dead A
 dsimp only;rw[f];dsimp only;rw[k];dsimp only;rw[l];rfl
def Ai6{C₀:Cfg}{g:Nat}{pf:List PV->Tr}(y:XOK C₀)(v:Lo C₀)(A:C₀.P.follows .mixedOrders=true)
  (h:∀args ret f,L8 (pf args)=some (ret,f)->D1 args=[]/\f=[]/\ret.nms=[]/\∃d b e,evC C₀ d Unit noY g args [] ()=some (b,e,())/\b.snap e=ret):C0 C₀.P C₀.G g pf:=by
 intro args ret f n C x i B w p l u t z;obtain⟨k,rfl,m,d,b,e,j,rfl⟩:=h args ret f n;have q:=Kt (C₀:=C₀) (g:=g) (pf:=λa=>match evC C₀ d Unit noY g a [] () with|some (r,H,_)=>cond (D1 a).isEmpty (.ret r H) .fail|none=>.fail) y v A (λa r H c=>by
  split at c
  ·rename_i F H' _ D;cases o:(D1 a).isEmpty with
   | true=>
    rw[o] at c;simp only[aa,L8,Gk,j6,p4] at c;grind
   | false=>rw[o] at c;cases c
  ·cases c)
 refine q.snap args (b.snap e) [] ?_ C x i B w p l u t z;dsimp only;rw[j];dsimp only;rw[k];simp only[List.isEmpty_nil,aa,Tr.snap,m];rfl
section
variable {L R : Type} {C : Cfg} {W : G4} {Y : Yh L} {c a b : Code} {Q : St L} {k : Out -> St L -> Option R} {id : Nat}
def A0{b:Bool}{x y d e:Option R}(f:x=d)(g:y=e):cond b x y=cond b d e:=by rw[f,g]
end
def Cy3{α:Type}(z:α)(f:Nat->α->α):Nat->α
 | 0=>z
 | n+1=>f n (Cy3 z f n)
def A4{b:Type}:List (Nat × b)->Nat->Option b
 | [],_=>none
 | (a,l)::r,n=>cond (x3 n a) (some l) (A4 r n)
def bds(n:Nat):List PV:=j5 n .bad
def tps(n:Nat):List PV:=j5 n (.tup [])
def gp:List (Nat × PV)->Nat->List PV
 | [],n=>bds n
 | (m,v)::r,n=>bds m++v::gp r n
abbrev LL:=List (List SV)
abbrev MS:=List (List UInt8 × List SV)
abbrev By:=List UInt8
def A1(n:Int):Int:=o7 .i64 n
def D20(n:Int):Int:=o7 .u64 n
def EM(n:Int):Int:=o7 .u32 n
def Ez(n:Int):Int:=o7 .u16 n
def wu8(n:Int):Int:=o7 .u8 n
def A42(k:IntKind)(a b:Int):Int:=k.wrap (x8 k.bits a &&& x8 k.bits b).toNat
def bOr(k:IntKind)(a b:Int):Int:=k.wrap (x8 k.bits a ||| x8 k.bits b).toNat
def Ub(k:IntKind)(a b:Int):Int:=k.wrap (a*2 ^ min b.toNat k.bits)
def Sa(k:IntKind)(a b:Int):Int:=a.fdiv (2 ^ min b.toNat k.bits)
def inR(n:Int)(m:Nat):Bool:=decide (0<=n)&&decide (n<m)
def Mv:TI:=⟨true,false,[.int .i64]⟩
def Dr:TI:=⟨true,false,[.str]⟩
def okE(t:TI)(l:LL)(i o:Nat):Bool:=decide (i<l.length)&&okS t (l.getD i []) o
def gC(l:LL)(i j:Nat):SV:=(l.getD i []).getD j .nilp
def gE(l:LL)(i j:Nat):Int:=(gC l i j).gI
def gX(l:LL)(i j:Nat):By:=(gC l i j).gS
def bAt(s:By)(n:Int):Int:=((s.getD n.toNat 0).toNat:Int)
def L3(l h:Int)(n:Nat):Bool:=decide (0<=l)&&decide (l<=h)&&decide (h<=n)
def cut{a:Type}(s:List a)(l h:Int):List a:=(s.take h.toNat).drop l.toNat
def D98:Code->Bool | .rangeFunc _ _ _ _=>true|_=>false
def rgX:Code->Operand | .rangeFunc x _ _ _=>x|_=>.tmp 0
def rgP:Code->Array Tmp | .rangeFunc _ p _ _=>p|_=>#[]
def ZJ:∀(p:List Nat),cd p .skip = .skip
 | []=>rfl
 | 0::_=>rfl
 | 1::_=>rfl
 | (_+2)::_=>rfl
def Ix:∀(p q:List Nat) (c:Code),cd (p++q) c=cd q (cd p c)
 | [],q,c=>rfl
 | i::p,q,c=>by
  rw[ac6]
  match i,c with
  | 0,.seq a b=>exact Ix p q a
  | 1,.seq a b=>exact Ix p q b
  | 0,.cond _ a b=>exact Ix p q a
  | 1,.cond _ a b=>exact Ix p q b
  | 0,.block _ a=>exact Ix p q a
  | 0,.loop a=>exact Ix p q a
  | 0,.scope a=>exact Ix p q a
  | 0,.rangeFunc _ _ a b=>exact Ix p q a
  | 1,.rangeFunc _ _ a b=>exact Ix p q b
  | 0,.skip|0,.region _ _ _|0,.exit _|0,.label _|0,.goto _|0,.ret|0,.refuse _=>exact(ZJ q).symm
  | 1,.skip|1,.region _ _ _|1,.exit _|1,.scope _|1,.label _|1,.goto _|1,.ret|1,.refuse _|1,.block _ _|1,.loop _=>exact(ZJ q).symm
  | _+2,.skip|_+2,.region _ _ _|_+2,.exit _|_+2,.scope _|_+2,.label _|_+2,.goto _|_+2,.ret|_+2,.refuse _|_+2,.block _ _|_+2,.loop _|_+2,.seq _ _|_+2,.cond _ _ _|_+2,.rangeFunc _ _ _ _=>exact(ZJ q).symm
section
variable {L R : Type} {C : Cfg} {Y : G4} {Q : Yh L} {B : Code} {W : St L} {k : Out -> St L -> Option R}
def rdB(g:Array Tmp)(e:List PV)(a b:St L->(Out->St L->Option R)->Option R)(xs:List (List PV))(n:Nat)(f:Option Out->List Blk->L->Option R):Out->St L->Option R:=λd c=>match d with
 | .normal=>U4 g e a b xs (X4 n c).hp c.s f
 | d=>f (some d) (X4 n c).hp c.s
def Bx0(p:List Nat)(h:D98 (cd p B)=true):A9 C Y Q (cd p B) W k=Wn C Y (opnd C W.sl (rgX (cd p B))) W (λa=>Li (rgP (cd p B)) a (bd C Y Q (cd (p++[0]) B)) (bd C Y Q (cd (p++[1]) B))) (λa=>U4 (rgP (cd p B)) a (bd C Y Q (cd (p++[0]) B)) (bd C Y Q (cd (p++[1]) B))) k:=by rw[Ix,Ix];cases b:cd p B<;>rw[b] at h<;>first|rfl|cases h
def C91{x:Option (Bool × L)}{k a:Bool->L->Option R}(h:∀b s,k b s=a b s):ydK x k=ydK x a:=by
 have:k=a:=funext λb=>funext λs=>h b s
 rw[this]
def Oh{c:Bool}{x y:Option R}(h:x=y):need c x=cond c y none:=by rw[h];rfl
end
abbrev pS(l:By):PV:=.s (.str l)
abbrev pB(b:Bool):PV:=.s (.bool b)
abbrev pI(n:Int):PV:=.s (.int .i64 n)
abbrev p8(n:Int):PV:=.s (.int .u8 n)
abbrev p16(n:Int):PV:=.s (.int .u16 n)
abbrev p32(n:Int):PV:=.s (.int .u32 n)
abbrev p64(n:Int):PV:=.s (.int .u64 n)
abbrev vl{a b:Type}(e:a)(f:a->b):b:=f e
def A5{a R:Type}{e:a}{f g:a->Option R}(h:∀x,f x=g x):vl e f=vl e g:=h e
def J1(m n:Nat):Bool:=decide (m+n<4611686018427387904)
def fx1{A R:Type}{f g:A->R}(b:∀a,f a=g a):f=g:=funext b
def fx2{A B R:Type}{f g:A->B->R}(c:∀a b,f a b=g a b):f=g:=funext λa=>fx1 (c a)
def fx3{A B C R:Type}{f g:A->B->C->R}(d:∀a b c,f a b c=g a b c):f=g:=funext λa=>fx2 (d a)
def fx4{A B C D R:Type}{f g:A->B->C->D->R}(e:∀a b c d,f a b c d=g a b c d):f=g:=funext λa=>fx3 (e a)
def fx5{A B C D E R:Type}{f g:A->B->C->D->E->R}(h:∀a b c d e,f a b c d e=g a b c d e):f=g:=funext λa=>fx4 (h a)
def fx6{A B C D E H R:Type}{f g:A->B->C->D->E->H->R}(i:∀a b c d e h,f a b c d e h=g a b c d e h):f=g:=funext λa=>fx5 (i a)
def fx7{A B C D E H I R:Type}{f g:A->B->C->D->E->H->I->R}(j:∀a b c d e h i,f a b c d e h i=g a b c d e h i):f=g:=funext λa=>fx6 (j a)
def fx8{A B C D E H I J R:Type}{f g:A->B->C->D->E->H->I->J->R}(k:∀a b c d e h i j,f a b c d e h i j=g a b c d e h i j):f=g:=funext λa=>fx7 (k a)
def fx9{A B C D E H I J K R:Type}{f g:A->B->C->D->E->H->I->J->K->R}(l:∀a b c d e h i j k,f a b c d e h i j k=g a b c d e h i j k):f=g:=funext λa=>fx8 (l a)
def Dd5{A B C D E H I J K L R:Type}{f g:A->B->C->D->E->H->I->J->K->L->R}(m:∀a b c d e h i j k l,f a b c d e h i j k l=g a b c d e h i j k l):f=g:=funext λa=>fx9 (m a)
def Cy4{α a:Type}(z:α)(f:a->List a->α->α):List a->α
 | []=>z
 | x::xs=>f x xs (Cy4 z f xs)
def Qb(n:Nat):PV->PV
 | .s (.sl z t k a)=>if n=0 then .s (.sl z t k a) else if k=n then .s (.sl z t k a) else .s (.sl z t (cond z n k) a)
 | v=>v
def Qc:List Nat->List PV->List PV
 | n::r,v::l=>Qb n v::Qc r l
 | _,l=>l
def Dx8(a:List Nat):PV->PV
 | .agg l=>.agg (Qc a l)
 | v=>Qb (a.headD 0) v
def D5:List (List Nat)->List PV->List PV
 | s::r,v::l=>Dx8 s v::D5 r l
 | _,l=>l
section
variable {L : Ctx} {sh : Nat -> Option Shp} {w : World}
def GU{n:Nat}{v:PV}{V:Value}(h:VP L sh w v V):VP L sh w (Qb n v) V:=by
 unfold Qb;split
 ·rename_i z t k a;split
  ·exact h
  ·split
   ·exact h
   ·cases z with
    | false=>exact h
    | true=>
     have b:=h.inv_s;cases b with
     | nil=>exact .s _ _ (.nil _ _)
 ·exact h
def Yi:∀(a:List Nat) (l:List PV),(Qc a l).length=l.length
 | [],_=>rfl
 | _::_,[]=>rfl
 | n::r,v::l=>by simp[Qc,Yi r l]
def LP:∀(a:List Nat) (l:List PV) (j:Nat) (h:j<l.length) (b:j<(Qc a l).length),∃n,(Qc a l)[j]=Qb n l[j]
 | [],l,j,h,b=>⟨0,by
  have e:Qc [] l=l:=by cases l<;>rfl
  simp only[e];unfold Qb;split
  ·rename_i c;rw[c];simp
  ·rfl⟩
 | n::r,v::l,0,h,b=>⟨n,rfl⟩
 | n::r,v::l,j+1,h,b=>by
  obtain⟨m,e⟩:=LP r l j (by simpa using h) (by simpa[Qc] using b);exact⟨m,by simpa[Qc] using e⟩
def Dd0{b:List Nat}{v:PV}{V:Value}(h:VP L sh w v V):VP L sh w (Dx8 b v) V:=by
 unfold Dx8;split
 ·rename_i l;obtain⟨A,rfl,hA,f⟩:=h.inv_agg;refine VP.mk_agg (by rw[Yi];exact hA) λj c=>?_
  have a:j<l.length:=by rw[Yi] at c;exact c
  obtain⟨U,e,k⟩:=f j a;obtain⟨m,d⟩:=LP b l j a c;exact⟨U,e,by rw[d];exact GU k⟩
 ·exact GU h
def Ap2:∀(a:List (List Nat)) (l:List PV),(D5 a l).length=l.length
 | [],_=>rfl
 | _::_,[]=>rfl
 | n::r,v::l=>by simp[D5,Ap2 r l]
def Dd1:∀(a:List (List Nat)) (l:List PV) (V:Array Value),CR L sh w l V->CR L sh w (D5 a l) V:=by
 intro a l V h;refine⟨by rw[Ap2];exact h.1,?_⟩;have key:∀(a:List (List Nat)) (l:List PV) (b:Nat->Option Value),(∀j (h:j<l.length),∃U,b j=some U/\VP L sh w (l[j]) U)->∀j (h:j<(D5 a l).length),∃U,b j=some U/\VP L sh w ((D5 a l)[j]) U:=by
  intro a
  induction a with
  | nil=>intro l b d j c;exact d j (by cases l<;>exact c)
  | cons s r f=>
   intro l b d j c;cases l with
   | nil=>simp[D5] at c
   | cons v l=>
    cases j with
    | zero=>
     obtain⟨U,e,k⟩:=d 0 (by simp);exact⟨U,e,Dd0 k⟩
    | succ j=>
     have:=f l (λj=>b (j+1)) (λj h=>d (j+1) (by simpa using h)) j (by simpa[D5] using c);simpa[D5] using this
 exact key a l (λj=>V[j]?) h.2
end
def C0.fix{P:Program}{G:GT}{g:Nat}{pf:List PV->Tr}(szs:List (List Nat))(h:C0 P G g pf):C0 P G g (λargs=>pf (D5 szs args)):=
 λargs ret Hc hpf C hP hGe Γ w Vs hnm hH hG hc=>h (D5 szs args) ret Hc hpf C hP hGe Γ w Vs hnm hH hG (Dd1 szs args Vs hc)
def K2{v:PV}{H:List Blk}{ret:PV}{a:List Blk}(h:L8 (.ret v H)=some (ret,a)):ret=v/\a=H:=by simp only[L8,Gk,j6,p4] at h;grind
def D2{c:Bool}{t:Tr}{ret:PV}{a:List Blk}(h:L8 (.need c t)=some (ret,a)):c=true/\L8 t=some (ret,a):=by
 cases c with
 | true=>exact⟨rfl,h⟩
 | false=>cases h
def C32{c:Bool}{a b:Tr}{ret:PV}{d:List Blk}(h:L8 (.split c a b)=some (ret,d)):(c=true/\L8 a=some (ret,d))\/(c=false/\L8 b=some (ret,d)):=by
 cases c with
 | true=>exact .inl ⟨rfl,h⟩
 | false=>exact .inr ⟨rfl,h⟩
def Dt1:∃n:Nat,100000000000000000000<=n:=⟨_,p6 _⟩
noncomputable def LF:Nat:=ac5 Dt1
def D6:100000000000000000000<=LF:=ad3 Dt1
attribute [irreducible] LF
def B64(b:UInt8):Nx (F1 b)=b:=by simp[Nx,F1,SV.gI]
def Ad(l:By):(l.map F1).map Nx=l:=by
 rw[ag9];have:Nx ∘ F1=id:=by funext b;exact B64 b
 rw[this,List.map_id]
def B90(b:UInt8):Qg (F1 b)=true:=by have:=b.toNat_lt;simp only[Qg,F1,o0,af];omega
def Z3(l:By):(l.map F1).all Qg=true:=by rw[ag8];simp[Function.comp_def,B90]
def D19(n:Nat):o7 .u8 (n:Int)=((n % 256:Nat):Int):=by simp[o7,ab7,aa1]
def B27(n:Nat):o7 .u16 (n:Int)=((n % 65536:Nat):Int):=by simp[o7,ab7,aa1]
def Dp7(n:Nat):o7 .u32 (n:Int)=((n % 4294967296:Nat):Int):=by simp[o7,ab7,aa1]
def Dp8(n:Nat):o7 .u64 (n:Int)=((n % 18446744073709551616:Nat):Int):=by simp[o7,ab7,aa1]
def Dp6(n:Int)(a:-9223372036854775808<=n)(b:n<9223372036854775808):o7 .i64 n=n:=by simp[o7,ab7,aa1];split<;>omega
def Cs2(n m:Nat):Int.fdiv (n:Int) (m:Int)=((n / m:Nat):Int):=by rw[Int.fdiv_eq_ediv_of_nonneg _ (by omega)];rfl
def N6(n m:Nat):aa9 (n:Int) (m:Int)=((n / m:Nat):Int):=by rw[Int.tdiv_eq_ediv_of_nonneg (by omega)];rfl
def Dm(n m:Nat):ab9 (n:Int) (m:Int)=((n % m:Nat):Int):=by rw[Int.tmod_eq_emod_of_nonneg (by omega)];rfl
def Dw8(w a b:Nat)(c:a<2 ^ w)(d:b<2 ^ w):(x8 w (a:Int) ||| x8 w (b:Int)).toNat=a ||| b:=by simp[ad4,o9 c,o9 d]
def Du4(w a b:Nat)(c:a<2 ^ w)(d:b<2 ^ w):(x8 w (a:Int) &&& x8 w (b:Int)).toNat=a &&& b:=by simp[ad4,o9 c,o9 d]
def Dz2(a b i:Nat)(h:a<2 ^ i):a ||| (b*2 ^ i)=a+b*2 ^ i:=by rw[Nat.mul_comm b,Nat.or_comm,ah0];exact(Nat.two_pow_add_eq_or_of_lt h b).symm
def Bq1(n:Nat):F1 (x4 n)=[SV.int .u8 ((n % 256:Nat):Int)]:=by simp[F1]
end
section
open Go Go.ChangeShapes Go.RowKit Go.Sort Go.WideShapes
def Bq{P:Program}{f:Nat}{fn:Func}{d:Array Value}{w:World}{R:Value->World->Prop}(m:P.funcs[f]? = some fn)(j:fn.body.isSome=true)(p:(fn.name == "runtime.NumGoroutine")=false)
  (h:Calls P f d w λe w'=>∃V,e = .returned V/\R V w'):Q6 P ((callFunc f d).run P w) R:=by
 obtain⟨c,j⟩:=ac4.1 j;intro q n o a next Q b
 have g:(callFunc f d).run P w = .ok (.enter f d) w:=by
  have k:¬ fn.name = "runtime.NumGoroutine":=by simpa using p
  simp[callFunc,m,j,k,ad9]
 rw[g];simp only[ac2];refine⟨λh=>(by simp[I4,ab8] at h),?_⟩;have key:CallsIn ab8 (n-1) P f d w λe w'=>∃V,e = .returned V/\R V w':=callsIn_wide.2 h
 have i:CallsIn (I4 q) (n-1) P f d w λe w'=>∃V,e = .returned V/\R V w':=key
 refine i.mono ?_;rintro e w' ⟨V,rfl,l⟩;exact b V w' l
def Cr0{C:Cfg}{d:Ctx}{w w':World}{ret:PV}{V:Value}(a:∀b,d.nm b=none)(f:HR d [] w)(c:Below w.heap.size w w')(j:VP d (A3 []) w' ret V)(i:ret.nms=[]):Bx C I0 d [] w noΦ ret [] () V w':=by
 refine⟨d,noΦ,⟨c.os,c.tape,c.output,c.size,λ_ h=>h,λ_ h=>.inl h,λb g h=>(by rw[a] at h;cases h),λ_ h=>h.elim,λg e _ _=>c.block g e,rfl,p6 _,λb h=>(by simp at h)⟩,
  ⟨λb k g h=>(by rw[a] at h;cases h),λb g h=>(by rw[a] at h;cases h),λg e=>p5 (f.stlt g e) c.size,λb h=>(by simp at h),λb h=>(by simp at h)⟩,j,by rw[i];simp,λ_ h=>h,λb g h=>(by rw[a] at h;cases h)⟩
def Qw(w:World)(n:Nat):Below w.heap.size w (w.drewN n):=⟨rfl,rfl,rfl,p6 _,λ_ _=>rfl⟩
def KI(w:World)(os:Array Obj):Below w.heap.size w (grow w os):=by refine⟨rfl,rfl,rfl,by simp[grow],λk a=>?_⟩;simp only[grow];grind
def A44(w:World)(s:ByteArray)(pos:Nat):Below w.heap.size w (w.iter s pos):=(Below.refl _ w).alloc (p6 _) _
section
variable {Γ : Ctx} {sh : Nat -> Option Shp} {w : World}
def CR.arr1{a:PV}{A:Array Value}(h:CR Γ sh w [a] A):∃U,A = #[U]/\VP Γ sh w a U:=by obtain⟨U,e,k⟩:=h.2 0 (by simp);refine⟨U,?_,k⟩;have hs:A.size=1:=h.1;grind
def CR.arr2{a b:PV}{A:Array Value}(h:CR Γ sh w [a,b] A):∃U V,A = #[U,V]/\VP Γ sh w a U/\VP Γ sh w b V:=by obtain⟨U,e,k⟩:=h.2 0 (by simp);obtain⟨V,e',k'⟩:=h.2 1 (by simp);refine⟨U,V,?_,k,k'⟩;have hs:A.size=2:=h.1;grind
def CR.arr3{a b c:PV}{A:Array Value}(h:CR Γ sh w [a,b,c] A):∃U V W,A = #[U,V,W]/\VP Γ sh w a U/\VP Γ sh w b V/\VP Γ sh w c W:=by obtain⟨U,e,k⟩:=h.2 0 (by simp);obtain⟨V,e',k'⟩:=h.2 1 (by simp);obtain⟨W,e'',k''⟩:=h.2 2 (by simp);refine⟨U,V,W,?_,k,k',k''⟩;have hs:A.size=3:=h.1;grind
def VP.mk_str(l:By):VP Γ sh w (.s (.str l)) (.string ⟨l.toArray⟩):=by have:=VP.s (Γ:=Γ) (sh:=sh) (w:=w) _ _ (VS.str (St:=Γ.St) (w:=w) ⟨l.toArray⟩);omega
def VP.mk_int(k:IntKind)(n:Int):VP Γ sh w (.s (.int k n)) (.int k n):=.s _ _ (.int k n)
def VP.mk_bool(b:Bool):VP Γ sh w (.s (.bool b)) (.bool b):=.s _ _ (.bool b)
def VP.mk_tup3{a b c:PV}{U V W:Value}(h:VP Γ sh w a U)(k:VP Γ sh w b V)(l:VP Γ sh w c W):VP Γ sh w (.tup [a,b,c]) (.tuple #[U,V,W]):=
 VP.mk_tup rfl λj hj=>by grind
end
def L1{P:Program}{G:GT}{g:Nat}{fn:Func}{k:List PV->Tr}(q:P.funcs[g]? = some fn)(d:fn.body.isSome=true)(t:(fn.name == "runtime.NumGoroutine")=false)
  (h:∀args ret b,L8 (k args)=some (ret,b)->b=[]/\ret.nms=[]/\∀C:Cfg,C.P=P->C.G=G->∀a w c,GOK C a.St w->(∀g,a.St g->g<w.heap.size)->CR a (A3 []) w args c->
   Calls P g c w λe w'=>∃V,e = .returned V/\Below w.heap.size w w'/\VP a (A3 []) w' ret V):C0 P G g k:=by
 intro args ret b i C n m a w c f j r o;obtain⟨rfl,u,l⟩:=h args ret b i;exact Bq q d t ((l C n m a w c r j.stlt o).mono λe w' ⟨V,p,d,v⟩=>⟨V,p,Cr0 f j d v u⟩)
def PV.stab(szs:List Nat)(H:List Blk):PV->PV
 | .tup l=>.tup (Qc szs (N5 H l))
 | v=>Qb (szs.headD 0) (v.snap H)
def VP.stab{Γ:Ctx}{H:List Blk}{w:World}(szs:List Nat)(hH:HR Γ H w){v:PV}{V:Value}(h:VP Γ (A3 H) w v V):VP Γ.all (A3 H) w (v.stab szs H) V:=by
 by_cases ht:∃l,v = .tup l
 ·obtain⟨l,rfl⟩:=ht;obtain⟨A,rfl,hA,hc⟩:=h.inv_tup;simp only[PV.stab];have hl:(Qc szs (N5 H l)).length=l.length:=by rw[Yi,Jo,x9]
  refine VP.mk_tup (by rw[hl];exact hA) λj hj=>?_
  obtain⟨U,e,k⟩:=hc j (by omega);refine⟨U,e,?_⟩;have hj':j<(N5 H l).length:=by rw[Jo,x9];omega
  obtain⟨n,en⟩:=LP szs (N5 H l) j hj' hj;rw[en];have e2:(N5 H l)[j]=(l[j]'(by omega)).snap H:=by
   simp only[Jo,v8]
  rw[e2];exact GU (k.snap hH)
 ·have e:v.stab szs H=Qb (szs.headD 0) (v.snap H):=by
   cases v with
   | tup l=>exact absurd ⟨l,rfl⟩ ht
   | _=>rfl
  rw[e];exact GU (h.snap hH)
def Bs7(f:List Blk->PV->PV)(Q:∀{Γ:Ctx} {H:List Blk} {w:World},HR Γ H w->∀{v:PV} {V:Value},VP Γ (A3 H) w v V->VP Γ.all (A3 H) w (f H v) V){C₀:Cfg}{g:Nat}{pf:List PV->Tr}(N:XOK C₀)(L:Lo C₀)(R:C₀.P.follows .mixedOrders=true)
  (h:∀args ret p,L8 (pf args)=some (ret,p)->D1 args=[]/\p=[]/\ret.nms=[]/\∃d c l,evC C₀ d Unit noY g args [] ()=some (c,l,())/\f l c=ret):C0 C₀.P C₀.G g pf:=by
 intro args ret p B C M t Γ w G A K J O;obtain⟨z,rfl,n,d,c,l,u,rfl⟩:=h args ret p B;have I:=Kt (C₀:=C₀) (g:=g) (pf:=λa=>match evC C₀ d Unit noY g a [] () with|some (r,H,_)=>cond (D1 a).isEmpty (.ret r H) .fail|none=>.fail) N L R (λa r H k=>by
  split at k
  ·rename_i U H' _ T;cases F:(D1 a).isEmpty with
   | true=>
    rw[F] at k;simp only[aa,L8,Gk,j6,p4] at k;grind
   | false=>rw[F] at k;cases k
  ·cases k)
 refine(I args c l (by dsimp only;rw[u];dsimp only;rw[z];rfl) C M t Γ w G A K J O).mono ?_;rintro V w' ⟨o,D,e,j,S,hvn,x,P⟩;let Γ2:Ctx:={ o.all with nm:=λ_=>none }
 have y:∀g,Γ2.St g->g<w'.heap.size:=λg i=>by
  rcases i with i|⟨b,m⟩
  ·exact j.stlt g i
  ·exact(j.lt b g m).2.1
 refine⟨Γ2,D,⟨e.os,e.tape,e.output,e.size,λg i=>.inl (e.sub g i),λg i=>?_,λb g h=>by simp[Γ2] at h,e.foot,e.frame,e.yv,p6 _,λb m=>by simp at m⟩,
  Nl (λ_=>rfl) y,?_,by rw[n];simp,x,λb g h=>by simp[Γ2] at h⟩
 ·rcases i with i|⟨b,m⟩
  ·exact e.stnew g i
  ·rcases e.own b g m with⟨q,_⟩|q
   ·simp at q
   ·exact .inr q
 ·exact VP.mono (Γ:=o.all) (Γ':=Γ2) (w:=w') (w':=w') (sh:=A3 l) (ok:=λ_=>False) ⟨λ_ _=>rfl,λ_ h=>h,λ_ h=>h.elim,λ_ h=>h.elim,λ_ _ h=>h.elim,rfl⟩ (Q j S) (by rw[n];simp)
def J5(b:List Nat){C₀:Cfg}{g:Nat}{f:List PV->Tr}(k:XOK C₀)(j:Lo C₀)(l:C₀.P.follows .mixedOrders=true)
  (h:∀args ret e,L8 (f args)=some (ret,e)->D1 args=[]/\e=[]/\ret.nms=[]/\∃d a c,evC C₀ d Unit noY g args [] ()=some (a,c,())/\a.stab b c=ret):C0 C₀.P C₀.G g f:=
 Bs7 (λH v=>v.stab b H) (λi _ _ h=>h.stab b i) k j l h
def Tr.Good(szs:List Nat)(args:List PV)(e:Option (PV × List Blk × Unit)):Tr->Prop
 | .ret v H=>D1 args=[]/\H=[]/\v.nms=[]/\∃r H0,e=some (r,H0,())/\r.stab szs H0=v
 | .need c t=>c=true->Good szs args e t
 | .split c a b=>(c=true->Good szs args e a)/\(c=false->Good szs args e b)
 | .fail=>True
def Tr.Good.res{szs:List Nat}{args:List PV}{e:Option (PV × List Blk × Unit)}{ret:PV}{Hc:List Blk}:∀{t:Tr},t.Good szs args e->L8 t=some (ret,Hc)->D1 args=[]/\Hc=[]/\ret.nms=[]/\∃r H0,e=some (r,H0,())/\r.stab szs H0=ret
 | .ret v H,h,hr=>by
  obtain⟨rfl,rfl⟩:=K2 hr;exact h
 | .need c t,h,hr=>by
  obtain⟨h0,hr⟩:=D2 hr;exact res (h h0) hr
 | .split c a b,h,hr=>by
  rcases C32 hr with⟨h0,hr⟩|⟨h0,hr⟩
  ·exact res (h.1 h0) hr
  ·exact res (h.2 h0) hr
def xf(b:List Nat)(a:Cfg){g:Nat}(d:List PV->Tr){e:List (List Nat)}{l:List (Nat × (List PV->Tr))}{c:List Nat}(n:a.X=Ah0 l)(t:L9 a.P a.G l)(p:a.okf=okL c)(o:a.P.follows .mixedOrders=true)(h:∀args,(d args).Good b args (evC a 1 Unit noY g args [] ()))(m:Bd6 a c=true:=by kernel_rfl)(i:a.Y=Mw []:=by rfl)(j:a.S=Mw []:=by rfl)(k:a.Z=Mw []:=by rfl):C0 a.P a.G g (λargs=>d (D5 e args)):=
 C0.fix e (J5 b (L9.ok n t i j k) (I1 p m) o λargs ret z q=>by
  obtain⟨u,v,w,r,f,x,y⟩:=(h args).res q;exact⟨u,v,w,1,r,f,x,y⟩)
end
section
open Go
def Ba3(n:Nat)(ret:PV)(H:List Blk):Bool:=ret.nms.all (ah1 · n)&&H.all λb=>b.nms.all (ah1 · n)
def Bx.head{C:Cfg}{σ:Type}{I:σ->(Nat->Prop)->(Nat->Prop)->World->Prop}{Γ:Ctx}{H Hc T:List Blk}{w w':World}{Φ:Nat->Prop}{s':σ}{ret:PV}{V:Value}
  (h:Bx C I Γ H w Φ ret (Hc++T) s' V w') (hl:H.length<=Hc.length) (hok:Ba3 Hc.length ret Hc=true):Bx C I Γ H w Φ ret Hc s' V w':=by
 obtain⟨Γ1,Φ1,hs,hH1,hv,hvn,hi1,hd1⟩:=h;simp only[Ba3,o0,v7,Nat.blt_eq] at hok;let Γ2:Ctx:={ Γ1 with nm:=λb=>if b<Hc.length then Γ1.nm b else none }
 have hnm:∀b g,Γ2.nm b=some g->b<Hc.length/\Γ1.nm b=some g:=λb g h=>by grind
 have get:∀b (h:b<Hc.length) (h':b<(Hc++T).length),(Hc++T)[b]=Hc[b]:=λb h h'=>ac3 h
 have shp:∀b,b<Hc.length->A3 Hc b=A3 (Hc++T) b:=λb hb=>by
  simp only[A3];grind
 have M:Am Γ1 (A3 (Hc++T)) w' Γ2 (A3 Hc) w' (· < Hc.length):=⟨λ_ _=>rfl,λ_ h=>h,λb hb=>by simp only[Γ2];rw[ac hb],λb hb=>shp b hb,λ_ _ _ _=>rfl,rfl⟩
 refine⟨Γ2,Φ1,⟨hs.os,hs.tape,hs.output,hs.size,hs.sub,hs.stnew,λb g h=>hs.own b g (hnm b g h).2,hs.foot,hs.frame,hs.yv,hl,λb hb hf=>?_⟩,
  ⟨λb b' g h1 h2=>hH1.inj b b' g (hnm b g h1).2 (hnm b' g h2).2,λb g h=>by have:=hH1.lt b g (hnm b g h).2;exact⟨(hnm b g h).1,this.2⟩,hH1.stlt,λb hb c hc=>hok.2 _ (o6 hb) c hc,λb hb=>?_⟩,
  hv.mono M (λb hb=>hok.1 b hb),λc hc=>hok.1 c hc,hi1,λb g h=>hd1 b g (hnm b g h).2⟩
 ·obtain⟨m1,m2,m3⟩:=hs.keep b hb hf;have hb2:b<Hc.length:=p5 hb hl;exact⟨by simp only[Γ2];rw[ac hb2];exact m1,by rw[shp b hb2];exact m2,m3⟩
 ·have hb':b<(Hc++T).length:=by rw[ae2];omega
  have:=hH1.blk b hb';rw[get b hb hb'] at this;exact this.mono M (M.nm b hb) (λ_ _=>rfl) (λc hc=>hok.2 _ (o6 hb) c hc)
def Hn{C₀:Cfg}{g:Nat}{n:List PV->List Blk->Tr}(x:XOK C₀)(u:Lo C₀)(F:C₀.P.follows .mixedOrders=true)
  (h:∀args H ret a,L8 (n args H)=some (ret,a)->s9 H.length a.length=true/\Ba3 a.length ret a=true/\∀(b:Type) (f:Yh b) (s:b),∃d c,evC C₀ d b f g args H s=some (ret,c,s)/\c.take a.length=a):Xh C₀.P C₀.G g n:=by
 intro C v q b I f S t M args H s ret a j T U w o k r A B z y G;obtain⟨D,i,p⟩:=h args H ret a j;obtain⟨d,c,e,L⟩:=p b f s;rw[<-List.take_append_drop a.length c,L] at e;refine(Lz x u F d b I f S t M g args H s ret (a++c.drop a.length) s e T U w o k r (A.congr q.symm) B z y G).mono ?_;rintro V w' J;obtain⟨l,m,K,N,O,P,Q,R⟩:=J.head (Nat.le_of_ble_eq_true D) i;exact⟨l,m,K.congr v.symm,N,O,P,Q,R⟩
def JY(P:Program):List (Nat × (SV->List (List SV)->Bool × List (List SV)))->Prop
 | []=>True
 | (g,a)::r=>Ak6 P g a/\JY P r
def JY.mem{P:Program}:∀{l:List (Nat × (SV->List (List SV)->Bool × List (List SV)))} {g:Nat} {pf:SV->List (List SV)->Bool × List (List SV)},JY P l->(g,pf)∈l->Ak6 P g pf
 | [],_,_,_,hm=>by simp at hm
 | (n,q)::r,g,pf,h,hm=>by
  rcases y5.1 hm with e|hm
  ·cases e;exact h.1
  ·exact JY.mem h.2 hm
def D88{C:Cfg}{lx:List (Nat × (List PV->Tr))}{ly:List (Nat × (List PV->List Blk->Tr))}{ls:List (Nat × (List PV->List Blk->Option (Bool × List (List PV))))}{lz:List (Nat × (SV->List (List SV)->Bool × List (List SV)))}(a:C.X=Ah0 lx)(b:C.Y=Mw ly)(c:C.S=Mw ls)(d:C.Z=Mw lz)(x:L9 C.P C.G lx)(y:Kw C.P C.G ly)(s:Kv C.P C.G ls)(z:JY C.P lz):XOK C:=
 ⟨L9.x1 a x,Kw.ok b y,Kv.ok c s,λg e h=>by rw[d] at h;exact z.mem (AO h)⟩
def Ip:List Int:=(ag0 32).map λi=>((if i % 2=0 then Lib.accLo (i / 2) else Lib.accHi (i / 2):Nat):Int)
def GX:GT:=⟨λg=>cond (x3 g 1) (some (.u8,ae3)) (cond (x3 g 2) (some (.u8,Ip)) (cond (x3 g 3) (some (.u64,ae4)) (cond (x3 g 5) (some (.u8,ac1.map λn:Nat=>(n:Int))) none))),λg=>x3 g 0⟩
def D76:List (Nat × Nat × Nat × Nat)->Nat->Nat->Nat × Nat
 | [],_,_=>(0,0)
 | (t,j,e,k)::r,b,a=>cond (x3 t b&&x3 j a) (e,k) (D76 r b a)
def Dv0:List (Nat × Nat)->Nat->Option Nat
 | [],_=>none
 | (a,b)::r,i=>cond (x3 a i) (some b) (Dv0 r i)
noncomputable def D0(g:Nat)(f:List Nat)(d:Nat->Option (List Nat))(X:List (Nat × (List PV->Tr)))(b:Nat->Option (List Nat):=λ_=>none)(h:List Nat:=[])(a:Nat->Option (List Nat):=λ_=>none)(c:Option (List Nat):=none)(Y:List (Nat × (List PV->List Blk->Tr)):=[])(S:List (Nat × (List PV->List Blk->Option (Bool × List (List PV)))):=[])(e:List Nat:=[])(nt:List (Nat × Nat × Nat × Nat):=[])(rw:List (Nat × Nat):=[])(Z:List (Nat × (SV->List (List SV)->Bool × List (List SV))):=[])(i:List (Nat × List Nat × List Nat):=[])(sb:List Nat:=[]):Cfg:=
 { P:=j7,G:=GX,X:=Ah0 X,lend:=okL e,okf:=okL f,lf:=g,keep:=d,keepR:=b,xp:=okL h,keepE:=a,keepT:=c,Y:=Mw Y,S:=Mw S,nilT:=D76 nt,rowR:=Dv0 rw,Z:=Mw Z,farR:=A4 i,stab:=okL sb }
def follows:j7.follows .mixedOrders=true:=by kernel_rfl
def Cf1{n:Nat}:G0 n=true↔n<=68719476736:=by simp[G0]
def F4{n:Nat}(h:n<=68719476736):G0 n=true:=Cf1.2 h
def C6{a b:Int}(h:a<b):ltI a b=true:=by rw[Cd];simpa using h
def E4{a b:Int}(h:b<=a):ltI a b=false:=by rw[Cd];simpa using h
def Tc{a b:Int}:ltI a b=true↔a<b:=by rw[Cd];simp
def Yy{a b:Int}:ltI a b=false↔b<=a:=by rw[Cd];simp
def E6{n:Int}(a:-9223372036854775808<=n)(b:n<9223372036854775808):A1 n=n:=Dp6 n a b
def Ai2{n:Int}(a:0<=n)(b:n<18446744073709551616):D20 n=n:=by obtain⟨m,rfl⟩:=x6 a;unfold D20;rw[Dp8,o9 (by omega)]
def B29{n:Int}(a:0<=n)(b:n<4294967296):EM n=n:=by obtain⟨m,rfl⟩:=x6 a;unfold EM;rw[Dp7,o9 (by omega)]
def B28{n:Int}(a:0<=n)(b:n<65536):Ez n=n:=by obtain⟨m,rfl⟩:=x6 a;unfold Ez;rw[B27,o9 (by omega)]
def Ai3{n:Int}(a:0<=n)(b:n<256):wu8 n=n:=by obtain⟨m,rfl⟩:=x6 a;unfold wu8;rw[D19,o9 (by omega)]
def A8{a b:Int}(h:a<b:=by omega):ltI a b=true:=C6 h
def A7{a b:Int}(h:b<=a:=by omega):ltI a b=false:=E4 h
def A6{n:Int}(h:-9223372036854775808<=n:=by omega)(g:n<9223372036854775808:=by omega):A1 n=n:=E6 h g
def Po{n:Int}(h:0<=n:=by omega)(g:n<4294967296:=by omega):EM n=n:=B29 h g
def Ln{n:Int}(h:0<=n:=by omega)(g:n<65536:=by omega):Ez n=n:=B28 h g
def O2{n:Int}(h:0<=n:=by omega)(g:n<256:=by omega):wu8 n=n:=Ai3 h g
def U9{d:Sort _}{c:Prop}[Decidable c]{a b:d}(h:c:=by omega):(if c then a else b)=a:=ac h
def I9{d:Sort _}{c:Prop}[Decidable c]{a b:d}(h:¬c:=by omega):(if c then a else b)=b:=ae h
def A05(n:Nat):Ez (n:Int)=((n % 65536:Nat):Int):=B27 n
def Tu(k:IntKind)(a m:Nat)(h:m<=k.bits):Sa k (a:Int) (m:Int)=((a / 2 ^ m:Nat):Int):=by
 unfold Sa;rw[Int.toNat_natCast,Nat.min_eq_left h];have:(2:Int) ^ m=((2 ^ m:Nat):Int):=by simp
 rw[this,Cs2]
def C38{n:Nat}(h:n<256):[SV.int .u8 (n:Int)]=F1 (x4 n):=by rw[Bq1,o9 h]
def Y7{l h:Int}{n:Nat}(a:0<=l)(b:l<=h)(c:h<=n):L3 l h n=true:=by simp[L3,a,b,c]
def K6{i:Int}{n:Nat}(a:0<=i)(b:i<n):inR i n=true:=by simp[inR,a,b]
def O8{l h:Int}{n:Nat}(a:0<=l:=by omega)(b:l<=h:=by omega)(c:h<=n:=by omega):L3 l h n=true:=Y7 a b c
def H4{i:Int}{n:Nat}(a:0<=i:=by omega)(b:i<n:=by omega):inR i n=true:=K6 a b
end
section
open Go Go.Proofs
def HN(r:Option (PV × List Blk × Unit)):Bool:=match r with
 | some (.s (.bool true),_,_)=>true
 | _=>false
def Ae6{r:Option (PV × List Blk × Unit)}(h:HN r=true):∃H,r=some (.s (.bool true),H,()):=by
 unfold HN at h;split at h
 ·exact⟨_,rfl⟩
 ·cases h
def Bs8{C₀:Cfg}{g d:Nat}(f:XOK C₀)(c:Lo C₀)(i:C₀.P.follows .mixedOrders=true)(h:HN (evC C₀ d Unit noY g [] [] ())=true):C0 C₀.P C₀.G g (λargs=>match args with|[]=>.ret (.s (.bool true)) []|_=>.fail):=
 Ai6 f c i λargs ret j b=>by
  cases args with
  | nil=>
   obtain⟨rfl,rfl⟩:=K2 b;obtain⟨H,e⟩:=Ae6 h;exact⟨rfl,rfl,rfl,d,_,H,e,rfl⟩
  | cons a r=>cases b
def Da5{P:Program}{t:Nat}{v:PV}{f:Ty}(h:QG P t v)(e:My P 20 t=some [f])(i:EN P t=false):∃x,v = .s x/\f.of x:=by
 obtain⟨j,l,b,c,a⟩:=h;rw[e] at b;simp only[j6] at b;subst b;rcases a with⟨a,_⟩|⟨_,x,rfl,rfl⟩
 ·rw[i] at a;cases a
 ·simp only[Ty.ofL] at c;obtain⟨v,q,d,g,rfl⟩:=c;simp only[List.cons.injEq,and_true] at d;subst d;exact⟨_,rfl,g⟩
end
section
open Go
def C2(l:List By):LL:=l.map λs=>[SV.str s]
def E1(l:List Nat):LL:=l.map λn=>[SV.int .u16 (Int.ofNat n)]
def L7(c:UInt8):By->By->List By
 | a,[]=>[a]
 | a,b::r=>if b=c then a::L7 c [] r else L7 c (a++[b]) r
def pcs(c:UInt8)(s:By):List By:=L7 c [] s
def Kq(c:UInt8):∀(s a:By),(L7 c a s).length=s.count c+1
 | [],a=>rfl
 | b::r,a=>by
  simp only[L7,List.count_cons];by_cases h:b=c
  ·simp[h,Kq c r]
  ·simp[h,Kq c r]
def AM(c:UInt8):∀(s a:By),c∉s->L7 c a s=[a++s]
 | [],a,_=>by simp[L7]
 | b::r,a,h=>by
  simp only[y5,not_or] at h;simp only[L7];rw[ae (λe=>h.1 e.symm),AM c r _ h.2];simp
def GC(c:UInt8):∀(p a s:By),c∉p->L7 c a (p++c::s)=(a++p)::L7 c [] s
 | [],a,s,_=>by simp[L7]
 | b::r,a,s,h=>by
  simp only[y5,not_or] at h;simp only[ac6,L7];rw[ae (λe=>h.1 e.symm),GC c r _ s h.2];simp
def Bo8(c:UInt8)(s a:By):L7 c a s≠[]:=by intro h;have:=Kq c s a;rw[h] at this;simp at this
def Sb(c:UInt8):∀(s a:By),c∉a->∀x∈L7 c a s,c∉x/\x.length<=a.length+s.length
 | [],a,h,x,d=>by
  simp only[L7,List.mem_singleton] at d;subst d;exact⟨h,by simp⟩
 | b::r,a,h,x,d=>by
  simp only[L7] at d;split at d
  ·rcases y5.1 d with rfl|d
   ·exact⟨h,by simp⟩
   ·have:=Sb c r [] (by simp) x d;refine⟨this.1,?_⟩;have:=this.2;simp at this ⊢;omega
  ·rename_i e;have:=Sb c r (a++[b]) (by simp[h,Ne.symm e]) x d;refine⟨this.1,?_⟩;have:=this.2;simp at this ⊢;omega
def Y6(b:UInt8):UInt8:=if 65<=b/\b<=90 then b+32 else b
def C5(s:By):By:=s.map Y6
def dig(b:UInt8):Nat:=
 if 48<=b.toNat/\b.toNat<=57 then b.toNat-48 else if 97<=b.toNat/\b.toNat<=102 then b.toNat-87 else if 65<=b.toNat/\b.toNat<=70 then b.toNat-55 else 99
def X3:Nat:=1099511627776
def F9(base:Nat):Nat->By->Option Nat
 | n,[]=>some n
 | n,b::r=>if dig b<base then F9 base (min (n*base+dig b) X3) r else none
def Ab(s:By):Bool:=s.getD 0 0==48&&(s.getD 1 0==120||s.getD 1 0==88)
def Ar(s:By):Option Nat:=
 if s=[] then none else if Ab s then F9 16 0 (s.drop 2) else if 1<s.length/\s.getD 0 0=48 then F9 8 0 (s.drop 1) else F9 10 0 s
def D8(s:By):List By:=if 1<(pcs 46 s).length/\(pcs 46 s).getLastD []=[] then (pcs 46 s).dropLast else pcs 46 s
def Du(s:By):By:=(D8 s).getLastD []
def F8(s:By):Bool:=if Ab (Du s) then (F9 16 0 ((Du s).drop 2)).isSome else !(Du s).isEmpty&&(F9 10 0 (Du s)).isSome
def Wl(free:Nat):Nat->List By->Option Nat
 | _,[]=>none
 | v,p::r=>match Ar p with
  | none=>none
  | some n=>match r with
   | []=>if n<2 ^ free then some (v*2 ^ free+n) else none
   | r=>if n<=255 then Wl free (v*256+n) r else none
def pnB(s:By):Option Nat:=if 4<(D8 s).length then none else Wl (8*(5-(D8 s).length)) 0 (D8 s)
def oct(s:By):Option Nat:=match F9 10 0 s with
 | some n=>if n<=255/\x5 n=s then some n else none
 | none=>none
def NB:Nat->List By->Option Nat
 | v,[]=>some v
 | v,p::r=>match oct p with
  | some n=>NB (v*256+n) r
  | none=>none
def v4B(s:By):Option Nat:=if (pcs 46 s).length=4 then NB 0 (pcs 46 s) else none
def V3(v:Nat):By:=x5 (v / 16777216)++46::(x5 (v / 65536 % 256)++46::(x5 (v / 256 % 256)++46::x5 (v % 256)))
def Bb:Nat->By->Option Nat
 | n,[]=>some n
 | n,b::r=>if dig b<16 then Bb (n*16+dig b) r else none
def grp(s:By):Option Nat:=if s=[]\/4<s.length then none else Bb 0 s
def Dp(last:Bool):List By->Option (List Nat)
 | []=>some []
 | x::r=>match grp x with
  | some v=>(Dp last r).map (v::·)
  | none=>match v4B x with
   | some v=>if last=true/\r=[] then some [v / 65536,v % 65536] else none
   | none=>none
def P8(s:By)(last:Bool):Option (List Nat):=if s=[] then some [] else Dp last (pcs 58 s)
def v6B(s:By):Option (List Nat):=
 match P8 (w9 s [58,58]).1 (!(w9 s [58,58]).2.2),P8 (w9 s [58,58]).2.1 true with
 | some x,some y=>if (w9 s [58,58]).2.2 then (if x.length+y.length<=7 then some (x++j5 (8-x.length-y.length) 0++y) else none)
   else if x.length+y.length=8 then some (x++y) else none
 | _,_=>none
def Ox(l:List Nat):Nat:=(l.takeWhile (· == 0)).length
def zGo:List Nat->Nat->Nat->Nat->Nat × Nat
 | [],_,z,m=>(z,m)
 | x::r,i,z,m=>if m<Ox (x::r) then zGo r (i+1) i (Ox (x::r)) else zGo r (i+1) z m
def Qd(n:Nat):UInt8:=if n<10 then x4 (48+n) else x4 (87+n)
def Q3(v:Nat):By:=if h:v<16 then [Qd v] else Q3 (v / 16)++[Qd (v % 16)]
 termination_by v
 decreasing_by omega
def L5(l:List Nat):By:=ad7 (l.map Q3) [58]
def Cv(a:List Nat):By:=if (zGo a 0 0 0).2<2 then L5 a else L5 (a.take (zGo a 0 0 0).1)++58::58::L5 (a.drop ((zGo a 0 0 0).1+(zGo a 0 0 0).2))
def W8(n:Nat):Bool:=s9 n 1114111&&(ah1 n 55296||ah1 57343 n)
def CB(d k:Nat):Nat:=if h:455<d then CB (d / 35) (k+36) else k+36*d / (d+38)
 termination_by d
 decreasing_by omega
def R4(delta count:Nat)(first:Bool):Nat:=
 let d:=if first then delta / 700 else delta / 2
 CB (d+d / count) 0
def thr(k a:Nat):Nat:=max 1 (min 26 (36*(k+1)-a))
def X8(k a:Nat):1<=thr k a/\thr k a<=26:=by unfold thr;omega
def Bn(d:Nat):UInt8:=if d<26 then x4 (97+d) else x4 (22+d)
def Qa(b:UInt8):Option Nat:=
 if 97<=b.toNat/\b.toNat<=122 then some (b.toNat-97) else if 65<=b.toNat/\b.toNat<=90 then some (b.toNat-65) else if 48<=b.toNat/\b.toNat<=57 then some (b.toNat-22) else none
def Q8(q k a:Nat):By:=
 if h:q<thr k a then [Bn q] else Bn (thr k a+(q-thr k a) % (36-thr k a))::Q8 ((q-thr k a) / (36-thr k a)) (k+1) a
 termination_by q
 decreasing_by
  have:=X8 k a;exact Nat.lt_of_le_of_lt (Nat.div_le_self _ _) (by omega)
structure UP where
 delta:Nat
 bias:Nat
 done:Nat
 out:By
def J8(n a:Nat):List Nat->UP->UP
 | [],s=>s
 | p::r,s=>if p<n then J8 n a r { s with delta:=s.delta+1 }
  else if p=n then J8 n a r { delta:=0,bias:=R4 s.delta (s.done+1) (s.done==a),done:=s.done+1,out:=s.out++Q8 s.delta 0 s.bias }
  else J8 n a r s
def J7(n:Nat):List Nat->Nat->Nat
 | [],m=>m
 | p::r,m=>J7 n r (if n<=p then min m p else m)
def T1(b:List Nat)(a:Nat):Nat->Nat->UP->UP
 | 0,_,s=>s
 | f+1,n,s=>if s.done<b.length then
   let m:=J7 n b 1114112;let c:=J8 m a b { s with delta:=s.delta+(m-n)*(s.done+1) }
   T1 b a f (m+1) { c with delta:=c.delta+1 }
  else s
def K3(a:List Nat):By:=(a.filter (· < 128)).map x4
def Eg(a:List Nat):By × Nat:=
 if 256<a.length then ([],3) else if !(a.all W8) then ([],2)
 else ((T1 a (K3 a).length 256 128 { delta:=0,bias:=72,done:=(K3 a).length,out:=if (K3 a).isEmpty then [] else K3 a++[45] }).out,0)
def E9(a:Nat):By->Nat->Nat->Nat->Nat × By × Nat
 | [],i,w,k=>(0,[],4)
 | b::r,i,w,k=>match Qa b with
  | none=>(0,[],4)
  | some x=>if X3<i+x*w then (0,[],19) else if x<thr k a then (i+x*w,r,0)
   else if X3<w*(36-thr k a) then (0,[],19) else E9 a r (i+x*w) (w*(36-thr k a)) (k+1)
def Sw(a:Nat):∀(s:By) (i w k:Nat),(E9 a s i w k).2.2=0->(E9 a s i w k).2.1.length<s.length
 | [],i,w,k,h=>by simp[E9] at h
 | b::r,i,w,k,h=>by
  unfold E9 at h ⊢;cases d:Qa b with
  | none=>simp[d] at h
  | some x=>
   simp only[d] at h ⊢;split at h
   ·simp at h
   ·rename_i e;rw[ae e];split at h
    ·rename_i c;rw[ac c];simp
    ·rename_i c;rw[ae c];split at h
     ·simp at h
     ·rename_i f;rw[ae f];have:=Sw a r _ _ _ h;simp only[List.length_cons];omega
def W7(l:List Nat)(i n:Nat):List Nat:=l.take i++n::l.drop i
def J6(s:By)(b:List Nat)(n i a:Nat)(first:Bool):List Nat × Nat:=
 if e:s=[] then (b,0) else
  let q:=E9 a s i 1 0
  if d:q.2.2=0 then
   let count:=b.length+1;let c:=n+q.1 / count
   if W8 c then (if 256<count then ([],3) else J6 q.2.1 (W7 b (q.1 % count) c) c (q.1 % count+1) (R4 (q.1-i) count first) false)
   else ([],2)
  else ([],q.2.2)
 termination_by s.length
 decreasing_by exact Sw a s i 1 0 d
def I7:By->Nat
 | []=>0
 | b::r=>if 45∈r then I7 r+1 else 0
def P2(s:By):List Nat × Nat:=
 if 1024<s.length then ([],3) else if s.any (λb=>s9 128 b.toNat) then ([],4)
 else if 256<I7 s then ([],3)
 else J6 (if I7 s=0 then s else s.drop (I7 s+1)) ((s.take (I7 s)).map (·.toNat)) 128 0 72 true
def W9:Nat->By->Option (List Nat)
 | 0,_=>some []
 | f+1,l=>if l=[] then some [] else if (ad6 l).1=65533/\(ad6 l).2=1 then none else (W9 f (l.drop (ad6 l).2)).map ((ad6 l).1::·)
def Dq(s:By):Option (List Nat):=W9 s.length s
def Fe(s:By):Bool:=
 (P2 s).2==0&&!((P2 s).1.any λp=>s9 65 p&&s9 p 90)&&((P2 s).1.any λp=>s9 128 p)&&(Eg (P2 s).1).2==0&&(Eg (P2 s).1).1==s
def U2(b:UInt8):Bool:=(s9 97 b.toNat&&s9 b.toNat 122)||(s9 48 b.toNat&&s9 b.toNat 57)||b==45||b==95
def xnB:By:=[120,110,45,45]
def L4(s:By):Bool:=
 !s.isEmpty&&s9 s.length 63&&s.getD 0 0 !=45&&s.getD (s.length-1) 0 !=45&&s.all U2&&(!(xnB.isPrefixOf s)||Fe (s.drop 4))
def J9(s:By):By × Nat:=match Dq s with
 | none=>([],4)
 | some p=>if 256<p.length then ([],3)
  else if p.length<s.length then (match Dq (C5 s) with
   | none=>([],14)
   | some q=>if (Eg q).2=0 then (if L4 (xnB++(Eg q).1) then (xnB++(Eg q).1,0) else ([],14)) else ([],14))
  else if L4 (C5 s) then (C5 s,0) else ([],14)
def R9:By->Option By
 | []=>some []
 | b::r=>if b=37 then (match r with
   | x::y::a=>if dig x<16/\dig y<16 then (R9 a).map (x4 (16*dig x+dig y)::·) else none
   | _=>none)
  else (R9 r).map (b::·)
structure C1 where
 kind:Nat
 name:By
 v4:Nat
 v6:List Nat
 deriving DecidableEq
def z8:List Nat:=[0,0,0,0,0,0,0,0]
def M9:C1:=⟨0,[],0,z8⟩
def G5:List By->List By × Nat
 | []=>([],0)
 | x::r=>if (J9 x).2=0 then ((J9 x).1::(G5 r).1,(G5 r).2) else ([],(J9 x).2)
def I3(s:By):By:=if s.getLast? = some 46 then s.dropLast else s
def D7(s:By):C1 × Nat:=
 if 1024<s.length then (M9,3)
 else if s.head? = some 91 then (if s.getLast? = some 93/\2<=s.length then (match v6B ((s.take (s.length-1)).drop 1) with
   | some a=>(⟨3,[],0,a⟩,0)
   | none=>(M9,14)) else (M9,14))
 else match R9 s with
  | none=>(M9,14)
  | some t=>if F8 (I3 t) then (match pnB (I3 t) with
    | some v=>(⟨2,[],v,z8⟩,0)
    | none=>(M9,14))
   else if (G5 (pcs 46 (I3 t))).2=0 then (
    let name:=ad7 (G5 (pcs 46 (I3 t))).1 [46]
    if 253<name.length then (M9,3) else if F8 name then (M9,14) else (⟨1,name,0,z8⟩,0))
   else (M9,(G5 (pcs 46 (I3 t))).2)
def Bk(s:By):Bool:=s9 s.length 253&&!(F8 s)&&(pcs 46 s).all L4
def N7(h:C1):Bool:=
 if h.kind=1 then Bk h.name&&h.v4==0&&h.v6==z8 else if h.kind=2 then h.name.isEmpty&&h.v6==z8 else if h.kind=3 then h.name.isEmpty&&h.v4==0 else false
def Y4(h:C1):By:=if N7 h then (if h.kind=1 then h.name else if h.kind=2 then V3 h.v4 else 91::(Cv h.v6++[93])) else []
def Nw(a b:By):Bool:=Bk a&&Bk b&&(a==b||(46::a).isSuffixOf b)
def A2(n:Nat):Bool:=decide (n<=1000000000)
def UD{n:Nat}:A2 n=true↔n<=1000000000:=by simp[A2]
def isS:List SV->Bool|[.str _]=>true|_=>false
def elS(a:List SV):By:=(a.getD 0 .nilp).gS
def O6(o:Option Nat):Nat:=o.getD 0
def u8n(c:Int):UInt8:=x4 c.toNat
def Ah2(s p:By):By:=if p.isSuffixOf s then s.take (s.length-p.length) else s
def Iz(s p:By):By:=if p.isPrefixOf s then s.drop p.length else s
def ltN(v:Int)(n:Nat):Bool:=match v with
 | .ofNat m=>s9 (m+1) n
 | .negSucc _=>false
def E7{v:Int}{n:Nat}:ltN v n=true↔0<=v/\v<(n:Int):=by
 cases v with
 | ofNat m=>
  simp only[ltN,Nat.ble_eq,Int.ofNat_eq_natCast];omega
 | negSucc m=>
  refine⟨λh=>(by cases h),λh=>?_⟩;have:=Int.negSucc_lt_zero m;omega
def Qf(n:Int):Bool:=ltN (n+9223372036854775808) 18446744073709551616
def MA{n:Int}:Qf n=true↔-9223372036854775808<=n/\n<9223372036854775808:=by unfold Qf;rw[E7];constructor<;>rintro⟨a,b⟩<;>constructor<;>omega
def Jv(b:Nat):List PV->Tr
 | [.s (.int .i64 n)]=>.need (ltN n b) (.ret (.s (.str (x5 (j4 n)))) [])
 | _=>.fail
def Nf(b:Nat)(args:List PV):Tr:=Jv b (D5 [[0]] args)
def gvs(s:By)(last:Bool):List Nat:=(P8 s last).getD []
def v6c(i:Nat)(s:By):Nat:=((v6B s).getD z8).getD i 0
def n8(a b c d e f g h:Int):List Nat:=[a.toNat,b.toNat,c.toNat,d.toNat,e.toNat,f.toNat,g.toNat,h.toNat]
def ok8(a b c d e f g h:Int):Bool:=[a,b,c,d,e,f,g,h].all λx=>ltN x 65536
def Yw:List SV->Bool|[.int .u16 n]=>ltN n 65536|_=>false
def elN(a:List SV):Nat:=(a.getD 0 .nilp).gI.toNat
def LE(s:By):Int:=Lib.index s [58,58]
def ptI(n:Int):Bool:=match n with | .ofNat m=>W8 m | .negSucc _=>false
def F2(b:UInt8):Int:=match Qa b with|some n=>n|none=>-1
def N0(k b:Int):Int:=max 1 (min 26 (k+36-b))
def Pt:List SV->Bool|[.int .i64 _]=>true|_=>false
def elI(a:List SV):Int:=(a.getD 0 .nilp).gI
def Y3(l:List Int):By × Nat:=if 256<l.length then ([],3) else if l.all ptI then Eg (l.map j4) else ([],2)
def V2(b:Int):By->Int->Int->Int->Int × By × Int
 | [],i,w,k=>(4,[],i)
 | c::r,i,w,k=>if F2 c<0 then (4,c::r,i) else if 1099511627776<i+F2 c*w then (19,r,i+F2 c*w)
  else if F2 c<N0 k b then (0,r,i+F2 c*w) else if 1099511627776<w*(36-N0 k b) then (19,r,i+F2 c*w)
  else V2 b r (i+F2 c*w) (w*(36-N0 k b)) (k+36)
def MY(b:Int)(s:By)(i:Int):Int:=(V2 b s i 1 0).1
def NA(b:Int)(s:By)(i:Int):By:=(V2 b s i 1 0).2.1
def Wk(b:Int)(s:By)(i:Int):Int:=(V2 b s i 1 0).2.2
def Oc(l:List (List SV))(i:Nat)(n:Int):List (List SV):=l.take i++[SV.int .i64 n]::l.drop i
structure DS where
 rest:By
 n:Int
 i:Int
 b:Int
 st:Bool
 l:List (List SV)
def G6(s:DS):Int × DS:=
 if MY s.b s.rest s.i=0 then
  let c:Int:=s.l.length+1;let x:=Wk s.b s.rest s.i;let d:DS:={ rest:=NA s.b s.rest s.i,n:=s.n+aa9 x c,i:=ab9 x c,b:=R4 (x-s.i).toNat c.toNat (!s.st),st:=true,l:=s.l }
  if ptI d.n then (if 256<c then (3,d) else (0,{ d with i:=d.i+1,l:=Oc s.l d.i.toNat d.n })) else (2,d)
 else (MY s.b s.rest s.i,{ s with rest:=NA s.b s.rest s.i,i:=Wk s.b s.rest s.i })
def N1(c:UInt8):By->Int
 | []=>-1
 | b::r=>if N1 c r<0 then (if b=c then 0 else -1) else N1 c r+1
def Og(l:List Nat):List (List SV):=l.map λx:Nat=>[SV.int .i64 (x:Int)]
def Ua(s:By):List Nat:=(Dq s).getD []
def Gr(b:UInt8):Int:=if dig b<16 then dig b else -1
def Ha(s:By):By:=(R9 s).getD []
def R1(s:By):C1 × Nat:=if s.getLast? = some 93/\2<=s.length then (match v6B ((s.take (s.length-1)).drop 1) with
 | some a=>(⟨3,[],0,a⟩,0)
 | none=>(M9,14)) else (M9,14)
def mkH(b:Int)(c:By)(v4:Int)(a:List Nat):C1:=⟨if ltN b 4 then b.toNat else 0,c,v4.toNat,a⟩
def Lk(n:Int)(l:List By):Bool:=l.all λs=>!(ltI n (s.length:Int))
def Ct9(s:By):Bool:=([91]:By).isPrefixOf s
attribute [simp] C6 E4 E6 Ai2 B29 B28 Ai3 Y7 K6 F4
attribute [simp] vl
@[simp] theorem D9{n:Nat}(h:n<=1000000000):A2 n=true:=UD.2 h
@[simp] theorem Uh{v:Int}{n:Nat}(h:0<=v)(a:v<n):ltN v n=true:=E7.2 ⟨h,a⟩
def R0{n:Nat}(h:n<=1000000000:=by omega):A2 n=true:=D9 h
def N4{v:Int}{n:Nat}(h:0<=v:=by omega)(g:v<n:=by omega):ltN v n=true:=Uh h g
@[simp] theorem J4{m n:Nat}(h:m+n<4611686018427387904):J1 m n=true:=by simp[J1,h]
abbrev rv(v:PV)(H:List Blk):Option (PV × List Blk × Unit):=some (v,H,())
def M5{n:Nat}(h:A2 n=true):n<=1000000000:=UD.1 h
def G2(s:By)(i:Nat)(h:i<s.length):s.drop i=s.getD i 0::s.drop (i+1):=by rw[o5,j2 h,Option.getD_some,List.getElem_cons_drop]
def UH(s:By)(i:Nat)(h:i<s.length):s.take (i+1)=s.take i++[s.getD i 0]:=by rw[List.take_add_one,o5,j2 h];rfl
def MQ(s:By)(i:Nat)(h:i<s.length):(C5 (s.take (i+1))).map F1=(C5 (s.take i)).map F1++[F1 (Y6 (s.getD i 0))]:=by unfold C5;rw[UH s i h,ab5,ab5];rfl
def M0(b:UInt8):(b.toNat<65/\Y6 b=b)\/(90<b.toNat/\Y6 b=b)\/(65<=b.toNat/\b.toNat<=90/\((Y6 b).toNat=b.toNat+32)):=by
 unfold Y6;by_cases a:b.toNat<65
 ·refine .inl ⟨a,ae ?_⟩;intro h;have:=aa5.1 h.1;simp at this;omega
 ·by_cases c:90<b.toNat
  ·refine .inr (.inl ⟨c,ae ?_⟩);intro h;have:=aa5.1 h.2;simp at this;omega
  ·refine .inr (.inr ⟨by omega,by omega,?_⟩);rw[ac (by constructor<;>(rw[aa5];simp;omega)),UInt8.toNat_add];simp;omega
@[simp] theorem F6(s:By)(i:Nat):bAt s (i:Int)=((s.getD i 0).toNat:Int):=by simp[bAt]
@[simp] theorem Iq(s:By):bAt s 0=((s.getD 0 0).toNat:Int):=by simp[bAt]
@[simp] theorem Bv7(s:By):bAt s 1=((s.getD 1 0).toNat:Int):=by simp[bAt]
def Fc{c:Type}(s:List c)(a b:Nat):cut s (a:Int) (b:Int)=(s.take b).drop a:=by simp[cut]
@[simp] theorem Y9{b:Type}(s:List b)(a:Int):cut s a (s.length:Int)=s.drop a.toNat:=by simp[cut]
@[simp] theorem U6{a:Type}(s:List a)(b:Int):cut s 0 b=s.take b.toNat:=by simp[cut]
@[simp] theorem C3(l:List By):(C2 l).length=l.length:=by simp[C2]
@[simp] theorem S8(l:List By)(i:Nat):gX (C2 l) i 0=l.getD i []:=by
 unfold gX gC C2;by_cases h:i<l.length
 ·simp[o5,j2 h,SV.gS]
 ·simp[o5,p7 (show l.length<=i by omega),SV.gS]
@[simp] theorem O0{l:List By}{i:Nat}(h:i<l.length):okE Dr (C2 l) i 0=true:=by unfold okE C2;simp[o5,j2 h,h,Dr,okS,SV.has]
def Fx(a b:List By):C2 (a++b)=C2 a++C2 b:=by simp[C2]
def Kr(b:UInt8):u8n (b.toNat:Int)=b:=by simp[u8n]
def Ah4(b:UInt8):inR (b.toNat:Int) 256=true:=by have:=b.toNat_lt;exact H4
def Dv3{a b:UInt8}:((a.toNat:Int)==(b.toNat:Int))=(a==b):=by
 rw[ad2];simp only[beq_iff_eq];constructor
 ·intro h;exact UInt8.toNat_inj.1 (by omega)
 ·intro h;rw[h]
def S7(a:UInt8)(n:Nat)(h:n<256):((a.toNat:Int)==(n:Int))=(a==x4 n):=by rw[<-Dv3];simp[o9 h]
def Gf(p s:By):p.isPrefixOf s=(decide (p.length<=s.length)&&(s.take p.length==p)):=by
 rw[ad2];simp only[List.isPrefixOf_iff_prefix,o0,af,beq_iff_eq];constructor
 ·intro h;exact⟨h.length_le,(ac7.1 h).symm⟩
 ·rintro⟨_,h⟩;exact ac7.2 h.symm
def Pu(p s:By):p.isSuffixOf s=(decide (p.length<=s.length)&&(s.drop (s.length-p.length)==p)):=by
 rw[ad2];simp only[List.isSuffixOf_iff_suffix,o0,af,beq_iff_eq];constructor
 ·intro h;exact⟨h.length_le,(ac8.1 h).symm⟩
 ·rintro⟨_,h⟩;exact ac8.2 h.symm
end
section
open Go Go.ChangeAt Go.ChangeShapes Go.Proofs Go.RowKit Go.WideShapes
def own:ownKnob j7.godebug=none:=by kernel_rfl
def Dg4:laidOutB j7=true:=by kernel_rfl
noncomputable def gTy(g:Nat):Nat:=match j7.globals[g]? with|some x=>x.type|none=>0
noncomputable def dbT:Nat:=gTy 5
noncomputable def Dj7:Nat:=gTy 3
noncomputable def XN:Nat:=gTy 2
noncomputable def Dc8:Nat:=gTy 1
noncomputable def XM:Nat:=match j7.underlying XN with|some (.array _ e)=>e|_=>0
noncomputable def CA:Array Field:=match j7.underlying XM with|some (.struct a)=>a|_=>#[]
noncomputable def QM:Field:=match CA.toList with|a::_=>a|_=>default
noncomputable def QN:Field:=match CA.toList with|_::a::_=>a|_=>default
def Dv9:CA[0]? = some QM:=by unfold QM CA XM XN gTy;kernel_rfl
def Dw0:CA[1]? = some QN:=by unfold QN CA XM XN gTy;kernel_rfl
def Gj:List (String × DataW Unit):=[("math/bits.deBruijn32tab", Rows.laid_math_bits_deBruijn32tab), ("math/bits.deBruijn64tab", Rows.laid_math_bits_deBruijn64tab), ("internal/strconv.uint64pow10", Rows.laid_internal_strconv_uint64pow10), ("unicode/utf8.acceptRanges", Rows.laid_unicode_utf8_acceptRanges), ("unicode/utf8.first", Rows.laid_unicode_utf8_first)]
def UJ{W:World}{n:String}{g:Nat}{a:Array Value}(b:j7.globalNamed n=some g)(h:W.var? j7 n=some a):∃e x,W.heap[g]? = some (.cells a e x):=by
 unfold World.var? at h;rw[b,Option.bind_some] at h;split at h
 ·rename_i c e x d;simp only[j6] at h;subst h;exact⟨e,x,d⟩
 ·cases h
def EF{W:World}{n:String}{g t e m:Nat}{k:IntKind}{f:List Int}(l:j7.globalNamed n=some g)(d:(j7.globals[g]?).map (·.type)=some t)(w:j7.underlying t=some (.array m e))(v:j7.underlying e=some (.int k))(a:j7.cellsOf e=1)(c:j7.cellsOf t=m)
  (h:aa2 j7 W n (aa0 k f)):∃e x,W.heap[g]? = some (.cells (f.map λz=>aa7 k z).toArray e x):=by
 obtain⟨y,A,o,i,p,q,r,j,u⟩:=h;obtain rfl:=o8 (l.symm.trans q);obtain rfl:=o8 (d.symm.trans r);have b:=Lib.cells_of_tab w v a c u;have:o=(f.map λz=>aa7 k z).toArray:=by rw[<-b]
 rw[this] at j;exact UJ l j
def OL{H:Type}{enc:TypeId × Value->H}{P:Program}{w:World}{base:Nat}{sp:Nat->Bool}{held:Bool}{a:Nat}{t e:TypeId}{n:Nat}{b:List Value}{d:DataW H}{p:List MemPlace}(f:P.underlying t=some (.array n e))
  (h:z7 enc P w base sp held a t b=some (d,p)):b.length=P.cellsOf t:=by
 cases a with
 | zero=>simp[z7] at h
 | succ a=>
  simp only[z7,f] at h;split at h
  ·rename_i c;simpa using c
  ·cases h
def B40{W:World}(C : j7.globalNamed "unicode/utf8.acceptRanges" = some 2)(h:aa2 j7 W "unicode/utf8.acceptRanges" ad5) :
  ∃e x,W.heap[2]? = some (.cells (Ip.map λz=>aa7 .u8 z).toArray e x):=by
 obtain⟨M,t,v,w,p,H,a,y,A⟩:=h;obtain rfl:=o8 (C.symm.trans H);have n:(j7.globals[2]?).map (·.type)=some XN:=by unfold XN;kernel_rfl
 obtain rfl:=o8 (n.symm.trans a);have F:j7.underlying XN=some (.array 16 XM):=by unfold XN XM;kernel_rfl
 have N:=OL F A;have I:j7.cellsOf XN=32:=by unfold XN;kernel_rfl
 have b:j7.cellsOf XM=2:=by unfold XM;kernel_rfl
 have K:∃j,j7.underlying XM=some (.struct j)/\j.size=2/\∀(i:Nat) (f:Field),j[i]? = some f->j7.underlying f.type=some (.int .u8)/\f.offset=i/\j7.cellsOf f.type=1:=by
  refine⟨CA,by unfold XM CA;kernel_rfl,by unfold CA;kernel_rfl,λi f m=>?_⟩;have:i<2:=by
   have:=(w6.1 m).1;rwa [show CA.size=2 by unfold CA;kernel_rfl] at this
  match i,this with
  | 0,_=>
   obtain rfl:=o8 (m.symm.trans (show CA[0]? = some QM from Dv9));exact⟨by unfold QM;kernel_rfl,by unfold QM;kernel_rfl,by unfold QM;kernel_rfl⟩
  | 1,_=>
   obtain rfl:=o8 (m.symm.trans (show CA[1]? = some QN from Dw0));exact⟨by unfold QN;kernel_rfl,by unfold QN;kernel_rfl,by unfold QN;kernel_rfl⟩
 obtain⟨j,o,r,u⟩:=K;have l:v.toList=Ip.map λz=>aa7 .u8 z:=by
  have D:(Ip.map λz=>aa7 .u8 z).length=32:=by rw[x9];rfl
  apply List.ext_getElem?;intro q;by_cases J:q<32
  ·obtain⟨k,d,O,c,B⟩:=Lib.array_elem F A (q / 2) (by omega);simp only[aa4,ae1 (show q / 2<16 by omega),ab6,j6] at c;subst c;rw[b] at B;have L:=Lib.ints_of_struct o u (by rw[b,r]) B;have e0:=congrArg (·[q % 2]?) L;simp only[List.getElem?_take,List.getElem?_drop] at e0;rw[U9,show q / 2*2+q % 2=q by omega] at e0;rw[e0];unfold Ip;have G:∀g:Nat->Value,(w8 g (ag0 32))[q]? = some (g q):=λg=>by
    rw[aa4,ae1 J];rfl
   rw[ag9,G];rcases Nat.mod_two_eq_zero_or_one q with a|a
   ·simp[a]
   ·simp[a]
  ·rw[p7 (by omega),p7 (by omega)]
 have:v=(Ip.map λz=>aa7 .u8 z).toArray:=by rw[<-l]
 rw[this] at y;exact UJ C y
def A98{C:Cfg}(r:C.G=GX){W:World}(b:laidMet j7 Gj W)(p:W.ShapedOpen j7):GOK C (· < W.heap.size) W:=by
 have lt:∀{g:Nat} {o:Obj},W.heap[g]? = some o->g<W.heap.size:=λh=>(w6.1 h).1
 have I:aa2 j7 W "math/bits.deBruijn64tab" (aa0 .u8 (ac1.map λn:Nat=>(n:Int))):=aa3 b (by rw [show (aa0 .u8 (ac1.map λn:Nat=>(n:Int)):DataW Unit)=Rows.laid_math_bits_deBruijn64tab by kernel_rfl];simp [Gj])
 have J:aa2 j7 W "internal/strconv.uint64pow10" (aa0 .u64 ae4):=aa3 b (by rw [show (aa0 .u64 ae4:DataW Unit)=Rows.laid_internal_strconv_uint64pow10 by kernel_rfl];simp [Gj])
 have K:aa2 j7 W "unicode/utf8.acceptRanges" ad5:=aa3 b (by rw [show ad5=Rows.laid_unicode_utf8_acceptRanges by kernel_rfl];simp [Gj])
 have L:aa2 j7 W "unicode/utf8.first" (aa0 .u8 ae3):=aa3 b (by rw [show (aa0 .u8 ae3:DataW Unit)=Rows.laid_unicode_utf8_first by kernel_rfl];simp [Gj])
 have y:=EF (g:=5) (t:=dbT) (e:=5) (m:=64) (by kernel_rfl) (by unfold dbT;kernel_rfl) (by unfold dbT;kernel_rfl) (by kernel_rfl) (by kernel_rfl) (by unfold dbT;kernel_rfl) I;have A:=EF (g:=3) (t:=Dj7) (e:=115) (m:=20) (by kernel_rfl) (by unfold Dj7;kernel_rfl) (by unfold Dj7;kernel_rfl) (by kernel_rfl) (by kernel_rfl) (by unfold Dj7;kernel_rfl) J;have B:=B40 (by kernel_rfl) K;have D:=EF (g:=1) (t:=Dc8) (e:=5) (m:=256) (by kernel_rfl) (by unfold Dc8;kernel_rfl) (by unfold Dc8;kernel_rfl) (by kernel_rfl) (by kernel_rfl) (by unfold Dc8;kernel_rfl) L;have F:=cell_of_shapedOpen_int (k:=.i64) (g:=0) (t:=3) (zero:=#[.int .i64 0]) p (of_decide_eq_true (by kernel_rfl)) (by kernel_rfl) rfl (by kernel_rfl) (by kernel_rfl) (by kernel_rfl);refine⟨λg k w h=>?_,λg h=>?_⟩
 ·rw[r] at h;simp only[GX] at h;have key:∀{q:Nat} {v:IntKind} {a:List Int},(∃e x,W.heap[q]? = some (.cells (a.map λz=>aa7 v z).toArray e x))->g=q->(v,a)=(k,w)->g<W.heap.size/\∃e x,W.heap[g]? = some (.cells (w.map λz=>aa7 k z).toArray e x):=λc G H=>by
   subst G;cases H;obtain⟨e,x,c⟩:=c;exact⟨lt c,e,x,c⟩
  cases d:x3 g 1 with
  | true=>rw[d,aa] at h;exact key D (p9 d) (o8 h)
  | false=>
   rw[d,ab] at h;cases f:x3 g 2 with
   | true=>rw[f,aa] at h;exact key B (p9 f) (o8 h)
   | false=>
    rw[f,ab] at h;cases i:x3 g 3 with
    | true=>rw[i,aa] at h;exact key A (p9 i) (o8 h)
    | false=>
     rw[i,ab] at h;cases j:x3 g 5 with
     | true=>rw[j,aa] at h;exact key y (p9 j) (o8 h)
     | false=>rw[j,ab] at h;cases h
 ·rw[r] at h;have e:=p9 h;subst e;obtain⟨m,u⟩:=F;refine⟨?_,m,u⟩;apply Classical.byContradiction;intro l;simp[ai3,ad0 (ac9 l)] at u
def DM(os:Os)(args:Array Value):((y9 j7 os Gj).forCall (λ_ _=>0) ⟨#[],args,[]⟩).Shaped j7:=
 World.shaped_of_ZipB (by kernel_rfl) (by kernel_rfl)
def PB(os:Os)(args:Array Value):laidMetH j7 Gj ((y9 j7 os Gj).forCall (λ_ _=>0) ⟨#[],args,[]⟩).memory:=by rw[ac0 _ _ _ (by kernel_rfl)];exact laidMet_laidAll _ (by kernel_rfl) (by kernel_rfl)
def Bb4{H:Type}{enc:TypeId × Value->H}{os:Os}(j:os.Started){C:Cfg}(u:C.P=j7)(r:C.G=GX)(Z:XOK C)(W:Lo C){f tb:Nat}{fn:Func}{c:Code}{s:ChangeSpec}{g:List PathCond}{apart fresh handsOn again:Bool}(l:j7.inits.idxOf? f=none)(x:j7.funcs[f]? = some fn)(hb:fn.body=some c)(n:(fn.name == "runtime.NumGoroutine")=false)
  (F:∀t∈fn.params.toList,(j7.readableRec t=true/\t<j7.types.size)/\(My j7 20 t).isSome=true) (z:fn.resultTypes = #[tb]) (m:j7.underlying tb=some .bool) (q:s.vars=[])
  (p:∀ds:List (DataW H),ds.length=fn.params.toList.length->s.fn H ds = { results:=[.lit (.bool true)],args:=ds })
  (a:Array Value) (h:Nat) (o:Input.okWideB j7 ((y9 j7 os Gj).forCall (λ_ _=>0) ⟨#[],a,[]⟩) f ⟨#[],a,[]⟩=true)
  (GK:s.preB enc j7 fn g apart ((y9 j7 os Gj).forCall (λ_ _=>0) ⟨#[],a,[]⟩).memory a h=true)
  (J:s.sizedB enc j7 fn apart ((y9 j7 os Gj).forCall (λ_ _=>0) ⟨#[],a,[]⟩).memory a h=true)
  (D:∀args,Nd j7 fn.params.toList args->∃d T,evC C d Unit noY f args [] ()=some (.s (.bool true),T,())) :
  ReturnsInHanded {} ae6 os f .any (λw args=>(s.pre enc j7 fn g apart w args/\laidMetH j7 Gj w)/\sizedMet enc j7 fn (OpenSpec.ofChange s) apart w args) (s.post enc j7 fn apart fresh handsOn again):=by
 obtain⟨P,G,X,R,a0,lf,Q,M,xp,L,N,Y,S,nt,a1⟩:=C;simp only at u r;subst u;refine returnsInHanded_of_calls (C:=ae6) own j l
  (ChangeSpec.witness_shaped (enc:=enc) (C:=ae6) (os:=os) (X:=λw _=>laidMetH j7 Gj w) false (y9 j7 os Gj) a h (World.laidAll_os _ _ _) (DM os a) o GK J (PB os a)) ?_
 intro w b i _ I _ o GK A;obtain⟨_,_,_,B,y,_,_,_,_,Qe⟩:=o;have e:B=fn:=o8 (y.symm.trans x);subst e;obtain⟨⟨⟨ds,U,k,hw,hc⟩,O⟩,hz⟩:=GK;have K:=DataW.Whole.of_heap (w':=w.forCall b i) (by rfl) hw;have V:laidMet j7 Gj (w.forCall b i):=by
  rw[ac0 _ _ _ (by kernel_rfl)] at O;exact laidMet.of_heap (w':=w.forCall b i) (by rfl) O
 refine(Cq9 (apart:=apart) (fresh:=fresh) (handsOn:=handsOn) (again:=again) Z W follows Dg4 x hb n F z m q p D (w.forCall b i) (A98 r V I) w.heap.size i.args ds U k Qe K).mono λe W' ⟨v,he,F⟩=>?_
 subst he;exact ChangeSpec.post_blind F
end
section
open Go Go.Proofs
section
def Uq:List PV->Tr
 | [.s (.str s),.s (.str p),.s (.int .i64 v),.s (.int .i64 n)]=>.need (A2 (c9 s)) (.need ((c9 p)==1) (.need (v==(0:Int)) (.need (n==((-1):Int)) (.ret (.vw 0 0 (c9 (pcs (j1 p 0 0) s))) [.arr false 9 1 (C2 (pcs (j1 p 0 0) s))]))))
 | _=>.fail
def BE(args:List PV):Tr:=Uq (D5 [[0],[0],[0],[0]] args)
def Uy:List PV->Tr
 | [.s (.str s),.s (.str p)]=>.need (A2 (c9 s)) (.need ((c9 p)==1) (.ret (.vw 0 0 (c9 (pcs (j1 p 0 0) s))) [.arr false 9 1 (C2 (pcs (j1 p 0 0) s))]))
 | _=>.fail
def QK(args:List PV):Tr:=Uy (D5 [[0],[0]] args)
def VU:List PV->Tr
 | [.s (.str s),.s (.str p)]=>.need (A2 (c9 s)) (.ret (.s (.bool (ab4 p s))) [])
 | _=>.fail
def VT(args:List PV):Tr:=VU (D5 [[0],[0]] args)
def VE:List PV->Tr
 | [.s (.str s),.s (.str p)]=>.need (A2 (c9 s)) (.ret (.s (.bool (ab4 p s))) [])
 | _=>.fail
def IG(args:List PV):Tr:=VE (D5 [[0],[0]] args)
def VW:List PV->Tr
 | [.s (.str s),.s (.str p)]=>.need (A2 (c9 s)) (.ret (.s (.bool (af4 p s))) [])
 | _=>.fail
def A20(args:List PV):Tr:=VW (D5 [[0],[0]] args)
def VF:List PV->Tr
 | [.s (.str s),.s (.str p)]=>.need (A2 (c9 s)) (.ret (.s (.bool (af4 p s))) [])
 | _=>.fail
def Cm3(args:List PV):Tr:=VF (D5 [[0],[0]] args)
def IR:List PV->Tr
 | [.s (.str s),.s (.str p)]=>.need (A2 (c9 s)) (.ret (.s (.str (Ah2 s p))) [])
 | _=>.fail
def Bu1(args:List PV):Tr:=IR (D5 [[0],[0]] args)
def JQ:List PV->Tr
 | [.s (.str s),.s (.str p)]=>.need (A2 (c9 s)) (.ret (.s (.str (Ah2 s p))) [])
 | _=>.fail
def Bv3(args:List PV):Tr:=JQ (D5 [[0],[0]] args)
def IM:List PV->Tr
 | [.s (.str s),.s (.str p)]=>.need (A2 (c9 s)) (.ret (.tup [.s (.str (Iz s p)),.s (.bool (ab4 p s))]) [])
 | _=>.fail
def Bt8(args:List PV):Tr:=IM (D5 [[0],[0]] args)
def US:List PV->Tr
 | [.s (.str s),.s (.str p)]=>.need (A2 (c9 s)) (.ret (.tup [.s (.str (Iz s p)),.s (.bool (ab4 p s))]) [])
 | _=>.fail
def A14(args:List PV):Tr:=US (D5 [[0],[0]] args)
def XB:List PV->Tr
 | [.s (.str s),.s (.str p)]=>.need (A2 (c9 s)) (.ret (.s (.int .i64 (Lib.index s p))) [])
 | _=>.fail
def JJ(args:List PV):Tr:=XB (D5 [[0],[0]] args)
def WZ:List PV->Tr
 | [.s (.str s),.s (.str p)]=>.need ((c9 p)==1) (.ret (.s (.int .i64 (↑(List.count (j1 p 0 0) s):Int))) [])
 | _=>.fail
def A29(args:List PV):Tr:=WZ (D5 [[0],[0]] args)
def IB:List PV->Tr
 | [.s (.str s),.s (.int .i64 n)]=>.fail
 | _=>.fail
def Lp(args:List PV):Tr:=IB (D5 [[0],[0]] args)
def BD:List PV->Tr
 | [.s (.str s),.s (.str p),.s (.int .i64 v),.s (.int .i64 n)]=>.need (A2 (c9 s)) (.need ((c9 p)==1) (.need (v==(0:Int)) (.need (n==((-1):Int)) (.ret (.s (.sl false false 1 (C2 (pcs (j1 p 0 0) s)))) []))))
 | _=>.fail
def Aj6(args:List PV):Tr:=BD (D5 [[0],[0],[0],[0]] args)
def BT:List PV->Tr
 | [.s (.str s),.s (.str p)]=>.need (A2 (c9 s)) (.need ((c9 p)==1) (.ret (.s (.sl false false 1 (C2 (pcs (j1 p 0 0) s)))) []))
 | _=>.fail
def Xg(args:List PV):Tr:=BT (D5 [[0],[0]] args)
def VM:List PV->Tr
 | [.s (.int .i64 n)]=>.need (ltN n 4294967296) (.ret (.s (.str (x5 (j4 n)))) [])
 | _=>.fail
def A18(args:List PV):Tr:=VM (D5 [[0]] args)
def VR:List PV->Tr
 | [.s (.str s)]=>.need (A2 (c9 s)) (.ret (.s (.str (C5 s))) [])
 | _=>.fail
def IN(args:List PV):Tr:=VR (D5 [[0]] args)
def VC:List PV->Tr
 | [.s (.str s)]=>.need (A2 (c9 s)) (.ret (.s (.bool (Ab s))) [])
 | _=>.fail
def A16(args:List PV):Tr:=VC (D5 [[0]] args)
def UU:List PV->Tr
 | [.s (.str s),.s (.int .i64 base)]=>.need (A2 (c9 s)) (.need (ltN base 17) (.ret (.tup [.s (.int .i64 (↑(O6 (F9 (j4 base) 0 s)):Int)),.s (.bool (j8 (F9 (j4 base) 0 s)))]) []))
 | _=>.fail
def UT(args:List PV):Tr:=UU (D5 [[0],[0]] args)
def A21:List PV->Tr
 | [.s (.str s)]=>.need (A2 (c9 s)) (.ret (.tup [.s (.int .i64 (↑(O6 (Ar s)):Int)),.s (.bool (j8 (Ar s)))]) [])
 | _=>.fail
def Cm7(args:List PV):Tr:=A21 (D5 [[0]] args)
def IU:List PV->Tr
 | [.s (.str s)]=>.need (A2 (c9 s)) (.ret (.s (.sl false false 1 (C2 (D8 s)))) [])
 | _=>.fail
def WA(args:List PV):Tr:=IU (D5 [[0]] args)
def Ur:List PV->Tr
 | [.s (.str s)]=>.need (A2 (c9 s)) (.ret (.s (.bool (F8 s))) [])
 | _=>.fail
def Sl(args:List PV):Tr:=Ur (D5 [[0]] args)
def WE:List PV->Tr
 | [.s (.str s)]=>.need (A2 (c9 s)) (.ret (.tup [.s (.int .u32 (↑(O6 (pnB s)):Int)),.s (.bool (j8 (pnB s)))]) [])
 | _=>.fail
def Cm9(args:List PV):Tr:=WE (D5 [[0]] args)
def A33:List PV->Tr
 | [.s (.str s)]=>.need (A2 (c9 s)) (.ret (.tup [.s (.int .u32 (↑(O6 (v4B s)):Int)),.s (.bool (j8 (v4B s)))]) [])
 | _=>.fail
def Dt5(args:List PV):Tr:=A33 (D5 [[0]] args)
def A32:List PV->Tr
 | [.s (.int .u32 v)]=>.need (ltN v 4294967296) (.ret (.s (.str (V3 (j4 v)))) [])
 | _=>.fail
def Dt4(args:List PV):Tr:=A32 (D5 [[0]] args)
def Ut:List PV->Tr
 | [.s (.str s)]=>.need (A2 (c9 s)) (.ret (.s (.bool ((not (k9 s))&&(j8 (F9 10 0 s))))) [])
 | _=>.fail
def QH(args:List PV):Tr:=Ut (D5 [[0]] args)
def WN:List PV->Tr
 | [.s (.str s)]=>.need (A2 (c9 s)) (.ret (.s (.str (C5 s))) [])
 | _=>.fail
def Cn4(args:List PV):Tr:=WN (D5 [[0]] args)
def BP:List PV->Tr
 | [.s (.str s),.s (.int .u8 c)]=>.need (A2 (c9 s)) (.need (inR c 256) (.ret (.s (.sl false false 1 (C2 (pcs (u8n c) s)))) []))
 | _=>.fail
def Lq(args:List PV):Tr:=BP (D5 [[0],[0]] args)
def A15:List PV->Tr
 | [.s (.int .i64 n)]=>.need (ltN n 4294967296) (.ret (.s (.str (x5 (j4 n)))) [])
 | _=>.fail
def BC(args:List PV):Tr:=A15 (D5 [[0]] args)
def WI:List PV->Tr
 | [.s (.int .u8 b)]=>.need (inR b 256) (.ret (.s (.int .i64 (↑(dig (u8n b)):Int))) [])
 | _=>.fail
def Cn1(args:List PV):Tr:=WI (D5 [[0]] args)
def WQ:List PV->Tr
 | [.s (.str s)]=>.need (A2 (c9 s)) (.ret (.tup [.s (.int .i64 (↑(O6 (Ar s)):Int)),.s (.bool (j8 (Ar s)))]) [])
 | _=>.fail
def A27(args:List PV):Tr:=WQ (D5 [[0]] args)
def BN:List PV->Tr
 | [.s (.str s)]=>.need (A2 (c9 s)) (.ret (.s (.sl false false 1 (C2 (D8 s)))) [])
 | _=>.fail
def JF(args:List PV):Tr:=BN (D5 [[0]] args)
def Qm:List PV->Tr
 | [.s (.str s)]=>.need (A2 (c9 s)) (.ret (.s (.bool (F8 s))) [])
 | _=>.fail
def Uw(args:List PV):Tr:=Qm (D5 [[0]] args)
def JH:List PV->Tr
 | [.s (.str s)]=>.need (A2 (c9 s)) (.ret (.tup [.s (.int .u32 (↑(O6 (pnB s)):Int)),.s (.bool (j8 (pnB s)))]) [])
 | _=>.fail
def Bv0(args:List PV):Tr:=JH (D5 [[0]] args)
def WH:List PV->Tr
 | [.s (.str s)]=>.need (A2 (c9 s)) (.ret (.tup [.s (.int .i64 (↑(O6 (oct s)):Int)),.s (.bool (j8 (oct s)))]) [])
 | _=>.fail
def Cn0(args:List PV):Tr:=WH (D5 [[0]] args)
def WU:List PV->Tr
 | [.s (.str s)]=>.need (A2 (c9 s)) (.ret (.tup [.s (.int .u32 (↑(O6 (v4B s)):Int)),.s (.bool (j8 (v4B s)))]) [])
 | _=>.fail
def Cn7(args:List PV):Tr:=WU (D5 [[0]] args)
def WT:List PV->Tr
 | [.s (.int .u32 v)]=>.need (ltN v 4294967296) (.ret (.s (.str (V3 (j4 v)))) [])
 | _=>.fail
def Cn6(args:List PV):Tr:=WT (D5 [[0]] args)
def UY:List PV->Tr
 | [.s (.str s)]=>.need (A2 (c9 s)) (.ret (.tup [.s (.int .u16 (↑(O6 (grp s)):Int)),.s (.bool (j8 (grp s)))]) [])
 | _=>.fail
def Cl9(args:List PV):Tr:=UY (D5 [[0]] args)
def ID:List PV->Tr
 | [.s (.str s),.s (.bool last)]=>.need (A2 (c9 s)) (.ret (.tup [.s (.sl (k9 (gvs s last)) (k9 (gvs s last)) 1 (E1 (gvs s last))),.s (.bool (j8 (P8 s last)))]) [])
 | _=>.fail
def Bt4(args:List PV):Tr:=ID (D5 [[0],[0]] args)
def A36:List PV->Tr
 | [.s (.str s)]=>.need (A2 (c9 s)) (.ret (.tup [.agg [.s (.int .u16 (↑(v6c 0 s):Int)),.s (.int .u16 (↑(v6c 1 s):Int)),.s (.int .u16 (↑(v6c 2 s):Int)),.s (.int .u16 (↑(v6c 3 s):Int)),.s (.int .u16 (↑(v6c 4 s):Int)),.s (.int .u16 (↑(v6c 5 s):Int)),.s (.int .u16 (↑(v6c 6 s):Int)),.s (.int .u16 (↑(v6c 7 s):Int))],.s (.bool (j8 (v6B s)))]) [])
 | _=>.fail
def Dt8(args:List PV):Tr:=A36 (D5 [[0]] args)
def JX:List PV->Tr
 | [.agg [.s (.int .u16 a),.s (.int .u16 b),.s (.int .u16 c),.s (.int .u16 d),.s (.int .u16 e),.s (.int .u16 f),.s (.int .u16 g),.s (.int .u16 h)]]=>.need (ok8 a b c d e f g h) (.ret (.tup [.s (.int .i64 (↑((zGo (n8 a b c d e f g h) 0 0 0)).1:Int)),.s (.int .i64 (↑((zGo (n8 a b c d e f g h) 0 0 0)).2:Int))]) [])
 | _=>.fail
def Bv5(args:List PV):Tr:=JX (D5 [[0,0,0,0,0,0,0,0]] args)
def Co2:List PV->Tr
 | [.s (.int .u64 x)]=>.need (x==(16:Int)) (.ret (.s (.int .i64 (4:Int))) [])
 | _=>.fail
def Dv8(args:List PV):Tr:=Co2 (D5 [[0]] args)
def II:List PV->Tr
 | [.s (.int .i64 x)]=>.need (x==(16:Int)) (.ret (.s (.bool true)) [])
 | _=>.fail
def VK(args:List PV):Tr:=II (D5 [[0]] args)
def IC:List PV->Tr
 | [.s (.sl c a 0 ds),.s (.int .u64 v),.s (.int .i64 b),.s (.bool neg),.s (.bool app)]=>.need (ltN v 65536) (.need (b==(16:Int)) (.need (not neg) (.need (not app) (.ret (.tup [.s (.sl true true 1 List.nil),.s (.str (Q3 (j4 v)))]) []))))
 | _=>.fail
def UW(args:List PV):Tr:=IC (D5 [[0],[0],[0],[0],[0]] args)
def IH:List PV->Tr
 | [.s (.int .u64 v),.s (.int .i64 b)]=>.need (ltN v 65536) (.need (b==(16:Int)) (.ret (.s (.str (Q3 (j4 v)))) []))
 | _=>.fail
def VI(args:List PV):Tr:=IH (D5 [[0],[0]] args)
def UX:List PV->Tr
 | [.s (.int .u64 v),.s (.int .i64 b)]=>.need (ltN v 65536) (.need (b==(16:Int)) (.ret (.s (.str (Q3 (j4 v)))) []))
 | _=>.fail
def Cl8(args:List PV):Tr:=UX (D5 [[0],[0]] args)
def JM:List PV->Tr
 | [.s (.sl b a 1 l),.s (.str p)]=>.need (ab0 l isS) (.need (A2 (c9 (ad7 (w8 elS l) p))) (.need (A2 (c9 l)) (.ret (.s (.str (ad7 (w8 elS l) p))) [])))
 | _=>.fail
def XE(args:List PV):Tr:=JM (D5 [[1],[0]] args)
def XA:List PV->Tr
 | [.s (.str s),.s (.str p)]=>.need (A2 (c9 s)) (.ret (.tup [.s (.str ((w9 s p)).1),.s (.str (((w9 s p)).2).1),.s (.bool (((w9 s p)).2).2)]) [])
 | _=>.fail
def A30(args:List PV):Tr:=XA (D5 [[0],[0]] args)
def A35:List PV->Tr
 | [.s (.sl b a 1 l)]=>.need (ab0 l Yw) (.need (s9 (c9 l) 8) (.ret (.s (.str (L5 (w8 elN l)))) []))
 | _=>.fail
def Dt7(args:List PV):Tr:=A35 (D5 [[1]] args)
def A34:List PV->Tr
 | [.agg [.s (.int .u16 a),.s (.int .u16 b),.s (.int .u16 c),.s (.int .u16 d),.s (.int .u16 e),.s (.int .u16 f),.s (.int .u16 g),.s (.int .u16 h)]]=>.need (ok8 a b c d e f g h) (.ret (.s (.str (Cv (n8 a b c d e f g h)))) [])
 | _=>.fail
def Dt6(args:List PV):Tr:=A34 (D5 [[0,0,0,0,0,0,0,0]] args)
def WK:List PV->Tr
 | [.s (.str s)]=>.need (A2 (c9 s)) (.ret (.tup [.s (.int .u16 (↑(O6 (grp s)):Int)),.s (.bool (j8 (grp s)))]) [])
 | _=>.fail
def Cn2(args:List PV):Tr:=WK (D5 [[0]] args)
def IY:List PV->Tr
 | [.s (.str s),.s (.bool last)]=>.need (A2 (c9 s)) (.ret (.tup [.s (.sl (k9 (gvs s last)) (k9 (gvs s last)) 1 (E1 (gvs s last))),.s (.bool (j8 (P8 s last)))]) [])
 | _=>.fail
def Bu4(args:List PV):Tr:=IY (D5 [[0],[0]] args)
def Uu:List PV->Tr
 | [.s (.str s)]=>.need (A2 (c9 s)) (.ret (.s (.int .i64 (LE s))) [])
 | _=>.fail
def QI(args:List PV):Tr:=Uu (D5 [[0]] args)
def WX:List PV->Tr
 | [.s (.str s)]=>.need (A2 (c9 s)) (.ret (.tup [.agg [.s (.int .u16 (↑(v6c 0 s):Int)),.s (.int .u16 (↑(v6c 1 s):Int)),.s (.int .u16 (↑(v6c 2 s):Int)),.s (.int .u16 (↑(v6c 3 s):Int)),.s (.int .u16 (↑(v6c 4 s):Int)),.s (.int .u16 (↑(v6c 5 s):Int)),.s (.int .u16 (↑(v6c 6 s):Int)),.s (.int .u16 (↑(v6c 7 s):Int))],.s (.bool (j8 (v6B s)))]) [])
 | _=>.fail
def Cn9(args:List PV):Tr:=WX (D5 [[0]] args)
def JA:List PV->Tr
 | [.s (.int .u16 v)]=>.need (ltN v 65536) (.ret (.s (.str (Q3 (j4 v)))) [])
 | _=>.fail
def Bu6(args:List PV):Tr:=JA (D5 [[0]] args)
def WW:List PV->Tr
 | [.agg [.s (.int .u16 a),.s (.int .u16 b),.s (.int .u16 c),.s (.int .u16 d),.s (.int .u16 e),.s (.int .u16 f),.s (.int .u16 g),.s (.int .u16 h)]]=>.need (ok8 a b c d e f g h) (.ret (.s (.str (Cv (n8 a b c d e f g h)))) [])
 | _=>.fail
def Cn8(args:List PV):Tr:=WW (D5 [[0,0,0,0,0,0,0,0]] args)
def BK:List PV->Tr
 | [.s (.int .i64 n)]=>.ret (.s (.bool (ptI n))) []
 | _=>.fail
def Ql(args:List PV):Tr:=BK (D5 [[0]] args)
def BJ:List PV->Tr
 | [.s (.int .i64 d),.s (.int .i64 c),.s (.bool f)]=>.need (ltN d 1152921504606846976) (.need (ltN c 1000000) (.need (ltI (0:Int) c) (.ret (.s (.int .i64 (↑(R4 (j4 d) (j4 c) f):Int))) [])))
 | _=>.fail
def Qk(args:List PV):Tr:=BJ (D5 [[0],[0],[0]] args)
def WC:List PV->Tr
 | [.s (.int .i64 d)]=>.need (ltN d 36) (.ret (.s (.int .u8 (↑(ai2 (Bn (j4 d))):Int))) [])
 | _=>.fail
def A22(args:List PV):Tr:=WC (D5 [[0]] args)
def WG:List PV->Tr
 | [.s (.int .u8 b)]=>.need (inR b 256) (.ret (.s (.int .i64 (F2 (u8n b)))) [])
 | _=>.fail
def A24(args:List PV):Tr:=WG (D5 [[0]] args)
def WF:List PV->Tr
 | [.s (.int .i64 b)]=>.ret (.fnr (Fn.func 190) [] [.ptr 1 0 0,.ptr 0 0 0]) [.box [.s (.int .i64 b)],.box [.s (.int .i64 (0:Int))]]
 | _=>.fail
def IV(args:List PV):Tr:=WF (D5 [[0]] args)
def Sm:List PV->List Blk->Tr
 | [.ptr 0 0 0,.ptr 1 0 0],[.box [.s (.int .i64 k)],.box [.s (.int .i64 b)]]=>.need (ltN k 1000000000000) (.need (ltN b 1000000) (.ret (.s (.int .i64 (N0 k b))) [.box [.s (.int .i64 (Int.add k (36:Int)))],.box [.s (.int .i64 b)]]))
 | _,_=>.fail
def VZ:List PV->List Blk->Tr
 | [.fl 0,.s (.int .i64 q),.s (.int .i64 b)],[.arr z 5 1 l]=>.need (ltN q 1152921504606846976) (.need (ltN b 1000000) (.need (s9 (c9 l) 100000) (.ret (.fl 0) [.arr z 5 1 (List.append l (w8 F1 (Q8 (j4 q) 0 (j4 b))))])))
 | _,_=>.fail
def WD:List PV->Tr
 | [.s (.sl b a 1 p)]=>.need (ab0 p Pt) (.ret (.tup [.s (.str ((Y3 (w8 elI p))).1),.s (.int .i64 (↑((Y3 (w8 elI p))).2:Int))]) [])
 | _=>.fail
def A23(args:List PV):Tr:=WD (D5 [[1]] args)
def XD:List PV->List Blk->Tr
 | [.fl 0,.s (.int .i64 i),.fl 1],[.arr z 3 1 l,.arr false 3 1 [[.int .i64 n]]]=>.need (ltN i (Nat.add (c9 l) 1)) (.need (s9 (c9 l) 100000) (.ret (.fl 0) [.arr z 3 1 (Oc l (j4 i) n),.arr false 3 1 [[.int .i64 n]]]))
 | _,_=>.fail
def UV:List PV->List Blk->Tr
 | [.ptr 0 0 0],[.box [.s (.str a),.fl 1,.s (.int .i64 n),.s (.int .i64 i),.s (.int .i64 b),.s (.bool c)],.arr z 3 1 l]=>.need (A2 (c9 a)) (.need (ltN b 1000000) (.need (ltN i 1099511627777) (.ret (.s (.int .i64 (MY b a i))) [.box [.s (.str (NA b a i)),.fl 1,.s (.int .i64 n),.s (.int .i64 (Wk b a i)),.s (.int .i64 b),.s (.bool c)],.arr z 3 1 l])))
 | _,_=>.fail
def GP:List PV->List Blk->Tr
 | [.ptr 0 0 0],[.box [.s (.str a),.fl 1,.s (.int .i64 n),.s (.int .i64 i),.s (.int .i64 b),.s (.bool c)],.arr z 3 1 l]=>.need (A2 (c9 a)) (.need (ltN b 1000000) (.need (ltN i 1099511627777) (.need (ltN n 1152921504606846976) (.need (s9 (c9 l) 100000) (.ret (.s (.int .i64 ((G6 (DS.mk a n i b c l))).1)) [.box [.s (.str (DS.rest ((G6 (DS.mk a n i b c l))).2)),.fl 1,.s (.int .i64 (DS.n ((G6 (DS.mk a n i b c l))).2)),.s (.int .i64 (DS.i ((G6 (DS.mk a n i b c l))).2)),.s (.int .i64 (DS.b ((G6 (DS.mk a n i b c l))).2)),.s (.bool (DS.st ((G6 (DS.mk a n i b c l))).2))],.arr z 3 1 (DS.l ((G6 (DS.mk a n i b c l))).2)])))))
 | _,_=>.fail
def BG:List PV->Tr
 | [.s (.str s),.s (.int .u8 c)]=>.need (A2 (c9 s)) (.need (inR c 256) (.ret (.s (.int .i64 (N1 (u8n c) s))) []))
 | _=>.fail
def Aj8(args:List PV):Tr:=BG (D5 [[0],[0]] args)
def IL:List PV->Tr
 | [.s (.str s),.s (.int .u8 c)]=>.need (A2 (c9 s)) (.need (inR c 256) (.ret (.s (.int .i64 (N1 (u8n c) s))) []))
 | _=>.fail
def GQ(args:List PV):Tr:=IL (D5 [[0],[0]] args)
def WB:List PV->Tr
 | [.s (.str s)]=>.need (A2 (c9 s)) (.ret (.tup [.s (.sl (k9 ((P2 s)).1) (k9 ((P2 s)).1) 1 (Og ((P2 s)).1)),.s (.int .i64 (↑((P2 s)).2:Int))]) [])
 | _=>.fail
def Cm8(args:List PV):Tr:=WB (D5 [[0]] args)
def Aj5:List PV->Tr
 | [.s (.str t)]=>.fail
 | _=>.fail
def Xc(args:List PV):Tr:=Aj5 (D5 [[0]] args)
def IP:List PV->Tr
 | [.s (.str t),.s (.str p),.s (.int .i64 n)]=>.ret (.fnr (Fn.func 126) [] [.ptr 1 0 0,.ptr 0 0 0,.ptr 2 0 0]) [.box [.s (.str t)],.box [.s (.str p)],.box [.s (.int .i64 n)]]
 | _=>.fail
def VV(args:List PV):Tr:=IP (D5 [[0],[0],[0]] args)
def XF:List PV->Tr
 | [.s (.str t),.s (.str p)]=>.ret (.fnr (Fn.func 126) [] [.ptr 1 0 0,.ptr 0 0 0,.ptr 2 0 0]) [.box [.s (.str t)],.box [.s (.str p)],.box [.s (.int .i64 (0:Int))]]
 | _=>.fail
def JO(args:List PV):Tr:=XF (D5 [[0],[0]] args)
def Sp:List PV->List Blk->Option (Bool × List (List PV))
 | [.yd,.ptr 0 0 0,.ptr 1 0 0,.ptr 2 0 0],[.box [.s (.str p)],.box [.s (.str t)],.box [.s (.int .i64 n)]]=>some (((A2 (c9 t))&&(((c9 p)==1)&&(n==(0:Int)))),w8 (λ(x:By)=>([.s (.str x)]:List PV)) (pcs (j1 p 0 0) t))
 | _,_=>none
def BO:List PV->Tr
 | [.s (.int .i64 n)]=>.ret (.s (.bool (ptI n))) []
 | _=>.fail
def Xd(args:List PV):Tr:=BO (D5 [[0]] args)
def BL:List PV->Tr
 | [.s (.int .i64 d),.s (.int .i64 c),.s (.bool f)]=>.need (ltN d 1152921504606846976) (.need (ltN c 1000000) (.need (ltI (0:Int) c) (.ret (.s (.int .i64 (↑(R4 (j4 d) (j4 c) f):Int))) [])))
 | _=>.fail
def IW(args:List PV):Tr:=BL (D5 [[0],[0],[0]] args)
def WS:List PV->Tr
 | [.s (.int .i64 k),.s (.int .i64 b)]=>.need (ltN k 10000000000) (.need (ltN b 1000000) (.ret (.s (.int .i64 (N0 (Int.mul (36:Int) k) b))) []))
 | _=>.fail
def A28(args:List PV):Tr:=WS (D5 [[0],[0]] args)
def IX:List PV->Tr
 | [.s (.int .i64 d)]=>.need (ltN d 36) (.ret (.s (.int .u8 (↑(ai2 (Bn (j4 d))):Int))) [])
 | _=>.fail
def Bu3(args:List PV):Tr:=IX (D5 [[0]] args)
def WY:List PV->Tr
 | [.s (.int .u8 b)]=>.need (inR b 256) (.ret (.s (.int .i64 (F2 (u8n b)))) [])
 | _=>.fail
def Co0(args:List PV):Tr:=WY (D5 [[0]] args)
def WJ:List PV->Tr
 | [.s (.sl b a 1 p)]=>.need (ab0 p Pt) (.ret (.tup [.s (.str ((Y3 (w8 elI p))).1),.s (.int .i64 (↑((Y3 (w8 elI p))).2:Int))]) [])
 | _=>.fail
def A25(args:List PV):Tr:=WJ (D5 [[1]] args)
def JG:List PV->Tr
 | [.s (.str s)]=>.need (A2 (c9 s)) (.ret (.tup [.s (.sl (k9 ((P2 s)).1) (k9 ((P2 s)).1) 1 (Og ((P2 s)).1)),.s (.int .i64 (↑((P2 s)).2:Int))]) [])
 | _=>.fail
def Bu9(args:List PV):Tr:=JG (D5 [[0]] args)
def IO:List PV->Tr
 | [.s (.str s)]=>.need (A2 (c9 s)) (.ret (.s (.bool (Fe s))) [])
 | _=>.fail
def Bt9(args:List PV):Tr:=IO (D5 [[0]] args)
def VY:List PV->Tr
 | [.s (.str s)]=>.need (A2 (c9 s)) (.ret (.s (.bool (L4 s))) [])
 | _=>.fail
def VX(args:List PV):Tr:=VY (D5 [[0]] args)
def BY:List PV->Tr
 | [.s (.str s)]=>.need (A2 (c9 s)) (.ret (.s (.bool (j8 (Dq s)))) [])
 | _=>.fail
def Ak5(args:List PV):Tr:=BY (D5 [[0]] args)
def BU:List PV->Tr
 | [.s (.str s)]=>.need (A2 (c9 s)) (.ret (.s (.int .i64 (↑(Lib.runeCountL s):Int))) [])
 | _=>.fail
def Ak3(args:List PV):Tr:=BU (D5 [[0]] args)
def VQ:List PV->Tr
 | [.s (.str s)]=>.need (A2 (c9 s)) (.ret (.tup [.s (.str ((J9 s)).1),.s (.int .i64 (↑((J9 s)).2:Int))]) [])
 | _=>.fail
def Cm6(args:List PV):Tr:=VQ (D5 [[0]] args)
def WR:List PV->Tr
 | [.s (.str s)]=>.need (A2 (c9 s)) (.ret (.tup [.s (.sl (k9 (Ua s)) (k9 (Ua s)) 1 (Og (Ua s))),.s (.bool (j8 (Dq s)))]) [])
 | _=>.fail
def Cn5(args:List PV):Tr:=WR (D5 [[0]] args)
def JI:List PV->Tr
 | [.s (.str s)]=>.need (A2 (c9 s)) (.ret (.s (.bool (Fe s))) [])
 | _=>.fail
def Bv1(args:List PV):Tr:=JI (D5 [[0]] args)
def JE:List PV->Tr
 | [.s (.str s)]=>.need (A2 (c9 s)) (.ret (.s (.bool (L4 s))) [])
 | _=>.fail
def WO(args:List PV):Tr:=JE (D5 [[0]] args)
def JD:List PV->Tr
 | [.s (.str s)]=>.need (A2 (c9 s)) (.ret (.tup [.s (.str ((J9 s)).1),.s (.int .i64 (↑((J9 s)).2:Int))]) [])
 | _=>.fail
def Bu8(args:List PV):Tr:=JD (D5 [[0]] args)
def VB:List PV->Tr
 | [.s (.int .u8 b)]=>.need (inR b 256) (.ret (.s (.int .i64 (Gr (u8n b)))) [])
 | _=>.fail
def Cm2(args:List PV):Tr:=VB (D5 [[0]] args)
def VA:List PV->Tr
 | [.s (.str s)]=>.need (A2 (c9 s)) (.ret (.tup [.s (.str (Ha s)),.s (.bool (j8 (R9 s)))]) [])
 | _=>.fail
def Cm1(args:List PV):Tr:=VA (D5 [[0]] args)
def IE:List PV->Tr
 | [.s (.str s)]=>.need (A2 (c9 s)) (.need (Ct9 s) (.ret (.tup [.agg [.s (.int .i64 (↑(C1.kind ((R1 s)).1):Int)),.s (.str (C1.name ((R1 s)).1)),.s (.int .u32 (↑(C1.v4 ((R1 s)).1):Int)),.s (.int .u16 (↑(j1 (C1.v6 ((R1 s)).1) 0 0):Int)),.s (.int .u16 (↑(j1 (C1.v6 ((R1 s)).1) 1 0):Int)),.s (.int .u16 (↑(j1 (C1.v6 ((R1 s)).1) 2 0):Int)),.s (.int .u16 (↑(j1 (C1.v6 ((R1 s)).1) 3 0):Int)),.s (.int .u16 (↑(j1 (C1.v6 ((R1 s)).1) 4 0):Int)),.s (.int .u16 (↑(j1 (C1.v6 ((R1 s)).1) 5 0):Int)),.s (.int .u16 (↑(j1 (C1.v6 ((R1 s)).1) 6 0):Int)),.s (.int .u16 (↑(j1 (C1.v6 ((R1 s)).1) 7 0):Int))],.s (.int .i64 (↑((R1 s)).2:Int))]) []))
 | _=>.fail
def Bt5(args:List PV):Tr:=IE (D5 [[0]] args)
def BF:List PV->Tr
 | [.s (.str s)]=>.need (A2 (c9 s)) (.ret (.tup [.agg [.s (.int .i64 (↑(C1.kind ((D7 s)).1):Int)),.s (.str (C1.name ((D7 s)).1)),.s (.int .u32 (↑(C1.v4 ((D7 s)).1):Int)),.s (.int .u16 (↑(j1 (C1.v6 ((D7 s)).1) 0 0):Int)),.s (.int .u16 (↑(j1 (C1.v6 ((D7 s)).1) 1 0):Int)),.s (.int .u16 (↑(j1 (C1.v6 ((D7 s)).1) 2 0):Int)),.s (.int .u16 (↑(j1 (C1.v6 ((D7 s)).1) 3 0):Int)),.s (.int .u16 (↑(j1 (C1.v6 ((D7 s)).1) 4 0):Int)),.s (.int .u16 (↑(j1 (C1.v6 ((D7 s)).1) 5 0):Int)),.s (.int .u16 (↑(j1 (C1.v6 ((D7 s)).1) 6 0):Int)),.s (.int .u16 (↑(j1 (C1.v6 ((D7 s)).1) 7 0):Int))],.s (.int .i64 (↑((D7 s)).2:Int))]) [])
 | _=>.fail
def Aj7(args:List PV):Tr:=BF (D5 [[0]] args)
def A17:List PV->Tr
 | [.s (.str s)]=>.need (A2 (c9 s)) (.ret (.s (.bool (Bk s))) [])
 | _=>.fail
def Cm4(args:List PV):Tr:=A17 (D5 [[0]] args)
def VH:List PV->Tr
 | [.agg [.s (.int .i64 j),.s (.str i),.s (.int .u32 v4),.s (.int .u16 a),.s (.int .u16 b),.s (.int .u16 c),.s (.int .u16 d),.s (.int .u16 e),.s (.int .u16 f),.s (.int .u16 g),.s (.int .u16 h)]]=>.need (A2 (c9 i)) (.need (ltN v4 4294967296) (.need (ok8 a b c d e f g h) (.ret (.s (.bool (N7 (mkH j i v4 (n8 a b c d e f g h))))) [])))
 | _=>.fail
def VG(args:List PV):Tr:=VH (D5 [[0,0,0,0,0,0,0,0,0,0,0]] args)
def VD:List PV->Tr
 | [.agg [.s (.int .i64 j),.s (.str i),.s (.int .u32 v4),.s (.int .u16 a),.s (.int .u16 b),.s (.int .u16 c),.s (.int .u16 d),.s (.int .u16 e),.s (.int .u16 f),.s (.int .u16 g),.s (.int .u16 h)]]=>.need (A2 (c9 i)) (.need (ltN v4 4294967296) (.need (ok8 a b c d e f g h) (.ret (.s (.str (Y4 (mkH j i v4 (n8 a b c d e f g h))))) [])))
 | _=>.fail
def IF(args:List PV):Tr:=VD (D5 [[0,0,0,0,0,0,0,0,0,0,0]] args)
def UZ:List PV->Tr
 | [.s (.str p),.s (.str s)]=>.need (A2 (c9 p)) (.need (A2 (c9 s)) (.ret (.s (.bool (Nw p s))) []))
 | _=>.fail
def Cm0(args:List PV):Tr:=UZ (D5 [[0],[0]] args)
def A26:List PV->Tr
 | [.s (.int .u8 b)]=>.need (inR b 256) (.ret (.s (.int .i64 (Gr (u8n b)))) [])
 | _=>.fail
def Dt3(args:List PV):Tr:=A26 (D5 [[0]] args)
def IZ:List PV->Tr
 | [.s (.str s)]=>.need (A2 (c9 s)) (.ret (.tup [.s (.str (Ha s)),.s (.bool (j8 (R9 s)))]) [])
 | _=>.fail
def Bu5(args:List PV):Tr:=IZ (D5 [[0]] args)
def Uv:List PV->Tr
 | [.s (.str s)]=>.need (A2 (c9 s)) (.ret (.tup [.agg [.s (.int .i64 (↑(C1.kind ((D7 s)).1):Int)),.s (.str (C1.name ((D7 s)).1)),.s (.int .u32 (↑(C1.v4 ((D7 s)).1):Int)),.s (.int .u16 (↑(j1 (C1.v6 ((D7 s)).1) 0 0):Int)),.s (.int .u16 (↑(j1 (C1.v6 ((D7 s)).1) 1 0):Int)),.s (.int .u16 (↑(j1 (C1.v6 ((D7 s)).1) 2 0):Int)),.s (.int .u16 (↑(j1 (C1.v6 ((D7 s)).1) 3 0):Int)),.s (.int .u16 (↑(j1 (C1.v6 ((D7 s)).1) 4 0):Int)),.s (.int .u16 (↑(j1 (C1.v6 ((D7 s)).1) 5 0):Int)),.s (.int .u16 (↑(j1 (C1.v6 ((D7 s)).1) 6 0):Int)),.s (.int .u16 (↑(j1 (C1.v6 ((D7 s)).1) 7 0):Int))],.s (.int .i64 (↑((D7 s)).2:Int))]) [])
 | _=>.fail
def BM(args:List PV):Tr:=Uv (D5 [[0]] args)
def WM:List PV->Tr
 | [.s (.str s)]=>.need (A2 (c9 s)) (.ret (.s (.bool (Bk s))) [])
 | _=>.fail
def Cn3(args:List PV):Tr:=WM (D5 [[0]] args)
def JC:List PV->Tr
 | [.agg [.s (.int .i64 j),.s (.str i),.s (.int .u32 v4),.s (.int .u16 a),.s (.int .u16 b),.s (.int .u16 c),.s (.int .u16 d),.s (.int .u16 e),.s (.int .u16 f),.s (.int .u16 g),.s (.int .u16 h)]]=>.need (A2 (c9 i)) (.need (ltN v4 4294967296) (.need (ok8 a b c d e f g h) (.ret (.s (.bool (N7 (mkH j i v4 (n8 a b c d e f g h))))) [])))
 | _=>.fail
def Bu7(args:List PV):Tr:=JC (D5 [[0,0,0,0,0,0,0,0,0,0,0]] args)
def JB:List PV->Tr
 | [.agg [.s (.int .i64 j),.s (.str i),.s (.int .u32 v4),.s (.int .u16 a),.s (.int .u16 b),.s (.int .u16 c),.s (.int .u16 d),.s (.int .u16 e),.s (.int .u16 f),.s (.int .u16 g),.s (.int .u16 h)]]=>.need (A2 (c9 i)) (.need (ltN v4 4294967296) (.need (ok8 a b c d e f g h) (.ret (.s (.str (Y4 (mkH j i v4 (n8 a b c d e f g h))))) [])))
 | _=>.fail
def WL(args:List PV):Tr:=JB (D5 [[0,0,0,0,0,0,0,0,0,0,0]] args)
def BH:List PV->Tr
 | [.s (.int .i64 n),.s (.sl b a 1 l)]=>.need (ab0 l isS) (.need (A2 (c9 l)) (.ret (.s (.bool (Lk n (w8 elS l)))) []))
 | _=>.fail
def Aj9(args:List PV):Tr:=BH (D5 [[0],[1]] args)
end
section
variable {W R : Type} (L : Nat) (Q : G4) (Y : Yh W) (s : W) (k : Out -> St W -> Option R)
noncomputable abbrev Dx:Code:=D4 af2
noncomputable def Be(L:Nat):Cfg:=D0 L [193] (A4 [(5,[0,1,0,0,10,0])]) [] (A4 [(16,[2,0]),(15,[0,3,10,0]),(10,[0,3,10,0]),(12,[0,3,10,0]),(14,[0,3,10,0]),(8,[2,0]),(13,[0,3,1,8,0,32]),(11,[0,3,1,8,0,18]),(9,[0,3,1,8,0,5]),(7,[0,3,1,8,0]),(6,[0,3,0,9,0]),(5,[0,3,10,0,0]),(4,[0,3,10,0]),(3,[0,3]),(2,[2,0]),(1,[0,12]),(0,[0])]) [] (A4 [(0,[4]),(1,[0,3,10,0]),(2,[0,3,10,0])]) (some [2,0]) [] [] []
abbrev Kbj(R:Type):=By->Int->Int->Int->Option R
noncomputable def Ym(i:By)(v1 c g h:Int)(d:Bool)(e:Kbj R)(f:Unit->Option R):Option R:=cond d (vl (wu8 ((wu8 (c-65))+10)) λa=>vl (bOr .u16 (Ub .u16 v1 (4:Int)) (Ez a)) λb=>e i b g h) (f ())
abbrev RX(b:Code):Prop:=∀(k:Out->St W->Option R) c v1 b2 a n4 b5,A9 (Be L) Q Y b ⟨gp [(0,pS c),(3,p16 v1),(1,p8 b2),(8,pI a),(0,pI n4),(32,pB b5)] 15,[],s⟩ k=Ym c v1 b2 a n4 b5 (λc v1 d a=>k .normal ⟨gp [(0,pS c),(3,p16 v1),(10,pI d),(0,pI a)] 48,[],s⟩) (λ_=>k .ret ⟨gp [(2,p16 (0:Int)),(0,pB false)] 61,[],s⟩)
def A90:RX (R:=R) L Q Y s (cd [1,1,1,0,1,0,0,1,1,0,0,1,1,0,1,1,1,1,1] Dx):=by intro k e v1 a c d b;unfold Ym;kernel_rfl
noncomputable def Yn(o:By)(v1 a l m:Int)(r:Bool)(f:Kbj R)(q:Unit->Option R):Option R:=cond r (vl (wu8 ((wu8 (a-97))+10)) λg=>vl (bOr .u16 (Ub .u16 v1 (4:Int)) (Ez g)) λh=>f o h l m) (cond (not (ltI a 65)) (Ym o v1 a l m (not (ltI 70 a)) (λn p i j=>f n p i j) (λ_=>q ())) (Ym o v1 a l m false (λd e b c=>f d e b c) (λ_=>q ())))
abbrev DD(b:Code):Prop:=∀(k:Out->St W->Option R) c v1 b2 a n4 b5,A9 (Be L) Q Y b ⟨gp [(0,pS c),(3,p16 v1),(1,p8 b2),(8,pI a),(0,pI n4),(18,pB b5)] 29,[],s⟩ k=Yn c v1 b2 a n4 b5 (λc v1 d a=>k .normal ⟨gp [(0,pS c),(3,p16 v1),(10,pI d),(0,pI a)] 48,[],s⟩) (λ_=>k .ret ⟨gp [(2,p16 (0:Int)),(0,pB false)] 61,[],s⟩)
def A91(a:Code)(b:RX (R:=R) L Q Y s a):DD (R:=R) L Q Y s (cd [1,1,1,0,1,0,0,1,1,0,0,1,1,0,1,1,1] (I2 [1,1,1,0,1,0,0,1,1,0,0,1,1,0,1,1,1,1,1] a Dx)):=by intro k g v1 c e f d;unfold Yn;simp only[<-b k];kernel_rfl
def A92:DD (R:=R) L Q Y s (cd [1,1,1,0,1,0,0,1,1,0,0,1,1,0,1,1,1] Dx):=by intro k e v1 a c d b;exact j9 (by kernel_rfl) (A91 L Q Y s (cd [1,1,1,0,1,0,0,1,1,0,0,1,1,0,1,1,1,1,1] Dx) (A90 L Q Y s) k e v1 a c d b)
noncomputable def Yo(p:By)(v1 a n o:Int)(r:Bool)(j:Kbj R)(q:Unit->Option R):Option R:=cond r (vl (Ez (wu8 (a-48))) λl=>vl (bOr .u16 (Ub .u16 v1 (4:Int)) l) λm=>j p m n o) (cond (not (ltI a 97)) (Yn p v1 a n o (not (ltI 102 a)) (λf h b c=>j f h b c) (λ_=>q ())) (Yn p v1 a n o false (λg i d e=>j g i d e) (λ_=>q ())))
abbrev Sz(b:Code):Prop:=∀(k:Out->St W->Option R) c v1 b2 a n4 b5,A9 (Be L) Q Y b ⟨gp [(0,pS c),(3,p16 v1),(1,p8 b2),(8,pI a),(0,pI n4),(5,pB b5)] 42,[],s⟩ k=Yo c v1 b2 a n4 b5 (λc v1 d a=>k .normal ⟨gp [(0,pS c),(3,p16 v1),(10,pI d),(0,pI a)] 48,[],s⟩) (λ_=>k .ret ⟨gp [(2,p16 (0:Int)),(0,pB false)] 61,[],s⟩)
def A93(a:Code)(b:DD (R:=R) L Q Y s a):Sz (R:=R) L Q Y s (cd [1,1,1,0,1,0,0,1,1,0,0,1,1,0,1] (I2 [1,1,1,0,1,0,0,1,1,0,0,1,1,0,1,1,1] a Dx)):=by intro k g v1 c e f d;unfold Yo;simp only[<-b k];kernel_rfl
def A94:Sz (R:=R) L Q Y s (cd [1,1,1,0,1,0,0,1,1,0,0,1,1,0,1] Dx):=by intro k e v1 a c d b;exact j9 (by kernel_rfl) (A93 L Q Y s (cd [1,1,1,0,1,0,0,1,1,0,0,1,1,0,1,1,1] Dx) (A92 L Q Y s) k e v1 a c d b)
noncomputable def Gt(L n:Nat)(b:By)(v1 q a:Int)(o:Unit->Option R)(p:Int->Option R):Option R:=match n with|0=>none|n+1=>cond (ltI a q) (cond (inR a b.length) (cond (not (ltI (bAt b a) (48:Int))) (Yo b v1 (bAt b a) q a (not (ltI 57 (bAt b a))) (λi l c d=>vl (A1 (d+1)) λe=>Gt L n i l c e o p) (λ_=>o ())) (Yo b v1 (bAt b a) q a false (λj m f g=>vl (A1 (g+1)) λh=>Gt L n j m f h o p) (λ_=>o ()))) none) (p v1)
def A95(a:Code)(b:Sz (R:=R) L Q Y s a)(n:Nat)(d:By)(v1 i c:Int):E0 0 ((Be L).keep 5) (bd (Be L) Q Y (cd [1,1,1,0,1,0,0] (I2 [1,1,1,0,1,0,0,1,1,0,0,1,1,0,1] a Dx))) n ⟨gp [(0,pS d),(3,p16 v1),(10,pI i),(0,pI c)] 48,[],s⟩ k =
 Gt L n d v1 i c (λ_=>k .ret ⟨gp [(2,p16 (0:Int)),(0,pB false)] 61,[],s⟩) (λv0=>k (.exit 0) ⟨gp [(4,p16 v0)] 60,[],s⟩):=by
 induction n generalizing d v1 i c with
 | zero=>rfl
 | succ n q=>rw[Gt];exact let p:=(F0 2 (F0 1 (F5 (Be L) Q Y (cd [1,1,1,0,1,0,0,1,1,1] Dx) (lpK 0 ((Be L).keep 5) (bd (Be L) Q Y (cd [1,1,1,0,1,0,0] (I2 [1,1,1,0,1,0,0,1,1,0,0,1,1,0,1] a Dx))) n k))));(j9 (by kernel_rfl) (A0 (A0 (A0 ((b p d v1 (bAt d c) i c (not (ltI 57 (bAt d c)))).trans (congr (congr rfl (fx4 λj m e r=>(j9 (by kernel_rfl) (A5 λf=>(q j m e f))))) (by kernel_rfl))) ((b p d v1 (bAt d c) i c false).trans (congr (congr rfl (fx4 λl o g t=>(j9 (by kernel_rfl) (A5 λh=>(q l o g h))))) (by kernel_rfl)))) rfl) rfl))
noncomputable def Cs9(L:Nat)(c:By)(b:Int->Bool->Option R):Option R:=cond (c==[]) (b 0 false) (cond (ltI 4 (c.length:Int)) (b 0 false) (Gt L L c 0 (c.length:Int) 0 (λ_=>b 0 false) (λa=>b a true)))
def Dd8(a:Code)(b:Sz (R:=PV × List Blk × W) L Q Y s a)(c:By):A9 (Be L) Q Y (cd [] (I2 [1,1,1,0,1,0,0,1,1,0,0,1,1,0,1] a Dx)) ⟨[pS c]++tps 64,[],s⟩ (G1 (Be L) af2)=Cs9 L c (λd e=>some (.tup [p16 d,pB e],[],s)):=by unfold Cs9;exact(j9 (by kernel_rfl) (A0 rfl (A0 rfl ((A95 L Q Y s (F0 0 (F5 (Be L) Q Y (cd [1,1,1,1] Dx) (G1 (Be L) af2))) a b L c 0 (c.length:Int) 0).trans (by kernel_rfl)))))
def Dd9(d:Nat)(s0):evC (Be L) (d+1) W Y 193 [pS s0] [] s=Cs9 L s0 (λa b=>some (.tup [p16 a,pB b],[],s)):=
 (evE (fn:=af2) (by kernel_rfl)).trans (j9 (by kernel_rfl) (Dd8 L (evC (Be L) d) Y s (cd [1,1,1,0,1,0,0,1,1,0,0,1,1,0,1] Dx) (A94 L (evC (Be L) d) Y s) s0))
noncomputable abbrev Bv8:Code:=D4 ag6
noncomputable def Nm(L:Nat):Cfg:=D0 L [184] (A4 [(6,[1,2,0,0,0,10,0,0])]) [(125,Xg),(193,Cl9),(194,Dt5)] (A4 [(16,[4,0]),(15,[1,4,0,10,0,0]),(14,[6]),(13,[4,0]),(12,[6,5,39]),(11,[1,4,0,0,3,0]),(10,[1,4,0,10,0,0]),(9,[1,4,0,0,0,0,7,0,0,9]),(8,[1,4,0,0,0,0,0,6,0,0]),(7,[1,4,0,0,0,8,0,0]),(6,[1,4,0,10,0,0,0]),(5,[1,4,0,10,0,0]),(4,[1,4,0]),(3,[0,0,4]),(2,[4,0]),(1,[0,0,13]),(0,[0,0])]) [193,194] (A4 [(0,[6]),(1,[1,4,0,10,0,0])]) (some [4,0]) [] [] []
noncomputable def Fs(L n:Nat)(a:Bool)(c:LL)(l b:Int)(d:LL)(f:LL->Option R)(g:LL->Option R):Option R:=match n with|0=>none|n+1=>cond (ltI b l) (cond (inR b c.length) (cond (okE Dr c (j4 b) 0) (cond (A2 (c9 (gX c (j4 b) 0))) (vl (↑(O6 (grp (gX c (j4 b) 0))):Int) λh=>cond (j8 (grp (gX c (j4 b) 0))) (cond (G0 (d.length+1)) (Fs L n a c l (A1 (b+1)) (d++[[(SV.int .u16 h)]]) f g) none) (cond (A2 (c9 (gX c (j4 b) 0))) (vl (↑(O6 (v4B (gX c (j4 b) 0))):Int) λe=>cond (not (j8 (v4B (gX c (j4 b) 0)))) (f d) (cond (not a) (f d) (vl (A1 ((c.length:Int)-1)) λi=>cond (ltI b i) (f d) (vl (Sa .u32 e (16:Int)) λj=>cond (G0 (d.length+2)) (g (d++[[(SV.int .u16 (Ez j))],[(SV.int .u16 (Ez e))]])) none)))) none)) none) none) none) (g d)
def Aq0(n last0 l1 n2 n3 l4):E0 1 ((Nm L).keep 6) (bd (Nm L) Q Y (cd [1,0,1,1,1,1,0,1,0,0] Bv8)) n ⟨gp [(1,pB last0),(4,.fl 0),(0,.s (.sl false false 1 l1)),(10,.s (.sl false false 1 l1)),(0,pI n2),(0,pI n3)] 42,[.arr true 26 1 l4],s⟩ k =
 Fs L n last0 l1 n2 n3 l4 (λa=>k .ret ⟨gp [(4,.fl 1),(0,pB false)] 57,[.arr true 26 1 a,.arr true 26 1 []],s⟩) (λa=>k (.exit 0) ⟨gp [(6,.fl 0)] 56,[.arr true 26 1 a],s⟩):=by
 induction n generalizing last0 l1 n2 n3 l4 with
 | zero=>rfl
 | succ n b=>rw[Fs];simp only[<-b];kernel_rfl
noncomputable def Bx4(L:Nat)(e:By)(a:Bool)(f:LL->Option R)(g:LL->Option R):Option R:=cond (e==[]) (f []) (cond (A2 e.length) (cond (1==1) (vl (C2 (pcs (j1 ([58]:By) 0 0) e)) λb=>Fs L L a b (b.length:Int) 0 [] (λd=>g d) (λc=>f c)) none) none)
def Ct0(d:Nat)(s0 last1):evC (Nm L) (d+1) W Y 184 [pS s0,pB last1] [] s=Bx4 L s0 last1 (λb=>some (.tup [.fl 0,pB true],[.arr true 26 1 b],s)) (λb=>some (.tup [.fl 1,pB false],[.arr true 26 1 b,.arr true 26 1 []],s)):=by refine(evE (fn:=ag6) (by kernel_rfl)).trans ?_;generalize evC (Nm L) d=Q;unfold Bx4;exact(j9 (by kernel_rfl) (A0 rfl (A0 (A0 (A5 λa=>((Aq0 L Q Y s (F0 0 (F5 (Nm L) Q Y (cd [1,0,1,1,1,1,1] Bv8) (G1 (Nm L) ag6))) L last1 a (a.length:Int) 0 []).trans (by kernel_rfl))) rfl) rfl)))
noncomputable abbrev Cp9:Code:=D4 af0
noncomputable def EQ(L:Nat):Cfg:=D0 L [166] (A4 []) [(64,A30),(184,Bt4)] (A4 [(10,[2,0]),(9,[2,1]),(8,[2,1,5]),(7,[2,0]),(6,[2,1,3,1,45]),(5,[2,1,2,0,0,0,0,0]),(4,[2,1,2,0,0,0,0]),(3,[2,1,1,0,0,0]),(2,[2,1,0,0,0]),(1,[0,1,1]),(0,[0,1])]) [64] (A4 []) (some [2,0]) [] [] []
noncomputable def Sf(p o d:LL)(q:LL->LL->Option R):Option R:=cond (decide (d.length=8)) (cond (decide (8<=d.length)) (vl ((y7 0 d)++((y7 8 p)++(ae0 (0+(min p.length 8)) d))) λc=>vl (A1 ((8:Int)-(o.length:Int))) λb=>cond (decide (c.length=8)) (cond (L3 b (8:Int) 8) (cond (decide (((j4 b)+(8-(j4 b)))<=c.length)) (vl ((y7 (j4 b) c)++((y7 (8-(j4 b)) o)++(ae0 ((j4 b)+(min o.length (8-(j4 b)))) c))) λa=>cond ((decide (8=(a.length*1)))&&(okS ⟨true,true,[.int .u16,.int .u16,.int .u16,.int .u16,.int .u16,.int .u16,.int .u16,.int .u16]⟩ (j0 a) 0)) (vl (SV.gI (j1 (j0 a) 0 SV.nilp)) λf=>vl (SV.gI (j1 (j0 a) 1 SV.nilp)) λg=>vl (SV.gI (j1 (j0 a) 2 SV.nilp)) λh=>vl (SV.gI (j1 (j0 a) 3 SV.nilp)) λi=>vl (SV.gI (j1 (j0 a) 4 SV.nilp)) λj=>vl (SV.gI (j1 (j0 a) 5 SV.nilp)) λl=>vl (SV.gI (j1 (j0 a) 6 SV.nilp)) λm=>vl (SV.gI (j1 (j0 a) 7 SV.nilp)) λn=>cond (decide (8=(d.length*1))) (vl (T6 1 d.length [(SV.int .u16 f),(SV.int .u16 g),(SV.int .u16 h),(SV.int .u16 i),(SV.int .u16 j),(SV.int .u16 l),(SV.int .u16 m),(SV.int .u16 n)]) λe=>q e a) none) none) none) none) none) none) none
abbrev Az6(b:Code):Prop:=∀(k:Out->St W->Option R) x_z0 x1 y_z2 y3 b4 l5,A9 (EQ L) Q Y b ⟨gp [(2,.ptr 0 0 0),(1,.ptr 1 0 0),(3,.s (.sl x_z0 x_z0 1 x1)),(1,.s (.sl y_z2 y_z2 1 y3)),(45,pB b4)] 11,[.arr false 27 1 l5,.arr false 27 1 l5],s⟩ k=Sf x1 y3 l5 (λa c=>k .ret ⟨gp [(2,.ptr 0 0 0),(0,pB true)] 64,[.arr false 27 1 a,.arr false 27 1 c],s⟩)
def Ck3:Az6 (R:=R) L Q Y s (cd [1,1,1,1,1,1,1] Cp9):=by intro k a e b f c d;unfold Sf;kernel_rfl
abbrev Kbb(R:Type):=Int->Int->Int->Int->Int->Int->Int->Int->Bool->LL->LL->Option R
noncomputable def v6p(L:Nat)(h:By)(g:Kbb R):Option R:=cond (A2 h.length) (vl ((w9 h ([58,58]:By))).1 λj=>vl (((w9 h ([58,58]:By))).2).1 λe=>cond (A2 j.length) (vl (E1 (gvs j (not (((w9 h ([58,58]:By))).2).2))) λf=>cond (A2 e.length) (vl (A1 ((f.length:Int)+(↑(c9 (E1 (gvs e true))):Int))) λi=>cond (not (j8 (P8 j (not (((w9 h ([58,58]:By))).2).2)))) (g 0 0 0 0 0 0 0 0 false (j5 8 [(SV.int .u16 (0:Int))]) (j5 8 [(SV.int .u16 (0:Int))])) (cond (not (j8 (P8 e true))) (g 0 0 0 0 0 0 0 0 false (j5 8 [(SV.int .u16 (0:Int))]) (j5 8 [(SV.int .u16 (0:Int))])) (cond (not (((w9 h ([58,58]:By))).2).2) (cond (i !=8) (g 0 0 0 0 0 0 0 0 false (j5 8 [(SV.int .u16 (0:Int))]) (j5 8 [(SV.int .u16 (0:Int))])) (cond (((w9 h ([58,58]:By))).2).2 (cond (ltI 7 i) (g 0 0 0 0 0 0 0 0 false (j5 8 [(SV.int .u16 (0:Int))]) (j5 8 [(SV.int .u16 (0:Int))])) (Sf f (E1 (gvs e true)) (j5 8 [(SV.int .u16 (0:Int))]) (λa l=>cond ((decide (8=(a.length*1)))&&(okS ⟨true,true,[.int .u16,.int .u16,.int .u16,.int .u16,.int .u16,.int .u16,.int .u16,.int .u16]⟩ (j0 a) 0)) (g (SV.gI (j1 (j0 a) 0 SV.nilp)) (SV.gI (j1 (j0 a) 1 SV.nilp)) (SV.gI (j1 (j0 a) 2 SV.nilp)) (SV.gI (j1 (j0 a) 3 SV.nilp)) (SV.gI (j1 (j0 a) 4 SV.nilp)) (SV.gI (j1 (j0 a) 5 SV.nilp)) (SV.gI (j1 (j0 a) 6 SV.nilp)) (SV.gI (j1 (j0 a) 7 SV.nilp)) true a l) none))) (Sf f (E1 (gvs e true)) (j5 8 [(SV.int .u16 (0:Int))]) (λb m=>cond ((decide (8=(b.length*1)))&&(okS ⟨true,true,[.int .u16,.int .u16,.int .u16,.int .u16,.int .u16,.int .u16,.int .u16,.int .u16]⟩ (j0 b) 0)) (g (SV.gI (j1 (j0 b) 0 SV.nilp)) (SV.gI (j1 (j0 b) 1 SV.nilp)) (SV.gI (j1 (j0 b) 2 SV.nilp)) (SV.gI (j1 (j0 b) 3 SV.nilp)) (SV.gI (j1 (j0 b) 4 SV.nilp)) (SV.gI (j1 (j0 b) 5 SV.nilp)) (SV.gI (j1 (j0 b) 6 SV.nilp)) (SV.gI (j1 (j0 b) 7 SV.nilp)) true b m) none)))) (cond (((w9 h ([58,58]:By))).2).2 (cond (ltI 7 i) (g 0 0 0 0 0 0 0 0 false (j5 8 [(SV.int .u16 (0:Int))]) (j5 8 [(SV.int .u16 (0:Int))])) (Sf f (E1 (gvs e true)) (j5 8 [(SV.int .u16 (0:Int))]) (λc n=>cond ((decide (8=(c.length*1)))&&(okS ⟨true,true,[.int .u16,.int .u16,.int .u16,.int .u16,.int .u16,.int .u16,.int .u16,.int .u16]⟩ (j0 c) 0)) (g (SV.gI (j1 (j0 c) 0 SV.nilp)) (SV.gI (j1 (j0 c) 1 SV.nilp)) (SV.gI (j1 (j0 c) 2 SV.nilp)) (SV.gI (j1 (j0 c) 3 SV.nilp)) (SV.gI (j1 (j0 c) 4 SV.nilp)) (SV.gI (j1 (j0 c) 5 SV.nilp)) (SV.gI (j1 (j0 c) 6 SV.nilp)) (SV.gI (j1 (j0 c) 7 SV.nilp)) true c n) none))) (Sf f (E1 (gvs e true)) (j5 8 [(SV.int .u16 (0:Int))]) (λd o=>cond ((decide (8=(d.length*1)))&&(okS ⟨true,true,[.int .u16,.int .u16,.int .u16,.int .u16,.int .u16,.int .u16,.int .u16,.int .u16]⟩ (j0 d) 0)) (g (SV.gI (j1 (j0 d) 0 SV.nilp)) (SV.gI (j1 (j0 d) 1 SV.nilp)) (SV.gI (j1 (j0 d) 2 SV.nilp)) (SV.gI (j1 (j0 d) 3 SV.nilp)) (SV.gI (j1 (j0 d) 4 SV.nilp)) (SV.gI (j1 (j0 d) 5 SV.nilp)) (SV.gI (j1 (j0 d) 6 SV.nilp)) (SV.gI (j1 (j0 d) 7 SV.nilp)) true d o) none)))))) none) none) none
def D16(b:Code)(a:Az6 (R:=PV × List Blk × W) L Q Y s b)(f:By):A9 (EQ L) Q Y (cd [] (I2 [1,1,1,1,1,1,1] b Cp9)) ⟨[pS f]++tps 67,[],s⟩ (G1 (EQ L) af0)=v6p L f (λj l m n o p q r r8 i l10=>some (.tup [.agg [p16 j,p16 l,p16 m,p16 n,p16 o,p16 p,p16 q,p16 r],pB r8],[.arr false 27 1 i,.arr false 27 1 l10],s)):=by unfold v6p;exact let h:=(G1 (EQ L) af0);(j9 (by kernel_rfl) (A0 (A5 λe=>(A5 λc=>(A0 (A5 λd=>(A0 (A5 λg=>(A0 rfl (A0 rfl (A0 (A0 rfl (A0 (A0 rfl ((a h (k9 (gvs e (not (((w9 f ([58,58]:By))).2).2))) d (k9 (gvs c true)) (E1 (gvs c true)) (ltI 7 g) (j5 8 [(SV.int .u16 (0:Int))])).trans (by kernel_rfl))) ((a h (k9 (gvs e (not (((w9 f ([58,58]:By))).2).2))) d (k9 (gvs c true)) (E1 (gvs c true)) false (j5 8 [(SV.int .u16 (0:Int))])).trans (by kernel_rfl)))) (A0 (A0 rfl ((a h (k9 (gvs e (not (((w9 f ([58,58]:By))).2).2))) d (k9 (gvs c true)) (E1 (gvs c true)) (ltI 7 g) (j5 8 [(SV.int .u16 (0:Int))])).trans (by kernel_rfl))) ((a h (k9 (gvs e (not (((w9 f ([58,58]:By))).2).2))) d (k9 (gvs c true)) (E1 (gvs c true)) false (j5 8 [(SV.int .u16 (0:Int))])).trans (by kernel_rfl))))))) rfl)) rfl))) rfl))
def D17(d:Nat)(s0):evC (EQ L) (d+1) W Y 166 [pS s0] [] s=v6p L s0 (λb c e f g h i j r8 a l10=>some (.tup [.agg [p16 b,p16 c,p16 e,p16 f,p16 g,p16 h,p16 i,p16 j],pB r8],[.arr false 27 1 a,.arr false 27 1 l10],s)):=
 (evE (fn:=af0) (by kernel_rfl)).trans (j9 (by kernel_rfl) (D16 L (evC (EQ L) d) Y s (cd [1,1,1,1,1,1,1] Cp9) (Ck3 L (evC (EQ L) d) Y s) s0))
noncomputable abbrev Ss:Code:=D4 ai0
noncomputable def Ao(L:Nat):Cfg:=D0 L [62] (A4 [(6,[1,0,0,0,0,0,0,0]),(3,[1,0,0,0,0,2])]) [] (A4 [(11,[2,0]),(10,[1,2,0,2]),(9,[1,2,0,2]),(8,[1,2,0,0,0,0,18]),(7,[1,2,0,0,0,0]),(6,[1,2,0,0,0,0,13]),(5,[1,2,0,0,0,0]),(4,[1,2,0,0,1]),(3,[1,2,0,2,0]),(2,[1,2,0,2]),(1,[1,2,0]),(0,[1])]) [] (A4 [(0,[4,0]),(1,[1,2,0,2]),(2,[1,2,0,0,0,0]),(3,[1,2,0,0,0,0])]) (some [2,0]) [] [] []
abbrev Kcb(R:Type):=Int->Int->Int->Int->LL->Option R
noncomputable def Ju(L n:Nat)(b a c d:Int)(e:LL)(f:Kcb R):Option R:=match n with|0=>none|n+1=>cond (ltI (A1 (c+d)) (8:Int)) (cond (inR (A1 (c+d)) 8) (cond (okE ⟨true,false,[.int .u16]⟩ e (j4 (A1 (c+d))) 0) (vl (gE e (j4 (A1 (c+d))) 0) λg=>cond (g==0) (Ju L n b a c (A1 (d+1)) e f) (f b a c d e)) none) none) (f b a c d e)
def A11(n b a c e d):E0 1 ((Ao L).keep 6) (bd (Ao L) Q Y (cd [1,1,0,1,0,0,1,1,0,0,1,1,0,0,0] Ss)) n ⟨gp [(1,.ptr 0 0 0),(2,pI b),(0,pI a),(0,pI c),(0,pI e),(0,pI c)] 24,[.arr false 27 1 d],s⟩ k =
 Ju L n b a c e d (λb a c e d=>k (.exit 2) ⟨gp [(1,.ptr 0 0 0),(2,pI b),(0,pI a),(0,pI c),(0,pI e),(0,pI c)] 24,[.arr false 27 1 d],s⟩):=by
 induction n generalizing b a c e d with
 | zero=>rfl
 | succ n f=>rw[Ju];simp only[<-f];kernel_rfl
noncomputable def Fz(L n:Nat)(e b j:Int)(i:LL)(h:Int->Int->LL->Option R):Option R:=match n with|0=>none|n+1=>cond (ltI j 8) (Ju L L e b j 0 i (λd a c g f=>cond (ltI a g) (Fz L n c g (A1 (c+1)) f h) (Fz L n d a (A1 (c+1)) f h))) (h e b i)
def A12(n b a n2 l3):E0 1 ((Ao L).keep 3) (bd (Ao L) Q Y (cd [1,1,0,1,0,0] Ss)) n ⟨gp [(1,.ptr 0 0 0),(2,pI b),(0,pI a),(2,pI n2)] 24,[.arr false 27 1 l3],s⟩ k =
 Fz L n b a n2 l3 (λb a i=>k (.exit 0) ⟨gp [(4,pI b),(0,pI a)] 27,[.arr false 27 1 i],s⟩):=by
 induction n generalizing b a n2 l3 with
 | zero=>rfl
 | succ n h=>rw[Fz];exact(j9 (by kernel_rfl) (A0 ((A11 L Q Y s (F0 2 (F5 (Ao L) Q Y (cd [1,1,0,1,0,0,1,1,0,0,1,1,1] Ss) (F0 1 (F5 (Ao L) Q Y (cd [1,1,0,1,0,0,1,1,1] Ss) (lpK 1 ((Ao L).keep 3) (bd (Ao L) Q Y (cd [1,1,0,1,0,0] Ss)) n k))))) L b a n2 0 l3).trans (congr rfl (fx5 λe c d g f=>(j9 (by kernel_rfl) (A0 (h d g (A1 (d+1)) f) (h e c (A1 (d+1)) f)))))) rfl))
noncomputable def B39(L:Nat)(d e f g h i j l:Int)(m:Int->Int->LL->Option R):Option R:=Fz L L 0 0 0 [[(SV.int .u16 d)],[(SV.int .u16 e)],[(SV.int .u16 f)],[(SV.int .u16 g)],[(SV.int .u16 h)],[(SV.int .u16 i)],[(SV.int .u16 j)],[(SV.int .u16 l)]] (λb a c=>m b a c)
def C95(d:Nat)(a0 a1 a2 a3 a4 a5 a6 a7):evC (Ao L) (d+1) W Y 62 [.agg [p16 a0,p16 a1,p16 a2,p16 a3,p16 a4,p16 a5,p16 a6,p16 a7]] [] s=B39 L a0 a1 a2 a3 a4 a5 a6 a7 (λb c a=>some (.tup [pI b,pI c],[.arr false 27 1 a],s)):=by refine(evE (fn:=ai0) (by kernel_rfl)).trans ?_;generalize evC (Ao L) d=Q;unfold B39;exact(j9 (by kernel_rfl) ((A12 L Q Y s (F0 0 (F5 (Ao L) Q Y (cd [1,1,1] Ss) (G1 (Ao L) ai0))) L 0 0 0 [[(SV.int .u16 a0)],[(SV.int .u16 a1)],[(SV.int .u16 a2)],[(SV.int .u16 a3)],[(SV.int .u16 a4)],[(SV.int .u16 a5)],[(SV.int .u16 a6)],[(SV.int .u16 a7)]]).trans (by kernel_rfl)))
noncomputable abbrev Du3:Code:=D4 ai1
noncomputable def KV(L:Nat):Cfg:=D0 L [63] (A4 [(3,[2,0,2,0,0])]) [(101,Cl8),(102,XE)] (A4 [(7,[2]),(6,[3,2,0,0]),(5,[3,2,0,0]),(4,[3,1,0,0,0]),(3,[3,2,0,0,0]),(2,[3,2,0,0]),(1,[0,2]),(0,[0])]) [101,102] (A4 [(0,[3]),(1,[3,2,0,0])]) (some [2]) [] [] []
noncomputable def Wx(L n:Nat)(h g:Bool)(c:LL)(f b:Int)(d:LL)(e:LL->Option R):Option R:=match n with|0=>none|n+1=>cond (ltI b f) (cond (inR b c.length) (cond (okE ⟨true,false,[.int .u16]⟩ c (j4 b) 0) (vl (D20 (gE c (j4 b) 0)) λa=>cond (ltN a 65536) (cond ((16:Int)==16) (cond (G0 (d.length+1)) (Wx L n h g c f (A1 (b+1)) (d++[[(SV.str (Q3 (j4 a)))]]) e) none) none) none) none) none) (e d)
def Ck2(n z0 t1 l2 n3 n4 l5):E0 1 ((KV L).keep 3) (bd (KV L) Q Y (cd [1,1,0,1,0,0] Du3)) n ⟨gp [(3,.fl 0),(2,.s (.sl z0 t1 1 l2)),(0,pI n3),(0,pI n4)] 12,[.arr true 9 1 l5],s⟩ k =
 Wx L n z0 t1 l2 n3 n4 l5 (λb=>k (.exit 0) ⟨gp [(3,.fl 0)] 17,[.arr true 9 1 b],s⟩):=by
 induction n generalizing z0 t1 l2 n3 n4 l5 with
 | zero=>rfl
 | succ n a=>rw[Wx];simp only[<-a];kernel_rfl
noncomputable def v6j(L:Nat)(c b:Bool)(e:LL)(f:By->LL->Option R):Option R:=Wx L L c b e (e.length:Int) 0 [] (λa=>cond (ab0 a isS) (cond (A2 (c9 (ad7 (w8 elS a) ([58]:By)))) (cond (A2 a.length) (vl (ad7 (w8 elS a) ([58]:By)) λd=>f d a) none) none) none)
def D14(d:Nat)(l_z0 l_t1 l2):evC (KV L) (d+1) W Y 63 [.s (.sl l_z0 l_t1 1 l2)] [] s=v6j L l_z0 l_t1 l2 (λb a=>some (pS b,[.arr true 9 1 a],s)):=by refine(evE (fn:=ai1) (by kernel_rfl)).trans ?_;generalize evC (KV L) d=Q;unfold v6j;exact(j9 (by kernel_rfl) ((Ck2 L Q Y s (F0 0 (F5 (KV L) Q Y (cd [1,1,1] Du3) (G1 (KV L) ai1))) L l_z0 l_t1 l2 (l2.length:Int) 0 []).trans (by kernel_rfl)))
noncomputable def Cq3(L:Nat):Cfg:=D0 L [37] (A4 []) [(62,Bv5),(63,Dt7)] (A4 [(4,[2]),(3,[2]),(2,[1,1,0,6]),(1,[1,1,0]),(0,[1])]) [62,63] (A4 []) (some [2]) [] [] []
noncomputable def v6f(L:Nat)(c d e f g h i j:Int)(p:By->LL->Option R):Option R:=cond (ok8 c d e f g h i j) (vl (↑((zGo (n8 c d e f g h i j) 0 0 0)).1:Int) λa=>vl (↑((zGo (n8 c d e f g h i j) 0 0 0)).2:Int) λb=>cond (ltI b 2) (cond (ab0 [[(SV.int .u16 c)],[(SV.int .u16 d)],[(SV.int .u16 e)],[(SV.int .u16 f)],[(SV.int .u16 g)],[(SV.int .u16 h)],[(SV.int .u16 i)],[(SV.int .u16 j)]] Yw) (cond (s9 8 8) (vl (L5 (w8 elN [[(SV.int .u16 c)],[(SV.int .u16 d)],[(SV.int .u16 e)],[(SV.int .u16 f)],[(SV.int .u16 g)],[(SV.int .u16 h)],[(SV.int .u16 i)],[(SV.int .u16 j)]])) λo=>p o [[(SV.int .u16 c)],[(SV.int .u16 d)],[(SV.int .u16 e)],[(SV.int .u16 f)],[(SV.int .u16 g)],[(SV.int .u16 h)],[(SV.int .u16 i)],[(SV.int .u16 j)]]) none) none) (cond (L3 0 a 8) (cond (ab0 (y7 ((j4 a)-0) [[(SV.int .u16 c)],[(SV.int .u16 d)],[(SV.int .u16 e)],[(SV.int .u16 f)],[(SV.int .u16 g)],[(SV.int .u16 h)],[(SV.int .u16 i)],[(SV.int .u16 j)]]) Yw) (cond (s9 (c9 (y7 ((j4 a)-0) [[(SV.int .u16 c)],[(SV.int .u16 d)],[(SV.int .u16 e)],[(SV.int .u16 f)],[(SV.int .u16 g)],[(SV.int .u16 h)],[(SV.int .u16 i)],[(SV.int .u16 j)]])) 8) (vl (L5 (w8 elN (y7 ((j4 a)-0) [[(SV.int .u16 c)],[(SV.int .u16 d)],[(SV.int .u16 e)],[(SV.int .u16 f)],[(SV.int .u16 g)],[(SV.int .u16 h)],[(SV.int .u16 i)],[(SV.int .u16 j)]]))) λl=>cond (J1 l.length 2) (vl (l++[58,58]) λm=>cond (L3 (A1 (a+b)) (8:Int) 8) (cond (ab0 (y7 (8-(j4 (A1 (a+b)))) (ae0 (j4 (A1 (a+b))) [[(SV.int .u16 c)],[(SV.int .u16 d)],[(SV.int .u16 e)],[(SV.int .u16 f)],[(SV.int .u16 g)],[(SV.int .u16 h)],[(SV.int .u16 i)],[(SV.int .u16 j)]])) Yw) (cond (s9 (c9 (y7 (8-(j4 (A1 (a+b)))) (ae0 (j4 (A1 (a+b))) [[(SV.int .u16 c)],[(SV.int .u16 d)],[(SV.int .u16 e)],[(SV.int .u16 f)],[(SV.int .u16 g)],[(SV.int .u16 h)],[(SV.int .u16 i)],[(SV.int .u16 j)]]))) 8) (vl (L5 (w8 elN (y7 (8-(j4 (A1 (a+b)))) (ae0 (j4 (A1 (a+b))) [[(SV.int .u16 c)],[(SV.int .u16 d)],[(SV.int .u16 e)],[(SV.int .u16 f)],[(SV.int .u16 g)],[(SV.int .u16 h)],[(SV.int .u16 i)],[(SV.int .u16 j)]])))) λn=>cond (J1 m.length n.length) (p (m++n) [[(SV.int .u16 c)],[(SV.int .u16 d)],[(SV.int .u16 e)],[(SV.int .u16 f)],[(SV.int .u16 g)],[(SV.int .u16 h)],[(SV.int .u16 i)],[(SV.int .u16 j)]]) none) none) none) none) none) none) none) none)) none
def D12(d:Nat)(a0 a1 a2 a3 a4 a5 a6 a7):evC (Cq3 L) (d+1) W Y 37 [.agg [p16 a0,p16 a1,p16 a2,p16 a3,p16 a4,p16 a5,p16 a6,p16 a7]] [] s=v6f L a0 a1 a2 a3 a4 a5 a6 a7 (λb a=>some (pS b,[.arr false 27 1 a],s)):=by refine(evE (fn:=Tryz.f37) (by kernel_rfl)).trans ?_;generalize evC (Cq3 L) d=Q;unfold v6f;kernel_rfl
noncomputable abbrev Dy:Code:=D4 ag3
noncomputable def Bg(L:Nat):Cfg:=D0 L [87] (A4 [(5,[0,1,0,0,0])]) [] (A4 [(15,[2,0]),(6,[0,3,0]),(10,[0,3,0]),(12,[0,3,0]),(14,[0,3,0]),(8,[2,0]),(13,[0,3,0,0,44]),(11,[0,3,0,0,30]),(9,[0,3,0,0,17]),(7,[0,3,0,0]),(5,[0,3,0,12]),(4,[0,3,0]),(3,[0,3]),(2,[2,0]),(1,[0,13]),(0,[0])]) [] (A4 [(0,[4]),(1,[0,3,0]),(2,[0,3,0])]) (some [2,0]) [] [] []
noncomputable def Zs(j:By)(i f d:Int)(e:Bool)(g:By->Int->Int->Option R)(h:Unit->Option R):Option R:=cond e (vl (A1 (wu8 (d-65))) λa=>vl (A1 ((A1 (i*16))+a)) λb=>vl (A1 (b+10)) λc=>g j c f) (h ())
abbrev TR(b:Code):Prop:=∀(k:Out->St W->Option R) d c a b3 b4,A9 (Bg L) Q Y b ⟨gp [(0,pS d),(3,pI c),(0,pI a),(0,p8 b3),(44,pB b4)] 15,[],s⟩ k=Zs d c a b3 b4 (λd c a=>k .normal ⟨gp [(0,pS d),(3,pI c),(0,pI a)] 61,[],s⟩) (λ_=>k .ret ⟨gp [(2,p16 (0:Int)),(0,pB false)] 63,[],s⟩)
def Bi2:TR (R:=R) L Q Y s (cd [1,1,1,0,1,0,0,1,0,0,1,0,1,1,1,1,1] Dy):=by intro k e d c a b;unfold Zs;kernel_rfl
noncomputable def Zt(o:By)(m f a:Int)(q:Bool)(g:By->Int->Int->Option R)(p:Unit->Option R):Option R:=cond q (vl (A1 (wu8 (a-97))) λh=>vl (A1 ((A1 (m*16))+h)) λi=>vl (A1 (i+10)) λj=>g o j f) (cond (not (ltI a 65)) (Zs o m f a (not (ltI 70 a)) (λn l b=>g n l b) (λ_=>p ())) (Zs o m f a false (λe d c=>g e d c) (λ_=>p ())))
abbrev DZ(b:Code):Prop:=∀(k:Out->St W->Option R) d c a b3 b4,A9 (Bg L) Q Y b ⟨gp [(0,pS d),(3,pI c),(0,pI a),(0,p8 b3),(30,pB b4)] 29,[],s⟩ k=Zt d c a b3 b4 (λd c a=>k .normal ⟨gp [(0,pS d),(3,pI c),(0,pI a)] 61,[],s⟩) (λ_=>k .ret ⟨gp [(2,p16 (0:Int)),(0,pB false)] 63,[],s⟩)
def Bi3(a:Code)(b:TR (R:=R) L Q Y s a):DZ (R:=R) L Q Y s (cd [1,1,1,0,1,0,0,1,0,0,1,0,1,1,1] (I2 [1,1,1,0,1,0,0,1,0,0,1,0,1,1,1,1,1] a Dy)):=by intro k g f e c d;unfold Zt;simp only[<-b k];kernel_rfl
def Bi4:DZ (R:=R) L Q Y s (cd [1,1,1,0,1,0,0,1,0,0,1,0,1,1,1] Dy):=by intro k e d c a b;exact j9 (by kernel_rfl) (Bi3 L Q Y s (cd [1,1,1,0,1,0,0,1,0,0,1,0,1,1,1,1,1] Dy) (Bi2 L Q Y s) k e d c a b)
noncomputable def Zu(n:By)(m h a:Int)(p:Bool)(i:By->Int->Int->Option R)(o:Unit->Option R):Option R:=cond p (vl (A1 (wu8 (a-48))) λj=>vl (A1 ((A1 (m*16))+j)) λl=>i n l h) (cond (not (ltI a 97)) (Zt n m h a (not (ltI 102 a)) (λf d b=>i f d b) (λ_=>o ())) (Zt n m h a false (λg e c=>i g e c) (λ_=>o ())))
abbrev Tn(b:Code):Prop:=∀(k:Out->St W->Option R) d c a b3 b4,A9 (Bg L) Q Y b ⟨gp [(0,pS d),(3,pI c),(0,pI a),(0,p8 b3),(17,pB b4)] 42,[],s⟩ k=Zu d c a b3 b4 (λd c a=>k .normal ⟨gp [(0,pS d),(3,pI c),(0,pI a)] 61,[],s⟩) (λ_=>k .ret ⟨gp [(2,p16 (0:Int)),(0,pB false)] 63,[],s⟩)
def Bi5(a:Code)(b:DZ (R:=R) L Q Y s a):Tn (R:=R) L Q Y s (cd [1,1,1,0,1,0,0,1,0,0,1,0,1] (I2 [1,1,1,0,1,0,0,1,0,0,1,0,1,1,1] a Dy)):=by intro k g f e c d;unfold Zu;simp only[<-b k];kernel_rfl
def Bi6:Tn (R:=R) L Q Y s (cd [1,1,1,0,1,0,0,1,0,0,1,0,1] Dy):=by intro k e d c a b;exact j9 (by kernel_rfl) (Bi5 L Q Y s (cd [1,1,1,0,1,0,0,1,0,0,1,0,1,1,1] Dy) (Bi4 L Q Y s) k e d c a b)
noncomputable def Hf(L n:Nat)(b:By)(o a:Int)(l:Unit->Option R)(m:Int->Option R):Option R:=match n with|0=>none|n+1=>cond (ltI a (b.length:Int)) (cond (inR a b.length) (cond (not (ltI (bAt b a) (48:Int))) (Zu b o a (bAt b a) (not (ltI 57 (bAt b a))) (λi e c=>vl (A1 (c+1)) λf=>Hf L n i e f l m) (λ_=>l ())) (Zu b o a (bAt b a) false (λj g d=>vl (A1 (d+1)) λh=>Hf L n j g h l m) (λ_=>l ()))) none) (m o)
def Bi7(a:Code)(b:Tn (R:=R) L Q Y s a)(n:Nat)(d:By)(i c:Int):E0 0 ((Bg L).keep 5) (bd (Bg L) Q Y (cd [1,1,1,0,1,0,0] (I2 [1,1,1,0,1,0,0,1,0,0,1,0,1] a Dy))) n ⟨gp [(0,pS d),(3,pI i),(0,pI c)] 61,[],s⟩ k =
 Hf L n d i c (λ_=>k .ret ⟨gp [(2,p16 (0:Int)),(0,pB false)] 63,[],s⟩) (λn0=>k (.exit 0) ⟨gp [(4,pI n0)] 62,[],s⟩):=by
 induction n generalizing d i c with
 | zero=>rfl
 | succ n q=>rw[Hf];exact let m:=(F0 2 (F0 1 (F5 (Bg L) Q Y (cd [1,1,1,0,1,0,0,1,1] Dy) (lpK 0 ((Bg L).keep 5) (bd (Bg L) Q Y (cd [1,1,1,0,1,0,0] (I2 [1,1,1,0,1,0,0,1,0,0,1,0,1] a Dy))) n k))));(j9 (by kernel_rfl) (A0 (A0 (A0 ((b m d i c (bAt d c) (not (ltI 57 (bAt d c)))).trans (congr (congr rfl (fx3 λj e o=>(j9 (by kernel_rfl) (A5 λf=>(q j e f))))) (by kernel_rfl))) ((b m d i c (bAt d c) false).trans (congr (congr rfl (fx3 λl g p=>(j9 (by kernel_rfl) (A5 λh=>(q l g h))))) (by kernel_rfl)))) rfl) rfl))
noncomputable def Cy8(L:Nat)(c:By)(b:Int->Bool->Option R):Option R:=cond (ltI (c.length:Int) (1:Int)) (b 0 false) (cond (ltI 4 (c.length:Int)) (b 0 false) (Hf L L c 0 0 (λ_=>b 0 false) (λa=>b (Ez a) true)))
def Dl0(a:Code)(b:Tn (R:=PV × List Blk × W) L Q Y s a)(c:By):A9 (Bg L) Q Y (cd [] (I2 [1,1,1,0,1,0,0,1,0,0,1,0,1] a Dy)) ⟨[pS c]++tps 66,[],s⟩ (G1 (Bg L) ag3)=Cy8 L c (λd e=>some (.tup [p16 d,pB e],[],s)):=by unfold Cy8;exact(j9 (by kernel_rfl) (A0 rfl (A0 rfl ((Bi7 L Q Y s (F0 0 (F5 (Bg L) Q Y (cd [1,1,1,1] Dy) (G1 (Bg L) ag3))) a b L c 0 0).trans (by kernel_rfl)))))
def Dl1(d:Nat)(s0):evC (Bg L) (d+1) W Y 87 [pS s0] [] s=Cy8 L s0 (λa b=>some (.tup [p16 a,pB b],[],s)):=
 (evE (fn:=ag3) (by kernel_rfl)).trans (j9 (by kernel_rfl) (Dl0 L (evC (Bg L) d) Y s (cd [1,1,1,0,1,0,0,1,0,0,1,0,1] Dy) (Bi6 L (evC (Bg L) d) Y s) s0))
noncomputable abbrev Gq:Code:=D4 ag2
noncomputable def T5(L:Nat):Cfg:=D0 L [47] (A4 [(6,[1,2,0,0,0,0])]) [(30,Lq),(86,Cn7),(87,Cn2)] (A4 [(15,[4,0]),(7,[1,4,0,0]),(14,[1,4,0,0]),(13,[4,0]),(12,[1,4,0,0,2,47]),(11,[1,4,0,0,2,0]),(10,[1,4,0,0]),(9,[1,4,0,0,0,31]),(8,[1,4,0,0,0,0]),(6,[1,4,0,0,11]),(5,[1,4,0,0]),(4,[1,4,0]),(3,[0,0,4]),(2,[4,0]),(1,[0,0,12]),(0,[0,0])]) [86,87] (A4 [(0,[6]),(1,[1,4,0,0])]) (some [4,0]) [] [] []
noncomputable def Mp(a:Bool)(g:LL)(f d:Int)(e:Bool)(c:LL)(h:Bool->LL->Int->LL->Option R)(i:Bool->LL->Int->Int->Bool->LL->Option R):Option R:=cond e (vl (Sa .u32 d (16:Int)) λb=>cond (G0 (c.length+2)) (h a g f (c++[[(SV.int .u16 (Ez b))],[(SV.int .u16 (Ez d))]])) none) (i a g f d e c)
abbrev Wp(b:Code):Prop:=∀(k:Out->St W->Option R) a d c g e f,A9 (T5 L) Q Y b ⟨gp [(1,pB a),(4,.fl 0),(0,.s (.sl false false 1 d)),(0,pI c),(0,p32 g),(31,pB e)] 23,[.arr true 26 1 f],s⟩ k=Mp a d c g e f (λa d c h=>k (.exit 1) ⟨gp [(1,pB a),(4,.fl 0),(0,.s (.sl false false 1 d)),(0,pI c)] 56,[.arr true 26 1 h],s⟩) (λa d c g e f=>k .normal ⟨gp [(1,pB a),(4,.fl 0),(0,.s (.sl false false 1 d)),(0,pI c),(0,p32 g),(31,pB e)] 23,[.arr true 26 1 f],s⟩)
def Au8:Wp (R:=R) L Q Y s (cd [1,1,1,1,0,1,0,0,1,0,0,0,1,1] Gq):=by intro k a e c f b d;unfold Mp;kernel_rfl
noncomputable def Mq(a:Bool)(c:LL)(b:Int)(e:LL)(f:LL->Option R)(g:Bool->LL->Int->LL->Option R):Option R:=cond (inR b c.length) (cond (okE Dr c (j4 b) 0) (cond (A2 (c9 (gX c (j4 b) 0))) (vl (↑(O6 (grp (gX c (j4 b) 0))):Int) λd=>cond (not (j8 (grp (gX c (j4 b) 0)))) (f e) (cond (G0 (e.length+1)) (g a c b (e++[[(SV.int .u16 d)]])) none)) none) none) none
abbrev Wq(b:Code):Prop:=∀(k:Out->St W->Option R) a d c v3 b4 l5,A9 (T5 L) Q Y b ⟨gp [(1,pB a),(4,.fl 0),(0,.s (.sl false false 1 d)),(0,pI c),(0,p32 v3),(31,pB b4)] 23,[.arr true 26 1 l5],s⟩ k=Mq a d c l5 (λe=>k .ret ⟨gp [(4,.fl 1),(0,pB false)] 59,[.arr true 26 1 e,.arr true 26 1 []],s⟩) (λa d c f=>k .normal ⟨gp [(1,pB a),(4,.fl 0),(0,.s (.sl false false 1 d)),(0,pI c)] 56,[.arr true 26 1 f],s⟩)
def Au9:Wq (R:=R) L Q Y s (cd [1,1,1,1,0,1,0,0,1,0,0,1] Gq):=by intro k a e c f b d;unfold Mq;kernel_rfl
noncomputable def S6(L n:Nat)(a:Bool)(m:LL)(l:Int)(l3:LL)(o:LL->Option R)(p:LL->Option R):Option R:=match n with|0=>none|n+1=>cond (ltI l (m.length:Int)) (cond (inR l m.length) (cond (okE Dr m (j4 l) 0) (cond (A2 (c9 (gX m (j4 l) 0))) (vl (↑(O6 (v4B (gX m (j4 l) 0))):Int) λq=>cond (j8 (v4B (gX m (j4 l) 0))) (cond a (vl (A1 ((m.length:Int)-1)) λa8=>Mp a m l q (l==a8) l3 (λb Z r B=>vl (A1 (r+1)) λP=>S6 L n b Z P B o p) (λc a0 t b2 a9 C=>Mq c a0 t C (λD=>o D) (λd a1 u F=>vl (A1 (u+1)) λS=>S6 L n d a1 S F o p))) (Mp a m l q false l3 (λe a2 v G=>vl (A1 (v+1)) λT=>S6 L n e a2 T G o p) (λf a3 w b3 b0 H=>Mq f a3 w H (λI=>o I) (λg a4 x J=>vl (A1 (x+1)) λU=>S6 L n g a4 U J o p)))) (Mp a m l q false l3 (λh a5 y K=>vl (A1 (y+1)) λV=>S6 L n h a5 V K o p) (λi a6 z b4 b1 M=>Mq i a6 z M (λN=>o N) (λj a7 A O=>vl (A1 (A+1)) λX=>S6 L n j a7 X O o p)))) none) none) none) (p l3)
def Av0(b:Code)(c:Wp (R:=R) L Q Y s b)(a:Code)(d:Wq (R:=R) L Q Y s a)(n:Nat)(e:Bool)(v:LL)(q:Int)(u:LL):E0 1 ((T5 L).keep 6) (bd (T5 L) Q Y (cd [1,1,1,1,0,1,0,0] (I2 [1,1,1,1,0,1,0,0,1,0,0,1] a (I2 [1,1,1,1,0,1,0,0,1,0,0,0,1,1] b Gq)))) n ⟨gp [(1,pB e),(4,.fl 0),(0,.s (.sl false false 1 v)),(0,pI q)] 56,[.arr true 26 1 u],s⟩ k =
 S6 L n e v q u (λl0=>k .ret ⟨gp [(4,.fl 1),(0,pB false)] 59,[.arr true 26 1 l0,.arr true 26 1 []],s⟩) (λl0=>k (.exit 0) ⟨gp [(6,.fl 0)] 58,[.arr true 26 1 l0],s⟩):=by
 induction n generalizing e v q u with
 | zero=>rfl
 | succ n t=>rw[S6];exact let K0:=(F0 1 (F5 (T5 L) Q Y (cd [1,1,1,1,0,1,0,0,1,1] Gq) (lpK 1 ((T5 L).keep 6) (bd (T5 L) Q Y (cd [1,1,1,1,0,1,0,0] (I2 [1,1,1,1,0,1,0,0,1,0,0,1] a (I2 [1,1,1,1,0,1,0,0,1,0,0,0,1,1] b Gq)))) n k)));let K1:=(F5 (T5 L) Q Y a K0);(j9 (by kernel_rfl) (A0 (A0 (A0 (A0 (A5 λr=>(A0 (A0 (A5 λa9=>((c K1 e v q r (q==a9) u).trans (congr (congr rfl (fx4 λf V b0 C=>(j9 (by kernel_rfl) (A5 λN=>(t f V N C))))) (fx6 λg X z a6 w D=>(j9 (by kernel_rfl) ((d K0 g X z a6 w D).trans (congr (congr rfl (by kernel_rfl)) (fx4 λh Z b1 F=>(j9 (by kernel_rfl) (A5 λO=>(t h Z O F))))))))))) ((c K1 e v q r false u).trans (congr (congr rfl (fx4 λi a0 b2 G=>(j9 (by kernel_rfl) (A5 λP=>(t i a0 P G))))) (fx6 λj a1 A a7 x H=>(j9 (by kernel_rfl) ((d K0 j a1 A a7 x H).trans (congr (congr rfl (by kernel_rfl)) (fx4 λl a2 b3 I=>(j9 (by kernel_rfl) (A5 λS=>(t l a2 S I))))))))))) ((c K1 e v q r false u).trans (congr (congr rfl (fx4 λm a3 b4 J=>(j9 (by kernel_rfl) (A5 λT=>(t m a3 T J))))) (fx6 λo a4 B a8 y K=>(j9 (by kernel_rfl) ((d K0 o a4 B a8 y K).trans (congr (congr rfl (by kernel_rfl)) (fx4 λp a5 b5 M=>(j9 (by kernel_rfl) (A5 λU=>(t p a5 U M)))))))))))) rfl) rfl) rfl) rfl))
noncomputable def Au7(L:Nat)(e:By)(a:Bool)(f:LL->Option R)(g:LL->Option R):Option R:=cond (e==[]) (f []) (cond (A2 e.length) (vl (C2 (pcs (u8n (58:Int)) e)) λd=>S6 L L a d 0 [] (λb=>g b) (λc=>f c)) none)
def Cy9(a:Code)(c:Wp (R:=PV × List Blk × W) L Q Y s a)(b:Code)(d:Wq (R:=PV × List Blk × W) L Q Y s b)(h:By)(e:Bool):A9 (T5 L) Q Y (cd [] (I2 [1,1,1,1,0,1,0,0,1,0,0,1] b (I2 [1,1,1,1,0,1,0,0,1,0,0,0,1,1] a Gq))) ⟨[pS h,pB e]++tps 63,[],s⟩ (G1 (T5 L) ag2)=Au7 L h e (λg=>some (.tup [.fl 0,pB true],[.arr true 26 1 g],s)) (λg=>some (.tup [.fl 1,pB false],[.arr true 26 1 g,.arr true 26 1 []],s)):=by unfold Au7;exact(j9 (by kernel_rfl) (A0 rfl (A0 (A5 λf=>((Av0 L Q Y s (F0 0 (F5 (T5 L) Q Y (cd [1,1,1,1,1] Gq) (G1 (T5 L) ag2))) a c b d L e f 0 []).trans (by kernel_rfl))) rfl)))
def Cz0(d:Nat)(s0 last1):evC (T5 L) (d+1) W Y 47 [pS s0,pB last1] [] s=Au7 L s0 last1 (λa=>some (.tup [.fl 0,pB true],[.arr true 26 1 a],s)) (λa=>some (.tup [.fl 1,pB false],[.arr true 26 1 a,.arr true 26 1 []],s)):=
 (evE (fn:=ag2) (by kernel_rfl)).trans (j9 (by kernel_rfl) (Cy9 L (evC (T5 L) d) Y s (cd [1,1,1,1,0,1,0,0,1,0,0,0,1,1] Gq) (Au8 L (evC (T5 L) d) Y s) (cd [1,1,1,1,0,1,0,0,1,0,0,1] Gq) (Au9 L (evC (T5 L) d) Y s) s0 last1))
noncomputable abbrev QU:Code:=D4 ah8
noncomputable def Ec(L:Nat):Cfg:=D0 L [46] (A4 [(2,[0,1,0])]) [] (A4 [(6,[2]),(3,[0,2]),(5,[2]),(4,[0,2,17]),(2,[0,2,4]),(1,[0,2]),(0,[0])]) [] (A4 [(0,[]),(1,[0,2])]) (some [2]) [] [] []
noncomputable def W0(L n:Nat)(b:By)(a:Int)(c:Int->Option R)(d:Unit->Option R):Option R:=match n with|0=>none|n+1=>cond (ltI (A1 (a+1)) (b.length:Int)) (cond (inR a b.length) (cond ((bAt b a)==58) (cond (inR (A1 (a+1)) b.length) (vl (bAt b (A1 (a+1))) λe=>cond (e==58) (c a) (W0 L n b (A1 (a+1)) c d)) none) (W0 L n b (A1 (a+1)) c d)) none) (d ())
def PO(n s0 i1):E0 0 ((Ec L).keep 2) (bd (Ec L) Q Y (cd [1,0,1,0,0] QU)) n ⟨gp [(0,pS s0),(2,pI i1)] 19,[],s⟩ k =
 W0 L n s0 i1 (λn0=>k .ret ⟨gp [(2,pI n0)] 20,[],s⟩) (λ_=>k (.exit 0) ⟨gp [] 23,[],s⟩):=by
 induction n generalizing s0 i1 with
 | zero=>rfl
 | succ n a=>rw[W0];simp only[<-a];kernel_rfl
noncomputable def HL(L:Nat)(c:By)(b:Int->Option R):Option R:=W0 L L c 0 (λa=>b a) (λ_=>b (-1))
def Bh0(d:Nat)(s0):evC (Ec L) (d+1) W Y 46 [pS s0] [] s=HL L s0 (λa=>some (pI a,[],s)):=by refine(evE (fn:=ah8) (by kernel_rfl)).trans ?_;generalize evC (Ec L) d=Q;unfold HL;exact(j9 (by kernel_rfl) ((PO L Q Y s (F0 0 (F5 (Ec L) Q Y (cd [1,1] QU) (G1 (Ec L) ah8))) L s0 0).trans (by kernel_rfl)))
noncomputable abbrev Vh:Code:=D4 ae7
noncomputable def Bh(L:Nat):Cfg:=D0 L [26] (A4 [(21,[2,0,0,6,2]),(17,[2,0,0,4,1,1]),(8,[2,0,0,1,1])]) [(46,QI),(47,Bu4)] (A4 [(24,[2,0]),(22,[2,1,6,2]),(23,[2,1,6,2]),(21,[2,1,6,2,73]),(20,[2,1,6,2]),(18,[2,1,4,1,1]),(19,[2,1,4,1,1]),(17,[2,1,4,1,1,62]),(16,[2,1,4,1,1]),(15,[2,0]),(14,[2,1,4,1,59]),(13,[2,1,4,0,0,0]),(12,[0,1,1,0,3,0]),(11,[2,0]),(9,[2,1,1,1]),(10,[2,1,1,1]),(8,[2,1,1,1,24]),(7,[2,1,1,1]),(6,[2,0]),(5,[2,1,1,23]),(4,[2,1,1,0]),(3,[0,1,1,0,12]),(2,[0,1,1,0]),(1,[0,1,1]),(0,[0,1])]) [46] (A4 [(4,[2,1]),(5,[2,1,6,2]),(2,[2,1,6]),(3,[2,1,4,1,1]),(0,[2,1]),(1,[2,1,1,1])]) (some [2,0]) [] [] []
noncomputable def Pa(L n:Nat)(b:Bool)(c:LL)(a:Int)(g d:LL)(f:LL->LL->Option R):Option R:=match n with|0=>none|n+1=>cond (ltI a 8) (cond (inR a c.length) (cond (okE ⟨true,false,[.int .u16]⟩ c (j4 a) 0) (cond (inR a 8) (cond (decide ((j4 a)<d.length)) (vl (ah5 d (j4 a) (H7 (j1 d (j4 a) []) 0 [(SV.int .u16 (gE c (j4 a) 0))])) λe=>Pa L n b c (A1 (a+1)) g e f) none) none) none) none) (f g d)
def Bn7(n l_z0 a i2 l3 l4):E0 2 ((Bh L).keep 8) (bd (Bh L) Q Y (cd [1,1,1,0,1,0,1,1,0,1,0,0] Vh)) n ⟨gp [(2,.ptr 0 0 0),(1,.ptr 1 0 0),(1,.s (.sl l_z0 l_z0 1 a)),(1,pI i2)] 93,[.arr false 27 1 l3,.arr false 27 1 l4],s⟩ k =
 Pa L n l_z0 a i2 l3 l4 (λc a=>k (.exit 0) ⟨gp [(2,.ptr 0 0 0),(1,.ptr 1 0 0)] 97,[.arr false 27 1 c,.arr false 27 1 a],s⟩):=by
 induction n generalizing l_z0 a i2 l3 l4 with
 | zero=>rfl
 | succ n b=>rw[Pa];simp only[<-b];kernel_rfl
noncomputable def Pb(L n:Nat)(e:Bool)(d:LL)(b:Bool)(i:LL)(a:Int)(h f:LL)(g:Bool->LL->LL->LL->Option R):Option R:=match n with|0=>none|n+1=>cond (ltI a (d.length:Int)) (cond (inR a d.length) (cond (okE ⟨true,false,[.int .u16]⟩ d (j4 a) 0) (cond (inR a 8) (cond (decide ((j4 a)<f.length)) (vl (ah5 f (j4 a) (H7 (j1 f (j4 a) []) 0 [(SV.int .u16 (gE d (j4 a) 0))])) λc=>Pb L n e d b i (A1 (a+1)) h c g) none) none) none) none) (g b i h f)
def Bn8(n l_z0 l1 r_z2 r3 i4 l5 l6):E0 2 ((Bh L).keep 17) (bd (Bh L) Q Y (cd [1,1,1,1,1,1,1,0,1,0,0] Vh)) n ⟨gp [(2,.ptr 0 0 0),(1,.ptr 1 0 0),(4,.s (.sl l_z0 l_z0 1 l1)),(1,.s (.sl r_z2 r_z2 1 r3)),(1,pI i4)] 88,[.arr false 27 1 l5,.arr false 27 1 l6],s⟩ k =
 Pb L n l_z0 l1 r_z2 r3 i4 l5 l6 (λa e c d=>k (.exit 2) ⟨gp [(2,.ptr 0 0 0),(1,.ptr 1 0 0),(6,.s (.sl a a 1 e))] 90,[.arr false 27 1 c,.arr false 27 1 d],s⟩):=by
 induction n generalizing l_z0 l1 r_z2 r3 i4 l5 l6 with
 | zero=>rfl
 | succ n b=>rw[Pb];simp only[<-b];kernel_rfl
noncomputable def Pc(L n:Nat)(e:Bool)(c:LL)(b:Int)(h f:LL)(g:LL->LL->Option R):Option R:=match n with|0=>none|n+1=>cond (ltI b (c.length:Int)) (vl (A1 ((8:Int)-(c.length:Int))) λa=>cond (inR b c.length) (cond (okE ⟨true,false,[.int .u16]⟩ c (j4 b) 0) (cond (inR (A1 (a+b)) 8) (cond (decide ((j4 (A1 (a+b)))<f.length)) (vl (ah5 f (j4 (A1 (a+b))) (H7 (j1 f (j4 (A1 (a+b))) []) 0 [(SV.int .u16 (gE c (j4 b) 0))])) λd=>Pc L n e c (A1 (b+1)) h d g) none) none) none) none) (g h f)
def Bn9(n r_z0 r1 i2 l3 l4):E0 2 ((Bh L).keep 21) (bd (Bh L) Q Y (cd [1,1,1,1,1,1,1,1,0,1,0,0] Vh)) n ⟨gp [(2,.ptr 0 0 0),(1,.ptr 1 0 0),(6,.s (.sl r_z0 r_z0 1 r1)),(2,pI i2)] 87,[.arr false 27 1 l3,.arr false 27 1 l4],s⟩ k =
 Pc L n r_z0 r1 i2 l3 l4 (λb c=>k (.exit 4) ⟨gp [(2,.ptr 0 0 0),(1,.ptr 1 0 0)] 97,[.arr false 27 1 b,.arr false 27 1 c],s⟩):=by
 induction n generalizing r_z0 r1 i2 l3 l4 with
 | zero=>rfl
 | succ n a=>rw[Pc];simp only[<-a];kernel_rfl
noncomputable def C11(L:Nat)(e:By)(j:Kbb R):Option R:=cond (A2 e.length) (cond (ltI (LE e) (0:Int)) (cond (A2 e.length) (cond (not (j8 (P8 e true))) (j 0 0 0 0 0 0 0 0 false (j5 8 [(SV.int .u16 (0:Int))]) (j5 8 [(SV.int .u16 (0:Int))])) (cond ((↑(c9 (E1 (gvs e true))):Int)!=8) (j 0 0 0 0 0 0 0 0 false (j5 8 [(SV.int .u16 (0:Int))]) (j5 8 [(SV.int .u16 (0:Int))])) (Pa L L (k9 (gvs e true)) (E1 (gvs e true)) 0 (j5 8 [(SV.int .u16 (0:Int))]) (j5 8 [(SV.int .u16 (0:Int))]) (λn a=>cond ((decide (8=(a.length*1)))&&(okS ⟨true,true,[.int .u16,.int .u16,.int .u16,.int .u16,.int .u16,.int .u16,.int .u16,.int .u16]⟩ (j0 a) 0)) (vl (SV.gI (j1 (j0 a) 0 SV.nilp)) λo=>vl (SV.gI (j1 (j0 a) 1 SV.nilp)) λp=>vl (SV.gI (j1 (j0 a) 2 SV.nilp)) λq=>vl (SV.gI (j1 (j0 a) 3 SV.nilp)) λr=>vl (SV.gI (j1 (j0 a) 4 SV.nilp)) λt=>vl (SV.gI (j1 (j0 a) 5 SV.nilp)) λu=>vl (SV.gI (j1 (j0 a) 6 SV.nilp)) λv=>vl (SV.gI (j1 (j0 a) 7 SV.nilp)) λw=>cond (decide (8=(n.length*1))) (vl (T6 1 n.length [(SV.int .u16 o),(SV.int .u16 p),(SV.int .u16 q),(SV.int .u16 r),(SV.int .u16 t),(SV.int .u16 u),(SV.int .u16 v),(SV.int .u16 w)]) λb=>cond ((decide (8=(b.length*1)))&&(okS ⟨true,true,[.int .u16,.int .u16,.int .u16,.int .u16,.int .u16,.int .u16,.int .u16,.int .u16]⟩ (j0 b) 0)) (j (SV.gI (j1 (j0 b) 0 SV.nilp)) (SV.gI (j1 (j0 b) 1 SV.nilp)) (SV.gI (j1 (j0 b) 2 SV.nilp)) (SV.gI (j1 (j0 b) 3 SV.nilp)) (SV.gI (j1 (j0 b) 4 SV.nilp)) (SV.gI (j1 (j0 b) 5 SV.nilp)) (SV.gI (j1 (j0 b) 6 SV.nilp)) (SV.gI (j1 (j0 b) 7 SV.nilp)) true b a) none) none) none)))) none) (cond (L3 0 (LE e) e.length) (vl (cut e 0 (LE e)) λf=>cond (A2 f.length) (vl (A1 ((LE e)+2)) λG=>cond (L3 G (e.length:Int) e.length) (vl (cut e G (e.length:Int)) λg=>cond (A2 g.length) (cond (not (j8 (P8 f false))) (j 0 0 0 0 0 0 0 0 false (j5 8 [(SV.int .u16 (0:Int))]) (j5 8 [(SV.int .u16 (0:Int))])) (cond (not (j8 (P8 g true))) (j 0 0 0 0 0 0 0 0 false (j5 8 [(SV.int .u16 (0:Int))]) (j5 8 [(SV.int .u16 (0:Int))])) (vl (A1 ((↑(c9 (E1 (gvs f false))):Int)+(↑(c9 (E1 (gvs g true))):Int))) λI=>cond (ltI 7 I) (j 0 0 0 0 0 0 0 0 false (j5 8 [(SV.int .u16 (0:Int))]) (j5 8 [(SV.int .u16 (0:Int))])) (Pb L L (k9 (gvs f false)) (E1 (gvs f false)) (k9 (gvs g true)) (E1 (gvs g true)) 0 (j5 8 [(SV.int .u16 (0:Int))]) (j5 8 [(SV.int .u16 (0:Int))]) (λh H l m=>Pc L L h H 0 l m (λi c=>cond ((decide (8=(c.length*1)))&&(okS ⟨true,true,[.int .u16,.int .u16,.int .u16,.int .u16,.int .u16,.int .u16,.int .u16,.int .u16]⟩ (j0 c) 0)) (vl (SV.gI (j1 (j0 c) 0 SV.nilp)) λx=>vl (SV.gI (j1 (j0 c) 1 SV.nilp)) λy=>vl (SV.gI (j1 (j0 c) 2 SV.nilp)) λz=>vl (SV.gI (j1 (j0 c) 3 SV.nilp)) λA=>vl (SV.gI (j1 (j0 c) 4 SV.nilp)) λB=>vl (SV.gI (j1 (j0 c) 5 SV.nilp)) λC=>vl (SV.gI (j1 (j0 c) 6 SV.nilp)) λD=>vl (SV.gI (j1 (j0 c) 7 SV.nilp)) λF=>cond (decide (8=(i.length*1))) (vl (T6 1 i.length [(SV.int .u16 x),(SV.int .u16 y),(SV.int .u16 z),(SV.int .u16 A),(SV.int .u16 B),(SV.int .u16 C),(SV.int .u16 D),(SV.int .u16 F)]) λd=>cond ((decide (8=(d.length*1)))&&(okS ⟨true,true,[.int .u16,.int .u16,.int .u16,.int .u16,.int .u16,.int .u16,.int .u16,.int .u16]⟩ (j0 d) 0)) (j (SV.gI (j1 (j0 d) 0 SV.nilp)) (SV.gI (j1 (j0 d) 1 SV.nilp)) (SV.gI (j1 (j0 d) 2 SV.nilp)) (SV.gI (j1 (j0 d) 3 SV.nilp)) (SV.gI (j1 (j0 d) 4 SV.nilp)) (SV.gI (j1 (j0 d) 5 SV.nilp)) (SV.gI (j1 (j0 d) 6 SV.nilp)) (SV.gI (j1 (j0 d) 7 SV.nilp)) true d c) none) none) none)))))) none) none) none) none)) none
def Dn2(d:Nat)(s0):evC (Bh L) (d+1) W Y 26 [pS s0] [] s=C11 L s0 (λl m n o p q r t r8 h l10=>some (.tup [.agg [p16 l,p16 m,p16 n,p16 o,p16 p,p16 q,p16 r,p16 t],pB r8],[.arr false 27 1 h,.arr false 27 1 l10],s)):=by refine(evE (fn:=ae7) (by kernel_rfl)).trans ?_;generalize evC (Bh L) d=Q;unfold C11;exact(j9 (by kernel_rfl) (A0 (A0 (A0 (A0 rfl (A0 rfl ((Bn7 L Q Y s (F0 0 (F5 (Bh L) Q Y (cd [1,1,1,0,1,0,1,1,1] Vh) (F5 (Bh L) Q Y (cd [1,1,1,1] Vh) (G1 (Bh L) ae7)))) L (k9 (gvs s0 true)) (E1 (gvs s0 true)) 0 (j5 8 [(SV.int .u16 (0:Int))]) (j5 8 [(SV.int .u16 (0:Int))])).trans (by kernel_rfl)))) rfl) (A0 (A5 λf=>(A0 (A5 λi=>(A0 (A5 λg=>(A0 (A0 rfl (A0 rfl (A5 λj=>(A0 rfl ((Bn8 L Q Y s (F0 2 (F5 (Bh L) Q Y (cd [1,1,1,1,1,1,1,1] Vh) (G1 (Bh L) ae7))) L (k9 (gvs f false)) (E1 (gvs f false)) (k9 (gvs g true)) (E1 (gvs g true)) 0 (j5 8 [(SV.int .u16 (0:Int))]) (j5 8 [(SV.int .u16 (0:Int))])).trans (congr rfl (fx4 λa e b c=>(j9 (by kernel_rfl) ((Bn9 L Q Y s (F0 4 (F5 (Bh L) Q Y (cd [1,1,1,1,1,1,1,1,1] Vh) (G1 (Bh L) ae7))) L a e 0 b c).trans (by kernel_rfl)))))))))) rfl)) rfl)) rfl)) rfl)) rfl))
noncomputable abbrev Bw1:Code:=D4 ah9
noncomputable def Np(L:Nat):Cfg:=D0 L [57] (A4 [(3,[2,0,0])]) [] (A4 [(6,[2]),(4,[3,0]),(5,[3,0]),(3,[3,0,6]),(2,[3,0]),(1,[0,2]),(0,[0])]) [] (A4 [(0,[3]),(1,[3,0])]) (some [2]) [] [] []
noncomputable def Bp(L n:Nat)(a:By)(v1:Int)(f:By->Option R):Option R:=match n with|0=>none|n+1=>cond (ltI 0 v1) (vl (Ez ((ab9 v1 (16:Int))+1)) λb=>cond (L3 (ab9 v1 (16:Int)) b 16) (vl (cut ([48,49,50,51,52,53,54,55,56,57,97,98,99,100,101,102]:By) (ab9 v1 (16:Int)) b) λd=>cond (J1 d.length a.length) (vl (Ez (aa9 v1 (16:Int))) λg=>Bp L n (d++a) g f) none) none) (cond (a==[]) (vl (Ez ((ab9 v1 (16:Int))+1)) λc=>cond (L3 (ab9 v1 (16:Int)) c 16) (vl (cut ([48,49,50,51,52,53,54,55,56,57,97,98,99,100,101,102]:By) (ab9 v1 (16:Int)) c) λe=>cond (J1 e.length a.length) (vl (Ez (aa9 v1 (16:Int))) λh=>Bp L n (e++a) h f) none) none) (f a))
def Av2(n a v1):E0 0 ((Np L).keep 3) (bd (Np L) Q Y (cd [1,1,0,1,0,0] Bw1)) n ⟨gp [(3,pS a),(0,p16 v1)] 18,[],s⟩ k =
 Bp L n a v1 (λa=>k (.exit 0) ⟨gp [(3,pS a)] 19,[],s⟩):=by
 induction n generalizing a v1 with
 | zero=>rfl
 | succ n b=>rw[Bp];simp only[<-b];kernel_rfl
noncomputable def B06(L:Nat)(b:Int)(c:By->Option R):Option R:=Bp L L ([]:By) b (λa=>c a)
def Cz3(d:Nat)(g0):evC (Np L) (d+1) W Y 57 [p16 g0] [] s=B06 L g0 (λa=>some (pS a,[],s)):=by refine(evE (fn:=ah9) (by kernel_rfl)).trans ?_;generalize evC (Np L) d=Q;unfold B06;exact(j9 (by kernel_rfl) ((Av2 L Q Y s (F0 0 (F5 (Np L) Q Y (cd [1,1,1] Bw1) (G1 (Np L) ah9))) L ([]:By) g0).trans (by kernel_rfl)))
noncomputable abbrev Qu:Code:=D4 ag1
noncomputable def Z7(L:Nat):Cfg:=D0 L [33] (A4 [(12,[1,0,0,0,2,0]),(6,[1,0,0,0,0,0]),(3,[1,0,0,0,0])]) [(57,Bu6)] (A4 [(20,[2]),(13,[1,1,0,2,0]),(19,[1,1,0,2,0]),(18,[1,1,0,2,0]),(17,[1,1,0,2,0,45]),(16,[1,1,0,2,0]),(15,[1,1,0,2,0]),(14,[1,1,0,2,0,29]),(12,[1,1,0,2,0,24]),(11,[1,1,0,2,0]),(10,[1,1,0,2]),(4,[1,1,0,0]),(9,[1,1,0,0]),(8,[1,1,0,0,0,22]),(7,[1,1,0,0,0]),(6,[1,1,0,0,0,17]),(5,[1,1,0,0,0]),(3,[1,1,0,0,4]),(2,[1,1,0,0]),(1,[1,1,0]),(0,[1])]) [57] (A4 [(4,[7]),(5,[1,1,0,2,0]),(0,[1,1,0]),(1,[1,1,0,0]),(2,[1,1,0,0,0]),(3,[1,1,0,0,0])]) (some [2]) [] [] []
noncomputable def Oz(L n:Nat)(b a c d:Int)(e:LL)(f:Kcb R):Option R:=match n with|0=>none|n+1=>cond (ltI (A1 (c+d)) (8:Int)) (cond (inR (A1 (c+d)) 8) (cond (okE ⟨true,false,[.int .u16]⟩ e (j4 (A1 (c+d))) 0) (vl (gE e (j4 (A1 (c+d))) 0) λg=>cond (g==0) (Oz L n b a c (A1 (d+1)) e f) (f b a c d e)) none) none) (f b a c d e)
def Bn4(n b a c e d):E0 1 ((Z7 L).keep 6) (bd (Z7 L) Q Y (cd [1,1,0,1,0,0,1,0,0,1,0,0,0] Qu)) n ⟨gp [(1,.ptr 0 0 0),(1,pI b),(0,pI a),(0,pI c),(0,pI e)] 57,[.arr false 27 1 d],s⟩ k =
 Oz L n b a c e d (λb a c e d=>k (.exit 2) ⟨gp [(1,.ptr 0 0 0),(1,pI b),(0,pI a),(0,pI c),(0,pI e)] 57,[.arr false 27 1 d],s⟩):=by
 induction n generalizing b a c e d with
 | zero=>rfl
 | succ n f=>rw[Oz];simp only[<-f];kernel_rfl
noncomputable def Ko(L n:Nat)(e b i:Int)(j:LL)(h:Int->Int->LL->Option R):Option R:=match n with|0=>none|n+1=>cond (ltI i 8) (Oz L L e b i 0 j (λd a c g f=>cond (ltI a g) (Ko L n c g (A1 (c+1)) f h) (Ko L n d a (A1 (c+1)) f h))) (h e b j)
def Bn5(n b a i2 l3):E0 1 ((Z7 L).keep 3) (bd (Z7 L) Q Y (cd [1,1,0,1,0,0] Qu)) n ⟨gp [(1,.ptr 0 0 0),(1,pI b),(0,pI a),(0,pI i2)] 58,[.arr false 27 1 l3],s⟩ k =
 Ko L n b a i2 l3 (λb a i=>k (.exit 0) ⟨gp [(1,.ptr 0 0 0),(1,pI b),(0,pI a)] 59,[.arr false 27 1 i],s⟩):=by
 induction n generalizing b a i2 l3 with
 | zero=>rfl
 | succ n h=>rw[Ko];exact(j9 (by kernel_rfl) (A0 ((Bn4 L Q Y s (F0 2 (F5 (Z7 L) Q Y (cd [1,1,0,1,0,0,1,0,0,1,1] Qu) (F0 1 (F5 (Z7 L) Q Y (cd [1,1,0,1,0,0,1,1] Qu) (lpK 1 ((Z7 L).keep 3) (bd (Z7 L) Q Y (cd [1,1,0,1,0,0] Qu)) n k))))) L b a i2 0 l3).trans (congr rfl (fx5 λe c d g f=>(j9 (by kernel_rfl) (A0 (h d g (A1 (d+1)) f) (h e c (A1 (d+1)) f)))))) rfl))
noncomputable def U5(L n:Nat)(e a:Int)(d:By)(b:Int)(c:LL)(l:By->LL->Option R):Option R:=match n with|0=>none|n+1=>cond (ltI b 8) (cond (b==e) (cond (J1 d.length 2) (vl (d++[58,58]) λp=>vl (A1 (a-1)) λm=>vl (A1 ((A1 (b+m))+1)) λo=>U5 L n e a p o c l) none) (cond (not (d==[])) (vl (A1 ((d.length:Int)-1)) λf=>cond (inR f d.length) (cond ((bAt d f)!=58) (cond (J1 d.length 1) (vl (d++[58]) λg=>cond (inR b 8) (cond (okE ⟨true,false,[.int .u16]⟩ c (j4 b) 0) (cond (ltN (gE c (j4 b) 0) 65536) (vl (Q3 (j4 (gE c (j4 b) 0))) λh=>cond (J1 g.length h.length) (U5 L n e a (g++h) (A1 (b+1)) c l) none) none) none) none) none) (cond (inR b 8) (cond (okE ⟨true,false,[.int .u16]⟩ c (j4 b) 0) (cond (ltN (gE c (j4 b) 0) 65536) (vl (Q3 (j4 (gE c (j4 b) 0))) λi=>cond (J1 d.length i.length) (U5 L n e a (d++i) (A1 (b+1)) c l) none) none) none) none)) none) (cond (inR b 8) (cond (okE ⟨true,false,[.int .u16]⟩ c (j4 b) 0) (cond (ltN (gE c (j4 b) 0) 65536) (vl (Q3 (j4 (gE c (j4 b) 0))) λj=>cond (J1 d.length j.length) (U5 L n e a (d++j) (A1 (b+1)) c l) none) none) none) none))) (l d c)
def Bn6(n at0 most1 s2 i3 l4):E0 1 ((Z7 L).keep 12) (bd (Z7 L) Q Y (cd [1,1,1,1,0,1,0,0] Qu)) n ⟨gp [(1,.ptr 0 0 0),(1,pI at0),(0,pI most1),(2,pS s2),(0,pI i3)] 55,[.arr false 27 1 l4],s⟩ k =
 U5 L n at0 most1 s2 i3 l4 (λc b=>k (.exit 4) ⟨gp [(7,pS c)] 56,[.arr false 27 1 b],s⟩):=by
 induction n generalizing at0 most1 s2 i3 l4 with
 | zero=>rfl
 | succ n a=>rw[U5];simp only[<-a];kernel_rfl
noncomputable def Dm9(L:Nat)(f g h i j l m n:Int)(o:By->LL->Option R):Option R:=Ko L L (-1) 1 0 [[(SV.int .u16 f)],[(SV.int .u16 g)],[(SV.int .u16 h)],[(SV.int .u16 i)],[(SV.int .u16 j)],[(SV.int .u16 l)],[(SV.int .u16 m)],[(SV.int .u16 n)]] (λb a e=>U5 L L b a ([]:By) 0 e (λd c=>o d c))
def Dn0(d:Nat)(a0 a1 a2 a3 a4 a5 a6 a7):evC (Z7 L) (d+1) W Y 33 [.agg [p16 a0,p16 a1,p16 a2,p16 a3,p16 a4,p16 a5,p16 a6,p16 a7]] [] s=Dm9 L a0 a1 a2 a3 a4 a5 a6 a7 (λf e=>some (pS f,[.arr false 27 1 e],s)):=by refine(evE (fn:=ag1) (by kernel_rfl)).trans ?_;generalize evC (Z7 L) d=Q;unfold Dm9;exact(j9 (by kernel_rfl) ((Bn5 L Q Y s (F0 0 (F5 (Z7 L) Q Y (cd [1,1,1] Qu) (G1 (Z7 L) ag1))) L (-1) 1 0 [[(SV.int .u16 a0)],[(SV.int .u16 a1)],[(SV.int .u16 a2)],[(SV.int .u16 a3)],[(SV.int .u16 a4)],[(SV.int .u16 a5)],[(SV.int .u16 a6)],[(SV.int .u16 a7)]]).trans (congr rfl (fx3 λb a c=>(j9 (by kernel_rfl) ((Bn6 L Q Y s (F0 4 (F5 (Z7 L) Q Y (cd [1,1,1,1,1] Qu) (G1 (Z7 L) ag1))) L b a ([]:By) 0 c).trans (by kernel_rfl)))))))
noncomputable def KM(L:Nat):Cfg:=D0 L [155] (A4 []) [] (A4 [(1,[2]),(0,[0])]) [] (A4 []) (some [2]) [] [] []
noncomputable def Ad8(L:Nat)(n0:Int)(a:Bool->Option R):Option R:=cond (not (ltI n0 0)) (cond (not (ltI 1114111 n0)) (cond (ltI n0 55296) (a true) (a (ltI 57343 n0))) (a false)) (a false)
def Cc9(d:Nat)(n0):evC (KM L) (d+1) W Y 155 [pI n0] [] s=Ad8 L n0 (λa=>some (pB a,[],s)):=by refine(evE (fn:=Tryz.f155) (by kernel_rfl)).trans ?_;generalize evC (KM L) d=Q;unfold Ad8;kernel_rfl
noncomputable abbrev Qs:Code:=D4 ae9
noncomputable def Z5(L:Nat):Cfg:=D0 L [157] (A4 [(6,[0,5,0])]) [] (A4 [(9,[6]),(8,[0,6]),(7,[0,6]),(6,[0,6,11]),(5,[0,6]),(4,[0]),(2,[0,0]),(3,[0,0]),(1,[0,0,6]),(0,[0,0,0])]) [] (A4 [(0,[0,6]),(1,[0,6])]) (some [6]) [] [] []
noncomputable def Ii(L n:Nat)(a b:Int)(e:Int->Int->Option R):Option R:=match n with|0=>none|n+1=>cond (ltI 455 a) (vl (A1 (aa9 a (35:Int))) λc=>vl (A1 (b+36)) λd=>Ii L n c d e) (e a b)
def Ad2(n a b):E0 0 ((Z5 L).keep 6) (bd (Z5 L) Q Y (cd [1,1,1,1,0,0,0] Qs)) n ⟨gp [(0,pI a),(6,pI b)] 23,[],s⟩ k =
 Ii L n a b (λa b=>k (.exit 0) ⟨gp [(0,pI a),(6,pI b)] 23,[],s⟩):=by
 induction n generalizing a b with
 | zero=>rfl
 | succ n c=>rw[Ii];simp only[<-c];kernel_rfl
noncomputable def Ih(L:Nat)(c b:Int)(i:Int->Option R):Option R:=cond (b !=0) (vl (A1 (aa9 c b)) λh=>Ii L L (A1 (c+h)) 0 (λa e=>vl (A1 ((36:Int)*a)) λf=>vl (A1 (a+38)) λd=>cond (d !=0) (vl (A1 (aa9 f d)) λg=>i (A1 (e+g))) none)) none
abbrev FP(b:Code):Prop:=∀(k:Out->St W->Option R) delta0 count1,A9 (Z5 L) Q Y b ⟨gp [(0,pI delta0),(0,pI count1)] 29,[],s⟩ k=Ih L delta0 count1 (λn0=>k .ret ⟨gp [(6,pI n0)] 24,[],s⟩)
def Ad1:FP (R:=R) L Q Y s (cd [1,1] Qs):=by intro k a b;unfold Ih;exact(j9 (by kernel_rfl) (A0 (A5 λc=>((Ad2 L Q Y s (F0 0 (F5 (Z5 L) Q Y (cd [1,1,1,1,1] Qs) k)) L (A1 (a+c)) 0).trans (by kernel_rfl))) rfl))
noncomputable def NH(L:Nat)(b a:Int)(c:Bool)(h:Int->Option R):Option R:=cond c (vl (A1 (aa9 b (700:Int))) λf=>Ih L f a (λd=>h d)) (vl (A1 (aa9 b (2:Int))) λg=>Ih L g a (λe=>h e))
def Cb6(e:Code)(a:FP (R:=PV × List Blk × W) L Q Y s e)(c b:Int)(d:Bool):A9 (Z5 L) Q Y (cd [] (I2 [1,1] e Qs)) ⟨[pI c,pI b,pB d]++tps 28,[],s⟩ (G1 (Z5 L) ae9)=NH L c b d (λi=>some (pI i,[],s)):=by unfold NH;exact let h:=(G1 (Z5 L) ae9);(j9 (by kernel_rfl) (A0 (A5 λf=>((a h f b).trans (by kernel_rfl))) (A5 λg=>((a h g b).trans (by kernel_rfl)))))
def Cb7(d:Nat)(delta0 count1 first2):evC (Z5 L) (d+1) W Y 157 [pI delta0,pI count1,pB first2] [] s=NH L delta0 count1 first2 (λa=>some (pI a,[],s)):=
 (evE (fn:=ae9) (by kernel_rfl)).trans (j9 (by kernel_rfl) (Cb6 L (evC (Z5 L) d) Y s (cd [1,1] Qs) (Ad1 L (evC (Z5 L) d) Y s) delta0 count1 first2))
noncomputable def A60(L:Nat):Cfg:=D0 L [176] (A4 []) [] (A4 [(3,[2]),(2,[2]),(1,[0,3]),(0,[0])]) [] (A4 []) (some [2]) [] [] []
noncomputable def Dj0(L:Nat)(a:Int)(d:Int->Option R):Option R:=cond (ltI a 26) (vl (wu8 (A1 ((97:Int)+a))) λb=>d b) (vl (A1 ((A1 ((48:Int)+a))-26)) λc=>d (wu8 c))
def Dj1(d:Nat)(d0):evC (A60 L) (d+1) W Y 176 [pI d0] [] s=Dj0 L d0 (λa=>some (p8 a,[],s)):=by refine(evE (fn:=Tryz.f176) (by kernel_rfl)).trans ?_;generalize evC (A60 L) d=Q;unfold Dj0;kernel_rfl
noncomputable abbrev Vf:Code:=D4 af1
noncomputable def Ky(L:Nat):Cfg:=D0 L [187] (A4 []) [] (A4 [(7,[2]),(2,[2]),(4,[2]),(6,[2]),(5,[0,22]),(3,[0,12]),(1,[0,2]),(0,[0])]) [] (A4 [(0,[])]) (some [2]) [] [] []
noncomputable def Zm(a:Int)(g:Bool)(e:Int->Option R)(f:Int->Bool->Option R):Option R:=cond g (vl (A1 (wu8 (a-65))) λb=>e b) (cond (not (ltI a 48)) (cond (not (ltI 57 a)) (vl (A1 (wu8 (a-48))) λc=>vl (A1 (c+26)) λd=>e d) (f a (not (ltI 57 a)))) (f a false))
abbrev TM(b:Code):Prop:=∀(k:Out->St W->Option R) a c,A9 (Ky L) Q Y b ⟨gp [(0,p8 a),(12,pB c)] 20,[],s⟩ k=Zm a c (λn0=>k .ret ⟨gp [(2,pI n0)] 31,[],s⟩) (λa c=>k .normal ⟨gp [(0,p8 a),(22,pB c)] 10,[],s⟩)
def Bf9:TM (R:=R) L Q Y s (cd [1,0,0,1,1,1] Vf):=by intro k a b;unfold Zm;kernel_rfl
noncomputable def Zn(a:Int)(l:Bool)(f:Int->Option R)(j:Int->Bool->Option R):Option R:=cond l (vl (A1 (wu8 (a-97))) λg=>f g) (cond (not (ltI a 65)) (Zm a (not (ltI 90 a)) (λh=>f h) (λb c=>j b c)) (Zm a false (λi=>f i) (λd e=>j d e)))
abbrev DV(b:Code):Prop:=∀(k:Out->St W->Option R) a c,A9 (Ky L) Q Y b ⟨gp [(0,p8 a),(2,pB c)] 30,[],s⟩ k=Zn a c (λn0=>k .ret ⟨gp [(2,pI n0)] 31,[],s⟩) (λa c=>k .normal ⟨gp [(0,p8 a),(22,pB c)] 10,[],s⟩)
def Bg0(a:Code)(b:TM (R:=R) L Q Y s a):DV (R:=R) L Q Y s (cd [1,0,0,1] (I2 [1,0,0,1,1,1] a Vf)):=by intro k c d;unfold Zn;simp only[<-b k];kernel_rfl
def Bg1:DV (R:=R) L Q Y s (cd [1,0,0,1] Vf):=by intro k a b;exact j9 (by kernel_rfl) (Bg0 L Q Y s (cd [1,0,0,1,1,1] Vf) (Bf9 L Q Y s) k a b)
noncomputable def Cx8(L:Nat)(c:Int)(d:Int->Option R):Option R:=cond (not (ltI c 97)) (Zn c (not (ltI 122 c)) (λa=>d a) (λe f=>d (-1))) (Zn c false (λb=>d b) (λg h=>d (-1)))
def Dk0(b:Code)(a:DV (R:=PV × List Blk × W) L Q Y s b)(c:Int):A9 (Ky L) Q Y (cd [] (I2 [1,0,0,1] b Vf)) ⟨[p8 c]++tps 33,[],s⟩ (G1 (Ky L) af1)=Cx8 L c (λe=>some (pI e,[],s)):=by unfold Cx8;exact let d:=(F0 0 (F5 (Ky L) Q Y (cd [1,1] Vf) (G1 (Ky L) af1)));(j9 (by kernel_rfl) (A0 ((a d c (not (ltI 122 c))).trans (by kernel_rfl)) ((a d c false).trans (by kernel_rfl))))
def Dk1(d:Nat)(b0):evC (Ky L) (d+1) W Y 187 [p8 b0] [] s=Cx8 L b0 (λa=>some (pI a,[],s)):=
 (evE (fn:=af1) (by kernel_rfl)).trans (j9 (by kernel_rfl) (Dk0 L (evC (Ky L) d) Y s (cd [1,0,0,1] Vf) (Bg1 L (evC (Ky L) d) Y s) b0))
end
end
end Go.Proofs.YtddlcgjamdbinaaGreatDoor.E
