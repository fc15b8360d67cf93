/-
  Parts of the proof, merged by a program of the prover's own; no condition.
-/
import Derived.Test.YtddlcgjamdbinaaGreatDoorKXN2
import Derived.Deep.Draws
import Derived.JoinedCond
import Derived.KernelRfl
import Derived.LaidMore
import Derived.LaidSub
import Derived.Laws.RangeString
import Derived.Lay
import Derived.Lib.IndexMore
import Derived.Lib.ItoaNum
import Derived.Lib.Join
import Derived.Lib.LaidTab
import Derived.Lib.LaidU8
import Derived.Lib.RuneCount
import Derived.Lib.TrailingZeros
import Derived.Lib.ValidU
import Derived.OpenShut
import Derived.ProofKit
import Derived.RangeFuncLeaves
import Derived.RangeFuncNested
import Derived.Shelf.Vars
import Derived.Sort.Grow
import Derived.Test.YtddlcgjamdbinaaGreatDoorChecked
import Derived.Test.YtddlcgjamdbinaaGreatDoorProg
import Derived.Test.YtddlcgjamdbinaaGreatDoorRows
import Derived.WalkKit
open List renaming length->c9,getElem?_eq_getElem->j1,getD->j2,flatten->j5,replicate->j6,getD_eq_getElem?_getD->o0,getElem_mem->o5,isEmpty->o7,isPrefixOf->p7,getElem?_eq_none->v7,map->v8,mem_append->w8,all_eq_true->x3,getElem_map->x4,length_map->y8,mem_cons->y9,all->aa0,take->aa1,getElem?_map->ab0,eq_nil_iff_forall_not_mem->ab2,append_nil->ab7,isSuffixOf->ab8,map_append->ab9,getElem_append_left->ac6,cons_append->ac9,prefix_iff_eq_take->ad0,suffix_iff_eq_drop->ad1,take_of_length_le->ad4,mem_cons_of_mem->ae1,drop->ae3,getElem?_range->ae4,length_append->ae5,nodup_cons->af7,drop_drop->af9,drop_zero->ag0,mapM_cons->ag1,range->ag2,take_add->ag8,all_map->ah4,map_map->ah5,set->ai1
open Int renaming toNat->j0,eq_ofNat_of_zero_le->x9,tmod->z7,tdiv->aa6
open Option.some renaming injEq->j4,inj->o9
open Go.Proofs.Tryz renaming prog->j7,checked->ae9,f157->af2,f166->af3,f187->af4,f193->af5,f33->ag3,f51->ag4,f88->ag5,f97->ag6,f145->ag9,f152->ah0,f184->ah1,f194->ah2,f30->ai4,f36->ai5,f50->ai6,f57->ai7,f62->ai8,f63->ai9,f66->aj0
open Eq renaming trans->j8
open Option renaming isSome->j9,map_some->ac0,isSome_iff_exists->ac7
open Bool renaming and_eq_true->k9,eq_iff_iff->ad5
open Go.Lib renaming decDigits->o6,cut->x6,tabData->aa5,VarReads->aa8,deBruijn64tab->ac4,acceptData->ad8,decodeL->ad9,join->ae0,firstTab->ae6,pow10Tab->ae7,index->af1
open Go.IntKind renaming wrap->o8,signed->aa7,bits->ac1
open Nat renaming mod_eq_of_lt->p4,lt_of_lt_of_le->p6,le_refl->p9,eq_of_beq_eq_true->w6,ble->w9,beq->x7,le_of_not_lt->ad2,add_comm->ah6,blt->ah7,zero_mul->ah8
open Prod.mk renaming injEq->p5
open Array renaming getElem?_eq_some_iff->x5,replicate->ab6,getElem?_eq_none->ad3
open UInt8 renaming ofNat->x8,le_iff_toNat_le->ab1,toNat->aj1
open Go.World renaming putObj_heap_other->y5,laidAll->aa3,alloc_heap_new->ab5,cells?_some->af0,cell?->aj2
open BitVec renaming ofInt->y7,ofInt_natCast->ad7
open Go.Value renaming okWide->aa2,int->ab3
open Go.DataW renaming trod->aa4,TrodAll->ab4,Whole->ai0
open Go.Lib.laidMet renaming reads->aa9
open Go.Fence renaming wide->ac2
open Go.MakeChecks renaming laidMetH_plain->ac3
open Go.Oper renaming uponIn_enter->ac5
open Classical renaming choose->ac8,choose_spec->ad6
open Go.Result renaming andThen->ae2
open Go.Sem renaming run_bind->ae8
open Go.Ending renaming returned->af6
open Go.Code renaming rangeFunc->af8
open Go.Instr renaming loadAt->ah3
namespace Go.Proofs.YtddlcgjamdbinaaGreatDoor.E
set_option linter.all false
section
open Go
def Ctx.hide(Γ:Ctx)(ns:List Nat):Ctx:={ Γ with nm:=λb=>if b∈ns then none else Γ.nm b }
def Ctx.reyv(Γ:Ctx)(y:Value)(hy:y.oneCell'=true):Ctx:={ Γ with yv:=y,yv1:=hy }
section
variable {X R : Type} {r : R} {C : Cfg} {I : X -> (Nat -> Prop) -> (Nat -> Prop) -> World -> Prop} {Γ Γ' : Ctx} {J T : Nat -> Prop} {Y : St X} {a : Act} {w w' : World} {W : F4} {Z : Yh X} {K : Value} {H H' : List Blk} {N : Array Value}
theorem Jh:∀{l:List PV},yfL l=true->∀v∈l,v.yf=true
 | [],_,v,b=>by simp at b
 | x::r,h,v,b=>by
  simp only[yfL,k9] at h;rcases y9.1 b with rfl|b
  ·exact h.1
  ·exact Jh h.2 v b
theorem VP.reyv{sh:Nat->Option Shp}{y:Value}{hy:y.oneCell'=true}{v:PV}{V:Value}(h:VP Γ sh w v V):v.yf=true->VP (Γ.reyv y hy) sh w v V:=by
 induction h with
 | s v V h=>intro _;exact .s v V h
 | nsl=>intro _;exact .nsl
 | flv b e sz h=>intro _;exact .flv b e sz h
 | fl b g v e sz n cap h hv hg hcap hm hs=>intro _;exact .fl b g v e sz n cap h hv hg hcap hm hs
 | vwv b e sz i h=>intro _;exact .vwv b e sz i h
 | vw b i n g a cap v e sz m h hv hg ha hi hcap hm=>intro _;exact .vw b i n g a cap v e sz m h hv hg ha hi hcap hm
 | ptrA b i off g v e sz n h hg=>intro _;exact .ptrA b i off g v e sz n h hg
 | ptrB b off g h hg=>intro _;exact .ptrB b off g h hg
 | fnr g x y A B As Bs hf hA hB ha hb hx hy ihx ihy=>
  intro hc;simp only[PV.yf,k9] at hc;exact .fnr g x y A B As Bs hf hA hB ha hb (λj h=>ihx j h (Jh hc.1 _ (o5 h))) (λj h=>ihy j h (Jh hc.2 _ (o5 h)))
 | it b g h hg=>intro _;exact .it b g h hg
 | mpv b g h hg=>intro _;exact .mpv b g h hg
 | yd=>intro h;simp[PV.yf] at h
 | agg l A As hA ha hl ih=>
  intro hc;simp only[PV.yf] at hc;exact .agg l A As hA ha (λj h=>ih j h (Jh hc _ (o5 h)))
 | tup l A As hA ha hl ih=>
  intro hc;simp only[PV.yf] at hc;exact .tup l A As hA ha (λj h=>ih j h (Jh hc _ (o5 h)))
 | bad V=>intro _;exact .bad V
mutual
theorem PV.yf_rn(f:Nat->Nat):∀v:PV,(v.rn f).yf=v.yf
 | .s _=>rfl
 | .nsl=>rfl
 | .fl b=>rfl
 | .vw b _ _=>rfl
 | .ptr b _ _=>rfl
 | .fnr _ x y=>by simp only[PV.rn,PV.yf,Tw f x,Tw f y]
 | .it b=>rfl
 | .yd=>rfl
 | .agg l=>by simp only[PV.rn,PV.yf,Tw f l]
 | .tup l=>by simp only[PV.rn,PV.yf,Tw f l]
 | .bad=>rfl
theorem Tw(f:Nat->Nat):∀l:List PV,yfL (rnL f l)=yfL l
 | []=>rfl
 | v::r=>by simp only[rnL,yfL,PV.yf_rn f v,Tw f r]
end
theorem Cd4(f:PV->PV)(l:List (List UInt8 × PV)):(KJ f l).map Prod.snd=(l.map Prod.snd).map f:=by simp[KJ]
theorem Blk.yf_rn(f:Nat->Nat)(x:Blk):(x.rn f).yf=x.yf:=(by cases x with|mp ents=>simp only[Blk.rn,Blk.yf,Cd4,<-Mp,Tw]|_=>simp[Blk.rn,Blk.yf,Tw])
theorem C88(a:Bool)(l:List SV):(svV a l).yf=true:=by
 cases a with
 | true=>
  simp only[svV,cond_true,PV.yf]
  induction l with
  | nil=>rfl
  | cons x l b=>exact b
 | false=>simp only[svV,cond_false];split<;>rfl
theorem BR.reyv{sh:Nat->Option Shp}{b:Nat}{x:Blk}{y:Value}{hy:y.oneCell'=true}(h:BR Γ sh w b x)(hx:x.yf=true):BR (Γ.reyv y hy) sh w b x:=by
 cases x with
 | arr v e sz els=>exact h
 | box cells=>
  simp only[Blk.yf] at hx;obtain⟨g,cur,e,h1,h2,h3,h4⟩:=h;refine⟨g,cur,e,h1,h2,h3,λj h=>?_⟩;obtain⟨V,e1,e2⟩:=h4 j h;exact⟨V,e1,e2.reyv (Jh hx _ (o5 h))⟩
 | iter s p=>exact h
 | mp ents=>
  simp only[Blk.yf] at hx;obtain⟨g,es,ck,h1,h2,h3⟩:=h;exact⟨g,es,ck,h1,h2,h3.imp λv hv V k=>k.reyv (Jh hx v hv)⟩
 | ms a ents=>
  obtain⟨g,es,ck,h1,h2,h3⟩:=h;refine⟨g,es,ck,h1,h2,h3.imp λv hv V k=>k.reyv ?_⟩;obtain⟨e,he,rfl⟩:=CY hv;exact C88 a _
 | dead=>exact h
theorem HR.reyv{y:Value}{hy:y.oneCell'=true}(h:HR Γ H w)(hx:∀b (h:b<H.length),(H[b]).yf=true):HR (Γ.reyv y hy) H w:=
 ⟨h.inj,h.lt,h.stlt,h.nms,λb hb=>(h.blk b hb).reyv (hx b hb)⟩
theorem IF:∀(H:List Blk) (n:Nat),∀b (h:b<H.length),(n+b)∈Bl C H n\/Ea C H[b]=true
 | [],n,b,h=>by simp at h
 | x::r,n,0,_=>by
  cases c:Ea C x with
  | true=>exact .inr c
  | false=>exact .inl (by simp[Bl,c])
 | x::r,n,b+1,h=>by
  have:=IF r (n+1) b (by simpa using h);rw[show n+1+b=n+(b+1) by omega] at this;rcases this with q|q
  ·refine .inl ?_;simp only[Bl];cases Ea C x with
   | true=>exact q
   | false=>exact ae1 _ q
  ·exact .inr (by simpa using q)
theorem MK{d:List Nat}(c:∀b,b∉d->A2 H' b=A2 H b):Y9 Γ (A2 H) w (Γ.hide d) (A2 H') w (·∉d):=
 ⟨λ_ _=>rfl,λ_ h=>h,λb e=>by simp only[Ctx.hide];rw[if_neg e],c,λ_ _ _ _=>rfl,rfl⟩
theorem Cn3{f:List Nat}(o:HR Γ H w)(v:f.Nodup)(u:∀b∈f,b<H.length):(N3 f H).length=H.length/\(∀b,b∉f->A2 (N3 f H) b=A2 H b)/\(∀b,b∈f->A2 (N3 f H) b=some .dead)/\HR (Γ.hide f) (N3 f H) w:=by
 obtain⟨i,x,q⟩:=Ov (Γ:=Γ) (sh:=A2 H) (w:=w) f H;obtain⟨A,t⟩:=Jc f (j6 f.length .dead) (Q6 f H) v (by simp) (λb d=>by rw[i];exact u b d);have k:(N3 f H).length=H.length:=by rw[N3,A,i]
 have j:∀b,b∉f->(N3 f H)[b]? = (Q6 f H)[b]?:=λb d=>by rw[N3,t,if_neg d]
 have l:∀b,b∈f->(N3 f H)[b]? = some .dead:=λb d=>by
  rw[N3,t,if_pos d,List.getElem?_replicate,if_pos (List.idxOf_lt_length_of_mem d)]
 have p:∀b,b∉f->A2 (N3 f H) b=A2 H b:=λb d=>by
  rw[<-x b];simp only[A2,j b d]
 have M:=MK (Γ:=Γ) (H:=H) (w:=w) p;have m:∀b g,(Γ.hide f).nm b=some g->b∉f/\Γ.nm b=some g:=λb g h=>by
  simp only[Ctx.hide] at h;split at h
  ·cases h
  ·exact⟨‹_›,h⟩
 refine⟨k,p,λb d=>by simp only[A2,l b d];rfl,⟨λb B g D F=>o.inj b B g (m b g D).2 (m B g F).2,λb g h=>?_,o.stlt,λb d c n=>?_,λb d=>?_⟩⟩
 ·obtain⟨y,z,G⟩:=o.lt b g (m b g h).2;exact⟨by rw[k];exact y,z,G⟩
 ·rw[k] at d ⊢;by_cases h:b∈f
  ·have:=l b h;rw[j1 (by rw[k];exact d)] at this;simp only[j4] at this;rw[this] at n;simp[Blk.nms] at n
  ·have e:=j b h;rw[j1 (by rw[k];exact d),j1 (by rw[i];exact d)] at e;simp only[j4] at e;rw[e] at n;exact o.nms b d c ((q b (by rw[i];exact d) d).1 c n).2
 ·rw[k] at d;by_cases h:b∈f
  ·have:=l b h;rw[j1 (by rw[k];exact d)] at this;simp only[j4] at this;rw[this];trivial
  ·have e:=j b h;rw[j1 (by rw[k];exact d),j1 (by rw[i];exact d)] at e;simp only[j4] at e;rw[e];obtain⟨y,z⟩:=q b (by rw[i];exact d) d;exact(z b (o.blk b d)).mono M (M.nm b h) (λ_ _=>rfl) (λc n=>(y c n).1)
theorem Qa{b:Obj}{g:Nat}(h:g<w.heap.size):(w.alloc b).heap[g]? = w.heap[g]?:=by show(w.heap.push b)[g]? = w.heap[g]?;rw[Array.getElem?_push];rw[if_neg (by omega)]
theorem Rt{v:PV}{V:Value}{sh:Nat->Option Shp}{f:Nat}{first b:List PV}(h:Qy v=some (f,first,b))(i:VP Γ sh w v V):∃A B,V = .func (.func f) A B/\CR Γ sh w first A/\CR Γ sh w b B/\∀c∈C7 (first++b),c∈v.nms:=by
 have g:∀(l:List SV),C7 (l.map PV.s)=[]:=λl=>by
  rw[ab2];intro c d;obtain⟨j,k,d⟩:=C5.1 d;simp[PV.nms] at d
 unfold Qy at h;split at h
 ·simp only[j4,p5] at h;obtain⟨rfl,rfl,rfl⟩:=h;obtain⟨A,B,rfl,hA,e⟩:=i.inv_fn';exact⟨A,B,rfl,hA,e,λc d=>by rw[N7,g,g] at d;simp at d⟩
 ·simp only[j4,p5] at h;obtain⟨rfl,rfl,rfl⟩:=h;obtain⟨A,B,rfl,hA,e⟩:=i.inv_fnr';exact⟨A,B,rfl,hA,e,λc d=>by rw[N7] at d;simpa[PV.nms] using d⟩
 ·cases h
theorem VP.ndead{sh:Nat->Option Shp}{v:PV}{V:Value}(h:VP Γ sh w v V):∀c∈v.nms,sh c≠some .dead:=by
 induction h with
 | s v V h=>intro c hc;simp[PV.nms] at hc
 | nsl=>intro c hc;simp[PV.nms] at hc
 | flv b e sz h=>intro c hc;simp[PV.nms] at hc;subst hc;rw[h];simp
 | fl b g v e sz n cap h hv hg hcap hm hs=>intro c hc;simp[PV.nms] at hc;subst hc;rw[h];simp
 | vwv b e sz i h=>intro c hc;simp[PV.nms] at hc;subst hc;rw[h];simp
 | vw b i n g a cap v e sz m h hv hg ha hi hcap hm=>intro c hc;simp[PV.nms] at hc;subst hc;rw[h];simp
 | ptrA b i off g v e sz n h hg=>intro c hc;simp[PV.nms] at hc;subst hc;rw[h];simp
 | ptrB b off g h hg=>intro c hc;simp[PV.nms] at hc;subst hc;rw[h];simp
 | fnr g x y A B As Bs hf hA hB ha hb hx hy ihx ihy=>
  intro c hc;simp only[PV.nms,w8] at hc;rcases hc with hc|hc
  ·obtain⟨j,hj,hc⟩:=C5.1 hc;exact ihx j hj c hc
  ·obtain⟨j,hj,hc⟩:=C5.1 hc;exact ihy j hj c hc
 | it b g h hg=>intro c hc;simp[PV.nms] at hc;subst hc;rw[h];simp
 | mpv b g h hg=>intro c hc;simp[PV.nms] at hc;subst hc;rw[h];simp
 | yd=>intro c hc;simp[PV.nms] at hc
 | agg l A As hA ha hl ih=>intro c hc;simp only[PV.nms] at hc;obtain⟨j,hj,hc⟩:=C5.1 hc;exact ih j hj c hc
 | tup l A As hA ha hl ih=>intro c hc;simp only[PV.nms] at hc;obtain⟨j,hj,hc⟩:=C5.1 hc;exact ih j hj c hc
 | bad V=>intro c hc;simp[PV.nms] at hc
theorem BR.ndead{sh:Nat->Option Shp}{b:Nat}{x:Blk}(h:BR Γ sh w b x):∀c∈x.nms,sh c≠some .dead:=by
 cases x with
 | box cells=>
  intro c hc;simp only[Blk.nms] at hc;obtain⟨j,hj,hc⟩:=C5.1 hc;obtain⟨g,cur,e,h1,h2,h3,h4⟩:=h;obtain⟨V,_,e2⟩:=h4 j hj;exact e2.ndead c hc
 | arr v e sz els=>intro c hc;simp[Blk.nms] at hc
 | iter s p=>intro c hc;simp[Blk.nms] at hc
 | mp ents=>
  intro c hc;simp only[Blk.nms] at hc;obtain⟨j,hj,hc⟩:=C5.1 hc;obtain⟨g,es,ck,h1,h2,h3⟩:=h;exact h3.vals _ (o5 hj) (λV k=>k.ndead c hc)
 | ms a ents=>intro c hc;simp[Blk.nms] at hc
 | dead=>intro c hc;simp[Blk.nms] at hc
theorem IY{ro:Option Nat}{n n0:Nat}{g:Operand}{ps:Array Tmp}{aq body:Code}{k:Out->St X->Option R}{Q:Exit->Act->World->Prop}{f6:F4}{f:Nat}{first a0:List PV}{m:List Nat}(A:Ask C I W Z K)(h8:Bq C f6)(l4:Γ.yv=K)(i5:WP C I W Z K aq)(i7:WP C I W Z K body)
  (l2:Qy (opnd C Y.sl g)=some (f,first,a0)) (f3:m.Nodup) (b8:∀c∈C7 (first++a0),c∈m) (a4:∀b∈m,b<Y.hp.length)
  (h:Wi C f6 f first a0 m Y (λl6=>Jw ps l6 (λY k=>A9 C W Z aq Y k) (λY k=>A9 C W Z body Y k)) k=some r) (S:SI C I Γ J Y a.tmps w) (hM:Mk n0 Γ J w a.defers) (hR:Ro ro Γ J w) (hP:Cl6 C I n0 Γ J Y.hp w k r Q) :
  (af8 g ps aq body).wpIn (G7 ro) n C.P Q a w:=by
 have hv:=(S.opnd g).1;have hvn:=(S.opnd g).2;obtain⟨FA,FB,h9,i9,j3,m4⟩:=Rt l2 hv;unfold Wi at h;split at h
 case isFalse=>cases h
 rename_i b5;simp only[k9,x3] at b5;obtain⟨⟨⟨k0,f4⟩,l3⟩,d4⟩:=b5;split at h
 case h_2=>cases h
 rename_i ret Hc H1 a2 s' e8;refine wpIn_rangeFunc (λfn _=>?_);have h7:∃(G:World) (l Dv:Nat) (D:Option Nat),(Instr.enterLoop fn a.tmps ps aq body ro).run C.P w = .ok (l,D.toList.map mkD) G/\w.heap.size<=l/\l<G.heap.size/\w.heap.size<=G.heap.size/\(∀g,g<w.heap.size->G.heap[g]? = w.heap[g]?)/\
   G.heap[l]? = some (.loop (Jv fn a.tmps ps aq body Dv .ready none))/\(∀d,D=some d->w.heap.size<=d/\d<G.heap.size/\d≠l/\G.heap[d]? = some (.deferred (some [])))/\G.os=w.os/\G.tape=w.tape/\G.output=w.output:=by
  cases ro with
  | none=>
   refine⟨(w.alloc (.deferred (some []))).alloc (.loop (Jv fn a.tmps ps aq body w.heap.size .ready none)),w.heap.size+1,w.heap.size,some w.heap.size,run_enterLoop_outer _ _ _ _ _,by omega,by simp,by simp;omega,λg B=>?_,?_,λd hd=>?_,rfl,rfl,rfl⟩
   ·rw[Qa (by simp;omega),Qa B]
   ·have:=ab5 (w.alloc (.deferred (some []))) (.loop (Jv fn a.tmps ps aq body w.heap.size .ready none));rwa [World.size_alloc] at this
   ·simp only[j4] at hd;subst hd;exact⟨p9 _,by simp;omega,by omega,by rw[Qa (by simp)];exact ab5 w _⟩
  | some l0=>
   obtain⟨_,r0,l1⟩:=hR l0 rfl;exact⟨w.alloc (.loop (Jv fn a.tmps ps aq body r0.defers .ready none)),w.heap.size,r0.defers,none,run_enterLoop_inner l1 _ _ _ _ _,p9 _,by simp,by simp,λg B=>Qa B,ab5 w _,λd hd=>(by cases hd),rfl,rfl,rfl⟩
 obtain⟨G,lw,Dv,D,c4,k8,k6,g9,a5,k7,hD,ho⟩:=h7;obtain⟨S1,m5⟩:=S.wide A.hI (St':=Γ.St) a5 g9 (λ_ h=>h) (λ_ h=>.inl h) (λg B=>by have:=S.hr.stlt g B;omega) ho.1 ho.2.1 ho.2.2;have S1:SI C I Γ J Y a.tmps G:=S1;have k4:=A.hI.foot _ _ _ _ S.inv;have d8:∀{g},w.heap.size<=g->g<G.heap.size->Off Γ J G g:=fun {g} h1 h2=>⟨h2,λq=>by have:=S.hr.stlt g q;omega,λb q=>by have:=(S.hr.lt b g q).2.1;omega,λq=>by have:=(k4 g q).1;omega⟩
 have d1:Off Γ J G lw:=d8 k8 k6;have d0:∀d,D=some d->Off Γ J G d:=λd h=>d8 (hD d h).1 (hD d h).2.1
 obtain⟨dl,b9,f7,e3⟩:=Cn3 S1.hr f3 a4;have c6:=Mg (Γ:=Γ) (sh:=A2 Y.hp) (w:=G) (m++Bl C Y.hp 0) Y.sl;have f0:=MK (Γ:=Γ) (H:=Y.hp) (H':=N3 m Y.hp) (w:=G) b9;have a1:∀c∈C7 (L4 (m++Bl C Y.hp 0) Y.sl),c∉m/\c<Y.hp.length/\Ea C (Y.hp.getD c .dead)=true:=λc u=>by
  obtain⟨F,q2⟩:=c6.2.1 c u;have q3:=S.sr.nms c q2;simp only[w8,not_or] at F;refine⟨F.1,q3,?_⟩;have e:Y.hp.getD c .dead=Y.hp[c]:=by rw[o0,j1 q3];rfl
  rw[e];rcases IF (C:=C) Y.hp 0 c q3 with q|q
  ·rw[Nat.zero_add] at q;exact absurd q F.2
  ·exact q
 have g0:SR (Γ.hide m) (N3 m Y.hp) G (L4 (m++Bl C Y.hp 0) Y.sl) a.tmps:=by
  have h0:SR Γ Y.hp G (L4 (m++Bl C Y.hp 0) Y.sl) a.tmps:=⟨by rw[c6.1];exact S1.sr.size,λc u=>(a1 c u).2.1,λi hi=>by
   have b7:i<Y.sl.length:=by rw[<-c6.1];exact hi
   obtain⟨V,e1,e2⟩:=S1.sr.slot i b7;exact⟨V,e1,c6.2.2 i hi b7 V e2⟩⟩
  exact h0.mono f0 (λc u=>⟨(a1 c u).1,by rw[dl];exact(a1 c u).2.1⟩)
 have M:∀{b g},(Γ.hide m).nm b=some g->b∉m/\Γ.nm b=some g:=fun {b g} h=>by
  simp only[Ctx.hide] at h;split at h
  ·cases h
  ·exact⟨‹_›,h⟩
 have SS:SI C I (Γ.hide m) J { sl:=L4 (m++Bl C Y.hp 0) Y.sl,hp:=N3 m Y.hp,s:=Y.s } a.tmps G:=⟨e3,g0,S1.g,S1.inv,λb g p=>S1.dis b g (M p).2⟩
 have g4:∀c∈C7 (L4 (m++Bl C Y.hp 0) Y.sl),c<(N3 m Y.hp).length/\Hh C (A2 (N3 m Y.hp) c):=λc u=>by
  obtain⟨F,q2,q3⟩:=a1 c u;exact⟨by rw[dl];exact q2,by rw[b9 c F];exact(HE q2).1 q3⟩
 have d7:∀{g},Off Γ J G g->Off (Γ.hide m) J G g:=fun {g} h=>⟨h.1,h.2.1,λb q=>h.2.2.1 b (M q).2,h.2.2.2⟩
 let Φc:Nat->Prop:=λg=>J g\/(∃b,(Γ.hide m).nm b=some g)\/g=lw\/D=some g
 have h6:RI C I (Γ.hide m) (N3 m Y.hp) G J (L4 (m++Bl C Y.hp 0) Y.sl) a.tmps lw D (Jv fn a.tmps ps aq body Dv) (N3 m Y.hp,none,Y.s) Γ.St Φc G:=by
  refine⟨Γ.hide m,J,SS,Stp.pg (Stp.refl e3),λ_ h=>h,λ_=>Iff.rfl,λg B=>?_,d7 d1,λd h=>d7 (d0 d h),k7,λd h=>(hD d h).2.2.2⟩;rcases B with q|⟨b,q⟩|q|q
  ·have:=A.hI.foot _ _ _ _ S1.inv g q;exact this
  ·have:=e3.lt b g q;exact⟨this.2.1,this.2.2⟩
  ·rw[q];exact⟨d1.1,d1.2.1⟩
  ·exact⟨(d0 g q).1,(d0 g q).2.1⟩
 have i0:=UJ S1.hr f3 a4 k0;have a3:=λb (h:b∈m)=>Aw h
 have f2:(O4 Y.hp m).length=m.length:=by simp[O4]
 let y:Value:=.func (.yield lw) #[] #[];have b0:y.oneCell'=true:=rfl;have f9:HR ((Γ.lent m).reyv y b0) (O4 Y.hp m) G:=i0.reyv (λb p=>by
  have i6:b<m.length:=by rw[<-f2];exact p
  simp only[O4,x4,Blk.yf_rn];exact l3 _ (o5 i6))
 have d9:∀{l:List PV} {V:Array Value},CR Γ (A2 Y.hp) w l V->yfL l=true->(∀c∈C7 l,c∈m)->CR ((Γ.lent m).reyv y b0) (A2 (O4 Y.hp m)) G (rnL (G9 m) l) V:=fun {l V} u hy hn=>by
  have g2:CR Γ (A2 Y.hp) G l V:=u.mono (Γ':=Γ) (H':=Y.hp) (AJ S.hr a5 (λ_ h=>h)) (λ_ _=>trivial);rw[Mp];refine⟨by rw[y8];exact g2.1,λj hj=>?_⟩;have f1:j<l.length:=by simpa using hj
  obtain⟨U,e,q⟩:=g2.2 j f1;refine⟨U,e,?_⟩;rw[x4];refine VP.reyv (VP.rn (Γ:=Γ) (Γ':=Γ.lent m) rfl q (.inr λ_ h=>h) (λc u=>?_)) (by rw[PV.yf_rn];exact Jh hy _ (o5 f1));have c3:=hn c (C5.2 ⟨j,f1,u⟩);obtain⟨F,q2⟩:=a3 c c3;exact⟨Qk c3,by rw[Kq a4 F,q2]⟩
 have l7:∀(x z:List PV),yfL (x++z)=(yfL x&&yfL z):=λx z=>by
  induction x with
  | nil=>simp[yfL]
  | cons v x ih=>simp[yfL,ih,Bool.and_assoc]
 rw[l7,k9] at f4;have e7:CR ((Γ.lent m).reyv y b0) (A2 (O4 Y.hp m)) G (rnL (G9 m) first++.yd::rnL (G9 m) a0) (FA++#[y]++FB):=by
  have h1:=d9 i9 f4.1 (λc u=>b8 c (by rw[N7];simp[u]));have h2:=d9 j3 f4.2 (λc u=>b8 c (by rw[N7];simp[u]));have h3:CR ((Γ.lent m).reyv y b0) (A2 (O4 Y.hp m)) G [.yd] #[y]:=CR.one .yd;have:=(h1.append h3).append h2;simpa using this
 have e6:∀c∈C7 (rnL (G9 m) first++.yd::rnL (G9 m) a0),c<(O4 Y.hp m).length:=λc u=>by
  have:c∈(C7 (first++a0)).map (G9 m):=by
   rw[N7] at u;simp only[C7,PV.nms,List.nil_append,Fi,w8] at u;rw[N7,ab9,w8];exact u
  obtain⟨d,hd,rfl⟩:=List.mem_map.1 this;rw[f2];exact(a3 d (b8 d hd)).1
 have a7:∀{i g},(Γ.lent m).nm i=some g->∃hi:i<m.length,Γ.nm m[i]=some g:=fun {i g} h=>by
  simp only[Ctx.lent] at h;cases hi:m[i]? with
  | none=>rw[hi] at h;simp at h
  | some b=>
   obtain⟨h1,h2⟩:=List.getElem?_eq_some_iff.1 hi;rw[hi] at h;exact⟨h1,by rw[h2];exact h⟩
 have c1:=h8 _ _ _ y (Dd3 A.hI) (Dd4 (fn:=fn) (ps:=ps) (aq:=aq) (body:=body) (l:=lw) (Dv:=Dv) (D:=D) (tmps:=a.tmps) (w0:=G) (Φ0:=J) (Γ0:=Γ.hide m) A.hI l4 i5 i7 g4) f _ _ _ ret Hc _ e8 ((Γ.lent m).reyv y b0) Φc G (FA++#[y]++FB) rfl f9 S1.g h6 (λi g hi=>by
  obtain⟨k5,c5⟩:=a7 hi;rintro(q|⟨b,q⟩|q|q)
  ·exact S1.dis _ g c5 q
  ·obtain⟨F,q2⟩:=M q;have:=S1.hr.inj _ _ g c5 q2;exact F (this▸o5 k5)
  ·exact d1.2.2.1 _ (q▸c5)
  ·exact(d0 _ q).2.2.1 _ c5) e7 e6
 have c2:=Xi (ro:=ro) (n:=n) (Ap d4) c1;refine⟨lw,D.toList.map mkD,G,{ target:=.fn (.func f) FB,args:=FA++#[y] },G,f,FA++#[y]++FB,G,?_,?_,λ_ _=>trivial,?_,λh=>by simp[G7,ac2] at h,c2.mono ?_⟩
 ·exact c4
 ·simp[resolve,h9,Deferred.ofValue];rfl
 ·show(callFunc f (FA++#[y]++FB)).run C.P G=_;exact Ap d4
 rintro e W2 ⟨V,rfl,Γ1,Φ1,hs,b3,m6,l9,⟨Γb,Φb,r1⟩,b6⟩;have g5:=r1.hl;have d3:=run_endLoop (P:=C.P) g5 (by cases a2<;>simp[Jv,Cx5]);obtain⟨w4,c8⟩:∃w4,W2.putObj lw (.loop { Jv fn a.tmps ps aq body Dv (Cx5 a2) (a2.map jmp) with state:=.exhausted })=w4:=⟨_,rfl⟩
 rw[c8] at d3;have O:Tx Γb Φb W2 w4:=by rw[<-c8];exact Tx.put r1.ol
 have a9:w4.heap.size=W2.heap.size:=by rw[<-c8];simp
 have h4:∀g,g≠lw->w4.heap[g]? = W2.heap[g]?:=λg B=>by rw[<-c8];exact y5 B
 have inΦ:∀{g},Φb g\/(∃b,Γb.nm b=some g)\/g=lw\/D=some g->Φ1 g:=fun {g} h=>(r1.ph g).2 h
 have S5:=(r1.si.offW A.hI O).wideSt A.hI (St':=Γ1.St) r1.st (λg B hp=>(r1.ft g (inΦ (.inl hp))).2 B) (λb g p B=>(r1.ft g (inΦ (.inr (.inl ⟨b,p⟩)))).2 B) (λg B=>by rw[a9];exact b3.stlt g B);have c7:Y.hp.length<=H1.length:=by have:=r1.pg.len;rw[dl] at this;exact this
 have d2:m.length<=Hc.length:=by have:=hs.len;rw[y8] at this;exact this
 obtain⟨l5,h5⟩:=Jc m (m.map λb=>cond (Ea C (Y.hp.getD b .dead)) (Ie (Hc.getD (G9 m b) .dead)) .dead) H1 f3 (by simp) (λb p=>p6 (a4 b p) c7);generalize e5:YT C m Y.hp Hc H1=H2 at h;have a6:H2.length=H1.length:=by rw[<-e5];exact l5
 have e4:∀b (p:b∈m),H2[b]? = some (cond (Ea C (Y.hp.getD b .dead)) (Ie (Hc.getD (G9 m b) .dead)) .dead):=λb p=>by
  rw[<-e5];simp only[YT];rw[h5,if_pos p,ab0];have e:m.idxOf b=G9 m b:=rfl;rw[e,j1 (a3 b p).1,(a3 b p).2];rfl
 have b2:∀b,b∉m->H2[b]? = H1[b]?:=λb p=>by
  rw[<-e5];simp only[YT];rw[h5,if_neg p]
 let Γf:Ctx:={ St:=Γ1.St,nm:=λb=>if b∈m then (if Ea C (Y.hp.getD b .dead)=true then Γ1.nm (G9 m b) else none) else Γb.nm b,yv:=Γ.yv,yv1:=Γ.yv1 }
 have b1:∀{b},b∈m->Ea C (Y.hp.getD b .dead)=true->Γf.nm b=Γ1.nm (G9 m b):=fun {b} h1 h2=>by simp only[Γf];rw[if_pos h1,if_pos h2]
 have f8:∀{b},b∈m->¬Ea C (Y.hp.getD b .dead)=true->Γf.nm b=none:=fun {b} h1 h2=>by simp only[Γf];rw[if_pos h1,if_neg h2]
 have a8:∀{b},b∉m->Γf.nm b=Γb.nm b:=fun {b} h1=>by simp only[Γf];rw[if_neg h1]
 have L:∀{b g},Γf.nm b=some g->(b∈m/\Γ1.nm (G9 m b)=some g)\/(b∉m/\Γb.nm b=some g):=fun {b g} h=>by
  by_cases p:b∈m
  ·by_cases hf:Ea C (Y.hp.getD b .dead)=true
   ·rw[b1 p hf] at h;exact .inl ⟨p,h⟩
   ·rw[f8 p hf] at h;cases h
  ·rw[a8 p] at h;exact .inr ⟨p,h⟩
 have g7:∀c,c∈m->A2 H1 c=some .dead:=λc u=>by
  obtain⟨_,k2,_⟩:=r1.pg.keep c (by rw[dl];exact a4 c u) (by rw[f7 c u];trivial);rw[k2];exact f7 c u
 have d6:∀b,b∉m->A2 H2 b=A2 H1 b:=λb p=>by simp only[A2,b2 b p]
 have Mf:Y9 { Γb with St:=Γ1.St } (A2 H1) w4 Γf (A2 H2) w4 (·∉m):=⟨λ_ _=>rfl,λ_ h=>h,λb p=>a8 p,d6,λ_ _ _ _=>rfl,(r1.pg.yv:Γb.yv=Γ.yv).symm⟩
 have i3:HR Γf H2 w4:=by
  refine⟨λb b' g h1 h2=>?_,λb g p=>?_,λg B=>by rw[a9];exact b3.stlt g B,λb p c u=>?_,λb p=>?_⟩
  ·rcases L h1 with⟨p1,F⟩|⟨p1,F⟩<;>rcases L h2 with⟨p2,q2⟩|⟨p2,q2⟩
   ·have:=b3.inj _ _ g F q2;have e1:=(a3 b p1).2;have e2:=(a3 b' p2).2;rw[<-e1,<-e2];simp only[this]
   ·exact absurd (inΦ (.inr (.inl ⟨b',q2⟩))) (b6 _ g F)
   ·exact absurd (inΦ (.inr (.inl ⟨b,F⟩))) (b6 _ g q2)
   ·exact r1.si.hr.inj b b' g F q2
  ·rcases L p with⟨p1,F⟩|⟨p1,F⟩
   ·have:=b3.lt _ g F;exact⟨by rw[a6];exact p6 (a4 b p1) c7,by rw[a9];exact this.2.1,this.2.2⟩
   ·have:=S5.hr.lt b g F;exact⟨by rw[a6];exact this.1,this.2⟩
  ·by_cases t:b∈m
   ·have e:=e4 b t;rw[j1 p] at e;simp only[j4] at e;rw[e] at u;cases hf:Ea C (Y.hp.getD b .dead) with
    | true=>rw[hf,cond_true,LN] at u;simp at u
    | false=>rw[hf] at u;simp[Blk.nms] at u
   ·have e:=b2 b t;have b4:b<H1.length:=by rw[<-a6];exact p
    rw[j1 p,j1 b4] at e;simp only[j4] at e;rw[e] at u;rw[a6];exact S5.hr.nms b b4 c u
  ·by_cases t:b∈m
   ·have e:=e4 b t;rw[j1 p] at e;simp only[j4] at e;rw[e];cases hf:Ea C (Y.hp.getD b .dead) with
    | true=>
     rw[cond_true];have hi:G9 m b<Hc.length:=p6 (a3 b t).1 d2;rw[Ve hi];refine B28 (b3.blk _ hi) (b1 t hf) (λg B=>h4 g ?_) (λ_ h=>h) (λg B=>h4 g ?_)
     ·intro e;rw[e] at B;exact(r1.ft _ (inΦ (.inr (.inr (.inl rfl))))).2 B
     ·intro e;rw[e] at B;exact b6 _ _ B (inΦ (.inr (.inr (.inl rfl))))
    | false=>trivial
   ·have e:=b2 b t;have b4:b<H1.length:=by rw[<-a6];exact p
    rw[j1 p,j1 b4] at e;simp only[j4] at e;rw[e];have hB:=S5.hr.blk b b4;exact hB.mono Mf (a8 t) (λ_ _=>rfl) (λc u c3=>hB.ndead c u (g7 c c3))
 have g1:SR Γf H2 w4 (L4 (m++Bl C Y.hp 0) Y.sl) a.tmps:=S5.sr.mono Mf (λc u=>⟨(a1 c u).1,by rw[a6];exact p6 (a1 c u).2.1 c7⟩);have SF:SI C I Γf Φb { sl:=L4 (m++Bl C Y.hp 0) Y.sl,hp:=H2,s:=s' } a.tmps w4:=⟨i3,g1,S5.g,S5.inv,λb g p=>by
  rcases L p with⟨_,F⟩|⟨_,F⟩
  ·exact λq=>b6 _ g F (inΦ (.inl q))
  ·exact S5.dis b g F⟩
 have l8:=hs.size;have f5:Stp C Γ Y.hp w J Γf H2 w4 Φb:=by
  refine⟨O.os.trans (hs.os.trans ho.1),O.tape.trans (hs.tape.trans ho.2.1),O.output.trans (hs.output.trans ho.2.2),by omega,λg B=>hs.sub g B,λg B=>?_,λb g p=>?_,λg B=>?_,λg B hn hp=>?_,rfl,by rw[a6];exact c7,λb p hf=>?_⟩
  ·rcases hs.stnew g B with q|q
   ·exact .inl q
   ·exact .inr (by omega)
  ·rcases L p with⟨p1,F⟩|⟨p1,F⟩
   ·rcases hs.own _ g F with⟨_,q⟩|q
    ·obtain⟨i1,i2⟩:=a7 q;rw[(a3 b p1).2] at i2;exact .inl ⟨a4 b p1,i2⟩
    ·exact .inr (by omega)
   ·rcases r1.pg.own b g F with⟨q,q'⟩|q
    ·exact .inl ⟨by rw[<-dl];exact q,(M q').2⟩
    ·exact .inr (by omega)
  ·rcases r1.pg.foot g B with q|q
   ·exact .inl q
   ·exact .inr (by omega)
  ·have np:¬ Φc g:=by
    rintro(q|⟨b,q⟩|q|q)
    ·exact hp q
    ·exact hn b (M q).2
    ·omega
    ·have:=(hD g q).1;omega
   rw[h4 g (by omega),hs.frame g (by omega) (λb q=>by obtain⟨_,i2⟩:=a7 q;exact hn _ i2) np,a5 g B]
  ·by_cases t:b∈m
   ·have g3:=(HE (C:=C) (H:=Y.hp) p).2 hf;obtain⟨F,q2⟩:=a3 b t;have hi:G9 m b<(O4 Y.hp m).length:=by rw[f2];exact F
    have g8:A2 (O4 Y.hp m) (G9 m b)=A2 Y.hp b:=by rw[Kq a4 F,q2]
    obtain⟨k1,k2,k3⟩:=hs.keep _ hi (by show Hh C (A2 (O4 Y.hp m) _);rw[g8];exact hf);have k2:A2 Hc (G9 m b)=A2 (O4 Y.hp m) (G9 m b):=k2;have d5:((Γ.lent m).reyv y b0).nm (G9 m b)=Γ.nm b:=Qk t;refine⟨(b1 t g3).trans (k1.trans d5),?_,λg B=>?_⟩
    ·have b7:G9 m b<Hc.length:=p6 F d2;simp only[A2,e4 b t,g3,cond_true,ac0,LP,Ve b7];show some (Hc[G9 m b]).shp=A2 Y.hp b;rw[<-g8,<-k2];simp only[A2,j1 b7,ac0]
    ·have e1:=k3 g (d5.trans B);have e9:=S.hr.lt b g B;rw[E6 (h4 g (by omega)),e1,E6 (a5 g e9.2.1)]
   ·obtain⟨k1,k2,k3⟩:=r1.pg.keep b (by rw[dl];exact p) (by rw[b9 b t];exact hf);have hh:(Γ.hide m).nm b=Γ.nm b:=by simp only[Ctx.hide];rw[if_neg t]
    refine⟨(a8 t).trans (k1.trans hh),by rw[d6 b t,k2,b9 b t],λg B=>?_⟩;have e9:=S.hr.lt b g B;rw[E6 (h4 g (by omega)),k3 g (hh.trans B),E6 (a5 g e9.2.1)]
 have i4:Mk n0 Γf Φb w4 (D.toList.map mkD++a.defers):=by
  obtain⟨m0,Ds,m1,m2,m3⟩:=hM;refine⟨by omega,D.toList++Ds,by rw[m1,ab9],?_,λd hd=>?_⟩
  ·cases D with
   | none=>exact m2
   | some d=>exact af7.2 ⟨λg6=>by have:=(m3 _ g6).2.1.1;have:=(hD d rfl).1;omega,m2⟩
  ·rcases w8.1 hd with hd|hd
   ·have e:D=some d:=by
     cases D with
     | none=>simp at hd
     | some d'=>simp at hd;rw[hd]
    refine⟨Nat.le_trans m0 (hD d e).1,⟨by rw[a9];exact(r1.od d e).1,(r1.ft _ (inΦ (.inr (.inr (.inr e))))).2,λb q=>?_,(r1.od d e).2.2.2⟩,by rw[h4 _ (hD d e).2.2.1];exact r1.hd d e⟩;rcases L q with⟨_,F⟩|⟨_,F⟩
    ·exact b6 _ _ F (inΦ (.inr (.inr (.inr e))))
    ·exact(r1.od d e).2.2.1 b F
   ·obtain⟨k1,k2,k3⟩:=m3 d hd;obtain⟨F,q2⟩:=k2.step f5;exact⟨k1,F,q2.trans k3⟩
 have c0:=hP (a2.getD .normal) { sl:=L4 (m++Bl C Y.hp 0) Y.sl,hp:=H2,s:=s' } { a with defers:=D.toList.map mkD++a.defers } w4 Γf Φb h f5 SF i4;refine⟨a2.map jmp,w4,d3,?_⟩;cases a2 with
 | none=>exact c0
 | some o=>
  cases o with
  | normal=>exact wpIn_skip c0
  | exit id=>exact wpIn_exit c0
  | ret=>exact wpIn_ret c0
theorem BO{n:Array Tmp}{d:List PV}{g c:Code}:∀(L:List (List PV)) (H:List Blk) (s:X) {k:Option Out->List Blk->X->Option R},S6 n d (λY k=>A9 C W Z g Y k) (λY k=>A9 C W Z c Y k) L H s k=some r->
  ∃H' b f,Q7 (Jw n d (λY k=>A9 C W Z g Y k) (λY k=>A9 C W Z c Y k)) L (H,none,s)=some (H',b,f)/\k b H' f=some r
 | [],H,s,k,h=>⟨H,none,s,rfl,h⟩
 | x::xs,H,s,k,h=>by
  simp only[S6] at h;split at h
  case isFalse=>cases h
  rename_i v;obtain⟨o,y,p,i⟩:=HD h;cases o with
  | exit id=>cases i
  | ret=>cases i
  | normal=>
  obtain⟨m,e,q,j⟩:=HD i;have l:Jw n d (λY k=>A9 C W Z g Y k) (λY k=>A9 C W Z c Y k) x (H,none,s)=some ((Di m).isNone,((V0 H.length e).hp,Di m,e.s)):=by
   simp only[Jw];rw[if_pos v,MC p];dsimp only;rw[MC q]
  cases m with
  | normal=>
   obtain⟨H',b,f,t,u⟩:=BO xs _ _ j;refine⟨H',b,f,?_,u⟩;simp only[Q7,l];exact t
  | exit id=>exact⟨_,_,_,by simp only[Q7,l];rfl,j⟩
  | ret=>exact⟨_,_,_,by simp only[Q7,l];rfl,j⟩
theorem Br9{ro:Option Nat}{n n0:Nat}{g:Operand}{G:Array Tmp}{q i:Code}{k:Out->St X->Option R}{Q:Exit->Act->World->Prop}(A:Ask C I W Z K)(z:Γ.yv=K)(t:WP C I W Z K q)(u:WP C I W Z K i)
  (h:Tl C W (opnd C Y.sl g) Y (λp=>Jw G p (λY k=>A9 C W Z q Y k) (λY k=>A9 C W Z i Y k)) (λp=>S6 G p (λY k=>A9 C W Z q Y k) (λY k=>A9 C W Z i Y k)) k=some r) (S:SI C I Γ J Y a.tmps w) (P:Mk n0 Γ J w a.defers) (V:Ro ro Γ J w) (U:Cl6 C I n0 Γ J Y.hp w k r Q) :
  (af8 g G q i).wpIn (G7 ro) n C.P Q a w:=by
 have hvn:=(S.opnd g).2;have hv:=(S.opnd g).1;unfold Tl at h;split at h
 case h_2=>cases h
 rename_i f first d o;obtain⟨FA,FB,a0,a1,a2,O⟩:=Rt o hv;have y:=BN Y.hp (C7 (first++d));have m:=NO Y.hp (C7 (first++d));have v:∀b∈Cq Y.hp (C7 (first++d)),b<Y.hp.length:=NN Y.hp (C7 (first++d)) (· < Y.hp.length) (λb D c F=>by
  have e:Y.hp.getD b .dead=Y.hp[b]:=by rw[o0,j1 D];rfl
  rw[e] at F;exact S.hr.nms b D c F) (λc F=>hvn c (O c F))
 generalize Cq Y.hp (C7 (first++d))=l at *;split at h
 ·rename_i pf hS;unfold Az6 at h;split at h
  case isFalse=>cases h
  rename_i j;rw[k9] at j;split at h
  case h_2=>cases h
  rename_i cL L hL;obtain⟨rfl,h⟩:=C6 h;obtain⟨H',B,s',h1,h2⟩:=BO L _ _ h;refine IY A A.hX.s z t u o y m v ?_ S P V U;unfold Wi;rw[if_pos j.1];have M:(l.map λb=>(Y.hp.getD b .dead).rn (G9 l)).all HU=true:=by
   rw[ah4,x3];intro b D;have:=x3.1 j.2 b D;simp only[Function.comp];generalize Y.hp.getD b .dead=x at this;cases x<;>simp_all [HU,Blk.rn]
  have e:clS C (List Blk × Option Out × X) (Jw G (L4 (l++Bl C Y.hp 0) Y.sl) (λY k=>A9 C W Z q Y k) (λY k=>A9 C W Z i Y k)) f (rnL (G9 l) first++PV.yd::rnL (G9 l) d) (l.map λb=>(Y.hp.getD b .dead).rn (G9 l)) (N3 l Y.hp,none,Y.s)=some (.tup [],(l.map λb=>(Y.hp.getD b .dead).rn (G9 l)).map Ie,(H',B,s')):=by
   simp only[clS,hS];rw[if_pos M,hL];simp only[h1]
  rw[e];exact h2
 ·exact IY A A.hC z t u o y m v h S P V U
end
section
variable {J R : Type} {r : R} {C : Cfg} {I : J -> (Nat -> Prop) -> (Nat -> Prop) -> World -> Prop} {Y : Ctx} {W : Nat -> Prop} {L : St J} {a : Act} {w : World} {Z : F4} {U : Yh J} {K : Value} {o : Oper} {H : List Blk}
theorem Bl4(A:Ask C I Z U K)(hm:C.P.follows .mixedOrders=true):∀(c:Code) {ro:Option Nat} {n n0:Nat} {rf:Bool} {R:Type} {r:R} {Y:Ctx} {W:Nat->Prop} {L:St J} {a:Act} {w:World} {k:Out->St J->Option R} {Q:Exit->Act->World->Prop},
  T6 C rf c=true->Y.yv=K->A9 C Z U c L k=some r->SI C I Y W L a.tmps w->Mk n0 Y W w a.defers->Ro ro Y W w->Cl6 C I n0 Y W L.hp w k r Q->c.wpIn (G7 ro) n C.P Q a w:=by
 intro c
 induction c with
 | skip=>intro ro n n0 rf R r Y W L a w k Q b f h S z G q;exact wpIn_skip (q .normal L a w Y W h (Stp.refl S.hr) S z)
 | label l=>intro ro n n0 rf R r Y W L a w k Q b f h S z G q;exact wpIn_label (q .normal L a w Y W h (Stp.refl S.hr) S z)
 | region id T d=>
  intro ro n n0 rf R r Y W L a w k Q b f h S z G q;cases d with
  | false=>
   have h:Ep C Z U T T.toList L (λp=>k .normal (Vd (C.keepR id) L.hp.length p))=some r:=by
    simp only[A9,A03] at h;split at h
    ·exact h
    ·cases h
   refine wpIn_region_list (VD A T.toList f h S ?_);intro p F w' Γ' i v u B D;obtain⟨N,V,M⟩:=Rn A.hI B u (C.keepR id) (p9 _);exact q .normal _ F w' N i v M V (by rw[D];exact z.step M)
  | true=>
   simp only[T6,Bool.not_true,Bool.false_or] at b;refine Cv3 A hm b f h S ?_;intro p F w' Γ' i v u B D;obtain⟨N,V,M⟩:=Rn A.hI B u (C.keepR id) (p9 _);exact q .normal _ F w' N i v M V (by rw[D];exact z.step M)
 | seq x y O P=>
  intro ro n n0 rf R r Y W L a w k Q b f h S z G q;simp only[T6,k9] at b;refine wpIn_seq (O b.1 f h S z G ?_);intro o p F w' Γ' i v u B D;cases o with
  | normal=>exact P b.2 (u.yv.trans f) v B D (G.step u) λo2 a3 a2 w2 N Φ2 k1 k2 k3 k4=>q o2 a3 a2 w2 N Φ2 k1 (u.trans k2) k3 k4
  | exit id=>exact q (.exit id) p F w' Γ' i v u B D
  | ret=>exact q .ret p F w' Γ' i v u B D
 | cond c x y O P=>
  intro ro n n0 rf R r Y W L a w k Q b f h S z G q;simp only[T6,k9] at b;simp only[A9] at h;split at h
  ·rename_i t hc;have hv:=(S.opnd c).1;rw[hc] at hv;have hb:=hv.inv_bool;cases t with
   | true=>exact wpIn_cond hb (O b.1 f h S z G q)
   | false=>exact wpIn_cond hb (P b.2 f h S z G q)
  ·cases h
 | block id x ih=>
  intro ro n n0 rf R r Y W L a w k Q b f h S z G q;refine wpIn_block (ih b f h S z G ?_);intro o p F w' Γ' i v u B D;cases o with
  | normal=>exact q .normal p F w' Γ' i v u B D
  | exit j=>
   simp only[Out.exit',Exit.inBlock];dsimp only at v;split at v
   ·rename_i e;rw[if_pos e];exact q .normal p F w' Γ' i v u B D
   ·rename_i e;rw[if_neg e];exact q (.exit j) p F w' Γ' i v u B D
  | ret=>exact q .ret p F w' Γ' i v u B D
 | loop x ih=>
  intro ro n n0 rf R r Y W L a w k Q b f h S z G q;simp only[A9] at h;refine A80 (λm F w'=>∃p Γ' i,E7 L.hp.length (C.keep (Aa1 x)) (λL k=>A9 C Z U x L k) m p k=some r/\Stp C Y L.hp w W Γ' p.hp w' i/\SI C I Γ' i p F.tmps w'/\Mk n0 Γ' i w' F.defers) C.lf ⟨_,Y,W,h,by rw[Gg];exact Stp.refl S.hr,Gf S _,z⟩ ?_;rintro m a1 w1 ⟨a4,Γ1,Φ1,v,u,B,D⟩;cases m with
  | zero=>simp[E7] at v
  | succ m=>
   simp only[E7] at v;refine ih b (u.yv.trans f) v B D (G.step u) ?_;intro o p F w' Γ' i k1 k2 k3 k4;cases o with
   | normal=>
    obtain⟨N,V,M,X⟩:=Aj1 A.hI k3 (u.trans k2);have a0:=Mk.sub k4 X;exact⟨m,Nat.lt_succ_self m,_,N,i,k1,by rw[Gg];exact M,Gf V _,a0⟩
   | exit j=>exact q (.exit j) _ F w' Γ' i k1 (by rw[Gg];exact u.trans k2) (Gf k3 _) k4
   | ret=>exact q .ret _ F w' Γ' i k1 (by rw[Gg];exact u.trans k2) (Gf k3 _) k4
 | exit id=>intro ro n n0 rf R r Y W L a w k Q b f h S z G q;exact wpIn_exit (q (.exit id) _ a w Y W h (by rw[Gg];exact Stp.refl S.hr) (Gf S _) z)
 | ret=>intro ro n n0 rf R r Y W L a w k Q b f h S z G q;exact wpIn_ret (q .ret _ a w Y W h (by rw[Gg];exact Stp.refl S.hr) (Gf S _) z)
 | scope x ih=>
  intro ro n n0 rf R r Y W L a w k Q b f h S z G q;refine Ak1 (ih (Q:=λe a w=>(∀l,e≠.goto l)/\Q e a w) b f h S z G ?_);intro o p F w' Γ' i v u B D;exact⟨λl=>by cases o<;>simp[Out.exit'],q o p F w' Γ' i v u B D⟩
 | rangeFunc g ps x y O P=>
  intro ro n n0 rf R r Y W L a w k Q b f h S z G q;simp only[T6,k9] at b;obtain⟨hx,hy⟩:=b;simp only[A9] at h;exact Br9 A f (fun {R r ro n n0 Y W L a w k Q} v u B D h6 h5=>O hx v u B D h6 h5) (fun {R r ro n n0 Y W L a w k Q} v u B D h6 h5=>P hy v u B D h6 h5) h S z G q
 | _=>intro ro n n0 rf R r Y W L a w k Q b f h S z G q;simp[A9] at h
end
section
variable {J R : Type} {r : R} {C : Cfg} {I : J -> (Nat -> Prop) -> (Nat -> Prop) -> World -> Prop} {L : Ctx} {W : Nat -> Prop} {Y : St J} {a : Act} {w : World} {O : F4} {Z : Yh J} {K : Value} {o : Oper} {H : List Blk}
def AA(b:Array Value):ResultVar->Sem Value
 | .tmp t=>pure (b.getD t undef)
 | .cell a t=>do loadVar t (<-asAddr (b.getD a undef))
theorem A13(fn:Func)(b:Array Value):results fn b=(fn.results.toList.mapM (AA b) >>= λl=>pure (if h:l.length=1 then l[0] else .tuple l.toArray)):=by
 unfold results;have:∀(c:Array ResultVar),(c.mapM (AA b) >>= λd=>(pure (if h:d.size=1 then d[0] else .tuple d):Sem Value))=(c.toList.mapM (AA b) >>= λl=>pure (if h:l.length=1 then l[0] else .tuple l.toArray)):=by
  intro c;rw[Array.mapM_eq_mapM_toList,map_eq_pure_bind,bind_assoc]
  congr 1
 exact this fn.results
theorem MF(S:SR L H w Y.sl a.tmps)(t:Nat):VP L (A2 H) w (Y.sl.getD t (.tup [])) (a.tmps.getD t undef)/\∀c∈(Y.sl.getD t (.tup [])).nms,c<H.length:=by
 by_cases h:t<Y.sl.length
 ·obtain⟨V,e,k⟩:=S.slot t h;have g:∀c∈(Y.sl[t]).nms,c<H.length:=λc f=>S.nms c (C5.2 ⟨t,h,f⟩)
  simp_all
 ·have b:Y.sl.getD t (.tup []) = .tup []:=by rw[o0,v7 (ad2 h)];rfl
  have d:a.tmps.getD t undef=undef:=by rw[Array.getD_eq_getD_getElem?,ad3 (by rw[S.size];exact ad2 h)];rfl
  rw[b,d];exact⟨Y7,by simp[PV.nms,C7]⟩
def LR(L:Ctx)(sh:Nat->Option Shp)(w:World):List PV->List Value->Prop
 | [],[]=>True
 | v::r,V::q=>VP L sh w v V/\LR L sh w r q
 | _,_=>False
theorem LR.len{sh:Nat->Option Shp}:∀{l:List PV} {A:List Value},LR L sh w l A->A.length=l.length
 | [],[],_=>rfl
 | v::r,V::q,h=>by simp[LR.len h.2]
 | [],_::_,h=>h.elim
 | _::_,[],h=>h.elim
theorem LR.CR{sh:Nat->Option Shp}:∀{l:List PV} {A:List Value},LR L sh w l A->∀j (h:j<l.length),∃U,A[j]? = some U/\VP L sh w (l[j]) U
 | [],[],_,j,h=>by simp at h
 | v::r,V::q,h,0,_=>⟨V,rfl,h.1⟩
 | v::r,V::q,h,j+1,hj=>by
  obtain⟨U,e,k⟩:=LR.CR h.2 j (by simpa using hj);grind
 | [],_::_,h,_,_=>h.elim
 | _::_,[],h,_,_=>h.elim
theorem Cr7{t:TypeId}{A V:Value}{w':World}(h:(ah3 t A).run C.P w' = .ok V w'):(do loadVar t (<-asAddr A):Sem Value).run C.P w' = .ok V w':=by
 simp only[ah3] at h;unfold Instr.sureAddr at h;split at h
 ·exact h
 simp_all
theorem Tm(j:HR L H w)(S:SR L H w Y.sl a.tmps):∀(n:List ResultVar) {k:List PV->Option R},CL C Y.sl H n k=some r->
  ∃e d,k e=some r/\(n.mapM (AA a.tmps)).run C.P w = .ok d w/\LR L (A2 H) w e d/\∀c∈C7 e,c<H.length
 | [],k,h=>⟨[],[],h,by simp,trivial,by simp[C7]⟩
 | .tmp t::b,k,h=>by
  simp only[CL] at h;obtain⟨e,d,g,m,i,q⟩:=Tm j S b h;obtain⟨f,p⟩:=MF S t;refine⟨_,a.tmps.getD t undef::d,g,?_,⟨f,i⟩,λc l=>?_⟩
  ·rw[ag1];simp only[AA,ae8,Sem.run_pure,ae2,m]
  ·simp only[C7,w8] at l;grind
 | .cell x t::b,k,h=>by
  simp only[CL] at h;obtain⟨f,p⟩:=MF S x;obtain⟨v,u,A,V,z,y⟩:=BD j h f;obtain⟨e,d,g,m,i,q⟩:=Tm j S b u;refine⟨_,V::d,g,?_,⟨z,i⟩,λc l=>?_⟩
  ·rw[ag1];have:=Cr7 (y w (Ext.refl w));rw[show AA a.tmps (.cell x t)=(do loadVar t (<-asAddr (a.tmps.getD x undef)):Sem Value) from rfl];rw[ae8,this];simp_all
  ·simp only[C7,w8] at l;grind
theorem Ad1{b:List PV}{c:Nat}(h:c∈(Cd b).nms):c∈C7 b:=by
 unfold Cd at h;split at h
 ·simp[C7,h]
 ·exact h
theorem Ct4{f:List PV}{b:List Value}(h:LR L (A2 H) w f b):VP L (A2 H) w (Cd f) (if h:b.length=1 then b[0] else .tuple b.toArray):=by
 have c:=h.len;unfold Cd;split
 ·rename_i v;cases b with
  | nil=>simp at c
  | cons V q=>
   cases q with
   | nil=>exact h.1
   | cons _ _=>simp at c
 ·rename_i d;have:b.length≠1:=by
   intro e;rw[e] at c
   match f,c with
   | [v],_=>exact d v rfl
  rw[dif_neg this];refine VP.mk_tup (by simpa using c) λj g=>?_
  obtain⟨U,e,k⟩:=h.CR j g;grind
def Jz(C:Cfg):Prop:=∀ f fn c,C.okf f=true->C.P.funcs[f]? = some fn->fn.body=some c->B36 C c=true/\(fn.name == "runtime.NumGoroutine")=false
theorem Og{f:Nat}{fn:Func}{c:Code}{d:Array Value}(g:C.P.funcs[f]? = some fn)(e:fn.body=some c)(h:(fn.name == "runtime.NumGoroutine")=false):(callFunc f d).run C.P w = .ok (.enter f d) w:=by
 have b:¬ fn.name = "runtime.NumGoroutine":=by simpa using h
 simp[callFunc,g,e,b,ae2]
theorem Cm2{args:List PV}{d:Array Value}{n:Nat}(e:CR L (A2 H) w args d)(i:∀c∈C7 args,c<H.length) :
  SR L H w (args++j6 (n-args.length) (.tup [])) (d++ab6 (n-d.size) undef):=by
 have h:CR L (A2 H) w (j6 (n-args.length) (.tup [])) (ab6 (n-d.size) undef):=⟨by simp[e.1],λj f=>by
  simp only[List.length_replicate] at f;refine⟨undef,by rw[e.1];simp[f],?_⟩;simp only[List.getElem_replicate];exact Y7⟩
 have g:=e.append h;refine⟨g.1,λc b=>?_,g.2⟩;rw[N7,w8] at b;rcases b with b|b
 ·exact i c b
 ·obtain⟨j,f,b⟩:=C5.1 b;simp[PV.nms,C7] at b
theorem Stp.put{Γ0 Γ':Ctx}{H0 H':List Blk}{w0 w':World}{Φ0 Φ':Nat->Prop}{D:Nat}{ob:Obj}(h:Stp C Γ0 H0 w0 Φ0 Γ' H' w' Φ')(hD:w0.heap.size<=D)(hO:Off Γ' Φ' w' D):Stp C Γ0 H0 w0 Φ0 Γ' H' (w'.putObj D ob) Φ':=by
 refine⟨h.os,h.tape,h.output,by rw[World.putObj_size];exact h.size,h.sub,h.stnew,h.own,h.foot,λg hg hn hp=>?_,h.yv,h.len,λb hb hf=>?_⟩
 ·rw[y5 (by omega)];exact h.frame g hg hn hp
 ·obtain⟨k1,k2,k3⟩:=h.keep b hb hf;refine⟨k1,k2,λg hg=>?_⟩;rw[<-k3 g hg];refine E6 (y5 ?_);rintro rfl;exact hO.2.2.1 b (k1.trans hg)
theorem Be4{F:Fence}{n:Nat}{fn:Func}{l:Ending->World->Prop}{f Γ':Ctx}{k:List Blk}{j:World}{g c:Nat->Prop}{d:St J}{b:Array Value}(q:HI I)
  (t:∀w',SI C I Γ' c d b w'->Stp C f k j g Γ' d.hp w' c->∃V,(results fn b).run C.P w' = .ok V w'/\l (.returned V) w') :
  ∀(e:List Nat) (w:World),e.Nodup->(∀D∈e,j.heap.size<=D/\Off Γ' c w D/\w.heap[D]? = some (.deferred (some [])))->SI C I Γ' c d b w->Stp C f k j g Γ' d.hp w c->LeavesInM F n C.P fn b l (e.map mkD) .returning w
 | [],w,_,_,S,h=>t w S h
 | D::e,w,y,p,S,h=>by
  obtain⟨u,m,v⟩:=p D (by simp);refine⟨by simp,.inl ⟨D,w.putObj D (.deferred none),rfl,run_takeDeferred v,?_⟩⟩;have i:=af7.1 y;refine Be4 q t e _ i.2 (λE x=>?_) (S.offW q (Tx.put m)) (h.put u m);obtain⟨z,A,B⟩:=p E (by simp[x]);refine⟨z,A.put,(y5 ?_).trans B⟩;grind
theorem Kk(hX:XOK C)(hO:Jz C)(hm:C.P.follows .mixedOrders=true):∀d,Bq C (evC C d)
 | 0=>λJ I Z K D hy g args H s ret j k h=>by simp[evC] at h
 | d+1=>λJ I Z K D hy g args H s ret j k h L W w u S hH hg hi A G hn=>by
  have ih:=Kk hX hO hm d;simp only[evC] at h;split at h
  ·rename_i fn P M;split at h
   ·rename_i c F;obtain⟨m,p⟩:=hO g fn c P M F;intro ro n o a next Q N
    rw[Og M F p];simp only[ac5];refine⟨λh=>(by simp[G7,ac2] at h),?_⟩;have key:CallsIn ac2 (n-1) C.P g u w λe i=>∃V,e = .returned V/\Au C I L H w W ret j k V i:=by
     refine callsIn_of_wp_marks M F trivial ?_;have S0:SI C I L W { sl:=args++j6 (fn.ntmps-args.length) (.tup []),hp:=H,s:=s } (u++ab6 (fn.ntmps-u.size) undef) w:=⟨hH,Cm2 G hn,hg,hi,A⟩
     refine Bl4 (ro:=none) (rf:=true) (n:=n-1) (n0:=w.heap.size) (a:={ tmps:=u++ab6 (fn.ntmps-u.size) undef,defers:=[] }) ⟨D,ih,hX,hy⟩ hm c m S h S0 (Mk.nil (p9 _)) Ro.none ?_;intro o f y w' Γ' t T U q ⟨_,Ds,k4,k5,k6⟩
     suffices z:∀w',SI C I Γ' t f y.tmps w'->Stp C L H w W Γ' f.hp w' t->CL C f.sl f.hp fn.results.toList (λv=>some (Cd v,f.hp,f.s))=some (ret,j,k)->∃V,(results fn y.tmps).run C.P w' = .ok V w'/\∃x,af6 V = .returned x/\Au C I L H w W ret j k x w' by
      have l:CL C f.sl f.hp fn.results.toList (λv=>some (Cd v,f.hp,f.s))=some (ret,j,k)->LeavesInM (G7 none) (n-1) C.P fn y.tmps (λe i=>∃V,e = .returned V/\Au C I L H w W ret j k V i) y.defers .returning w':=λh=>by
       rw[k4];exact Be4 D (λw' a b=>z w' a b h) Ds w' k5 k6 q U
      cases o with
      | normal=>exact l T
      | ret=>exact l T
      | exit id=>cases T
     intro w' q U;have z:∀(h:CL C f.sl f.hp fn.results.toList (λv=>some (Cd v,f.hp,f.s))=some (ret,j,k)),∃V,(results fn y.tmps).run C.P w' = .ok V w'/\∃x,af6 V = .returned x/\Au C I L H w W ret j k x w':=λh=>by
      obtain⟨v,Us,X,h2,h3,h4⟩:=Tm q.hr q.sr _ h;simp only[j4,p5] at X;obtain⟨rfl,rfl,rfl⟩:=X;refine⟨_,?_,_,rfl,Γ',t,U,q.hr,Ct4 h3,λc G=>h4 c (Ad1 G),q.inv,q.dis⟩;rw[A13,ae8,h2];rfl
     omega
    have B:CallsIn (G7 ro) (n-1) C.P g u w λe i=>∃V,e = .returned V/\Au C I L H w W ret j k V i:=key
    refine B.mono ?_;grind
   ·cases h
  ·cases h
end
end
section
open Go Go.ChangeShapes Go.RowKit Go.WideShapes
inductive Ty where
 | bool
 | int (k:IntKind)
 | str
 | slice (e:List Ty)
 deriving Inhabited
def Cf0(P:Program)(f:Nat->Option (List Ty)):List Field->Nat->Option (List Ty)
 | [],_=>some []
 | x::r,off=>if x.offset==off then match f x.type with
   | some a=>if P.cellsOf x.type==a.length then match Cf0 P f r (off+a.length) with
    | some b=>some (a++b)
    | none=>none else none
   | none=>none else none
def Lf(P:Program):Nat->Nat->Option (List Ty)
 | 0,_=>none
 | d+1,t=>match P.underlying t with
  | some .bool=>some [.bool]
  | some (.int k)=>some [.int k]
  | some .string=>some [.str]
  | some (.slice e)=>match Lf P d e with
   | some a=>if P.cellsOf e==a.length&&decide (0<a.length) then some [.slice a] else none
   | none=>none
  | some (.struct b)=>match Cf0 P (Lf P d) b.toList 0 with
   | some r=>if P.cellsOf t==r.length then some r else none
   | none=>none
  | some (.array n e)=>match Lf P d e with
   | some a=>if P.cellsOf e==a.length&&P.cellsOf t==n*a.length then some (j6 n a).flatten else none
   | none=>none
  | _=>none
mutual
def Ty.of:Ty->SV->Prop
 | .bool,v=>∃b,v = .bool b
 | .int k,v=>∃n,v = .int k n/\k.min<=n/\n<=k.max
 | .str,v=>∃l,v = .str l/\l.length<=maxLen
 | .slice e,v=>v = .sl true false e.length []\/∃els,v = .sl false false e.length els/\els.length<=maxLen/\∀el∈els,Ty.ofL e el
def Ty.ofL:List Ty->List SV->Prop
 | [],l=>l=[]
 | t::r,l=>∃v q,l=v::q/\t.of v/\Ty.ofL r q
end
theorem Ty.ofL_len:∀{ts:List Ty} {l:List SV},Ty.ofL ts l->l.length=ts.length
 | [],l,h=>by simp only[Ty.ofL] at h;subst h;rfl
 | t::r,l,h=>by
  simp only[Ty.ofL] at h;obtain⟨v,q,rfl,_,hq⟩:=h;simp[Ty.ofL_len hq]
theorem Ty.ofL_append:∀{a b:List Ty} {x y:List SV},Ty.ofL a x->Ty.ofL b y->Ty.ofL (a++b) (x++y)
 | [],b,x,y,h,k=>by simp only[Ty.ofL] at h;subst h;exact k
 | t::r,b,x,y,h,k=>by
  simp only[Ty.ofL] at h;obtain⟨v,q,rfl,hv,hq⟩:=h;simp only[ac9,Ty.ofL];exact⟨v,q++y,rfl,hv,Ty.ofL_append hq k⟩
def CVS(St:Nat->Prop)(w:World)(l:List SV)(A:List Value):Prop:=A.length=l.length/\∀j (h:j<l.length),∃U,A[j]? = some U/\VS St w (l[j]) U
theorem CVS.append{St:Nat->Prop}{w:World}{x y:List SV}{X Y:List Value}(hx:CVS St w x X)(hy:CVS St w y Y):CVS St w (x++y) (X++Y):=by
 refine⟨by simp[hx.1,hy.1],λj hj=>?_⟩;by_cases h:j<x.length
 ·obtain⟨U,e,k⟩:=hx.2 j h;exact⟨U,by rw[List.getElem?_append_left (by rw[hx.1];exact h)];exact e,by rw[ac6 h];exact k⟩
 ·obtain⟨U,e,k⟩:=hy.2 (j-x.length) (by simp at hj;omega);exact⟨U,by rw[List.getElem?_append_right (by rw[hx.1];omega),hx.1];exact e,by rw[List.getElem_append_right (by omega)];exact k⟩
theorem CVS.one{St:Nat->Prop}{w:World}{v:SV}{V:Value}(h:VS St w v V):CVS St w [v] [V]:=⟨rfl,λj hj=>by
 have:j=0:=by simpa using hj
 subst this;exact⟨V,rfl,h⟩⟩
theorem Bu7{w:World}{a:Addr}{V:Value}(h:w.cell? a=some V):a.spot=none/\a.block<w.heap.size:=by
 unfold aj2 at h;split at h
 ·rename_i c t e b;refine⟨?_,(x5.1 b).1⟩;cases d:a.spot with
  | none=>rfl
  | some x=>rw[d] at h;simp at h
 ·cases h
theorem YG{a:Addr}(h:a.spot=none)(n:Nat):a.add n=⟨a.block,a.off+n,none⟩:=by
 unfold Addr.add;split
 ·rename_i b;subst b;cases a;simp_all
 ·rfl
theorem Cl9{a:Addr}{m n:Nat}(h:a.spot=none):(a.add m).add n=⟨a.block,a.off+m+n,none⟩:=by rw[YG h,YG rfl]
theorem OF{H:Type}{enc:TypeId × Value->H}{P:Program}{w:World}{base:Nat}{sp:Nat->Bool}{held:Bool}{f:Nat->Option (List Ty)}{m:Nat}
  (q:∀t c g x,f t=some c->aa4 enc P w base sp held m t g=some x->∃d,Ty.ofL c d/\CVS (· < w.heap.size) w d g) (g:List Value) :
  ∀(n:List Field) (off:Nat) (c:List Ty),Cf0 P f n off=some c->(∀(i:Nat) (fl:Field),n[i]? = some fl->∃y,aa4 enc P w base sp held m fl.type ((g.drop fl.offset).take (P.cellsOf fl.type))=some y)->
   ∃d,Ty.ofL c d/\CVS (· < w.heap.size) w d ((g.drop off).take c.length)
 | [],off,c,h,_=>by
  simp only[Cf0,j4] at h;subst h;exact⟨[],rfl,by simp,λj F=>by simp at F⟩
 | x::r,off,c,h,k=>by
  simp only[Cf0] at h;split at h
  ·rename_i l;simp only[beq_iff_eq] at l;split at h
   ·rename_i a B;split at h
    ·rename_i o;simp only[beq_iff_eq] at o;split at h
     ·rename_i b C;simp only[j4] at h;subst h;obtain⟨y,p⟩:=k 0 x rfl;rw[l,o] at p;obtain⟨G,u,v⟩:=q _ _ _ _ B p;obtain⟨I,z,A⟩:=OF q g r _ b C (λi fl D=>k (i+1) fl (by simpa using D));refine⟨G++I,Ty.ofL_append u z,?_⟩;have:=v.append A;have e:(g.drop off).take (a++b).length=(g.drop off).take a.length++(g.drop (off+a.length)).take b.length:=by
       rw[ae5,ag8,af9]
      rw[e];exact this
     ·cases h
    ·cases h
   ·cases h
  ·cases h
theorem YJ{H:Type}{enc:TypeId × Value->H}{P:Program}{w:World}{base:Nat}{sp:Nat->Bool}{held:Bool}{e m:Nat}{a:List Ty}(c:List Value)
  (g:∀c x,aa4 enc P w base sp held m e c=some x->∃b,Ty.ofL a b/\CVS (· < w.heap.size) w b c) (f:P.cellsOf e=a.length) :
  ∀(n k:Nat),(∀i,k<=i->i<k+n->∃y,aa4 enc P w base sp held m e ((c.drop (i*P.cellsOf e)).take (P.cellsOf e))=some y)->
   ∃b,Ty.ofL (j6 n a).flatten b/\CVS (· < w.heap.size) w b ((c.drop (k*a.length)).take (n*a.length))
 | 0,k,_=>⟨[],by simp[Ty.ofL],by simp,λj r=>by simp at r⟩
 | n+1,k,hall=>by
  obtain⟨y,t⟩:=hall k (p9 _) (by omega);obtain⟨u,h,d⟩:=g _ _ t;obtain⟨v,l,o⟩:=YJ c g f n (k+1) (λi p q=>hall i (by omega) (by omega));rw[f] at d;refine⟨u++v,?_,?_⟩
  ·rw[List.replicate_succ,List.flatten_cons];exact Ty.ofL_append h l
  ·have:=d.append o;have e:(c.drop (k*a.length)).take ((n+1)*a.length)=(c.drop (k*a.length)).take a.length++(c.drop ((k+1)*a.length)).take (n*a.length):=by
    rw[show(n+1)*a.length=a.length+n*a.length by rw[Nat.add_mul,Nat.one_mul,ah6],ag8,af9,show k*a.length+a.length=(k+1)*a.length by rw[Nat.add_mul,Nat.one_mul]]
   rw[e];exact this
theorem DF{H:Type}{enc:TypeId × Value->H}{P:Program}{w:World}{base:Nat}{sp:Nat->Bool}{held:Bool}:∀(n t:Nat) (q:List Ty) (m:Nat) (C:List Value) (x:DataW H × List MemPlace),Lf P n t=some q->
  aa4 enc P w base sp held m t C=some x->∃p,Ty.ofL q p/\CVS (· < w.heap.size) w p C
 | 0,t,q,m,C,x,h,_=>by simp[Lf] at h
 | n+1,t,q,m,C,x,h,hd=>by
  simp only[Lf] at h;split at h
  ·rename_i B;simp only[j4] at h;subst h;obtain⟨b,rfl,_⟩:=DataW.trod_bool B hd;exact⟨[.bool b],by simp[Ty.ofL,Ty.of],CVS.one (.bool b)⟩
  ·rename_i k B;simp only[j4] at h;subst h;obtain⟨b,rfl,_,S⟩:=DataW.trod_int B hd;simp only[Lit.wf,k9,decide_eq_true_eq] at S;exact⟨[.int k b],by simp[Ty.ofL,Ty.of,S],CVS.one (.int k b)⟩
  ·rename_i B;simp only[j4] at h;subst h;obtain⟨b,rfl,_,S⟩:=DataW.trod_string B hd;exact⟨[.str b.data.toList],by simpa[Ty.ofL,Ty.of] using S,CVS.one (.str b)⟩
  ·rename_i e B;split at h
   ·rename_i a V;split at h
    ·rename_i F;simp only[k9,beq_iff_eq,decide_eq_true_eq] at F;simp only[j4] at h;subst h;rcases DataW.trod_slice B hd with⟨rfl,_⟩|⟨g,len,cap,T,a1,Q,_,rfl,_,hb,hl,hm,G,D,_,_⟩
     ·exact⟨[.sl true false a.length []],by simp[Ty.ofL,Ty.of],CVS.one (.nil _ _)⟩
     ·have v:∀i,i<len->∃M d,w.cells? base (g.add (i*a.length)) a.length=some d/\Ty.ofL a M/\CVS (· < w.heap.size) w M d:=λi f=>by
       have u:=D i f;rw[j1 (by omega),F.1,Option.bind_eq_some_iff] at u;obtain⟨d,o,K⟩:=u;obtain⟨M,h4,h5⟩:=DF n e a Q d _ V K;exact⟨M,d,o,h4,h5⟩
      by_cases h0:len=0
      ·subst h0;exact⟨[.sl false false a.length []],by simp[Ty.ofL,Ty.of],CVS.one (.emp _ _ _ _ (by simp) hm)⟩
      ·let c:List (List SV):=(ag2 len).attach.map λi=>ac8 (v i.1 (List.mem_range.1 i.2))
       have N:c.length=len:=by simp[c]
       have l:∀i (f:i<c.length),∃d,w.cells? base (g.add (i*a.length)) a.length=some d/\Ty.ofL a (c[i])/\CVS (· < w.heap.size) w (c[i]) d:=λi f=>by
        have z:i<len:=by omega
        have e:c[i]=ac8 (v i z):=by simp[c]
        rw[e];exact ad6 (v i z)
       have A:g.spot=none/\g.block<w.heap.size:=by
        obtain⟨d,u,o,K⟩:=l 0 (by omega);obtain⟨_,Y,J⟩:=af0 u;have:=J 0 F.2;rw[j1 (by omega)] at this;simp only[ah8,Addr.add,if_true] at this;exact Bu7 this
       have D:∀i (f:i<c.length),(c[i]).length=a.length:=λi f=>by
        obtain⟨d,u,o,K⟩:=l i f;exact Ty.ofL_len o
       have y:∀i (f:i<c.length) j (I:j<(c[i]).length),∃U,w.cell? ⟨g.block,g.off+i*a.length+j,none⟩=some U/\VS (· < w.heap.size) w (c[i][j]) U:=λi f j I=>by
        obtain⟨d,u,o,K⟩:=l i f;obtain⟨_,Y,J⟩:=af0 u;have X:j<a.length:=by rw[<-D i f];exact I
        obtain⟨U,L,R⟩:=K.2 j I;refine⟨U,?_,R⟩;rw[<-L,<-J j X,Cl9 A.1]
       refine⟨[.sl false false a.length c],?_,CVS.one ?_⟩
       ·simp only[Ty.ofL,Ty.of];refine⟨_,[],rfl,.inr ⟨c,rfl,by omega,λM a0=>?_⟩,rfl⟩;obtain⟨i,f,rfl⟩:=List.getElem_of_mem a0;obtain⟨d,u,o,K⟩:=l i f;exact o
       ·have e:g=⟨g.block,g.off,none⟩:=by cases g;simp_all
        rw[e];refine .sl false c g.block g.off len cap a.length (λi j=>(w.cell? ⟨g.block,g.off+i*a.length+j,none⟩).getD undef) N.symm hl hm (by simp) A.2 D (λi f j I=>?_) (λi f j I=>?_)
        ·obtain⟨U,L,R⟩:=y i f j I;rw[L];rfl
        ·obtain⟨U,L,R⟩:=y i f j I;rw[L];exact R
    ·cases h
   ·cases h
  ·rename_i fs B;split at h
   ·rename_i r hr;split at h
    ·rename_i F;simp only[beq_iff_eq] at F;simp only[j4] at h;subst h;obtain⟨xs,Q,_,_,G,O,W⟩:=DataW.trod_struct B hd;obtain⟨p,u,o⟩:=OF (λt q C x=>DF n t q Q C x) C fs.toList 0 r hr (λi fl f=>by
      have z:fs[i]? = some fl:=by simpa using f
      have:=W i fl z;have Z:i<xs.length:=by rw[O];exact(x5.1 z).1
      rw[j1 Z] at this;exact⟨_,this⟩)
     refine⟨p,u,?_⟩;rw[ag0,ad4 (by omega)] at o;exact o
    ·cases h
   ·cases h
  ·rename_i k e B;split at h
   ·rename_i a V;split at h
    ·rename_i F;simp only[k9,beq_iff_eq] at F;simp only[j4] at h;subst h;obtain⟨xs,Q,_,_,G,O,W⟩:=DataW.trod_array B hd;obtain⟨p,u,o⟩:=YJ C (λC x=>DF n e a Q C x V) F.1 k 0 (λi _ f=>by
      have:=W i (by omega);rw[j1 (by omega)] at this;exact⟨_,this⟩)
     refine⟨p,u,?_⟩;rw[ah8,ag0,ad4 (by omega)] at o;exact o
    ·cases h
   ·cases h
  ·cases h
def AL(P:Program)(t:Nat):Bool:=match P.underlying t with
 | some (.struct _)=>true
 | some (.array _ _)=>true
 | _=>false
def KX(P:Program)(t:Nat)(v:PV):Prop:=∃a l,Lf P 20 t=some a/\Ty.ofL a l/\((AL P t=true/\v = .agg (l.map .s))\/(AL P t=false/\∃x,l=[x]/\v = .s x))
def Lj(P:Program):List Nat->List PV->Prop
 | [],l=>l=[]
 | t::r,l=>∃v q,l=v::q/\KX P t v/\Lj P r q
theorem KX.nms{P:Program}{t:Nat}{v:PV}(h:KX P t v):v.nms=[]:=by
 obtain⟨tys,l,_,_,h⟩:=h;rcases h with⟨_,rfl⟩|⟨_,x,_,rfl⟩
 ·simp only[PV.nms];rw[ab2];intro c hc;obtain⟨j,hj,hc⟩:=C5.1 hc;simp[PV.nms] at hc
 ·rfl
theorem Lj.nms{P:Program}:∀{ts:List Nat} {l:List PV},Lj P ts l->C7 l=[]
 | [],l,h=>by simp only[Lj] at h;subst h;rfl
 | t::r,l,h=>by
  simp only[Lj] at h;obtain⟨v,q,rfl,h1,h2⟩:=h;simp[C7,h1.nms,h2.nms]
section
variable {H : Type} {enc : TypeId × Value -> H} {P : Program} {w : World}
theorem Cs9{v:Value}{r:Reach}{b:Nat}{t:Nat}(e:AL P t=false)(Nn:aa2 P w r b t v):∀a,v = .agg a->False:=by
 rintro a rfl;simp only[aa2,Cell.okWide] at Nn;unfold AL at e;split at Nn
 ·grind
 ·grind
 ·revert Nn
  cases c:P.underlying t with
  | none=>simp[Cell.ok,c]
  | some d=>cases d<;>simp[Cell.ok,c]
theorem Ca9{Γ:Ctx}{sh:Nat->Option Shp}{sp:Nat->Bool}{held:Bool}{r:Reach}{b y t:Nat}{v:Value}{d:DataW H}{F:List MemPlace}(hΓ:∀g,g<w.heap.size->Γ.St g)(i:(Lf P 20 t).isSome=true)(Nn:aa2 P w r b t v)(A:DataW.Trod enc P w y sp held t v d F) :
  ∃u,KX P t u/\VP Γ sh w u v:=by
 obtain⟨c,p⟩:=ac7.1 i;obtain⟨m,D⟩:=A;obtain⟨a,q,f⟩:=DF 20 t c m _ _ p D;have lift:∀{x:SV} {V:Value},VS (· < w.heap.size) w x V->VS Γ.St w x V:=λh=>h.mono (λ_ _=>rfl) hΓ
 cases n:AL P t with
 | true=>
  refine⟨.agg (a.map .s),⟨c,a,p,q,.inl ⟨n,rfl⟩⟩,?_⟩;have:∃l,v = .agg l:=by
   unfold AL at n;simp only[aa2] at Nn;grind
  obtain⟨l,rfl⟩:=this;simp only[Value.cells] at f;refine VP.mk_agg (by simpa using f.1) λj B=>?_
  have o:j<a.length:=by simpa using B
  obtain⟨U,e,k⟩:=f.2 j o;exact⟨U,by simpa using e,by rw[x4];exact .s _ _ (lift k)⟩
 | false=>
  have z:v.cells = #[v]:=by
   have:=Cs9 n Nn;cases v with
   | agg l=>exact(this l rfl).elim
   | _=>rfl
  rw[z] at f;have C:a.length=1:=by have:=f.1;simpa using this.symm
  obtain⟨x,rfl⟩:∃x,a=[x]:=by
   match a,C with
   | [x],_=>exact⟨x,rfl⟩
  obtain⟨U,e,k⟩:=f.2 0 (by simp);simp only[List.getElem?_cons_zero,j4] at e;subst e;exact⟨.s x,⟨c,[x],p,q,.inr ⟨n,x,rfl,rfl⟩⟩,.s _ _ (lift k)⟩
theorem NP{Γ:Ctx}{sh:Nat->Option Shp}{sp:Nat->Bool}{held:Bool}{r:Reach}{b x:Nat}(hΓ:∀g,g<w.heap.size->Γ.St g):∀(f:List Nat) (i:List Value) (ds:List (DataW H)) (n:List MemPlace),(∀t∈f,(Lf P 20 t).isSome=true)->(∀(j:Nat) t v,f[j]? = some t->i[j]? = some v->aa2 P w r b t v)->ab4 enc P w x sp held f i ds n->
  ∃a,Lj P f a/\i.length=a.length/\ds.length=f.length/\∀j (h:j<a.length),∃U,i[j]? = some U/\VP Γ sh w (a[j]) U
 | [],i,ds,n,_,_,h=>by
  obtain⟨rfl,rfl,_⟩:=trodAll_nil h;exact⟨[],rfl,rfl,rfl,λj l=>by simp at l⟩
 | t::f,i,ds,n,c,Nn,h=>by
  obtain⟨v,o,d,m,p,q,rfl,rfl,rfl,C,D⟩:=trodAll_cons h;obtain⟨u,I,J⟩:=Ca9 (Γ:=Γ) (sh:=sh) hΓ (c t (by simp)) (Nn 0 t v rfl rfl) C;obtain⟨a,y,z,A,B⟩:=NP (Γ:=Γ) (sh:=sh) hΓ f o m q (λt F=>c t (by simp[F])) (λj t v l G=>Nn (j+1) t v (by simpa using l) (by simpa using G)) D;refine⟨u::a,⟨u,a,rfl,I,y⟩,by simp[z],by simp[A],λj l=>?_⟩;cases j with
  | zero=>exact⟨v,rfl,J⟩
  | succ j=>
   obtain⟨U,e,k⟩:=B j (by simpa using l);grind
theorem FX(g:laidOutB P=true){w':World}{ts:List Nat}{vs:List Value}{ds:List (DataW H)}{ps:List MemPlace}:∀{ts:List Nat} {vs:List Value} {ds:List (DataW H)} {ps:List MemPlace},(∀t∈ts,P.readableRec t=true/\t<P.types.size)->ab4 enc P w 0 (λ_=>true) true ts vs ds ps->(∀x∈ps,w.sameAt w' x)->∀sp:Nat->Bool,(∀x∈ps,sp x.block=true)->
  ab4 enc P w' 0 sp true ts vs ds ps
 | [],vs,ds,ps,_,h,_,sp,_=>by
  obtain⟨rfl,rfl,rfl⟩:=trodAll_nil h;exact trodAll_mk0
 | t::ts,vs,ds,ps,e,h,i,sp,b=>by
  obtain⟨v,f,d,c,p,q,rfl,rfl,rfl,j,k⟩:=trodAll_cons h;refine⟨p,q,WideElems.Trod_stays g (e t (by simp)).1 (e t (by simp)).2 j (λx a=>i x (by simp[a])) (λx a=>b x (by simp[a])),FX g (w':=w') (ts:=ts) (vs:=f) (ds:=c) (ps:=q) (λt l=>e t (by simp[l])) k (λx a=>i x (by simp[a])) sp (λx a=>b x (by simp[a])),rfl⟩
theorem KL{f:Func}{s:ChangeSpec}{c fresh d k:Bool}{W m:World}{args:Array Value}{v:Value}{ds n:List (DataW H)}{a pa pv:List MemPlace}
  (u:ai0 enc P f.params.toList s.vars c W args.toList ds n a)
  (i:∀(b:Nat) (sp:Nat->Bool) (B:Bool),ab4 enc P m b sp B f.resultTypes.toList (v.resultList f.resultTypes.size) (s.fn H (ds++n)).results [])
  (e:∀sp:Nat->Bool,(∀p∈a,sp p.block=true)->ab4 enc P m 0 sp true f.params.toList args.toList (s.fn H (ds++n)).args pa)
  (g:∀sp:Nat->Bool,(∀p∈a,sp p.block=true)->DataW.TrodVars enc P m sp s.vars (s.fn H (ds++n)).vars pv)
  (l:a=pa++pv) (z:Below W.heap.size W m)
  (y:∀(j:Nat) (t:TypeId) (r:Value),f.resultTypes[j]? = some t->(v.resultList f.resultTypes.size)[j]? = some r->aa2 P m .any 0 t r) :
  s.post enc P f c fresh d k W args v m:=by
 have h:∀p∈a,(λb=>decide (b<W.heap.size)) p.block=true:=λp o=>by simpa using u.lt p o
 refine⟨ds,n,a,[],pa,pv,u,i _ _ _,e _ h,g _ h,z.frame _,λ_=>?_⟩;have x:=u.lt;obtain⟨_,_,_,_,_,D,C⟩:=u;refine⟨y,_,_,([]++pa)++pv,⟨[]++pa,pv,trodAll_append (e _ (λ_ _=>rfl)) (i _ _ _),g _ (λ_ _=>rfl),rfl,?_,?_⟩,?_⟩
 ·intro b off o;have q:MemPlace.cell b off∈a:=by rw[l];simpa using o
  rw[z.frozen (x _ q)];exact D b off q
 ·intro A;have:=C A;rw[l] at this;simpa using this
 ·intro p o _;rw[l];simpa using o
end
theorem A68{P:Program}{f:Nat}{a:Array Value}{w:World}{R:Value->World->Prop}(b:(callFunc f a).run P w = .ok (.enter f a) w)(h:O9 P ((callFunc f a).run P w) R):Calls P f a w λe w'=>∃V,e = .returned V/\R V w':=by
 rw[b] at h;have:=h none 1 { op:=.move (.const undef),dst:=some 0,guard:=none,type:=0,after:=#[],pos:=default } { tmps:=#[undef],defers:=[] } (λg w'=>∃V,g.tmps[0]? = some V/\R V w') (λ_ _ _=>False) (λV w' k=>⟨V,by simp[Act.put],k⟩);rw[ac5] at this;have j:CallsIn ac2 0 P f a w _:=this.2;refine(callsIn_wide.1 j).mono λe w' d=>?_
 cases e with
 | returned v=>
  obtain⟨V,i,l⟩:=d;simp[Act.put] at i;grind
 | panicked c=>exact d.elim
 | outgrown=>obtain⟨_,_,h⟩:=d;exact h.elim
def noY:Yh Unit:=λ_ _=>none
theorem B37{H:Type}{enc:TypeId × Value->H}{C:Cfg}{f R:Nat}{fn:Func}{c:Code}{s:ChangeSpec}{apart fresh handsOn again:Bool}(hX:XOK C)(hO:Jz C)(hm:C.P.follows .mixedOrders=true)(hl:laidOutB C.P=true)(I:C.P.funcs[f]? = some fn)(hb:fn.body=some c)(r:(fn.name == "runtime.NumGoroutine")=false)
  (Q:∀t∈fn.params.toList,(C.P.readableRec t=true/\t<C.P.types.size)/\(Lf C.P 20 t).isSome=true) (n:fn.resultTypes = #[R]) (a:C.P.underlying R=some .bool) (i:s.vars=[])
  (y:∀ds:List (DataW H),ds.length=fn.params.toList.length->s.fn H ds = { results:=[.lit (.bool true)],args:=ds })
  (G:∀args,Lj C.P fn.params.toList args->∃d D,evC C d Unit noY f args [] ()=some (.s (.bool true),D,()))
  (W:World) (Z:GOK C (· < W.heap.size) W) (base:Nat) (args:Array Value) (ds S:List (DataW H)) (l:List MemPlace)
  (Nn:∀(j:Nat) t v,fn.params[j]? = some t->args[j]? = some v->aa2 C.P W .any base t v)
  (O:ai0 enc C.P fn.params.toList s.vars apart W args.toList ds S l) :
  Calls C.P f args W λe F=>∃v,e = .returned v/\s.post enc C.P fn apart fresh handsOn again W args v F:=by
 have o:=O;obtain⟨p,q,hA,hV,rfl,a0,a1⟩:=O;rw[i] at hV;obtain⟨rfl,rfl⟩:=trodVars_none hV;let Γ:Ctx:={ St:=(· < W.heap.size),nm:=λ_=>none,yv:=.nilFunc,yv1:=rfl }
 obtain⟨B,N,T,X,Y⟩:=NP (Γ:=Γ) (sh:=A2 []) (λ_ h=>h) fn.params.toList args.toList ds p (λt L=>(Q t L).2) (λj t v J M=>Nn j t v (by simpa using J) (by simpa using M)) hA;obtain⟨d,D,P⟩:=G B N;have hS:=Kk hX hO hm d Unit I0 noY .nilFunc By5 By6 f B [] () _ D () P Γ noΦ W args rfl (Lq (λ_=>rfl) (λ_ h=>h)) Z (λ_ h=>h) (λb g h=>by cases h)
  ⟨by rw[<-Array.length_toList];exact T,λj J=>by obtain⟨U,e,k⟩:=Y j J;exact⟨U,by simpa using e,k⟩⟩ (by rw[N.nms];simp)
 refine(A68 (Og I hb r) hS).mono ?_;rintro e F ⟨V,rfl,Γ',Φ',z,hH,M,_⟩;have hV:=M.inv_bool;subst hV;have m:Below W.heap.size W F:=⟨z.os,z.tape,z.output,z.size,λk hk=>z.frame k hk (λb=>by simp[Γ]) (λx=>x)⟩
 simp only[ab7] at o;refine⟨_,rfl,?_⟩;have u:=y ds X;have K:=o.lt;refine KL (pa:=p) (pv:=[]) o (λb sp P=>?_) (λsp A=>?_) (λsp _=>?_) (by simp) m ?_
 ·rw[ab7,u,n];exact trodAll_cons_mk (shut_bool a _) trodAll_mk0
 ·rw[ab7,u];exact FX hl (w:=W) (ts:=fn.params.toList) (vs:=args.toList) (ds:=ds) (ps:=p) (λt L=>(Q t L).1) hA (λx hx=>m.same (K x hx)) sp A
 ·rw[ab7,u,i];rfl
 ·exact ok_one n rfl (okWide_bool_mk a _)
end
section
open Go
def C0(P:Program)(G:GT)(g:Nat)(pf:List PV->Tr):Prop:=
 ∀args ret c,K7 (pf args)=some (ret,c)->∀C:Cfg,C.P=P->C.G=G->∀a w d,(∀b,a.nm b=none)->HR a [] w->GOK C a.St w->CR a (A2 []) w args d->
  O9 P ((callFunc g d).run P w) (Au C I0 a [] w noΦ ret c ())
theorem Jg{C₀:Cfg}{g:Nat}{pf:List PV->Tr}(y:XOK C₀)(x:Jz C₀)(B:C₀.P.follows .mixedOrders=true)
  (h:∀args ret c,K7 (pf args)=some (ret,c)->C7 args=[]/\∃d,evC C₀ d Unit noY g args [] ()=some (ret,c,())):C0 C₀.P C₀.G g pf:=by
 intro args ret c o C F f p w t n v u A;obtain⟨m,d,k⟩:=h args ret c o;have e:GOK C₀ p.St w:=u.congr f.symm;refine(Kk y x B d Unit I0 noY p.yv By5 By6 g args [] () ret c () k p noΦ w t rfl v e (λ_ h=>h) (λb g h=>by rw[n] at h;cases h) A (by rw[m];simp)).mono ?_;rintro V w' ⟨q,r,a,i,D,hvn,l,j⟩;exact⟨q,r,⟨a.os,a.tape,a.output,a.size,a.sub,a.stnew,a.own,a.foot,a.frame,a.yv,a.len,λb z=>by simp at z⟩,i,D,hvn,l,j⟩
def Tr.snap:Tr->Tr
 | .ret v H=>cond (v.snap H).nms.isEmpty (.ret (v.snap H) []) .fail
 | .need c t=>.need c t.snap
 | .split c a b=>.split c a.snap b.snap
 | .fail=>.fail
theorem Tr.snap_res:∀{t:Tr} {v:PV} {H:List Blk},K7 t.snap=some (v,H)->∃v' H',K7 t=some (v',H')/\v=v'.snap H'/\H=[]/\v.nms=[]
 | .ret v' H',v,H,h=>by
  simp only[Tr.snap] at h;cases he:(v'.snap H').nms.isEmpty with
  | false=>rw[he] at h;cases h
  | true=>
   rw[he] at h;simp only[cond_true,K7,Ev,j4,p5] at h;obtain⟨rfl,rfl⟩:=h;exact⟨v',H',rfl,rfl,rfl,List.isEmpty_iff.1 he⟩
 | .need c t,v,H,h=>by
  cases c with
  | true=>exact Tr.snap_res (t:=t) h
  | false=>cases h
 | .split c a b,v,H,h=>by
  cases c with
  | true=>exact Tr.snap_res (t:=a) h
  | false=>exact Tr.snap_res (t:=b) h
 | .fail,_,_,h=>by cases h
theorem C0.snap{P:Program}{G:GT}{g:Nat}{pf:List PV->Tr}(h:C0 P G g pf):C0 P G g (λargs=>(pf args).snap):=by
 intro args ret Hc hpf C hP hGe Γ w Vs hnm hH hG hc;obtain⟨ret',Hc',hpf',rfl,rfl,hnr⟩:=Tr.snap_res hpf;refine(h args ret' Hc' hpf' C hP hGe Γ w Vs hnm hH hG hc).mono ?_;rintro V w' ⟨Γ1,Φ1,hs,hH1,hv,hvn,hi1,hd1⟩;let Γ2:Ctx:={ Γ1.all with nm:=λ_=>none }
 have hlt:∀g,Γ2.St g->g<w'.heap.size:=λg hg=>by
  rcases hg with hg|⟨b,hb⟩
  ·exact hH1.stlt g hg
  ·exact(hH1.lt b g hb).2.1
 refine⟨Γ2,Φ1,⟨hs.os,hs.tape,hs.output,hs.size,λg hg=>.inl (hs.sub g hg),λg hg=>?_,λb g h=>by simp[Γ2] at h,hs.foot,hs.frame,hs.yv,p9 _,λb hb=>by simp at hb⟩,
  Lq (λ_=>rfl) hlt,?_,by rw[hnr];simp,hi1,λb g h=>by simp[Γ2] at h⟩
 ·rcases hg with hg|⟨b,hb⟩
  ·exact hs.stnew g hg
  ·rcases hs.own b g hb with⟨h',_⟩|h'
   all_goals grind
 ·exact VP.mono (Γ:=Γ1.all) (Γ':=Γ2) (w:=w') (w':=w') (sh:=A2 Hc') (ok:=λ_=>False) ⟨λ_ _=>rfl,λ_ h=>h,λ_ h=>h.elim,λ_ h=>h.elim,λ_ _ h=>h.elim,rfl⟩ (hv.snap hH1) (by rw[hnr];simp)
def WW:List (Nat × (List PV->Tr))->Nat->Option (List PV->Tr)
 | [],_=>none
 | (g,a)::r,n=>cond (x7 n g) (some a) (WW r n)
def K8(P:Program)(G:GT):List (Nat × (List PV->Tr))->Prop
 | []=>True
 | (g,a)::r=>C0 P G g a/\K8 P G r
theorem K8.x1{C:Cfg}{l:List (Nat × (List PV->Tr))}(hl:C.X=WW l)(h:K8 C.P C.G l):Dd5 C:=by
 intro g pf args ret Hc hg hpf Γ w Vs hnm hH hG hc;rw[hl] at hg;have key:∀l:List (Nat × (List PV->Tr)),K8 C.P C.G l->WW l g=some pf->C0 C.P C.G g pf:=by
  intro l
  induction l with
  | nil=>intro _ h;cases h
  | cons e r ih=>
   intro h1 h2;obtain⟨n,q⟩:=e;simp only[WW] at h2;cases hb:x7 g n with
   | true=>
    rw[hb] at h2;simp only[cond_true,j4] at h2;have:=w6 hb;subst this;subst h2;exact h1.1
   | false=>
    rw[hb] at h2;exact ih h1.2 h2
 exact key l h hg args ret Hc hpf C rfl rfl Γ w Vs hnm hH hG hc
theorem HH{C a:Cfg}(h:C.P=a.P):Hh C=Hh a:=by
 funext s
 unfold Hh;split
 ·simp only[En,Cfg.sh,h]
 ·rfl
 ·rfl
theorem Stp.congr{C C':Cfg}(h:C.P=C'.P){Γ Γ':Ctx}{H H':List Blk}{w w':World}{Φ Φ':Nat->Prop}(s:Stp C Γ H w Φ Γ' H' w' Φ'):Stp C' Γ H w Φ Γ' H' w' Φ':=
 ⟨s.os,s.tape,s.output,s.size,s.sub,s.stnew,s.own,s.foot,s.frame,s.yv,s.len,λb hb hf=>s.keep b hb (by rw[HH h];exact hf)⟩
def Ud(P:Program)(G:GT)(g:Nat)(j:List PV->List Blk->Tr):Prop:=
 ∀C:Cfg,C.P=P->C.G=G->∀(i:Type) (I:i->(Nat->Prop)->(Nat->Prop)->World->Prop) (k:Yh i) (h:Value),HI I->An1 P I k h->
  ∀args H s ret e,K7 (j args H)=some (ret,e)->∀a d w f,a.yv=h->HR a H w->GOK C a.St w->I s a.St d w->(∀b g,a.nm b=some g->¬d g)->CR a (A2 H) w args f->(∀c∈C7 args,c<H.length)->
   O9 P ((callFunc g f).run P w) (Au C I a H w d ret e s)
def XS(P:Program)(G:GT)(g:Nat)(k:List PV->List Blk->Option (Bool × List (List PV))):Prop:=
 ∀C:Cfg,C.P=P->C.G=G->∀(j:Type) (I:j->(Nat->Prop)->(Nat->Prop)->World->Prop) (h:Yh j) (i:Value),HI I->An1 P I h i->
  ∀args H L s f,k args H=some (true,L)->H.all HU=true->Q7 h L s=some f->∀a d w e,a.yv=i->HR a H w->GOK C a.St w->I s a.St d w->(∀b g,a.nm b=some g->¬d g)->CR a (A2 H) w args e->(∀c∈C7 args,c<H.length)->
   O9 P ((callFunc g e).run P w) (Au C I a H w d (.tup []) (H.map Ie) f)
theorem B29{C o:Cfg}{σ:Type}{I:σ->(Nat->Prop)->(Nat->Prop)->World->Prop}{S:Ctx}{H D:List Blk}{w w':World}{Φ:Nat->Prop}{s':σ}{V:Value}(hP:o.P=C.P)(hb:H.all HU=true)(hH:HR S H w)(h:Au o I S H w Φ (.tup []) D s' V w'):Au C I S H w Φ (.tup []) (H.map Ie) s' V w':=by
 obtain⟨n,T,l,G,k2,k3,k4,k5⟩:=h;have B:∀b g,(if b<H.length then n.nm b else none)=some g->b<H.length/\n.nm b=some g:=λb g h=>by grind
 have p:(H.map Ie).length=H.length:=y8 _;refine⟨{ n with nm:=λb=>if b<H.length then n.nm b else none },T,⟨l.os,l.tape,l.output,l.size,l.sub,l.stnew,λb g y=>l.own b g (B b g y).2,l.foot,l.frame,l.yv,by rw[p];exact p9 _,λb i hf=>?_⟩,
  ⟨λb U g K M=>G.inj b U g (B b g K).2 (B U g M).2,λb g y=>?_,G.stlt,λb i c Y=>?_,λb i=>?_⟩,?_,by simp[PV.nms,C7],k4,λb g y=>k5 b g (B b g y).2⟩
 ·obtain⟨Z,Q,R⟩:=l.keep b i (by rw[HH hP];exact hf);refine⟨by simp only;rw[if_pos i];exact Z,?_,R⟩;simp only[A2,ab0];cases H[b]? with
  | none=>rfl
  | some x=>exact congrArg some (LP x)
 ·obtain⟨q1,q2⟩:=B b g y;have:=G.lt b g q2;grind
 ·rw[x4,LN] at Y;simp at Y
 ·rw[p] at i;rw[x4];have k:=x3.1 hb _ (o5 i);have X:=hH.blk b i;cases q:H[b] with
  | box cells=>
   rw[q] at X;obtain⟨g,a0,e,K,M,W,_⟩:=X;obtain⟨Z,Q,R⟩:=l.keep b i (by simp only[A2,j1 i,q];exact trivial);have z:b<D.length:=p6 i l.len;have v:=G.blk b z;have f:(D[b]).shp = .box:=by
    simp only[A2,j1 i,j1 z,ac0,j4] at Q;rw[Q,q];rfl
   cases t:D[b] with
   | box F=>
    rw[t] at v;obtain⟨J,m,e',L,u,a1,a2⟩:=v;have N:J=g:=by grind
    subst N;have r:=R J K;simp only[World.shape?,M,u,j4,p5] at r;refine⟨J,m,e',by simp only;rw[if_pos i];exact L,u,by rw[r.2,W];simp,λj O=>?_⟩;have P:j<m.size:=by rw[r.2,W];simpa using O
    exact⟨m[j],Array.getElem?_eq_getElem P,by rw[x4];exact .bad _⟩
   | arr a b c d=>rw[t] at f;cases f
   | iter a b=>rw[t] at f;cases f
   | mp a=>rw[t] at f;cases f
   | ms a b=>rw[t] at f;cases f
   | dead=>rw[t] at f;cases f
  | arr a b c d=>rw[q] at k;cases k
  | iter a b=>rw[q] at k;cases k
  | mp a=>rw[q] at k;cases k
  | ms a b=>rw[q] at k;cases k
  | dead=>rw[q] at k;cases k
 ·obtain⟨A,rfl,hA,a3⟩:=k2.inv_tup;exact VP.mk_tup hA λj O=>by simp at O
theorem BT{C₀:Cfg}{g:Nat}{n:List PV->List Blk->Option (Bool × List (List PV))}(u:XOK C₀)(r:Jz C₀)(A:C₀.P.follows .mixedOrders=true)
  (h:∀args H L,n args H=some (true,L)->∀(a:Type) (f:Yh a) (s e:a),Q7 f L s=some e->∃d i,evC C₀ d a f g args H s=some (.tup [],i,e)):XS C₀.P C₀.G g n:=by
 intro C t p a I f G q F args H L s e k v c J K w o l m y z b x B;obtain⟨d,i,j⟩:=h args H L k a f s e c;exact(Kk u r A d a I f G q F g args H s _ i e j J K w o l m (y.congr p.symm) z b x B).mono λV w' D=>B29 t.symm v m D
def Ld{a:Type}:List (Nat × a)->Nat->Option a
 | [],_=>none
 | (g,b)::r,n=>cond (x7 n g) (some b) (Ld r n)
theorem Xb{b:Type}:∀{l:List (Nat × b)} {g:Nat} {a:b},Ld l g=some a->(g,a)∈l
 | [],_,_,h=>by cases h
 | (n,q)::r,g,a,h=>by
  simp only[Ld] at h;cases c:x7 g n with
  | true=>
   simp_all
  | false=>
   rw[c] at h;exact ae1 _ (Xb h)
def Jj(P:Program)(G:GT):List (Nat × (List PV->List Blk->Tr))->Prop
 | []=>True
 | (g,a)::r=>Ud P G g a/\Jj P G r
def Ji(P:Program)(G:GT):List (Nat × (List PV->List Blk->Option (Bool × List (List PV))))->Prop
 | []=>True
 | (g,a)::r=>XS P G g a/\Ji P G r
theorem Jj.mem{P:Program}{G:GT}:∀{l:List (Nat × (List PV->List Blk->Tr))} {g:Nat} {pf:List PV->List Blk->Tr},Jj P G l->(g,pf)∈l->Ud P G g pf
 | [],_,_,_,hm=>by simp at hm
 | (n,q)::r,g,pf,h,hm=>by
  rcases y9.1 hm with e|hm
  ·cases e;exact h.1
  ·exact Jj.mem h.2 hm
theorem Ji.mem{P:Program}{G:GT}:∀{l:List (Nat × (List PV->List Blk->Option (Bool × List (List PV))))} {g:Nat} {pf:List PV->List Blk->Option (Bool × List (List PV))},Ji P G l->(g,pf)∈l->XS P G g pf
 | [],_,_,_,hm=>by simp at hm
 | (n,q)::r,g,pf,h,hm=>by
  rcases y9.1 hm with e|hm
  ·cases e;exact h.1
  ·exact Ji.mem h.2 hm
theorem Jj.ok{C:Cfg}{l:List (Nat × (List PV->List Blk->Tr))}(hl:C.Y=Ld l)(h:Jj C.P C.G l):Bq C (clY C):=by
 intro σ I yh yv hI hy g args H s ret Hc s' hcl Γ Φ w Vs hyv hH hg hi hd hc hn;simp only[clY,hl] at hcl;split at hcl
 ·rename_i pf hpf;split at hcl
  ·rename_i r' h' hr;simp only[j4,p5] at hcl;obtain⟨rfl,rfl,rfl⟩:=hcl;exact h.mem (Xb hpf) C rfl rfl σ I yh yv hI hy args H s _ _ hr Γ Φ w Vs hyv hH hg hi hd hc hn
  grind
 ·cases hcl
theorem Ji.ok{C:Cfg}{l:List (Nat × (List PV->List Blk->Option (Bool × List (List PV))))}(hl:C.S=Ld l)(h:Ji C.P C.G l):Bq C (clS C):=by
 intro σ I yh yv hI hy g args H s ret Hc s' hcl Γ Φ w Vs hyv hH hg hi hd hc hn;simp only[clS,hl] at hcl;split at hcl
 ·rename_i pf hpf;split at hcl
  ·rename_i hb;split at hcl
   ·rename_i L hL;split at hcl
    ·rename_i s2 hr;simp only[j4,p5] at hcl;obtain⟨rfl,rfl,rfl⟩:=hcl;exact h.mem (Xb hpf) C rfl rfl σ I yh yv hI hy args H L s _ hL hb hr Γ Φ w Vs hyv hH hg hi hd hc hn
    grind
   grind
  grind
 ·cases hcl
theorem Na{C:Cfg}{lx:List (Nat × (List PV->Tr))}{ly:List (Nat × (List PV->List Blk->Tr))}{ls:List (Nat × (List PV->List Blk->Option (Bool × List (List PV))))}(a:C.X=WW lx)(b:C.Y=Ld ly)(c:C.S=Ld ls)(x:K8 C.P C.G lx)(y:Jj C.P C.G ly)(s:Ji C.P C.G ls)(d:C.Z=Ld []:=by rfl):XOK C:=
 ⟨K8.x1 a x,Jj.ok b y,Ji.ok c s,λg e h=>by rw[d] at h;cases h⟩
theorem K8.ok{C:Cfg}{l:List (Nat × (List PV->Tr))}(hl:C.X=WW l)(h:K8 C.P C.G l)(h2:C.Y=Ld []:=by rfl)(h3:C.S=Ld []:=by rfl)(h4:C.Z=Ld []:=by rfl):XOK C:=
 Na hl h2 h3 h trivial trivial h4
def okL:List Nat->Nat->Bool
 | [],_=>false
 | a::r,n=>x7 n a||okL r n
def Ax1(C:Cfg)(l:List Nat):Bool:=l.all λf=>match C.P.funcs[f]? with
 | some fn=>match fn.body with
  | some c=>B36 C c && !(fn.name == "runtime.NumGoroutine")
  | none=>true
 | none=>true
theorem G5{C:Cfg}{l:List Nat}(d:C.okf=okL l)(h:Ax1 C l=true):Jz C:=by
 intro f fn c b g e;have key:∀l:List Nat,okL l f=true->f∈l:=by
  intro l
  induction l with
  | nil=>intro h;cases h
  | cons a r j=>
   intro h;simp only[okL,Bool.or_eq_true] at h;rcases h with h|h
   all_goals simp_all
 have i:f∈l:=key l (by rw[<-d];exact b);simp only[Ax1,x3] at h;grind
def cd:List Nat->Code->Code
 | [],c=>c
 | 0::p,.seq a _=>cd p a
 | 1::p,.seq _ b=>cd p b
 | 0::p,.cond _ a _=>cd p a
 | 1::p,.cond _ _ b=>cd p b
 | 0::p,.block _ a=>cd p a
 | 0::p,.loop a=>cd p a
 | 0::p,.scope a=>cd p a
 | 0::p,.rangeFunc _ _ a _=>cd p a
 | 1::p,.rangeFunc _ _ _ b=>cd p b
 | _,_=>.skip
def K4:List Nat->Code->Code->Code
 | [],b,_=>b
 | 0::p,b,.seq x y=>.seq (K4 p b x) y
 | 1::p,b,.seq x y=>.seq x (K4 p b y)
 | 0::p,b,.cond c x y=>.cond c (K4 p b x) y
 | 1::p,b,.cond c x y=>.cond c x (K4 p b y)
 | 0::p,b,.block id x=>.block id (K4 p b x)
 | 0::p,b,.loop x=>.loop (K4 p b x)
 | 0::p,b,.scope x=>.scope (K4 p b x)
 | 0::p,b,.rangeFunc g a x y=>.rangeFunc g a (K4 p b x) y
 | 1::p,b,.rangeFunc g a x y=>.rangeFunc g a x (K4 p b y)
 | _,_,c=>c
def E0(f:Func):Code:=f.body.getD .skip
section
variable {Y R : Type}
def bd(C:Cfg)(a:F4)(d:Yh Y)(c:Code):St Y->(Out->St Y->Option R)->Option R:=λb k=>A9 C a d c b k
def G6(C:Cfg)(c:F4)(d:Yh Y)(b:Code)(k:Out->St Y->Option R):Out->St Y->Option R:=λo a=>match o with
 | .normal=>A9 C c d b a k
 | o=>k o a
def F9(id:Nat)(k:Out->St Y->Option R):Out->St Y->Option R:=λo a=>match o with
 | .exit j=>if j=id then k .normal a else k (.exit j) a
 | o=>k o a
def I1(C:Cfg)(fn:Func):Out->St Y->Option (PV × List Blk × Y):=λo a=>match o with
 | .normal=>CL C a.sl a.hp fn.results.toList λb=>some (Cd b,a.hp,a.s)
 | .ret=>CL C a.sl a.hp fn.results.toList λb=>some (Cd b,a.hp,a.s)
 | _=>none
def lpK(L:Nat)(ds:Option (List Nat))(a:St Y->(Out->St Y->Option R)->Option R)(n:Nat)(k:Out->St Y->Option R):Out->St Y->Option R:=λo b=>match o with
 | .normal=>E7 L ds a n (Mb ds (V0 L b)) k
 | o=>k o (Mb ds b)
end
theorem C65{C:Cfg}{d f:Nat}{fn:Func}{e:Type}{g:Yh e}{args:List PV}{H:List Blk}{s:e}(i:C.P.funcs[f]? = some fn)(h:C.okf f=true)(a:fn.body=some (E0 fn)) :
  evC C (d+1) e g f args H s=A9 C (evC C d) g (E0 fn) { sl:=args++j6 (fn.ntmps-args.length) (.tup []),hp:=H,s:=s } (I1 C fn):=by
 simp only[evC,h,i];split
 ·rename_i c b;rw[b] at a;simp only[j4] at a;rw[<-a];rfl
 ·rename_i b;rw[b] at a;cases a
theorem evE{C:Cfg}{d f:Nat}{fn:Func}{a:Type}{b:Yh a}{args:List PV}{H:List Blk}{s:a}(h:(C.P.funcs[f]?,C.okf f,fn.body)=(some fn,true,some (E0 fn))) :
  evC C (d+1) a b f args H s=A9 C (evC C d) b (E0 fn) { sl:=args++j6 (fn.ntmps-args.length) (.tup []),hp:=H,s:=s } (I1 C fn):=by
 simp only[p5] at h;exact C65 h.1 h.2.1 h.2.2
def Jq:List Nat->List Blk->List Blk
 | [],H=>H
 | i::r,H=>Jq r (H.set i .dead)
def Aq8(a:List Nat)(ret:PV)(H:List Blk):Bool:=a.all λi=>!(ret.nms.contains i)&&(Jq a H).all λb=>!(b.nms.contains i)
theorem AW:∀(b:List Nat) (H:List Blk),(Jq b H).length=H.length/\∀i (h:i<(Jq b H).length) (c:i<H.length),(i∈b/\(Jq b H)[i] = .dead)\/(i∉b/\(Jq b H)[i]=H[i])
 | [],H=>⟨rfl,λi h c=>.inr ⟨by simp,rfl⟩⟩
 | a::r,H=>by
  obtain⟨d,e⟩:=AW r (H.set a .dead);simp only[Jq];grind
theorem Au.dead{C:Cfg}{Γ:Ctx}{w w':World}{ret:PV}{Hc:List Blk}{V:Value}{idx:List Nat}(h:Au C I0 Γ [] w noΦ ret Hc () V w')(hok:Aq8 idx ret Hc=true):Au C I0 Γ [] w noΦ ret (Jq idx Hc) () V w':=by
 obtain⟨Γ1,Φ1,hs,hH1,hv,hvn,hi1,hd1⟩:=h;obtain⟨hl,hsp⟩:=AW idx Hc;simp only[Aq8,x3,k9,Bool.not_eq_true',List.contains_iff_mem,<-Bool.not_eq_true] at hok;let Γ2:Ctx:={ Γ1 with nm:=λb=>if b∈idx then none else Γ1.nm b }
 have hnm:∀b g,Γ2.nm b=some g->b∉idx/\Γ1.nm b=some g:=λb g h=>by
  simp only[Γ2] at h;split at h
  ·cases h
  ·exact⟨‹_›,h⟩
 have M:Y9 Γ1 (A2 Hc) w' Γ2 (A2 (Jq idx Hc)) w' (·∉idx):=⟨λ_ _=>rfl,λ_ h=>h,λb hb=>by simp only[Γ2];rw[if_neg hb],λb hb=>by
  simp only[A2];by_cases hlt:b<Hc.length
  ·rcases hsp b (by omega) hlt with⟨q,_⟩|⟨_,q⟩
   ·exact absurd q hb
   ·rw[j1 (by omega),j1 hlt,q]
  ·rw[v7 (by omega),v7 (by omega)],λ_ _ _ _=>rfl,rfl⟩
 refine⟨Γ2,Φ1,⟨hs.os,hs.tape,hs.output,hs.size,hs.sub,hs.stnew,λb g h=>hs.own b g (hnm b g h).2,hs.foot,hs.frame,hs.yv,Nat.zero_le _,λb hb=>by simp at hb⟩,
  ⟨λb b' g h1 h2=>hH1.inj b b' g (hnm b g h1).2 (hnm b' g h2).2,λb g h=>by have:=hH1.lt b g (hnm b g h).2;rw[hl];exact this,hH1.stlt,λb hb c hc=>?_,λb hb=>?_⟩,
  hv.mono M (λb hb hi=>by have:=(hok b hi).1;exact this hb),λc hc=>by rw[hl];exact hvn c hc,hi1,λb g h=>hd1 b g (hnm b g h).2⟩
 ·have hlt:b<Hc.length:=by omega
  rcases hsp b hb hlt with⟨_,q⟩|⟨_,q⟩
  ·rw[q] at hc;simp[Blk.nms] at hc
  ·rw[q] at hc;rw[hl];exact hH1.nms b hlt c hc
 ·have hlt:b<Hc.length:=by omega
  rcases hsp b hb hlt with⟨_,q⟩|⟨q0,q⟩
  ·rw[q];trivial
  ·rw[q];refine(hH1.blk b hlt).mono M (M.nm b q0) (λ_ _=>rfl) (λc hc hi=>?_);have:=(hok c hi).2 _ (o5 hb);rw[q] at this;exact this hc
theorem Z6{C₀:Cfg}{g:Nat}{pf:List PV->Tr}(y:XOK C₀)(u:Jz C₀)(B:C₀.P.follows .mixedOrders=true)
  (h:∀args ret i,K7 (pf args)=some (ret,i)->C7 args=[]/\∃d e c,evC C₀ d Unit noY g args [] ()=some (ret,e,())/\Aq8 c ret e=true/\Jq c e=i):C0 C₀.P C₀.G g pf:=by
 intro args ret i f C v j D w o m t q z;obtain⟨l,d,e,c,k,A,rfl⟩:=h args ret i f;have p:=Jg (C₀:=C₀) (g:=g) (pf:=λa=>match K7 (pf a) with|some _=>(match evC C₀ d Unit noY g a [] () with|some (r,H,_)=>cond (C7 a).isEmpty (.ret r H) .fail|none=>.fail)|none=>.fail) y u B (λa r H b=>by
  split at b
  ·split at b
   ·rename_i G H' _ F;cases n:(C7 a).isEmpty with
    | true=>
     rw[n] at b;simp only[cond_true,K7,Ev,j4,p5] at b;grind
    | false=>rw[n] at b;cases b
   ·cases b
  ·cases b)
 refine(p args ret e ?_ C v j D w o m t q z).mono λV w' x=>x.dead A
 dsimp only;rw[f];dsimp only;rw[k];dsimp only;rw[l];rfl
theorem XL{C₀:Cfg}{g:Nat}{pf:List PV->Tr}(y:XOK C₀)(v:Jz C₀)(A:C₀.P.follows .mixedOrders=true)
  (h:∀args ret f,K7 (pf args)=some (ret,f)->C7 args=[]/\f=[]/\ret.nms=[]/\∃d b e,evC C₀ d Unit noY g args [] ()=some (b,e,())/\b.snap e=ret):C0 C₀.P C₀.G g pf:=by
 intro args ret f n C x i B w p l u t z;obtain⟨k,rfl,m,d,b,e,j,rfl⟩:=h args ret f n;have q:=Jg (C₀:=C₀) (g:=g) (pf:=λa=>match evC C₀ d Unit noY g a [] () with|some (r,H,_)=>cond (C7 a).isEmpty (.ret r H) .fail|none=>.fail) y v A (λa r H c=>by
  split at c
  ·rename_i F H' _ D;cases o:(C7 a).isEmpty with
   | true=>
    rw[o] at c;simp only[cond_true,K7,Ev,j4,p5] at c;grind
   | false=>rw[o] at c;cases c
  ·cases c)
 refine q.snap args (b.snap e) [] ?_ C x i B w p l u t z;dsimp only;rw[j];dsimp only;rw[k];simp only[List.isEmpty_nil,cond_true,Tr.snap,m];rfl
section
variable {L R : Type} {C : Cfg} {W : F4} {Y : Yh L} {c a b : Code} {Q : St L} {k : Out -> St L -> Option R} {id : Nat}
theorem A0{b:Bool}{x y d e:Option R}(f:x=d)(g:y=e):cond b x y=cond b d e:=by rw[f,g]
end
def Cb0{α:Type}(z:α)(f:Nat->α->α):Nat->α
 | 0=>z
 | n+1=>f n (Cb0 z f n)
def A4{b:Type}:List (Nat × b)->Nat->Option b
 | [],_=>none
 | (a,l)::r,n=>cond (x7 n a) (some l) (A4 r n)
def bds(n:Nat):List PV:=j6 n .bad
def tps(n:Nat):List PV:=j6 n (.tup [])
def gp:List (Nat × PV)->Nat->List PV
 | [],n=>bds n
 | (m,v)::r,n=>bds m++v::gp r n
abbrev LL:=List (List SV)
abbrev MS:=List (List UInt8 × List SV)
abbrev By:=List UInt8
def A1(n:Int):Int:=o8 .i64 n
def Da3(n:Int):Int:=o8 .u64 n
def Ch5(n:Int):Int:=o8 .u32 n
def Ib(n:Int):Int:=o8 .u16 n
def wu8(n:Int):Int:=o8 .u8 n
def An6(k:IntKind)(a b:Int):Int:=k.wrap (y7 k.bits a &&& y7 k.bits b).toNat
def bOr(k:IntKind)(a b:Int):Int:=k.wrap (y7 k.bits a ||| y7 k.bits b).toNat
def Rk(k:IntKind)(a b:Int):Int:=k.wrap (a*2 ^ min b.toNat k.bits)
def Rl(k:IntKind)(a b:Int):Int:=a.fdiv (2 ^ min b.toNat k.bits)
def inR(n:Int)(m:Nat):Bool:=decide (0<=n)&&decide (n<m)
def Lc:TI:=⟨true,false,[.int .i64]⟩
def Ia:TI:=⟨true,false,[.str]⟩
def okE(t:TI)(l:LL)(i o:Nat):Bool:=decide (i<l.length)&&okS t (l.getD i []) o
def gC(l:LL)(i j:Nat):SV:=(l.getD i []).getD j .nilp
def gE(l:LL)(i j:Nat):Int:=(gC l i j).gI
def gX(l:LL)(i j:Nat):By:=(gC l i j).gS
def bAt(s:By)(n:Int):Int:=((s.getD n.toNat 0).toNat:Int)
def K5(l h:Int)(n:Nat):Bool:=decide (0<=l)&&decide (l<=h)&&decide (h<=n)
def cut{a:Type}(s:List a)(l h:Int):List a:=(s.take h.toNat).drop l.toNat
def Dh9:Code->Bool | .rangeFunc _ _ _ _=>true|_=>false
def rgX:Code->Operand | .rangeFunc x _ _ _=>x|_=>.tmp 0
def rgP:Code->Array Tmp | .rangeFunc _ p _ _=>p|_=>#[]
theorem TK:∀(p:List Nat),cd p .skip = .skip
 | []=>rfl
 | 0::_=>rfl
 | 1::_=>rfl
 | (_+2)::_=>rfl
theorem Gy:∀(p q:List Nat) (c:Code),cd (p++q) c=cd q (cd p c)
 | [],q,c=>rfl
 | i::p,q,c=>by
  rw[ac9]
  match i,c with
  | 0,.seq a b=>exact Gy p q a
  | 1,.seq a b=>exact Gy p q b
  | 0,.cond _ a b=>exact Gy p q a
  | 1,.cond _ a b=>exact Gy p q b
  | 0,.block _ a=>exact Gy p q a
  | 0,.loop a=>exact Gy p q a
  | 0,.scope a=>exact Gy p q a
  | 0,.rangeFunc _ _ a b=>exact Gy p q a
  | 1,.rangeFunc _ _ a b=>exact Gy p q b
  | 0,.skip|0,.region _ _ _|0,.exit _|0,.label _|0,.goto _|0,.ret|0,.refuse _=>exact(TK q).symm
  | 1,.skip|1,.region _ _ _|1,.exit _|1,.scope _|1,.label _|1,.goto _|1,.ret|1,.refuse _|1,.block _ _|1,.loop _=>exact(TK q).symm
  | _+2,.skip|_+2,.region _ _ _|_+2,.exit _|_+2,.scope _|_+2,.label _|_+2,.goto _|_+2,.ret|_+2,.refuse _|_+2,.block _ _|_+2,.loop _|_+2,.seq _ _|_+2,.cond _ _ _|_+2,.rangeFunc _ _ _ _=>exact(TK q).symm
section
variable {L R : Type} {C : Cfg} {Y : F4} {Q : Yh L} {B : Code} {W : St L} {k : Out -> St L -> Option R}
def rdB(g:Array Tmp)(e:List PV)(a b:St L->(Out->St L->Option R)->Option R)(xs:List (List PV))(n:Nat)(f:Option Out->List Blk->L->Option R):Out->St L->Option R:=λd c=>match d with
 | .normal=>S6 g e a b xs (V0 n c).hp c.s f
 | d=>f (some d) (V0 n c).hp c.s
theorem Bc6(p:List Nat)(h:Dh9 (cd p B)=true):A9 C Y Q (cd p B) W k=Tl C Y (opnd C W.sl (rgX (cd p B))) W (λa=>Jw (rgP (cd p B)) a (bd C Y Q (cd (p++[0]) B)) (bd C Y Q (cd (p++[1]) B))) (λa=>S6 (rgP (cd p B)) a (bd C Y Q (cd (p++[0]) B)) (bd C Y Q (cd (p++[1]) B))) k:=by rw[Gy,Gy];cases b:cd p B<;>rw[b] at h<;>first|rfl|cases h
theorem Ck7{x:Option (Bool × L)}{k a:Bool->L->Option R}(h:∀b s,k b s=a b s):ydK x k=ydK x a:=by
 have:k=a:=funext λb=>funext λs=>h b s
 rw[this]
theorem Mj{c:Bool}{x y:Option R}(h:x=y):need c x=cond c y none:=by rw[h];rfl
end
abbrev pS(l:List UInt8):PV:=.s (.str l)
abbrev pB(b:Bool):PV:=.s (.bool b)
abbrev pI(n:Int):PV:=.s (.int .i64 n)
abbrev p8(n:Int):PV:=.s (.int .u8 n)
abbrev p16(n:Int):PV:=.s (.int .u16 n)
abbrev p32(n:Int):PV:=.s (.int .u32 n)
abbrev p64(n:Int):PV:=.s (.int .u64 n)
abbrev vl{a b:Type}(e:a)(f:a->b):b:=f e
theorem A7{a R:Type}{e:a}{f g:a->Option R}(h:∀x,f x=g x):vl e f=vl e g:=h e
def J7(m n:Nat):Bool:=decide (m+n<4611686018427387904)
theorem fx1{A R:Type}{f g:A->R}(b:∀a,f a=g a):f=g:=funext b
theorem fx2{A B R:Type}{f g:A->B->R}(c:∀a b,f a b=g a b):f=g:=funext λa=>fx1 (c a)
theorem fx3{A B C R:Type}{f g:A->B->C->R}(d:∀a b c,f a b c=g a b c):f=g:=funext λa=>fx2 (d a)
theorem fx4{A B C D R:Type}{f g:A->B->C->D->R}(e:∀a b c d,f a b c d=g a b c d):f=g:=funext λa=>fx3 (e a)
theorem fx5{A B C D E R:Type}{f g:A->B->C->D->E->R}(h:∀a b c d e,f a b c d e=g a b c d e):f=g:=funext λa=>fx4 (h a)
theorem fx6{A B C D E H R:Type}{f g:A->B->C->D->E->H->R}(i:∀a b c d e h,f a b c d e h=g a b c d e h):f=g:=funext λa=>fx5 (i a)
theorem fx7{A B C D E H I R:Type}{f g:A->B->C->D->E->H->I->R}(j:∀a b c d e h i,f a b c d e h i=g a b c d e h i):f=g:=funext λa=>fx6 (j a)
theorem fx8{A B C D E H I J R:Type}{f g:A->B->C->D->E->H->I->J->R}(k:∀a b c d e h i j,f a b c d e h i j=g a b c d e h i j):f=g:=funext λa=>fx7 (k a)
theorem fx9{A B C D E H I J K R:Type}{f g:A->B->C->D->E->H->I->J->K->R}(l:∀a b c d e h i j k,f a b c d e h i j k=g a b c d e h i j k):f=g:=funext λa=>fx8 (l a)
theorem Co8{A B C D E H I J K L R:Type}{f g:A->B->C->D->E->H->I->J->K->L->R}(m:∀a b c d e h i j k l,f a b c d e h i j k l=g a b c d e h i j k l):f=g:=funext λa=>fx9 (m a)
def Cb1{α a:Type}(z:α)(f:a->List a->α->α):List a->α
 | []=>z
 | x::xs=>f x xs (Cb1 z f xs)
def Rh(n:Nat):PV->PV
 | .s (.sl z t k a)=>if n=0 then .s (.sl z t k a) else if k=n then .s (.sl z t k a) else .s (.sl z t (cond z n k) a)
 | v=>v
def Ri:List Nat->List PV->List PV
 | n::r,v::l=>Rh n v::Ri r l
 | _,l=>l
def C66(a:List Nat):PV->PV
 | .agg l=>.agg (Ri a l)
 | v=>Rh (a.headD 0) v
def D4:List (List Nat)->List PV->List PV
 | s::r,v::l=>C66 s v::D4 r l
 | _,l=>l
section
variable {L : Ctx} {sh : Nat -> Option Shp} {w : World}
theorem CT{n:Nat}{v:PV}{V:Value}(h:VP L sh w v V):VP L sh w (Rh n v) V:=by
 unfold Rh;split
 ·rename_i z t k a;split
  ·exact h
  ·split
   ·exact h
   ·cases z with
    | false=>exact h
    | true=>
     have b:=h.inv_s;cases b with
     | nil=>exact .s _ _ (.nil _ _)
 ·exact h
theorem Vb:∀(a:List Nat) (l:List PV),(Ri a l).length=l.length
 | [],_=>rfl
 | _::_,[]=>rfl
 | n::r,v::l=>by simp[Ri,Vb r l]
theorem HG:∀(a:List Nat) (l:List PV) (j:Nat) (h:j<l.length) (b:j<(Ri a l).length),∃n,(Ri a l)[j]=Rh n l[j]
 | [],l,j,h,b=>⟨0,by
  have e:Ri [] l=l:=by cases l<;>rfl
  simp only[e];unfold Rh;split
  ·rename_i c;rw[c];simp
  ·rfl⟩
 | n::r,v::l,0,h,b=>⟨n,rfl⟩
 | n::r,v::l,j+1,h,b=>by
  obtain⟨m,e⟩:=HG r l j (by simpa using h) (by simpa[Ri] using b);exact⟨m,by simpa[Ri] using e⟩
theorem Co4{b:List Nat}{v:PV}{V:Value}(h:VP L sh w v V):VP L sh w (C66 b v) V:=by
 unfold C66;split
 ·rename_i l;obtain⟨A,rfl,hA,f⟩:=h.inv_agg;refine VP.mk_agg (by rw[Vb];exact hA) λj c=>?_
  have a:j<l.length:=by rw[Vb] at c;exact c
  obtain⟨U,e,k⟩:=f j a;obtain⟨m,d⟩:=HG b l j a c;exact⟨U,e,by rw[d];exact CT k⟩
 ·exact CT h
theorem ZW:∀(a:List (List Nat)) (l:List PV),(D4 a l).length=l.length
 | [],_=>rfl
 | _::_,[]=>rfl
 | n::r,v::l=>by simp[D4,ZW r l]
theorem Co5:∀(a:List (List Nat)) (l:List PV) (V:Array Value),CR L sh w l V->CR L sh w (D4 a l) V:=by
 intro a l V h;refine⟨by rw[ZW];exact h.1,?_⟩;have key:∀(a:List (List Nat)) (l:List PV) (b:Nat->Option Value),(∀j (h:j<l.length),∃U,b j=some U/\VP L sh w (l[j]) U)->∀j (h:j<(D4 a l).length),∃U,b j=some U/\VP L sh w ((D4 a l)[j]) U:=by
  intro a
  induction a with
  | nil=>intro l b d j c;exact d j (by cases l<;>exact c)
  | cons s r f=>
   intro l b d j c;cases l with
   | nil=>simp[D4] at c
   | cons v l=>
    cases j with
    | zero=>
     obtain⟨U,e,k⟩:=d 0 (by simp);exact⟨U,e,Co4 k⟩
    | succ j=>
     have:=f l (λj=>b (j+1)) (λj h=>d (j+1) (by simpa using h)) j (by simpa[D4] using c);simpa[D4] using this
 exact key a l (λj=>V[j]?) h.2
end
theorem C0.fix{P:Program}{G:GT}{g:Nat}{pf:List PV->Tr}(szs:List (List Nat))(h:C0 P G g pf):C0 P G g (λargs=>pf (D4 szs args)):=
 λargs ret Hc hpf C hP hGe Γ w Vs hnm hH hG hc=>h (D4 szs args) ret Hc hpf C hP hGe Γ w Vs hnm hH hG (Co5 szs args Vs hc)
def plE(a:LL):Bool:=a.all λb=>b.all SV.plain
theorem I9{v:PV}{H:List Blk}{ret:PV}{a:List Blk}(h:K7 (.ret v H)=some (ret,a)):ret=v/\a=H:=by simp only[K7,Ev,j4,p5] at h;grind
theorem C9{c:Bool}{t:Tr}{ret:PV}{a:List Blk}(h:K7 (.need c t)=some (ret,a)):c=true/\K7 t=some (ret,a):=by
 cases c with
 | true=>exact⟨rfl,h⟩
 | false=>cases h
theorem Ce6{c:Bool}{a b:Tr}{ret:PV}{d:List Blk}(h:K7 (.split c a b)=some (ret,d)):(c=true/\K7 a=some (ret,d))\/(c=false/\K7 b=some (ret,d)):=by
 cases c with
 | true=>exact .inl ⟨rfl,h⟩
 | false=>exact .inr ⟨rfl,h⟩
theorem C21:∃n:Nat,100000000000000000000<=n:=⟨_,p9 _⟩
noncomputable def LF:Nat:=ac8 C21
theorem E2:100000000000000000000<=LF:=ad6 C21
attribute [irreducible] LF
theorem Bl2(b:UInt8):Rf (F0 b)=b:=by simp[Rf,F0,SV.gI]
theorem Ca(l:List UInt8):(l.map F0).map Rf=l:=by
 rw[ah5];have:Rf ∘ F0=id:=by funext b;exact Bl2 b
 rw[this,List.map_id]
theorem Bn6(b:UInt8):Td (F0 b)=true:=by have:=b.toNat_lt;simp only[Td,F0,k9,decide_eq_true_eq];omega
theorem Br(l:List UInt8):(l.map F0).all Td=true:=by rw[ah4];simp[Function.comp_def,Bn6]
theorem Da2(n:Nat):o8 .u8 (n:Int)=((n % 256:Nat):Int):=by simp[o8,ac1,aa7]
theorem Bh7(n:Nat):o8 .u16 (n:Int)=((n % 65536:Nat):Int):=by simp[o8,ac1,aa7]
theorem Cz0(n:Nat):o8 .u32 (n:Int)=((n % 4294967296:Nat):Int):=by simp[o8,ac1,aa7]
theorem Cz1(n:Nat):o8 .u64 (n:Int)=((n % 18446744073709551616:Nat):Int):=by simp[o8,ac1,aa7]
theorem Cy9(n:Int)(a:-9223372036854775808<=n)(b:n<9223372036854775808):o8 .i64 n=n:=by simp[o8,ac1,aa7];split<;>omega
theorem B51(n m:Nat):Int.fdiv (n:Int) (m:Int)=((n / m:Nat):Int):=by rw[Int.fdiv_eq_ediv_of_nonneg _ (by omega)];rfl
theorem M3(n m:Nat):aa6 (n:Int) (m:Int)=((n / m:Nat):Int):=by rw[Int.tdiv_eq_ediv_of_nonneg (by omega)];rfl
theorem Cl(n m:Nat):z7 (n:Int) (m:Int)=((n % m:Nat):Int):=by rw[Int.tmod_eq_emod_of_nonneg (by omega)];rfl
theorem C57(w a b:Nat)(c:a<2 ^ w)(d:b<2 ^ w):(y7 w (a:Int) ||| y7 w (b:Int)).toNat=a ||| b:=by simp[ad7,p4 c,p4 d]
theorem C32(w a b:Nat)(c:a<2 ^ w)(d:b<2 ^ w):(y7 w (a:Int) &&& y7 w (b:Int)).toNat=a &&& b:=by simp[ad7,p4 c,p4 d]
theorem C78(a b i:Nat)(h:a<2 ^ i):a ||| (b*2 ^ i)=a+b*2 ^ i:=by rw[Nat.mul_comm b,Nat.or_comm,ah6];exact(Nat.two_pow_add_eq_or_of_lt h b).symm
theorem A65(n:Nat):F0 (x8 n)=[SV.int .u8 ((n % 256:Nat):Int)]:=by simp[F0]
end
section
open Go Go.ChangeShapes Go.RowKit Go.Sort Go.WideShapes
theorem Am{P:Program}{f:Nat}{fn:Func}{d:Array Value}{w:World}{R:Value->World->Prop}(m:P.funcs[f]? = some fn)(j:fn.body.isSome=true)(p:(fn.name == "runtime.NumGoroutine")=false)
  (h:Calls P f d w λe w'=>∃V,e = .returned V/\R V w'):O9 P ((callFunc f d).run P w) R:=by
 obtain⟨c,j⟩:=ac7.1 j;intro q n o a next Q b
 have g:(callFunc f d).run P w = .ok (.enter f d) w:=by
  have k:¬ fn.name = "runtime.NumGoroutine":=by simpa using p
  simp[callFunc,m,j,k,ae2]
 rw[g];simp only[ac5];refine⟨λh=>(by simp[G7,ac2] at h),?_⟩;have key:CallsIn ac2 (n-1) P f d w λe w'=>∃V,e = .returned V/\R V w':=callsIn_wide.2 h
 have i:CallsIn (G7 q) (n-1) P f d w λe w'=>∃V,e = .returned V/\R V w':=key
 refine i.mono ?_;rintro e w' ⟨V,rfl,l⟩;exact b V w' l
theorem B38{C:Cfg}{d:Ctx}{w w':World}{ret:PV}{V:Value}(a:∀b,d.nm b=none)(f:HR d [] w)(c:Below w.heap.size w w')(j:VP d (A2 []) w' ret V)(i:ret.nms=[]):Au C I0 d [] w noΦ ret [] () V w':=by
 refine⟨d,noΦ,⟨c.os,c.tape,c.output,c.size,λ_ h=>h,λ_ h=>.inl h,λb g h=>(by rw[a] at h;cases h),λ_ h=>h.elim,λg e _ _=>c.block g e,rfl,p9 _,λb h=>(by simp at h)⟩,
  ⟨λb k g h=>(by rw[a] at h;cases h),λb g h=>(by rw[a] at h;cases h),λg e=>p6 (f.stlt g e) c.size,λb h=>(by simp at h),λb h=>(by simp at h)⟩,j,by rw[i];simp,λ_ h=>h,λb g h=>(by rw[a] at h;cases h)⟩
theorem Od(w:World)(n:Nat):Below w.heap.size w (w.drewN n):=⟨rfl,rfl,rfl,p9 _,λ_ _=>rfl⟩
theorem GB(w:World)(os:Array Obj):Below w.heap.size w (grow w os):=by refine⟨rfl,rfl,rfl,by simp[grow],λk a=>?_⟩;simp only[grow];grind
theorem An9(w:World)(s:ByteArray)(pos:Nat):Below w.heap.size w (w.iter s pos):=(Below.refl _ w).alloc (p9 _) _
section
variable {Γ : Ctx} {sh : Nat -> Option Shp} {w : World}
theorem CR.arr1{a:PV}{A:Array Value}(h:CR Γ sh w [a] A):∃U,A = #[U]/\VP Γ sh w a U:=by obtain⟨U,e,k⟩:=h.2 0 (by simp);refine⟨U,?_,k⟩;have hs:A.size=1:=h.1;grind
theorem CR.arr2{a b:PV}{A:Array Value}(h:CR Γ sh w [a,b] A):∃U V,A = #[U,V]/\VP Γ sh w a U/\VP Γ sh w b V:=by obtain⟨U,e,k⟩:=h.2 0 (by simp);obtain⟨V,e',k'⟩:=h.2 1 (by simp);refine⟨U,V,?_,k,k'⟩;have hs:A.size=2:=h.1;grind
theorem CR.arr3{a b c:PV}{A:Array Value}(h:CR Γ sh w [a,b,c] A):∃U V W,A = #[U,V,W]/\VP Γ sh w a U/\VP Γ sh w b V/\VP Γ sh w c W:=by obtain⟨U,e,k⟩:=h.2 0 (by simp);obtain⟨V,e',k'⟩:=h.2 1 (by simp);obtain⟨W,e'',k''⟩:=h.2 2 (by simp);refine⟨U,V,W,?_,k,k',k''⟩;have hs:A.size=3:=h.1;grind
theorem VP.mk_str(l:List UInt8):VP Γ sh w (.s (.str l)) (.string ⟨l.toArray⟩):=by have:=VP.s (Γ:=Γ) (sh:=sh) (w:=w) _ _ (VS.str (St:=Γ.St) (w:=w) ⟨l.toArray⟩);omega
theorem VP.mk_int(k:IntKind)(n:Int):VP Γ sh w (.s (.int k n)) (.int k n):=.s _ _ (.int k n)
theorem VP.mk_bool(b:Bool):VP Γ sh w (.s (.bool b)) (.bool b):=.s _ _ (.bool b)
theorem VP.mk_tup3{a b c:PV}{U V W:Value}(h:VP Γ sh w a U)(k:VP Γ sh w b V)(l:VP Γ sh w c W):VP Γ sh w (.tup [a,b,c]) (.tuple #[U,V,W]):=
 VP.mk_tup rfl λj hj=>by grind
end
theorem K2{P:Program}{G:GT}{g:Nat}{fn:Func}{k:List PV->Tr}(q:P.funcs[g]? = some fn)(d:fn.body.isSome=true)(t:(fn.name == "runtime.NumGoroutine")=false)
  (h:∀args ret b,K7 (k args)=some (ret,b)->b=[]/\ret.nms=[]/\∀C:Cfg,C.P=P->C.G=G->∀a w c,GOK C a.St w->(∀g,a.St g->g<w.heap.size)->CR a (A2 []) w args c->
   Calls P g c w λe w'=>∃V,e = .returned V/\Below w.heap.size w w'/\VP a (A2 []) w' ret V):C0 P G g k:=by
 intro args ret b i C n m a w c f j r o;obtain⟨rfl,u,l⟩:=h args ret b i;exact Am q d t ((l C n m a w c r j.stlt o).mono λe w' ⟨V,p,d,v⟩=>⟨V,p,B38 f j d v u⟩)
def PV.stab(szs:List Nat)(H:List Blk):PV->PV
 | .tup l=>.tup (Ri szs (M8 H l))
 | v=>Rh (szs.headD 0) (v.snap H)
theorem VP.stab{Γ:Ctx}{H:List Blk}{w:World}(szs:List Nat)(hH:HR Γ H w){v:PV}{V:Value}(h:VP Γ (A2 H) w v V):VP Γ.all (A2 H) w (v.stab szs H) V:=by
 by_cases ht:∃l,v = .tup l
 ·obtain⟨l,rfl⟩:=ht;obtain⟨A,rfl,hA,hc⟩:=h.inv_tup;simp only[PV.stab];have hl:(Ri szs (M8 H l)).length=l.length:=by rw[Vb,Ht,y8]
  refine VP.mk_tup (by rw[hl];exact hA) λj hj=>?_
  obtain⟨U,e,k⟩:=hc j (by omega);refine⟨U,e,?_⟩;have hj':j<(M8 H l).length:=by rw[Ht,y8];omega
  obtain⟨n,en⟩:=HG szs (M8 H l) j hj' hj;rw[en];have e2:(M8 H l)[j]=(l[j]'(by omega)).snap H:=by
   simp only[Ht,x4]
  rw[e2];exact CT (k.snap hH)
 ·have e:v.stab szs H=Rh (szs.headD 0) (v.snap H):=by
   cases v with
   | tup l=>exact absurd ⟨l,rfl⟩ ht
   | _=>rfl
  rw[e];exact CT (h.snap hH)
theorem A89(f:List Blk->PV->PV)(Q:∀{Γ:Ctx} {H:List Blk} {w:World},HR Γ H w->∀{v:PV} {V:Value},VP Γ (A2 H) w v V->VP Γ.all (A2 H) w (f H v) V){C₀:Cfg}{g:Nat}{pf:List PV->Tr}(N:XOK C₀)(L:Jz C₀)(R:C₀.P.follows .mixedOrders=true)
  (h:∀args ret p,K7 (pf args)=some (ret,p)->C7 args=[]/\p=[]/\ret.nms=[]/\∃d c l,evC C₀ d Unit noY g args [] ()=some (c,l,())/\f l c=ret):C0 C₀.P C₀.G g pf:=by
 intro args ret p B C M t Γ w G A K J O;obtain⟨z,rfl,n,d,c,l,u,rfl⟩:=h args ret p B;have I:=Jg (C₀:=C₀) (g:=g) (pf:=λa=>match evC C₀ d Unit noY g a [] () with|some (r,H,_)=>cond (C7 a).isEmpty (.ret r H) .fail|none=>.fail) N L R (λa r H k=>by
  split at k
  ·rename_i U H' _ T;cases F:(C7 a).isEmpty with
   | true=>
    rw[F] at k;simp only[cond_true,K7,Ev,j4,p5] at k;grind
   | false=>rw[F] at k;cases k
  ·cases k)
 refine(I args c l (by dsimp only;rw[u];dsimp only;rw[z];rfl) C M t Γ w G A K J O).mono ?_;rintro V w' ⟨o,D,e,j,S,hvn,x,P⟩;let Γ2:Ctx:={ o.all with nm:=λ_=>none }
 have y:∀g,Γ2.St g->g<w'.heap.size:=λg i=>by
  rcases i with i|⟨b,m⟩
  ·exact j.stlt g i
  ·exact(j.lt b g m).2.1
 refine⟨Γ2,D,⟨e.os,e.tape,e.output,e.size,λg i=>.inl (e.sub g i),λg i=>?_,λb g h=>by simp[Γ2] at h,e.foot,e.frame,e.yv,p9 _,λb m=>by simp at m⟩,
  Lq (λ_=>rfl) y,?_,by rw[n];simp,x,λb g h=>by simp[Γ2] at h⟩
 ·rcases i with i|⟨b,m⟩
  ·exact e.stnew g i
  ·rcases e.own b g m with⟨q,_⟩|q
   ·simp at q
   ·exact .inr q
 ·exact VP.mono (Γ:=o.all) (Γ':=Γ2) (w:=w') (w':=w') (sh:=A2 l) (ok:=λ_=>False) ⟨λ_ _=>rfl,λ_ h=>h,λ_ h=>h.elim,λ_ h=>h.elim,λ_ _ h=>h.elim,rfl⟩ (Q j S) (by rw[n];simp)
theorem I4(b:List Nat){C₀:Cfg}{g:Nat}{f:List PV->Tr}(k:XOK C₀)(j:Jz C₀)(l:C₀.P.follows .mixedOrders=true)
  (h:∀args ret e,K7 (f args)=some (ret,e)->C7 args=[]/\e=[]/\ret.nms=[]/\∃d a c,evC C₀ d Unit noY g args [] ()=some (a,c,())/\a.stab b c=ret):C0 C₀.P C₀.G g f:=
 A89 (λH v=>v.stab b H) (λi _ _ h=>h.stab b i) k j l h
def Tr.Good(szs:List Nat)(args:List PV)(e:Option (PV × List Blk × Unit)):Tr->Prop
 | .ret v H=>C7 args=[]/\H=[]/\v.nms=[]/\∃r H0,e=some (r,H0,())/\r.stab szs H0=v
 | .need c t=>c=true->Good szs args e t
 | .split c a b=>(c=true->Good szs args e a)/\(c=false->Good szs args e b)
 | .fail=>True
theorem Tr.Good.res{szs:List Nat}{args:List PV}{e:Option (PV × List Blk × Unit)}{ret:PV}{Hc:List Blk}:∀{t:Tr},t.Good szs args e->K7 t=some (ret,Hc)->C7 args=[]/\Hc=[]/\ret.nms=[]/\∃r H0,e=some (r,H0,())/\r.stab szs H0=ret
 | .ret v H,h,hr=>by
  obtain⟨rfl,rfl⟩:=I9 hr;exact h
 | .need c t,h,hr=>by
  obtain⟨h0,hr⟩:=C9 hr;exact res (h h0) hr
 | .split c a b,h,hr=>by
  rcases Ce6 hr with⟨h0,hr⟩|⟨h0,hr⟩
  ·exact res (h.1 h0) hr
  ·exact res (h.2 h0) hr
theorem xf(b:List Nat)(a:Cfg){g:Nat}(d:List PV->Tr){e:List (List Nat)}{l:List (Nat × (List PV->Tr))}{c:List Nat}(n:a.X=WW l)(t:K8 a.P a.G l)(p:a.okf=okL c)(m:Ax1 a c=true)(o:a.P.follows .mixedOrders=true)
  (h:∀args,(d args).Good b args (evC a 1 Unit noY g args [] ())) (i:a.Y=Ld []:=by rfl) (j:a.S=Ld []:=by rfl) (k:a.Z=Ld []:=by rfl):C0 a.P a.G g (λargs=>d (D4 e args)):=
 C0.fix e (I4 b (K8.ok n t i j k) (G5 p m) o λargs ret z q=>by
  obtain⟨u,v,w,r,f,x,y⟩:=(h args).res q;exact⟨u,v,w,1,r,f,x,y⟩)
end
section
open Go
def At9(n:Nat)(ret:PV)(H:List Blk):Bool:=ret.nms.all (ah7 · n)&&H.all λb=>b.nms.all (ah7 · n)
theorem Au.head{C:Cfg}{σ:Type}{I:σ->(Nat->Prop)->(Nat->Prop)->World->Prop}{Γ:Ctx}{H Hc T:List Blk}{w w':World}{Φ:Nat->Prop}{s':σ}{ret:PV}{V:Value}
  (h:Au C I Γ H w Φ ret (Hc++T) s' V w') (hl:H.length<=Hc.length) (hok:At9 Hc.length ret Hc=true):Au C I Γ H w Φ ret Hc s' V w':=by
 obtain⟨Γ1,Φ1,hs,hH1,hv,hvn,hi1,hd1⟩:=h;simp only[At9,k9,x3,Nat.blt_eq] at hok;let Γ2:Ctx:={ Γ1 with nm:=λb=>if b<Hc.length then Γ1.nm b else none }
 have hnm:∀b g,Γ2.nm b=some g->b<Hc.length/\Γ1.nm b=some g:=λb g h=>by grind
 have get:∀b (h:b<Hc.length) (h':b<(Hc++T).length),(Hc++T)[b]=Hc[b]:=λb h h'=>ac6 h
 have shp:∀b,b<Hc.length->A2 Hc b=A2 (Hc++T) b:=λb hb=>by
  simp only[A2];grind
 have M:Y9 Γ1 (A2 (Hc++T)) w' Γ2 (A2 Hc) w' (· < Hc.length):=⟨λ_ _=>rfl,λ_ h=>h,λb hb=>by simp only[Γ2];rw[if_pos hb],λb hb=>shp b hb,λ_ _ _ _=>rfl,rfl⟩
 refine⟨Γ2,Φ1,⟨hs.os,hs.tape,hs.output,hs.size,hs.sub,hs.stnew,λb g h=>hs.own b g (hnm b g h).2,hs.foot,hs.frame,hs.yv,hl,λb hb hf=>?_⟩,
  ⟨λb b' g h1 h2=>hH1.inj b b' g (hnm b g h1).2 (hnm b' g h2).2,λb g h=>by have:=hH1.lt b g (hnm b g h).2;exact⟨(hnm b g h).1,this.2⟩,hH1.stlt,λb hb c hc=>hok.2 _ (o5 hb) c hc,λb hb=>?_⟩,
  hv.mono M (λb hb=>hok.1 b hb),λc hc=>hok.1 c hc,hi1,λb g h=>hd1 b g (hnm b g h).2⟩
 ·obtain⟨m1,m2,m3⟩:=hs.keep b hb hf;have hb2:b<Hc.length:=p6 hb hl;exact⟨by simp only[Γ2];rw[if_pos hb2];exact m1,by rw[shp b hb2];exact m2,m3⟩
 ·have hb':b<(Hc++T).length:=by rw[ae5];omega
  have:=hH1.blk b hb';rw[get b hb hb'] at this;exact this.mono M (M.nm b hb) (λ_ _=>rfl) (λc hc=>hok.2 _ (o5 hb) c hc)
theorem Ft{C₀:Cfg}{g:Nat}{n:List PV->List Blk->Tr}(x:XOK C₀)(u:Jz C₀)(F:C₀.P.follows .mixedOrders=true)
  (h:∀args H ret a,K7 (n args H)=some (ret,a)->w9 H.length a.length=true/\At9 a.length ret a=true/\∀(b:Type) (f:Yh b) (s:b),∃d c,evC C₀ d b f g args H s=some (ret,c,s)/\c.take a.length=a):Ud C₀.P C₀.G g n:=by
 intro C v q b I f S t M args H s ret a j T U w o k r A B z y G;obtain⟨D,i,p⟩:=h args H ret a j;obtain⟨d,c,e,L⟩:=p b f s;rw[<-List.take_append_drop a.length c,L] at e;refine(Kk x u F d b I f S t M g args H s ret (a++c.drop a.length) s e T U w o k r (A.congr q.symm) B z y G).mono ?_;rintro V w' J;obtain⟨l,m,K,N,O,P,Q,R⟩:=J.head (Nat.le_of_ble_eq_true D) i;exact⟨l,m,K.congr v.symm,N,O,P,Q,R⟩
def FS(P:Program):List (Nat × (SV->List (List SV)->Bool × List (List SV)))->Prop
 | []=>True
 | (g,a)::r=>YF P g a/\FS P r
theorem FS.mem{P:Program}:∀{l:List (Nat × (SV->List (List SV)->Bool × List (List SV)))} {g:Nat} {pf:SV->List (List SV)->Bool × List (List SV)},FS P l->(g,pf)∈l->YF P g pf
 | [],_,_,_,hm=>by simp at hm
 | (n,q)::r,g,pf,h,hm=>by
  rcases y9.1 hm with e|hm
  ·cases e;exact h.1
  ·exact FS.mem h.2 hm
theorem Dg8{C:Cfg}{lx:List (Nat × (List PV->Tr))}{ly:List (Nat × (List PV->List Blk->Tr))}{ls:List (Nat × (List PV->List Blk->Option (Bool × List (List PV))))}{lz:List (Nat × (SV->List (List SV)->Bool × List (List SV)))}(a:C.X=WW lx)(b:C.Y=Ld ly)(c:C.S=Ld ls)(d:C.Z=Ld lz)(x:K8 C.P C.G lx)(y:Jj C.P C.G ly)(s:Ji C.P C.G ls)(z:FS C.P lz):XOK C:=
 ⟨K8.x1 a x,Jj.ok b y,Ji.ok c s,λg e h=>by rw[d] at h;exact z.mem (Xb h)⟩
def Gs:List Int:=(ag2 32).map λi=>((if i % 2=0 then Lib.accLo (i / 2) else Lib.accHi (i / 2):Nat):Int)
def GX:GT:=⟨λg=>cond (x7 g 1) (some (.u8,ae6)) (cond (x7 g 2) (some (.u8,Gs)) (cond (x7 g 3) (some (.u64,ae7)) (cond (x7 g 5) (some (.u8,ac4.map λn:Nat=>(n:Int))) none))),λg=>x7 g 0⟩
def Df5:List (Nat × Nat × Nat × Nat)->Nat->Nat->Nat × Nat
 | [],_,_=>(0,0)
 | (t,j,e,k)::r,b,a=>cond (x7 t b&&x7 j a) (e,k) (Df5 r b a)
def C37:List (Nat × Nat)->Nat->Option Nat
 | [],_=>none
 | (a,b)::r,i=>cond (x7 a i) (some b) (C37 r i)
noncomputable def C8(g:Nat)(f:List Nat)(d:Nat->Option (List Nat))(X:List (Nat × (List PV->Tr)))(b:Nat->Option (List Nat):=λ_=>none)(h:List Nat:=[])(a:Nat->Option (List Nat):=λ_=>none)(c:Option (List Nat):=none)(Y:List (Nat × (List PV->List Blk->Tr)):=[])(S:List (Nat × (List PV->List Blk->Option (Bool × List (List PV)))):=[])(e:List Nat:=[])(nt:List (Nat × Nat × Nat × Nat):=[])(rw:List (Nat × Nat):=[])(Z:List (Nat × (SV->List (List SV)->Bool × List (List SV))):=[])(i:List (Nat × List Nat × List Nat):=[])(j:List Nat:=[]):Cfg:=
 { P:=j7,G:=GX,X:=WW X,lend:=okL e,okf:=okL f,lf:=g,keep:=d,keepR:=b,xp:=okL h,keepE:=a,keepT:=c,Y:=Ld Y,S:=Ld S,nilT:=Df5 nt,rowR:=C37 rw,Z:=Ld Z,farR:=A4 i,stab:=okL j }
theorem follows:j7.follows .mixedOrders=true:=by kernel_rfl
theorem Bs6{n:Nat}:F8 n=true↔n<=68719476736:=by simp[F8]
theorem F3{n:Nat}(h:n<=68719476736):F8 n=true:=Bs6.2 h
theorem D1{a b:Int}(h:a<b):ltI a b=true:=by rw[Ac];simpa using h
theorem F1{a b:Int}(h:b<=a):ltI a b=false:=by rw[Ac];simpa using h
theorem Qm{a b:Int}:ltI a b=true↔a<b:=by rw[Ac];simp
theorem Vr{a b:Int}:ltI a b=false↔b<=a:=by rw[Ac];simp
theorem F5{n:Int}(a:-9223372036854775808<=n)(b:n<9223372036854775808):A1 n=n:=Cy9 n a b
theorem XH{n:Int}(a:0<=n)(b:n<18446744073709551616):Da3 n=n:=by obtain⟨m,rfl⟩:=x9 a;unfold Da3;rw[Cz1,p4 (by omega)]
theorem Bh9{n:Int}(a:0<=n)(b:n<4294967296):Ch5 n=n:=by obtain⟨m,rfl⟩:=x9 a;unfold Ch5;rw[Cz0,p4 (by omega)]
theorem Bh8{n:Int}(a:0<=n)(b:n<65536):Ib n=n:=by obtain⟨m,rfl⟩:=x9 a;unfold Ib;rw[Bh7,p4 (by omega)]
theorem XI{n:Int}(a:0<=n)(b:n<256):wu8 n=n:=by obtain⟨m,rfl⟩:=x9 a;unfold wu8;rw[Da2,p4 (by omega)]
theorem A8{a b:Int}(h:a<b:=by omega):ltI a b=true:=D1 h
theorem A6{a b:Int}(h:b<=a:=by omega):ltI a b=false:=F1 h
theorem A5{n:Int}(h:-9223372036854775808<=n:=by omega)(g:n<9223372036854775808:=by omega):A1 n=n:=F5 h g
theorem JW{n:Int}(h:0<=n:=by omega)(g:n<4294967296:=by omega):Ch5 n=n:=Bh9 h g
theorem Pr{n:Int}(h:0<=n:=by omega)(g:n<65536:=by omega):Ib n=n:=Bh8 h g
theorem R2{n:Int}(h:0<=n:=by omega)(g:n<256:=by omega):wu8 n=n:=XI h g
theorem Aj{d:Sort _}{c:Prop}[Decidable c]{a b:d}(h:c:=by omega):(if c then a else b)=a:=if_pos h
theorem J4{d:Sort _}{c:Prop}[Decidable c]{a b:d}(h:¬c:=by omega):(if c then a else b)=b:=if_neg h
theorem Ch4(n:Nat):Ib (n:Int)=((n % 65536:Nat):Int):=Bh7 n
theorem Wv(k:IntKind)(a m:Nat)(h:m<=k.bits):Rl k (a:Int) (m:Int)=((a / 2 ^ m:Nat):Int):=by
 unfold Rl;rw[Int.toNat_natCast,Nat.min_eq_left h];have:(2:Int) ^ m=((2 ^ m:Nat):Int):=by simp
 rw[this,B51]
theorem Cf2{n:Nat}(h:n<256):[SV.int .u8 (n:Int)]=F0 (x8 n):=by rw[A65,p4 h]
theorem W0{l h:Int}{n:Nat}(a:0<=l)(b:l<=h)(c:h<=n):K5 l h n=true:=by simp[K5,a,b,c]
theorem L1{i:Int}{n:Nat}(a:0<=i)(b:i<n):inR i n=true:=by simp[inR,a,b]
theorem Q3{l h:Int}{n:Nat}(a:0<=l:=by omega)(b:l<=h:=by omega)(c:h<=n:=by omega):K5 l h n=true:=W0 a b c
theorem J1{i:Int}{n:Nat}(a:0<=i:=by omega)(b:i<n:=by omega):inR i n=true:=L1 a b
end
section
open Go Go.Proofs
def Wl(r:Option (PV × List Blk × Unit)):Bool:=match r with
 | some (.s (.bool true),_,_)=>true
 | _=>false
theorem VW{r:Option (PV × List Blk × Unit)}(h:Wl r=true):∃H,r=some (.s (.bool true),H,()):=by
 unfold Wl at h;split at h
 ·exact⟨_,rfl⟩
 ·cases h
theorem A90{C₀:Cfg}{g d:Nat}(f:XOK C₀)(c:Jz C₀)(i:C₀.P.follows .mixedOrders=true)(h:Wl (evC C₀ d Unit noY g [] [] ())=true):C0 C₀.P C₀.G g (λargs=>match args with|[]=>.ret (.s (.bool true)) []|_=>.fail):=
 XL f c i λargs ret j b=>by
  cases args with
  | nil=>
   obtain⟨rfl,rfl⟩:=I9 b;obtain⟨H,e⟩:=VW h;exact⟨rfl,rfl,rfl,d,_,H,e,rfl⟩
  | cons a r=>cases b
end
section
open Go
def C1(l:List By):LL:=l.map λs=>[SV.str s]
def G2(l:List Nat):LL:=l.map λn=>[SV.int .u16 (Int.ofNat n)]
def M6(c:UInt8):By->By->List By
 | a,[]=>[a]
 | a,b::r=>if b=c then a::M6 c [] r else M6 c (a++[b]) r
def pcs(c:UInt8)(s:By):List By:=M6 c [] s
theorem Jd(c:UInt8):∀(s a:By),(M6 c a s).length=s.count c+1
 | [],a=>rfl
 | b::r,a=>by
  simp only[M6,List.count_cons];by_cases h:b=c
  ·simp[h,Jd c r]
  ·simp[h,Jd c r]
theorem Wz(c:UInt8):∀(s a:By),c∉s->M6 c a s=[a++s]
 | [],a,_=>by simp[M6]
 | b::r,a,h=>by
  simp only[y9,not_or] at h;simp only[M6];rw[if_neg (λe=>h.1 e.symm),Wz c r _ h.2];simp
theorem BX(c:UInt8):∀(p a s:By),c∉p->M6 c a (p++c::s)=(a++p)::M6 c [] s
 | [],a,s,_=>by simp[M6]
 | b::r,a,s,h=>by
  simp only[y9,not_or] at h;simp only[ac9,M6];rw[if_neg (λe=>h.1 e.symm),BX c r _ s h.2];simp
theorem A51(c:UInt8)(s a:By):M6 c a s≠[]:=by intro h;have:=Jd c s a;rw[h] at this;simp at this
theorem Pl(c:UInt8):∀(s a:By),c∉a->∀x∈M6 c a s,c∉x/\x.length<=a.length+s.length
 | [],a,h,x,d=>by
  simp only[M6,List.mem_singleton] at d;subst d;exact⟨h,by simp⟩
 | b::r,a,h,x,d=>by
  simp only[M6] at d;split at d
  ·rcases y9.1 d with rfl|d
   ·exact⟨h,by simp⟩
   ·have:=Pl c r [] (by simp) x d;refine⟨this.1,?_⟩;have:=this.2;simp at this ⊢;omega
  ·rename_i e;have:=Pl c r (a++[b]) (by simp[h,Ne.symm e]) x d;refine⟨this.1,?_⟩;have:=this.2;simp at this ⊢;omega
def Cn(b:UInt8):UInt8:=if 65<=b/\b<=90 then b+32 else b
def D3(s:By):By:=s.map Cn
def dig(b:UInt8):Nat:=
 if 48<=b.toNat/\b.toNat<=57 then b.toNat-48 else if 97<=b.toNat/\b.toNat<=102 then b.toNat-87 else if 65<=b.toNat/\b.toNat<=70 then b.toNat-55 else 99
def Co:Nat:=1099511627776
def E9(base:Nat):Nat->By->Option Nat
 | n,[]=>some n
 | n,b::r=>if dig b<base then E9 base (min (n*base+dig b) Co) r else none
def Bx(s:By):Bool:=s.getD 0 0==48&&(s.getD 1 0==120||s.getD 1 0==88)
def Ak(s:By):Option Nat:=
 if s=[] then none else if Bx s then E9 16 0 (s.drop 2) else if 1<s.length/\s.getD 0 0=48 then E9 8 0 (s.drop 1) else E9 10 0 s
def E4(s:By):List By:=if 1<(pcs 46 s).length/\(pcs 46 s).getLastD []=[] then (pcs 46 s).dropLast else pcs 46 s
def Kp(s:By):By:=(E4 s).getLastD []
def L2(s:By):Bool:=if Bx (Kp s) then (E9 16 0 ((Kp s).drop 2)).isSome else !(Kp s).isEmpty&&(E9 10 0 (Kp s)).isSome
def Zv(free:Nat):Nat->List By->Option Nat
 | _,[]=>none
 | v,p::r=>match Ak p with
  | none=>none
  | some n=>match r with
   | []=>if n<2 ^ free then some (v*2 ^ free+n) else none
   | r=>if n<=255 then Zv free (v*256+n) r else none
def pnB(s:By):Option Nat:=if 4<(E4 s).length then none else Zv (8*(5-(E4 s).length)) 0 (E4 s)
def oct(s:By):Option Nat:=match E9 10 0 s with
 | some n=>if n<=255/\o6 n=s then some n else none
 | none=>none
def Ac8:Nat->List By->Option Nat
 | v,[]=>some v
 | v,p::r=>match oct p with
  | some n=>Ac8 (v*256+n) r
  | none=>none
def v4B(s:By):Option Nat:=if (pcs 46 s).length=4 then Ac8 0 (pcs 46 s) else none
def Hx(v:Nat):By:=o6 (v / 16777216)++46::(o6 (v / 65536 % 256)++46::(o6 (v / 256 % 256)++46::o6 (v % 256)))
def Vf:Nat->By->Option Nat
 | n,[]=>some n
 | n,b::r=>if dig b<16 then Vf (n*16+dig b) r else none
def grp(s:By):Option Nat:=if s=[]\/4<s.length then none else Vf 0 s
def Oq(last:Bool):List By->Option (List Nat)
 | []=>some []
 | x::r=>match grp x with
  | some v=>(Oq last r).map (v::·)
  | none=>match v4B x with
   | some v=>if last=true/\r=[] then some [v / 65536,v % 65536] else none
   | none=>none
def Ec(s:By)(last:Bool):Option (List Nat):=if s=[] then some [] else Oq last (pcs 58 s)
def v6B(s:By):Option (List Nat):=
 match Ec (x6 s [58,58]).1 (!(x6 s [58,58]).2.2),Ec (x6 s [58,58]).2.1 true with
 | some x,some y=>if (x6 s [58,58]).2.2 then (if x.length+y.length<=7 then some (x++j6 (8-x.length-y.length) 0++y) else none)
   else if x.length+y.length=8 then some (x++y) else none
 | _,_=>none
def Pj(l:List Nat):Nat:=(l.takeWhile (· == 0)).length
def zGo:List Nat->Nat->Nat->Nat->Nat × Nat
 | [],_,z,m=>(z,m)
 | x::r,i,z,m=>if m<Pj (x::r) then zGo r (i+1) i (Pj (x::r)) else zGo r (i+1) z m
def Rj(n:Nat):UInt8:=if n<10 then x8 (48+n) else x8 (87+n)
def R7(v:Nat):By:=if h:v<16 then [Rj v] else R7 (v / 16)++[Rj (v % 16)]
 termination_by v
 decreasing_by omega
def T2(l:List Nat):By:=ae0 (l.map R7) [58]
def Nl(a:List Nat):By:=if (zGo a 0 0 0).2<2 then T2 a else T2 (a.take (zGo a 0 0 0).1)++58::58::T2 (a.drop ((zGo a 0 0 0).1+(zGo a 0 0 0).2))
def U7(n:Nat):Bool:=w9 n 1114111&&(ah7 n 55296||ah7 57343 n)
def Yl(d k:Nat):Nat:=if h:455<d then Yl (d / 35) (k+36) else k+36*d / (d+38)
 termination_by d
 decreasing_by omega
def P9(delta count:Nat)(first:Bool):Nat:=
 let d:=if first then delta / 700 else delta / 2
 Yl (d+d / count) 0
def thr(k a:Nat):Nat:=max 1 (min 26 (36*(k+1)-a))
theorem V5(k a:Nat):1<=thr k a/\thr k a<=26:=by unfold thr;omega
def Ah(d:Nat):UInt8:=if d<26 then x8 (97+d) else x8 (22+d)
def Nm(b:UInt8):Option Nat:=
 if 97<=b.toNat/\b.toNat<=122 then some (b.toNat-97) else if 65<=b.toNat/\b.toNat<=90 then some (b.toNat-65) else if 48<=b.toNat/\b.toNat<=57 then some (b.toNat-22) else none
def P2(q k a:Nat):By:=
 if h:q<thr k a then [Ah q] else Ah (thr k a+(q-thr k a) % (36-thr k a))::P2 ((q-thr k a) / (36-thr k a)) (k+1) a
 termination_by q
 decreasing_by
  have:=V5 k a;exact Nat.lt_of_le_of_lt (Nat.div_le_self _ _) (by omega)
structure OM where
 delta:Nat
 bias:Nat
 done:Nat
 out:By
def I7(n a:Nat):List Nat->OM->OM
 | [],s=>s
 | p::r,s=>if p<n then I7 n a r { s with delta:=s.delta+1 }
  else if p=n then I7 n a r { delta:=0,bias:=P9 s.delta (s.done+1) (s.done==a),done:=s.done+1,out:=s.out++P2 s.delta 0 s.bias }
  else I7 n a r s
def I6(n:Nat):List Nat->Nat->Nat
 | [],m=>m
 | p::r,m=>I6 n r (if n<=p then min m p else m)
def Q5(b:List Nat)(a:Nat):Nat->Nat->OM->OM
 | 0,_,s=>s
 | f+1,n,s=>if s.done<b.length then
   let m:=I6 n b 1114112;let c:=I7 m a b { s with delta:=s.delta+(m-n)*(s.done+1) }
   Q5 b a f (m+1) { c with delta:=c.delta+1 }
  else s
def J0(a:List Nat):By:=(a.filter (· < 128)).map x8
def Fc(a:List Nat):By × Nat:=
 if 256<a.length then ([],3) else if !(a.all U7) then ([],2)
 else ((Q5 a (J0 a).length 256 128 { delta:=0,bias:=72,done:=(J0 a).length,out:=if (J0 a).isEmpty then [] else J0 a++[45] }).out,0)
def E1(a:Nat):By->Nat->Nat->Nat->Nat × By × Nat
 | [],i,w,k=>(0,[],4)
 | b::r,i,w,k=>match Nm b with
  | none=>(0,[],4)
  | some x=>if Co<i+x*w then (0,[],19) else if x<thr k a then (i+x*w,r,0)
   else if Co<w*(36-thr k a) then (0,[],19) else E1 a r (i+x*w) (w*(36-thr k a)) (k+1)
theorem Qf(a:Nat):∀(s:By) (i w k:Nat),(E1 a s i w k).2.2=0->(E1 a s i w k).2.1.length<s.length
 | [],i,w,k,h=>by simp[E1] at h
 | b::r,i,w,k,h=>by
  unfold E1 at h ⊢;cases d:Nm b with
  | none=>simp[d] at h
  | some x=>
   simp only[d] at h ⊢;split at h
   ·simp at h
   ·rename_i e;rw[if_neg e];split at h
    ·rename_i c;rw[if_pos c];simp
    ·rename_i c;rw[if_neg c];split at h
     ·simp at h
     ·rename_i f;rw[if_neg f];have:=Qf a r _ _ _ h;simp only[List.length_cons];omega
def U6(l:List Nat)(i n:Nat):List Nat:=l.take i++n::l.drop i
def I5(s:By)(b:List Nat)(n i a:Nat)(first:Bool):List Nat × Nat:=
 if e:s=[] then (b,0) else
  let q:=E1 a s i 1 0
  if d:q.2.2=0 then
   let count:=b.length+1;let c:=n+q.1 / count
   if U7 c then (if 256<count then ([],3) else I5 q.2.1 (U6 b (q.1 % count) c) c (q.1 % count+1) (P9 (q.1-i) count first) false)
   else ([],2)
  else ([],q.2.2)
 termination_by s.length
 decreasing_by exact Qf a s i 1 0 d
def H4:By->Nat
 | []=>0
 | b::r=>if 45∈r then H4 r+1 else 0
def N4(s:By):List Nat × Nat:=
 if 1024<s.length then ([],3) else if s.any (λb=>w9 128 b.toNat) then ([],4)
 else if 256<H4 s then ([],3)
 else I5 (if H4 s=0 then s else s.drop (H4 s+1)) ((s.take (H4 s)).map (·.toNat)) 128 0 72 true
def Z8:Nat->By->Option (List Nat)
 | 0,_=>some []
 | f+1,l=>if l=[] then some [] else if (ad9 l).1=65533/\(ad9 l).2=1 then none else (Z8 f (l.drop (ad9 l).2)).map ((ad9 l).1::·)
def Hn(s:By):Option (List Nat):=Z8 s.length s
def Dn(s:By):Bool:=
 (N4 s).2==0&&!((N4 s).1.any λp=>w9 65 p&&w9 p 90)&&((N4 s).1.any λp=>w9 128 p)&&(Fc (N4 s).1).2==0&&(Fc (N4 s).1).1==s
def T8(b:UInt8):Bool:=(w9 97 b.toNat&&w9 b.toNat 122)||(w9 48 b.toNat&&w9 b.toNat 57)||b==45||b==95
def xnB:By:=[120,110,45,45]
def N9(s:By):Bool:=
 !s.isEmpty&&w9 s.length 63&&s.getD 0 0 !=45&&s.getD (s.length-1) 0 !=45&&s.all T8&&(!(xnB.isPrefixOf s)||Dn (s.drop 4))
def T3(s:By):By × Nat:=match Hn s with
 | none=>([],4)
 | some p=>if 256<p.length then ([],3)
  else if p.length<s.length then (match Hn (D3 s) with
   | none=>([],14)
   | some q=>if (Fc q).2=0 then (if N9 (xnB++(Fc q).1) then (xnB++(Fc q).1,0) else ([],14)) else ([],14))
  else if N9 (D3 s) then (D3 s,0) else ([],14)
def Ce:By->Option By
 | []=>some []
 | b::r=>if b=37 then (match r with
   | x::y::a=>if dig x<16/\dig y<16 then (Ce a).map (x8 (16*dig x+dig y)::·) else none
   | _=>none)
  else (Ce r).map (b::·)
structure C3 where
 kind:Nat
 name:By
 v4:Nat
 v6:List Nat
 deriving DecidableEq
def z8:List Nat:=[0,0,0,0,0,0,0,0]
def P5:C3:=⟨0,[],0,z8⟩
def M5:List By->List By × Nat
 | []=>([],0)
 | x::r=>if (T3 x).2=0 then ((T3 x).1::(M5 r).1,(M5 r).2) else ([],(T3 x).2)
def P6(s:By):By:=if s.getLast? = some 46 then s.dropLast else s
def J6(s:By):C3 × Nat:=
 if 1024<s.length then (P5,3)
 else if s.head? = some 91 then (if s.getLast? = some 93/\2<=s.length then (match v6B ((s.take (s.length-1)).drop 1) with
   | some a=>(⟨3,[],0,a⟩,0)
   | none=>(P5,14)) else (P5,14))
 else match Ce s with
  | none=>(P5,14)
  | some t=>if L2 (P6 t) then (match pnB (P6 t) with
    | some v=>(⟨2,[],v,z8⟩,0)
    | none=>(P5,14))
   else if (M5 (pcs 46 (P6 t))).2=0 then (
    let name:=ae0 (M5 (pcs 46 (P6 t))).1 [46]
    if 253<name.length then (P5,3) else if L2 name then (P5,14) else (⟨1,name,0,z8⟩,0))
   else (P5,(M5 (pcs 46 (P6 t))).2)
def Af(s:By):Bool:=w9 s.length 253&&!(L2 s)&&(pcs 46 s).all N9
def N2(h:C3):Bool:=
 if h.kind=1 then Af h.name&&h.v4==0&&h.v6==z8 else if h.kind=2 then h.name.isEmpty&&h.v6==z8 else if h.kind=3 then h.name.isEmpty&&h.v4==0 else false
def Ai(h:C3):By:=if N2 h then (if h.kind=1 then h.name else if h.kind=2 then Hx h.v4 else 91::(Nl h.v6++[93])) else []
def Ur(a b:By):Bool:=Af a&&Af b&&(a==b||(46::a).isSuffixOf b)
def A3(n:Nat):Bool:=decide (n<=1000000000)
theorem NZ{n:Nat}:A3 n=true↔n<=1000000000:=by simp[A3]
def isS:List SV->Bool|[.str _]=>true|_=>false
def elS(a:List SV):By:=(a.getD 0 .nilp).gS
def Ad(o:Option Nat):Nat:=o.getD 0
def u8n(c:Int):UInt8:=x8 c.toNat
def WX(s p:By):By:=if p.isSuffixOf s then s.take (s.length-p.length) else s
def Hb(s p:By):By:=if p.isPrefixOf s then s.drop p.length else s
def ltN(v:Int)(n:Nat):Bool:=match v with
 | .ofNat m=>w9 (m+1) n
 | .negSucc _=>false
theorem D9{v:Int}{n:Nat}:ltN v n=true↔0<=v/\v<(n:Int):=by
 cases v with
 | ofNat m=>
  simp only[ltN,Nat.ble_eq,Int.ofNat_eq_natCast];omega
 | negSucc m=>
  refine⟨λh=>(by cases h),λh=>?_⟩;have:=Int.negSucc_lt_zero m;omega
def No(n:Int):Bool:=ltN (n+9223372036854775808) 18446744073709551616
theorem HQ{n:Int}:No n=true↔-9223372036854775808<=n/\n<9223372036854775808:=by unfold No;rw[D9];constructor<;>rintro⟨a,b⟩<;>constructor<;>omega
def Ic(b:Nat):List PV->Tr
 | [.s (.int .i64 n)]=>.need (ltN n b) (.ret (.s (.str (o6 (j0 n)))) [])
 | _=>.fail
def Lk(b:Nat)(args:List PV):Tr:=Ic b (D4 [[0]] args)
def gvs(s:By)(last:Bool):List Nat:=(Ec s last).getD []
def v6c(i:Nat)(s:By):Nat:=((v6B s).getD z8).getD i 0
def n8(a b c d e f g h:Int):List Nat:=[a.toNat,b.toNat,c.toNat,d.toNat,e.toNat,f.toNat,g.toNat,h.toNat]
def ok8(a b c d e f g h:Int):Bool:=[a,b,c,d,e,f,g,h].all λx=>ltN x 65536
def Vo:List SV->Bool|[.int .u16 n]=>ltN n 65536|_=>false
def elN(a:List SV):Nat:=(a.getD 0 .nilp).gI.toNat
def ptI(n:Int):Bool:=match n with | .ofNat m=>U7 m | .negSucc _=>false
def E3(b:UInt8):Int:=match Nm b with|some n=>n|none=>-1
def L6(k b:Int):Int:=max 1 (min 26 (k+36-b))
def Ou:List SV->Bool|[.int .i64 _]=>true|_=>false
def elI(a:List SV):Int:=(a.getD 0 .nilp).gI
def X7(l:List Int):By × Nat:=if 256<l.length then ([],3) else if l.all ptI then Fc (l.map j0) else ([],2)
def T1(b:Int):By->Int->Int->Int->Int × By × Int
 | [],i,w,k=>(4,[],i)
 | c::r,i,w,k=>if E3 c<0 then (4,c::r,i) else if 1099511627776<i+E3 c*w then (19,r,i+E3 c*w)
  else if E3 c<L6 k b then (0,r,i+E3 c*w) else if 1099511627776<w*(36-L6 k b) then (19,r,i+E3 c*w)
  else T1 b r (i+E3 c*w) (w*(36-L6 k b)) (k+36)
def IK(b:Int)(s:By)(i:Int):Int:=(T1 b s i 1 0).1
def IM(b:Int)(s:By)(i:Int):By:=(T1 b s i 1 0).2.1
def Th(b:Int)(s:By)(i:Int):Int:=(T1 b s i 1 0).2.2
def Me(l:List (List SV))(i:Nat)(n:Int):List (List SV):=l.take i++[SV.int .i64 n]::l.drop i
structure DS where
 rest:By
 n:Int
 i:Int
 b:Int
 st:Bool
 l:List (List SV)
def F2(s:DS):Int × DS:=
 if IK s.b s.rest s.i=0 then
  let c:Int:=s.l.length+1;let x:=Th s.b s.rest s.i;let d:DS:={ rest:=IM s.b s.rest s.i,n:=s.n+aa6 x c,i:=z7 x c,b:=P9 (x-s.i).toNat c.toNat (!s.st),st:=true,l:=s.l }
  if ptI d.n then (if 256<c then (3,d) else (0,{ d with i:=d.i+1,l:=Me s.l d.i.toNat d.n })) else (2,d)
 else (IK s.b s.rest s.i,{ s with rest:=IM s.b s.rest s.i,i:=Th s.b s.rest s.i })
def L7(c:UInt8):By->Int
 | []=>-1
 | b::r=>if L7 c r<0 then (if b=c then 0 else -1) else L7 c r+1
def Zt(l:List Nat):List (List SV):=l.map λx:Nat=>[SV.int .i64 (x:Int)]
def Cu7(s:By):List Nat:=(Hn s).getD []
def Om(b:UInt8):Int:=if dig b<16 then dig b else -1
def Ax8(s:By):By:=(Ce s).getD []
def Q8(s:By):C3 × Nat:=if s.getLast? = some 93/\2<=s.length then (match v6B ((s.take (s.length-1)).drop 1) with
 | some a=>(⟨3,[],0,a⟩,0)
 | none=>(P5,14)) else (P5,14)
def mkH(b:Int)(c:By)(v4:Int)(a:List Nat):C3:=⟨if ltN b 4 then b.toNat else 0,c,v4.toNat,a⟩
def Er(n:Int)(l:List By):Bool:=l.all λs=>!(ltI n (s.length:Int))
def B69(s:By):Bool:=([91]:By).isPrefixOf s
attribute [simp] D1 F1 F5 XH Bh9 Bh8 XI W0 L1 F3
attribute [simp] vl
@[simp] theorem E5{n:Nat}(h:n<=1000000000):A3 n=true:=NZ.2 h
@[simp] theorem BG{v:Int}{n:Nat}(h:0<=v)(a:v<n):ltN v n=true:=D9.2 ⟨h,a⟩
theorem U2{n:Nat}(h:n<=1000000000:=by omega):A3 n=true:=E5 h
theorem M0{v:Int}{n:Nat}(h:0<=v:=by omega)(g:v<n:=by omega):ltN v n=true:=BG h g
@[simp] theorem J8{m n:Nat}(h:m+n<4611686018427387904):J7 m n=true:=by simp[J7,h]
abbrev rv(v:PV)(H:List Blk):Option (PV × List Blk × Unit):=some (v,H,())
theorem N5{n:Nat}(h:A3 n=true):n<=1000000000:=NZ.1 h
theorem I8(s:By)(i:Nat)(h:i<s.length):s.drop i=s.getD i 0::s.drop (i+1):=by rw[o0,j1 h,Option.getD_some,List.getElem_cons_drop]
theorem OE(s:By)(i:Nat)(h:i<s.length):s.take (i+1)=s.take i++[s.getD i 0]:=by rw[List.take_add_one,o0,j1 h];rfl
theorem Av7(s:By)(i:Nat)(h:i<s.length):(D3 (s.take (i+1))).map F0=(D3 (s.take i)).map F0++[F0 (Cn (s.getD i 0))]:=by unfold D3;rw[OE s i h,ab9,ab9];rfl
theorem X9(b:UInt8):(b.toNat<65/\Cn b=b)\/(90<b.toNat/\Cn b=b)\/(65<=b.toNat/\b.toNat<=90/\((Cn b).toNat=b.toNat+32)):=by
 unfold Cn;by_cases a:b.toNat<65
 ·refine .inl ⟨a,if_neg ?_⟩;intro h;have:=ab1.1 h.1;simp at this;omega
 ·by_cases c:90<b.toNat
  ·refine .inr (.inl ⟨c,if_neg ?_⟩);intro h;have:=ab1.1 h.2;simp at this;omega
  ·refine .inr (.inr ⟨by omega,by omega,?_⟩);rw[if_pos (by constructor<;>(rw[ab1];simp;omega)),UInt8.toNat_add];simp;omega
@[simp] theorem G8(s:By)(i:Nat):bAt s (i:Int)=((s.getD i 0).toNat:Int):=by simp[bAt]
@[simp] theorem Kb(s:By):bAt s 0=((s.getD 0 0).toNat:Int):=by simp[bAt]
@[simp] theorem Bb5(s:By):bAt s 1=((s.getD 1 0).toNat:Int):=by simp[bAt]
theorem Fa{c:Type}(s:List c)(a b:Nat):cut s (a:Int) (b:Int)=(s.take b).drop a:=by simp[cut]
@[simp] theorem Z2{b:Type}(s:List b)(a:Int):cut s a (s.length:Int)=s.drop a.toNat:=by simp[cut]
@[simp] theorem X6{a:Type}(s:List a)(b:Int):cut s 0 b=s.take b.toNat:=by simp[cut]
@[simp] theorem C4(l:List By):(C1 l).length=l.length:=by simp[C1]
@[simp] theorem W4(l:List By)(i:Nat):gX (C1 l) i 0=l.getD i []:=by
 unfold gX gC C1;by_cases h:i<l.length
 ·simp[o0,j1 h,SV.gS]
 ·simp[o0,v7 (show l.length<=i by omega),SV.gS]
@[simp] theorem R1{l:List By}{i:Nat}(h:i<l.length):okE Ia (C1 l) i 0=true:=by unfold okE C1;simp[o0,j1 h,h,Ia,okS,SV.has]
theorem Eh(a b:List By):C1 (a++b)=C1 a++C1 b:=by simp[C1]
theorem Mw(b:UInt8):u8n (b.toNat:Int)=b:=by simp[u8n]
theorem A64(b:UInt8):inR (b.toNat:Int) 256=true:=by have:=b.toNat_lt;exact J1
theorem C40{a b:UInt8}:((a.toNat:Int)==(b.toNat:Int))=(a==b):=by
 rw[ad5];simp only[beq_iff_eq];constructor
 ·intro h;exact UInt8.toNat_inj.1 (by omega)
 ·intro h;rw[h]
theorem Y6(a:UInt8)(n:Nat)(h:n<256):((a.toNat:Int)==(n:Int))=(a==x8 n):=by rw[<-C40];simp[p4 h]
theorem Eo(p s:By):p.isPrefixOf s=(decide (p.length<=s.length)&&(s.take p.length==p)):=by
 rw[ad5];simp only[List.isPrefixOf_iff_prefix,k9,decide_eq_true_eq,beq_iff_eq];constructor
 ·intro h;exact⟨h.length_le,(ad0.1 h).symm⟩
 ·rintro⟨_,h⟩;exact ad0.2 h.symm
theorem Nf(p s:By):p.isSuffixOf s=(decide (p.length<=s.length)&&(s.drop (s.length-p.length)==p)):=by
 rw[ad5];simp only[List.isSuffixOf_iff_suffix,k9,decide_eq_true_eq,beq_iff_eq];constructor
 ·intro h;exact⟨h.length_le,(ad1.1 h).symm⟩
 ·rintro⟨_,h⟩;exact ad1.2 h.symm
end
section
open Go Go.ChangeAt Go.ChangeShapes Go.Proofs Go.RowKit Go.WideShapes
set_option maxRecDepth 100000
theorem own:ownKnob j7.godebug=none:=by kernel_rfl
theorem Cr2:laidOutB j7=true:=by kernel_rfl
noncomputable def gTy(g:Nat):Nat:=match j7.globals[g]? with|some x=>x.type|none=>0
noncomputable def dbT:Nat:=gTy 5
noncomputable def Cu5:Nat:=gTy 3
noncomputable def RE:Nat:=gTy 2
noncomputable def Co2:Nat:=gTy 1
noncomputable def RD:Nat:=match j7.underlying RE with|some (.array _ e)=>e|_=>0
noncomputable def Yk:Array Field:=match j7.underlying RD with|some (.struct a)=>a|_=>#[]
noncomputable def LD:Field:=match Yk.toList with|a::_=>a|_=>default
noncomputable def LE:Field:=match Yk.toList with|_::a::_=>a|_=>default
theorem C46:Yk[0]? = some LD:=by unfold LD Yk RD RE gTy;kernel_rfl
theorem C47:Yk[1]? = some LE:=by unfold LE Yk RD RE gTy;kernel_rfl
def Eu:List (String × DataW Unit):=[("math/bits.deBruijn32tab", Rows.laid_math_bits_deBruijn32tab), ("math/bits.deBruijn64tab", Rows.laid_math_bits_deBruijn64tab), ("internal/strconv.uint64pow10", Rows.laid_internal_strconv_uint64pow10), ("unicode/utf8.acceptRanges", Rows.laid_unicode_utf8_acceptRanges), ("unicode/utf8.first", Rows.laid_unicode_utf8_first)]
theorem OH{W:World}{n:String}{g:Nat}{a:Array Value}(b:j7.globalNamed n=some g)(h:W.var? j7 n=some a):∃e x,W.heap[g]? = some (.cells a e x):=by
 unfold World.var? at h;rw[b,Option.bind_some] at h;split at h
 ·rename_i c e x d;simp only[j4] at h;subst h;exact⟨e,x,d⟩
 ·cases h
theorem AE{W:World}{n:String}{g t e m:Nat}{k:IntKind}{f:List Int}(l:j7.globalNamed n=some g)(d:(j7.globals[g]?).map (·.type)=some t)(w:j7.underlying t=some (.array m e))(v:j7.underlying e=some (.int k))(a:j7.cellsOf e=1)(c:j7.cellsOf t=m)
  (h:aa8 j7 W n (aa5 k f)):∃e x,W.heap[g]? = some (.cells (f.map λz=>ab3 k z).toArray e x):=by
 obtain⟨y,A,o,i,p,q,r,j,u⟩:=h;obtain rfl:=o9 (l.symm.trans q);obtain rfl:=o9 (d.symm.trans r);have b:=Lib.cells_of_tab w v a c u;have:o=(f.map λz=>ab3 k z).toArray:=by rw[<-b]
 rw[this] at j;exact OH l j
theorem JP{H:Type}{enc:TypeId × Value->H}{P:Program}{w:World}{base:Nat}{sp:Nat->Bool}{held:Bool}{a:Nat}{t e:TypeId}{n:Nat}{b:List Value}{d:DataW H}{p:List MemPlace}(f:P.underlying t=some (.array n e))
  (h:aa4 enc P w base sp held a t b=some (d,p)):b.length=P.cellsOf t:=by
 cases a with
 | zero=>simp[aa4] at h
 | succ a=>
  simp only[aa4,f] at h;split at h
  ·rename_i c;simpa using c
  ·cases h
theorem Bj0{W:World}(C : j7.globalNamed "unicode/utf8.acceptRanges" = some 2)(h:aa8 j7 W "unicode/utf8.acceptRanges" ad8) :
  ∃e x,W.heap[2]? = some (.cells (Gs.map λz=>ab3 .u8 z).toArray e x):=by
 obtain⟨M,t,v,w,p,H,a,y,A⟩:=h;obtain rfl:=o9 (C.symm.trans H);have n:(j7.globals[2]?).map (·.type)=some RE:=by unfold RE;kernel_rfl
 obtain rfl:=o9 (n.symm.trans a);have F:j7.underlying RE=some (.array 16 RD):=by unfold RE RD;kernel_rfl
 have N:=JP F A;have I:j7.cellsOf RE=32:=by unfold RE;kernel_rfl
 have b:j7.cellsOf RD=2:=by unfold RD;kernel_rfl
 have K:∃j,j7.underlying RD=some (.struct j)/\j.size=2/\∀(i:Nat) (f:Field),j[i]? = some f->j7.underlying f.type=some (.int .u8)/\f.offset=i/\j7.cellsOf f.type=1:=by
  refine⟨Yk,by unfold RD Yk;kernel_rfl,by unfold Yk;kernel_rfl,λi f m=>?_⟩;have:i<2:=by
   have:=(x5.1 m).1;rwa [show Yk.size=2 by unfold Yk;kernel_rfl] at this
  match i,this with
  | 0,_=>
   obtain rfl:=o9 (m.symm.trans (show Yk[0]? = some LD from C46));exact⟨by unfold LD;kernel_rfl,by unfold LD;kernel_rfl,by unfold LD;kernel_rfl⟩
  | 1,_=>
   obtain rfl:=o9 (m.symm.trans (show Yk[1]? = some LE from C47));exact⟨by unfold LE;kernel_rfl,by unfold LE;kernel_rfl,by unfold LE;kernel_rfl⟩
 obtain⟨j,o,r,u⟩:=K;have l:v.toList=Gs.map λz=>ab3 .u8 z:=by
  have D:(Gs.map λz=>ab3 .u8 z).length=32:=by rw[y8];rfl
  apply List.ext_getElem?;intro q;by_cases J:q<32
  ·obtain⟨k,d,O,c,B⟩:=Lib.array_elem F A (q / 2) (by omega);simp only[ab0,ae4 (show q / 2<16 by omega),ac0,j4] at c;subst c;rw[b] at B;have L:=Lib.ints_of_struct o u (by rw[b,r]) B;have e0:=congrArg (·[q % 2]?) L;simp only[List.getElem?_take,List.getElem?_drop] at e0;rw[Aj,show q / 2*2+q % 2=q by omega] at e0;rw[e0];unfold Gs;have G:∀g:Nat->Value,(v8 g (ag2 32))[q]? = some (g q):=λg=>by
    rw[ab0,ae4 J];rfl
   rw[ah5,G];rcases Nat.mod_two_eq_zero_or_one q with a|a
   ·simp[a]
   ·simp[a]
  ·rw[v7 (by omega),v7 (by omega)]
 have:v=(Gs.map λz=>ab3 .u8 z).toArray:=by rw[<-l]
 rw[this] at y;exact OH C y
theorem At4{C:Cfg}(r:C.G=GX){W:World}(b:laidMet j7 Eu W)(p:W.ShapedOpen j7):GOK C (· < W.heap.size) W:=by
 have lt:∀{g:Nat} {o:Obj},W.heap[g]? = some o->g<W.heap.size:=λh=>(x5.1 h).1
 have I:aa8 j7 W "math/bits.deBruijn64tab" (aa5 .u8 (ac4.map λn:Nat=>(n:Int))):=aa9 b (by rw [show (aa5 .u8 (ac4.map λn:Nat=>(n:Int)):DataW Unit)=Rows.laid_math_bits_deBruijn64tab by kernel_rfl];simp [Eu])
 have J:aa8 j7 W "internal/strconv.uint64pow10" (aa5 .u64 ae7):=aa9 b (by rw [show (aa5 .u64 ae7:DataW Unit)=Rows.laid_internal_strconv_uint64pow10 by kernel_rfl];simp [Eu])
 have K:aa8 j7 W "unicode/utf8.acceptRanges" ad8:=aa9 b (by rw [show ad8=Rows.laid_unicode_utf8_acceptRanges by kernel_rfl];simp [Eu])
 have L:aa8 j7 W "unicode/utf8.first" (aa5 .u8 ae6):=aa9 b (by rw [show (aa5 .u8 ae6:DataW Unit)=Rows.laid_unicode_utf8_first by kernel_rfl];simp [Eu])
 have y:=AE (g:=5) (t:=dbT) (e:=5) (m:=64) (by kernel_rfl) (by unfold dbT;kernel_rfl) (by unfold dbT;kernel_rfl) (by kernel_rfl) (by kernel_rfl) (by unfold dbT;kernel_rfl) I;have A:=AE (g:=3) (t:=Cu5) (e:=115) (m:=20) (by kernel_rfl) (by unfold Cu5;kernel_rfl) (by unfold Cu5;kernel_rfl) (by kernel_rfl) (by kernel_rfl) (by unfold Cu5;kernel_rfl) J;have B:=Bj0 (by kernel_rfl) K;have D:=AE (g:=1) (t:=Co2) (e:=5) (m:=256) (by kernel_rfl) (by unfold Co2;kernel_rfl) (by unfold Co2;kernel_rfl) (by kernel_rfl) (by kernel_rfl) (by unfold Co2;kernel_rfl) L;have F:=cell_of_shapedOpen_int (k:=.i64) (g:=0) (t:=3) (zero:=#[.int .i64 0]) p (of_decide_eq_true (by kernel_rfl)) (by kernel_rfl) rfl (by kernel_rfl) (by kernel_rfl) (by kernel_rfl);refine⟨λg k w h=>?_,λg h=>?_⟩
 ·rw[r] at h;simp only[GX] at h;have key:∀{q:Nat} {v:IntKind} {a:List Int},(∃e x,W.heap[q]? = some (.cells (a.map λz=>ab3 v z).toArray e x))->g=q->(v,a)=(k,w)->g<W.heap.size/\∃e x,W.heap[g]? = some (.cells (w.map λz=>ab3 k z).toArray e x):=λc G H=>by
   subst G;cases H;obtain⟨e,x,c⟩:=c;exact⟨lt c,e,x,c⟩
  cases d:x7 g 1 with
  | true=>rw[d,cond_true] at h;exact key D (w6 d) (o9 h)
  | false=>
   rw[d,cond_false] at h;cases f:x7 g 2 with
   | true=>rw[f,cond_true] at h;exact key B (w6 f) (o9 h)
   | false=>
    rw[f,cond_false] at h;cases i:x7 g 3 with
    | true=>rw[i,cond_true] at h;exact key A (w6 i) (o9 h)
    | false=>
     rw[i,cond_false] at h;cases j:x7 g 5 with
     | true=>rw[j,cond_true] at h;exact key y (w6 j) (o9 h)
     | false=>rw[j,cond_false] at h;cases h
 ·rw[r] at h;have e:=w6 h;subst e;obtain⟨m,u⟩:=F;refine⟨?_,m,u⟩;apply Classical.byContradiction;intro l;simp[aj2,ad3 (ad2 l)] at u
theorem Zp(os:Os)(args:Array Value):((aa3 j7 os Eu).forCall (λ_ _=>0) ⟨#[],args,[]⟩).Shaped j7:=
 World.shaped_of_ZipB (by kernel_rfl) (by kernel_rfl)
theorem KD(os:Os)(args:Array Value):laidMetH j7 Eu ((aa3 j7 os Eu).forCall (λ_ _=>0) ⟨#[],args,[]⟩).memory:=by rw[ac3 _ _ _ (by kernel_rfl)];exact laidMet_laidAll _ (by kernel_rfl) (by kernel_rfl)
theorem Au7{H:Type}{enc:TypeId × Value->H}{os:Os}(j:os.Started){C:Cfg}(u:C.P=j7)(r:C.G=GX)(Z:XOK C)(W:Jz C){f tb:Nat}{fn:Func}{c:Code}{s:ChangeSpec}{g:List PathCond}{apart fresh handsOn again:Bool}(l:j7.inits.idxOf? f=none)(x:j7.funcs[f]? = some fn)(hb:fn.body=some c)(n:(fn.name == "runtime.NumGoroutine")=false)
  (F:∀t∈fn.params.toList,(j7.readableRec t=true/\t<j7.types.size)/\(Lf j7 20 t).isSome=true) (z:fn.resultTypes = #[tb]) (m:j7.underlying tb=some .bool) (q:s.vars=[])
  (p:∀ds:List (DataW H),ds.length=fn.params.toList.length->s.fn H ds = { results:=[.lit (.bool true)],args:=ds })
  (a:Array Value) (h:Nat) (o:Input.okWideB j7 ((aa3 j7 os Eu).forCall (λ_ _=>0) ⟨#[],a,[]⟩) f ⟨#[],a,[]⟩=true)
  (CI:s.preB enc j7 fn g apart ((aa3 j7 os Eu).forCall (λ_ _=>0) ⟨#[],a,[]⟩).memory a h=true)
  (J:s.sizedB enc j7 fn apart ((aa3 j7 os Eu).forCall (λ_ _=>0) ⟨#[],a,[]⟩).memory a h=true)
  (D:∀args,Lj j7 fn.params.toList args->∃d T,evC C d Unit noY f args [] ()=some (.s (.bool true),T,())) :
  ReturnsInHanded {} ae9 os f .any (λw args=>(s.pre enc j7 fn g apart w args/\laidMetH j7 Eu w)/\sizedMet enc j7 fn (OpenSpec.ofChange s) apart w args) (s.post enc j7 fn apart fresh handsOn again):=by
 obtain⟨P,G,X,R,a0,lf,Q,M,xp,L,N,Y,S,nt,a1⟩:=C;simp only at u r;subst u;refine returnsInHanded_of_calls (C:=ae9) own j l
  (ChangeSpec.witness_shaped (enc:=enc) (C:=ae9) (os:=os) (X:=λw _=>laidMetH j7 Eu w) false (aa3 j7 os Eu) a h (World.laidAll_os _ _ _) (Zp os a) o CI J (KD os a)) ?_
 intro w b i _ I _ o CI A;obtain⟨_,_,_,B,y,_,_,_,_,Nn⟩:=o;have e:B=fn:=o9 (y.symm.trans x);subst e;obtain⟨⟨⟨ds,U,k,hw,hc⟩,O⟩,hz⟩:=CI;have K:=DataW.Whole.of_heap (w':=w.forCall b i) (by rfl) hw;have V:laidMet j7 Eu (w.forCall b i):=by
  rw[ac3 _ _ _ (by kernel_rfl)] at O;exact laidMet.of_heap (w':=w.forCall b i) (by rfl) O
 refine(B37 (apart:=apart) (fresh:=fresh) (handsOn:=handsOn) (again:=again) Z W follows Cr2 x hb n F z m q p D (w.forCall b i) (At4 r V I) w.heap.size i.args ds U k Nn K).mono λe W' ⟨v,he,F⟩=>?_
 subst he;exact ChangeSpec.post_blind F
end
section
open Go Go.Proofs
set_option maxRecDepth 100000
section
def Ry:List PV->Tr
 | [.s (.str s),.s (.str p),.s (.int .i64 v),.s (.int .i64 n)]=>.need (A3 (c9 s)) (.need ((c9 p)==1) (.need (v==(0:Int)) (.need (n==((-1):Int)) (.ret (.vw 0 0 (c9 (pcs (j2 p 0 0) s))) [.arr false 9 1 (C1 (pcs (j2 p 0 0) s))]))))
 | _=>.fail
def Xq(args:List PV):Tr:=Ry (D4 [[0],[0],[0],[0]] args)
def Sc:List PV->Tr
 | [.s (.str s),.s (.str p)]=>.need (A3 (c9 s)) (.need ((c9 p)==1) (.ret (.vw 0 0 (c9 (pcs (j2 p 0 0) s))) [.arr false 9 1 (C1 (pcs (j2 p 0 0) s))]))
 | _=>.fail
def LB(args:List PV):Tr:=Sc (D4 [[0],[0]] args)
def PO:List PV->Tr
 | [.s (.str s),.s (.str p)]=>.need (A3 (c9 s)) (.ret (.s (.bool (p7 p s))) [])
 | _=>.fail
def PN(args:List PV):Tr:=PO (D4 [[0],[0]] args)
def PC:List PV->Tr
 | [.s (.str s),.s (.str p)]=>.need (A3 (c9 s)) (.ret (.s (.bool (p7 p s))) [])
 | _=>.fail
def DY(args:List PV):Tr:=PC (D4 [[0],[0]] args)
def PQ:List PV->Tr
 | [.s (.str s),.s (.str p)]=>.need (A3 (c9 s)) (.ret (.s (.bool (ab8 p s))) [])
 | _=>.fail
def Al7(args:List PV):Tr:=PQ (D4 [[0],[0]] args)
def PD:List PV->Tr
 | [.s (.str s),.s (.str p)]=>.need (A3 (c9 s)) (.ret (.s (.bool (ab8 p s))) [])
 | _=>.fail
def Bz3(args:List PV):Tr:=PD (D4 [[0],[0]] args)
def EK:List PV->Tr
 | [.s (.str s),.s (.str p)]=>.need (A3 (c9 s)) (.ret (.s (.str (WX s p))) [])
 | _=>.fail
def Ba2(args:List PV):Tr:=EK (D4 [[0],[0]] args)
def FK:List PV->Tr
 | [.s (.str s),.s (.str p)]=>.need (A3 (c9 s)) (.ret (.s (.str (WX s p))) [])
 | _=>.fail
def Bb1(args:List PV):Tr:=FK (D4 [[0],[0]] args)
def EF:List PV->Tr
 | [.s (.str s),.s (.str p)]=>.need (A3 (c9 s)) (.ret (.tup [.s (.str (Hb s p)),.s (.bool (p7 p s))]) [])
 | _=>.fail
def A99(args:List PV):Tr:=EF (D4 [[0],[0]] args)
def OP:List PV->Tr
 | [.s (.str s),.s (.str p)]=>.need (A3 (c9 s)) (.ret (.tup [.s (.str (Hb s p)),.s (.bool (p7 p s))]) [])
 | _=>.fail
def Al2(args:List PV):Tr:=OP (D4 [[0],[0]] args)
def QQ:List PV->Tr
 | [.s (.str s),.s (.str p)]=>.need (A3 (c9 s)) (.ret (.s (.int .i64 (af1 s p))) [])
 | _=>.fail
def FD(args:List PV):Tr:=QQ (D4 [[0],[0]] args)
def QO:List PV->Tr
 | [.s (.str s),.s (.str p)]=>.need ((c9 p)==1) (.ret (.s (.int .i64 (↑(List.count (j2 p 0 0) s):Int))) [])
 | _=>.fail
def Am3(args:List PV):Tr:=QO (D4 [[0],[0]] args)
def DR:List PV->Tr
 | [.s (.str s),.s (.int .i64 n)]=>.fail
 | _=>.fail
def Ka(args:List PV):Tr:=DR (D4 [[0],[0]] args)
def Xp:List PV->Tr
 | [.s (.str s),.s (.str p),.s (.int .i64 v),.s (.int .i64 n)]=>.need (A3 (c9 s)) (.need ((c9 p)==1) (.need (v==(0:Int)) (.need (n==((-1):Int)) (.ret (.s (.sl false false 1 (C1 (pcs (j2 p 0 0) s)))) []))))
 | _=>.fail
def XV(args:List PV):Tr:=Xp (D4 [[0],[0],[0],[0]] args)
def Yd:List PV->Tr
 | [.s (.str s),.s (.str p)]=>.need (A3 (c9 s)) (.need ((c9 p)==1) (.ret (.s (.sl false false 1 (C1 (pcs (j2 p 0 0) s)))) []))
 | _=>.fail
def Uc(args:List PV):Tr:=Yd (D4 [[0],[0]] args)
def PK:List PV->Tr
 | [.s (.int .i64 n)]=>.need (ltN n 4294967296) (.ret (.s (.str (o6 (j0 n)))) [])
 | _=>.fail
def Al6(args:List PV):Tr:=PK (D4 [[0]] args)
def PM:List PV->Tr
 | [.s (.str s)]=>.need (A3 (c9 s)) (.ret (.s (.str (D3 s))) [])
 | _=>.fail
def EG(args:List PV):Tr:=PM (D4 [[0]] args)
def PA:List PV->Tr
 | [.s (.str s)]=>.need (A3 (c9 s)) (.ret (.s (.bool (Bx s))) [])
 | _=>.fail
def Al4(args:List PV):Tr:=PA (D4 [[0]] args)
def OR:List PV->Tr
 | [.s (.str s),.s (.int .i64 base)]=>.need (A3 (c9 s)) (.need (ltN base 17) (.ret (.tup [.s (.int .i64 (↑(Ad (E9 (j0 base) 0 s)):Int)),.s (.bool (j9 (E9 (j0 base) 0 s)))]) []))
 | _=>.fail
def OQ(args:List PV):Tr:=OR (D4 [[0],[0]] args)
def Al8:List PV->Tr
 | [.s (.str s)]=>.need (A3 (c9 s)) (.ret (.tup [.s (.int .i64 (↑(Ad (Ak s)):Int)),.s (.bool (j9 (Ak s)))]) [])
 | _=>.fail
def Bz7(args:List PV):Tr:=Al8 (D4 [[0]] args)
def EN:List PV->Tr
 | [.s (.str s)]=>.need (A3 (c9 s)) (.ret (.s (.sl false false 1 (C1 (E4 s)))) [])
 | _=>.fail
def PW(args:List PV):Tr:=EN (D4 [[0]] args)
def Rz:List PV->Tr
 | [.s (.str s)]=>.need (A3 (c9 s)) (.ret (.s (.bool (L2 s))) [])
 | _=>.fail
def Pu(args:List PV):Tr:=Rz (D4 [[0]] args)
def QA:List PV->Tr
 | [.s (.str s)]=>.need (A3 (c9 s)) (.ret (.tup [.s (.int .u32 (↑(Ad (pnB s)):Int)),.s (.bool (j9 (pnB s)))]) [])
 | _=>.fail
def Bz9(args:List PV):Tr:=QA (D4 [[0]] args)
def Am7:List PV->Tr
 | [.s (.str s)]=>.need (A3 (c9 s)) (.ret (.tup [.s (.int .u32 (↑(Ad (v4B s)):Int)),.s (.bool (j9 (v4B s)))]) [])
 | _=>.fail
def C24(args:List PV):Tr:=Am7 (D4 [[0]] args)
def Am6:List PV->Tr
 | [.s (.int .u32 v)]=>.need (ltN v 4294967296) (.ret (.s (.str (Hx (j0 v)))) [])
 | _=>.fail
def C23(args:List PV):Tr:=Am6 (D4 [[0]] args)
def Sa:List PV->Tr
 | [.s (.str s)]=>.need (A3 (c9 s)) (.ret (.s (.bool ((not (o7 s))&&(j9 (E9 10 0 s))))) [])
 | _=>.fail
def KZ(args:List PV):Tr:=Sa (D4 [[0]] args)
def Ya:List PV->Tr
 | [.s (.str s),.s (.int .u8 c)]=>.need (A3 (c9 s)) (.need (inR c 256) (.ret (.s (.sl false false 1 (C1 (pcs (u8n c) s)))) []))
 | _=>.fail
def FC(args:List PV):Tr:=Ya (D4 [[0],[0]] args)
def Al3:List PV->Tr
 | [.s (.int .i64 n)]=>.need (ltN n 4294967296) (.ret (.s (.str (o6 (j0 n)))) [])
 | _=>.fail
def KY(args:List PV):Tr:=Al3 (D4 [[0]] args)
def QE:List PV->Tr
 | [.s (.int .u8 b)]=>.need (inR b 256) (.ret (.s (.int .i64 (↑(dig (u8n b)):Int))) [])
 | _=>.fail
def B00(args:List PV):Tr:=QE (D4 [[0]] args)
def QJ:List PV->Tr
 | [.s (.str s)]=>.need (A3 (c9 s)) (.ret (.tup [.s (.int .i64 (↑(Ad (Ak s)):Int)),.s (.bool (j9 (Ak s)))]) [])
 | _=>.fail
def B03(args:List PV):Tr:=QJ (D4 [[0]] args)
def Xy:List PV->Tr
 | [.s (.str s)]=>.need (A3 (c9 s)) (.ret (.s (.sl false false 1 (C1 (E4 s)))) [])
 | _=>.fail
def XY(args:List PV):Tr:=Xy (D4 [[0]] args)
def Nu:List PV->Tr
 | [.s (.str s)]=>.need (A3 (c9 s)) (.ret (.s (.bool (L2 s))) [])
 | _=>.fail
def EW(args:List PV):Tr:=Nu (D4 [[0]] args)
def QL:List PV->Tr
 | [.s (.int .u32 v)]=>.need (ltN v 4294967296) (.ret (.s (.str (Hx (j0 v)))) [])
 | _=>.fail
def B04(args:List PV):Tr:=QL (D4 [[0]] args)
def OW:List PV->Tr
 | [.s (.str s)]=>.need (A3 (c9 s)) (.ret (.tup [.s (.int .u16 (↑(Ad (grp s)):Int)),.s (.bool (j9 (grp s)))]) [])
 | _=>.fail
def By9(args:List PV):Tr:=OW (D4 [[0]] args)
def DU:List PV->Tr
 | [.s (.str s),.s (.bool last)]=>.need (A3 (c9 s)) (.ret (.tup [.s (.sl (o7 (gvs s last)) (o7 (gvs s last)) 1 (G2 (gvs s last))),.s (.bool (j9 (Ec s last)))]) [])
 | _=>.fail
def A95(args:List PV):Tr:=DU (D4 [[0],[0]] args)
def An0:List PV->Tr
 | [.s (.str s)]=>.need (A3 (c9 s)) (.ret (.tup [.agg [.s (.int .u16 (↑(v6c 0 s):Int)),.s (.int .u16 (↑(v6c 1 s):Int)),.s (.int .u16 (↑(v6c 2 s):Int)),.s (.int .u16 (↑(v6c 3 s):Int)),.s (.int .u16 (↑(v6c 4 s):Int)),.s (.int .u16 (↑(v6c 5 s):Int)),.s (.int .u16 (↑(v6c 6 s):Int)),.s (.int .u16 (↑(v6c 7 s):Int))],.s (.bool (j9 (v6B s)))]) [])
 | _=>.fail
def C27(args:List PV):Tr:=An0 (D4 [[0]] args)
def FR:List PV->Tr
 | [.agg [.s (.int .u16 a),.s (.int .u16 b),.s (.int .u16 c),.s (.int .u16 d),.s (.int .u16 e),.s (.int .u16 f),.s (.int .u16 g),.s (.int .u16 h)]]=>.need (ok8 a b c d e f g h) (.ret (.tup [.s (.int .i64 (↑((zGo (n8 a b c d e f g h) 0 0 0)).1:Int)),.s (.int .i64 (↑((zGo (n8 a b c d e f g h) 0 0 0)).2:Int))]) [])
 | _=>.fail
def Bb3(args:List PV):Tr:=FR (D4 [[0,0,0,0,0,0,0,0]] args)
def B08:List PV->Tr
 | [.s (.int .u64 x)]=>.need (x==(16:Int)) (.ret (.s (.int .i64 (4:Int))) [])
 | _=>.fail
def C45(args:List PV):Tr:=B08 (D4 [[0]] args)
def EA:List PV->Tr
 | [.s (.int .i64 x)]=>.need (x==(16:Int)) (.ret (.s (.bool true)) [])
 | _=>.fail
def PJ(args:List PV):Tr:=EA (D4 [[0]] args)
def DT:List PV->Tr
 | [.s (.sl c a 0 ds),.s (.int .u64 v),.s (.int .i64 b),.s (.bool neg),.s (.bool app)]=>.need (ltN v 65536) (.need (b==(16:Int)) (.need (not neg) (.need (not app) (.ret (.tup [.s (.sl true true 1 List.nil),.s (.str (R7 (j0 v)))]) []))))
 | _=>.fail
def OT(args:List PV):Tr:=DT (D4 [[0],[0],[0],[0],[0]] args)
def DZ:List PV->Tr
 | [.s (.int .u64 v),.s (.int .i64 b)]=>.need (ltN v 65536) (.need (b==(16:Int)) (.ret (.s (.str (R7 (j0 v)))) []))
 | _=>.fail
def PH(args:List PV):Tr:=DZ (D4 [[0],[0]] args)
def OU:List PV->Tr
 | [.s (.int .u64 v),.s (.int .i64 b)]=>.need (ltN v 65536) (.need (b==(16:Int)) (.ret (.s (.str (R7 (j0 v)))) []))
 | _=>.fail
def By8(args:List PV):Tr:=OU (D4 [[0],[0]] args)
def FG:List PV->Tr
 | [.s (.sl b a 1 l),.s (.str p)]=>.need (aa0 l isS) (.need (A3 (c9 (ae0 (v8 elS l) p))) (.need (A3 (c9 l)) (.ret (.s (.str (ae0 (v8 elS l) p))) [])))
 | _=>.fail
def QT(args:List PV):Tr:=FG (D4 [[1],[0]] args)
def QP:List PV->Tr
 | [.s (.str s),.s (.str p)]=>.need (A3 (c9 s)) (.ret (.tup [.s (.str ((x6 s p)).1),.s (.str (((x6 s p)).2).1),.s (.bool (((x6 s p)).2).2)]) [])
 | _=>.fail
def Am4(args:List PV):Tr:=QP (D4 [[0],[0]] args)
def Am9:List PV->Tr
 | [.s (.sl b a 1 l)]=>.need (aa0 l Vo) (.need (w9 (c9 l) 8) (.ret (.s (.str (T2 (v8 elN l)))) []))
 | _=>.fail
def C26(args:List PV):Tr:=Am9 (D4 [[1]] args)
def Am8:List PV->Tr
 | [.agg [.s (.int .u16 a),.s (.int .u16 b),.s (.int .u16 c),.s (.int .u16 d),.s (.int .u16 e),.s (.int .u16 f),.s (.int .u16 g),.s (.int .u16 h)]]=>.need (ok8 a b c d e f g h) (.ret (.s (.str (Nl (n8 a b c d e f g h)))) [])
 | _=>.fail
def C25(args:List PV):Tr:=Am8 (D4 [[0,0,0,0,0,0,0,0]] args)
def ES:List PV->Tr
 | [.s (.int .u16 v)]=>.need (ltN v 65536) (.ret (.s (.str (R7 (j0 v)))) [])
 | _=>.fail
def Ba5(args:List PV):Tr:=ES (D4 [[0]] args)
def QM:List PV->Tr
 | [.agg [.s (.int .u16 a),.s (.int .u16 b),.s (.int .u16 c),.s (.int .u16 d),.s (.int .u16 e),.s (.int .u16 f),.s (.int .u16 g),.s (.int .u16 h)]]=>.need (ok8 a b c d e f g h) (.ret (.s (.str (Nl (n8 a b c d e f g h)))) [])
 | _=>.fail
def B05(args:List PV):Tr:=QM (D4 [[0,0,0,0,0,0,0,0]] args)
def Xw:List PV->Tr
 | [.s (.int .i64 n)]=>.ret (.s (.bool (ptI n))) []
 | _=>.fail
def Nt(args:List PV):Tr:=Xw (D4 [[0]] args)
def Xv:List PV->Tr
 | [.s (.int .i64 d),.s (.int .i64 c),.s (.bool f)]=>.need (ltN d 1152921504606846976) (.need (ltN c 1000000) (.need (ltI (0:Int) c) (.ret (.s (.int .i64 (↑(P9 (j0 d) (j0 c) f):Int))) [])))
 | _=>.fail
def Ns(args:List PV):Tr:=Xv (D4 [[0],[0],[0]] args)
def PY:List PV->Tr
 | [.s (.int .i64 d)]=>.need (ltN d 36) (.ret (.s (.int .u8 (↑(aj1 (Ah (j0 d))):Int))) [])
 | _=>.fail
def Al9(args:List PV):Tr:=PY (D4 [[0]] args)
def QC:List PV->Tr
 | [.s (.int .u8 b)]=>.need (inR b 256) (.ret (.s (.int .i64 (E3 (u8n b)))) [])
 | _=>.fail
def Am1(args:List PV):Tr:=QC (D4 [[0]] args)
def QB:List PV->Tr
 | [.s (.int .i64 b)]=>.ret (.fnr (Fn.func 190) [] [.ptr 1 0 0,.ptr 0 0 0]) [.box [.s (.int .i64 b)],.box [.s (.int .i64 (0:Int))]]
 | _=>.fail
def EO(args:List PV):Tr:=QB (D4 [[0]] args)
def Pv:List PV->List Blk->Tr
 | [.ptr 0 0 0,.ptr 1 0 0],[.box [.s (.int .i64 k)],.box [.s (.int .i64 b)]]=>.need (ltN k 1000000000000) (.need (ltN b 1000000) (.ret (.s (.int .i64 (L6 k b))) [.box [.s (.int .i64 (Int.add k (36:Int)))],.box [.s (.int .i64 b)]]))
 | _,_=>.fail
def PU:List PV->List Blk->Tr
 | [.fl 0,.s (.int .i64 q),.s (.int .i64 b)],[.arr z 5 1 l]=>.need (ltN q 1152921504606846976) (.need (ltN b 1000000) (.need (w9 (c9 l) 100000) (.ret (.fl 0) [.arr z 5 1 (List.append l (v8 F0 (P2 (j0 q) 0 (j0 b))))])))
 | _,_=>.fail
def PZ:List PV->Tr
 | [.s (.sl b a 1 p)]=>.need (aa0 p Ou) (.ret (.tup [.s (.str ((X7 (v8 elI p))).1),.s (.int .i64 (↑((X7 (v8 elI p))).2:Int))]) [])
 | _=>.fail
def Am0(args:List PV):Tr:=PZ (D4 [[1]] args)
def QS:List PV->List Blk->Tr
 | [.fl 0,.s (.int .i64 i),.fl 1],[.arr z 3 1 l,.arr false 3 1 [[.int .i64 n]]]=>.need (ltN i (Nat.add (c9 l) 1)) (.need (w9 (c9 l) 100000) (.ret (.fl 0) [.arr z 3 1 (Me l (j0 i) n),.arr false 3 1 [[.int .i64 n]]]))
 | _,_=>.fail
def OS:List PV->List Blk->Tr
 | [.ptr 0 0 0],[.box [.s (.str a),.fl 1,.s (.int .i64 n),.s (.int .i64 i),.s (.int .i64 b),.s (.bool c)],.arr z 3 1 l]=>.need (A3 (c9 a)) (.need (ltN b 1000000) (.need (ltN i 1099511627777) (.ret (.s (.int .i64 (IK b a i))) [.box [.s (.str (IM b a i)),.fl 1,.s (.int .i64 n),.s (.int .i64 (Th b a i)),.s (.int .i64 b),.s (.bool c)],.arr z 3 1 l])))
 | _,_=>.fail
def CO:List PV->List Blk->Tr
 | [.ptr 0 0 0],[.box [.s (.str a),.fl 1,.s (.int .i64 n),.s (.int .i64 i),.s (.int .i64 b),.s (.bool c)],.arr z 3 1 l]=>.need (A3 (c9 a)) (.need (ltN b 1000000) (.need (ltN i 1099511627777) (.need (ltN n 1152921504606846976) (.need (w9 (c9 l) 100000) (.ret (.s (.int .i64 ((F2 (DS.mk a n i b c l))).1)) [.box [.s (.str (DS.rest ((F2 (DS.mk a n i b c l))).2)),.fl 1,.s (.int .i64 (DS.n ((F2 (DS.mk a n i b c l))).2)),.s (.int .i64 (DS.i ((F2 (DS.mk a n i b c l))).2)),.s (.int .i64 (DS.b ((F2 (DS.mk a n i b c l))).2)),.s (.bool (DS.st ((F2 (DS.mk a n i b c l))).2))],.arr z 3 1 (DS.l ((F2 (DS.mk a n i b c l))).2)])))))
 | _,_=>.fail
def Xs:List PV->Tr
 | [.s (.str s),.s (.int .u8 c)]=>.need (A3 (c9 s)) (.need (inR c 256) (.ret (.s (.int .i64 (L7 (u8n c) s))) []))
 | _=>.fail
def XX(args:List PV):Tr:=Xs (D4 [[0],[0]] args)
def EE:List PV->Tr
 | [.s (.str s),.s (.int .u8 c)]=>.need (A3 (c9 s)) (.need (inR c 256) (.ret (.s (.int .i64 (L7 (u8n c) s))) []))
 | _=>.fail
def CP(args:List PV):Tr:=EE (D4 [[0],[0]] args)
def PX:List PV->Tr
 | [.s (.str s)]=>.need (A3 (c9 s)) (.ret (.tup [.s (.sl (o7 ((N4 s)).1) (o7 ((N4 s)).1) 1 (Zt ((N4 s)).1)),.s (.int .i64 (↑((N4 s)).2:Int))]) [])
 | _=>.fail
def Bz8(args:List PV):Tr:=PX (D4 [[0]] args)
def XU:List PV->Tr
 | [.s (.str t)]=>.fail
 | _=>.fail
def Tz(args:List PV):Tr:=XU (D4 [[0]] args)
def EI:List PV->Tr
 | [.s (.str t),.s (.str p),.s (.int .i64 n)]=>.ret (.fnr (Fn.func 126) [] [.ptr 1 0 0,.ptr 0 0 0,.ptr 2 0 0]) [.box [.s (.str t)],.box [.s (.str p)],.box [.s (.int .i64 n)]]
 | _=>.fail
def PP(args:List PV):Tr:=EI (D4 [[0],[0],[0]] args)
def QU:List PV->Tr
 | [.s (.str t),.s (.str p)]=>.ret (.fnr (Fn.func 126) [] [.ptr 1 0 0,.ptr 0 0 0,.ptr 2 0 0]) [.box [.s (.str t)],.box [.s (.str p)],.box [.s (.int .i64 (0:Int))]]
 | _=>.fail
def FI(args:List PV):Tr:=QU (D4 [[0],[0]] args)
def Py:List PV->List Blk->Option (Bool × List (List PV))
 | [.yd,.ptr 0 0 0,.ptr 1 0 0,.ptr 2 0 0],[.box [.s (.str p)],.box [.s (.str t)],.box [.s (.int .i64 n)]]=>some (((A3 (c9 t))&&(((c9 p)==1)&&(n==(0:Int)))),v8 (λ(x:By)=>([.s (.str x)]:List PV)) (pcs (j2 p 0 0) t))
 | _,_=>none
def Xz:List PV->Tr
 | [.s (.int .i64 n)]=>.ret (.s (.bool (ptI n))) []
 | _=>.fail
def EY(args:List PV):Tr:=Xz (D4 [[0]] args)
def Xx:List PV->Tr
 | [.s (.int .i64 d),.s (.int .i64 c),.s (.bool f)]=>.need (ltN d 1152921504606846976) (.need (ltN c 1000000) (.need (ltI (0:Int) c) (.ret (.s (.int .i64 (↑(P9 (j0 d) (j0 c) f):Int))) [])))
 | _=>.fail
def EP(args:List PV):Tr:=Xx (D4 [[0],[0],[0]] args)
def QK:List PV->Tr
 | [.s (.int .i64 k),.s (.int .i64 b)]=>.need (ltN k 10000000000) (.need (ltN b 1000000) (.ret (.s (.int .i64 (L6 (Int.mul (36:Int) k) b))) []))
 | _=>.fail
def Am2(args:List PV):Tr:=QK (D4 [[0],[0]] args)
def ER:List PV->Tr
 | [.s (.int .i64 d)]=>.need (ltN d 36) (.ret (.s (.int .u8 (↑(aj1 (Ah (j0 d))):Int))) [])
 | _=>.fail
def Ba4(args:List PV):Tr:=ER (D4 [[0]] args)
def QN:List PV->Tr
 | [.s (.int .u8 b)]=>.need (inR b 256) (.ret (.s (.int .i64 (E3 (u8n b)))) [])
 | _=>.fail
def B06(args:List PV):Tr:=QN (D4 [[0]] args)
def QG:List PV->Tr
 | [.s (.sl b a 1 p)]=>.need (aa0 p Ou) (.ret (.tup [.s (.str ((X7 (v8 elI p))).1),.s (.int .i64 (↑((X7 (v8 elI p))).2:Int))]) [])
 | _=>.fail
def B01(args:List PV):Tr:=QG (D4 [[1]] args)
def EX:List PV->Tr
 | [.s (.str s)]=>.need (A3 (c9 s)) (.ret (.tup [.s (.sl (o7 ((N4 s)).1) (o7 ((N4 s)).1) 1 (Zt ((N4 s)).1)),.s (.int .i64 (↑((N4 s)).2:Int))]) [])
 | _=>.fail
def Ba8(args:List PV):Tr:=EX (D4 [[0]] args)
def EH:List PV->Tr
 | [.s (.str s)]=>.need (A3 (c9 s)) (.ret (.s (.bool (Dn s))) [])
 | _=>.fail
def Ba0(args:List PV):Tr:=EH (D4 [[0]] args)
def PT:List PV->Tr
 | [.s (.str s)]=>.need (A3 (c9 s)) (.ret (.s (.bool (N9 s))) [])
 | _=>.fail
def PS(args:List PV):Tr:=PT (D4 [[0]] args)
def Yi:List PV->Tr
 | [.s (.str s)]=>.need (A3 (c9 s)) (.ret (.s (.bool (j9 (Hn s)))) [])
 | _=>.fail
def YE(args:List PV):Tr:=Yi (D4 [[0]] args)
def Ye:List PV->Tr
 | [.s (.str s)]=>.need (A3 (c9 s)) (.ret (.s (.int .i64 (↑(Lib.runeCountL s):Int))) [])
 | _=>.fail
def YC(args:List PV):Tr:=Ye (D4 [[0]] args)
def PL:List PV->Tr
 | [.s (.str s)]=>.need (A3 (c9 s)) (.ret (.tup [.s (.str ((T3 s)).1),.s (.int .i64 (↑((T3 s)).2:Int))]) [])
 | _=>.fail
def Bz6(args:List PV):Tr:=PL (D4 [[0]] args)
def EZ:List PV->Tr
 | [.s (.str s)]=>.need (A3 (c9 s)) (.ret (.s (.bool (Dn s))) [])
 | _=>.fail
def Ba9(args:List PV):Tr:=EZ (D4 [[0]] args)
def EV:List PV->Tr
 | [.s (.str s)]=>.need (A3 (c9 s)) (.ret (.s (.bool (N9 s))) [])
 | _=>.fail
def Ba7(args:List PV):Tr:=EV (D4 [[0]] args)
def OZ:List PV->Tr
 | [.s (.int .u8 b)]=>.need (inR b 256) (.ret (.s (.int .i64 (Om (u8n b)))) [])
 | _=>.fail
def Bz2(args:List PV):Tr:=OZ (D4 [[0]] args)
def OY:List PV->Tr
 | [.s (.str s)]=>.need (A3 (c9 s)) (.ret (.tup [.s (.str (Ax8 s)),.s (.bool (j9 (Ce s)))]) [])
 | _=>.fail
def Bz1(args:List PV):Tr:=OY (D4 [[0]] args)
def DV:List PV->Tr
 | [.s (.str s)]=>.need (A3 (c9 s)) (.need (B69 s) (.ret (.tup [.agg [.s (.int .i64 (↑(C3.kind ((Q8 s)).1):Int)),.s (.str (C3.name ((Q8 s)).1)),.s (.int .u32 (↑(C3.v4 ((Q8 s)).1):Int)),.s (.int .u16 (↑(j2 (C3.v6 ((Q8 s)).1) 0 0):Int)),.s (.int .u16 (↑(j2 (C3.v6 ((Q8 s)).1) 1 0):Int)),.s (.int .u16 (↑(j2 (C3.v6 ((Q8 s)).1) 2 0):Int)),.s (.int .u16 (↑(j2 (C3.v6 ((Q8 s)).1) 3 0):Int)),.s (.int .u16 (↑(j2 (C3.v6 ((Q8 s)).1) 4 0):Int)),.s (.int .u16 (↑(j2 (C3.v6 ((Q8 s)).1) 5 0):Int)),.s (.int .u16 (↑(j2 (C3.v6 ((Q8 s)).1) 6 0):Int)),.s (.int .u16 (↑(j2 (C3.v6 ((Q8 s)).1) 7 0):Int))],.s (.int .i64 (↑((Q8 s)).2:Int))]) []))
 | _=>.fail
def A96(args:List PV):Tr:=DV (D4 [[0]] args)
def Xr:List PV->Tr
 | [.s (.str s)]=>.need (A3 (c9 s)) (.ret (.tup [.agg [.s (.int .i64 (↑(C3.kind ((J6 s)).1):Int)),.s (.str (C3.name ((J6 s)).1)),.s (.int .u32 (↑(C3.v4 ((J6 s)).1):Int)),.s (.int .u16 (↑(j2 (C3.v6 ((J6 s)).1) 0 0):Int)),.s (.int .u16 (↑(j2 (C3.v6 ((J6 s)).1) 1 0):Int)),.s (.int .u16 (↑(j2 (C3.v6 ((J6 s)).1) 2 0):Int)),.s (.int .u16 (↑(j2 (C3.v6 ((J6 s)).1) 3 0):Int)),.s (.int .u16 (↑(j2 (C3.v6 ((J6 s)).1) 4 0):Int)),.s (.int .u16 (↑(j2 (C3.v6 ((J6 s)).1) 5 0):Int)),.s (.int .u16 (↑(j2 (C3.v6 ((J6 s)).1) 6 0):Int)),.s (.int .u16 (↑(j2 (C3.v6 ((J6 s)).1) 7 0):Int))],.s (.int .i64 (↑((J6 s)).2:Int))]) [])
 | _=>.fail
def XW(args:List PV):Tr:=Xr (D4 [[0]] args)
def Al5:List PV->Tr
 | [.s (.str s)]=>.need (A3 (c9 s)) (.ret (.s (.bool (Af s))) [])
 | _=>.fail
def Bz4(args:List PV):Tr:=Al5 (D4 [[0]] args)
def PG:List PV->Tr
 | [.agg [.s (.int .i64 j),.s (.str i),.s (.int .u32 v4),.s (.int .u16 a),.s (.int .u16 b),.s (.int .u16 c),.s (.int .u16 d),.s (.int .u16 e),.s (.int .u16 f),.s (.int .u16 g),.s (.int .u16 h)]]=>.need (A3 (c9 i)) (.need (ltN v4 4294967296) (.need (ok8 a b c d e f g h) (.ret (.s (.bool (N2 (mkH j i v4 (n8 a b c d e f g h))))) [])))
 | _=>.fail
def PE(args:List PV):Tr:=PG (D4 [[0,0,0,0,0,0,0,0,0,0,0]] args)
def PB:List PV->Tr
 | [.agg [.s (.int .i64 j),.s (.str i),.s (.int .u32 v4),.s (.int .u16 a),.s (.int .u16 b),.s (.int .u16 c),.s (.int .u16 d),.s (.int .u16 e),.s (.int .u16 f),.s (.int .u16 g),.s (.int .u16 h)]]=>.need (A3 (c9 i)) (.need (ltN v4 4294967296) (.need (ok8 a b c d e f g h) (.ret (.s (.str (Ai (mkH j i v4 (n8 a b c d e f g h))))) [])))
 | _=>.fail
def DW(args:List PV):Tr:=PB (D4 [[0,0,0,0,0,0,0,0,0,0,0]] args)
def OX:List PV->Tr
 | [.s (.str p),.s (.str s)]=>.need (A3 (c9 p)) (.need (A3 (c9 s)) (.ret (.s (.bool (Ur p s))) []))
 | _=>.fail
def Bz0(args:List PV):Tr:=OX (D4 [[0],[0]] args)
def QI:List PV->Tr
 | [.s (.str s)]=>.need (A3 (c9 s)) (.ret (.s (.bool (Af s))) [])
 | _=>.fail
def B02(args:List PV):Tr:=QI (D4 [[0]] args)
def EU:List PV->Tr
 | [.agg [.s (.int .i64 j),.s (.str i),.s (.int .u32 v4),.s (.int .u16 a),.s (.int .u16 b),.s (.int .u16 c),.s (.int .u16 d),.s (.int .u16 e),.s (.int .u16 f),.s (.int .u16 g),.s (.int .u16 h)]]=>.need (A3 (c9 i)) (.need (ltN v4 4294967296) (.need (ok8 a b c d e f g h) (.ret (.s (.bool (N2 (mkH j i v4 (n8 a b c d e f g h))))) [])))
 | _=>.fail
def QH(args:List PV):Tr:=EU (D4 [[0,0,0,0,0,0,0,0,0,0,0]] args)
def ET:List PV->Tr
 | [.agg [.s (.int .i64 j),.s (.str i),.s (.int .u32 v4),.s (.int .u16 a),.s (.int .u16 b),.s (.int .u16 c),.s (.int .u16 d),.s (.int .u16 e),.s (.int .u16 f),.s (.int .u16 g),.s (.int .u16 h)]]=>.need (A3 (c9 i)) (.need (ltN v4 4294967296) (.need (ok8 a b c d e f g h) (.ret (.s (.str (Ai (mkH j i v4 (n8 a b c d e f g h))))) [])))
 | _=>.fail
def Ba6(args:List PV):Tr:=ET (D4 [[0,0,0,0,0,0,0,0,0,0,0]] args)
def Xt:List PV->Tr
 | [.s (.int .i64 n),.s (.sl b a 1 l)]=>.need (aa0 l isS) (.need (A3 (c9 l)) (.ret (.s (.bool (Er n (v8 elS l)))) []))
 | _=>.fail
def ED(args:List PV):Tr:=Xt (D4 [[0],[1]] args)
end
section
variable {W R : Type} (L : Nat) (Q : F4) (Y : Yh W) (s : W) (k : Out -> St W -> Option R)
noncomputable abbrev Cr:Code:=E0 af5
noncomputable def Z9(L:Nat):Cfg:=C8 L [193] (A4 [(5,[0,1,0,0,10,0])]) [] (A4 [(16,[2,0]),(15,[0,3,10,0]),(10,[0,3,10,0]),(12,[0,3,10,0]),(14,[0,3,10,0]),(8,[2,0]),(13,[0,3,1,8,0,32]),(11,[0,3,1,8,0,18]),(9,[0,3,1,8,0,5]),(7,[0,3,1,8,0]),(6,[0,3,0,9,0]),(5,[0,3,10,0,0]),(4,[0,3,10,0]),(3,[0,3]),(2,[2,0]),(1,[0,12]),(0,[0])]) [] (A4 [(0,[4]),(1,[0,3,10,0]),(2,[0,3,10,0])]) (some [2,0]) [] [] []
noncomputable def Vg{R:Type}(i:By)(v1 c g h:Int)(d:Bool)(e:By->Int->Int->Int->Option R)(f:Unit->Option R):Option R:=cond d (vl (wu8 ((wu8 (c-65))+10)) λa=>vl (bOr .u16 (Rk .u16 v1 (4:Int)) (Ib a)) λb=>e i b g h) (f ())
abbrev MG(b:Code):Prop:=∀(k:Out->St W->Option R) c v1 b2 a n4 b5,A9 (Z9 L) Q Y b ⟨gp [(0,pS c),(3,p16 v1),(1,p8 b2),(8,pI a),(0,pI n4),(32,pB b5)] 15,[],s⟩ k=Vg c v1 b2 a n4 b5 (λc v1 d a=>k .normal ⟨gp [(0,pS c),(3,p16 v1),(10,pI d),(0,pI a)] 48,[],s⟩) (λ_=>k .ret ⟨gp [(2,p16 (0:Int)),(0,pB false)] 61,[],s⟩)
theorem As6:MG (R:=R) L Q Y s (cd [1,1,1,0,1,0,0,1,1,0,0,1,1,0,1,1,1,1,1] Cr):=by intro k e v1 a c d b;unfold Vg;kernel_rfl
noncomputable def Vh{R:Type}(o:By)(v1 a l m:Int)(r:Bool)(f:By->Int->Int->Int->Option R)(q:Unit->Option R):Option R:=cond r (vl (wu8 ((wu8 (a-97))+10)) λg=>vl (bOr .u16 (Rk .u16 v1 (4:Int)) (Ib g)) λh=>f o h l m) (cond (not (ltI a 65)) (Vg o v1 a l m (not (ltI 70 a)) (λn p i j=>f n p i j) (λ_=>q ())) (Vg o v1 a l m false (λd e b c=>f d e b c) (λ_=>q ())))
abbrev Zh(b:Code):Prop:=∀(k:Out->St W->Option R) c v1 b2 a n4 b5,A9 (Z9 L) Q Y b ⟨gp [(0,pS c),(3,p16 v1),(1,p8 b2),(8,pI a),(0,pI n4),(18,pB b5)] 29,[],s⟩ k=Vh c v1 b2 a n4 b5 (λc v1 d a=>k .normal ⟨gp [(0,pS c),(3,p16 v1),(10,pI d),(0,pI a)] 48,[],s⟩) (λ_=>k .ret ⟨gp [(2,p16 (0:Int)),(0,pB false)] 61,[],s⟩)
theorem As7(a:Code)(b:MG (R:=R) L Q Y s a):Zh (R:=R) L Q Y s (cd [1,1,1,0,1,0,0,1,1,0,0,1,1,0,1,1,1] (K4 [1,1,1,0,1,0,0,1,1,0,0,1,1,0,1,1,1,1,1] a Cr)):=by intro k g v1 c e f d;unfold Vh;simp only[<-b k];kernel_rfl
theorem As8:Zh (R:=R) L Q Y s (cd [1,1,1,0,1,0,0,1,1,0,0,1,1,0,1,1,1] Cr):=by intro k e v1 a c d b;exact j8 (by kernel_rfl) (As7 L Q Y s (cd [1,1,1,0,1,0,0,1,1,0,0,1,1,0,1,1,1,1,1] Cr) (As6 L Q Y s) k e v1 a c d b)
noncomputable def Vi{R:Type}(p:By)(v1 a n o:Int)(r:Bool)(j:By->Int->Int->Int->Option R)(q:Unit->Option R):Option R:=cond r (vl (Ib (wu8 (a-48))) λl=>vl (bOr .u16 (Rk .u16 v1 (4:Int)) l) λm=>j p m n o) (cond (not (ltI a 97)) (Vh p v1 a n o (not (ltI 102 a)) (λf h b c=>j f h b c) (λ_=>q ())) (Vh p v1 a n o false (λg i d e=>j g i d e) (λ_=>q ())))
abbrev Qi(b:Code):Prop:=∀(k:Out->St W->Option R) c v1 b2 a n4 b5,A9 (Z9 L) Q Y b ⟨gp [(0,pS c),(3,p16 v1),(1,p8 b2),(8,pI a),(0,pI n4),(5,pB b5)] 42,[],s⟩ k=Vi c v1 b2 a n4 b5 (λc v1 d a=>k .normal ⟨gp [(0,pS c),(3,p16 v1),(10,pI d),(0,pI a)] 48,[],s⟩) (λ_=>k .ret ⟨gp [(2,p16 (0:Int)),(0,pB false)] 61,[],s⟩)
theorem As9(a:Code)(b:Zh (R:=R) L Q Y s a):Qi (R:=R) L Q Y s (cd [1,1,1,0,1,0,0,1,1,0,0,1,1,0,1] (K4 [1,1,1,0,1,0,0,1,1,0,0,1,1,0,1,1,1] a Cr)):=by intro k g v1 c e f d;unfold Vi;simp only[<-b k];kernel_rfl
theorem At0:Qi (R:=R) L Q Y s (cd [1,1,1,0,1,0,0,1,1,0,0,1,1,0,1] Cr):=by intro k e v1 a c d b;exact j8 (by kernel_rfl) (As9 L Q Y s (cd [1,1,1,0,1,0,0,1,1,0,0,1,1,0,1,1,1] Cr) (As8 L Q Y s) k e v1 a c d b)
noncomputable def Fd{R:Type}(L n:Nat)(b:By)(v1 q a:Int)(o:Unit->Option R)(p:Int->Option R):Option R:=match n with|0=>none|n+1=>cond (ltI a q) (cond (inR a b.length) (cond (not (ltI (bAt b a) (48:Int))) (Vi b v1 (bAt b a) q a (not (ltI 57 (bAt b a))) (λi l c d=>vl (A1 (d+1)) λe=>Fd L n i l c e o p) (λ_=>o ())) (Vi b v1 (bAt b a) q a false (λj m f g=>vl (A1 (g+1)) λh=>Fd L n j m f h o p) (λ_=>o ()))) none) (p v1)
theorem At1(a:Code)(b:Qi (R:=R) L Q Y s a)(n:Nat)(d:By)(v1 i c:Int):E7 0 ((Z9 L).keep 5) (bd (Z9 L) Q Y (cd [1,1,1,0,1,0,0] (K4 [1,1,1,0,1,0,0,1,1,0,0,1,1,0,1] a Cr))) n ⟨gp [(0,pS d),(3,p16 v1),(10,pI i),(0,pI c)] 48,[],s⟩ k =
 Fd L n d v1 i c (λ_=>k .ret ⟨gp [(2,p16 (0:Int)),(0,pB false)] 61,[],s⟩) (λv0=>k (.exit 0) ⟨gp [(4,p16 v0)] 60,[],s⟩):=by
 induction n generalizing d v1 i c with
 | zero=>rfl
 | succ n q=>rw[Fd];exact let p:=(F9 2 (F9 1 (G6 (Z9 L) Q Y (cd [1,1,1,0,1,0,0,1,1,1] Cr) (lpK 0 ((Z9 L).keep 5) (bd (Z9 L) Q Y (cd [1,1,1,0,1,0,0] (K4 [1,1,1,0,1,0,0,1,1,0,0,1,1,0,1] a Cr))) n k))));(j8 (by kernel_rfl) (A0 (A0 (A0 ((b p d v1 (bAt d c) i c (not (ltI 57 (bAt d c)))).trans (congr (congr rfl (fx4 λj m e r=>(j8 (by kernel_rfl) (A7 λf=>(q j m e f))))) (by kernel_rfl))) ((b p d v1 (bAt d c) i c false).trans (congr (congr rfl (fx4 λl o g t=>(j8 (by kernel_rfl) (A7 λh=>(q l o g h))))) (by kernel_rfl)))) rfl) rfl))
noncomputable def B57{R:Type}(L:Nat)(c:By)(b:Int->Bool->Option R):Option R:=cond (c==[]) (b 0 false) (cond (ltI 4 (c.length:Int)) (b 0 false) (Fd L L c 0 (c.length:Int) 0 (λ_=>b 0 false) (λa=>b a true)))
theorem Cp0(a:Code)(b:Qi (R:=PV × List Blk × W) L Q Y s a)(c:By):A9 (Z9 L) Q Y (cd [] (K4 [1,1,1,0,1,0,0,1,1,0,0,1,1,0,1] a Cr)) ⟨[pS c]++tps 64,[],s⟩ (I1 (Z9 L) af5)=B57 L c (λd e=>some (.tup [p16 d,pB e],[],s)):=by unfold B57;exact(j8 (by kernel_rfl) (A0 rfl (A0 rfl ((At1 L Q Y s (F9 0 (G6 (Z9 L) Q Y (cd [1,1,1,1] Cr) (I1 (Z9 L) af5))) a b L c 0 (c.length:Int) 0).trans (by kernel_rfl)))))
theorem Cp1(d:Nat)(s0):evC (Z9 L) (d+1) W Y 193 [pS s0] [] s=B57 L s0 (λa b=>some (.tup [p16 a,pB b],[],s)):=
 (evE (fn:=af5) (by kernel_rfl)).trans (j8 (by kernel_rfl) (Cp0 L (evC (Z9 L) d) Y s (cd [1,1,1,0,1,0,0,1,1,0,0,1,1,0,1] Cr) (At0 L (evC (Z9 L) d) Y s) s0))
noncomputable abbrev Bb6:Code:=E0 ah1
noncomputable def Lr(L:Nat):Cfg:=C8 L [184] (A4 [(6,[1,2,0,0,0,10,0,0])]) [(125,Uc),(193,By9),(194,C24)] (A4 [(16,[4,0]),(15,[1,4,0,10,0,0]),(14,[6]),(13,[4,0]),(12,[6,5,39]),(11,[1,4,0,0,3,0]),(10,[1,4,0,10,0,0]),(9,[1,4,0,0,0,0,7,0,0,9]),(8,[1,4,0,0,0,0,0,6,0,0]),(7,[1,4,0,0,0,8,0,0]),(6,[1,4,0,10,0,0,0]),(5,[1,4,0,10,0,0]),(4,[1,4,0]),(3,[0,0,4]),(2,[4,0]),(1,[0,0,13]),(0,[0,0])]) [193,194] (A4 [(0,[6]),(1,[1,4,0,10,0,0])]) (some [4,0]) [] [] []
noncomputable def Ed{R:Type}(L n:Nat)(a:Bool)(c:LL)(l b:Int)(d:LL)(f:LL->Option R)(g:LL->Option R):Option R:=match n with|0=>none|n+1=>cond (ltI b l) (cond (inR b c.length) (cond (okE Ia c (j0 b) 0) (cond (A3 (c9 (gX c (j0 b) 0))) (vl (↑(Ad (grp (gX c (j0 b) 0))):Int) λh=>cond (j9 (grp (gX c (j0 b) 0))) (cond (F8 (d.length+1)) (Ed L n a c l (A1 (b+1)) (d++[[(SV.int .u16 h)]]) f g) none) (cond (A3 (c9 (gX c (j0 b) 0))) (vl (↑(Ad (v4B (gX c (j0 b) 0))):Int) λe=>cond (not (j9 (v4B (gX c (j0 b) 0)))) (f d) (cond (not a) (f d) (vl (A1 ((c.length:Int)-1)) λi=>cond (ltI b i) (f d) (vl (Rl .u32 e (16:Int)) λj=>cond (F8 (d.length+2)) (g (d++[[(SV.int .u16 (Ib j))],[(SV.int .u16 (Ib e))]])) none)))) none)) none) none) none) (g d)
theorem Aa5(n last0 l1 n2 n3 l4):E7 1 ((Lr L).keep 6) (bd (Lr L) Q Y (cd [1,0,1,1,1,1,0,1,0,0] Bb6)) n ⟨gp [(1,pB last0),(4,.fl 0),(0,.s (.sl false false 1 l1)),(10,.s (.sl false false 1 l1)),(0,pI n2),(0,pI n3)] 42,[.arr true 26 1 l4],s⟩ k =
 Ed L n last0 l1 n2 n3 l4 (λa=>k .ret ⟨gp [(4,.fl 1),(0,pB false)] 57,[.arr true 26 1 a,.arr true 26 1 []],s⟩) (λa=>k (.exit 0) ⟨gp [(6,.fl 0)] 56,[.arr true 26 1 a],s⟩):=by
 induction n generalizing last0 l1 n2 n3 l4 with
 | zero=>rfl
 | succ n b=>rw[Ed];simp only[<-b];kernel_rfl
noncomputable def Bd0{R:Type}(L:Nat)(e:By)(a:Bool)(f:LL->Option R)(g:LL->Option R):Option R:=cond (e==[]) (f []) (cond (A3 e.length) (cond (1==1) (vl (C1 (pcs (j2 ([58]:List UInt8) 0 0) e)) λb=>Ed L L a b (b.length:Int) 0 [] (λd=>g d) (λc=>f c)) none) none)
theorem B58(d:Nat)(s0 last1):evC (Lr L) (d+1) W Y 184 [pS s0,pB last1] [] s=Bd0 L s0 last1 (λb=>some (.tup [.fl 0,pB true],[.arr true 26 1 b],s)) (λb=>some (.tup [.fl 1,pB false],[.arr true 26 1 b,.arr true 26 1 []],s)):=by refine(evE (fn:=ah1) (by kernel_rfl)).trans ?_;generalize evC (Lr L) d=Q;unfold Bd0;exact(j8 (by kernel_rfl) (A0 rfl (A0 (A0 (A7 λa=>((Aa5 L Q Y s (F9 0 (G6 (Lr L) Q Y (cd [1,0,1,1,1,1,1] Bb6) (I1 (Lr L) ah1))) L last1 a (a.length:Int) 0 []).trans (by kernel_rfl))) rfl) rfl)))
noncomputable abbrev B27:Code:=E0 af3
noncomputable def AO(L:Nat):Cfg:=C8 L [166] (A4 []) [(64,Am4),(184,A95)] (A4 [(10,[2,0]),(9,[2,1]),(8,[2,1,5]),(7,[2,0]),(6,[2,1,3,1,45]),(5,[2,1,2,0,0,0,0,0]),(4,[2,1,2,0,0,0,0]),(3,[2,1,1,0,0,0]),(2,[2,1,0,0,0]),(1,[0,1,1]),(0,[0,1])]) [64] (A4 []) (some [2,0]) [] [] []
noncomputable def Pq{R:Type}(p o d:LL)(q:LL->LL->Option R):Option R:=cond (decide (d.length=8)) (cond (decide (8<=d.length)) (vl ((aa1 0 d)++((aa1 8 p)++(ae3 (0+(min p.length 8)) d))) λc=>vl (A1 ((8:Int)-(o.length:Int))) λb=>cond (decide (c.length=8)) (cond (K5 b (8:Int) 8) (cond (decide (((j0 b)+(8-(j0 b)))<=c.length)) (vl ((aa1 (j0 b) c)++((aa1 (8-(j0 b)) o)++(ae3 ((j0 b)+(min o.length (8-(j0 b)))) c))) λa=>cond ((decide (8=(a.length*1)))&&(okS ⟨true,true,[.int .u16,.int .u16,.int .u16,.int .u16,.int .u16,.int .u16,.int .u16,.int .u16]⟩ (j5 a) 0)) (vl (SV.gI (j2 (j5 a) 0 SV.nilp)) λf=>vl (SV.gI (j2 (j5 a) 1 SV.nilp)) λg=>vl (SV.gI (j2 (j5 a) 2 SV.nilp)) λh=>vl (SV.gI (j2 (j5 a) 3 SV.nilp)) λi=>vl (SV.gI (j2 (j5 a) 4 SV.nilp)) λj=>vl (SV.gI (j2 (j5 a) 5 SV.nilp)) λl=>vl (SV.gI (j2 (j5 a) 6 SV.nilp)) λm=>vl (SV.gI (j2 (j5 a) 7 SV.nilp)) λn=>cond (decide (8=(d.length*1))) (vl (S8 1 d.length [(SV.int .u16 f),(SV.int .u16 g),(SV.int .u16 h),(SV.int .u16 i),(SV.int .u16 j),(SV.int .u16 l),(SV.int .u16 m),(SV.int .u16 n)]) λe=>q e a) none) none) none) none) none) none) none
abbrev Aj5(b:Code):Prop:=∀(k:Out->St W->Option R) x_z0 x1 y_z2 y3 b4 l5,A9 (AO L) Q Y b ⟨gp [(2,.ptr 0 0 0),(1,.ptr 1 0 0),(3,.s (.sl x_z0 x_z0 1 x1)),(1,.s (.sl y_z2 y_z2 1 y3)),(45,pB b4)] 11,[.arr false 27 1 l5,.arr false 27 1 l5],s⟩ k=Pq x1 y3 l5 (λa c=>k .ret ⟨gp [(2,.ptr 0 0 0),(0,pB true)] 64,[.arr false 27 1 a,.arr false 27 1 c],s⟩)
theorem Bx4:Aj5 (R:=R) L Q Y s (cd [1,1,1,1,1,1,1] B27):=by intro k a e b f c d;unfold Pq;kernel_rfl
noncomputable def v6p{R:Type}(L:Nat)(h:By)(g:Int->Int->Int->Int->Int->Int->Int->Int->Bool->LL->LL->Option R):Option R:=cond (A3 h.length) (vl ((x6 h ([58,58]:List UInt8))).1 λj=>vl (((x6 h ([58,58]:List UInt8))).2).1 λe=>cond (A3 j.length) (vl (G2 (gvs j (not (((x6 h ([58,58]:List UInt8))).2).2))) λf=>cond (A3 e.length) (vl (A1 ((f.length:Int)+(↑(c9 (G2 (gvs e true))):Int))) λi=>cond (not (j9 (Ec j (not (((x6 h ([58,58]:List UInt8))).2).2)))) (g 0 0 0 0 0 0 0 0 false (j6 8 [(SV.int .u16 (0:Int))]) (j6 8 [(SV.int .u16 (0:Int))])) (cond (not (j9 (Ec e true))) (g 0 0 0 0 0 0 0 0 false (j6 8 [(SV.int .u16 (0:Int))]) (j6 8 [(SV.int .u16 (0:Int))])) (cond (not (((x6 h ([58,58]:List UInt8))).2).2) (cond (i !=8) (g 0 0 0 0 0 0 0 0 false (j6 8 [(SV.int .u16 (0:Int))]) (j6 8 [(SV.int .u16 (0:Int))])) (cond (((x6 h ([58,58]:List UInt8))).2).2 (cond (ltI 7 i) (g 0 0 0 0 0 0 0 0 false (j6 8 [(SV.int .u16 (0:Int))]) (j6 8 [(SV.int .u16 (0:Int))])) (Pq f (G2 (gvs e true)) (j6 8 [(SV.int .u16 (0:Int))]) (λa l=>cond ((decide (8=(a.length*1)))&&(okS ⟨true,true,[.int .u16,.int .u16,.int .u16,.int .u16,.int .u16,.int .u16,.int .u16,.int .u16]⟩ (j5 a) 0)) (g (SV.gI (j2 (j5 a) 0 SV.nilp)) (SV.gI (j2 (j5 a) 1 SV.nilp)) (SV.gI (j2 (j5 a) 2 SV.nilp)) (SV.gI (j2 (j5 a) 3 SV.nilp)) (SV.gI (j2 (j5 a) 4 SV.nilp)) (SV.gI (j2 (j5 a) 5 SV.nilp)) (SV.gI (j2 (j5 a) 6 SV.nilp)) (SV.gI (j2 (j5 a) 7 SV.nilp)) true a l) none))) (Pq f (G2 (gvs e true)) (j6 8 [(SV.int .u16 (0:Int))]) (λb m=>cond ((decide (8=(b.length*1)))&&(okS ⟨true,true,[.int .u16,.int .u16,.int .u16,.int .u16,.int .u16,.int .u16,.int .u16,.int .u16]⟩ (j5 b) 0)) (g (SV.gI (j2 (j5 b) 0 SV.nilp)) (SV.gI (j2 (j5 b) 1 SV.nilp)) (SV.gI (j2 (j5 b) 2 SV.nilp)) (SV.gI (j2 (j5 b) 3 SV.nilp)) (SV.gI (j2 (j5 b) 4 SV.nilp)) (SV.gI (j2 (j5 b) 5 SV.nilp)) (SV.gI (j2 (j5 b) 6 SV.nilp)) (SV.gI (j2 (j5 b) 7 SV.nilp)) true b m) none)))) (cond (((x6 h ([58,58]:List UInt8))).2).2 (cond (ltI 7 i) (g 0 0 0 0 0 0 0 0 false (j6 8 [(SV.int .u16 (0:Int))]) (j6 8 [(SV.int .u16 (0:Int))])) (Pq f (G2 (gvs e true)) (j6 8 [(SV.int .u16 (0:Int))]) (λc n=>cond ((decide (8=(c.length*1)))&&(okS ⟨true,true,[.int .u16,.int .u16,.int .u16,.int .u16,.int .u16,.int .u16,.int .u16,.int .u16]⟩ (j5 c) 0)) (g (SV.gI (j2 (j5 c) 0 SV.nilp)) (SV.gI (j2 (j5 c) 1 SV.nilp)) (SV.gI (j2 (j5 c) 2 SV.nilp)) (SV.gI (j2 (j5 c) 3 SV.nilp)) (SV.gI (j2 (j5 c) 4 SV.nilp)) (SV.gI (j2 (j5 c) 5 SV.nilp)) (SV.gI (j2 (j5 c) 6 SV.nilp)) (SV.gI (j2 (j5 c) 7 SV.nilp)) true c n) none))) (Pq f (G2 (gvs e true)) (j6 8 [(SV.int .u16 (0:Int))]) (λd o=>cond ((decide (8=(d.length*1)))&&(okS ⟨true,true,[.int .u16,.int .u16,.int .u16,.int .u16,.int .u16,.int .u16,.int .u16,.int .u16]⟩ (j5 d) 0)) (g (SV.gI (j2 (j5 d) 0 SV.nilp)) (SV.gI (j2 (j5 d) 1 SV.nilp)) (SV.gI (j2 (j5 d) 2 SV.nilp)) (SV.gI (j2 (j5 d) 3 SV.nilp)) (SV.gI (j2 (j5 d) 4 SV.nilp)) (SV.gI (j2 (j5 d) 5 SV.nilp)) (SV.gI (j2 (j5 d) 6 SV.nilp)) (SV.gI (j2 (j5 d) 7 SV.nilp)) true d o) none)))))) none) none) none
theorem C99(b:Code)(a:Aj5 (R:=PV × List Blk × W) L Q Y s b)(f:By):A9 (AO L) Q Y (cd [] (K4 [1,1,1,1,1,1,1] b B27)) ⟨[pS f]++tps 67,[],s⟩ (I1 (AO L) af3)=v6p L f (λj l m n o p q r r8 i l10=>some (.tup [.agg [p16 j,p16 l,p16 m,p16 n,p16 o,p16 p,p16 q,p16 r],pB r8],[.arr false 27 1 i,.arr false 27 1 l10],s)):=by unfold v6p;exact let h:=(I1 (AO L) af3);(j8 (by kernel_rfl) (A0 (A7 λe=>(A7 λc=>(A0 (A7 λd=>(A0 (A7 λg=>(A0 rfl (A0 rfl (A0 (A0 rfl (A0 (A0 rfl ((a h (o7 (gvs e (not (((x6 f ([58,58]:List UInt8))).2).2))) d (o7 (gvs c true)) (G2 (gvs c true)) (ltI 7 g) (j6 8 [(SV.int .u16 (0:Int))])).trans (by kernel_rfl))) ((a h (o7 (gvs e (not (((x6 f ([58,58]:List UInt8))).2).2))) d (o7 (gvs c true)) (G2 (gvs c true)) false (j6 8 [(SV.int .u16 (0:Int))])).trans (by kernel_rfl)))) (A0 (A0 rfl ((a h (o7 (gvs e (not (((x6 f ([58,58]:List UInt8))).2).2))) d (o7 (gvs c true)) (G2 (gvs c true)) (ltI 7 g) (j6 8 [(SV.int .u16 (0:Int))])).trans (by kernel_rfl))) ((a h (o7 (gvs e (not (((x6 f ([58,58]:List UInt8))).2).2))) d (o7 (gvs c true)) (G2 (gvs c true)) false (j6 8 [(SV.int .u16 (0:Int))])).trans (by kernel_rfl))))))) rfl)) rfl))) rfl))
theorem Da0(d:Nat)(s0):evC (AO L) (d+1) W Y 166 [pS s0] [] s=v6p L s0 (λb c e f g h i j r8 a l10=>some (.tup [.agg [p16 b,p16 c,p16 e,p16 f,p16 g,p16 h,p16 i,p16 j],pB r8],[.arr false 27 1 a,.arr false 27 1 l10],s)):=
 (evE (fn:=af3) (by kernel_rfl)).trans (j8 (by kernel_rfl) (C99 L (evC (AO L) d) Y s (cd [1,1,1,1,1,1,1] B27) (Bx4 L (evC (AO L) d) Y s) s0))
noncomputable abbrev Qb:Code:=E0 ai8
noncomputable def Z1(L:Nat):Cfg:=C8 L [62] (A4 [(6,[1,0,0,0,0,0,0,0]),(3,[1,0,0,0,0,2])]) [] (A4 [(11,[2,0]),(10,[1,2,0,2]),(9,[1,2,0,2]),(8,[1,2,0,0,0,0,18]),(7,[1,2,0,0,0,0]),(6,[1,2,0,0,0,0,13]),(5,[1,2,0,0,0,0]),(4,[1,2,0,0,1]),(3,[1,2,0,2,0]),(2,[1,2,0,2]),(1,[1,2,0]),(0,[1])]) [] (A4 [(0,[4,0]),(1,[1,2,0,2]),(2,[1,2,0,0,0,0]),(3,[1,2,0,0,0,0])]) (some [2,0]) [] [] []
noncomputable def Hz{R:Type}(L n:Nat)(b a c d:Int)(e:LL)(f:Int->Int->Int->Int->LL->Option R):Option R:=match n with|0=>none|n+1=>cond (ltI (A1 (c+d)) (8:Int)) (cond (inR (A1 (c+d)) 8) (cond (okE ⟨true,false,[.int .u16]⟩ e (j0 (A1 (c+d))) 0) (vl (gE e (j0 (A1 (c+d))) 0) λg=>cond (g==0) (Hz L n b a c (A1 (d+1)) e f) (f b a c d e)) none) none) (f b a c d e)
theorem Ak9(n b a c e d):E7 1 ((Z1 L).keep 6) (bd (Z1 L) Q Y (cd [1,1,0,1,0,0,1,1,0,0,1,1,0,0,0] Qb)) n ⟨gp [(1,.ptr 0 0 0),(2,pI b),(0,pI a),(0,pI c),(0,pI e),(0,pI c)] 24,[.arr false 27 1 d],s⟩ k =
 Hz L n b a c e d (λb a c e d=>k (.exit 2) ⟨gp [(1,.ptr 0 0 0),(2,pI b),(0,pI a),(0,pI c),(0,pI e),(0,pI c)] 24,[.arr false 27 1 d],s⟩):=by
 induction n generalizing b a c e d with
 | zero=>rfl
 | succ n f=>rw[Hz];simp only[<-f];kernel_rfl
noncomputable def Ej{R:Type}(L n:Nat)(e b j:Int)(i:LL)(h:Int->Int->LL->Option R):Option R:=match n with|0=>none|n+1=>cond (ltI j 8) (Hz L L e b j 0 i (λd a c g f=>cond (ltI a g) (Ej L n c g (A1 (c+1)) f h) (Ej L n d a (A1 (c+1)) f h))) (h e b i)
theorem Al0(n b a n2 l3):E7 1 ((Z1 L).keep 3) (bd (Z1 L) Q Y (cd [1,1,0,1,0,0] Qb)) n ⟨gp [(1,.ptr 0 0 0),(2,pI b),(0,pI a),(2,pI n2)] 24,[.arr false 27 1 l3],s⟩ k =
 Ej L n b a n2 l3 (λb a i=>k (.exit 0) ⟨gp [(4,pI b),(0,pI a)] 27,[.arr false 27 1 i],s⟩):=by
 induction n generalizing b a n2 l3 with
 | zero=>rfl
 | succ n h=>rw[Ej];exact(j8 (by kernel_rfl) (A0 ((Ak9 L Q Y s (F9 2 (G6 (Z1 L) Q Y (cd [1,1,0,1,0,0,1,1,0,0,1,1,1] Qb) (F9 1 (G6 (Z1 L) Q Y (cd [1,1,0,1,0,0,1,1,1] Qb) (lpK 1 ((Z1 L).keep 3) (bd (Z1 L) Q Y (cd [1,1,0,1,0,0] Qb)) n k))))) L b a n2 0 l3).trans (congr rfl (fx5 λe c d g f=>(j8 (by kernel_rfl) (A0 (h d g (A1 (d+1)) f) (h e c (A1 (d+1)) f)))))) rfl))
noncomputable def Bi9{R:Type}(L:Nat)(d e f g h i j l:Int)(m:Int->Int->LL->Option R):Option R:=Ej L L 0 0 0 [[(SV.int .u16 d)],[(SV.int .u16 e)],[(SV.int .u16 f)],[(SV.int .u16 g)],[(SV.int .u16 h)],[(SV.int .u16 i)],[(SV.int .u16 j)],[(SV.int .u16 l)]] (λb a c=>m b a c)
theorem Cl1(d:Nat)(a0 a1 a2 a3 a4 a5 a6 a7):evC (Z1 L) (d+1) W Y 62 [.agg [p16 a0,p16 a1,p16 a2,p16 a3,p16 a4,p16 a5,p16 a6,p16 a7]] [] s=Bi9 L a0 a1 a2 a3 a4 a5 a6 a7 (λb c a=>some (.tup [pI b,pI c],[.arr false 27 1 a],s)):=by refine(evE (fn:=ai8) (by kernel_rfl)).trans ?_;generalize evC (Z1 L) d=Q;unfold Bi9;exact(j8 (by kernel_rfl) ((Al0 L Q Y s (F9 0 (G6 (Z1 L) Q Y (cd [1,1,1] Qb) (I1 (Z1 L) ai8))) L 0 0 0 [[(SV.int .u16 a0)],[(SV.int .u16 a1)],[(SV.int .u16 a2)],[(SV.int .u16 a3)],[(SV.int .u16 a4)],[(SV.int .u16 a5)],[(SV.int .u16 a6)],[(SV.int .u16 a7)]]).trans (by kernel_rfl)))
noncomputable abbrev C31:Code:=E0 ai9
noncomputable def GM(L:Nat):Cfg:=C8 L [63] (A4 [(3,[2,0,2,0,0])]) [(101,By8),(102,QT)] (A4 [(7,[2]),(6,[3,2,0,0]),(5,[3,2,0,0]),(4,[3,1,0,0,0]),(3,[3,2,0,0,0]),(2,[3,2,0,0]),(1,[0,2]),(0,[0])]) [101,102] (A4 [(0,[3]),(1,[3,2,0,0])]) (some [2]) [] [] []
noncomputable def Tt{R:Type}(L n:Nat)(h g:Bool)(c:LL)(f b:Int)(d:LL)(e:LL->Option R):Option R:=match n with|0=>none|n+1=>cond (ltI b f) (cond (inR b c.length) (cond (okE ⟨true,false,[.int .u16]⟩ c (j0 b) 0) (vl (Da3 (gE c (j0 b) 0)) λa=>cond (ltN a 65536) (cond ((16:Int)==16) (cond (F8 (d.length+1)) (Tt L n h g c f (A1 (b+1)) (d++[[(SV.str (R7 (j0 a)))]]) e) none) none) none) none) none) (e d)
theorem Bx3(n z0 t1 l2 n3 n4 l5):E7 1 ((GM L).keep 3) (bd (GM L) Q Y (cd [1,1,0,1,0,0] C31)) n ⟨gp [(3,.fl 0),(2,.s (.sl z0 t1 1 l2)),(0,pI n3),(0,pI n4)] 12,[.arr true 9 1 l5],s⟩ k =
 Tt L n z0 t1 l2 n3 n4 l5 (λb=>k (.exit 0) ⟨gp [(3,.fl 0)] 17,[.arr true 9 1 b],s⟩):=by
 induction n generalizing z0 t1 l2 n3 n4 l5 with
 | zero=>rfl
 | succ n a=>rw[Tt];simp only[<-a];kernel_rfl
noncomputable def v6j{R:Type}(L:Nat)(c b:Bool)(e:LL)(f:By->LL->Option R):Option R:=Tt L L c b e (e.length:Int) 0 [] (λa=>cond (aa0 a isS) (cond (A3 (c9 (ae0 (v8 elS a) ([58]:List UInt8)))) (cond (A3 a.length) (vl (ae0 (v8 elS a) ([58]:List UInt8)) λd=>f d a) none) none) none)
theorem C97(d:Nat)(l_z0 l_t1 l2):evC (GM L) (d+1) W Y 63 [.s (.sl l_z0 l_t1 1 l2)] [] s=v6j L l_z0 l_t1 l2 (λb a=>some (pS b,[.arr true 9 1 a],s)):=by refine(evE (fn:=ai9) (by kernel_rfl)).trans ?_;generalize evC (GM L) d=Q;unfold v6j;exact(j8 (by kernel_rfl) ((Bx3 L Q Y s (F9 0 (G6 (GM L) Q Y (cd [1,1,1] C31) (I1 (GM L) ai9))) L l_z0 l_t1 l2 (l2.length:Int) 0 []).trans (by kernel_rfl)))
noncomputable def B31(L:Nat):Cfg:=C8 L [37] (A4 []) [(62,Bb3),(63,C26)] (A4 [(4,[2]),(3,[2]),(2,[1,1,0,6]),(1,[1,1,0]),(0,[1])]) [62,63] (A4 []) (some [2]) [] [] []
noncomputable def v6f{R:Type}(L:Nat)(c d e f g h i j:Int)(p:By->LL->Option R):Option R:=cond (ok8 c d e f g h i j) (vl (↑((zGo (n8 c d e f g h i j) 0 0 0)).1:Int) λa=>vl (↑((zGo (n8 c d e f g h i j) 0 0 0)).2:Int) λb=>cond (ltI b 2) (cond (aa0 [[(SV.int .u16 c)],[(SV.int .u16 d)],[(SV.int .u16 e)],[(SV.int .u16 f)],[(SV.int .u16 g)],[(SV.int .u16 h)],[(SV.int .u16 i)],[(SV.int .u16 j)]] Vo) (cond (w9 8 8) (vl (T2 (v8 elN [[(SV.int .u16 c)],[(SV.int .u16 d)],[(SV.int .u16 e)],[(SV.int .u16 f)],[(SV.int .u16 g)],[(SV.int .u16 h)],[(SV.int .u16 i)],[(SV.int .u16 j)]])) λo=>p o [[(SV.int .u16 c)],[(SV.int .u16 d)],[(SV.int .u16 e)],[(SV.int .u16 f)],[(SV.int .u16 g)],[(SV.int .u16 h)],[(SV.int .u16 i)],[(SV.int .u16 j)]]) none) none) (cond (K5 0 a 8) (cond (aa0 (aa1 ((j0 a)-0) [[(SV.int .u16 c)],[(SV.int .u16 d)],[(SV.int .u16 e)],[(SV.int .u16 f)],[(SV.int .u16 g)],[(SV.int .u16 h)],[(SV.int .u16 i)],[(SV.int .u16 j)]]) Vo) (cond (w9 (c9 (aa1 ((j0 a)-0) [[(SV.int .u16 c)],[(SV.int .u16 d)],[(SV.int .u16 e)],[(SV.int .u16 f)],[(SV.int .u16 g)],[(SV.int .u16 h)],[(SV.int .u16 i)],[(SV.int .u16 j)]])) 8) (vl (T2 (v8 elN (aa1 ((j0 a)-0) [[(SV.int .u16 c)],[(SV.int .u16 d)],[(SV.int .u16 e)],[(SV.int .u16 f)],[(SV.int .u16 g)],[(SV.int .u16 h)],[(SV.int .u16 i)],[(SV.int .u16 j)]]))) λl=>cond (J7 l.length 2) (vl (l++[58,58]) λm=>cond (K5 (A1 (a+b)) (8:Int) 8) (cond (aa0 (aa1 (8-(j0 (A1 (a+b)))) (ae3 (j0 (A1 (a+b))) [[(SV.int .u16 c)],[(SV.int .u16 d)],[(SV.int .u16 e)],[(SV.int .u16 f)],[(SV.int .u16 g)],[(SV.int .u16 h)],[(SV.int .u16 i)],[(SV.int .u16 j)]])) Vo) (cond (w9 (c9 (aa1 (8-(j0 (A1 (a+b)))) (ae3 (j0 (A1 (a+b))) [[(SV.int .u16 c)],[(SV.int .u16 d)],[(SV.int .u16 e)],[(SV.int .u16 f)],[(SV.int .u16 g)],[(SV.int .u16 h)],[(SV.int .u16 i)],[(SV.int .u16 j)]]))) 8) (vl (T2 (v8 elN (aa1 (8-(j0 (A1 (a+b)))) (ae3 (j0 (A1 (a+b))) [[(SV.int .u16 c)],[(SV.int .u16 d)],[(SV.int .u16 e)],[(SV.int .u16 f)],[(SV.int .u16 g)],[(SV.int .u16 h)],[(SV.int .u16 i)],[(SV.int .u16 j)]])))) λn=>cond (J7 m.length n.length) (p (m++n) [[(SV.int .u16 c)],[(SV.int .u16 d)],[(SV.int .u16 e)],[(SV.int .u16 f)],[(SV.int .u16 g)],[(SV.int .u16 h)],[(SV.int .u16 i)],[(SV.int .u16 j)]]) none) none) none) none) none) none) none) none)) none
theorem C95(d:Nat)(a0 a1 a2 a3 a4 a5 a6 a7):evC (B31 L) (d+1) W Y 37 [.agg [p16 a0,p16 a1,p16 a2,p16 a3,p16 a4,p16 a5,p16 a6,p16 a7]] [] s=v6f L a0 a1 a2 a3 a4 a5 a6 a7 (λb a=>some (pS b,[.arr false 27 1 a],s)):=by refine(evE (fn:=Tryz.f37) (by kernel_rfl)).trans ?_;generalize evC (B31 L) d=Q;unfold v6f;kernel_rfl
noncomputable abbrev Bb9:Code:=E0 ai7
noncomputable def Lu(L:Nat):Cfg:=C8 L [57] (A4 [(3,[2,0,0])]) [] (A4 [(6,[2]),(4,[3,0]),(5,[3,0]),(3,[3,0,6]),(2,[3,0]),(1,[0,2]),(0,[0])]) [] (A4 [(0,[3]),(1,[3,0])]) (some [2]) [] [] []
noncomputable def Al{R:Type}(L n:Nat)(a:By)(v1:Int)(f:By->Option R):Option R:=match n with|0=>none|n+1=>cond (ltI 0 v1) (vl (Ib ((z7 v1 (16:Int))+1)) λb=>cond (K5 (z7 v1 (16:Int)) b 16) (vl (cut ([48,49,50,51,52,53,54,55,56,57,97,98,99,100,101,102]:List UInt8) (z7 v1 (16:Int)) b) λd=>cond (J7 d.length a.length) (vl (Ib (aa6 v1 (16:Int))) λg=>Al L n (d++a) g f) none) none) (cond (a==[]) (vl (Ib ((z7 v1 (16:Int))+1)) λc=>cond (K5 (z7 v1 (16:Int)) c 16) (vl (cut ([48,49,50,51,52,53,54,55,56,57,97,98,99,100,101,102]:List UInt8) (z7 v1 (16:Int)) c) λe=>cond (J7 e.length a.length) (vl (Ib (aa6 v1 (16:Int))) λh=>Al L n (e++a) h f) none) none) (f a))
theorem Af1(n a v1):E7 0 ((Lu L).keep 3) (bd (Lu L) Q Y (cd [1,1,0,1,0,0] Bb9)) n ⟨gp [(3,pS a),(0,p16 v1)] 18,[],s⟩ k =
 Al L n a v1 (λa=>k (.exit 0) ⟨gp [(3,pS a)] 19,[],s⟩):=by
 induction n generalizing a v1 with
 | zero=>rfl
 | succ n b=>rw[Al];simp only[<-b];kernel_rfl
noncomputable def Bg2{R:Type}(L:Nat)(b:Int)(c:By->Option R):Option R:=Al L L ([]:List UInt8) b (λa=>c a)
theorem Cb5(d:Nat)(g0):evC (Lu L) (d+1) W Y 57 [p16 g0] [] s=Bg2 L g0 (λa=>some (pS a,[],s)):=by refine(evE (fn:=ai7) (by kernel_rfl)).trans ?_;generalize evC (Lu L) d=Q;unfold Bg2;exact(j8 (by kernel_rfl) ((Af1 L Q Y s (F9 0 (G6 (Lu L) Q Y (cd [1,1,1] Bb9) (I1 (Lu L) ai7))) L ([]:List UInt8) g0).trans (by kernel_rfl)))
noncomputable abbrev Ob:Code:=E0 ag3
noncomputable def X3(L:Nat):Cfg:=C8 L [33] (A4 [(12,[1,0,0,0,2,0]),(6,[1,0,0,0,0,0]),(3,[1,0,0,0,0])]) [(57,Ba5)] (A4 [(20,[2]),(13,[1,1,0,2,0]),(19,[1,1,0,2,0]),(18,[1,1,0,2,0]),(17,[1,1,0,2,0,45]),(16,[1,1,0,2,0]),(15,[1,1,0,2,0]),(14,[1,1,0,2,0,29]),(12,[1,1,0,2,0,24]),(11,[1,1,0,2,0]),(10,[1,1,0,2]),(4,[1,1,0,0]),(9,[1,1,0,0]),(8,[1,1,0,0,0,22]),(7,[1,1,0,0,0]),(6,[1,1,0,0,0,17]),(5,[1,1,0,0,0]),(3,[1,1,0,0,4]),(2,[1,1,0,0]),(1,[1,1,0]),(0,[1])]) [57] (A4 [(4,[7]),(5,[1,1,0,2,0]),(0,[1,1,0]),(1,[1,1,0,0]),(2,[1,1,0,0,0]),(3,[1,1,0,0,0])]) (some [2]) [] [] []
noncomputable def Mr{R:Type}(L n:Nat)(b a c d:Int)(e:LL)(f:Int->Int->Int->Int->LL->Option R):Option R:=match n with|0=>none|n+1=>cond (ltI (A1 (c+d)) (8:Int)) (cond (inR (A1 (c+d)) 8) (cond (okE ⟨true,false,[.int .u16]⟩ e (j0 (A1 (c+d))) 0) (vl (gE e (j0 (A1 (c+d))) 0) λg=>cond (g==0) (Mr L n b a c (A1 (d+1)) e f) (f b a c d e)) none) none) (f b a c d e)
theorem A41(n b a c e d):E7 1 ((X3 L).keep 6) (bd (X3 L) Q Y (cd [1,1,0,1,0,0,1,0,0,1,0,0,0] Ob)) n ⟨gp [(1,.ptr 0 0 0),(1,pI b),(0,pI a),(0,pI c),(0,pI e)] 57,[.arr false 27 1 d],s⟩ k =
 Mr L n b a c e d (λb a c e d=>k (.exit 2) ⟨gp [(1,.ptr 0 0 0),(1,pI b),(0,pI a),(0,pI c),(0,pI e)] 57,[.arr false 27 1 d],s⟩):=by
 induction n generalizing b a c e d with
 | zero=>rfl
 | succ n f=>rw[Mr];simp only[<-f];kernel_rfl
noncomputable def Jb{R:Type}(L n:Nat)(e b i:Int)(j:LL)(h:Int->Int->LL->Option R):Option R:=match n with|0=>none|n+1=>cond (ltI i 8) (Mr L L e b i 0 j (λd a c g f=>cond (ltI a g) (Jb L n c g (A1 (c+1)) f h) (Jb L n d a (A1 (c+1)) f h))) (h e b j)
theorem A42(n b a i2 l3):E7 1 ((X3 L).keep 3) (bd (X3 L) Q Y (cd [1,1,0,1,0,0] Ob)) n ⟨gp [(1,.ptr 0 0 0),(1,pI b),(0,pI a),(0,pI i2)] 58,[.arr false 27 1 l3],s⟩ k =
 Jb L n b a i2 l3 (λb a i=>k (.exit 0) ⟨gp [(1,.ptr 0 0 0),(1,pI b),(0,pI a)] 59,[.arr false 27 1 i],s⟩):=by
 induction n generalizing b a i2 l3 with
 | zero=>rfl
 | succ n h=>rw[Jb];exact(j8 (by kernel_rfl) (A0 ((A41 L Q Y s (F9 2 (G6 (X3 L) Q Y (cd [1,1,0,1,0,0,1,0,0,1,1] Ob) (F9 1 (G6 (X3 L) Q Y (cd [1,1,0,1,0,0,1,1] Ob) (lpK 1 ((X3 L).keep 3) (bd (X3 L) Q Y (cd [1,1,0,1,0,0] Ob)) n k))))) L b a i2 0 l3).trans (congr rfl (fx5 λe c d g f=>(j8 (by kernel_rfl) (A0 (h d g (A1 (d+1)) f) (h e c (A1 (d+1)) f)))))) rfl))
noncomputable def S7{R:Type}(L n:Nat)(e a:Int)(d:By)(b:Int)(c:LL)(l:By->LL->Option R):Option R:=match n with|0=>none|n+1=>cond (ltI b 8) (cond (b==e) (cond (J7 d.length 2) (vl (d++[58,58]) λp=>vl (A1 (a-1)) λm=>vl (A1 ((A1 (b+m))+1)) λo=>S7 L n e a p o c l) none) (cond (not (d==[])) (vl (A1 ((d.length:Int)-1)) λf=>cond (inR f d.length) (cond ((bAt d f)!=58) (cond (J7 d.length 1) (vl (d++[58]) λg=>cond (inR b 8) (cond (okE ⟨true,false,[.int .u16]⟩ c (j0 b) 0) (cond (ltN (gE c (j0 b) 0) 65536) (vl (R7 (j0 (gE c (j0 b) 0))) λh=>cond (J7 g.length h.length) (S7 L n e a (g++h) (A1 (b+1)) c l) none) none) none) none) none) (cond (inR b 8) (cond (okE ⟨true,false,[.int .u16]⟩ c (j0 b) 0) (cond (ltN (gE c (j0 b) 0) 65536) (vl (R7 (j0 (gE c (j0 b) 0))) λi=>cond (J7 d.length i.length) (S7 L n e a (d++i) (A1 (b+1)) c l) none) none) none) none)) none) (cond (inR b 8) (cond (okE ⟨true,false,[.int .u16]⟩ c (j0 b) 0) (cond (ltN (gE c (j0 b) 0) 65536) (vl (R7 (j0 (gE c (j0 b) 0))) λj=>cond (J7 d.length j.length) (S7 L n e a (d++j) (A1 (b+1)) c l) none) none) none) none))) (l d c)
theorem A43(n at0 most1 s2 i3 l4):E7 1 ((X3 L).keep 12) (bd (X3 L) Q Y (cd [1,1,1,1,0,1,0,0] Ob)) n ⟨gp [(1,.ptr 0 0 0),(1,pI at0),(0,pI most1),(2,pS s2),(0,pI i3)] 55,[.arr false 27 1 l4],s⟩ k =
 S7 L n at0 most1 s2 i3 l4 (λc b=>k (.exit 4) ⟨gp [(7,pS c)] 56,[.arr false 27 1 b],s⟩):=by
 induction n generalizing at0 most1 s2 i3 l4 with
 | zero=>rfl
 | succ n a=>rw[S7];simp only[<-a];kernel_rfl
noncomputable def Cw6{R:Type}(L:Nat)(f g h i j l m n:Int)(o:By->LL->Option R):Option R:=Jb L L (-1) 1 0 [[(SV.int .u16 f)],[(SV.int .u16 g)],[(SV.int .u16 h)],[(SV.int .u16 i)],[(SV.int .u16 j)],[(SV.int .u16 l)],[(SV.int .u16 m)],[(SV.int .u16 n)]] (λb a e=>S7 L L b a ([]:List UInt8) 0 e (λd c=>o d c))
theorem Cw7(d:Nat)(a0 a1 a2 a3 a4 a5 a6 a7):evC (X3 L) (d+1) W Y 33 [.agg [p16 a0,p16 a1,p16 a2,p16 a3,p16 a4,p16 a5,p16 a6,p16 a7]] [] s=Cw6 L a0 a1 a2 a3 a4 a5 a6 a7 (λf e=>some (pS f,[.arr false 27 1 e],s)):=by refine(evE (fn:=ag3) (by kernel_rfl)).trans ?_;generalize evC (X3 L) d=Q;unfold Cw6;exact(j8 (by kernel_rfl) ((A42 L Q Y s (F9 0 (G6 (X3 L) Q Y (cd [1,1,1] Ob) (I1 (X3 L) ag3))) L (-1) 1 0 [[(SV.int .u16 a0)],[(SV.int .u16 a1)],[(SV.int .u16 a2)],[(SV.int .u16 a3)],[(SV.int .u16 a4)],[(SV.int .u16 a5)],[(SV.int .u16 a6)],[(SV.int .u16 a7)]]).trans (congr rfl (fx3 λb a c=>(j8 (by kernel_rfl) ((A43 L Q Y s (F9 4 (G6 (X3 L) Q Y (cd [1,1,1,1,1] Ob) (I1 (X3 L) ag3))) L b a ([]:List UInt8) 0 c).trans (by kernel_rfl)))))))
noncomputable def GF(L:Nat):Cfg:=C8 L [155] (A4 []) [] (A4 [(1,[2]),(0,[0])]) [] (A4 []) (some [2]) [] [] []
noncomputable def VO{R:Type}(L:Nat)(n0:Int)(a:Bool->Option R):Option R:=cond (not (ltI n0 0)) (cond (not (ltI 1114111 n0)) (cond (ltI n0 55296) (a true) (a (ltI 57343 n0))) (a false)) (a false)
theorem Br3(d:Nat)(n0):evC (GF L) (d+1) W Y 155 [pI n0] [] s=VO L n0 (λa=>some (pB a,[],s)):=by refine(evE (fn:=Tryz.f155) (by kernel_rfl)).trans ?_;generalize evC (GF L) d=Q;unfold VO;kernel_rfl
noncomputable abbrev Nz:Code:=E0 af2
noncomputable def X1(L:Nat):Cfg:=C8 L [157] (A4 [(6,[0,5,0])]) [] (A4 [(9,[6]),(8,[0,6]),(7,[0,6]),(6,[0,6,11]),(5,[0,6]),(4,[0]),(2,[0,0]),(3,[0,0]),(1,[0,0,6]),(0,[0,0,0])]) [] (A4 [(0,[0,6]),(1,[0,6])]) (some [6]) [] [] []
noncomputable def Gl{R:Type}(L n:Nat)(a b:Int)(e:Int->Int->Option R):Option R:=match n with|0=>none|n+1=>cond (ltI 455 a) (vl (A1 (aa6 a (35:Int))) λc=>vl (A1 (b+36)) λd=>Gl L n c d e) (e a b)
theorem VH(n a b):E7 0 ((X1 L).keep 6) (bd (X1 L) Q Y (cd [1,1,1,1,0,0,0] Nz)) n ⟨gp [(0,pI a),(6,pI b)] 23,[],s⟩ k =
 Gl L n a b (λa b=>k (.exit 0) ⟨gp [(0,pI a),(6,pI b)] 23,[],s⟩):=by
 induction n generalizing a b with
 | zero=>rfl
 | succ n c=>rw[Gl];simp only[<-c];kernel_rfl
noncomputable def Gk{R:Type}(L:Nat)(c b:Int)(i:Int->Option R):Option R:=cond (b !=0) (vl (A1 (aa6 c b)) λh=>Gl L L (A1 (c+h)) 0 (λa e=>vl (A1 ((36:Int)*a)) λf=>vl (A1 (a+38)) λd=>cond (d !=0) (vl (A1 (aa6 f d)) λg=>i (A1 (e+g))) none)) none
abbrev BK(b:Code):Prop:=∀(k:Out->St W->Option R) delta0 count1,A9 (X1 L) Q Y b ⟨gp [(0,pI delta0),(0,pI count1)] 29,[],s⟩ k=Gk L delta0 count1 (λn0=>k .ret ⟨gp [(6,pI n0)] 24,[],s⟩)
theorem VG:BK (R:=R) L Q Y s (cd [1,1] Nz):=by intro k a b;unfold Gk;exact(j8 (by kernel_rfl) (A0 (A7 λc=>((VH L Q Y s (F9 0 (G6 (X1 L) Q Y (cd [1,1,1,1,1] Nz) k)) L (A1 (a+c)) 0).trans (by kernel_rfl))) rfl))
noncomputable def IS{R:Type}(L:Nat)(b a:Int)(c:Bool)(h:Int->Option R):Option R:=cond c (vl (A1 (aa6 b (700:Int))) λf=>Gk L f a (λd=>h d)) (vl (A1 (aa6 b (2:Int))) λg=>Gk L g a (λe=>h e))
theorem Bp8(e:Code)(a:BK (R:=PV × List Blk × W) L Q Y s e)(c b:Int)(d:Bool):A9 (X1 L) Q Y (cd [] (K4 [1,1] e Nz)) ⟨[pI c,pI b,pB d]++tps 28,[],s⟩ (I1 (X1 L) af2)=IS L c b d (λi=>some (pI i,[],s)):=by unfold IS;exact let h:=(I1 (X1 L) af2);(j8 (by kernel_rfl) (A0 (A7 λf=>((a h f b).trans (by kernel_rfl))) (A7 λg=>((a h g b).trans (by kernel_rfl)))))
theorem Bp9(d:Nat)(delta0 count1 first2):evC (X1 L) (d+1) W Y 157 [pI delta0,pI count1,pB first2] [] s=IS L delta0 count1 first2 (λa=>some (pI a,[],s)):=
 (evE (fn:=af2) (by kernel_rfl)).trans (j8 (by kernel_rfl) (Bp8 L (evC (X1 L) d) Y s (cd [1,1] Nz) (VG L (evC (X1 L) d) Y s) delta0 count1 first2))
noncomputable def Ap5(L:Nat):Cfg:=C8 L [176] (A4 []) [] (A4 [(3,[2]),(2,[2]),(1,[0,3]),(0,[0])]) [] (A4 []) (some [2]) [] [] []
noncomputable def Ct8{R:Type}(L:Nat)(a:Int)(d:Int->Option R):Option R:=cond (ltI a 26) (vl (wu8 (A1 ((97:Int)+a))) λb=>d b) (vl (A1 ((A1 ((48:Int)+a))-26)) λc=>d (wu8 c))
theorem Ct9(d:Nat)(d0):evC (Ap5 L) (d+1) W Y 176 [pI d0] [] s=Ct8 L d0 (λa=>some (p8 a,[],s)):=by refine(evE (fn:=Tryz.f176) (by kernel_rfl)).trans ?_;generalize evC (Ap5 L) d=Q;unfold Ct8;kernel_rfl
noncomputable abbrev Sj:Code:=E0 af4
noncomputable def Jm(L:Nat):Cfg:=C8 L [187] (A4 []) [] (A4 [(7,[2]),(2,[2]),(4,[2]),(6,[2]),(5,[0,22]),(3,[0,12]),(1,[0,2]),(0,[0])]) [] (A4 [(0,[])]) (some [2]) [] [] []
noncomputable def Wf{R:Type}(a:Int)(g:Bool)(e:Int->Option R)(f:Int->Bool->Option R):Option R:=cond g (vl (A1 (wu8 (a-65))) λb=>e b) (cond (not (ltI a 48)) (cond (not (ltI 57 a)) (vl (A1 (wu8 (a-48))) λc=>vl (A1 (c+26)) λd=>e d) (f a (not (ltI 57 a)))) (f a false))
abbrev NL(b:Code):Prop:=∀(k:Out->St W->Option R) a c,A9 (Jm L) Q Y b ⟨gp [(0,p8 a),(12,pB c)] 20,[],s⟩ k=Wf a c (λn0=>k .ret ⟨gp [(2,pI n0)] 31,[],s⟩) (λa c=>k .normal ⟨gp [(0,p8 a),(22,pB c)] 10,[],s⟩)
theorem Az3:NL (R:=R) L Q Y s (cd [1,0,0,1,1,1] Sj):=by intro k a b;unfold Wf;kernel_rfl
noncomputable def Wg{R:Type}(a:Int)(l:Bool)(f:Int->Option R)(j:Int->Bool->Option R):Option R:=cond l (vl (A1 (wu8 (a-97))) λg=>f g) (cond (not (ltI a 65)) (Wf a (not (ltI 90 a)) (λh=>f h) (λb c=>j b c)) (Wf a false (λi=>f i) (λd e=>j d e)))
abbrev Zy(b:Code):Prop:=∀(k:Out->St W->Option R) a c,A9 (Jm L) Q Y b ⟨gp [(0,p8 a),(2,pB c)] 30,[],s⟩ k=Wg a c (λn0=>k .ret ⟨gp [(2,pI n0)] 31,[],s⟩) (λa c=>k .normal ⟨gp [(0,p8 a),(22,pB c)] 10,[],s⟩)
theorem Az4(a:Code)(b:NL (R:=R) L Q Y s a):Zy (R:=R) L Q Y s (cd [1,0,0,1] (K4 [1,0,0,1,1,1] a Sj)):=by intro k c d;unfold Wg;simp only[<-b k];kernel_rfl
theorem Az5:Zy (R:=R) L Q Y s (cd [1,0,0,1] Sj):=by intro k a b;exact j8 (by kernel_rfl) (Az4 L Q Y s (cd [1,0,0,1,1,1] Sj) (Az3 L Q Y s) k a b)
noncomputable def Ca3{R:Type}(L:Nat)(c:Int)(d:Int->Option R):Option R:=cond (not (ltI c 97)) (Wg c (not (ltI 122 c)) (λa=>d a) (λe f=>d (-1))) (Wg c false (λb=>d b) (λg h=>d (-1)))
theorem Cu9(b:Code)(a:Zy (R:=PV × List Blk × W) L Q Y s b)(c:Int):A9 (Jm L) Q Y (cd [] (K4 [1,0,0,1] b Sj)) ⟨[p8 c]++tps 33,[],s⟩ (I1 (Jm L) af4)=Ca3 L c (λe=>some (pI e,[],s)):=by unfold Ca3;exact let d:=(F9 0 (G6 (Jm L) Q Y (cd [1,1] Sj) (I1 (Jm L) af4)));(j8 (by kernel_rfl) (A0 ((a d c (not (ltI 122 c))).trans (by kernel_rfl)) ((a d c false).trans (by kernel_rfl))))
theorem Cv0(d:Nat)(b0):evC (Jm L) (d+1) W Y 187 [p8 b0] [] s=Ca3 L b0 (λa=>some (pI a,[],s)):=
 (evE (fn:=af4) (by kernel_rfl)).trans (j8 (by kernel_rfl) (Cu9 L (evC (Jm L) d) Y s (cd [1,0,0,1] Sj) (Az5 L (evC (Jm L) d) Y s) b0))
end
section
variable {W R : Type} (L : Nat) (Q : F4) (Y : Yh W) (s : W) (k : Out -> St W -> Option R)
noncomputable def Ap3(L:Nat):Cfg:=C8 L [110] (A4 []) [] (A4 [(1,[4]),(0,[0,0])]) [] (A4 []) (some [4]) [] [] []
noncomputable def Cs0{R:Type}(L:Nat)(c a:By)(d:Bool->Option R):Option R:=cond (not (ltI (c.length:Int) (a.length:Int))) (cond (K5 0 (a.length:Int) c.length) (vl (cut c 0 (a.length:Int)) λb=>d (b==a)) none) (d false)
theorem Cs1(d:Nat)(s0 prefix1):evC (Ap3 L) (d+1) W Y 110 [pS s0,pS prefix1] [] s=Cs0 L s0 prefix1 (λa=>some (pB a,[],s)):=by refine(evE (fn:=Tryz.f110) (by kernel_rfl)).trans ?_;generalize evC (Ap3 L) d=Q;unfold Cs0;kernel_rfl
noncomputable def Ao9(L:Nat):Cfg:=C8 L [69] (A4 []) [(110,PN)] (A4 [(1,[4]),(0,[0,0])]) [110] (A4 []) (some [4]) [] [] []
noncomputable def CI{R:Type}(L:Nat)(b a:By)(c:Bool->Option R):Option R:=cond (A3 b.length) (c (p7 a b)) none
theorem Cq2(d:Nat)(s0 prefix1):evC (Ao9 L) (d+1) W Y 69 [pS s0,pS prefix1] [] s=CI L s0 prefix1 (λa=>some (pB a,[],s)):=by refine(evE (fn:=Tryz.f69) (by kernel_rfl)).trans ?_;generalize evC (Ao9 L) d=Q;unfold CI;kernel_rfl
noncomputable def Ap4(L:Nat):Cfg:=C8 L [149] (A4 []) [] (A4 [(1,[4]),(0,[0,0])]) [] (A4 []) (some [4]) [] [] []
noncomputable def Cs2{R:Type}(L:Nat)(b a:By)(e:Bool->Option R):Option R:=cond (not (ltI (b.length:Int) (a.length:Int))) (vl (A1 ((b.length:Int)-(a.length:Int))) λc=>cond (K5 c (b.length:Int) b.length) (vl (cut b c (b.length:Int)) λd=>e (d==a)) none) (e false)
theorem Cs3(d:Nat)(s0 suffix1):evC (Ap4 L) (d+1) W Y 149 [pS s0,pS suffix1] [] s=Cs2 L s0 suffix1 (λa=>some (pB a,[],s)):=by refine(evE (fn:=Tryz.f149) (by kernel_rfl)).trans ?_;generalize evC (Ap4 L) d=Q;unfold Cs2;kernel_rfl
noncomputable def Ap0(L:Nat):Cfg:=C8 L [116] (A4 []) [(149,Al7)] (A4 [(1,[4]),(0,[0,0])]) [149] (A4 []) (some [4]) [] [] []
noncomputable def Cq3{R:Type}(L:Nat)(b a:By)(c:Bool->Option R):Option R:=cond (A3 b.length) (c (ab8 a b)) none
theorem Cq4(d:Nat)(s0 suffix1):evC (Ap0 L) (d+1) W Y 116 [pS s0,pS suffix1] [] s=Cq3 L s0 suffix1 (λa=>some (pB a,[],s)):=by refine(evE (fn:=Tryz.f116) (by kernel_rfl)).trans ?_;generalize evC (Ap0 L) d=Q;unfold Cq3;kernel_rfl
noncomputable def SC(L:Nat):Cfg:=C8 L [168] (A4 []) [(149,Al7)] (A4 [(3,[4]),(2,[4]),(1,[0,0,5]),(0,[0,0])]) [149] (A4 []) (some [4]) [] [] []
noncomputable def Be7{R:Type}(L:Nat)(b a:By)(d:By->Option R):Option R:=cond (A3 b.length) (cond (ab8 a b) (vl (A1 ((b.length:Int)-(a.length:Int))) λc=>cond (K5 0 c b.length) (d (cut b 0 c)) none) (d b)) none
theorem B82(d:Nat)(s0 suffix1):evC (SC L) (d+1) W Y 168 [pS s0,pS suffix1] [] s=Be7 L s0 suffix1 (λa=>some (pS a,[],s)):=by refine(evE (fn:=Tryz.f168) (by kernel_rfl)).trans ?_;generalize evC (SC L) d=Q;unfold Be7;kernel_rfl
noncomputable def SM(L:Nat):Cfg:=C8 L [144] (A4 []) [(168,Ba2)] (A4 [(1,[4]),(0,[0,0])]) [168] (A4 []) (some [4]) [] [] []
noncomputable def Bh2{R:Type}(L:Nat)(b a:By)(c:By->Option R):Option R:=cond (A3 b.length) (c (WX b a)) none
theorem Ce9(d:Nat)(s0 suffix1):evC (SM L) (d+1) W Y 144 [pS s0,pS suffix1] [] s=Bh2 L s0 suffix1 (λa=>some (pS a,[],s)):=by refine(evE (fn:=Tryz.f144) (by kernel_rfl)).trans ?_;generalize evC (SM L) d=Q;unfold Bh2;kernel_rfl
noncomputable def RX(L:Nat):Cfg:=C8 L [105] (A4 []) [(110,PN)] (A4 [(3,[4,0]),(2,[4,0]),(1,[0,0,7]),(0,[0,0])]) [110] (A4 []) (some [4,0]) [] [] []
noncomputable def Be3{R:Type}(L:Nat)(b a:By)(d:By->Bool->Option R):Option R:=cond (A3 b.length) (cond (not (p7 a b)) (d b false) (cond (K5 (a.length:Int) (b.length:Int) b.length) (vl (cut b (a.length:Int) (b.length:Int)) λc=>d c true) none)) none
theorem B75(d:Nat)(s0 prefix1):evC (RX L) (d+1) W Y 105 [pS s0,pS prefix1] [] s=Be3 L s0 prefix1 (λa b=>some (.tup [pS a,pB b],[],s)):=by refine(evE (fn:=Tryz.f105) (by kernel_rfl)).trans ?_;generalize evC (RX L) d=Q;unfold Be3;kernel_rfl
noncomputable def Ao4(L:Nat):Cfg:=C8 L [67] (A4 []) [(105,A99)] (A4 [(1,[4,0]),(0,[0,0])]) [105] (A4 []) (some [4,0]) [] [] []
noncomputable def Cm8{R:Type}(L:Nat)(b a:By)(c:By->Bool->Option R):Option R:=cond (A3 b.length) (c (Hb b a) (p7 a b)) none
theorem Cm9(d:Nat)(s0 prefix1):evC (Ao4 L) (d+1) W Y 67 [pS s0,pS prefix1] [] s=Cm8 L s0 prefix1 (λa b=>some (.tup [pS a,pB b],[],s)):=by refine(evE (fn:=Tryz.f67) (by kernel_rfl)).trans ?_;generalize evC (Ao4 L) d=Q;unfold Cm8;kernel_rfl
noncomputable abbrev YM:Code:=E0 ah0
noncomputable def Dw(L:Nat):Cfg:=C8 L [152] (A4 [(11,[0,0,0,0,4,0,0])]) [(171,Ka),(172,Am3),(128,FD)] (A4 [(18,[8]),(17,[9,0]),(16,[0,0,0,0,5,0]),(15,[0,0,0,0,5,0]),(14,[0,0,0,0,5,0,0]),(13,[0,0,0,0,5,0,0,29]),(12,[0,0,0,0,5,0,0]),(11,[0,0,0,0,5,0,25]),(10,[0,0,0,0,5,0]),(9,[0,0,0,0,5]),(8,[0,0,0,0,5]),(7,[0,0,0,0]),(6,[0,0,0,0]),(5,[0,0,0,0,16]),(4,[8]),(3,[0,0,0,0,11]),(2,[8]),(1,[0,0,0,0,9]),(0,[0,0,0,0])]) [172,128] (A4 [(0,[0,8,0]),(1,[0,0,0,0,5,0])]) (some [8]) [] [] []
noncomputable def Bh{R:Type}(L n:Nat)(c b:By)(a l d:Int)(g:LL)(j:By->Int->LL->Option R):Option R:=match n with|0=>none|n+1=>cond (ltI d l) (cond (A3 c.length) (cond (ltI (af1 c b) (0:Int)) (j c d g) (vl (A1 ((af1 c b)+a)) λe=>cond (K5 0 e c.length) (cond (inR d g.length) (cond (decide ((j0 d)<g.length)) (vl (ai1 g (j0 d) (H8 (j2 g (j0 d) []) 0 [(SV.str (cut c 0 e))])) λh=>vl (A1 ((af1 c b)+(b.length:Int))) λf=>cond (K5 f (c.length:Int) c.length) (vl (cut c f (c.length:Int)) λi=>Bh L n i b a l (A1 (d+1)) h j) none) none) none) none)) none) (j c d g)
theorem Vj(n a sep1 sepSave2 n3 i4 l5):E7 1 ((Dw L).keep 11) (bd (Dw L) Q Y (cd [1,1,1,1,1,1,1,1,0,0,0] YM)) n ⟨gp [(0,pS a),(0,pS sep1),(0,pI sepSave2),(0,pI n3),(5,.fl 0),(0,pI i4)] 55,[.arr false 9 1 l5],s⟩ k =
 Bh L n a sep1 sepSave2 n3 i4 l5 (λa b d=>k (.exit 0) ⟨gp [(0,pS a),(8,.fl 0),(0,pI b)] 55,[.arr false 9 1 d],s⟩):=by
 induction n generalizing a sep1 sepSave2 n3 i4 l5 with
 | zero=>rfl
 | succ n c=>rw[Bh];simp only[<-c];kernel_rfl
noncomputable def HM{R:Type}(L:Nat)(t d:By)(a u:Int)(w:Unit->Option R)(v:Nat->LL->Option R):Option R:=cond (u==0) (w ()) (cond (d==[]) none (cond (ltI u 0) (cond (d.length==1) (vl (↑(List.count (j2 d 0 0) t):Int) λn=>vl (A1 ((t.length:Int)+1)) λo=>vl (if (o<(A1 (n+1))) then o else (A1 (n+1))) λg=>cond (((decide ((0:Int)<=g))&&(decide (g<=g)))&&(F8 (j0 g))) (Bh L L t d a (A1 (g-1)) 0 (j6 (j0 g) [(SV.str ([]:List UInt8))]) (λq b e=>cond (inR b e.length) (cond (decide ((j0 b)<e.length)) (vl (ai1 e (j0 b) (H8 (j2 e (j0 b) []) 0 [(SV.str q)])) λi=>vl (A1 (b+1)) λl=>cond (K5 0 l i.length) (v ((j0 l)-0) i) none) none) none)) none) none) (vl (A1 ((t.length:Int)+1)) λp=>vl (if (p<u) then p else u) λh=>cond (((decide ((0:Int)<=h))&&(decide (h<=h)))&&(F8 (j0 h))) (Bh L L t d a (A1 (h-1)) 0 (j6 (j0 h) [(SV.str ([]:List UInt8))]) (λr c f=>cond (inR c f.length) (cond (decide ((j0 c)<f.length)) (vl (ai1 f (j0 c) (H8 (j2 f (j0 c) []) 0 [(SV.str r)])) λj=>vl (A1 (c+1)) λm=>cond (K5 0 m j.length) (v ((j0 m)-0) j) none) none) none)) none)))
theorem MH(d:Nat)(s0 sep1 sepSave2 n3):evC (Dw L) (d+1) W Y 152 [pS s0,pS sep1,pI sepSave2,pI n3] [] s=HM L s0 sep1 sepSave2 n3 (λ_=>some (.fl 0,[.arr true 9 1 []],s)) (λc f=>some (.vw 0 0 c,[.arr false 9 1 f],s)):=by refine(evE (fn:=ah0) (by kernel_rfl)).trans ?_;generalize evC (Dw L) d=Q;unfold HM;exact let e:=(F9 0 (G6 (Dw L) Q Y (cd [1,1,1,1,1,1,1,1,1] YM) (I1 (Dw L) ah0)));(j8 (by kernel_rfl) (A0 rfl (A0 rfl (A0 (A0 (A7 λg=>(A7 λh=>(A7 λa=>(A0 ((Vj L Q Y s e L s0 sep1 sepSave2 (A1 (a-1)) 0 (j6 (j0 a) [(SV.str ([]:List UInt8))])).trans (by kernel_rfl)) rfl)))) rfl) (A7 λi=>(A7 λb=>(A0 ((Vj L Q Y s e L s0 sep1 sepSave2 (A1 (b-1)) 0 (j6 (j0 b) [(SV.str ([]:List UInt8))])).trans (by kernel_rfl)) rfl)))))))
noncomputable def GI(L:Nat):Cfg:=C8 L [125] (A4 []) [(152,XV)] (A4 [(1,[4]),(0,[0,0])]) [] (A4 []) (some [4]) [] [] []
noncomputable def WO{R:Type}(L:Nat)(c a:By)(d:LL->Option R):Option R:=cond (A3 c.length) (cond (a.length==1) (cond ((0:Int)==0) (cond (((-1):Int)==((-1):Int)) (vl (C1 (pcs (j2 a 0 0) c)) λb=>d b) none) none) none) none
theorem Bv1(d:Nat)(s0 sep1):evC (GI L) (d+1) W Y 125 [pS s0,pS sep1] [] s=WO L s0 sep1 (λa=>some (.s (.sl false false 1 a),[],s)):=by refine(evE (fn:=Tryz.f125) (by kernel_rfl)).trans ?_;generalize evC (GI L) d=Q;unfold WO;kernel_rfl
noncomputable abbrev B21:Code:=E0 aj0
noncomputable def So(L:Nat):Cfg:=C8 L [66] (A4 [(3,[0,1,0,6,0])]) [] (A4 [(10,[2]),(9,[0,2,6,0]),(8,[0,2,6,0]),(7,[0,2,1,4,0]),(6,[0,2,1,4,0,10]),(5,[0,2,1,4,0]),(4,[0,2,0,5,0]),(3,[0,2,6,0,0]),(2,[0,2,6,0]),(1,[0,2]),(0,[0])]) [] (A4 [(0,[3]),(1,[0,2,6,0])]) (some [2]) [] [] []
noncomputable def Ff{R:Type}(L n:Nat)(b:By)(e a:Int)(c:LL)(d:LL->Option R):Option R:=match n with|0=>none|n+1=>cond (ltI a e) (cond (inR a b.length) (cond (not (ltI (bAt b a) (65:Int))) (cond (not (ltI 90 (bAt b a))) (vl (wu8 ((bAt b a)+32)) λf=>cond (F8 (c.length+1)) (Ff L n b e (A1 (a+1)) (c++[[(SV.int .u8 f)]]) d) none) (cond (F8 (c.length+1)) (Ff L n b e (A1 (a+1)) (c++[[(SV.int .u8 (bAt b a))]]) d) none)) (cond (F8 (c.length+1)) (Ff L n b e (A1 (a+1)) (c++[[(SV.int .u8 (bAt b a))]]) d) none)) none) (d c)
theorem Av4(n s0 n1 n2 l3):E7 1 ((So L).keep 3) (bd (So L) Q Y (cd [1,1,0,1,0,0] B21)) n ⟨gp [(0,pS s0),(2,.fl 0),(6,pI n1),(0,pI n2)] 20,[.arr false 5 1 l3],s⟩ k =
 Ff L n s0 n1 n2 l3 (λb=>k (.exit 0) ⟨gp [(3,.fl 0)] 28,[.arr false 5 1 b],s⟩):=by
 induction n generalizing s0 n1 n2 l3 with
 | zero=>rfl
 | succ n a=>rw[Ff];simp only[<-a];kernel_rfl
noncomputable def Cr8{R:Type}(L:Nat)(b:By)(c:By->LL->Option R):Option R:=cond ((decide ((0:Int)<=(b.length:Int)))&&(F8 (j0 (b.length:Int)))) (Ff L L b (b.length:Int) 0 [] (λa=>cond (aa0 a Td) (c (v8 Rf a) a) none)) none
theorem Cr9(d:Nat)(s0):evC (So L) (d+1) W Y 66 [pS s0] [] s=Cr8 L s0 (λb a=>some (pS b,[.arr false 5 1 a],s)):=by refine(evE (fn:=aj0) (by kernel_rfl)).trans ?_;generalize evC (So L) d=Q;unfold Cr8;exact(j8 (by kernel_rfl) (A0 ((Av4 L Q Y s (F9 0 (G6 (So L) Q Y (cd [1,1,1] B21) (I1 (So L) aj0))) L s0 (s0.length:Int) 0 []).trans (by kernel_rfl)) rfl))
noncomputable def Ao7(L:Nat):Cfg:=C8 L [95] (A4 []) [(69,DY)] (A4 [(1,[2]),(0,[0])]) [69] (A4 []) (some [2]) [] [] []
noncomputable def Cp8{R:Type}(L:Nat)(a:By)(b:Bool->Option R):Option R:=cond (A3 a.length) (cond (p7 ([48,120]:List UInt8) a) (b true) (cond (A3 a.length) (b (p7 ([48,88]:List UInt8) a)) none)) none
theorem Cp9(d:Nat)(s0):evC (Ao7 L) (d+1) W Y 95 [pS s0] [] s=Cp8 L s0 (λa=>some (pB a,[],s)):=by refine(evE (fn:=Tryz.f95) (by kernel_rfl)).trans ?_;generalize evC (Ao7 L) d=Q;unfold Cp8;kernel_rfl
noncomputable abbrev El:Code:=E0 ag6
noncomputable def V8(L:Nat):Cfg:=C8 L [97] (A4 [(3,[0,0,2,0,0,4,0])]) [] (A4 [(18,[4,0]),(17,[0,0,4,4,0]),(16,[0,0,4,4,0]),(15,[4,0]),(14,[0,0,4,1,2,0,39]),(9,[0,0,4,1,2,0]),(11,[0,0,4,1,2,0]),(13,[0,0,4,1,2,0]),(7,[4,0]),(12,[0,0,4,2,1,0,26]),(10,[0,0,4,2,1,0,15]),(8,[0,0,4,2,1,0,5]),(6,[0,0,4,2,1,0]),(5,[0,0,4,0,3,0]),(4,[0,0,4,0,3,0]),(3,[0,0,4,4,0,0]),(2,[0,0,4,4,0]),(1,[0,0,4]),(0,[0,0])]) [] (A4 [(0,[6]),(1,[0,0,4,4,0]),(2,[0,0,4,1,2,0])]) (some [4,0]) [] [] []
noncomputable def Ut{R:Type}(m:By)(a i b j l:Int)(n:Bool)(g:By->Int->Int->Int->Int->Int->Option R)(h:Unit->Option R):Option R:=cond n (vl (A1 (wu8 (b-97))) λc=>vl (A1 (c+10)) λd=>g m a i d j l) (cond (not (ltI b 65)) (cond (not (ltI 70 b)) (vl (A1 (wu8 (b-65))) λe=>vl (A1 (e+10)) λf=>g m a i f j l) (h ())) (h ()))
abbrev MA(b:Code):Prop:=∀(k:Out->St W->Option R) f a c b3 d e b6,A9 (V8 L) Q Y b ⟨gp [(0,pS f),(0,pI a),(4,pI c),(2,p8 b3),(1,pI d),(0,pI e),(15,pB b6)] 32,[],s⟩ k=Ut f a c b3 d e b6 (λf a c g d e=>k .normal ⟨gp [(0,pS f),(0,pI a),(4,pI c),(1,pI g),(2,pI d),(0,pI e)] 48,[],s⟩) (λ_=>k .ret ⟨gp [(4,pI (0:Int)),(0,pB false)] 55,[],s⟩)
theorem Ar0:MA (R:=R) L Q Y s (cd [1,1,0,1,0,0,1,1,0,0,1,1,0,1,0,1,1,1] El):=by intro k g a d b e f c;unfold Ut;kernel_rfl
noncomputable def Uu{R:Type}(v:By)(a q d r t:Int)(x:Bool)(m:By->Int->Int->Int->Int->Int->Option R)(w:Unit->Option R):Option R:=cond x (vl (A1 (wu8 (d-48))) λn=>m v a q n r t) (cond (not (ltI d 97)) (Ut v a q d r t (not (ltI 102 d)) (λu c o l p f=>m u c o l p f) (λ_=>w ())) (Ut v a q d r t false (λj b g e h i=>m j b g e h i) (λ_=>w ())))
abbrev Qg(b:Code):Prop:=∀(k:Out->St W->Option R) f a c b3 d e b6,A9 (V8 L) Q Y b ⟨gp [(0,pS f),(0,pI a),(4,pI c),(2,p8 b3),(1,pI d),(0,pI e),(5,pB b6)] 42,[],s⟩ k=Uu f a c b3 d e b6 (λf a c g d e=>k .normal ⟨gp [(0,pS f),(0,pI a),(4,pI c),(1,pI g),(2,pI d),(0,pI e)] 48,[],s⟩) (λ_=>k .ret ⟨gp [(4,pI (0:Int)),(0,pB false)] 55,[],s⟩)
theorem Ar1(a:Code)(b:MA (R:=R) L Q Y s a):Qg (R:=R) L Q Y s (cd [1,1,0,1,0,0,1,1,0,0,1,1,0,1,0,1] (K4 [1,1,0,1,0,0,1,1,0,0,1,1,0,1,0,1,1,1] a El)):=by intro k i c f d g h e;unfold Uu;simp only[<-b k];kernel_rfl
theorem Ar2:Qg (R:=R) L Q Y s (cd [1,1,0,1,0,0,1,1,0,0,1,1,0,1,0,1] El):=by intro k g a d b e f c;exact j8 (by kernel_rfl) (Ar1 L Q Y s (cd [1,1,0,1,0,0,1,1,0,0,1,1,0,1,0,1,1,1] El) (Ar0 L Q Y s) k g a d b e f c)
noncomputable def Uv{R:Type}(j:By)(a g d h i:Int)(e:Unit->Option R)(f:By->Int->Int->Int->Int->Option R):Option R:=cond (not (ltI d a)) (e ()) (vl (A1 ((A1 (g*a))+d)) λb=>vl (if ((1099511627776:Int)<b) then (1099511627776:Int) else b) λc=>f j a c h i)
abbrev Zb(b:Code):Prop:=∀(k:Out->St W->Option R) e a c d3 d n5,A9 (V8 L) Q Y b ⟨gp [(0,pS e),(0,pI a),(4,pI c),(1,pI d3),(2,pI d),(0,pI n5)] 48,[],s⟩ k=Uv e a c d3 d n5 (λ_=>k .ret ⟨gp [(4,pI (0:Int)),(0,pB false)] 55,[],s⟩) (λe a c f d=>k .normal ⟨gp [(0,pS e),(0,pI a),(4,pI c),(4,pI f),(0,pI d)] 48,[],s⟩)
theorem Ar3:Zb (R:=R) L Q Y s (cd [1,1,0,1,0,0,1,1,0,0,1,1,1] El):=by intro k f a c b d e;unfold Uv;kernel_rfl
noncomputable def Ip{R:Type}(L n:Nat)(g:By)(e H I f:Int)(h:Unit->Option R)(G:Int->Option R):Option R:=match n with|0=>none|n+1=>cond (ltI f I) (cond (inR f g.length) (cond (not (ltI (bAt g f) (48:Int))) (Uu g e H (bAt g f) I f (not (ltI 57 (bAt g f))) (λB a l i m o=>Uv B a l i m o (λ_=>h ()) (λC b p q r=>vl (A1 (r+1)) λt=>Ip L n C b p q t h G)) (λ_=>h ())) (Uu g e H (bAt g f) I f false (λD c u j v w=>Uv D c u j v w (λ_=>h ()) (λF d x y z=>vl (A1 (z+1)) λA=>Ip L n F d x y A h G)) (λ_=>h ()))) none) (G H)
theorem Ar4(b:Code)(d:Qg (R:=R) L Q Y s b)(a:Code)(e:Zb (R:=R) L Q Y s a)(n:Nat)(l:By)(c C D j:Int):E7 0 ((V8 L).keep 3) (bd (V8 L) Q Y (cd [1,1,0,1,0,0] (K4 [1,1,0,1,0,0,1,1,0,0,1,1,1] a (K4 [1,1,0,1,0,0,1,1,0,0,1,1,0,1,0,1] b El)))) n ⟨gp [(0,pS l),(0,pI c),(4,pI C),(4,pI D),(0,pI j)] 48,[],s⟩ k =
 Ip L n l c C D j (λ_=>k .ret ⟨gp [(4,pI (0:Int)),(0,pB false)] 55,[],s⟩) (λn0=>k (.exit 0) ⟨gp [(6,pI n0)] 54,[],s⟩):=by
 induction n generalizing l c C D j with
 | zero=>rfl
 | succ n M=>rw[Ip];exact let J:=(F9 1 (G6 (V8 L) Q Y (cd [1,1,0,1,0,0,1,1,1] El) (lpK 0 ((V8 L).keep 3) (bd (V8 L) Q Y (cd [1,1,0,1,0,0] (K4 [1,1,0,1,0,0,1,1,0,0,1,1,1] a (K4 [1,1,0,1,0,0,1,1,0,0,1,1,0,1,0,1] b El)))) n k)));let K:=(F9 2 (G6 (V8 L) Q Y a J));(j8 (by kernel_rfl) (A0 (A0 (A0 ((d K l c C (bAt l j) D j (not (ltI 57 (bAt l j)))).trans (congr (congr rfl (fx6 λF f p m q r=>(j8 (by kernel_rfl) ((e J F f p m q r).trans (congr (congr rfl (by kernel_rfl)) (fx5 λG g t u N=>(j8 (by kernel_rfl) (A7 λv=>(M G g t u v))))))))) (by kernel_rfl))) ((d K l c C (bAt l j) D j false).trans (congr (congr rfl (fx6 λH h w o x y=>(j8 (by kernel_rfl) ((e J H h w o x y).trans (congr (congr rfl (by kernel_rfl)) (fx5 λI i z A O=>(j8 (by kernel_rfl) (A7 λB=>(M I i z A B))))))))) (by kernel_rfl)))) rfl) rfl))
noncomputable def B42{R:Type}(L:Nat)(d:By)(a:Int)(c:Int->Bool->Option R):Option R:=Ip L L d a 0 (d.length:Int) 0 (λ_=>c 0 false) (λb=>c b true)
theorem Cn7(a:Code)(d:Qg (R:=PV × List Blk × W) L Q Y s a)(b:Code)(e:Zb (R:=PV × List Blk × W) L Q Y s b)(f:By)(c:Int):A9 (V8 L) Q Y (cd [] (K4 [1,1,0,1,0,0,1,1,0,0,1,1,1] b (K4 [1,1,0,1,0,0,1,1,0,0,1,1,0,1,0,1] a El))) ⟨[pS f,pI c]++tps 59,[],s⟩ (I1 (V8 L) ag6)=B42 L f c (λg h=>some (.tup [pI g,pB h],[],s)):=by unfold B42;exact(j8 (by kernel_rfl) ((Ar4 L Q Y s (F9 0 (G6 (V8 L) Q Y (cd [1,1,1] El) (I1 (V8 L) ag6))) a d b e L f c 0 (f.length:Int) 0).trans (by kernel_rfl)))
theorem Cn8(d:Nat)(s0 base1):evC (V8 L) (d+1) W Y 97 [pS s0,pI base1] [] s=B42 L s0 base1 (λa b=>some (.tup [pI a,pB b],[],s)):=
 (evE (fn:=ag6) (by kernel_rfl)).trans (j8 (by kernel_rfl) (Cn7 L (evC (V8 L) d) Y s (cd [1,1,0,1,0,0,1,1,0,0,1,1,0,1,0,1] El) (Ar2 L (evC (V8 L) d) Y s) (cd [1,1,0,1,0,0,1,1,0,0,1,1,1] El) (Ar3 L (evC (V8 L) d) Y s) s0 base1))
noncomputable def B30(L:Nat):Cfg:=C8 L [96] (A4 []) [(95,Al4),(97,OQ)] (A4 [(7,[2,0]),(2,[2,0]),(4,[2,0]),(6,[2,0]),(5,[0,14]),(3,[0,6]),(1,[0,3]),(0,[0])]) [95,97] (A4 [(0,[0])]) (some [2,0]) [] [] []
noncomputable def num{R:Type}(L:Nat)(a:By)(d:Int->Bool->Option R):Option R:=cond (a==[]) (d 0 false) (cond (A3 a.length) (cond (Bx a) (cond (K5 2 (a.length:Int) a.length) (vl (cut a 2 (a.length:Int)) λb=>cond (A3 b.length) (cond (ltN 16 17) (vl (↑(Ad (E9 16 0 b)):Int) λe=>d e (j9 (E9 16 0 b))) none) none) none) (cond (ltI 1 (a.length:Int)) (cond (inR 0 a.length) (cond ((bAt a (0:Int))==48) (cond (K5 1 (a.length:Int) a.length) (vl (cut a 1 (a.length:Int)) λc=>cond (A3 c.length) (cond (ltN 8 17) (vl (↑(Ad (E9 8 0 c)):Int) λf=>d f (j9 (E9 8 0 c))) none) none) none) (cond (A3 a.length) (cond (ltN 10 17) (vl (↑(Ad (E9 10 0 a)):Int) λg=>d g (j9 (E9 10 0 a))) none) none)) none) (cond (A3 a.length) (cond (ltN 10 17) (vl (↑(Ad (E9 10 0 a)):Int) λh=>d h (j9 (E9 10 0 a))) none) none))) none)
theorem C76(d:Nat)(s0):evC (B30 L) (d+1) W Y 96 [pS s0] [] s=num L s0 (λa b=>some (.tup [pI a,pB b],[],s)):=by refine(evE (fn:=Tryz.f96) (by kernel_rfl)).trans ?_;generalize evC (B30 L) d=Q;unfold num;kernel_rfl
noncomputable def SE(L:Nat):Cfg:=C8 L [94] (A4 []) [(125,Uc)] (A4 [(5,[2]),(4,[3]),(3,[3,0,13]),(2,[3,0]),(1,[3]),(0,[0])]) [] (A4 []) (some [2]) [] [] []
noncomputable def parts{R:Type}(L:Nat)(e:By)(c:LL->Option R):Option R:=cond (A3 e.length) (cond (1==1) (vl (C1 (pcs (j2 ([46]:List UInt8) 0 0) e)) λa=>vl (A1 ((a.length:Int)-1)) λb=>cond (ltI 0 b) (cond (inR b a.length) (cond (okE Ia a (j0 b) 0) (vl (gX a (j0 b) 0) λd=>cond (d==[]) (cond (K5 0 b a.length) (c (cut a 0 b)) none) (c a)) none) none) (c a)) none) none
theorem B98(d:Nat)(s0):evC (SE L) (d+1) W Y 94 [pS s0] [] s=parts L s0 (λa=>some (.s (.sl false false 1 a),[],s)):=by refine(evE (fn:=Tryz.f94) (by kernel_rfl)).trans ?_;generalize evC (SE L) d=Q;unfold parts;kernel_rfl
noncomputable def Yu(L:Nat):Cfg:=C8 L [58] (A4 []) [(94,PW),(95,Al4),(96,Bz7),(97,OQ)] (A4 [(7,[2]),(6,[4,3]),(5,[2]),(4,[6]),(3,[4,13]),(2,[4]),(1,[3]),(0,[0])]) [95,96,97] (A4 []) (some [2]) [] [] []
noncomputable def CZ{R:Type}(L:Nat)(c:By)(d:Bool->Option R):Option R:=cond (A3 c.length) (vl (A1 ((↑(c9 (C1 (E4 c))):Int)-1)) λb=>cond (inR b (c9 (C1 (E4 c)))) (cond (okE Ia (C1 (E4 c)) (j0 b) 0) (vl (gX (C1 (E4 c)) (j0 b) 0) λa=>cond (A3 a.length) (cond (Bx a) (cond (A3 a.length) (vl (↑(Ad (Ak a)):Int) λe=>d (j9 (Ak a))) none) (cond (A3 a.length) (cond (ltN 10 17) (vl (↑(Ad (E9 10 0 a)):Int) λf=>cond (j9 (E9 10 0 a)) (d (not (a==[]))) (d false)) none) none)) none) none) none) none
theorem Ax0(d:Nat)(s0):evC (Yu L) (d+1) W Y 58 [pS s0] [] s=CZ L s0 (λa=>some (pB a,[],s)):=by refine(evE (fn:=Tryz.f58) (by kernel_rfl)).trans ?_;generalize evC (Yu L) d=Q;unfold CZ;kernel_rfl
noncomputable abbrev B23:Code:=E0 ag9
noncomputable def Sq(L:Nat):Cfg:=C8 L [145] (A4 [(6,[2,0,0,0,10,0,0])]) [(94,PW),(96,Bz7)] (A4 [(20,[2,0]),(19,[4,0,10,0,0]),(18,[4,0,10,0,0]),(17,[2,0]),(16,[4,0,2,1,5,0,0,29]),(15,[4,0,2,1,5,0,0]),(14,[4,0,10,0,0]),(13,[2,0]),(12,[4,0,2,7,0,0,17]),(11,[4,0,2,7,0,0,15]),(10,[2,0]),(9,[4,0,0,1,7,0,0,10]),(8,[4,0,0,1,0,6,0,0]),(7,[4,0,0,0,8,0,0]),(6,[4,0,10,0,0,0]),(5,[4,0,10,0,0]),(4,[4,0]),(3,[2,0]),(2,[4,10]),(1,[4]),(0,[0])]) [96] (A4 [(0,[5]),(1,[4,0,10,0,0])]) (some [2,0]) [] [] []
noncomputable def Ix{R:Type}(L n:Nat)(a:LL)(v1 l d:Int)(e:Unit->Option R)(h:Int->Option R):Option R:=match n with|0=>none|n+1=>cond (ltI d l) (cond (inR d a.length) (cond (okE Ia a (j0 d) 0) (cond (A3 (c9 (gX a (j0 d) 0))) (vl (↑(Ad (Ak (gX a (j0 d) 0))):Int) λb=>cond (not (j9 (Ak (gX a (j0 d) 0)))) (e ()) (vl (A1 ((a.length:Int)-1)) λi=>cond (ltI d i) (cond (ltI 255 b) (e ()) (vl (bOr .i64 (Rk .i64 v1 (8:Int)) b) λj=>Ix L n a j l (A1 (d+1)) e h)) (vl (A1 ((5:Int)-(a.length:Int))) λc=>cond (decide ((0:Int)<=(A1 ((8:Int)*c)))) (vl (Rk .i64 (1:Int) (A1 ((8:Int)*c))) λf=>cond (not (ltI b f)) (e ()) (cond (decide ((0:Int)<=(A1 ((8:Int)*c)))) (vl (Rk .i64 v1 (A1 ((8:Int)*c))) λg=>Ix L n a (bOr .i64 g b) l (A1 (d+1)) e h) none)) none))) none) none) none) (h v1)
theorem Az2(n l0 v1 n2 n3):E7 0 ((Sq L).keep 6) (bd (Sq L) Q Y (cd [1,0,1,1,1,1,0,1,0,0] B23)) n ⟨gp [(4,.s (.sl false false 1 l0)),(0,pI v1),(10,.s (.sl false false 1 l0)),(0,pI n2),(0,pI n3)] 38,[],s⟩ k =
 Ix L n l0 v1 n2 n3 (λ_=>k .ret ⟨gp [(2,p32 (0:Int)),(0,pB false)] 53,[],s⟩) (λv0=>k (.exit 0) ⟨gp [(5,pI v0)] 51,[],s⟩):=by
 induction n generalizing l0 v1 n2 n3 with
 | zero=>rfl
 | succ n a=>rw[Ix];simp only[<-a];kernel_rfl
noncomputable def Cu3{R:Type}(L:Nat)(b:By)(c:Int->Bool->Option R):Option R:=cond (A3 b.length) (cond (ltI 4 (↑(c9 (C1 (E4 b))):Int)) (c 0 false) (Ix L L (C1 (E4 b)) 0 (↑(c9 (C1 (E4 b))):Int) 0 (λ_=>c 0 false) (λa=>c (Ch5 a) true))) none
theorem Cu4(d:Nat)(s0):evC (Sq L) (d+1) W Y 145 [pS s0] [] s=Cu3 L s0 (λa b=>some (.tup [p32 a,pB b],[],s)):=by refine(evE (fn:=ag9) (by kernel_rfl)).trans ?_;generalize evC (Sq L) d=Q;unfold Cu3;exact(j8 (by kernel_rfl) (A0 (A0 rfl ((Az2 L Q Y s (F9 0 (G6 (Sq L) Q Y (cd [1,0,1,1,1,1,1] B23) (I1 (Sq L) ag9))) L (C1 (E4 s0)) 0 (↑(c9 (C1 (E4 s0))):Int) 0).trans (by kernel_rfl))) rfl))
noncomputable abbrev C30:Code:=E0 ah2
noncomputable def GL(L:Nat):Cfg:=C8 L [194] (A4 [(6,[2,0,1,9,0,0])]) [(125,Uc),(97,OQ),(61,Al6)] (A4 [(13,[2,0]),(12,[5,9,0,0]),(11,[5,9,0,0]),(10,[2,0]),(9,[5,2,6,0,0,19]),(8,[5,1,0,0,5,0,0]),(7,[5,1,7,0,0]),(6,[5,9,0,0,0]),(5,[5,9,0,0]),(4,[4,0]),(3,[2,0]),(2,[4,9]),(1,[4]),(0,[0])]) [97,61] (A4 [(0,[5]),(1,[5,9,0,0])]) (some [2,0]) [] [] []
noncomputable def Ts{R:Type}(L n:Nat)(v0:Int)(c:LL)(h b:Int)(d:Unit->Option R)(g:Int->Option R):Option R:=match n with|0=>none|n+1=>cond (ltI b h) (cond (inR b c.length) (cond (okE Ia c (j0 b) 0) (cond (A3 (c9 (gX c (j0 b) 0))) (cond (ltN 10 17) (vl (↑(Ad (E9 10 0 (gX c (j0 b) 0))):Int) λa=>cond (not (j9 (E9 10 0 (gX c (j0 b) 0)))) (d ()) (cond (ltI 255 a) (d ()) (cond (ltN a 4294967296) (vl (o6 (j0 a)) λf=>cond (not (f==(gX c (j0 b) 0))) (d ()) (vl (bOr .u32 (Rk .u32 v0 (8:Int)) (Ch5 a)) λe=>Ts L n e c h (A1 (b+1)) d g)) none))) none) none) none) none) (g v0)
theorem Bx2(n v0 l1 n2 n3):E7 0 ((GL L).keep 6) (bd (GL L) Q Y (cd [1,1,1,1,0,1,0,0] C30)) n ⟨gp [(5,p32 v0),(9,.s (.sl false false 1 l1)),(0,pI n2),(0,pI n3)] 27,[],s⟩ k =
 Ts L n v0 l1 n2 n3 (λ_=>k .ret ⟨gp [(2,p32 (0:Int)),(0,pB false)] 41,[],s⟩) (λv0=>k (.exit 0) ⟨gp [(5,p32 v0)] 39,[],s⟩):=by
 induction n generalizing v0 l1 n2 n3 with
 | zero=>rfl
 | succ n a=>rw[Ts];simp only[<-a];kernel_rfl
noncomputable def v4p{R:Type}(L:Nat)(d:By)(b:Int->Bool->Option R):Option R:=cond (A3 d.length) (cond (1==1) (vl (C1 (pcs (j2 ([46]:List UInt8) 0 0) d)) λa=>cond ((a.length:Int)!=4) (b 0 false) (Ts L L 0 a (a.length:Int) 0 (λ_=>b 0 false) (λc=>b c true))) none) none
theorem C93(d:Nat)(s0):evC (GL L) (d+1) W Y 194 [pS s0] [] s=v4p L s0 (λb c=>some (.tup [p32 b,pB c],[],s)):=by refine(evE (fn:=ah2) (by kernel_rfl)).trans ?_;generalize evC (GL L) d=Q;unfold v4p;exact(j8 (by kernel_rfl) (A0 (A0 (A7 λa=>(A0 rfl ((Bx2 L Q Y s (F9 0 (G6 (GL L) Q Y (cd [1,1,1,1,1] C30) (I1 (GL L) ah2))) L 0 a (a.length:Int) 0).trans (by kernel_rfl)))) rfl) rfl))
noncomputable abbrev C29:Code:=E0 ai5
noncomputable def GK(L:Nat):Cfg:=C8 L [36] (A4 [(3,[0,1,0,0])]) [(61,Al6)] (A4 [(6,[2]),(4,[0,2,0]),(5,[0,2,0]),(3,[0,2,0,1]),(2,[0,2,0]),(1,[0,2]),(0,[0])]) [61] (A4 [(0,[3]),(1,[0,2,0])]) (some [2]) [] [] []
noncomputable def Hy{R:Type}(L n:Nat)(v0:Int)(a:By)(e:Int)(f:By->Option R):Option R:=match n with|0=>none|n+1=>cond (not (ltI e 0)) (cond (decide ((0:Int)<=e)) (vl (An6 .u32 (Rl .u32 v0 e) (255:Int)) λb=>cond (ltN (A1 b) 4294967296) (vl (o6 (j0 (A1 b))) λc=>cond (J7 c.length 1) (vl (c++[46]) λd=>cond (J7 a.length d.length) (Hy L n v0 (a++d) (A1 (e-8)) f) none) none) none) none) (f a)
theorem Bx1(n v0 out1 i2):E7 0 ((GK L).keep 3) (bd (GK L) Q Y (cd [1,1,0,1,0,0] C29)) n ⟨gp [(0,p32 v0),(2,pS out1),(0,pI i2)] 18,[],s⟩ k =
 Hy L n v0 out1 i2 (λa=>k (.exit 0) ⟨gp [(3,pS a)] 19,[],s⟩):=by
 induction n generalizing v0 out1 i2 with
 | zero=>rfl
 | succ n b=>rw[Hy];simp only[<-b];kernel_rfl
noncomputable def v4f{R:Type}(L:Nat)(v0:Int)(d:By->Option R):Option R:=Hy L L v0 ([]:List UInt8) 24 (λa=>vl (A1 ((a.length:Int)-1)) λb=>cond (K5 0 b a.length) (vl (cut a 0 b) λc=>d c) none)
theorem C92(d:Nat)(v0):evC (GK L) (d+1) W Y 36 [p32 v0] [] s=v4f L v0 (λa=>some (pS a,[],s)):=by refine(evE (fn:=ai5) (by kernel_rfl)).trans ?_;generalize evC (GK L) d=Q;unfold v4f;exact(j8 (by kernel_rfl) ((Bx1 L Q Y s (F9 0 (G6 (GK L) Q Y (cd [1,1,1] C29) (I1 (GK L) ai5))) L v0 ([]:List UInt8) 24).trans (by kernel_rfl)))
noncomputable abbrev LM:Code:=E0 ai6
noncomputable def Cu(L:Nat):Cfg:=C8 L [50] (A4 [(2,[0,1,0])]) [] (A4 [(6,[2]),(3,[0,2]),(5,[2]),(4,[0,2,15]),(2,[0,2,3]),(1,[0,2]),(0,[0])]) [] (A4 [(0,[0]),(1,[0,2])]) (some [2]) [] [] []
noncomputable def Ba{R:Type}(L n:Nat)(a:By)(b:Int)(c:Unit->Option R)(d:By->Option R):Option R:=match n with|0=>none|n+1=>cond (ltI b (a.length:Int)) (cond (inR b a.length) (cond (ltI (bAt a b) (48:Int)) (c ()) (cond (inR b a.length) (cond (ltI 57 (bAt a b)) (c ()) (Ba L n a (A1 (b+1)) c d)) none)) none) (d a)
theorem KM(n a i1):E7 0 ((Cu L).keep 2) (bd (Cu L) Q Y (cd [1,0,1,0,0] LM)) n ⟨gp [(0,pS a),(2,pI i1)] 18,[],s⟩ k =
 Ba L n a i1 (λ_=>k .ret ⟨gp [(2,pB false)] 19,[],s⟩) (λa=>k (.exit 0) ⟨gp [(0,pS a)] 21,[],s⟩):=by
 induction n generalizing a i1 with
 | zero=>rfl
 | succ n b=>rw[Ba];simp only[<-b];kernel_rfl
noncomputable def DE{R:Type}(L:Nat)(c:By)(b:Bool->Option R):Option R:=Ba L L c 0 (λ_=>b false) (λa=>b (not (a==[])))
theorem A02(d:Nat)(s0):evC (Cu L) (d+1) W Y 50 [pS s0] [] s=DE L s0 (λa=>some (pB a,[],s)):=by refine(evE (fn:=ai6) (by kernel_rfl)).trans ?_;generalize evC (Cu L) d=Q;unfold DE;exact(j8 (by kernel_rfl) ((KM L Q Y s (F9 0 (G6 (Cu L) Q Y (cd [1,1] LM) (I1 (Cu L) ai6))) L s0 0).trans (by kernel_rfl)))
noncomputable abbrev YR:Code:=E0 ai4
noncomputable def Gw(L:Nat):Cfg:=C8 L [30] (A4 [(4,[0,0,2,0,0,0])]) [] (A4 [(9,[4]),(5,[0,0,3,0,0]),(8,[0,0,3,0,0]),(7,[0,0,3,1]),(6,[0,0,3,0,0,16]),(4,[0,0,3,0,0,3]),(3,[0,0,3,0,0]),(2,[0,0,3,0]),(1,[0,0,3]),(0,[0,0])]) [] (A4 [(0,[5]),(1,[0,0,3,0,0])]) (some [4]) [] [] []
noncomputable def V3{R:Type}(L n:Nat)(c:By)(d a b:Int)(e:LL)(f:LL->Option R):Option R:=match n with|0=>none|n+1=>cond (not (ltI (c.length:Int) b)) (cond (b==(c.length:Int)) (cond (K5 a b c.length) (cond (F8 (e.length+1)) (V3 L n c d (A1 (b+1)) (A1 (b+1)) (e++[[(SV.str (cut c a b))]]) f) none) none) (cond (inR b c.length) (cond ((bAt c b)==d) (cond (K5 a b c.length) (cond (F8 (e.length+1)) (V3 L n c d (A1 (b+1)) (A1 (b+1)) (e++[[(SV.str (cut c a b))]]) f) none) none) (V3 L n c d a (A1 (b+1)) e f)) none)) (f e)
theorem WC(n s0 at1 from2 i3 l4):E7 1 ((Gw L).keep 4) (bd (Gw L) Q Y (cd [1,1,1,0,1,0,0] YR)) n ⟨gp [(0,pS s0),(0,p8 at1),(3,.fl 0),(0,pI from2),(0,pI i3)] 27,[.arr true 9 1 l4],s⟩ k =
 V3 L n s0 at1 from2 i3 l4 (λb=>k (.exit 0) ⟨gp [(5,.fl 0)] 29,[.arr true 9 1 b],s⟩):=by
 induction n generalizing s0 at1 from2 i3 l4 with
 | zero=>rfl
 | succ n a=>rw[V3];simp only[<-a];kernel_rfl
noncomputable def JD{R:Type}(L:Nat)(d:By)(a:Int)(c:LL->Option R):Option R:=V3 L L d a 0 0 [] (λb=>c b)
theorem Bt4(d:Nat)(s0 at1):evC (Gw L) (d+1) W Y 30 [pS s0,p8 at1] [] s=JD L s0 at1 (λa=>some (.fl 0,[.arr true 9 1 a],s)):=by refine(evE (fn:=ai4) (by kernel_rfl)).trans ?_;generalize evC (Gw L) d=Q;unfold JD;exact(j8 (by kernel_rfl) ((WC L Q Y s (F9 0 (G6 (Gw L) Q Y (cd [1,1,1,1] YR) (I1 (Gw L) ai4))) L s0 at1 0 0 []).trans (by kernel_rfl)))
noncomputable def Yt(L:Nat):Cfg:=C8 L [56] (A4 []) [(56,(Lk L))] (A4 [(3,[2]),(2,[2]),(1,[0,3]),(0,[0])]) [56] (A4 []) (some [2]) [] [] []
noncomputable def CV{R:Type}(L:Nat)(n0:Int)(g:By->Option R):Option R:=cond (ltI n0 10) (vl (wu8 (A1 ((48:Int)+n0))) λa=>cond (aa0 [[(SV.int .u8 a)]] Td) (vl (v8 Rf [[(SV.int .u8 a)]]) λf=>g f) none) (vl (A1 (aa6 n0 (10:Int))) λb=>cond (ltN b L) (vl (o6 (j0 b)) λd=>vl (A1 ((48:Int)+(z7 n0 (10:Int)))) λc=>cond (aa0 [[(SV.int .u8 (wu8 c))]] Td) (vl (v8 Rf [[(SV.int .u8 (wu8 c))]]) λe=>cond (J7 d.length e.length) (g (d++e)) none) none) none)
theorem As4(d:Nat)(n0):evC (Yt L) (d+1) W Y 56 [pI n0] [] s=CV L n0 (λa=>some (pS a,[],s)):=by refine(evE (fn:=Tryz.f56) (by kernel_rfl)).trans ?_;generalize evC (Yt L) d=Q;unfold CV;kernel_rfl
noncomputable abbrev Sk:Code:=E0 ag5
noncomputable def Jn(L:Nat):Cfg:=C8 L [88] (A4 []) [] (A4 [(7,[2]),(2,[2]),(4,[2]),(6,[2]),(5,[0,23]),(3,[0,12]),(1,[0,2]),(0,[0])]) [] (A4 [(0,[])]) (some [2]) [] [] []
noncomputable def Wj{R:Type}(a:Int)(h:Bool)(f:Int->Option R)(g:Int->Bool->Option R):Option R:=cond h (vl (A1 (wu8 (a-97))) λb=>vl (A1 (b+10)) λc=>f c) (cond (not (ltI a 65)) (cond (not (ltI 70 a)) (vl (A1 (wu8 (a-65))) λd=>vl (A1 (d+10)) λe=>f e) (g a (not (ltI 70 a)))) (g a false))
abbrev NM(b:Code):Prop:=∀(k:Out->St W->Option R) a c,A9 (Jn L) Q Y b ⟨gp [(0,p8 a),(12,pB c)] 21,[],s⟩ k=Wj a c (λn0=>k .ret ⟨gp [(2,pI n0)] 32,[],s⟩) (λa c=>k .normal ⟨gp [(0,p8 a),(23,pB c)] 10,[],s⟩)
theorem Az9:NM (R:=R) L Q Y s (cd [1,0,0,1,1,1] Sk):=by intro k a b;unfold Wj;kernel_rfl
noncomputable def Wk{R:Type}(b:Int)(l:Bool)(f:Int->Option R)(j:Int->Bool->Option R):Option R:=cond l (vl (A1 (wu8 (b-48))) λg=>f g) (cond (not (ltI b 97)) (Wj b (not (ltI 102 b)) (λh=>f h) (λc d=>j c d)) (Wj b false (λi=>f i) (λe a=>j e a)))
abbrev Zz(b:Code):Prop:=∀(k:Out->St W->Option R) a c,A9 (Jn L) Q Y b ⟨gp [(0,p8 a),(2,pB c)] 31,[],s⟩ k=Wk a c (λn0=>k .ret ⟨gp [(2,pI n0)] 32,[],s⟩) (λa c=>k .normal ⟨gp [(0,p8 a),(23,pB c)] 10,[],s⟩)
theorem A00(a:Code)(b:NM (R:=R) L Q Y s a):Zz (R:=R) L Q Y s (cd [1,0,0,1] (K4 [1,0,0,1,1,1] a Sk)):=by intro k c d;unfold Wk;simp only[<-b k];kernel_rfl
theorem A01:Zz (R:=R) L Q Y s (cd [1,0,0,1] Sk):=by intro k a b;exact j8 (by kernel_rfl) (A00 L Q Y s (cd [1,0,0,1,1,1] Sk) (Az9 L Q Y s) k a b)
noncomputable def Ca8{R:Type}(L:Nat)(c:Int)(d:Int->Option R):Option R:=cond (not (ltI c 48)) (Wk c (not (ltI 57 c)) (λa=>d a) (λe f=>d 99)) (Wk c false (λb=>d b) (λg h=>d 99))
theorem Cv1(b:Code)(a:Zz (R:=PV × List Blk × W) L Q Y s b)(c:Int):A9 (Jn L) Q Y (cd [] (K4 [1,0,0,1] b Sk)) ⟨[p8 c]++tps 34,[],s⟩ (I1 (Jn L) ag5)=Ca8 L c (λe=>some (pI e,[],s)):=by unfold Ca8;exact let d:=(F9 0 (G6 (Jn L) Q Y (cd [1,1] Sk) (I1 (Jn L) ag5)));(j8 (by kernel_rfl) (A0 ((a d c (not (ltI 57 c))).trans (by kernel_rfl)) ((a d c false).trans (by kernel_rfl))))
theorem Cv2(d:Nat)(b0):evC (Jn L) (d+1) W Y 88 [p8 b0] [] s=Ca8 L b0 (λa=>some (pI a,[],s)):=
 (evE (fn:=ag5) (by kernel_rfl)).trans (j8 (by kernel_rfl) (Cv1 L (evC (Jn L) d) Y s (cd [1,0,0,1] Sk) (A01 L (evC (Jn L) d) Y s) b0))
noncomputable abbrev Cs:Code:=E0 ag4
noncomputable def P0(L:Nat):Cfg:=C8 L [51] (A4 [(10,[0,1,0,0,0,0])]) [(88,B00)] (A4 [(16,[2,0]),(11,[0,3,0,0]),(15,[0,3,0,0]),(14,[2,0]),(13,[0,3,0,0,0,44]),(12,[0,3,0,0,0]),(10,[0,3,0,0,36]),(9,[0,3,0,0]),(8,[0,3,0]),(5,[0,3]),(7,[0,3]),(6,[0,3,32]),(4,[0,3,22]),(3,[0,3]),(2,[2,0]),(1,[0,8]),(0,[0])]) [88] (A4 [(0,[5]),(1,[0,3,0,0])]) (some [2,0]) [] [] []
noncomputable def DG{R:Type}(a:By)(c:By->Option R):Option R:=cond (K5 2 (a.length:Int) a.length) (vl (cut a 2 (a.length:Int)) λb=>c b) none
abbrev NQ(b:Code):Prop:=∀(k:Out->St W->Option R) a,A9 (P0 L) Q Y b ⟨gp [(0,pS a),(3,pI (10:Int)),(22,pB true)] 32,[],s⟩ k=DG a (λa=>k .normal ⟨gp [(0,pS a),(3,pI (16:Int))] 55,[],s⟩)
theorem A19:NQ (R:=R) L Q Y s (cd [1,1,1,0,1] Cs):=by intro k a;unfold DG;kernel_rfl
noncomputable def Iz{R:Type}(L n:Nat)(d:By)(h a:Int)(f:Unit->Option R)(g:Int->Option R):Option R:=match n with|0=>none|n+1=>cond (ltI a (d.length:Int)) (cond (inR a d.length) (cond (inR (bAt d a) 256) (vl (↑(dig (u8n (bAt d a))):Int) λb=>cond (not (ltI b 16)) (f ()) (vl (A1 ((A1 (h*16))+b)) λc=>vl (if ((1099511627776:Int)<c) then (1099511627776:Int) else c) λe=>Iz L n d e (A1 (a+1)) f g)) none) none) (g h)
theorem A24(n s0 n1 i2):E7 0 ((P0 L).keep 10) (bd (P0 L) Q Y (cd [1,1,1,1,1,0,1,0,0] Cs)) n ⟨gp [(0,pS s0),(3,pI (16:Int)),(0,pI n1),(0,pI i2)] 53,[],s⟩ k =
 Iz L n s0 n1 i2 (λ_=>k .ret ⟨gp [(2,pI (0:Int)),(0,pB false)] 56,[],s⟩) (λn0=>k (.exit 0) ⟨gp [(5,pI n0)] 54,[],s⟩):=by
 induction n generalizing s0 n1 i2 with
 | zero=>rfl
 | succ n a=>rw[Iz];simp only[<-a];kernel_rfl
noncomputable def DH{R:Type}(L:Nat)(c:By)(b:Int->Bool->Option R):Option R:=Iz L L c 0 0 (λ_=>b 0 false) (λa=>b a true)
abbrev NR(b:Code):Prop:=∀(k:Out->St W->Option R) s0,A9 (P0 L) Q Y b ⟨gp [(0,pS s0),(3,pI (16:Int))] 55,[],s⟩ k=DH L s0 (λn0 a=>k .ret ⟨gp [(2,pI n0),(0,pB a)] 56,[],s⟩)
theorem A20:NR (R:=R) L Q Y s (cd [1,1,1,1] Cs):=by intro k a;unfold DH;exact(j8 (by kernel_rfl) ((A24 L Q Y s (F9 0 (G6 (P0 L) Q Y (cd [1,1,1,1,1,1] Cs) k)) L a 0 0).trans (by kernel_rfl)))
noncomputable def Qz{R:Type}(a:By)(f:Bool)(d:By->Int->Option R)(e:By->Bool->Option R):Option R:=cond f (cond (K5 2 (a.length:Int) a.length) (vl (cut a 2 (a.length:Int)) λc=>d c 16) none) (cond (not (ltI (a.length:Int) (2:Int))) (cond (inR 0 a.length) (cond ((bAt a (0:Int))==48) (cond (K5 1 (a.length:Int) a.length) (vl (cut a 1 (a.length:Int)) λb=>d b 8) none) (e a ((bAt a (0:Int))==48))) none) (e a false))
abbrev NS(b:Code):Prop:=∀(k:Out->St W->Option R) c d,A9 (P0 L) Q Y b ⟨gp [(0,pS c),(3,pI (10:Int)),(22,pB d)] 32,[],s⟩ k=Qz c d (λc a=>k .normal ⟨gp [(0,pS c),(3,pI a)] 55,[],s⟩) (λc d=>k .normal ⟨gp [(0,pS c),(3,pI (10:Int)),(32,pB d)] 22,[],s⟩)
theorem A21:NS (R:=R) L Q Y s (cd [1,1,1,0,1] Cs):=by intro k b a;unfold Qz;kernel_rfl
noncomputable def Fo{R:Type}(L n:Nat)(f:By)(a i d:Int)(g:Unit->Option R)(h:Int->Option R):Option R:=match n with|0=>none|n+1=>cond (ltI d (f.length:Int)) (cond (inR d f.length) (cond (inR (bAt f d) 256) (vl (↑(dig (u8n (bAt f d))):Int) λb=>cond (not (ltI b a)) (g ()) (vl (A1 ((A1 (i*a))+b)) λc=>vl (if ((1099511627776:Int)<c) then (1099511627776:Int) else c) λe=>Fo L n f a e (A1 (d+1)) g h)) none) none) (h i)
theorem JC(n s0 base1 n2 i3):E7 0 ((P0 L).keep 10) (bd (P0 L) Q Y (cd [1,1,1,1,1,0,1,0,0] Cs)) n ⟨gp [(0,pS s0),(3,pI base1),(0,pI n2),(0,pI i3)] 53,[],s⟩ k =
 Fo L n s0 base1 n2 i3 (λ_=>k .ret ⟨gp [(2,pI (0:Int)),(0,pB false)] 56,[],s⟩) (λn0=>k (.exit 0) ⟨gp [(5,pI n0)] 54,[],s⟩):=by
 induction n generalizing s0 base1 n2 i3 with
 | zero=>rfl
 | succ n a=>rw[Fo];simp only[<-a];kernel_rfl
noncomputable def Ra{R:Type}(L:Nat)(d:By)(a:Int)(c:Int->Bool->Option R):Option R:=Fo L L d a 0 0 (λ_=>c 0 false) (λb=>c b true)
abbrev NT(b:Code):Prop:=∀(k:Out->St W->Option R) s0 base1,A9 (P0 L) Q Y b ⟨gp [(0,pS s0),(3,pI base1)] 55,[],s⟩ k=Ra L s0 base1 (λn0 a=>k .ret ⟨gp [(2,pI n0),(0,pB a)] 56,[],s⟩)
theorem A22:NT (R:=R) L Q Y s (cd [1,1,1,1] Cs):=by intro k b a;unfold Ra;exact(j8 (by kernel_rfl) ((JC L Q Y s (F9 0 (G6 (P0 L) Q Y (cd [1,1,1,1,1,1] Cs) k)) L b a 0 0).trans (by kernel_rfl)))
noncomputable def Rb{R:Type}(L:Nat)(c:By)(b:Int->Bool->Option R):Option R:=Fo L L c 10 0 0 (λ_=>b 0 false) (λa=>b a true)
abbrev NU(b:Code):Prop:=∀(k:Out->St W->Option R) s0 a,A9 (P0 L) Q Y b ⟨gp [(0,pS s0),(3,pI (10:Int)),(32,pB a)] 22,[],s⟩ k=Rb L s0 (λn0 a=>k .ret ⟨gp [(2,pI n0),(0,pB a)] 56,[],s⟩)
theorem A23:NU (R:=R) L Q Y s (cd [1,1,1,1] Cs):=by intro k a b;unfold Rb;exact(j8 (by kernel_rfl) ((JC L Q Y s (F9 0 (G6 (P0 L) Q Y (cd [1,1,1,1,1,1] Cs) k)) L a 10 0 0).trans (by kernel_rfl)))
noncomputable def Cc3{R:Type}(L:Nat)(a:By)(e:Int->Bool->Option R):Option R:=cond (a==[]) (e 0 false) (cond (not (ltI (a.length:Int) (2:Int))) (cond (inR 0 a.length) (cond ((bAt a (0:Int))==48) (cond (inR 1 a.length) (cond ((bAt a (1:Int))==120) (DG a (λB=>DH L B (λA z=>e A z))) (cond (inR 1 a.length) (Qz a ((bAt a (1:Int))==88) (λt b=>Ra L t b (λm f=>e m f)) (λu C=>Rb L u (λn g=>e n g))) none)) none) (Qz a false (λv c=>Ra L v c (λo h=>e o h)) (λw D=>Rb L w (λp i=>e p i)))) none) (Qz a false (λx d=>Ra L x d (λq j=>e q j)) (λy F=>Rb L y (λr l=>e r l))))
theorem Cv9(e:Code)(f:NQ (R:=PV × List Blk × W) L Q Y s e)(a:NS (R:=PV × List Blk × W) L Q Y s e)(d:Code)(g:NR (R:=PV × List Blk × W) L Q Y s d)(b:NT (R:=PV × List Blk × W) L Q Y s d)(c:NU (R:=PV × List Blk × W) L Q Y s d)(m:By):A9 (P0 L) Q Y (cd [] (K4 [1,1,1,1] d (K4 [1,1,1,0,1] e Cs))) ⟨[pS m]++tps 59,[],s⟩ (I1 (P0 L) ag4)=Cc3 L m (λz A=>some (.tup [pI z,pB A],[],s)):=by unfold Cc3;exact let l:=(I1 (P0 L) ag4);let x:=(G6 (P0 L) Q Y d l);(j8 (by kernel_rfl) (A0 rfl (A0 (A0 (A0 (A0 (A0 ((f x m).trans (congr rfl (fx1 λy=>(j8 (by kernel_rfl) ((g l y).trans (by kernel_rfl)))))) (A0 ((a x m ((bAt m (1:Int))==88)).trans (congr (congr rfl (fx2 λq h=>(j8 (by kernel_rfl) ((b l q h).trans (by kernel_rfl))))) (fx2 λr n=>(j8 (by kernel_rfl) ((c l r n).trans (by kernel_rfl)))))) rfl)) rfl) ((a x m false).trans (congr (congr rfl (fx2 λt i=>(j8 (by kernel_rfl) ((b l t i).trans (by kernel_rfl))))) (fx2 λu o=>(j8 (by kernel_rfl) ((c l u o).trans (by kernel_rfl))))))) rfl) ((a x m false).trans (congr (congr rfl (fx2 λv j=>(j8 (by kernel_rfl) ((b l v j).trans (by kernel_rfl))))) (fx2 λw p=>(j8 (by kernel_rfl) ((c l w p).trans (by kernel_rfl)))))))))
theorem Cw0(d:Nat)(s0):evC (P0 L) (d+1) W Y 51 [pS s0] [] s=Cc3 L s0 (λa b=>some (.tup [pI a,pB b],[],s)):=
 (evE (fn:=ag4) (by kernel_rfl)).trans (j8 (by kernel_rfl) (Cv9 L (evC (P0 L) d) Y s (cd [1,1,1,0,1] Cs) (A19 L (evC (P0 L) d) Y s) (A21 L (evC (P0 L) d) Y s) (cd [1,1,1,1] Cs) (A20 L (evC (P0 L) d) Y s) (A22 L (evC (P0 L) d) Y s) (A23 L (evC (P0 L) d) Y s) s0))
noncomputable def GG(L:Nat):Cfg:=C8 L [49] (A4 []) [(30,FC)] (A4 [(4,[2]),(3,[3]),(2,[3,13]),(1,[3]),(0,[0])]) [] (A4 []) (some [2]) [] [] []
noncomputable def VY{R:Type}(L:Nat)(f:By)(d:LL->Option R):Option R:=cond (A3 f.length) (vl (C1 (pcs (u8n (46:Int)) f)) λa=>cond (ltI 1 (a.length:Int)) (vl (A1 ((a.length:Int)-1)) λb=>cond (inR b a.length) (cond (okE Ia a (j0 b) 0) (vl (gX a (j0 b) 0) λe=>cond (e==[]) (vl (A1 ((a.length:Int)-1)) λc=>cond (K5 0 c a.length) (d (cut a 0 c)) none) (d a)) none) none) (d a)) none
theorem Bs8(d:Nat)(s0):evC (GG L) (d+1) W Y 49 [pS s0] [] s=VY L s0 (λa=>some (.s (.sl false false 1 a),[],s)):=by refine(evE (fn:=Tryz.f49) (by kernel_rfl)).trans ?_;generalize evC (GG L) d=Q;unfold VY;kernel_rfl
noncomputable def Ss(L:Nat):Cfg:=C8 L [28] (A4 []) [(49,XY),(50,KZ),(51,B03)] (A4 [(6,[2]),(5,[4,1]),(4,[2]),(3,[4,11]),(2,[4]),(1,[3]),(0,[0])]) [50,51] (A4 []) (some [2]) [] [] []
noncomputable def Wm{R:Type}(L:Nat)(d:By)(c:Bool->Option R):Option R:=cond (A3 d.length) (vl (A1 ((↑(c9 (C1 (E4 d))):Int)-1)) λb=>cond (inR b (c9 (C1 (E4 d)))) (cond (okE Ia (C1 (E4 d)) (j0 b) 0) (vl (gX (C1 (E4 d)) (j0 b) 0) λa=>cond (A3 a.length) (cond ((not (o7 a))&&(j9 (E9 10 0 a))) (c true) (cond (A3 a.length) (vl (↑(Ad (Ak a)):Int) λe=>cond (j9 (Ak a)) (cond (not (ltI (a.length:Int) (2:Int))) (cond (inR 1 a.length) (cond ((bAt a (1:Int))==120) (c true) (cond (inR 1 a.length) (c ((bAt a (1:Int))==88)) none)) none) (c false)) (c false)) none)) none) none) none) none
theorem Af4(d:Nat)(s0):evC (Ss L) (d+1) W Y 28 [pS s0] [] s=Wm L s0 (λa=>some (pB a,[],s)):=by refine(evE (fn:=Tryz.f28) (by kernel_rfl)).trans ?_;generalize evC (Ss L) d=Q;unfold Wm;kernel_rfl
noncomputable def Ph{R:Type}(L n:Nat)(b:LL)(v1 a:Int)(e:Unit->Option R)(h:Int->Option R):Option R:=match n with|0=>none|n+1=>cond (ltI a (b.length:Int)) (cond (inR a b.length) (cond (okE Ia b (j0 a) 0) (cond (A3 (c9 (gX b (j0 a) 0))) (vl (↑(Ad (Ak (gX b (j0 a) 0))):Int) λc=>cond (not (j9 (Ak (gX b (j0 a) 0)))) (e ()) (vl (A1 ((b.length:Int)-1)) λi=>cond (a==i) (vl (A1 ((5:Int)-(b.length:Int))) λg=>cond (decide ((0:Int)<=(A1 ((8:Int)*g)))) (vl (Rk .i64 (1:Int) (A1 ((8:Int)*g))) λj=>cond (not (ltI c j)) (e ()) (Ph L n b (A1 (v1+c)) (A1 (a+1)) e h)) none) (cond (ltI 255 c) (e ()) (vl (A1 ((24:Int)-(A1 ((8:Int)*a)))) λd=>cond (decide ((0:Int)<=d)) (vl (A1 (v1+(Rk .i64 c d))) λf=>Ph L n b f (A1 (a+1)) e h) none)))) none) none) none) (h v1)
noncomputable def Ap8(L:Nat):Cfg:=C8 L [32] (A4 []) [(56,KY)] (A4 [(1,[2]),(0,[0])]) [56] (A4 []) (some [2]) [] [] []
noncomputable def Cw4{R:Type}(L:Nat)(v0:Int)(n:By->Option R):Option R:=vl (Rl .u32 v0 (24:Int)) λg=>cond (ltN (A1 g) 4294967296) (vl (o6 (j0 (A1 g))) λj=>cond (J7 j.length 1) (vl (j++[46]) λc=>vl (Rl .u32 v0 (16:Int)) λm=>vl (z7 m (256:Int)) λh=>cond (ltN (A1 h) 4294967296) (vl (o6 (j0 (A1 h))) λd=>cond (J7 c.length d.length) (cond (J7 (c9 (c++d)) 1) (vl ((c++d)++[46]) λe=>vl (z7 (Rl .u32 v0 (8:Int)) (256:Int)) λi=>cond (ltN (A1 i) 4294967296) (vl (o6 (j0 (A1 i))) λf=>cond (J7 e.length f.length) (cond (J7 (c9 (e++f)) 1) (vl ((e++f)++[46]) λl=>vl (z7 v0 (256:Int)) λa=>cond (ltN (A1 a) 4294967296) (vl (o6 (j0 (A1 a))) λb=>cond (J7 l.length b.length) (n (l++b)) none) none) none) none) none) none) none) none) none) none
theorem Cw5(d:Nat)(v0):evC (Ap8 L) (d+1) W Y 32 [p32 v0] [] s=Cw4 L v0 (λa=>some (pS a,[],s)):=by refine(evE (fn:=Tryz.f32) (by kernel_rfl)).trans ?_;generalize evC (Ap8 L) d=Q;unfold Cw4;kernel_rfl
noncomputable def Yx(L:Nat):Cfg:=C8 L [125] (A4 []) [(152,Xq)] (A4 [(1,[4]),(0,[0,0])]) [] (A4 []) (some [4]) [] [] []
noncomputable def DJ{R:Type}(L:Nat)(c a:By)(d:Nat->LL->Option R):Option R:=cond (A3 c.length) (cond (a.length==1) (cond ((0:Int)==0) (cond (((-1):Int)==((-1):Int)) (vl (C1 (pcs (j2 a 0 0) c)) λb=>d (c9 (pcs (j2 a 0 0) c)) b) none) none) none) none
theorem A58(d:Nat)(s0 sep1):evC (Yx L) (d+1) W Y 125 [pS s0,pS sep1] [] s=DJ L s0 sep1 (λa b=>some (.vw 0 0 a,[.arr false 9 1 b],s)):=by refine(evE (fn:=Tryz.f125) (by kernel_rfl)).trans ?_;generalize evC (Yx L) d=Q;unfold DJ;kernel_rfl
end
end
end Go.Proofs.YtddlcgjamdbinaaGreatDoor.E
