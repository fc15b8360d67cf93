/-
  Parts of the proof, merged by a program of the prover's own; no condition.
-/
import Derived.Test.YtiodfnbjmmdlmaaGreatDoorKCE2
import Derived.Deep.Draws
import Derived.JoinedCond
import Derived.KernelRfl
import Derived.LaidMore
import Derived.LaidSub
import Derived.Laws.RangeString
import Derived.Lay
import Derived.Lib.IndexMore
import Derived.Lib.ItoaNum
import Derived.Lib.Join
import Derived.Lib.LaidTab
import Derived.Lib.LaidU8
import Derived.Lib.RuneCount
import Derived.Lib.TrailingZeros
import Derived.Lib.ValidU
import Derived.OpenShut
import Derived.ProofKit
import Derived.RangeFuncLeaves
import Derived.RangeFuncNested
import Derived.RangeFuncRecord
import Derived.Shelf.Vars
import Derived.Sort.Grow
import Derived.Test.YtiodfnbjmmdlmaaGreatDoorChecked
import Derived.Test.YtiodfnbjmmdlmaaGreatDoorProg
import Derived.Test.YtiodfnbjmmdlmaaGreatDoorRows
import Derived.WalkKit
open List renaming getElem?_eq_getElem->c8,length->c9,getD->j1,flatten->j2,replicate->j7,getElem_mem->o0,getD_eq_getElem?_getD->o7,getElem_map->o8,eq_nil_iff_forall_not_mem->s9,isEmpty->w7,getElem?_eq_none->w8,mem_append->x5,mem_cons->x6,all_eq_true->x7,map->x9,length_map->z7,take->aa2,getElem?_take->aa7,all->ab2,getElem?_map->ab3,append_nil->ac2,isPrefixOf->ac3,map_append->ac4,getElem_append_left->ad0,cons_append->ad4,getElem?_cons_zero->ad5,length_take->ad6,prefix_iff_eq_take->ad7,suffix_iff_eq_drop->ad8,take_of_length_le->ae1,drop_zero->ae8,mem_cons_of_mem->ae9,drop->af1,getElem?_range->af3,length_append->af4,isSuffixOf->ag6,nodup_cons->ag7,drop_drop->ag9,mapM_cons->ah0,range->ah1,take_add->ah3,all_map->ah6,map_map->ah7
open Option.some renaming injEq->j0,inj->p9
open Option renaming bind_some->j4,bind_none->j5,isSome->p7,isSome_iff_exists->aa4,map_some->ac5
open Go.Proofs.Tryz renaming prog->j6,checked->af9,f116->ag1,f132->ag2,f148->ag3,f153->ag4,f134->ah4,f44->ai6,f45->ai7
open Int renaming toNat->j8,eq_ofNat_of_zero_le->y8,tdiv->ad3
open Nat renaming lt_of_lt_of_le->j9,le_refl->o6,le_trans->v7,mod_eq_of_lt->v8,eq_of_beq_eq_true->w9,ble->x4,beq->y7,le_of_ble_eq_true->ab5,le_of_not_lt->ad9,add_comm->ah8,blt->ah9,zero_mul->ai0
open Bool renaming and_eq_true->k9,eq_iff_iff->ae2
open Go.World renaming putObj_heap_other->o5,laidAll->aa5,putObj_heap_same->ab4,alloc_heap_new->ac0,cells?_some->ag0,cell?->ai8
open Go.IntKind renaming wrap->o9,signed->aa9,bits->ac6
open Prod.mk renaming injEq->s8
open Eq renaming trans->w6
open Array renaming getElem?_eq_some_iff->x8,replicate->ac1,getElem?_eq_none->ae0,length_toList->af2
open Go.Lib renaming cut->y5,decDigits->aa0,tabData->aa8,VarReads->ab0,deBruijn64tab->ac8,acceptData->ae5,decodeL->ae6,join->ae7,firstTab->af6,pow10Tab->af7
open BitVec renaming ofInt->y9,ofInt_natCast->ae4
open UInt8 renaming ofNat->aa1,le_iff_toNat_le->ab6
open Go.Value renaming okWide->aa3,int->ab8
open Go.DataW renaming trod->aa6,TrodAll->ab9,Whole->ai2
open Go.Lib.laidMet renaming reads->ab1
open Go.Fence renaming wide->ab7
open Go.MakeChecks renaming laidMetH_plain->ac7
open Go.Oper renaming uponIn_enter->ac9
open Classical renaming choose->ad1,choose_spec->ae3
open Go.Deferred renaming ofValue->ad2
open Go.Result renaming andThen->af0
open Or renaming inl->af5
open Go.Sem renaming run_bind->af8
open Go.Ending renaming returned->ag5
open Go.Code renaming rangeFunc->ag8
open Go.Instr renaming loadAt->ah5
namespace Go.Proofs.YtiodfnbjmmdlmaaGreatDoor.E
set_option linter.all false
section
open Go
def Ctx.cut(Γ:Ctx)(L:Nat):Ctx:={ Γ with St:=λg=>Γ.St g\/∃b,L<=b/\Γ.nm b=some g,nm:=λb=>if b<L then Γ.nm b else none }
def mkD(D:Nat):Deferred:={ target:=.collected D,args:=#[] }
section
variable {σ R : Type} {r : R} {C : Cfg} {I : σ -> (Nat -> Prop) -> (Nat -> Prop) -> World -> Prop} {Γ Γ' : Ctx} {Φ Φ' : Nat -> Prop} {st : St σ} {a : Act} {w w' : World} {L : E3} {Y : Yh σ} {yv : Value} {o : Oper} {H H' : List Blk} {tmps : Array Value}
def Off(Γ:Ctx)(Φ:Nat->Prop)(w:World)(g:Nat):Prop:=g<w.heap.size/\¬ Γ.St g/\(∀b,Γ.nm b≠some g)/\¬ Φ g
theorem Off.step{g:Nat}(h:Off Γ Φ w g)(s:Stp C Γ H w Φ Γ' H' w' Φ'):Off Γ' Φ' w' g/\w'.heap[g]? = w.heap[g]?:=by
 obtain⟨h1,h2,h3,h4⟩:=h;refine⟨⟨j9 h1 s.size,λq=>?_,λb q=>?_,λq=>?_⟩,s.frame g h1 h3 h4⟩
 ·rcases s.stnew g q with q|q
  ·exact h2 q
  ·omega
 ·rcases s.own b g q with⟨_,q⟩|q
  ·exact h3 b q
  ·omega
 ·rcases s.foot g q with q|q
  ·exact h4 q
  ·omega
def Mk(n0:Nat)(Γ:Ctx)(Φ:Nat->Prop)(w:World)(ds:List Deferred):Prop:=n0<=w.heap.size/\∃b:List Nat,ds=b.map mkD/\b.Nodup/\∀D∈b,n0<=D/\Off Γ Φ w D/\w.heap[D]? = some (.deferred (some []))
theorem Mk.nil{n0:Nat}(h:n0<=w.heap.size):Mk n0 Γ Φ w []:=⟨h,[],rfl,List.nodup_nil,by simp⟩
theorem Mk.step{n0:Nat}{ds:List Deferred}(h:Mk n0 Γ Φ w ds)(s:Stp C Γ H w Φ Γ' H' w' Φ'):Mk n0 Γ' Φ' w' ds:=by obtain⟨h0,Ds,h1,h2,h3⟩:=h;refine⟨v7 h0 s.size,Ds,h1,h2,λD hD=>?_⟩;obtain⟨k1,k2,k3⟩:=h3 D hD;obtain⟨q1,q2⟩:=k2.step s;exact⟨k1,q1,q2.trans k3⟩
structure Qp (Γ:Ctx) (Φ:Nat->Prop) (w w':World):Prop where
 same:∀g,Γ.St g\/(∃b,Γ.nm b=some g)\/Φ g->w'.heap[g]? = w.heap[g]?
 size:w.heap.size<=w'.heap.size
 os:w'.os=w.os
 tape:w'.tape=w.tape
 output:w'.output=w.output
theorem Qp.mono(h:Qp Γ Φ w w'):V8 Γ (A1 H) w Γ (A1 H) w' (λ_=>True):=
 ⟨λg hg=>h.same g (.inl hg),λ_ h=>h,λ_ _=>rfl,λ_ _=>rfl,λb g _ hg=>D8 (h.same g (.inr (.inl ⟨b,hg⟩))),rfl⟩
theorem SI.offW(hI:HI I)(S:SI C I Γ Φ st tmps w)(h:Qp Γ Φ w w'):SI C I Γ Φ st tmps w':=by
 have hf:=hI.foot _ _ _ _ S.inv;refine⟨⟨S.hr.inj,λb g hb=>?_,λg hg=>j9 (S.hr.stlt g hg) h.size,S.hr.nms,λb hb=>(S.hr.blk b hb).mono h.mono rfl (λg hg=>h.same g (.inr (.inl ⟨b,hg⟩))) (λ_ _=>trivial)⟩,
  S.sr.mono h.mono (λc hc=>⟨trivial,S.sr.nms c hc⟩),S.g.mono (λg hg=>h.same g (.inl hg)) (λ_ h=>h),
  hI.mono _ _ _ _ _ _ S.inv (λ_ h=>h) (λg hg hp=>(hf g hp).2 hg) (λg hg=>j9 (S.hr.stlt g hg) h.size) (λg hg=>h.same g (hg.elim .inl (λq=>.inr (.inr q)))) h.size h.os h.tape h.output,S.dis⟩
 obtain⟨q1,q2,q3⟩:=S.hr.lt b g hb;exact⟨q1,j9 q2 h.size,q3⟩
structure Pg (C:Cfg) (Γ:Ctx) (H:List Blk) (w:World) (Φ:Nat->Prop) (Γ':Ctx) (H':List Blk) (w':World) (Φ':Nat->Prop):Prop where
 os:w'.os=w.os
 tape:w'.tape=w.tape
 output:w'.output=w.output
 size:w.heap.size<=w'.heap.size
 sub:∀g,Γ.St g->Γ'.St g
 own:∀b g,Γ'.nm b=some g->(b<H.length/\Γ.nm b=some g)\/w.heap.size<=g
 foot:∀g,Φ' g->Φ g\/w.heap.size<=g
 yv:Γ'.yv=Γ.yv
 len:H.length<=H'.length
 keep:∀b,b<H.length->Fl C (A1 H b)->Γ'.nm b=Γ.nm b/\A1 H' b=A1 H b/\∀g,Γ.nm b=some g->w'.shape? g=w.shape? g
theorem Stp.pg(h:Stp C Γ H w Φ Γ' H' w' Φ'):Pg C Γ H w Φ Γ' H' w' Φ':=⟨h.os,h.tape,h.output,h.size,h.sub,h.own,h.foot,h.yv,h.len,h.keep⟩
theorem Pg.trans{Γ'':Ctx}{H'':List Blk}{w'':World}{Φ'':Nat->Prop}(h:Pg C Γ H w Φ Γ' H' w' Φ')(k:Pg C Γ' H' w' Φ' Γ'' H'' w'' Φ''):Pg C Γ H w Φ Γ'' H'' w'' Φ'':=by
 have h1:=h.size;refine⟨k.os.trans h.os,k.tape.trans h.tape,k.output.trans h.output,v7 h.size k.size,λg hg=>k.sub g (h.sub g hg),λb g hb=>?_,λg hg=>?_,k.yv.trans h.yv,v7 h.len k.len,λb hb hf=>?_⟩
 ·rcases k.own b g hb with⟨_,q⟩|q
  ·exact h.own b g q
  ·exact .inr (by omega)
 ·rcases k.foot g hg with q|q
  ·exact h.foot g q
  ·exact .inr (by omega)
 ·obtain⟨k1,k2,k3⟩:=h.keep b hb hf;have h2:=h.len;obtain⟨m1,m2,m3⟩:=k.keep b (by omega) (by rw[k2];exact hf);exact⟨m1.trans k1,m2.trans k2,λg hg=>(m3 g (k1.trans hg)).trans (k3 g hg)⟩
theorem Pg.off(hH:HR Γ H w)(h:Qp Γ Φ w w'):Pg C Γ H w Φ Γ H w' Φ:=
 ⟨h.os,h.tape,h.output,h.size,λ_ h=>h,λb g hb=>.inl ⟨(hH.lt b g hb).1,hb⟩,λ_ h=>.inl h,rfl,o6 _,λb hb _=>⟨rfl,rfl,λg hg=>D8 (h.same g (.inr (.inl ⟨b,hg⟩)))⟩⟩
theorem Pg.wideSt{St':Nat->Prop}(hH:HR Γ H w)(hs:∀g,Γ.St g->St' g):Pg C Γ H w Φ { Γ with St:=St' } H w Φ:=
 ⟨rfl,rfl,rfl,o6 _,hs,λb g hb=>.inl ⟨(hH.lt b g hb).1,hb⟩,λ_ h=>.inl h,rfl,o6 _,λ_ _ _=>⟨rfl,rfl,λ_ _=>rfl⟩⟩
theorem Qp.put{l:Nat}{ob:Obj}(h:Off Γ Φ w l):Qp Γ Φ w (w.putObj l ob):=by
 refine⟨λg hg=>o5 ?_,by simp,rfl,rfl,rfl⟩;rintro rfl;rcases hg with q|⟨b,q⟩|q
 ·exact h.2.1 q
 ·exact h.2.2.1 b q
 ·exact h.2.2.2 q
theorem Off.put{g l:Nat}{ob:Obj}(h:Off Γ Φ w g):Off Γ Φ (w.putObj l ob) g:=⟨by simpa using h.1,h.2⟩
theorem Mk.put{n0 l:Nat}{ob:Obj}{rr:Loop}{ds:List Deferred}(h:Mk n0 Γ Φ w ds)(hl:w.heap[l]? = some (.loop rr)):Mk n0 Γ Φ (w.putObj l ob) ds:=by obtain⟨h0,Ds,h1,h2,h3⟩:=h;refine⟨by simpa using h0,Ds,h1,h2,λD hD=>?_⟩;obtain⟨k1,k2,k3⟩:=h3 D hD;refine⟨k1,k2.put,(o5 ?_).trans k3⟩;rintro rfl;rw[k3] at hl;cases hl
def Ro(b:Option Nat)(Γ:Ctx)(Φ:Nat->Prop)(w:World):Prop:=∀l,b=some l->Off Γ Φ w l/\∃c:Loop,w.heap[l]? = some (.loop c)
theorem Ro.none:Ro none Γ Φ w:=λ_ h=>by cases h
theorem Ro.step{ro:Option Nat}(h:Ro ro Γ Φ w)(s:Stp C Γ H w Φ Γ' H' w' Φ'):Ro ro Γ' Φ' w':=λl e=>by
 obtain⟨k1,rr,k2⟩:=h l e;obtain⟨q1,q2⟩:=k1.step s;exact⟨q1,rr,q2.trans k2⟩
def Bz1(C:Cfg)(I:σ->(Nat->Prop)->(Nat->Prop)->World->Prop)(n0:Nat)(Γ:Ctx)(Φ:Nat->Prop)(H:List Blk)(w:World)(k:Out->St σ->Option R)(r:R)(Q:Exit->Act->World->Prop):Prop:=
 ∀o b c w' Γ' Φ',k o b=some r->Stp C Γ H w Φ Γ' b.hp w' Φ'->SI C I Γ' Φ' b c.tmps w'->Mk n0 Γ' Φ' w' c.defers->Q o.exit' c w'
def WP(C:Cfg)(I:σ->(Nat->Prop)->(Nat->Prop)->World->Prop)(L:E3)(Y:Yh σ)(yv:Value)(c:Code):Prop:=
 ∀{R:Type} {r:R} {b:Option Nat} {n n0:Nat} {Γ:Ctx} {Φ:Nat->Prop} {st:St σ} {a:Act} {w:World} {k:Out->St σ->Option R} {Q:Exit->Act->World->Prop},
  Γ.yv=yv->A7 C L Y c st k=some r->SI C I Γ Φ st a.tmps w->Mk n0 Γ Φ w a.defers->Ro b Γ Φ w->Bz1 C I n0 Γ Φ st.hp w k r Q->c.wpIn (D6 b) n C.P Q a w
def Hr(fn:FuncId)(tmps:Array Value)(d:Array Tmp)(c b:Code)(D:Nat)(s:LoopState)(p:Option Code):Loop:={ state:=s,pending:=p,fn:=fn,tmps:=tmps,params:=d,assign:=c,body:=b,defers:=D }
def jmp:Out->Code
 | .normal=>.skip
 | .exit id=>.exit id
 | .ret=>.ret
def Ca8:Option Out->LoopState
 | none=>.ready
 | some _=>.done
structure RIb (C:Cfg) (I:σ->(Nat->Prop)->(Nat->Prop)->World->Prop) (Γ0:Ctx) (H0:List Blk) (w0:World) (Φ0:Nat->Prop) (sl0:List PV) (tmps:Array Value) (l:Nat) (D:Option Nat) (rc:LoopState->Option Code->Loop) (x:List Blk × Option Out × σ) (St Φ:Nat->Prop) (w:World) (Γb:Ctx) (Φb:Nat->Prop):Prop where
 si:SI C I Γb Φb { sl:=sl0,hp:=x.1,s:=x.2.2 } tmps w
 pg:Pg C Γ0 H0 w0 Φ0 Γb x.1 w Φb
 st:∀g,Γb.St g->St g
 ph:∀g,Φ g↔Φb g\/(∃b,Γb.nm b=some g)\/g=l\/D=some g
 ft:∀g,Φ g->g<w.heap.size/\¬St g
 ol:Off Γb Φb w l
 od:∀d,D=some d->Off Γb Φb w d
 hl:w.heap[l]? = some (.loop (rc (Ca8 x.2.1) (x.2.1.map jmp)))
 hd:∀d,D=some d->w.heap[d]? = some (.deferred (some []))
def RI(C:Cfg)(I:σ->(Nat->Prop)->(Nat->Prop)->World->Prop)(c:Ctx)(g:List Blk)(i:World)(e:Nat->Prop)(b:List PV)(tmps:Array Value)(l:Nat)(D:Option Nat)(h:LoopState->Option Code->Loop):(List Blk × Option Out × σ)->(Nat->Prop)->(Nat->Prop)->World->Prop:=
 λx St Φ w=>∃d f,RIb C I c g i e b tmps l D h x St Φ w d f
theorem Cp9{m:Ctx}{p:List Blk}{G:World}{n:Nat->Prop}{k:List PV}{l:Nat}{D:Option Nat}{F:LoopState->Option Code->Loop}(t:HI I):HI (RI C I m p G n k tmps l D F):=by
 refine⟨λx St Φ w ⟨c,e,r⟩=>r.ft,λx St Φ w St' w' ⟨c,e,r⟩ z u v i j y A B=>?_⟩;have inΦ:∀{g},e g\/(∃b,c.nm b=some g)\/g=l\/D=some g->Φ g:=fun {g} h=>(r.ph g).2 h
 have O:Qp c e w w':=⟨λg f=>by
  rcases f with q|q|q
  ·exact i g (.inl (r.st g q))
  ·exact i g (.inr (inΦ (.inr (.inl q))))
  ·exact i g (.inr (inΦ (.inl q))),j,y,A,B⟩
 have up:∀{g},Off c e w g->Off c e w' g:=λh=>⟨j9 h.1 j,h.2⟩
 exact⟨c,e,r.si.offW t O,r.pg.trans (Pg.off r.si.hr O),λg f=>z g (r.st g f),r.ph,λg f=>⟨j9 (r.ft g f).1 j,λq=>u g q f⟩,up r.ol,λd h=>up (r.od d h),
  (i l (.inr (inΦ (.inr (.inr (.inl rfl)))))).trans r.hl,λd h=>(i d (.inr (inΦ (.inr (.inr (.inr h)))))).trans (r.hd d h)⟩
end
section
variable {Y R : Type} {r : R} {C : Cfg} {I : Y -> (Nat -> Prop) -> (Nat -> Prop) -> World -> Prop} {L Γ' : Ctx} {Z W : Nat -> Prop} {O : St Y} {a : Act} {w w' : World} {J : E3} {U : Yh Y} {Q : Value} {H H' : List Blk} {K : Array Value}
theorem HZ(x:Blk):(Gf x).nms=[]:=by
 cases x with
 | box cells=>
  simp only[Gf,Blk.nms];rw[s9];intro c b;obtain⟨j,e,b⟩:=C4.1 b;simp[PV.nms] at b
 | mp d=>
  simp only[Gf,Blk.nms];rw[s9];intro c b;obtain⟨j,e,b⟩:=C4.1 b;simp[PV.nms,HB] at b
 | _=>rfl
theorem IA(x:Blk):(Gf x).shp=x.shp:=by cases x<;>rfl
theorem Bi3{sh sh':Nat->Option Shp}{b B:Nat}{x:Blk}(h:BR L sh w b x)(f:Γ'.nm B=L.nm b)(t:∀g,L.St g->w'.heap[g]? = w.heap[g]?)(n:∀g,L.St g->Γ'.St g)(c:∀g,L.nm b=some g->w'.heap[g]? = w.heap[g]?):BR Γ' sh' w' B (Gf x):=by
 cases x with
 | arr v e X F=>
  rcases h with h|⟨N,g,o,d,l,m,A,M⟩
  ·exact .inl h
  ·refine .inr ⟨N,g,o,by rw[f];exact d,by rw[c g d];exact l,m,A,λi h j G=>?_⟩;obtain⟨V,y,D⟩:=M i h j G;exact⟨V,y,D.mono t n⟩
 | box cells=>
  obtain⟨g,o,e,d,l,m,A⟩:=h;refine⟨g,o,e,by rw[f];exact d,by rw[c g d];exact l,by simpa using m,λj h=>?_⟩;obtain⟨V,y,_⟩:=A j (by simpa using h);exact⟨V,y,by rw[o8];exact .bad V⟩
 | iter s p=>
  obtain⟨g,S,d,l,m⟩:=h;exact⟨g,S,by rw[f];exact d,by rw[c g d];exact l,m⟩
 | mp q=>
  obtain⟨g,z,u,d,l,m⟩:=h;exact⟨g,z,u,by rw[f];exact d,by rw[c g d];exact l,m.map λv _ V _=>.bad V⟩
 | ms a q=>
  obtain⟨g,z,u,d,l,m⟩:=h;refine⟨g,z,u,by rw[f];exact d,by rw[c g d];exact l,m.imp λv P V k=>?_⟩;obtain⟨e,T,rfl⟩:=Zu P;exact Bs3 t n k
 | dead=>trivial
end
section
variable {J R : Type} {r : R} {C : Cfg} {I : J -> (Nat -> Prop) -> (Nat -> Prop) -> World -> Prop} {Y : Ctx} {W : Nat -> Prop} {Q : St J} {a : Act} {w : World} {Z : E3} {K : Yh J} {O : Value} {o : Oper} {H : List Blk}
theorem UY(d:HR Y H w){L:Nat}(e:L<=H.length):V8 Y (A1 H) w (Y.cut L) (A1 (H.take L)) w (· < L):=
 ⟨λ_ _=>rfl,λ_ h=>.inl h,λb c=>by simp only[Ctx.cut];rw[if_pos c],λb c=>by simp only[A1,aa7];rw[if_pos c],λ_ _ _ _=>rfl,rfl⟩
theorem Bj7(d:HR Y H w){L:Nat}(v:L<=H.length)(j:A71 L (H.take L)=true):HR (Y.cut L) (H.take L) w:=by
 have f:=JH j;have t:(H.take L).length=L:=by rw[ad6];omega
 have key:∀b g,(Y.cut L).nm b=some g->b<L/\Y.nm b=some g:=λb g h=>by
  simp only[Ctx.cut] at h;grind
 refine⟨λb k g n l=>d.inj b k g (key b g n).2 (key k g l).2,λb g h=>?_,λg i=>?_,λb p c q=>?_,λb p=>?_⟩
 ·obtain⟨n,l⟩:=key b g h;have:=d.lt b g l;refine⟨by omega,this.2.1,?_⟩;rintro(u|⟨k,u,h4⟩)
  ·grind
  ·have:=d.inj b k g l h4;omega
 ·rcases i with i|⟨b,_,i⟩
  ·exact d.stlt g i
  ·exact(d.lt b g i).2.1
 ·grind
 ·have m:b<L:=by omega
  have e:(H.take L)[b]=H[b]'(by omega):=List.getElem_take;rw[e];have M:=UY d v;exact(d.blk b (by omega)).mono M (M.nm b m) (λ_ _=>rfl) (λc q=>f _ (o0 p) c (by rw[e];exact q))
theorem Ay1(M:HR Y H w){L b:Nat}(S:¬b<L){v:PV}{V:Value}(y:v = .fl b\/∃i n,v = .vw b i n)(h:VP Y (A1 H) w v V):VP (Y.cut L) (A1 (H.take L)) w (v.snap H) V/\(v.snap H).nms=[]:=by
 rcases y with rfl|⟨i,n,rfl⟩
 ·cases h with
  | flv _ e p h=>
   obtain⟨x,j,t⟩:∃x,H[b]? = some x/\x.shp = .arr true e p 0:=by simpa[A1] using h
   cases x<;>simp[Blk.shp] at t
   rename_i k z q c;obtain⟨rfl,rfl,rfl,A⟩:=t;subst A;simp only[PV.snap,j];exact⟨.s _ _ (.nil _ _),rfl⟩
  | fl _ g v e p n cap h y u d B t=>
   obtain⟨x,j,f⟩:∃x,H[b]? = some x/\x.shp = .arr v e p n:=by simpa[A1] using h
   cases x<;>simp[Blk.shp] at f
   rename_i k z q c;obtain⟨rfl,rfl,rfl,rfl⟩:=f;have l:¬(k=true/\c=[]):=by rintro⟨F,G⟩;exact y F (by rw[G];rfl)
   have D:(k&&c.isEmpty)=false:=by cases k<;>simp_all
   simp only[PV.snap,j,D];have:=RD (i:=0) (n:=c.length) (a:=⟨g,0,none⟩) (cap:=cap) M j l u (by omega) (λ_=>by simp) d B (St':=(Y.cut L).St) (λ_ h=>af5 h) (.inr ⟨b,by omega,u⟩);simp only[ae8,List.take_length] at this;exact⟨.s _ _ this,rfl⟩
 ·cases h with
  | vwv _ e p _ h=>
   obtain⟨x,j,t⟩:∃x,H[b]? = some x/\x.shp = .arr true e p 0:=by simpa[A1] using h
   cases x<;>simp[Blk.shp] at t
   rename_i k z q c;obtain⟨rfl,rfl,rfl,A⟩:=t;subst A;simp only[PV.snap,j,List.drop_nil,List.take_nil];exact⟨.s _ _ (.nil _ _),rfl⟩
  | vw _ _ _ g a cap v e p m h y u N P d B=>
   obtain⟨x,j,f⟩:∃x,H[b]? = some x/\x.shp = .arr v e p m:=by simpa[A1] using h
   cases x<;>simp[Blk.shp] at f
   rename_i k z q c;obtain⟨rfl,rfl,rfl,rfl⟩:=f;have l:¬(k=true/\c=[]):=by rintro⟨F,G⟩;exact y F (by rw[G];rfl)
   have D:(k&&c.isEmpty)=false:=by cases k<;>simp_all
   simp only[PV.snap,j,D];exact⟨.s _ _ (RD M j l u P N d B (λ_ h=>af5 h) (.inr ⟨b,by omega,u⟩)),rfl⟩
theorem PY(f:HR Y H w){L:Nat}(g:L<=H.length){v:PV}{V:Value}(h:VP Y (A1 H) w v V):VP (Y.cut L) (A1 (H.take L)) w (v.low H L) V/\∀c∈(v.low H L).nms,c<L:=by
 have M:=UY f g;have d:(∀c∈v.nms,c<L)->VP (Y.cut L) (A1 (H.take L)) w v V:=λj=>h.mono M j
 unfold PV.low;split
 ·rename_i b;split
  ·rename_i e;exact⟨d (by simpa[PV.nms] using e),by simpa[PV.nms] using e⟩
  ·rename_i e;obtain⟨k,l⟩:=Ay1 f e (.inl rfl) h;grind
 ·rename_i b i n;split
  ·rename_i e;exact⟨d (by simpa[PV.nms] using e),by simpa[PV.nms] using e⟩
  ·rename_i e;obtain⟨k,l⟩:=Ay1 f e (.inr ⟨i,n,rfl⟩) h;grind
 ·exact⟨d (by simp[PV.nms]),by simp[PV.nms]⟩
 ·exact⟨d (by simp[PV.nms]),by simp[PV.nms]⟩
 ·exact⟨d (by simp[PV.nms]),by simp[PV.nms]⟩
 ·split
  ·rename_i e;exact⟨d (by simpa[PV.nms] using e),by simpa[PV.nms] using e⟩
  ·exact⟨.bad _,by simp[PV.nms]⟩
 ·split
  ·rename_i e;exact⟨d (by simpa[PV.nms] using e),by simpa[PV.nms] using e⟩
  ·exact⟨.bad _,by simp[PV.nms]⟩
 ·split
  ·grind
  ·exact⟨.bad _,by simp[PV.nms]⟩
def Sub(Y Γ':Ctx):Prop:=(∀g,Γ'.St g->Y.St g\/∃b,Y.nm b=some g)/\∀b g,Γ'.nm b=some g->Y.nm b=some g
theorem Mk.sub{n0:Nat}{Γ':Ctx}{ds:List Deferred}(h:Mk n0 Y W w ds)(s:Sub Y Γ'):Mk n0 Γ' W w ds:=by
 obtain⟨h0,Ds,h1,h2,h3⟩:=h;refine⟨h0,Ds,h1,h2,λD hD=>?_⟩;obtain⟨k1,k2,k3⟩:=h3 D hD;refine⟨k1,⟨k2.1,λq=>?_,λb q=>k2.2.2.1 b (s.2 b D q),k2.2.2.2⟩,k3⟩;rcases s.1 D q with q|⟨b,q⟩
 ·exact k2.2.1 q
 ·exact k2.2.2.1 b q
theorem Tp{v:List Blk}{p:Ctx}{F:World}{t:Nat->Prop}{L:Nat}(G:HI I)(S:SI C I Y W Q a.tmps w)(h:Stp C p v F t Y Q.hp w W)(y:v.length<=L)(x:L<=Q.hp.length):∃ Γ',SI C I Γ' W (T2 L Q) a.tmps w/\Stp C p v F t Γ' (T2 L Q).hp w W/\Sub Y Γ':=by
 unfold T2;split
 ·rename_i n;have m:(Q.hp.take L).length=L:=by rw[ad6];omega
  have N:=Bj7 S.hr x n;have l:∀b g,(Y.cut L).nm b=some g->Y.nm b=some g:=λb g h=>by
   simp only[Ctx.cut] at h;all_goals grind
  have f:∀g,(Y.cut L).St g->Y.St g\/(F.heap.size<=g/\¬W g):=λg d=>by
   rcases d with d|⟨b,M,d⟩
   ·grind
   ·refine .inr ⟨?_,S.dis b g d⟩;rcases h.own b g d with⟨q,_⟩|q
    all_goals omega
  have A:=G.foot _ _ _ _ S.inv;refine⟨Y.cut L,⟨N,⟨by simpa using S.sr.size,λc u=>?_,λi T=>?_⟩,S.g.mono (λ_ _=>rfl) (λ_ h=>af5 h),?_,λb g d=>S.dis b g (l b g d)⟩,
   ⟨h.os,h.tape,h.output,h.size,λg d=>af5 (h.sub g d),λg d=>?_,λb g d=>h.own b g (l b g d),h.foot,h.frame,h.yv,by rw[m];exact y,λb M P=>?_⟩,λg d=>d.elim .inl (λ⟨b,_,q⟩=>.inr ⟨b,q⟩),l⟩
  ·obtain⟨j,V,u⟩:=C4.1 u;have D:j<Q.sl.length:=by simpa using V
   obtain⟨U,e,k⟩:=S.sr.slot j D;rw[o8] at u;have:=(PY S.hr x k).2 c u;grind
  ·have B:i<Q.sl.length:=by simpa using T
   obtain⟨U,e,k⟩:=S.sr.slot i B;exact⟨U,e,by rw[o8];exact(PY S.hr x k).1⟩
  ·refine G.mono _ _ _ _ _ _ S.inv (λ_ h=>af5 h) (λg d hp=>?_) (λg d=>N.stlt g d) (λ_ _=>rfl) (o6 _) rfl rfl rfl;all_goals grind
  ·rcases f g d with q|q
   ·exact h.stnew g q
   omega
  ·obtain⟨X,k2,k3⟩:=h.keep b M P;have z:b<L:=by omega
   refine⟨by simp only[Ctx.cut];rw[if_pos z];exact X,?_,k3⟩;rw[<-k2];simp only[A1,aa7];grind
 ·exact⟨Y,S,h,λ_ h=>.inl h,λ_ _ h=>h⟩
theorem YV{d:List Blk}{b:Ctx}{e:World}{c:Nat->Prop}(f:HI I)(S:SI C I Y W Q a.tmps w)(h:Stp C b d e c Y Q.hp w W):∃ Γ',SI C I Γ' W (T2 d.length Q) a.tmps w/\Stp C b d e c Γ' (T2 d.length Q).hp w W/\Sub Y Γ':=
 Tp f S h (o6 _) h.len
theorem Sm:∀(g:List Nat) (l:List PV),(Dl g l).length=l.length/\∀i (h:i<(Dl g l).length) (b:i<l.length),(Dl g l)[i]=l[i]\/(Dl g l)[i] = .bad
 | g,[]=>by
  have e:Dl g []=[]:=by unfold Dl;rfl
  grind
 | [],v::l=>by
  obtain⟨c,d⟩:=Sm [] l;refine⟨by simp[Dl,c],λi h b=>?_⟩;cases i with
  | zero=>exact .inr rfl
  | succ i=>
   have:=d i (by simpa[Dl] using h) (by simpa using b);simpa[Dl] using this
 | 0::g,v::l=>by
  obtain⟨c,d⟩:=Sm g l;refine⟨by simp[Dl,c],λi h b=>?_⟩;cases i with
  | zero=>exact .inl rfl
  | succ i=>
   have:=d i (by simpa[Dl] using h) (by simpa using b);simpa[Dl] using this
 | (n+1)::g,v::l=>by
  obtain⟨c,d⟩:=Sm (n::g) l;refine⟨by simp[Dl,c],λi h b=>?_⟩;cases i with
  | zero=>exact .inr rfl
  | succ i=>
   have:=d i (by simpa[Dl] using h) (by simpa using b);simpa[Dl] using this
theorem Aw9{sl:List PV}{b:Array Value}(g:List Nat)(h:SR Y H w sl b):SR Y H w (Dl g sl) b:=by
 obtain⟨l,m⟩:=Sm g sl;refine⟨by rw[l];exact h.size,λc d=>?_,λi n=>?_⟩
 ·obtain⟨j,p,d⟩:=C4.1 d;have k:j<sl.length:=by rw[<-l];exact p
  rcases m j p k with e|e
  ·rw[e] at d;exact h.nms c (C4.2 ⟨j,k,d⟩)
  ·rw[e] at d;simp[PV.nms] at d
 ·have f:i<sl.length:=by rw[<-l];exact n
  obtain⟨V,q,t⟩:=h.slot i f;refine⟨V,q,?_⟩;rcases m i n f with e|e
  ·grind
  ·rw[e];exact .bad V
theorem Em(ds:Option (List Nat))(Q:St J):(Ka ds Q).hp=Q.hp:=by cases ds<;>rfl
theorem El(S:SI C I Y W Q a.tmps w)(ds:Option (List Nat)):SI C I Y W (Ka ds Q) a.tmps w:=by
 cases ds with
 | none=>exact S
 | some g=>exact⟨S.hr,Aw9 g S.sr,S.g,S.inv,S.dis⟩
theorem AE:∀(l:List Nat) (m:Nat),m<=Ap8 l m
 | [],m=>o6 _
 | b::r,m=>by
  simp only[Ap8];cases h:x4 m b with
  | true=>exact v7 (Nat.le_succ_of_le (ab5 h)) (AE r (b+1))
  | false=>exact AE r m
theorem Ay7:∀(l:List Blk) (m:Nat),m<=Bc5 l m
 | [],m=>o6 _
 | b::r,m=>v7 (AE _ _) (Ay7 r _)
theorem Ok{d:List Blk}{b:Ctx}{f:World}{c:Nat->Prop}(i:HI I)(S:SI C I Y W Q a.tmps w)(h:Stp C b d f c Y Q.hp w W)(ds:Option (List Nat)){L:Nat}(j:d.length<=L):∃ Γ',SI C I Γ' W (Rv ds L Q) a.tmps w/\Stp C b d f c Γ' (Rv ds L Q).hp w W:=by
 cases ds with
 | none=>exact⟨Y,S,h⟩
 | some g=>
  have e:SI C I Y W ({ sl:=Dl g Q.sl,hp:=Q.hp,s:=Q.s }:St J) a.tmps w:=⟨S.hr,Aw9 g S.sr,S.g,S.inv,S.dis⟩
  simp only[Rv,Cs4,Bs4];cases k:x4 (Bc5 Q.hp (Ap8 (C6 (Dl g Q.sl)) L)+1) Q.hp.length with
  | false=>exact⟨Y,e,h⟩
  | true=>
   have:=ab5 k;obtain⟨Γ',l,m,_⟩:=Tp (L:=Bc5 Q.hp (Ap8 (C6 (Dl g Q.sl)) L)) i e h (v7 j (v7 (AE _ _) (Ay7 _ _))) (by show Bc5 Q.hp _<=Q.hp.length;omega);grind
theorem Bs7{d:Array Value}(y:HI I)(S:SI C I Y W Q d w){L:Nat}(t:L<=Q.hp.length):∃ Γ',SI C I Γ' W (T2 L Q) d w/\(∀g,Y.St g->Γ'.St g)/\(∀g,Γ'.St g->Y.St g\/∃b,L<=b/\Y.nm b=some g)/\
  (∀b g,Γ'.nm b=some g->Y.nm b=some g)/\Γ'.yv=Y.yv/\(∀b,b<L->Γ'.nm b=Y.nm b/\A1 (T2 L Q).hp b=A1 Q.hp b)/\L<=(T2 L Q).hp.length:=by
 unfold T2;split
 ·rename_i n;have m:(Q.hp.take L).length=L:=by rw[ad6];omega
  have B:=Bj7 S.hr t n;have p:∀b g,(Y.cut L).nm b=some g->Y.nm b=some g:=λb g h=>by
   simp only[Ctx.cut] at h;grind
  have f:=y.foot _ _ _ _ S.inv;refine⟨Y.cut L,⟨B,⟨by simpa using S.sr.size,λc u=>?_,λi D=>?_⟩,S.g.mono (λ_ _=>rfl) (λ_ h=>af5 h),?_,λb g l=>S.dis b g (p b g l)⟩,
   λ_ h=>af5 h,λ_ h=>h,p,rfl,λb z=>⟨by simp only[Ctx.cut];rw[if_pos z],?_⟩,by rw[m];exact o6 _⟩
  ·obtain⟨j,F,u⟩:=C4.1 u;have x:j<Q.sl.length:=by simpa using F
   obtain⟨U,e,k⟩:=S.sr.slot j x;rw[o8] at u;have:=(PY S.hr t k).2 c u;show c<(Q.hp.take L).length;omega
  ·have v:i<Q.sl.length:=by simpa using D
   obtain⟨U,e,k⟩:=S.sr.slot i v;exact⟨U,e,by rw[o8];exact(PY S.hr t k).1⟩
  ·refine y.mono _ _ _ _ _ _ S.inv (λ_ h=>af5 h) (λg l A=>?_) (λg l=>B.stlt g l) (λ_ _=>rfl) (o6 _) rfl rfl rfl;rcases l with q|⟨b,_,q⟩
   ·exact(f g A).2 q
   ·exact S.dis b g q A
  ·simp only[A1,aa7];rw[if_pos z]
 ·exact⟨Y,S,λ_ h=>h,λ_ h=>.inl h,λ_ _ h=>h,rfl,λ_ _=>⟨rfl,rfl⟩,t⟩
end
section
variable {Z R : Type} {r : R} {C : Cfg} {I : Z -> (Nat -> Prop) -> (Nat -> Prop) -> World -> Prop} {Γ Γ' : Ctx} {K O : Nat -> Prop} {J : St Z} {a : Act} {w w' : World} {Y : E3} {W : Yh Z} {L : Value} {H H' : List Blk} {tmps : Array Value}
theorem Bs2{sh sh':Nat->Option Shp}{v:PV}{V:Value}(h:v.sv?.isSome=true)(b:VP Γ sh w v V)(c:∀g,Γ.St g->Γ'.St g):VP Γ' sh' w v V/\v.nms=[]:=by
 cases v<;>simp[PV.sv?] at h
 ·exact⟨.s _ _ (b.inv_s.mono (λ_ _=>rfl) c),rfl⟩
 ·rw[b.inv_nsl];exact⟨.nsl,rfl⟩
theorem RW:∀{l:List PV} {c:List SV},Ge l=some c->∀v∈l,v.sv?.isSome=true
 | [],_,_,v,b=>by simp at b
 | x::l,c,h,v,b=>by
  simp only[Ge] at h;split at h
  ·rename_i p q d e;rcases x6.1 b with rfl|b
   ·rw[d];rfl
   ·exact RW e v b
  ·cases h
theorem KF{sh sh':Nat->Option Shp}(n:∀g,Γ.St g->Γ'.St g):∀{args:List PV},Hv args=true->∀v∈args,v.nms=[]/\∀V,VP Γ sh w v V->VP Γ' sh' w v V
 | [],_,v,f=>by simp at f
 | x::r,h,v,f=>by
  have key:(x.nms=[]/\∀V,VP Γ sh w x V->VP Γ' sh' w x V)/\Hv r=true:=by
   unfold Hv at h;split at h
   ·rename_i d;cases d
   ·rename_i d;cases d;exact⟨⟨rfl,λV hV=>(Bs2 (Γ:=Γ) (Γ':=Γ') rfl hV n).1⟩,h⟩
   ·rename_i l p d;cases d;simp only[k9,aa4] at h;obtain⟨⟨q,i⟩,h⟩:=h;refine⟨⟨?_,λV hV=>?_⟩,h⟩
    ·simp only[PV.nms];rw[s9];intro c b;obtain⟨j,m,b⟩:=C4.1 b;have o:=RW i _ (o0 m);generalize l[j]=u at o b;cases u<;>simp[PV.sv?] at o<;>simp[PV.nms] at b
    ·obtain⟨A,rfl,hA,b⟩:=hV.inv_agg;refine VP.mk_agg hA λj m=>?_
     obtain⟨U,e,k⟩:=b j m;exact⟨U,e,(Bs2 (RW i _ (o0 m)) k n).1⟩
   ·cases h
  rcases x6.1 f with rfl|f
  ·exact key.1
  ·exact KF n key.2 v f
theorem Tg:∀(c:List Nat) (b:List PV) (d:List Value) {sl:List PV} {tmps:Array Value},SR Γ H w sl tmps->b.length=d.length->(∀j (h:j<b.length),∃U,d[j]? = some U/\VP Γ (A1 H) w (b[j]) U)->(∀v∈b,v.nms=[])->
  SR Γ H w (Ix sl c b) ((c.zip d).foldl (λt (p:Nat × Value)=>t.setIfInBounds p.1 p.2) tmps)
 | [],b,d,sl,tmps,h,_,_,_=>by cases b<;>exact h
 | t::c,[],[],sl,tmps,h,_,_,_=>h
 | t::c,[],_::_,_,_,_,f,_,_=>by simp at f
 | t::c,_::_,[],_,_,_,f,_,_=>by simp at f
 | t::c,v::b,V::d,sl,tmps,h,f,g,i=>by
  have l:VP Γ (A1 H) w v V:=by
   obtain⟨U,e,k⟩:=g 0 (by simp);simp only[ad5,j0] at e;subst e;exact k
  have m:=h.put (ds:=[]) ({ op:=.move (.const undef),dst:=some t,guard:=none,type:=0,after:=#[],pos:=default }:Oper) l (by rw[i v (by simp)];simp);have n:SR Γ H w (sl.set t v) (tmps.setIfInBounds t V):=m;exact Tg c b d n (by simpa using f) (λj o=>by
   obtain⟨U,e,k⟩:=g (j+1) (by simpa using o);exact⟨U,by simpa using e,by simpa using k⟩) (λv q=>i v (by simp[q]))
theorem Bn2(o:Out):((Bq o).map jmp).isNone=(Bq o).isNone:=by cases o<;>rfl
theorem Cq0{Γ0:Ctx}{H0:List Blk}{w0:World}{Φ0:Nat->Prop}{T:List PV}{l Dv fn:Nat}{D:Option Nat}{ps:Array Tmp}{aq body:Code}(hI:HI I)(d1:Γ0.yv=L)(e4:WP C I Y W L aq)(e5:WP C I Y W L body)
  (a9:∀c∈C6 T,c<H0.length/\Fl C (A1 H0 c)) :
  Ab1 C.P (RI C I Γ0 H0 w0 Φ0 T tmps l D (Hr fn tmps ps aq body Dv)) (Hs ps T (λJ k=>A7 C Y W aq J k) (λJ k=>A7 C Y W body J k)) (.func (.yield l) #[] #[]):=by
 intro args x b x' a3 f4 Γ K w Vs ⟨Γb,V,r⟩ f1 hc;obtain⟨H,d5,s1⟩:=x;unfold Hs at a3;cases d5 with
 | some o=>simp at a3
 | none=>
 dsimp only at a3;split at a3
 case isFalse=>cases a3
 rename_i f3;have c5:(do let d <-ad2 (.func (.yield l) #[] #[]) Vs;invoke d.target d.args:Sem Next).run C.P w=(Instr.yield l Vs).run C.P w:=by simp[ad2,invoke]
 have f5:Vs.size=(Hr fn tmps ps aq body Dv .ready none).params.size:=by rw[hc.1,f3];rfl
 have c1:=r.hd;have a8:w.heap[l]? = some (.loop (Hr fn tmps ps aq body Dv .ready none)):=r.hl;intro ro n o a next Q b3
 rw[c5,run_yield a8 f5,Oper.uponIn_round];refine⟨λh=>(by simp[D6,ab7] at h),roundIn_of_wpIn trivial ?_⟩;have inΦ:∀{g},V g\/(∃b,Γb.nm b=some g)\/g=l\/D=some g->K g:=fun {g} h=>(r.ph g).2 h
 have B:∀{g},K g->¬ Γ.St g:=fun {g} h=>(r.ft g h).2
 let ΓB:Ctx:={ Γb with St:=Γ.St }
 have SB:SI C I ΓB V { sl:=T,hp:=H,s:=s1 } tmps w:=r.si.wideSt hI r.st (λg f hp=>B (inΦ (.inl hp)) f) (λb g f hs=>B (inΦ (.inr (.inl ⟨b,f⟩))) hs) f1;have a4:=KF (Γ:=Γ) (Γ':=ΓB) (sh:=λ_=>none) (sh':=A1 H) (w:=w) (λ_ h=>h) f4;have e1:=Tg ps.toList args Vs.toList SB.sr (by rw[af2];exact hc.1.symm) (λj hj=>by
  obtain⟨U,e,k⟩:=hc.2 j hj;exact⟨U,by simpa using e,(a4 _ (o0 hj)).2 U k⟩) (λv hv=>(a4 v hv).1)
 have b2:(ps.zip Vs).foldl (λtmps (t,a)=>tmps.setIfInBounds t a) tmps=(ps.toList.zip Vs.toList).foldl (λt (p:Nat × Value)=>t.setIfInBounds p.1 p.2) tmps:=by
  rw[<-Array.foldl_toList,Array.toList_zip]
 have SA:SI C I ΓB V { sl:=Ix T ps.toList args,hp:=H,s:=s1 } ((ps.zip Vs).foldl (λtmps (t,a)=>tmps.setIfInBounds t a) tmps) w:=⟨SB.hr,by rw[b2];exact e1,SB.g,SB.inv,SB.dis⟩
 have b0:ΓB.yv=L:=r.pg.yv.trans d1;have d4:Off ΓB V w l:=⟨r.ol.1,B (inΦ (.inr (.inr (.inl rfl)))),r.ol.2.2⟩
 have f6:∀d,D=some d->Off ΓB V w d:=λd h=>⟨(r.od d h).1,B (inΦ (.inr (.inr (.inr h)))),(r.od d h).2.2⟩
 have e8:=hI.foot _ _ _ _ SA.inv;refine e4 (n0:=0) (a:={ tmps:=(ps.zip Vs).foldl (λtmps (t,a)=>tmps.setIfInBounds t a) tmps,defers:=[] }) b0 a3 SA (Mk.nil (Nat.zero_le _)) (λl' e=>by cases e;exact⟨d4,_,a8⟩) ?_;intro o1 f7 a1 w1 Γ1 Φ1 h1 i S1 f2;cases o1 with
 | exit id=>cases h1
 | ret=>cases h1
 | normal=>
 dsimp only at h1;obtain⟨a6,d7⟩:=d4.step i;have d2:∀d,D=some d->Off Γ1 Φ1 w1 d/\w1.heap[d]? = w.heap[d]?:=λd h=>(f6 d h).step i
 have c3:w1.heap[l]? = some (.loop (Hr fn tmps ps aq body Dv .ready none)):=d7.trans a8;show ∃w₂,(Instr.beginRound l).run C.P w1 = .ok () w₂/\body.wpIn (D6 (some l)) (n-1) C.P (roundPost C.P l _) a1 w₂;refine⟨_,run_beginRound c3 rfl,?_⟩;have O1:Qp Γ1 Φ1 w1 (w1.putObj l (.loop { Hr fn tmps ps aq body Dv .ready none with state:=.busy })):=Qp.put a6;have S2:=S1.offW hI O1;refine e5 (i.yv.trans b0) h1 S2 (f2.put c3) (λl' e=>by cases e;exact⟨a6.put,_,ab4 a6.1⟩) ?_;intro o2 u a2 w3 G m h2 A S3 _;simp only[j0,s8] at h2;obtain⟨rfl,rfl⟩:=h2;obtain⟨b5,d8⟩:=(Off.put (ob:=.loop { Hr fn tmps ps aq body Dv .ready none with state:=.busy }) (l:=l) a6).step A;have d3:∀d,D=some d->Off G m w3 d/\w3.heap[d]? = (w1.putObj l (.loop { Hr fn tmps ps aq body Dv .ready none with state:=.busy })).heap[d]?:=λd h=>(Off.put (ob:=.loop { Hr fn tmps ps aq body Dv .ready none with state:=.busy }) (l:=l) (d2 d h).1).step A
 have e9:w3.heap[l]? = some (.loop { Hr fn tmps ps aq body Dv .ready none with state:=.busy }):=d8.trans (ab4 a6.1);have X:=run_endRound (P:=C.P) ((Bq o2).map jmp) e9;have b7:∀d,D=some d->d≠l:=λd h e=>by
  have:=c1 d h;rw[e,a8] at this;cases this
 obtain⟨F,S⟩:∃F,w3.putObj l (.loop { { Hr fn tmps ps aq body Dv .ready none with state:=.busy } with state:=if ((Bq o2).map jmp).isNone then .ready else .done,pending:=(Bq o2).map jmp })=F:=⟨_,rfl⟩
 rw[S] at X;have O3:Qp G m w3 F:=by rw[<-S];exact Qp.put b5
 have b6:Off G m F l:=by rw[<-S];exact b5.put
 have b4:∀d,D=some d->Off G m F d:=λd h=>by rw[<-S];exact(d3 d h).1.put
 have S4:=S3.offW hI O3;have c4:H.length<=u.hp.length:=v7 i.len A.len;obtain⟨z,S5,t1,t2,t3,t4,t5,t6⟩:=Bs7 hI S4 c4;have d9:(T2 H.length u).s=u.s:=by unfold T2;split<;>rfl
 have y:Pg C ΓB H w V G u.hp F m:=i.pg.trans ((Pg.off S1.hr O1).trans (A.pg.trans (Pg.off S3.hr O3)));have P1:Pg C Γ0 H0 w0 Φ0 G u.hp F m:=r.pg.trans ((Pg.wideSt r.si.hr r.st).trans y);have c6:=i.st SA.hr (λg f=>(e8 g f).2);have c7:=A.st S2.hr (λg f=>(hI.foot _ _ _ _ S2.inv g f).2);have d0:∀g,ΓB.St g->F.heap[g]? = w.heap[g]?:=λg f=>by
  have q1:=i.sub g f;have q2:=A.sub g q1;rw[O3.same g (.inl q2),c7 g q1,O1.same g (.inl q1),c6 g f]
 have a7:=r.pg.len;have N:∀c,c<H0.length/\Fl C (A1 H0 c)->z.nm c=ΓB.nm c/\A1 (T2 H.length u).hp c=A1 H c/\∀g,ΓB.nm c=some g->F.shape? g=w.shape? g:=λc ⟨b8,b9⟩=>by
  obtain⟨_,k2,_⟩:=r.pg.keep c b8 b9;have c0:c<H.length:=j9 b8 a7;obtain⟨m1,m2,m3⟩:=y.keep c c0 (by rw[k2];exact b9);obtain⟨n1,n2⟩:=t5 c c0;exact⟨n1.trans m1,n2.trans m2,m3⟩
 have M:V8 ΓB (A1 H) w z (A1 (T2 H.length u).hp) F (λc=>c<H0.length/\Fl C (A1 H0 c)):=
  ⟨d0,λg f=>t1 g (y.sub g f),λb hb=>(N b hb).1,λb hb=>(N b hb).2.1,λb g hb f=>(N b hb).2.2 g f,t4.trans y.yv⟩
 have SF:SI C I z m { sl:=T,hp:=(T2 H.length u).hp,s:=u.s } tmps F:=
  ⟨S5.hr,SB.sr.mono M (λc hc=>⟨a9 c hc,j9 (a9 c hc).1 (v7 a7 t6)⟩),S5.g,by have:=S5.inv;rw[d9] at this;exact this,S5.dis⟩
 have PF:Pg C Γ0 H0 w0 Φ0 z (T2 H.length u).hp F m:=⟨P1.os,P1.tape,P1.output,P1.size,λg f=>t1 g (P1.sub g f),λb g hb=>P1.own b g (t3 b g hb),P1.foot,t4.trans P1.yv,v7 a7 t6,λb hb hf=>by
  obtain⟨k1,k2,k3⟩:=P1.keep b hb hf;obtain⟨n1,n2⟩:=t5 b (j9 hb a7);exact⟨n1.trans k1,n2.trans k2,k3⟩⟩
 have a0:∀{g},Off G m F g->Off z m F g:=fun {g} h=>⟨h.1,λq=>by
  rcases t2 g q with q|⟨b,_,q⟩
  ·exact h.2.1 q
  ·exact h.2.2.1 b q,λb q=>h.2.2.1 b (t3 b g q),h.2.2.2⟩
 have f0:F.heap[l]? = some (.loop (Hr fn tmps ps aq body Dv (Ca8 (Bq o2)) ((Bq o2).map jmp))):=by
  rw[<-S,ab4 b5.1];cases o2<;>rfl
 have e6:∀d,D=some d->F.heap[d]? = some (.deferred (some [])):=λd h=>by
  rw[<-S,o5 (b7 d h),(d3 d h).2,o5 (b7 d h),(d2 d h).2];exact c1 d h
 have e7:=hI.foot _ _ _ _ SF.inv;have RB:RIb C I Γ0 H0 w0 Φ0 T tmps l D (Hr fn tmps ps aq body Dv) ((T2 H.length u).hp,Bq o2,u.s) z.St (λg=>m g\/(∃b,z.nm b=some g)\/g=l\/D=some g) F z m:=by
  refine⟨SF,PF,λ_ h=>h,λ_=>Iff.rfl,λg f=>?_,a0 b6,λd h=>a0 (b4 d h),f0,e6⟩;rcases f with q|⟨b,q⟩|rfl|q
  ·exact e7 g q
  ·have:=SF.hr.lt b g q;exact⟨this.2.1,this.2.2⟩
  ·exact⟨b6.1,(a0 b6).2.1⟩
  ·exact⟨(b4 g q).1,(a0 (b4 g q)).2.1⟩
 have a5:=i.size;have e2:∀{g},(w1.putObj l (.loop { Hr fn tmps ps aq body Dv .ready none with state:=.busy })).heap.size<=g->w.heap.size<=g:=fun {g} q=>v7 (v7 a5 O1.size) q
 have e3:∀{g},g<w.heap.size->g<(w1.putObj l (.loop { Hr fn tmps ps aq body Dv .ready none with state:=.busy })).heap.size:=fun {g} q=>j9 q (v7 a5 O1.size)
 have b1:next (a.put o.dst (.bool ((Bq o2).map jmp).isNone)) F:=by
  refine b3 _ _ ⟨by rw[Bn2],z.St,_,⟨z,m,RB⟩,λg f=>t1 g (y.sub g f),λg f=>?_,λg f=>?_,λg f hp=>?_,y.size,y.os,y.tape,y.output,SF.hr.stlt⟩
  ·have d6:G.St g->Γ.St g\/w.heap.size<=g:=λq=>by
    rcases A.stnew g q with q|q
    ·exact i.stnew g q
    ·exact .inr (e2 q)
   rcases t2 g f with q|⟨b,hb,q⟩
   ·exact d6 q
   ·rcases A.own b g q with⟨_,q⟩|q
    ·rcases i.own b g q with⟨q',_⟩|q
     ·simp only at q';omega
     ·exact .inr q
    ·exact .inr (e2 q)
  ·rcases f with q|⟨b,q⟩|rfl|q
   ·rcases y.foot g q with q|q
    ·exact .inl (inΦ (.inl q))
    ·exact .inr q
   ·rcases y.own b g (t3 b g q) with⟨_,q⟩|q
    ·exact .inl (inΦ (.inr (.inl ⟨b,q⟩)))
    ·exact .inr q
   ·exact .inl (inΦ (.inr (.inr (.inl rfl))))
   ·exact .inl (inΦ (.inr (.inr (.inr q))))
  ·have c2:g≠l:=λe=>hp (inΦ (.inr (.inr (.inl e))))
   have n1:∀b,ΓB.nm b≠some g:=λb q=>hp (inΦ (.inr (.inl ⟨b,q⟩)))
   have p1:¬V g:=λq=>hp (inΦ (.inl q))
   have n2:∀b,Γ1.nm b≠some g:=λb q=>by
    rcases i.own b g q with⟨_,q⟩|q
    ·exact n1 b q
    ·omega
   have p2:¬ Φ1 g:=λq=>by
    rcases i.foot g q with q|q
    ·exact p1 q
    ·omega
   rw[<-S,o5 c2,A.frame g (e3 f) n2 p2,o5 c2,i.frame g f n1 p1]
 cases o2 with
 | normal=>exact⟨_,_,X,b1⟩
 | exit id=>exact⟨_,_,X,b1⟩
 | ret=>exact⟨_,_,X,b1⟩
end
section
variable {Y R S : Type} (C : Cfg) (g : R -> Option S)
theorem D2(c:Bool)(k:Option R):(need c k).bind g=need c (k.bind g):=by cases c<;>rfl
theorem C9(b:Bool)(k:Bool->Option R):(Cx b k).bind g=Cx b λt=>(k t).bind g:=by cases b<;>rfl
theorem D7(b:Bool)(x y:Option R):(cond b x y).bind g=cond b (x.bind g) (y.bind g):=by cases b<;>rfl
theorem F4(p:Prop)[Decidable p](x y:Option R):(if p then x else y).bind g=if p then x.bind g else y.bind g:=by split<;>rfl
theorem D3:∀(t:Tr) (k:PV->List Blk->Option R),(Dd t k).bind g=Dd t λv H=>(k v H).bind g
 | .ret v H,k=>rfl
 | .need c t,k=>by cases c;rfl;exact D3 t k
 | .split c a b,k=>by cases c;exact D3 b k;exact D3 a k
 | .fail,_=>rfl
theorem IB(op:BinOp)(t:Nat)(x y:PV)(H:List Blk)(k:PV->Option R):(A08 C op t x y H k).bind g=A08 C op t x y H λv=>(k v).bind g:=by unfold A08;((try dsimp only);(repeat' (first|rfl|split|(simp only[D2,C9,D7,F4,D3,j5,j4]))))
theorem YX(op:UnOp)(x:PV)(k:PV->Option R):(unK op x k).bind g=unK op x λv=>(k v).bind g:=by unfold unK;((try dsimp only);(repeat' (first|rfl|split|(simp only[D2,C9,D7,F4,D3,j5,j4]))))
theorem EE(t:TI)(a:PV)(H:List Blk)(k:PV->Option R):(Ol t a H k).bind g=Ol t a H λv=>(k v).bind g:=by unfold Ol;((try dsimp only);(repeat' (first|rfl|split|(simp only[D2,C9,D7,F4,D3,j5,j4]))))
theorem Yt(f:Nat->Nat × Nat)(t:TI)(a v:PV)(H:List Blk)(k:List Blk->Option R):(Qg f t a v H k).bind g=Qg f t a v H λv=>(k v).bind g:=by unfold Qg;((try dsimp only);(repeat' (first|rfl|split|(simp only[D2,C9,D7,F4,D3,j5,j4]))))
theorem Ks(t:Nat)(x i:PV)(H:List Blk)(k:PV->Option R):(Bg C t x i H k).bind g=Bg C t x i H λv=>(k v).bind g:=by unfold Bg;((try dsimp only);(repeat' (first|rfl|split|(simp only[D2,C9,D7,F4,D3,j5,j4]))))
theorem Xu(t:Nat)(x i:PV)(k:PV->Option R):(Wd C t x i k).bind g=Wd C t x i λv=>(k v).bind g:=by unfold Wd;((try dsimp only);(repeat' (first|rfl|split|(simp only[D2,C9,D7,F4,D3,j5,j4]))))
theorem YI(t:Nat)(x:PV)(b a c:Option PV)(H:List Blk)(k:PV->Option R):(Wv C t x b a c H k).bind g=Wv C t x b a c H λv=>(k v).bind g:=by unfold Wv;((try dsimp only);(repeat' (first|rfl|split|(simp only[D2,C9,D7,F4,D3,j5,j4]))))
theorem FR(b n:Nat)(c a d:Option PV)(k:PV->Option R):(Ev b n c a d k).bind g=Ev b n c a d λv=>(k v).bind g:=by unfold Ev;((try dsimp only);(repeat' (first|rfl|split|(simp only[D2,C9,D7,F4,D3,j5,j4]))))
theorem NC(t:Nat)(sl:List PV)(s x:PV)(H:List Blk)(k:PV->List PV->List Blk->Option R):(Dg C t sl s x H k).bind g=Dg C t sl s x H λv a b=>(k v a b).bind g:=by unfold Dg;((try dsimp only);(repeat' (first|rfl|split|(simp only[D2,C9,D7,F4,D3,j5,j4]))))
theorem Ae4(t:Nat)(d x:PV)(H:List Blk)(k:PV->List Blk->Option R):(II C t d x H k).bind g=II C t d x H λv a=>(k v a).bind g:=by unfold II;((try dsimp only);(repeat' (first|rfl|split|(simp only[D2,C9,D7,F4,D3,j5,j4]))))
theorem Ae3(b a:Nat)(x:PV)(H:List Blk)(k:PV->Option R):(IH C b a x H k).bind g=IH C b a x H λv=>(k v).bind g:=by unfold IH;((try dsimp only);(repeat' (first|rfl|split|(simp only[D2,C9,D7,F4,D3,j5,j4]))))
theorem UI(b a:Nat)(x:PV)(k:PV->Option R):(Vg C b a x k).bind g=Vg C b a x λv=>(k v).bind g:=by unfold Vg;((try dsimp only);(repeat' (first|rfl|split|(simp only[D2,C9,D7,F4,D3,j5,j4]))))
theorem A68(x:PV)(t:Nat)(H:List Blk)(k:PV->Option R):(A67 C x t H k).bind g=A67 C x t H λv=>(k v).bind g:=by unfold A67;((try dsimp only);(repeat' (first|rfl|split|(simp only[D2,C9,D7,F4,D3,j5,j4]))))
theorem Xg(t:Nat)(parts:List (Nat × PV))(k:PV->Option R):(Vf C t parts k).bind g=Vf C t parts λv=>(k v).bind g:=by unfold Vf;((try dsimp only);(repeat' (first|rfl|split|(simp only[D2,C9,D7,F4,D3,j5,j4]))))
theorem Ia(t len:Nat)(parts:List (Nat × PV))(H:List Blk)(k:PV->List Blk->Option R):(Z0 C t len parts H k).bind g=Z0 C t len parts H λv a=>(k v a).bind g:=by unfold Z0;((try dsimp only);(repeat' (first|rfl|split|(simp only[D2,C9,D7,F4,D3,j5,j4]))))
theorem Kx(t:Nat)(l c:PV)(H:List Blk)(k:PV->List Blk->Option R):(Bl C t l c H k).bind g=Bl C t l c H λv a=>(k v a).bind g:=by unfold Bl;((try dsimp only);(repeat' (first|rfl|split|(simp only[D2,C9,D7,F4,D3,j5,j4]))))
theorem Sn(a:Bool)(l:List PV)(k:PV->Option R):(Kh a l k).bind g=Kh a l λv=>(k v).bind g:=by unfold Kh;((try dsimp only);(repeat' (first|rfl|split|(simp only[D2,C9,D7,F4,D3,j5,j4]))))
theorem Kr(t:Nat)(x:PV)(f:Nat)(k:PV->Option R):(Bd C t x f k).bind g=Bd C t x f λv=>(k v).bind g:=by unfold Bd;((try dsimp only);(repeat' (first|rfl|split|(simp only[D2,C9,D7,F4,D3,j5,j4]))))
theorem Xt(t:Nat)(x:PV)(f:Nat)(k:PV->Option R):(Vy C t x f k).bind g=Vy C t x f λv=>(k v).bind g:=by unfold Vy;((try dsimp only);(repeat' (first|rfl|split|(simp only[D2,C9,D7,F4,D3,j5,j4]))))
theorem Zb(t len:Nat)(parts:List (Nat × PV))(k:PV->Option R):(R5 C t len parts k).bind g=R5 C t len parts λv=>(k v).bind g:=by unfold R5;((try dsimp only);(repeat' (first|rfl|split|(simp only[D2,C9,D7,F4,D3,j5,j4]))))
theorem GY(t:Nat)(H:List Blk)(k:PV->List Blk->Option R):(It C t H k).bind g=It C t H λv a=>(k v a).bind g:=by unfold It;((try dsimp only);(repeat' (first|rfl|split|(simp only[D2,C9,D7,F4,D3,j5,j4]))))
theorem PS(t:Nat)(x i:PV)(ok:Bool)(H:List Blk)(k:PV->Option R):(Ns C t x i ok H k).bind g=Ns C t x i ok H λv=>(k v).bind g:=by
 unfold Ns
 repeat' (first|rfl|split|(rw[D2];done)|(rw[C9];congr 1;funext b;rw[D7,D2];done))
theorem QB(t:Nat)(m x v:PV)(H:List Blk)(k:List Blk->Option R):(Nu C t m x v H k).bind g=Nu C t m x v H λa=>(k a).bind g:=by unfold Nu;((try dsimp only);(repeat' (first|rfl|split|(simp only[D2,C9,D7,F4,D3,j5,j4]))))
theorem QA(t:Nat)(m x:PV)(H:List Blk)(k:List Blk->Option R):(Nt C t m x H k).bind g=Nt C t m x H λa=>(k a).bind g:=by unfold Nt;((try dsimp only);(repeat' (first|rfl|split|(simp only[D2,C9,D7,F4,D3,j5,j4]))))
theorem UT(t:Nat)(x:PV)(H:List Blk)(k:List Blk->Option R):(Vp C t x H k).bind g=Vp C t x H λa=>(k a).bind g:=by unfold Vp;((try dsimp only);(repeat' (first|rfl|split|(simp only[D2,C9,D7,F4,D3,j5,j4]))))
theorem GO(b:Builtin)(c:List Nat)(args:List PV)(a:St Y)(k:PV->St Y->Option R):(Ce C b c args a k).bind g=Ce C b c args a λv s=>(k v s).bind g:=by
 unfold Ce;split
 ·rw[A68]
 ·split
  ·rw[NC]
  ·rfl
 ·rw[Ae4]
 ·rw[Sn]
 ·rw[Sn]
 ·rw[UT]
 ·rw[QA]
 ·rfl
theorem Ve(e:Nat)(cells:List PV)(H:List Blk)(k:PV->List Blk->Option R):(Vd C e cells H k).bind g=Vd C e cells H λv a=>(k v a).bind g:=by unfold Vd;((try dsimp only);(repeat' (first|rfl|split|(simp only[D2,C9,D7,F4,D3,j5,j4]))))
theorem CP(a:E3)(c:Yh Y)(f:Nat)(args:List PV)(b:St Y)(k:PV->St Y->Option R):(Rd C a c f args b k).bind g=Rd C a c f args b λv s=>(k v s).bind g:=by
 unfold Rd;split
 ·split
  ·rw[D3]
   congr 1;funext v H;rw[D2]
  ·rfl
 ·((try dsimp only);(repeat' (first|rfl|split|(simp only[D2,C9,D7,F4,D3,j5,j4]))))
theorem By1(x:Option (Bool × Y))(k:Bool->Y->Option R):(ydK x k).bind g=ydK x λb s=>(k b s).bind g:=by unfold ydK;((try dsimp only);(repeat' (first|rfl|split|(simp only[D2,C9,D7,F4,D3,j5,j4]))))
theorem Ad9(a:E3)(c:Yh Y)(f:PV)(args:List PV)(b:St Y)(k:PV->St Y->Option R):(Xk C a c f args b k).bind g=Xk C a c f args b λv s=>(k v s).bind g:=by
 unfold Xk;split
 ·rw[CP]
 ·rw[CP]
 ·split
  ·rw[By1]
  ·rfl
 ·rfl
theorem XG(a:E3)(c:Yh Y)(o:Oper)(b:St Y)(k:St Y->Option R):(opK C a c o b k).bind g=opK C a c o b λs=>(k s).bind g:=by
 unfold opK;dsimp only;split<;>(first|rfl|(simp only[Ve,Xg,Ia,EE,Yt,IB,YX,Kx,Kr,Xt,Ks,Xu,GY,PS,QB,D7,Zb];done)|skip)
 all_goals ((try dsimp only);(repeat' (first|rfl|split|(simp only[D2,C9,D7,F4,D3,j5,j4]))));all_goals (first|rfl|skip);all_goals (simp only[GO,Ad9,Ve,Xg,Ia,EE,Yt,IB,YX,Kx,Kr,Xt,Ks,Xu,UI,Ae3,YI,FR,D2,C9])
theorem Bo(e:E3)(f:Yh Y)(all:Array Oper):∀(l:List Oper) (d:St Y) (k:St Y->Option R),(Bn C e f all l d k).bind g=Bn C e f all l d λs=>(k s).bind g
 | [],d,k=>rfl
 | o::a,d,k=>by
  simp only[Bn];have c:=Bo e f all a;split
  ·rw[XG];congr 1;funext s;exact c s k
  ·split
   ·split
    ·rw[C9];congr 1;funext b;split
     ·rw[XG];congr 1;funext s;exact c s k
     ·exact c _ k
    ·exact c _ k
    ·rfl
   ·rfl
theorem JY(o:Oper)(sl:List PV)(k:Trn->Option R):(XY C o sl k).bind g=XY C o sl λv=>(k v).bind g:=by
 unfold XY
 repeat' (first|rfl|split|rw[D2])
theorem GE(d:Option Nat)(t:Trn)(a:St Y)(k:St Y->Option R):(Jf C d t a k).bind g=Jf C d t a λs=>(k s).bind g:=by
 unfold Jf;split
 ·rfl
 ·exact Ve C g _ _ _ _
theorem ER(d:E3)(f:Yh Y)(all:Array Oper)(e:List Nat × List Nat)(c:List Blk):∀(p:Bool) (l:List Nat) (b:St Y) (k:St Y->Option R),(Sx C d f all e c p l b k).bind g=Sx C d f all e c p l b λs=>(k s).bind g
 | _,[],b,k=>rfl
 | p,i::a,b,k=>by
  simp only[Sx];rw[D2,Bo]
  congr 2;funext s
  exact ER d f all e c _ a _ k
theorem Bm(a:E3)(c:Yh Y)(all:Array Oper)(e:Option (List Nat × List Nat))(d:List Blk)(p:Bool)(l:List Nat)(b:St Y)(k:St Y->Option R):(Db C a c all e d p l b k).bind g=Db C a c all e d p l b λs=>(k s).bind g:=by
 cases e with
 | none=>exact Bo C g a c all _ b k
 | some f=>exact ER C g a c all f d p l b k
theorem ET(e:E3)(h:Yh Y)(all:Array Oper)(f:Option (List Nat × List Nat))(c:List Blk)(d:Option Nat):∀(l:List Nat) (b:St Y) (k:St Y->Option R),(Ky C e h all f c d l b k).bind g=Ky C e h all f c d l b λs=>(k s).bind g
 | [],b,k=>rfl
 | i::a,b,k=>by
  simp only[Ky];rw[Bm]
  congr 1;funext s
  exact ET e h all f c d a _ k
theorem GC(a:Array Oper)(sl:List PV):∀(fl:List Nat) (k:List (Nat × Option Nat × Trn)->Option R),(Yu C a sl fl k).bind g=Yu C a sl fl λb=>(k b).bind g
 | [],k=>rfl
 | f::r,k=>by
  simp only[Yu];split
  ·rw[JY];congr 1;funext t;exact GC a sl r _
  ·rfl
theorem Qb(c:E3)(h:Yh Y)(all:Array Oper)(d:Option (List Nat × List Nat))(b:List Blk)(f:List (Nat × Option Nat × Trn)):∀(l:List Nat) (e:St Y) (k:St Y->Option R),(Oo C c h all d b f l e k).bind g=Oo C c h all d b f l e λs=>(k s).bind g
 | [],e,k=>rfl
 | i::a,e,k=>by
  simp only[Oo];split
  ·rw[GE];congr 1;funext s;exact Qb c h all d b f a _ k
  ·rw[Bm];congr 1;funext s;exact Qb c h all d b f a _ k
theorem A70(a b:Oper)(sl:List PV)(k:PV->Option R):(A69 C a b sl k).bind g=A69 C a b sl λv=>(k v).bind g:=by
 unfold A69;split
 ·rw[D2];unfold R5;split
  ·dsimp only;split
   ·split
    ·split
     ·rw[D2]
     ·rfl
    ·rfl
   ·rfl
  ·rfl
 ·rfl
theorem Ba6(b:E3)(c:Yh Y)(a:Array Oper)(e:St Y)(k:St Y->Option R):∀l:List Oper,(An7 C b c a e k l).bind g=An7 C b c a e (λs=>(k s).bind g) l
 | []=>Bo C g b c a _ e k
 | [o]=>Bo C g b c a _ e k
 | f::h::d=>by
  simp only[An7];cases WL C f h with
  | true=>
   simp only[cond_true];rw[A70];congr 1;funext v;exact Bo C g b c a d _ k
  | false=>exact Bo C g b c a _ e k
theorem Ba7(b:E3)(c:Yh Y)(id:Nat)(a:Array Oper)(d:Bool)(e:St Y)(k:St Y->Option R):(An8 C b c id a d e k).bind g=An8 C b c id a d e λs=>(k s).bind g:=by
 unfold An8;split
 ·split
  ·split
   ·exact Bm C g b c a _ _ _ _ e k
   ·rw[Bm];congr 1;funext s;rw[GC];congr 1;funext ts;exact Qb C g b c a _ _ ts _ _ k
  ·exact Ba6 C g b c a e k _
 ·split
  ·rw[Bm];congr 1;funext s;rw[JY];congr 1;funext v;rw[ET];congr 1;funext s2;rw[GE];congr 1;funext s3;exact Bm C g b c a _ _ _ _ _ k
  ·rfl
theorem EG(L:Nat)(ds:Option (List Nat))(b:St Y->(Out->St Y->Option R)->Option R)(a:St Y->(Out->St Y->Option S)->Option S)(d:∀c k,(b c k).bind g=a c λo s=>(k o s).bind g):∀(n:Nat) (c:St Y) (k:Out->St Y->Option R),(G1 L ds b n c k).bind g=G1 L ds a n c λo s=>(k o s).bind g
 | 0,c,k=>rfl
 | n+1,c,k=>by
  simp only[G1];rw[d]
  congr 1;funext o s
  cases o with
  | normal=>exact EG L ds b a d n _ k
  | exit id=>rfl
  | ret=>rfl
theorem Te{ps:Array Tmp}{sl0:List PV}{aq bd:St Y->(Out->St Y->Option R)->Option R}{as' bd':St Y->(Out->St Y->Option S)->Option S}(b:∀a k,(aq a k).bind g=as' a λo s=>(k o s).bind g)(c:∀a k,(bd a k).bind g=bd' a λo s=>(k o s).bind g) :
  ∀(L:List (List PV)) (H:List Blk) (s:Y) (k:Option Out->List Blk->Y->Option R),(Q6 ps sl0 aq bd L H s k).bind g=Q6 ps sl0 as' bd' L H s λp H s=>(k p H s).bind g
 | [],H,s,k=>rfl
 | x::xs,H,s,k=>by
  simp only[Q6];split
  ·rw[b]
   congr 1;funext o st1
   cases o with
   | normal=>
    dsimp only;rw[c]
    congr 1;funext o2 st2
    cases o2 with
    | normal=>exact Te b c xs _ _ k
    | exit id=>rfl
    | ret=>rfl
   | exit id=>rfl
   | ret=>rfl
  ·rfl
theorem XW(b:E3)(f:PV)(c:St Y)(d:List PV->Yh (List Blk × Option Out × Y)){sR:List PV->List (List PV)->List Blk->Y->(Option Out->List Blk->Y->Option R)->Option R}{sR':List PV->List (List PV)->List Blk->Y->(Option Out->List Blk->Y->Option S)->Option S}
  (e:∀a L H s k,(sR a L H s k).bind g=sR' a L H s λp H s=>(k p H s).bind g) (k:Out->St Y->Option R):(Qc C b f c d sR k).bind g=Qc C b f c d sR' λo s=>(k o s).bind g:=by
 unfold Qc;split
 ·split
  ·unfold An6;split
   ·split
    ·rw[D2,e];rfl
    ·rfl
   ·rfl
  ·unfold Td;((try dsimp only);(repeat' (first|rfl|split|(simp only[D2,C9,D7,F4,D3,j5,j4]))))
 ·rfl
end
theorem Xr{q:Type}(C:Cfg)(h:E3)(n:Yh q):∀(c:Code) {R S:Type} (g:R->Option S) (e:St q) (k:Out->St q->Option R),(A7 C h n c e k).bind g=A7 C h n c e λo s=>(k o s).bind g:=by
 intro c
 induction c with
 | skip=>intros;rfl
 | label l=>intros;rfl
 | region id r d=>intro R S g e k;simp only[A7];rw[Ba7]
 | seq a b i m=>
  intro R S g e k;simp only[A7];rw[i]
  congr 1;funext o s
  cases o with
  | normal=>exact m g s k
  | exit id=>rfl
  | ret=>rfl
 | cond c a b i m=>
  intro R S g e k;simp only[A7];split
  ·rw[C9];congr 1;funext t;rw[D7,i,m]
  ·rfl
 | block id a p=>
  intro R S g e k;simp only[A7];rw[p]
  congr 1;funext o s
  cases o with
  | normal=>rfl
  | exit j=>dsimp only;split<;>rfl
  | ret=>rfl
 | loop a p=>
  intro R S g e k;simp only[A7];exact EG g _ _ _ _ (λe k=>p g e k) _ _ _
 | scope a p=>intro R S g e k;simp only[A7];rw[p]
 | exit id=>intros;rfl
 | ret=>intros;rfl
 | rangeFunc f ps a b i m=>
  intro R S g e k;simp only[A7];exact XW C g h (opnd C e.sl f) e _ (sR:=λsl0=>Q6 ps sl0 (λe k=>A7 C h n a e k) (λe k=>A7 C h n b e k)) (sR':=λsl0=>Q6 ps sl0 (λe k=>A7 C h n a e k) (λe k=>A7 C h n b e k))
   (λsl0 L H s k=>Te (ps:=ps) (sl0:=sl0) g (aq:=λe k=>A7 C h n a e k) (bd:=λe k=>A7 C h n b e k) (as':=λe k=>A7 C h n a e k) (bd':=λe k=>A7 C h n b e k) (λe k=>i g e k) (λe k=>m g e k) L H s k) k
 | _=>intros;rfl
theorem DG{e R:Type}{C:Cfg}{a:E3}{d:Yh e}{c:Code}{b:St e}{k:Out->St e->Option R}{r:R}(h:A7 C a d c b k=some r):∃o s,A7 C a d c b (λo s=>some (o,s))=some (o,s)/\k o s=some r:=by
 have:=Xr C a d c (λp:Out × St e=>k p.1 p.2) b (λo s=>some (o,s));simp only[j4] at this;rw[<-this] at h;cases f:A7 C a d c b (λo s=>some (o,s)) with
 | none=>rw[f] at h;cases h
 | some p=>rw[f] at h;exact⟨p.1,p.2,rfl,h⟩
theorem IN{a R:Type}{C:Cfg}{b:E3}{e:Yh a}{c:Code}{d:St a}{k:Out->St a->Option R}{o:Out}{s:St a}(h:A7 C b e c d (λo s=>some (o,s))=some (o,s)):A7 C b e c d k=k o s:=by have:=Xr C b e c (λp:Out × St a=>k p.1 p.2) d (λo s=>some (o,s));rw[h] at this;exact this.symm
def Ctx.hide(Γ:Ctx)(ns:List Nat):Ctx:={ Γ with nm:=λb=>if b∈ns then none else Γ.nm b }
def Ctx.reyv(Γ:Ctx)(y:Value)(hy:y.oneCell'=true):Ctx:={ Γ with yv:=y,yv1:=hy }
section
variable {X R : Type} {r : R} {C : Cfg} {I : X -> (Nat -> Prop) -> (Nat -> Prop) -> World -> Prop} {Γ Γ' : Ctx} {Z T : Nat -> Prop} {Y : St X} {a : Act} {w w' : World} {W : E3} {J : Yh X} {K : Value} {H H' : List Blk} {N : Array Value}
theorem Hg:∀{l:List PV},yfL l=true->∀v∈l,v.yf=true
 | [],_,v,b=>by simp at b
 | x::r,h,v,b=>by
  simp only[yfL,k9] at h;rcases x6.1 b with rfl|b
  ·exact h.1
  ·exact Hg h.2 v b
theorem VP.reyv{sh:Nat->Option Shp}{y:Value}{hy:y.oneCell'=true}{v:PV}{V:Value}(h:VP Γ sh w v V):v.yf=true->VP (Γ.reyv y hy) sh w v V:=by
 induction h with
 | s v V h=>intro _;exact .s v V h
 | nsl=>intro _;exact .nsl
 | flv b e sz h=>intro _;exact .flv b e sz h
 | fl b g v e sz n cap h hv hg hcap hm hs=>intro _;exact .fl b g v e sz n cap h hv hg hcap hm hs
 | vwv b e sz i h=>intro _;exact .vwv b e sz i h
 | vw b i n g a cap v e sz m h hv hg ha hi hcap hm=>intro _;exact .vw b i n g a cap v e sz m h hv hg ha hi hcap hm
 | ptrA b i off g v e sz n h hg=>intro _;exact .ptrA b i off g v e sz n h hg
 | ptrB b off g h hg=>intro _;exact .ptrB b off g h hg
 | fnr g x y A B As Bs hf hA hB ha hb hx hy ihx ihy=>
  intro hc;simp only[PV.yf,k9] at hc;exact .fnr g x y A B As Bs hf hA hB ha hb (λj h=>ihx j h (Hg hc.1 _ (o0 h))) (λj h=>ihy j h (Hg hc.2 _ (o0 h)))
 | it b g h hg=>intro _;exact .it b g h hg
 | mpv b g h hg=>intro _;exact .mpv b g h hg
 | yd=>intro h;simp[PV.yf] at h
 | agg l A As hA ha hl ih=>
  intro hc;simp only[PV.yf] at hc;exact .agg l A As hA ha (λj h=>ih j h (Hg hc _ (o0 h)))
 | tup l A As hA ha hl ih=>
  intro hc;simp only[PV.yf] at hc;exact .tup l A As hA ha (λj h=>ih j h (Hg hc _ (o0 h)))
 | bad V=>intro _;exact .bad V
mutual
theorem PV.yf_rn(f:Nat->Nat):∀v:PV,(v.rn f).yf=v.yf
 | .s _=>rfl
 | .nsl=>rfl
 | .fl b=>rfl
 | .vw b _ _=>rfl
 | .ptr b _ _=>rfl
 | .fnr _ x y=>by simp only[PV.rn,PV.yf,Qo f x,Qo f y]
 | .it b=>rfl
 | .yd=>rfl
 | .agg l=>by simp only[PV.rn,PV.yf,Qo f l]
 | .tup l=>by simp only[PV.rn,PV.yf,Qo f l]
 | .bad=>rfl
theorem Qo(f:Nat->Nat):∀l:List PV,yfL (rnL f l)=yfL l
 | []=>rfl
 | v::r=>by simp only[rnL,yfL,PV.yf_rn f v,Qo f r]
end
theorem Br4(f:PV->PV)(l:List (List UInt8 × PV)):(HB f l).map Prod.snd=(l.map Prod.snd).map f:=by simp[HB]
theorem Blk.yf_rn(f:Nat->Nat)(x:Blk):(x.rn f).yf=x.yf:=(by cases x with|mp ents=>simp only[Blk.rn,Blk.yf,Br4,<-Kl,Qo]|_=>simp[Blk.rn,Blk.yf,Qo])
theorem Cl6(a:Bool)(l:List SV):(svV a l).yf=true:=by
 cases a with
 | true=>
  simp only[svV,cond_true,PV.yf]
  induction l with
  | nil=>rfl
  | cons x l b=>exact b
 | false=>simp only[svV,cond_false];split<;>rfl
theorem BR.reyv{sh:Nat->Option Shp}{b:Nat}{x:Blk}{y:Value}{hy:y.oneCell'=true}(h:BR Γ sh w b x)(hx:x.yf=true):BR (Γ.reyv y hy) sh w b x:=by
 cases x with
 | arr v e sz els=>exact h
 | box cells=>
  simp only[Blk.yf] at hx;obtain⟨g,cur,e,h1,h2,h3,h4⟩:=h;refine⟨g,cur,e,h1,h2,h3,λj h=>?_⟩;obtain⟨V,e1,e2⟩:=h4 j h;exact⟨V,e1,e2.reyv (Hg hx _ (o0 h))⟩
 | iter s p=>exact h
 | mp ents=>
  simp only[Blk.yf] at hx;obtain⟨g,es,ck,h1,h2,h3⟩:=h;exact⟨g,es,ck,h1,h2,h3.imp λv hv V k=>k.reyv (Hg hx v hv)⟩
 | ms a ents=>
  obtain⟨g,es,ck,h1,h2,h3⟩:=h;refine⟨g,es,ck,h1,h2,h3.imp λv hv V k=>k.reyv ?_⟩;obtain⟨e,he,rfl⟩:=Zu hv;exact Cl6 a _
 | dead=>exact h
theorem HR.reyv{y:Value}{hy:y.oneCell'=true}(h:HR Γ H w)(hx:∀b (h:b<H.length),(H[b]).yf=true):HR (Γ.reyv y hy) H w:=
 ⟨h.inj,h.lt,h.stlt,h.nms,λb hb=>(h.blk b hb).reyv (hx b hb)⟩
theorem EH:∀(H:List Blk) (n:Nat),∀b (h:b<H.length),(n+b)∈Z4 C H n\/Ci C H[b]=true
 | [],n,b,h=>by simp at h
 | x::r,n,0,_=>by
  cases c:Ci C x with
  | true=>exact .inr c
  | false=>exact .inl (by simp[Z4,c])
 | x::r,n,b+1,h=>by
  have:=EH r (n+1) b (by simpa using h);rw[show n+1+b=n+(b+1) by omega] at this;rcases this with q|q
  ·refine .inl ?_;simp only[Z4];cases Ci C x with
   | true=>exact q
   | false=>exact ae9 _ q
  ·exact .inr (by simpa using q)
theorem IU{d:List Nat}(c:∀b,b∉d->A1 H' b=A1 H b):V8 Γ (A1 H) w (Γ.hide d) (A1 H') w (·∉d):=
 ⟨λ_ _=>rfl,λ_ h=>h,λb e=>by simp only[Ctx.hide];rw[if_neg e],c,λ_ _ _ _=>rfl,rfl⟩
theorem B08{f:List Nat}(o:HR Γ H w)(v:f.Nodup)(u:∀b∈f,b<H.length):(K9 f H).length=H.length/\(∀b,b∉f->A1 (K9 f H) b=A1 H b)/\(∀b,b∈f->A1 (K9 f H) b=some .dead)/\HR (Γ.hide f) (K9 f H) w:=by
 obtain⟨i,x,q⟩:=Mj (Γ:=Γ) (sh:=A1 H) (w:=w) f H;obtain⟨A,t⟩:=Ha f (j7 f.length .dead) (O9 f H) v (by simp) (λb d=>by rw[i];exact u b d);have k:(K9 f H).length=H.length:=by rw[K9,A,i]
 have j:∀b,b∉f->(K9 f H)[b]? = (O9 f H)[b]?:=λb d=>by rw[K9,t,if_neg d]
 have l:∀b,b∈f->(K9 f H)[b]? = some .dead:=λb d=>by
  rw[K9,t,if_pos d,List.getElem?_replicate,if_pos (List.idxOf_lt_length_of_mem d)]
 have p:∀b,b∉f->A1 (K9 f H) b=A1 H b:=λb d=>by
  rw[<-x b];simp only[A1,j b d]
 have M:=IU (Γ:=Γ) (H:=H) (w:=w) p;have m:∀b g,(Γ.hide f).nm b=some g->b∉f/\Γ.nm b=some g:=λb g h=>by
  simp only[Ctx.hide] at h;split at h
  ·cases h
  ·exact⟨‹_›,h⟩
 refine⟨k,p,λb d=>by simp only[A1,l b d];rfl,⟨λb B g D F=>o.inj b B g (m b g D).2 (m B g F).2,λb g h=>?_,o.stlt,λb d c n=>?_,λb d=>?_⟩⟩
 ·obtain⟨y,z,G⟩:=o.lt b g (m b g h).2;exact⟨by rw[k];exact y,z,G⟩
 ·rw[k] at d ⊢;by_cases h:b∈f
  ·have:=l b h;rw[c8 (by rw[k];exact d)] at this;simp only[j0] at this;rw[this] at n;simp[Blk.nms] at n
  ·have e:=j b h;rw[c8 (by rw[k];exact d),c8 (by rw[i];exact d)] at e;simp only[j0] at e;rw[e] at n;exact o.nms b d c ((q b (by rw[i];exact d) d).1 c n).2
 ·rw[k] at d;by_cases h:b∈f
  ·have:=l b h;rw[c8 (by rw[k];exact d)] at this;simp only[j0] at this;rw[this];trivial
  ·have e:=j b h;rw[c8 (by rw[k];exact d),c8 (by rw[i];exact d)] at e;simp only[j0] at e;rw[e];obtain⟨y,z⟩:=q b (by rw[i];exact d) d;exact(z b (o.blk b d)).mono M (M.nm b h) (λ_ _=>rfl) (λc n=>(y c n).1)
theorem Nk{b:Obj}{g:Nat}(h:g<w.heap.size):(w.alloc b).heap[g]? = w.heap[g]?:=by show(w.heap.push b)[g]? = w.heap[g]?;rw[Array.getElem?_push];rw[if_neg (by omega)]
theorem Ot{v:PV}{V:Value}{sh:Nat->Option Shp}{f:Nat}{first b:List PV}(h:Oc v=some (f,first,b))(i:VP Γ sh w v V):∃A B,V = .func (.func f) A B/\CR Γ sh w first A/\CR Γ sh w b B/\∀c∈C6 (first++b),c∈v.nms:=by
 have g:∀(l:List SV),C6 (l.map PV.s)=[]:=λl=>by
  rw[s9];intro c d;obtain⟨j,k,d⟩:=C4.1 d;simp[PV.nms] at d
 unfold Oc at h;split at h
 ·simp only[j0,s8] at h;obtain⟨rfl,rfl,rfl⟩:=h;obtain⟨A,B,rfl,hA,e⟩:=i.inv_fn';exact⟨A,B,rfl,hA,e,λc d=>by rw[L3,g,g] at d;simp at d⟩
 ·simp only[j0,s8] at h;obtain⟨rfl,rfl,rfl⟩:=h;obtain⟨A,B,rfl,hA,e⟩:=i.inv_fnr';exact⟨A,B,rfl,hA,e,λc d=>by rw[L3] at d;simpa[PV.nms] using d⟩
 ·cases h
theorem VP.ndead{sh:Nat->Option Shp}{v:PV}{V:Value}(h:VP Γ sh w v V):∀c∈v.nms,sh c≠some .dead:=by
 induction h with
 | s v V h=>intro c hc;simp[PV.nms] at hc
 | nsl=>intro c hc;simp[PV.nms] at hc
 | flv b e sz h=>intro c hc;simp[PV.nms] at hc;subst hc;rw[h];simp
 | fl b g v e sz n cap h hv hg hcap hm hs=>intro c hc;simp[PV.nms] at hc;subst hc;rw[h];simp
 | vwv b e sz i h=>intro c hc;simp[PV.nms] at hc;subst hc;rw[h];simp
 | vw b i n g a cap v e sz m h hv hg ha hi hcap hm=>intro c hc;simp[PV.nms] at hc;subst hc;rw[h];simp
 | ptrA b i off g v e sz n h hg=>intro c hc;simp[PV.nms] at hc;subst hc;rw[h];simp
 | ptrB b off g h hg=>intro c hc;simp[PV.nms] at hc;subst hc;rw[h];simp
 | fnr g x y A B As Bs hf hA hB ha hb hx hy ihx ihy=>
  intro c hc;simp only[PV.nms,x5] at hc;rcases hc with hc|hc
  ·obtain⟨j,hj,hc⟩:=C4.1 hc;exact ihx j hj c hc
  ·obtain⟨j,hj,hc⟩:=C4.1 hc;exact ihy j hj c hc
 | it b g h hg=>intro c hc;simp[PV.nms] at hc;subst hc;rw[h];simp
 | mpv b g h hg=>intro c hc;simp[PV.nms] at hc;subst hc;rw[h];simp
 | yd=>intro c hc;simp[PV.nms] at hc
 | agg l A As hA ha hl ih=>intro c hc;simp only[PV.nms] at hc;obtain⟨j,hj,hc⟩:=C4.1 hc;exact ih j hj c hc
 | tup l A As hA ha hl ih=>intro c hc;simp only[PV.nms] at hc;obtain⟨j,hj,hc⟩:=C4.1 hc;exact ih j hj c hc
 | bad V=>intro c hc;simp[PV.nms] at hc
theorem BR.ndead{sh:Nat->Option Shp}{b:Nat}{x:Blk}(h:BR Γ sh w b x):∀c∈x.nms,sh c≠some .dead:=by
 cases x with
 | box cells=>
  intro c hc;simp only[Blk.nms] at hc;obtain⟨j,hj,hc⟩:=C4.1 hc;obtain⟨g,cur,e,h1,h2,h3,h4⟩:=h;obtain⟨V,_,e2⟩:=h4 j hj;exact e2.ndead c hc
 | arr v e sz els=>intro c hc;simp[Blk.nms] at hc
 | iter s p=>intro c hc;simp[Blk.nms] at hc
 | mp ents=>
  intro c hc;simp only[Blk.nms] at hc;obtain⟨j,hj,hc⟩:=C4.1 hc;obtain⟨g,es,ck,h1,h2,h3⟩:=h;exact h3.vals _ (o0 hj) (λV k=>k.ndead c hc)
 | ms a ents=>intro c hc;simp[Blk.nms] at hc
 | dead=>intro c hc;simp[Blk.nms] at hc
theorem FG{ro:Option Nat}{n n0:Nat}{g:Operand}{ps:Array Tmp}{aq body:Code}{k:Out->St X->Option R}{Q:Exit->Act->World->Prop}{f7:E3}{f:Nat}{first a0:List PV}{m:List Nat}(A:Ask C I W J K)(h9:Aa C f7)(l5:Γ.yv=K)(i6:WP C I W J K aq)(i9:WP C I W J K body)
  (l3:Oc (opnd C Y.sl g)=some (f,first,a0)) (f4:m.Nodup) (b8:∀c∈C6 (first++a0),c∈m) (a4:∀b∈m,b<Y.hp.length)
  (h:Td C f7 f first a0 m Y (λl7=>Hs ps l7 (λY k=>A7 C W J aq Y k) (λY k=>A7 C W J body Y k)) k=some r) (S:SI C I Γ Z Y a.tmps w) (hM:Mk n0 Γ Z w a.defers) (hR:Ro ro Γ Z w) (hP:Bz1 C I n0 Γ Z Y.hp w k r Q) :
  (ag8 g ps aq body).wpIn (D6 ro) n C.P Q a w:=by
 have hv:=(S.opnd g).1;have hvn:=(S.opnd g).2;obtain⟨FA,FB,i0,j3,k0,m5⟩:=Ot l3 hv;unfold Td at h;split at h
 case isFalse=>cases h
 rename_i b5;simp only[k9,x7] at b5;obtain⟨⟨⟨k4,f5⟩,l4⟩,d5⟩:=b5;split at h
 case h_2=>cases h
 rename_i ret Hc H1 a2 s' e9;refine wpIn_rangeFunc (λfn _=>?_);have h8:∃(G:World) (l Dv:Nat) (D:Option Nat),(Instr.enterLoop fn a.tmps ps aq body ro).run C.P w = .ok (l,D.toList.map mkD) G/\w.heap.size<=l/\l<G.heap.size/\w.heap.size<=G.heap.size/\(∀g,g<w.heap.size->G.heap[g]? = w.heap[g]?)/\
   G.heap[l]? = some (.loop (Hr fn a.tmps ps aq body Dv .ready none))/\(∀d,D=some d->w.heap.size<=d/\d<G.heap.size/\d≠l/\G.heap[d]? = some (.deferred (some [])))/\G.os=w.os/\G.tape=w.tape/\G.output=w.output:=by
  cases ro with
  | none=>
   refine⟨(w.alloc (.deferred (some []))).alloc (.loop (Hr fn a.tmps ps aq body w.heap.size .ready none)),w.heap.size+1,w.heap.size,some w.heap.size,run_enterLoop_outer _ _ _ _ _,by omega,by simp,by simp;omega,λg B=>?_,?_,λd hd=>?_,rfl,rfl,rfl⟩
   ·rw[Nk (by simp;omega),Nk B]
   ·have:=ac0 (w.alloc (.deferred (some []))) (.loop (Hr fn a.tmps ps aq body w.heap.size .ready none));rwa [World.size_alloc] at this
   ·simp only[j0] at hd;subst hd;exact⟨o6 _,by simp;omega,by omega,by rw[Nk (by simp)];exact ac0 w _⟩
  | some l0=>
   obtain⟨_,r0,l2⟩:=hR l0 rfl;exact⟨w.alloc (.loop (Hr fn a.tmps ps aq body r0.defers .ready none)),w.heap.size,r0.defers,none,run_enterLoop_inner l2 _ _ _ _ _,o6 _,by simp,by simp,λg B=>Nk B,ac0 w _,λd hd=>(by cases hd),rfl,rfl,rfl⟩
 obtain⟨G,lw,Dv,D,c4,l1,k7,h5,a5,k8,hD,ho⟩:=h8;obtain⟨S1,m6⟩:=S.wide A.hI (St':=Γ.St) a5 h5 (λ_ h=>h) (λ_ h=>.inl h) (λg B=>by have:=S.hr.stlt g B;omega) ho.1 ho.2.1 ho.2.2;have S1:SI C I Γ Z Y a.tmps G:=S1;have k5:=A.hI.foot _ _ _ _ S.inv;have d9:∀{g},w.heap.size<=g->g<G.heap.size->Off Γ Z G g:=fun {g} h1 h2=>⟨h2,λq=>by have:=S.hr.stlt g q;omega,λb q=>by have:=(S.hr.lt b g q).2.1;omega,λq=>by have:=(k5 g q).1;omega⟩
 have d2:Off Γ Z G lw:=d9 l1 k7;have d1:∀d,D=some d->Off Γ Z G d:=λd h=>d9 (hD d h).1 (hD d h).2.1
 obtain⟨dl,b9,f8,e4⟩:=B08 S1.hr f4 a4;have c6:=Ke (Γ:=Γ) (sh:=A1 Y.hp) (w:=G) (m++Z4 C Y.hp 0) Y.sl;have f1:=IU (Γ:=Γ) (H:=Y.hp) (H':=K9 m Y.hp) (w:=G) b9;have a1:∀c∈C6 (J4 (m++Z4 C Y.hp 0) Y.sl),c∉m/\c<Y.hp.length/\Ci C (Y.hp.getD c .dead)=true:=λc u=>by
  obtain⟨F,q2⟩:=c6.2.1 c u;have q3:=S.sr.nms c q2;simp only[x5,not_or] at F;refine⟨F.1,q3,?_⟩;have e:Y.hp.getD c .dead=Y.hp[c]:=by rw[o7,c8 q3];rfl
  rw[e];rcases EH (C:=C) Y.hp 0 c q3 with q|q
  ·rw[Nat.zero_add] at q;exact absurd q F.2
  ·exact q
 have g1:SR (Γ.hide m) (K9 m Y.hp) G (J4 (m++Z4 C Y.hp 0) Y.sl) a.tmps:=by
  have h0:SR Γ Y.hp G (J4 (m++Z4 C Y.hp 0) Y.sl) a.tmps:=⟨by rw[c6.1];exact S1.sr.size,λc u=>(a1 c u).2.1,λi hi=>by
   have b7:i<Y.sl.length:=by rw[<-c6.1];exact hi
   obtain⟨V,e1,e2⟩:=S1.sr.slot i b7;exact⟨V,e1,c6.2.2 i hi b7 V e2⟩⟩
  exact h0.mono f1 (λc u=>⟨(a1 c u).1,by rw[dl];exact(a1 c u).2.1⟩)
 have M:∀{b g},(Γ.hide m).nm b=some g->b∉m/\Γ.nm b=some g:=fun {b g} h=>by
  simp only[Ctx.hide] at h;split at h
  ·cases h
  ·exact⟨‹_›,h⟩
 have SS:SI C I (Γ.hide m) Z { sl:=J4 (m++Z4 C Y.hp 0) Y.sl,hp:=K9 m Y.hp,s:=Y.s } a.tmps G:=⟨e4,g1,S1.g,S1.inv,λb g p=>S1.dis b g (M p).2⟩
 have g5:∀c∈C6 (J4 (m++Z4 C Y.hp 0) Y.sl),c<(K9 m Y.hp).length/\Fl C (A1 (K9 m Y.hp) c):=λc u=>by
  obtain⟨F,q2,q3⟩:=a1 c u;exact⟨by rw[dl];exact q2,by rw[b9 c F];exact(DH q2).1 q3⟩
 have d8:∀{g},Off Γ Z G g->Off (Γ.hide m) Z G g:=fun {g} h=>⟨h.1,h.2.1,λb q=>h.2.2.1 b (M q).2,h.2.2.2⟩
 let Φc:Nat->Prop:=λg=>Z g\/(∃b,(Γ.hide m).nm b=some g)\/g=lw\/D=some g
 have h7:RI C I (Γ.hide m) (K9 m Y.hp) G Z (J4 (m++Z4 C Y.hp 0) Y.sl) a.tmps lw D (Hr fn a.tmps ps aq body Dv) (K9 m Y.hp,none,Y.s) Γ.St Φc G:=by
  refine⟨Γ.hide m,Z,SS,Stp.pg (Stp.refl e4),λ_ h=>h,λ_=>Iff.rfl,λg B=>?_,d8 d2,λd h=>d8 (d1 d h),k8,λd h=>(hD d h).2.2.2⟩;rcases B with q|⟨b,q⟩|q|q
  ·have:=A.hI.foot _ _ _ _ S1.inv g q;exact this
  ·have:=e4.lt b g q;exact⟨this.2.1,this.2.2⟩
  ·rw[q];exact⟨d2.1,d2.2.1⟩
  ·exact⟨(d1 g q).1,(d1 g q).2.1⟩
 have i3:=PQ S1.hr f4 a4 k4;have a3:=λb (h:b∈m)=>Y2 h
 have f3:(L7 Y.hp m).length=m.length:=by simp[L7]
 let y:Value:=.func (.yield lw) #[] #[];have b0:y.oneCell'=true:=rfl;have g0:HR ((Γ.lent m).reyv y b0) (L7 Y.hp m) G:=i3.reyv (λb p=>by
  have i7:b<m.length:=by rw[<-f3];exact p
  simp only[L7,o8,Blk.yf_rn];exact l4 _ (o0 i7))
 have e3:∀{l:List PV} {V:Array Value},CR Γ (A1 Y.hp) w l V->yfL l=true->(∀c∈C6 l,c∈m)->CR ((Γ.lent m).reyv y b0) (A1 (L7 Y.hp m)) G (rnL (F7 m) l) V:=fun {l V} u hy hn=>by
  have g3:CR Γ (A1 Y.hp) G l V:=u.mono (Γ':=Γ) (H':=Y.hp) (Xc S.hr a5 (λ_ h=>h)) (λ_ _=>trivial);rw[Kl];refine⟨by rw[z7];exact g3.1,λj hj=>?_⟩;have f2:j<l.length:=by simpa using hj
  obtain⟨U,e,q⟩:=g3.2 j f2;refine⟨U,e,?_⟩;rw[o8];refine VP.reyv (VP.rn (Γ:=Γ) (Γ':=Γ.lent m) rfl q (.inr λ_ h=>h) (λc u=>?_)) (by rw[PV.yf_rn];exact Hg hy _ (o0 f2));have c3:=hn c (C4.2 ⟨j,f2,u⟩);obtain⟨F,q2⟩:=a3 c c3;exact⟨Nr c3,by rw[Ir a4 F,q2]⟩
 have l8:∀(x z:List PV),yfL (x++z)=(yfL x&&yfL z):=λx z=>by
  induction x with
  | nil=>simp[yfL]
  | cons v x ih=>simp[yfL,ih,Bool.and_assoc]
 rw[l8,k9] at f5;have e8:CR ((Γ.lent m).reyv y b0) (A1 (L7 Y.hp m)) G (rnL (F7 m) first++.yd::rnL (F7 m) a0) (FA++#[y]++FB):=by
  have h1:=e3 j3 f5.1 (λc u=>b8 c (by rw[L3];simp[u]));have h2:=e3 k0 f5.2 (λc u=>b8 c (by rw[L3];simp[u]));have h3:CR ((Γ.lent m).reyv y b0) (A1 (L7 Y.hp m)) G [.yd] #[y]:=CR.one .yd;have:=(h1.append h3).append h2;simpa using this
 have e7:∀c∈C6 (rnL (F7 m) first++.yd::rnL (F7 m) a0),c<(L7 Y.hp m).length:=λc u=>by
  have:c∈(C6 (first++a0)).map (F7 m):=by
   rw[L3] at u;simp only[C6,PV.nms,List.nil_append,Dp,x5] at u;rw[L3,ac4,x5];exact u
  obtain⟨d,hd,rfl⟩:=List.mem_map.1 this;rw[f3];exact(a3 d (b8 d hd)).1
 have a7:∀{i g},(Γ.lent m).nm i=some g->∃hi:i<m.length,Γ.nm m[i]=some g:=fun {i g} h=>by
  simp only[Ctx.lent] at h;cases hi:m[i]? with
  | none=>rw[hi] at h;simp at h
  | some b=>
   obtain⟨h1,h2⟩:=List.getElem?_eq_some_iff.1 hi;rw[hi] at h;exact⟨h1,by rw[h2];exact h⟩
 have c1:=h9 _ _ _ y (Cp9 A.hI) (Cq0 (fn:=fn) (ps:=ps) (aq:=aq) (body:=body) (l:=lw) (Dv:=Dv) (D:=D) (tmps:=a.tmps) (w0:=G) (Φ0:=Z) (Γ0:=Γ.hide m) A.hI l5 i6 i9 g5) f _ _ _ ret Hc _ e9 ((Γ.lent m).reyv y b0) Φc G (FA++#[y]++FB) rfl g0 S1.g h7 (λi g hi=>by
  obtain⟨k6,c5⟩:=a7 hi;rintro(q|⟨b,q⟩|q|q)
  ·exact S1.dis _ g c5 q
  ·obtain⟨F,q2⟩:=M q;have:=S1.hr.inj _ _ g c5 q2;exact F (this▸o0 k6)
  ·exact d2.2.2.1 _ (q▸c5)
  ·exact(d1 _ q).2.2.1 _ c5) e8 e7
 have c2:=Tv (ro:=ro) (n:=n) (X7 d5) c1;refine⟨lw,D.toList.map mkD,G,{ target:=.fn (.func f) FB,args:=FA++#[y] },G,f,FA++#[y]++FB,G,?_,?_,λ_ _=>trivial,?_,λh=>by simp[D6,ab7] at h,c2.mono ?_⟩
 ·exact c4
 ·simp[resolve,i0,ad2];rfl
 ·show(callFunc f (FA++#[y]++FB)).run C.P G=_;exact X7 d5
 rintro e W2 ⟨V,rfl,Γ1,Φ1,hs,b3,m7,m4,⟨Γb,Φb,r1⟩,b6⟩;have g6:=r1.hl;have d4:=run_endLoop (P:=C.P) g6 (by cases a2<;>simp[Hr,Ca8]);obtain⟨w4,d0⟩:∃w4,W2.putObj lw (.loop { Hr fn a.tmps ps aq body Dv (Ca8 a2) (a2.map jmp) with state:=.exhausted })=w4:=⟨_,rfl⟩
 rw[d0] at d4;have O:Qp Γb Φb W2 w4:=by rw[<-d0];exact Qp.put r1.ol
 have a9:w4.heap.size=W2.heap.size:=by rw[<-d0];simp
 have h4:∀g,g≠lw->w4.heap[g]? = W2.heap[g]?:=λg B=>by rw[<-d0];exact o5 B
 have inΦ:∀{g},Φb g\/(∃b,Γb.nm b=some g)\/g=lw\/D=some g->Φ1 g:=fun {g} h=>(r1.ph g).2 h
 have S5:=(r1.si.offW A.hI O).wideSt A.hI (St':=Γ1.St) r1.st (λg B hp=>(r1.ft g (inΦ (.inl hp))).2 B) (λb g p B=>(r1.ft g (inΦ (.inr (.inl ⟨b,p⟩)))).2 B) (λg B=>by rw[a9];exact b3.stlt g B);have c7:Y.hp.length<=H1.length:=by have:=r1.pg.len;rw[dl] at this;exact this
 have d3:m.length<=Hc.length:=by have:=hs.len;rw[z7] at this;exact this
 obtain⟨l6,h6⟩:=Ha m (m.map λb=>cond (Ci C (Y.hp.getD b .dead)) (Gf (Hc.getD (F7 m b) .dead)) .dead) H1 f4 (by simp) (λb p=>j9 (a4 b p) c7);generalize e6:UC C m Y.hp Hc H1=H2 at h;have a6:H2.length=H1.length:=by rw[<-e6];exact l6
 have e5:∀b (p:b∈m),H2[b]? = some (cond (Ci C (Y.hp.getD b .dead)) (Gf (Hc.getD (F7 m b) .dead)) .dead):=λb p=>by
  rw[<-e6];simp only[UC];rw[h6,if_pos p,ab3];have e:m.idxOf b=F7 m b:=rfl;rw[e,c8 (a3 b p).1,(a3 b p).2];rfl
 have b2:∀b,b∉m->H2[b]? = H1[b]?:=λb p=>by
  rw[<-e6];simp only[UC];rw[h6,if_neg p]
 let Γf:Ctx:={ St:=Γ1.St,nm:=λb=>if b∈m then (if Ci C (Y.hp.getD b .dead)=true then Γ1.nm (F7 m b) else none) else Γb.nm b,yv:=Γ.yv,yv1:=Γ.yv1 }
 have b1:∀{b},b∈m->Ci C (Y.hp.getD b .dead)=true->Γf.nm b=Γ1.nm (F7 m b):=fun {b} h1 h2=>by simp only[Γf];rw[if_pos h1,if_pos h2]
 have f9:∀{b},b∈m->¬Ci C (Y.hp.getD b .dead)=true->Γf.nm b=none:=fun {b} h1 h2=>by simp only[Γf];rw[if_pos h1,if_neg h2]
 have a8:∀{b},b∉m->Γf.nm b=Γb.nm b:=fun {b} h1=>by simp only[Γf];rw[if_neg h1]
 have L:∀{b g},Γf.nm b=some g->(b∈m/\Γ1.nm (F7 m b)=some g)\/(b∉m/\Γb.nm b=some g):=fun {b g} h=>by
  by_cases p:b∈m
  ·by_cases hf:Ci C (Y.hp.getD b .dead)=true
   ·rw[b1 p hf] at h;exact .inl ⟨p,h⟩
   ·rw[f9 p hf] at h;cases h
  ·rw[a8 p] at h;exact .inr ⟨p,h⟩
 have g8:∀c,c∈m->A1 H1 c=some .dead:=λc u=>by
  obtain⟨_,k2,_⟩:=r1.pg.keep c (by rw[dl];exact a4 c u) (by rw[f8 c u];trivial);rw[k2];exact f8 c u
 have d7:∀b,b∉m->A1 H2 b=A1 H1 b:=λb p=>by simp only[A1,b2 b p]
 have Mf:V8 { Γb with St:=Γ1.St } (A1 H1) w4 Γf (A1 H2) w4 (·∉m):=⟨λ_ _=>rfl,λ_ h=>h,λb p=>a8 p,d7,λ_ _ _ _=>rfl,(r1.pg.yv:Γb.yv=Γ.yv).symm⟩
 have i4:HR Γf H2 w4:=by
  refine⟨λb b' g h1 h2=>?_,λb g p=>?_,λg B=>by rw[a9];exact b3.stlt g B,λb p c u=>?_,λb p=>?_⟩
  ·rcases L h1 with⟨p1,F⟩|⟨p1,F⟩<;>rcases L h2 with⟨p2,q2⟩|⟨p2,q2⟩
   ·have:=b3.inj _ _ g F q2;have e1:=(a3 b p1).2;have e2:=(a3 b' p2).2;rw[<-e1,<-e2];simp only[this]
   ·exact absurd (inΦ (.inr (.inl ⟨b',q2⟩))) (b6 _ g F)
   ·exact absurd (inΦ (.inr (.inl ⟨b,F⟩))) (b6 _ g q2)
   ·exact r1.si.hr.inj b b' g F q2
  ·rcases L p with⟨p1,F⟩|⟨p1,F⟩
   ·have:=b3.lt _ g F;exact⟨by rw[a6];exact j9 (a4 b p1) c7,by rw[a9];exact this.2.1,this.2.2⟩
   ·have:=S5.hr.lt b g F;exact⟨by rw[a6];exact this.1,this.2⟩
  ·by_cases t:b∈m
   ·have e:=e5 b t;rw[c8 p] at e;simp only[j0] at e;rw[e] at u;cases hf:Ci C (Y.hp.getD b .dead) with
    | true=>rw[hf,cond_true,HZ] at u;simp at u
    | false=>rw[hf] at u;simp[Blk.nms] at u
   ·have e:=b2 b t;have b4:b<H1.length:=by rw[<-a6];exact p
    rw[c8 p,c8 b4] at e;simp only[j0] at e;rw[e] at u;rw[a6];exact S5.hr.nms b b4 c u
  ·by_cases t:b∈m
   ·have e:=e5 b t;rw[c8 p] at e;simp only[j0] at e;rw[e];cases hf:Ci C (Y.hp.getD b .dead) with
    | true=>
     rw[cond_true];have hi:F7 m b<Hc.length:=j9 (a3 b t).1 d3;rw[Rw hi];refine Bi3 (b3.blk _ hi) (b1 t hf) (λg B=>h4 g ?_) (λ_ h=>h) (λg B=>h4 g ?_)
     ·intro e;rw[e] at B;exact(r1.ft _ (inΦ (.inr (.inr (.inl rfl))))).2 B
     ·intro e;rw[e] at B;exact b6 _ _ B (inΦ (.inr (.inr (.inl rfl))))
    | false=>trivial
   ·have e:=b2 b t;have b4:b<H1.length:=by rw[<-a6];exact p
    rw[c8 p,c8 b4] at e;simp only[j0] at e;rw[e];have hB:=S5.hr.blk b b4;exact hB.mono Mf (a8 t) (λ_ _=>rfl) (λc u c3=>hB.ndead c u (g8 c c3))
 have g2:SR Γf H2 w4 (J4 (m++Z4 C Y.hp 0) Y.sl) a.tmps:=S5.sr.mono Mf (λc u=>⟨(a1 c u).1,by rw[a6];exact j9 (a1 c u).2.1 c7⟩);have SF:SI C I Γf Φb { sl:=J4 (m++Z4 C Y.hp 0) Y.sl,hp:=H2,s:=s' } a.tmps w4:=⟨i4,g2,S5.g,S5.inv,λb g p=>by
  rcases L p with⟨_,F⟩|⟨_,F⟩
  ·exact λq=>b6 _ g F (inΦ (.inl q))
  ·exact S5.dis b g F⟩
 have l9:=hs.size;have f6:Stp C Γ Y.hp w Z Γf H2 w4 Φb:=by
  refine⟨O.os.trans (hs.os.trans ho.1),O.tape.trans (hs.tape.trans ho.2.1),O.output.trans (hs.output.trans ho.2.2),by omega,λg B=>hs.sub g B,λg B=>?_,λb g p=>?_,λg B=>?_,λg B hn hp=>?_,rfl,by rw[a6];exact c7,λb p hf=>?_⟩
  ·rcases hs.stnew g B with q|q
   ·exact .inl q
   ·exact .inr (by omega)
  ·rcases L p with⟨p1,F⟩|⟨p1,F⟩
   ·rcases hs.own _ g F with⟨_,q⟩|q
    ·obtain⟨i1,i2⟩:=a7 q;rw[(a3 b p1).2] at i2;exact .inl ⟨a4 b p1,i2⟩
    ·exact .inr (by omega)
   ·rcases r1.pg.own b g F with⟨q,q'⟩|q
    ·exact .inl ⟨by rw[<-dl];exact q,(M q').2⟩
    ·exact .inr (by omega)
  ·rcases r1.pg.foot g B with q|q
   ·exact .inl q
   ·exact .inr (by omega)
  ·have np:¬ Φc g:=by
    rintro(q|⟨b,q⟩|q|q)
    ·exact hp q
    ·exact hn b (M q).2
    ·omega
    ·have:=(hD g q).1;omega
   rw[h4 g (by omega),hs.frame g (by omega) (λb q=>by obtain⟨_,i2⟩:=a7 q;exact hn _ i2) np,a5 g B]
  ·by_cases t:b∈m
   ·have g4:=(DH (C:=C) (H:=Y.hp) p).2 hf;obtain⟨F,q2⟩:=a3 b t;have hi:F7 m b<(L7 Y.hp m).length:=by rw[f3];exact F
    have g9:A1 (L7 Y.hp m) (F7 m b)=A1 Y.hp b:=by rw[Ir a4 F,q2]
    obtain⟨k1,k2,k3⟩:=hs.keep _ hi (by show Fl C (A1 (L7 Y.hp m) _);rw[g9];exact hf);have k2:A1 Hc (F7 m b)=A1 (L7 Y.hp m) (F7 m b):=k2;have d6:((Γ.lent m).reyv y b0).nm (F7 m b)=Γ.nm b:=Nr t;refine⟨(b1 t g4).trans (k1.trans d6),?_,λg B=>?_⟩
    ·have b7:F7 m b<Hc.length:=j9 F d3;simp only[A1,e5 b t,g4,cond_true,ac5,IA,Rw b7];show some (Hc[F7 m b]).shp=A1 Y.hp b;rw[<-g9,<-k2];simp only[A1,c8 b7,ac5]
    ·have e1:=k3 g (d6.trans B);have f0:=S.hr.lt b g B;rw[D8 (h4 g (by omega)),e1,D8 (a5 g f0.2.1)]
   ·obtain⟨k1,k2,k3⟩:=r1.pg.keep b (by rw[dl];exact p) (by rw[b9 b t];exact hf);have hh:(Γ.hide m).nm b=Γ.nm b:=by simp only[Ctx.hide];rw[if_neg t]
    refine⟨(a8 t).trans (k1.trans hh),by rw[d7 b t,k2,b9 b t],λg B=>?_⟩;have f0:=S.hr.lt b g B;rw[D8 (h4 g (by omega)),k3 g (hh.trans B),D8 (a5 g f0.2.1)]
 have i5:Mk n0 Γf Φb w4 (D.toList.map mkD++a.defers):=by
  obtain⟨m0,Ds,m1,m2,m3⟩:=hM;refine⟨by omega,D.toList++Ds,by rw[m1,ac4],?_,λd hd=>?_⟩
  ·cases D with
   | none=>exact m2
   | some d=>exact ag7.2 ⟨λg7=>by have:=(m3 _ g7).2.1.1;have:=(hD d rfl).1;omega,m2⟩
  ·rcases x5.1 hd with hd|hd
   ·have e:D=some d:=by
     cases D with
     | none=>simp at hd
     | some d'=>simp at hd;rw[hd]
    refine⟨v7 m0 (hD d e).1,⟨by rw[a9];exact(r1.od d e).1,(r1.ft _ (inΦ (.inr (.inr (.inr e))))).2,λb q=>?_,(r1.od d e).2.2.2⟩,by rw[h4 _ (hD d e).2.2.1];exact r1.hd d e⟩;rcases L q with⟨_,F⟩|⟨_,F⟩
    ·exact b6 _ _ F (inΦ (.inr (.inr (.inr e))))
    ·exact(r1.od d e).2.2.1 b F
   ·obtain⟨k1,k2,k3⟩:=m3 d hd;obtain⟨F,q2⟩:=k2.step f6;exact⟨k1,F,q2.trans k3⟩
 have c0:=hP (a2.getD .normal) { sl:=J4 (m++Z4 C Y.hp 0) Y.sl,hp:=H2,s:=s' } { a with defers:=D.toList.map mkD++a.defers } w4 Γf Φb h f6 SF i5;refine⟨a2.map jmp,w4,d4,?_⟩;cases a2 with
 | none=>exact c0
 | some o=>
  cases o with
  | normal=>exact wpIn_skip c0
  | exit id=>exact wpIn_exit c0
  | ret=>exact wpIn_ret c0
theorem Yl{n:Array Tmp}{d:List PV}{g c:Code}:∀(L:List (List PV)) (H:List Blk) (s:X) {k:Option Out->List Blk->X->Option R},Q6 n d (λY k=>A7 C W J g Y k) (λY k=>A7 C W J c Y k) L H s k=some r->
  ∃H' b f,P0 (Hs n d (λY k=>A7 C W J g Y k) (λY k=>A7 C W J c Y k)) L (H,none,s)=some (H',b,f)/\k b H' f=some r
 | [],H,s,k,h=>⟨H,none,s,rfl,h⟩
 | x::xs,H,s,k,h=>by
  simp only[Q6] at h;split at h
  case isFalse=>cases h
  rename_i v;obtain⟨o,y,p,i⟩:=DG h;cases o with
  | exit id=>cases i
  | ret=>cases i
  | normal=>
  obtain⟨m,e,q,j⟩:=DG i;have l:Hs n d (λY k=>A7 C W J g Y k) (λY k=>A7 C W J c Y k) x (H,none,s)=some ((Bq m).isNone,((T2 H.length e).hp,Bq m,e.s)):=by
   simp only[Hs];rw[if_pos v,IN p];dsimp only;rw[IN q]
  cases m with
  | normal=>
   obtain⟨H',b,f,t,u⟩:=Yl xs _ _ j;refine⟨H',b,f,?_,u⟩;simp only[P0,l];exact t
  | exit id=>exact⟨_,_,_,by simp only[P0,l];rfl,j⟩
  | ret=>exact⟨_,_,_,by simp only[P0,l];rfl,j⟩
theorem Ba5{ro:Option Nat}{n n0:Nat}{g:Operand}{G:Array Tmp}{q i:Code}{k:Out->St X->Option R}{Q:Exit->Act->World->Prop}(A:Ask C I W J K)(z:Γ.yv=K)(t:WP C I W J K q)(u:WP C I W J K i)
  (h:Qc C W (opnd C Y.sl g) Y (λp=>Hs G p (λY k=>A7 C W J q Y k) (λY k=>A7 C W J i Y k)) (λp=>Q6 G p (λY k=>A7 C W J q Y k) (λY k=>A7 C W J i Y k)) k=some r) (S:SI C I Γ Z Y a.tmps w) (P:Mk n0 Γ Z w a.defers) (V:Ro ro Γ Z w) (U:Bz1 C I n0 Γ Z Y.hp w k r Q) :
  (ag8 g G q i).wpIn (D6 ro) n C.P Q a w:=by
 have hvn:=(S.opnd g).2;have hv:=(S.opnd g).1;unfold Qc at h;split at h
 case h_2=>cases h
 rename_i f first d o;obtain⟨FA,FB,a0,a1,a2,O⟩:=Ot o hv;have y:=Yk Y.hp (C6 (first++d));have m:=JW Y.hp (C6 (first++d));have v:∀b∈Az Y.hp (C6 (first++d)),b<Y.hp.length:=JV Y.hp (C6 (first++d)) (· < Y.hp.length) (λb D c F=>by
  have e:Y.hp.getD b .dead=Y.hp[b]:=by rw[o7,c8 D];rfl
  rw[e] at F;exact S.hr.nms b D c F) (λc F=>hvn c (O c F))
 generalize Az Y.hp (C6 (first++d))=l at *;split at h
 ·rename_i pf hS;unfold An6 at h;split at h
  case isFalse=>cases h
  rename_i j;rw[k9] at j;split at h
  case h_2=>cases h
  rename_i cL L hL;obtain⟨rfl,h⟩:=C3 h;obtain⟨H',B,s',h1,h2⟩:=Yl L _ _ h;refine FG A A.hX.s z t u o y m v ?_ S P V U;unfold Td;rw[if_pos j.1];have M:(l.map λb=>(Y.hp.getD b .dead).rn (F7 l)).all DU=true:=by
   rw[ah6,x7];intro b D;have:=x7.1 j.2 b D;simp only[Function.comp];generalize Y.hp.getD b .dead=x at this;cases x<;>simp_all [DU,Blk.rn]
  have e:clS C (List Blk × Option Out × X) (Hs G (J4 (l++Z4 C Y.hp 0) Y.sl) (λY k=>A7 C W J q Y k) (λY k=>A7 C W J i Y k)) f (rnL (F7 l) first++PV.yd::rnL (F7 l) d) (l.map λb=>(Y.hp.getD b .dead).rn (F7 l)) (K9 l Y.hp,none,Y.s)=some (.tup [],(l.map λb=>(Y.hp.getD b .dead).rn (F7 l)).map Gf,(H',B,s')):=by
   simp only[clS,hS];rw[if_pos M,hL];simp only[h1]
  rw[e];exact h2
 ·exact FG A A.hC z t u o y m v h S P V U
end
section
variable {J R : Type} {r : R} {C : Cfg} {I : J -> (Nat -> Prop) -> (Nat -> Prop) -> World -> Prop} {L : Ctx} {W : Nat -> Prop} {Y : St J} {a : Act} {w : World} {U : E3} {Z : Yh J} {K : Value} {o : Oper} {H : List Blk}
theorem A32(A:Ask C I U Z K)(hm:C.P.follows .mixedOrders=true):∀(c:Code) {ro:Option Nat} {n n0:Nat} {rf:Bool} {R:Type} {r:R} {L:Ctx} {W:Nat->Prop} {Y:St J} {a:Act} {w:World} {k:Out->St J->Option R} {Q:Exit->Act->World->Prop},
  R9 C rf c=true->L.yv=K->A7 C U Z c Y k=some r->SI C I L W Y a.tmps w->Mk n0 L W w a.defers->Ro ro L W w->Bz1 C I n0 L W Y.hp w k r Q->c.wpIn (D6 ro) n C.P Q a w:=by
 intro c
 induction c with
 | skip=>intro ro n n0 rf R r L W Y a w k Q b f h S z G q;exact wpIn_skip (q .normal Y a w L W h (Stp.refl S.hr) S z)
 | label l=>intro ro n n0 rf R r L W Y a w k Q b f h S z G q;exact wpIn_label (q .normal Y a w L W h (Stp.refl S.hr) S z)
 | region id T d=>
  intro ro n n0 rf R r L W Y a w k Q b f h S z G q;cases d with
  | false=>
   have h:An7 C U Z T Y (λp=>k .normal (Rv (C.keepR id) Y.hp.length p)) T.toList=some r:=by
    simp only[A7,An8] at h;split at h
    ·exact h
    ·cases h
   refine wpIn_region_list (Ca0 A T.toList f h S ?_);intro p F w' Γ' i v u B D;obtain⟨N,V,M⟩:=Ok A.hI B u (C.keepR id) (o6 _);exact q .normal _ F w' N i v M V (by rw[D];exact z.step M)
  | true=>
   simp only[R9,Bool.not_true,Bool.false_or] at b;refine Ca1 A hm b f h S ?_;intro p F w' Γ' i v u B D;obtain⟨N,V,M⟩:=Ok A.hI B u (C.keepR id) (o6 _);exact q .normal _ F w' N i v M V (by rw[D];exact z.step M)
 | seq x y O P=>
  intro ro n n0 rf R r L W Y a w k Q b f h S z G q;simp only[R9,k9] at b;refine wpIn_seq (O b.1 f h S z G ?_);intro o p F w' Γ' i v u B D;cases o with
  | normal=>exact P b.2 (u.yv.trans f) v B D (G.step u) λo2 a3 a2 w2 N Φ2 k1 k2 k3 k4=>q o2 a3 a2 w2 N Φ2 k1 (u.trans k2) k3 k4
  | exit id=>exact q (.exit id) p F w' Γ' i v u B D
  | ret=>exact q .ret p F w' Γ' i v u B D
 | cond c x y O P=>
  intro ro n n0 rf R r L W Y a w k Q b f h S z G q;simp only[R9,k9] at b;simp only[A7] at h;split at h
  ·rename_i t hc;have hv:=(S.opnd c).1;rw[hc] at hv;have hb:=hv.inv_bool;cases t with
   | true=>exact wpIn_cond hb (O b.1 f h S z G q)
   | false=>exact wpIn_cond hb (P b.2 f h S z G q)
  ·cases h
 | block id x ih=>
  intro ro n n0 rf R r L W Y a w k Q b f h S z G q;refine wpIn_block (ih b f h S z G ?_);intro o p F w' Γ' i v u B D;cases o with
  | normal=>exact q .normal p F w' Γ' i v u B D
  | exit j=>
   simp only[Out.exit',Exit.inBlock];dsimp only at v;split at v
   ·rename_i e;rw[if_pos e];exact q .normal p F w' Γ' i v u B D
   ·rename_i e;rw[if_neg e];exact q (.exit j) p F w' Γ' i v u B D
  | ret=>exact q .ret p F w' Γ' i v u B D
 | loop x ih=>
  intro ro n n0 rf R r L W Y a w k Q b f h S z G q;simp only[A7] at h;refine Ar5 (λm F w'=>∃p Γ' i,G1 Y.hp.length (C.keep (VV x)) (λY k=>A7 C U Z x Y k) m p k=some r/\Stp C L Y.hp w W Γ' p.hp w' i/\SI C I Γ' i p F.tmps w'/\Mk n0 Γ' i w' F.defers) C.lf ⟨_,L,W,h,by rw[Em];exact Stp.refl S.hr,El S _,z⟩ ?_;rintro m a1 w1 ⟨a4,Γ1,Φ1,v,u,B,D⟩;cases m with
  | zero=>simp[G1] at v
  | succ m=>
   simp only[G1] at v;refine ih b (u.yv.trans f) v B D (G.step u) ?_;intro o p F w' Γ' i k1 k2 k3 k4;cases o with
   | normal=>
    obtain⟨N,V,M,X⟩:=YV A.hI k3 (u.trans k2);have a0:=Mk.sub k4 X;exact⟨m,Nat.lt_succ_self m,_,N,i,k1,by rw[Em];exact M,El V _,a0⟩
   | exit j=>exact q (.exit j) _ F w' Γ' i k1 (by rw[Em];exact u.trans k2) (El k3 _) k4
   | ret=>exact q .ret _ F w' Γ' i k1 (by rw[Em];exact u.trans k2) (El k3 _) k4
 | exit id=>intro ro n n0 rf R r L W Y a w k Q b f h S z G q;exact wpIn_exit (q (.exit id) _ a w L W h (by rw[Em];exact Stp.refl S.hr) (El S _) z)
 | ret=>intro ro n n0 rf R r L W Y a w k Q b f h S z G q;exact wpIn_ret (q .ret _ a w L W h (by rw[Em];exact Stp.refl S.hr) (El S _) z)
 | scope x ih=>
  intro ro n n0 rf R r L W Y a w k Q b f h S z G q;refine ZH (ih (Q:=λe a w=>(∀l,e≠.goto l)/\Q e a w) b f h S z G ?_);intro o p F w' Γ' i v u B D;exact⟨λl=>by cases o<;>simp[Out.exit'],q o p F w' Γ' i v u B D⟩
 | rangeFunc g ps x y O P=>
  intro ro n n0 rf R r L W Y a w k Q b f h S z G q;simp only[R9,k9] at b;obtain⟨hx,hy⟩:=b;simp only[A7] at h;exact Ba5 A f (fun {R r ro n n0 L W Y a w k Q} v u B D h6 h5=>O hx v u B D h6 h5) (fun {R r ro n n0 L W Y a w k Q} v u B D h6 h5=>P hy v u B D h6 h5) h S z G q
 | _=>intro ro n n0 rf R r L W Y a w k Q b f h S z G q;simp[A7] at h
end
section
variable {J R : Type} {r : R} {C : Cfg} {I : J -> (Nat -> Prop) -> (Nat -> Prop) -> World -> Prop} {L : Ctx} {Y : Nat -> Prop} {W : St J} {a : Act} {w : World} {O : E3} {Z : Yh J} {K : Value} {o : Oper} {H : List Blk}
def Wq(b:Array Value):ResultVar->Sem Value
 | .tmp t=>pure (b.getD t undef)
 | .cell a t=>do loadVar t (<-asAddr (b.getD a undef))
theorem Ao3(fn:Func)(b:Array Value):results fn b=(fn.results.toList.mapM (Wq b) >>= λl=>pure (if h:l.length=1 then l[0] else .tuple l.toArray)):=by
 unfold results;have:∀(rs:Array ResultVar),(rs.mapM (Wq b) >>= λc=>(pure (if h:c.size=1 then c[0] else .tuple c):Sem Value))=(rs.toList.mapM (Wq b) >>= λl=>pure (if h:l.length=1 then l[0] else .tuple l.toArray)):=by
  intro rs;rw[Array.mapM_eq_mapM_toList,map_eq_pure_bind,bind_assoc]
  congr 1
 exact this fn.results
theorem IP(S:SR L H w W.sl a.tmps)(t:Nat):VP L (A1 H) w (W.sl.getD t (.tup [])) (a.tmps.getD t undef)/\∀c∈(W.sl.getD t (.tup [])).nms,c<H.length:=by
 by_cases h:t<W.sl.length
 ·obtain⟨V,e,k⟩:=S.slot t h;have g:∀c∈(W.sl[t]).nms,c<H.length:=λc f=>S.nms c (C4.2 ⟨t,h,f⟩)
  simp_all
 ·have b:W.sl.getD t (.tup []) = .tup []:=by rw[o7,w8 (ad9 h)];rfl
  have d:a.tmps.getD t undef=undef:=by rw[Array.getD_eq_getD_getElem?,ae0 (by rw[S.size];exact ad9 h)];rfl
  rw[b,d];exact⟨V6,by simp[PV.nms,C6]⟩
def LR(L:Ctx)(sh:Nat->Option Shp)(w:World):List PV->List Value->Prop
 | [],[]=>True
 | v::r,V::q=>VP L sh w v V/\LR L sh w r q
 | _,_=>False
theorem LR.len{sh:Nat->Option Shp}:∀{l:List PV} {A:List Value},LR L sh w l A->A.length=l.length
 | [],[],_=>rfl
 | v::r,V::q,h=>by simp[LR.len h.2]
 | [],_::_,h=>h.elim
 | _::_,[],h=>h.elim
theorem LR.CR{sh:Nat->Option Shp}:∀{l:List PV} {A:List Value},LR L sh w l A->∀j (h:j<l.length),∃U,A[j]? = some U/\VP L sh w (l[j]) U
 | [],[],_,j,h=>by simp at h
 | v::r,V::q,h,0,_=>⟨V,rfl,h.1⟩
 | v::r,V::q,h,j+1,hj=>by
  obtain⟨U,e,k⟩:=LR.CR h.2 j (by simpa using hj);grind
 | [],_::_,h,_,_=>h.elim
 | _::_,[],h,_,_=>h.elim
theorem B65{t:TypeId}{A V:Value}{w':World}(h:(ah5 t A).run C.P w' = .ok V w'):(do loadVar t (<-asAddr A):Sem Value).run C.P w' = .ok V w':=by
 simp only[ah5] at h;unfold Instr.sureAddr at h;split at h
 ·exact h
 simp_all
theorem Qd(j:HR L H w)(S:SR L H w W.sl a.tmps):∀(rs:List ResultVar) {k:List PV->Option R},Zj C W.sl H rs k=some r->
  ∃e d,k e=some r/\(rs.mapM (Wq a.tmps)).run C.P w = .ok d w/\LR L (A1 H) w e d/\∀c∈C6 e,c<H.length
 | [],k,h=>⟨[],[],h,by simp,trivial,by simp[C6]⟩
 | .tmp t::b,k,h=>by
  simp only[Zj] at h;obtain⟨e,d,g,m,i,p⟩:=Qd j S b h;obtain⟨f,n⟩:=IP S t;refine⟨_,a.tmps.getD t undef::d,g,?_,⟨f,i⟩,λc l=>?_⟩
  ·rw[ah0];simp only[Wq,af8,Sem.run_pure,af0,m]
  ·simp only[C6,x5] at l;grind
 | .cell x t::b,k,h=>by
  simp only[Zj] at h;obtain⟨f,n⟩:=IP S x;obtain⟨v,q,z,V,y,u⟩:=Yb j h f;obtain⟨e,d,g,m,i,p⟩:=Qd j S b q;refine⟨_,V::d,g,?_,⟨y,i⟩,λc l=>?_⟩
  ·rw[ah0];have:=B65 (u w (Ext.refl w));rw[show Wq a.tmps (.cell x t)=(do loadVar t (<-asAddr (a.tmps.getD x undef)):Sem Value) from rfl];rw[af8,this];simp_all
  ·simp only[C6,x5] at l;grind
theorem XI{b:List PV}{c:Nat}(h:c∈(Aj b).nms):c∈C6 b:=by
 unfold Aj at h;split at h
 ·simp[C6,h]
 ·exact h
theorem B83{f:List PV}{b:List Value}(h:LR L (A1 H) w f b):VP L (A1 H) w (Aj f) (if h:b.length=1 then b[0] else .tuple b.toArray):=by
 have c:=h.len;unfold Aj;split
 ·rename_i v;cases b with
  | nil=>simp at c
  | cons V q=>
   cases q with
   | nil=>exact h.1
   | cons _ _=>simp at c
 ·rename_i d;have:b.length≠1:=by
   intro e;rw[e] at c
   match f,c with
   | [v],_=>exact d v rfl
  rw[dif_neg this];refine VP.mk_tup (by simpa using c) λj g=>?_
  obtain⟨U,e,k⟩:=h.CR j g;grind
def Hx(C:Cfg):Prop:=∀ f fn c,C.okf f=true->C.P.funcs[f]? = some fn->fn.body=some c->Bj4 C c=true/\(fn.name == "runtime.NumGoroutine")=false
theorem Lu{f:Nat}{fn:Func}{c:Code}{d:Array Value}(g:C.P.funcs[f]? = some fn)(e:fn.body=some c)(h:(fn.name == "runtime.NumGoroutine")=false):(callFunc f d).run C.P w = .ok (.enter f d) w:=by
 have b:¬ fn.name = "runtime.NumGoroutine":=by simpa using h
 simp[callFunc,g,e,b,af0]
theorem Bz7{args:List PV}{d:Array Value}{n:Nat}(e:CR L (A1 H) w args d)(i:∀c∈C6 args,c<H.length) :
  SR L H w (args++j7 (n-args.length) (.tup [])) (d++ac1 (n-d.size) undef):=by
 have h:CR L (A1 H) w (j7 (n-args.length) (.tup [])) (ac1 (n-d.size) undef):=⟨by simp[e.1],λj f=>by
  simp only[List.length_replicate] at f;refine⟨undef,by rw[e.1];simp[f],?_⟩;simp only[List.getElem_replicate];exact V6⟩
 have g:=e.append h;refine⟨g.1,λc b=>?_,g.2⟩;rw[L3,x5] at b;rcases b with b|b
 ·exact i c b
 ·obtain⟨j,f,b⟩:=C4.1 b;simp[PV.nms,C6] at b
theorem Stp.put{Γ0 Γ':Ctx}{H0 H':List Blk}{w0 w':World}{Φ0 Φ':Nat->Prop}{D:Nat}{ob:Obj}(h:Stp C Γ0 H0 w0 Φ0 Γ' H' w' Φ')(hD:w0.heap.size<=D)(hO:Off Γ' Φ' w' D):Stp C Γ0 H0 w0 Φ0 Γ' H' (w'.putObj D ob) Φ':=by
 refine⟨h.os,h.tape,h.output,by rw[World.putObj_size];exact h.size,h.sub,h.stnew,h.own,h.foot,λg hg hn hp=>?_,h.yv,h.len,λb hb hf=>?_⟩
 ·rw[o5 (by omega)];exact h.frame g hg hn hp
 ·obtain⟨k1,k2,k3⟩:=h.keep b hb hf;refine⟨k1,k2,λg hg=>?_⟩;rw[<-k3 g hg];refine D8 (o5 ?_);rintro rfl;exact hO.2.2.1 b (k1.trans hg)
theorem Aw4{F:Fence}{n:Nat}{fn:Func}{l:Ending->World->Prop}{f Γ':Ctx}{k:List Blk}{j:World}{g c:Nat->Prop}{d:St J}{b:Array Value}(q:HI I)
  (t:∀w',SI C I Γ' c d b w'->Stp C f k j g Γ' d.hp w' c->∃V,(results fn b).run C.P w' = .ok V w'/\l (.returned V) w') :
  ∀(e:List Nat) (w:World),e.Nodup->(∀D∈e,j.heap.size<=D/\Off Γ' c w D/\w.heap[D]? = some (.deferred (some [])))->SI C I Γ' c d b w->Stp C f k j g Γ' d.hp w c->LeavesInM F n C.P fn b l (e.map mkD) .returning w
 | [],w,_,_,S,h=>t w S h
 | D::e,w,y,p,S,h=>by
  obtain⟨u,m,v⟩:=p D (by simp);refine⟨by simp,.inl ⟨D,w.putObj D (.deferred none),rfl,run_takeDeferred v,?_⟩⟩;have i:=ag7.1 y;refine Aw4 q t e _ i.2 (λE x=>?_) (S.offW q (Qp.put m)) (h.put u m);obtain⟨z,A,B⟩:=p E (by simp[x]);refine⟨z,A.put,(o5 ?_).trans B⟩;grind
theorem Ik(hX:XOK C)(hO:Hx C)(hm:C.P.follows .mixedOrders=true):∀d,Aa C (evC C d)
 | 0=>λJ I Z K D hy g args H s ret j k h=>by simp[evC] at h
 | d+1=>λJ I Z K D hy g args H s ret j k h L Y w u S hH hg hi A G hn=>by
  have ih:=Ik hX hO hm d;simp only[evC] at h;split at h
  ·rename_i fn P M;split at h
   ·rename_i c F;obtain⟨m,p⟩:=hO g fn c P M F;intro ro n o a next Q N
    rw[Lu M F p];simp only[ac9];refine⟨λh=>(by simp[D6,ab7] at h),?_⟩;have key:CallsIn ab7 (n-1) C.P g u w λe i=>∃V,e = .returned V/\Y0 C I L H w Y ret j k V i:=by
     refine callsIn_of_wp_marks M F trivial ?_;have S0:SI C I L Y { sl:=args++j7 (fn.ntmps-args.length) (.tup []),hp:=H,s:=s } (u++ac1 (fn.ntmps-u.size) undef) w:=⟨hH,Bz7 G hn,hg,hi,A⟩
     refine A32 (ro:=none) (rf:=true) (n:=n-1) (n0:=w.heap.size) (a:={ tmps:=u++ac1 (fn.ntmps-u.size) undef,defers:=[] }) ⟨D,ih,hX,hy⟩ hm c m S h S0 (Mk.nil (o6 _)) Ro.none ?_;intro o f y w' Γ' t T U q ⟨_,Ds,k4,k5,k6⟩
     suffices z:∀w',SI C I Γ' t f y.tmps w'->Stp C L H w Y Γ' f.hp w' t->Zj C f.sl f.hp fn.results.toList (λv=>some (Aj v,f.hp,f.s))=some (ret,j,k)->∃V,(results fn y.tmps).run C.P w' = .ok V w'/\∃x,ag5 V = .returned x/\Y0 C I L H w Y ret j k x w' by
      have l:Zj C f.sl f.hp fn.results.toList (λv=>some (Aj v,f.hp,f.s))=some (ret,j,k)->LeavesInM (D6 none) (n-1) C.P fn y.tmps (λe i=>∃V,e = .returned V/\Y0 C I L H w Y ret j k V i) y.defers .returning w':=λh=>by
       rw[k4];exact Aw4 D (λw' a b=>z w' a b h) Ds w' k5 k6 q U
      cases o with
      | normal=>exact l T
      | ret=>exact l T
      | exit id=>cases T
     intro w' q U;have z:∀(h:Zj C f.sl f.hp fn.results.toList (λv=>some (Aj v,f.hp,f.s))=some (ret,j,k)),∃V,(results fn y.tmps).run C.P w' = .ok V w'/\∃x,ag5 V = .returned x/\Y0 C I L H w Y ret j k x w':=λh=>by
      obtain⟨v,Us,X,h2,h3,h4⟩:=Qd q.hr q.sr _ h;simp only[j0,s8] at X;obtain⟨rfl,rfl,rfl⟩:=X;refine⟨_,?_,_,rfl,Γ',t,U,q.hr,B83 h3,λc G=>h4 c (XI G),q.inv,q.dis⟩;rw[Ao3,af8,h2];rfl
     omega
    have B:CallsIn (D6 ro) (n-1) C.P g u w λe i=>∃V,e = .returned V/\Y0 C I L H w Y ret j k V i:=key
    refine B.mono ?_;grind
   ·cases h
  ·cases h
end
end
section
open Go Go.ChangeShapes Go.RowKit Go.WideShapes
inductive Ty where
 | bool
 | int (k:IntKind)
 | str
 | slice (e:List Ty)
 deriving Inhabited
def Bt0(P:Program)(f:Nat->Option (List Ty)):List Field->Nat->Option (List Ty)
 | [],_=>some []
 | x::r,off=>if x.offset==off then match f x.type with
   | some a=>if P.cellsOf x.type==a.length then match Bt0 P f r (off+a.length) with
    | some b=>some (a++b)
    | none=>none else none
   | none=>none else none
def Hd(P:Program):Nat->Nat->Option (List Ty)
 | 0,_=>none
 | d+1,t=>match P.underlying t with
  | some .bool=>some [.bool]
  | some (.int k)=>some [.int k]
  | some .string=>some [.str]
  | some (.slice e)=>match Hd P d e with
   | some a=>if P.cellsOf e==a.length&&decide (0<a.length) then some [.slice a] else none
   | none=>none
  | some (.struct b)=>match Bt0 P (Hd P d) b.toList 0 with
   | some r=>if P.cellsOf t==r.length then some r else none
   | none=>none
  | some (.array n e)=>match Hd P d e with
   | some a=>if P.cellsOf e==a.length&&P.cellsOf t==n*a.length then some (j7 n a).flatten else none
   | none=>none
  | _=>none
mutual
def Ty.of:Ty->SV->Prop
 | .bool,v=>∃b,v = .bool b
 | .int k,v=>∃n,v = .int k n/\k.min<=n/\n<=k.max
 | .str,v=>∃l,v = .str l/\l.length<=maxLen
 | .slice e,v=>v = .sl true false e.length []\/∃els,v = .sl false false e.length els/\els.length<=maxLen/\∀el∈els,Ty.ofL e el
def Ty.ofL:List Ty->List SV->Prop
 | [],l=>l=[]
 | t::r,l=>∃v q,l=v::q/\t.of v/\Ty.ofL r q
end
theorem Ty.ofL_len:∀{ts:List Ty} {l:List SV},Ty.ofL ts l->l.length=ts.length
 | [],l,h=>by simp only[Ty.ofL] at h;subst h;rfl
 | t::r,l,h=>by
  simp only[Ty.ofL] at h;obtain⟨v,q,rfl,_,hq⟩:=h;simp[Ty.ofL_len hq]
theorem Ty.ofL_append:∀{a b:List Ty} {x y:List SV},Ty.ofL a x->Ty.ofL b y->Ty.ofL (a++b) (x++y)
 | [],b,x,y,h,k=>by simp only[Ty.ofL] at h;subst h;exact k
 | t::r,b,x,y,h,k=>by
  simp only[Ty.ofL] at h;obtain⟨v,q,rfl,hv,hq⟩:=h;simp only[ad4,Ty.ofL];exact⟨v,q++y,rfl,hv,Ty.ofL_append hq k⟩
def CVS(St:Nat->Prop)(w:World)(l:List SV)(A:List Value):Prop:=A.length=l.length/\∀j (h:j<l.length),∃U,A[j]? = some U/\VS St w (l[j]) U
theorem CVS.append{St:Nat->Prop}{w:World}{x y:List SV}{X Y:List Value}(hx:CVS St w x X)(hy:CVS St w y Y):CVS St w (x++y) (X++Y):=by
 refine⟨by simp[hx.1,hy.1],λj hj=>?_⟩;by_cases h:j<x.length
 ·obtain⟨U,e,k⟩:=hx.2 j h;exact⟨U,by rw[List.getElem?_append_left (by rw[hx.1];exact h)];exact e,by rw[ad0 h];exact k⟩
 ·obtain⟨U,e,k⟩:=hy.2 (j-x.length) (by simp at hj;omega);exact⟨U,by rw[List.getElem?_append_right (by rw[hx.1];omega),hx.1];exact e,by rw[List.getElem_append_right (by omega)];exact k⟩
theorem CVS.one{St:Nat->Prop}{w:World}{v:SV}{V:Value}(h:VS St w v V):CVS St w [v] [V]:=⟨rfl,λj hj=>by
 have:j=0:=by simpa using hj
 subst this;exact⟨V,rfl,h⟩⟩
theorem Bb7{w:World}{a:Addr}{V:Value}(h:w.cell? a=some V):a.spot=none/\a.block<w.heap.size:=by
 unfold ai8 at h;split at h
 ·rename_i c t fr b;refine⟨?_,(x8.1 b).1⟩;cases d:a.spot with
  | none=>rfl
  | some x=>rw[d] at h;simp at h
 ·cases h
theorem TQ{a:Addr}(h:a.spot=none)(n:Nat):a.add n=⟨a.block,a.off+n,none⟩:=by
 unfold Addr.add;split
 ·rename_i b;subst b;cases a;simp_all
 ·rfl
theorem Bz4{a:Addr}{m n:Nat}(h:a.spot=none):(a.add m).add n=⟨a.block,a.off+m+n,none⟩:=by rw[TQ h,TQ rfl]
theorem KH{H:Type}{enc:TypeId × Value->H}{P:Program}{w:World}{base:Nat}{sp:Nat->Bool}{held:Bool}{f:Nat->Option (List Ty)}{m:Nat}
  (q:∀t c g x,f t=some c->aa6 enc P w base sp held m t g=some x->∃d,Ty.ofL c d/\CVS (· < w.heap.size) w d g) (g:List Value) :
  ∀(n:List Field) (off:Nat) (c:List Ty),Bt0 P f n off=some c->(∀(i:Nat) (fl:Field),n[i]? = some fl->∃y,aa6 enc P w base sp held m fl.type ((g.drop fl.offset).take (P.cellsOf fl.type))=some y)->
   ∃d,Ty.ofL c d/\CVS (· < w.heap.size) w d ((g.drop off).take c.length)
 | [],off,c,h,_=>by
  simp only[Bt0,j0] at h;subst h;exact⟨[],rfl,by simp,λj F=>by simp at F⟩
 | x::r,off,c,h,k=>by
  simp only[Bt0] at h;split at h
  ·rename_i l;simp only[beq_iff_eq] at l;split at h
   ·rename_i a B;split at h
    ·rename_i o;simp only[beq_iff_eq] at o;split at h
     ·rename_i b C;simp only[j0] at h;subst h;obtain⟨y,p⟩:=k 0 x rfl;rw[l,o] at p;obtain⟨G,u,v⟩:=q _ _ _ _ B p;obtain⟨I,z,A⟩:=KH q g r _ b C (λi fl D=>k (i+1) fl (by simpa using D));refine⟨G++I,Ty.ofL_append u z,?_⟩;have:=v.append A;have e:(g.drop off).take (a++b).length=(g.drop off).take a.length++(g.drop (off+a.length)).take b.length:=by
       rw[af4,ah3,ag9]
      rw[e];exact this
     ·cases h
    ·cases h
   ·cases h
  ·cases h
theorem TT{H:Type}{enc:TypeId × Value->H}{P:Program}{w:World}{base:Nat}{sp:Nat->Bool}{held:Bool}{e m:Nat}{a:List Ty}(c:List Value)
  (g:∀c x,aa6 enc P w base sp held m e c=some x->∃b,Ty.ofL a b/\CVS (· < w.heap.size) w b c) (f:P.cellsOf e=a.length) :
  ∀(n k:Nat),(∀i,k<=i->i<k+n->∃y,aa6 enc P w base sp held m e ((c.drop (i*P.cellsOf e)).take (P.cellsOf e))=some y)->
   ∃b,Ty.ofL (j7 n a).flatten b/\CVS (· < w.heap.size) w b ((c.drop (k*a.length)).take (n*a.length))
 | 0,k,_=>⟨[],by simp[Ty.ofL],by simp,λj r=>by simp at r⟩
 | n+1,k,hall=>by
  obtain⟨y,t⟩:=hall k (o6 _) (by omega);obtain⟨u,h,d⟩:=g _ _ t;obtain⟨v,l,o⟩:=TT c g f n (k+1) (λi p q=>hall i (by omega) (by omega));rw[f] at d;refine⟨u++v,?_,?_⟩
  ·rw[List.replicate_succ,List.flatten_cons];exact Ty.ofL_append h l
  ·have:=d.append o;have e:(c.drop (k*a.length)).take ((n+1)*a.length)=(c.drop (k*a.length)).take a.length++(c.drop ((k+1)*a.length)).take (n*a.length):=by
    rw[show(n+1)*a.length=a.length+n*a.length by rw[Nat.add_mul,Nat.one_mul,ah8],ah3,ag9,show k*a.length+a.length=(k+1)*a.length by rw[Nat.add_mul,Nat.one_mul]]
   rw[e];exact this
theorem Zz{H:Type}{enc:TypeId × Value->H}{P:Program}{w:World}{base:Nat}{sp:Nat->Bool}{held:Bool}:∀(n t:Nat) (q:List Ty) (m:Nat) (C:List Value) (x:DataW H × List MemPlace),Hd P n t=some q->
  aa6 enc P w base sp held m t C=some x->∃p,Ty.ofL q p/\CVS (· < w.heap.size) w p C
 | 0,t,q,m,C,x,h,_=>by simp[Hd] at h
 | n+1,t,q,m,C,x,h,hd=>by
  simp only[Hd] at h;split at h
  ·rename_i B;simp only[j0] at h;subst h;obtain⟨b,rfl,_⟩:=DataW.trod_bool B hd;exact⟨[.bool b],by simp[Ty.ofL,Ty.of],CVS.one (.bool b)⟩
  ·rename_i k B;simp only[j0] at h;subst h;obtain⟨b,rfl,_,S⟩:=DataW.trod_int B hd;simp only[Lit.wf,k9,decide_eq_true_eq] at S;exact⟨[.int k b],by simp[Ty.ofL,Ty.of,S],CVS.one (.int k b)⟩
  ·rename_i B;simp only[j0] at h;subst h;obtain⟨b,rfl,_,S⟩:=DataW.trod_string B hd;exact⟨[.str b.data.toList],by simpa[Ty.ofL,Ty.of] using S,CVS.one (.str b)⟩
  ·rename_i e B;split at h
   ·rename_i a V;split at h
    ·rename_i F;simp only[k9,beq_iff_eq,decide_eq_true_eq] at F;simp only[j0] at h;subst h;rcases DataW.trod_slice B hd with⟨rfl,_⟩|⟨g,len,cap,T,a1,Q,_,rfl,_,hb,hl,hm,G,D,_,_⟩
     ·exact⟨[.sl true false a.length []],by simp[Ty.ofL,Ty.of],CVS.one (.nil _ _)⟩
     ·have v:∀i,i<len->∃M d,w.cells? base (g.add (i*a.length)) a.length=some d/\Ty.ofL a M/\CVS (· < w.heap.size) w M d:=λi f=>by
       have u:=D i f;rw[c8 (by omega),F.1,Option.bind_eq_some_iff] at u;obtain⟨d,o,K⟩:=u;obtain⟨M,h4,h5⟩:=Zz n e a Q d _ V K;exact⟨M,d,o,h4,h5⟩
      by_cases h0:len=0
      ·subst h0;exact⟨[.sl false false a.length []],by simp[Ty.ofL,Ty.of],CVS.one (.emp _ _ _ _ (by simp) hm)⟩
      ·let c:List (List SV):=(ah1 len).attach.map λi=>ad1 (v i.1 (List.mem_range.1 i.2))
       have N:c.length=len:=by simp[c]
       have l:∀i (f:i<c.length),∃d,w.cells? base (g.add (i*a.length)) a.length=some d/\Ty.ofL a (c[i])/\CVS (· < w.heap.size) w (c[i]) d:=λi f=>by
        have z:i<len:=by omega
        have e:c[i]=ad1 (v i z):=by simp[c]
        rw[e];exact ae3 (v i z)
       have A:g.spot=none/\g.block<w.heap.size:=by
        obtain⟨d,u,o,K⟩:=l 0 (by omega);obtain⟨_,Y,J⟩:=ag0 u;have:=J 0 F.2;rw[c8 (by omega)] at this;simp only[ai0,Addr.add,if_true] at this;exact Bb7 this
       have D:∀i (f:i<c.length),(c[i]).length=a.length:=λi f=>by
        obtain⟨d,u,o,K⟩:=l i f;exact Ty.ofL_len o
       have y:∀i (f:i<c.length) j (I:j<(c[i]).length),∃U,w.cell? ⟨g.block,g.off+i*a.length+j,none⟩=some U/\VS (· < w.heap.size) w (c[i][j]) U:=λi f j I=>by
        obtain⟨d,u,o,K⟩:=l i f;obtain⟨_,Y,J⟩:=ag0 u;have X:j<a.length:=by rw[<-D i f];exact I
        obtain⟨U,L,R⟩:=K.2 j I;refine⟨U,?_,R⟩;rw[<-L,<-J j X,Bz4 A.1]
       refine⟨[.sl false false a.length c],?_,CVS.one ?_⟩
       ·simp only[Ty.ofL,Ty.of];refine⟨_,[],rfl,.inr ⟨c,rfl,by omega,λM a0=>?_⟩,rfl⟩;obtain⟨i,f,rfl⟩:=List.getElem_of_mem a0;obtain⟨d,u,o,K⟩:=l i f;exact o
       ·have e:g=⟨g.block,g.off,none⟩:=by cases g;simp_all
        rw[e];refine .sl false c g.block g.off len cap a.length (λi j=>(w.cell? ⟨g.block,g.off+i*a.length+j,none⟩).getD undef) N.symm hl hm (by simp) A.2 D (λi f j I=>?_) (λi f j I=>?_)
        ·obtain⟨U,L,R⟩:=y i f j I;rw[L];rfl
        ·obtain⟨U,L,R⟩:=y i f j I;rw[L];exact R
    ·cases h
   ·cases h
  ·rename_i fs B;split at h
   ·rename_i r hr;split at h
    ·rename_i F;simp only[beq_iff_eq] at F;simp only[j0] at h;subst h;obtain⟨xs,Q,_,_,G,O,W⟩:=DataW.trod_struct B hd;obtain⟨p,u,o⟩:=KH (λt q C x=>Zz n t q Q C x) C fs.toList 0 r hr (λi fl f=>by
      have z:fs[i]? = some fl:=by simpa using f
      have:=W i fl z;have Z:i<xs.length:=by rw[O];exact(x8.1 z).1
      rw[c8 Z] at this;exact⟨_,this⟩)
     refine⟨p,u,?_⟩;rw[ae8,ae1 (by omega)] at o;exact o
    ·cases h
   ·cases h
  ·rename_i k e B;split at h
   ·rename_i a V;split at h
    ·rename_i F;simp only[k9,beq_iff_eq] at F;simp only[j0] at h;subst h;obtain⟨xs,Q,_,_,G,O,W⟩:=DataW.trod_array B hd;obtain⟨p,u,o⟩:=TT C (λC x=>Zz n e a Q C x V) F.1 k 0 (λi _ f=>by
      have:=W i (by omega);rw[c8 (by omega)] at this;exact⟨_,this⟩)
     refine⟨p,u,?_⟩;rw[ai0,ae8,ae1 (by omega)] at o;exact o
    ·cases h
   ·cases h
  ·cases h
def Qw(P:Program)(t:Nat):Bool:=match P.underlying t with
 | some (.struct _)=>true
 | some (.array _ _)=>true
 | _=>false
def AJ(P:Program)(t:Nat)(v:PV):Prop:=∃a l,Hd P 20 t=some a/\Ty.ofL a l/\((Qw P t=true/\v = .agg (l.map .s))\/(Qw P t=false/\∃x,l=[x]/\v = .s x))
def Jk(P:Program):List Nat->List PV->Prop
 | [],l=>l=[]
 | t::r,l=>∃v q,l=v::q/\AJ P t v/\Jk P r q
theorem AJ.nms{P:Program}{t:Nat}{v:PV}(h:AJ P t v):v.nms=[]:=by
 obtain⟨tys,l,_,_,h⟩:=h;rcases h with⟨_,rfl⟩|⟨_,x,_,rfl⟩
 ·simp only[PV.nms];rw[s9];intro c hc;obtain⟨j,hj,hc⟩:=C4.1 hc;simp[PV.nms] at hc
 ·rfl
theorem Jk.nms{P:Program}:∀{ts:List Nat} {l:List PV},Jk P ts l->C6 l=[]
 | [],l,h=>by simp only[Jk] at h;subst h;rfl
 | t::r,l,h=>by
  simp only[Jk] at h;obtain⟨v,q,rfl,h1,h2⟩:=h;simp[C6,h1.nms,h2.nms]
section
variable {H : Type} {enc : TypeId × Value -> H} {P : Program} {w : World}
theorem B77{v:Value}{r:Reach}{b:Nat}{t:Nat}(e:Qw P t=false)(Lb:aa3 P w r b t v):∀a,v = .agg a->False:=by
 rintro a rfl;simp only[aa3,Cell.okWide] at Lb;unfold Qw at e;split at Lb
 ·grind
 ·grind
 ·revert Lb
  cases c:P.underlying t with
  | none=>simp[Cell.ok,c]
  | some d=>cases d<;>simp[Cell.ok,c]
theorem Bq5{Γ:Ctx}{sh:Nat->Option Shp}{sp:Nat->Bool}{held:Bool}{r:Reach}{b y t:Nat}{v:Value}{d:DataW H}{F:List MemPlace}(hΓ:∀g,g<w.heap.size->Γ.St g)(i:(Hd P 20 t).isSome=true)(Lb:aa3 P w r b t v)(A:DataW.Trod enc P w y sp held t v d F) :
  ∃u,AJ P t u/\VP Γ sh w u v:=by
 obtain⟨c,p⟩:=aa4.1 i;obtain⟨m,D⟩:=A;obtain⟨a,q,f⟩:=Zz 20 t c m _ _ p D;have lift:∀{x:SV} {V:Value},VS (· < w.heap.size) w x V->VS Γ.St w x V:=λh=>h.mono (λ_ _=>rfl) hΓ
 cases n:Qw P t with
 | true=>
  refine⟨.agg (a.map .s),⟨c,a,p,q,.inl ⟨n,rfl⟩⟩,?_⟩;have:∃l,v = .agg l:=by
   unfold Qw at n;simp only[aa3] at Lb;grind
  obtain⟨l,rfl⟩:=this;simp only[Value.cells] at f;refine VP.mk_agg (by simpa using f.1) λj B=>?_
  have o:j<a.length:=by simpa using B
  obtain⟨U,e,k⟩:=f.2 j o;exact⟨U,by simpa using e,by rw[o8];exact .s _ _ (lift k)⟩
 | false=>
  have z:v.cells = #[v]:=by
   have:=B77 n Lb;cases v with
   | agg l=>exact(this l rfl).elim
   | _=>rfl
  rw[z] at f;have C:a.length=1:=by have:=f.1;simpa using this.symm
  obtain⟨x,rfl⟩:∃x,a=[x]:=by
   match a,C with
   | [x],_=>exact⟨x,rfl⟩
  obtain⟨U,e,k⟩:=f.2 0 (by simp);simp only[ad5,j0] at e;subst e;exact⟨.s x,⟨c,[x],p,q,.inr ⟨n,x,rfl,rfl⟩⟩,.s _ _ (lift k)⟩
theorem JX{Γ:Ctx}{sh:Nat->Option Shp}{sp:Nat->Bool}{held:Bool}{r:Reach}{b x:Nat}(hΓ:∀g,g<w.heap.size->Γ.St g):∀(f:List Nat) (i:List Value) (ds:List (DataW H)) (n:List MemPlace),(∀t∈f,(Hd P 20 t).isSome=true)->(∀(j:Nat) t v,f[j]? = some t->i[j]? = some v->aa3 P w r b t v)->ab9 enc P w x sp held f i ds n->
  ∃a,Jk P f a/\i.length=a.length/\ds.length=f.length/\∀j (h:j<a.length),∃U,i[j]? = some U/\VP Γ sh w (a[j]) U
 | [],i,ds,n,_,_,h=>by
  obtain⟨rfl,rfl,_⟩:=trodAll_nil h;exact⟨[],rfl,rfl,rfl,λj l=>by simp at l⟩
 | t::f,i,ds,n,c,Lb,h=>by
  obtain⟨v,o,d,m,p,q,rfl,rfl,rfl,C,D⟩:=trodAll_cons h;obtain⟨u,I,J⟩:=Bq5 (Γ:=Γ) (sh:=sh) hΓ (c t (by simp)) (Lb 0 t v rfl rfl) C;obtain⟨a,y,z,A,B⟩:=JX (Γ:=Γ) (sh:=sh) hΓ f o m q (λt F=>c t (by simp[F])) (λj t v l G=>Lb (j+1) t v (by simpa using l) (by simpa using G)) D;refine⟨u::a,⟨u,a,rfl,I,y⟩,by simp[z],by simp[A],λj l=>?_⟩;cases j with
  | zero=>exact⟨v,rfl,J⟩
  | succ j=>
   obtain⟨U,e,k⟩:=B j (by simpa using l);grind
theorem CB(g:laidOutB P=true){w':World}{ts:List Nat}{vs:List Value}{ds:List (DataW H)}{ps:List MemPlace}:∀{ts:List Nat} {vs:List Value} {ds:List (DataW H)} {ps:List MemPlace},(∀t∈ts,P.readableRec t=true/\t<P.types.size)->ab9 enc P w 0 (λ_=>true) true ts vs ds ps->(∀x∈ps,w.sameAt w' x)->∀sp:Nat->Bool,(∀x∈ps,sp x.block=true)->
  ab9 enc P w' 0 sp true ts vs ds ps
 | [],vs,ds,ps,_,h,_,sp,_=>by
  obtain⟨rfl,rfl,rfl⟩:=trodAll_nil h;exact trodAll_mk0
 | t::ts,vs,ds,ps,e,h,i,sp,b=>by
  obtain⟨v,f,d,c,p,q,rfl,rfl,rfl,j,k⟩:=trodAll_cons h;refine⟨p,q,WideElems.Trod_stays g (e t (by simp)).1 (e t (by simp)).2 j (λx a=>i x (by simp[a])) (λx a=>b x (by simp[a])),CB g (w':=w') (ts:=ts) (vs:=f) (ds:=c) (ps:=q) (λt l=>e t (by simp[l])) k (λx a=>i x (by simp[a])) sp (λx a=>b x (by simp[a])),rfl⟩
theorem HD{f:Func}{s:ChangeSpec}{c fresh d k:Bool}{W m:World}{args:Array Value}{v:Value}{ds n:List (DataW H)}{a pa pv:List MemPlace}
  (u:ai2 enc P f.params.toList s.vars c W args.toList ds n a)
  (i:∀(b:Nat) (sp:Nat->Bool) (B:Bool),ab9 enc P m b sp B f.resultTypes.toList (v.resultList f.resultTypes.size) (s.fn H (ds++n)).results [])
  (e:∀sp:Nat->Bool,(∀p∈a,sp p.block=true)->ab9 enc P m 0 sp true f.params.toList args.toList (s.fn H (ds++n)).args pa)
  (g:∀sp:Nat->Bool,(∀p∈a,sp p.block=true)->DataW.TrodVars enc P m sp s.vars (s.fn H (ds++n)).vars pv)
  (l:a=pa++pv) (z:Below W.heap.size W m)
  (y:∀(j:Nat) (t:TypeId) (r:Value),f.resultTypes[j]? = some t->(v.resultList f.resultTypes.size)[j]? = some r->aa3 P m .any 0 t r) :
  s.post enc P f c fresh d k W args v m:=by
 have h:∀p∈a,(λb=>decide (b<W.heap.size)) p.block=true:=λp o=>by simpa using u.lt p o
 refine⟨ds,n,a,[],pa,pv,u,i _ _ _,e _ h,g _ h,z.frame _,λ_=>?_⟩;have x:=u.lt;obtain⟨_,_,_,_,_,D,C⟩:=u;refine⟨y,_,_,([]++pa)++pv,⟨[]++pa,pv,trodAll_append (e _ (λ_ _=>rfl)) (i _ _ _),g _ (λ_ _=>rfl),rfl,?_,?_⟩,?_⟩
 ·intro b off o;have q:MemPlace.cell b off∈a:=by rw[l];simpa using o
  rw[z.frozen (x _ q)];exact D b off q
 ·intro A;have:=C A;rw[l] at this;simpa using this
 ·intro p o _;rw[l];simpa using o
end
theorem Aq3{P:Program}{f:Nat}{a:Array Value}{w:World}{R:Value->World->Prop}(b:(callFunc f a).run P w = .ok (.enter f a) w)(h:M4 P ((callFunc f a).run P w) R):Calls P f a w λe w'=>∃V,e = .returned V/\R V w':=by
 rw[b] at h;have:=h none 1 { op:=.move (.const undef),dst:=some 0,guard:=none,type:=0,after:=#[],pos:=default } { tmps:=#[undef],defers:=[] } (λg w'=>∃V,g.tmps[0]? = some V/\R V w') (λ_ _ _=>False) (λV w' k=>⟨V,by simp[Act.put],k⟩);rw[ac9] at this;have j:CallsIn ab7 0 P f a w _:=this.2;refine(callsIn_wide.1 j).mono λe w' d=>?_
 cases e with
 | returned v=>
  obtain⟨V,i,l⟩:=d;simp[Act.put] at i;grind
 | panicked c=>exact d.elim
 | outgrown=>obtain⟨_,_,h⟩:=d;exact h.elim
def noY:Yh Unit:=λ_ _=>none
theorem Bj5{H:Type}{enc:TypeId × Value->H}{C:Cfg}{f R:Nat}{fn:Func}{c:Code}{s:ChangeSpec}{apart fresh handsOn again:Bool}(hX:XOK C)(hO:Hx C)(hm:C.P.follows .mixedOrders=true)(hl:laidOutB C.P=true)(I:C.P.funcs[f]? = some fn)(hb:fn.body=some c)(r:(fn.name == "runtime.NumGoroutine")=false)
  (Q:∀t∈fn.params.toList,(C.P.readableRec t=true/\t<C.P.types.size)/\(Hd C.P 20 t).isSome=true) (n:fn.resultTypes = #[R]) (a:C.P.underlying R=some .bool) (i:s.vars=[])
  (y:∀ds:List (DataW H),ds.length=fn.params.toList.length->s.fn H ds = { results:=[.lit (.bool true)],args:=ds })
  (G:∀args,Jk C.P fn.params.toList args->∃d D,evC C d Unit noY f args [] ()=some (.s (.bool true),D,()))
  (W:World) (Z:GOK C (· < W.heap.size) W) (base:Nat) (args:Array Value) (ds S:List (DataW H)) (l:List MemPlace)
  (Lb:∀(j:Nat) t v,fn.params[j]? = some t->args[j]? = some v->aa3 C.P W .any base t v)
  (O:ai2 enc C.P fn.params.toList s.vars apart W args.toList ds S l) :
  Calls C.P f args W λe F=>∃v,e = .returned v/\s.post enc C.P fn apart fresh handsOn again W args v F:=by
 have o:=O;obtain⟨p,q,hA,hV,rfl,a0,a1⟩:=O;rw[i] at hV;obtain⟨rfl,rfl⟩:=trodVars_none hV;let Γ:Ctx:={ St:=(· < W.heap.size),nm:=λ_=>none,yv:=.nilFunc,yv1:=rfl }
 obtain⟨B,N,T,X,Y⟩:=JX (Γ:=Γ) (sh:=A1 []) (λ_ h=>h) fn.params.toList args.toList ds p (λt L=>(Q t L).2) (λj t v J M=>Lb j t v (by simpa using J) (by simpa using M)) hA;obtain⟨d,D,P⟩:=G B N;have hS:=Ik hX hO hm d Unit I0 noY .nilFunc Bf2 Bf3 f B [] () _ D () P Γ noΦ W args rfl (Jq (λ_=>rfl) (λ_ h=>h)) Z (λ_ h=>h) (λb g h=>by cases h)
  ⟨by rw[<-af2];exact T,λj J=>by obtain⟨U,e,k⟩:=Y j J;exact⟨U,by simpa using e,k⟩⟩ (by rw[N.nms];simp)
 refine(Aq3 (Lu I hb r) hS).mono ?_;rintro e F ⟨V,rfl,Γ',Φ',z,hH,M,_⟩;have hV:=M.inv_bool;subst hV;have m:Below W.heap.size W F:=⟨z.os,z.tape,z.output,z.size,λk hk=>z.frame k hk (λb=>by simp[Γ]) (λx=>x)⟩
 simp only[ac2] at o;refine⟨_,rfl,?_⟩;have u:=y ds X;have K:=o.lt;refine HD (pa:=p) (pv:=[]) o (λb sp P=>?_) (λsp A=>?_) (λsp _=>?_) (by simp) m ?_
 ·rw[ac2,u,n];exact trodAll_cons_mk (shut_bool a _) trodAll_mk0
 ·rw[ac2,u];exact CB hl (w:=W) (ts:=fn.params.toList) (vs:=args.toList) (ds:=ds) (ps:=p) (λt L=>(Q t L).1) hA (λx hx=>m.same (K x hx)) sp A
 ·rw[ac2,u,i];rfl
 ·exact ok_one n rfl (okWide_bool_mk a _)
end
section
open Go
def A9(P:Program)(G:GT)(g:Nat)(pf:List PV->Tr):Prop:=
 ∀args ret c,J2 (pf args)=some (ret,c)->∀C:Cfg,C.P=P->C.G=G->∀a w d,(∀b,a.nm b=none)->HR a [] w->GOK C a.St w->CR a (A1 []) w args d->
  M4 P ((callFunc g d).run P w) (Y0 C I0 a [] w noΦ ret c ())
theorem Hf{C₀:Cfg}{g:Nat}{pf:List PV->Tr}(y:XOK C₀)(x:Hx C₀)(B:C₀.P.follows .mixedOrders=true)
  (h:∀args ret c,J2 (pf args)=some (ret,c)->C6 args=[]/\∃d,evC C₀ d Unit noY g args [] ()=some (ret,c,())):A9 C₀.P C₀.G g pf:=by
 intro args ret c o C F f p w t n v u A;obtain⟨m,d,k⟩:=h args ret c o;have e:GOK C₀ p.St w:=u.congr f.symm;refine(Ik y x B d Unit I0 noY p.yv Bf2 Bf3 g args [] () ret c () k p noΦ w t rfl v e (λ_ h=>h) (λb g h=>by rw[n] at h;cases h) A (by rw[m];simp)).mono ?_;rintro V w' ⟨q,r,a,i,D,hvn,l,j⟩;exact⟨q,r,⟨a.os,a.tape,a.output,a.size,a.sub,a.stnew,a.own,a.foot,a.frame,a.yv,a.len,λb z=>by simp at z⟩,i,D,hvn,l,j⟩
def Tr.snap:Tr->Tr
 | .ret v H=>cond (v.snap H).nms.isEmpty (.ret (v.snap H) []) .fail
 | .need c t=>.need c t.snap
 | .split c a b=>.split c a.snap b.snap
 | .fail=>.fail
theorem Tr.snap_res:∀{t:Tr} {v:PV} {H:List Blk},J2 t.snap=some (v,H)->∃v' H',J2 t=some (v',H')/\v=v'.snap H'/\H=[]/\v.nms=[]
 | .ret v' H',v,H,h=>by
  simp only[Tr.snap] at h;cases he:(v'.snap H').nms.isEmpty with
  | false=>rw[he] at h;cases h
  | true=>
   rw[he] at h;simp only[cond_true,J2,Dd,j0,s8] at h;obtain⟨rfl,rfl⟩:=h;exact⟨v',H',rfl,rfl,rfl,List.isEmpty_iff.1 he⟩
 | .need c t,v,H,h=>by
  cases c with
  | true=>exact Tr.snap_res (t:=t) h
  | false=>cases h
 | .split c a b,v,H,h=>by
  cases c with
  | true=>exact Tr.snap_res (t:=a) h
  | false=>exact Tr.snap_res (t:=b) h
 | .fail,_,_,h=>by cases h
theorem A9.snap{P:Program}{G:GT}{g:Nat}{pf:List PV->Tr}(h:A9 P G g pf):A9 P G g (λargs=>(pf args).snap):=by
 intro args ret Hc hpf C hP hGe Γ w Vs hnm hH hG hc;obtain⟨ret',Hc',hpf',rfl,rfl,hnr⟩:=Tr.snap_res hpf;refine(h args ret' Hc' hpf' C hP hGe Γ w Vs hnm hH hG hc).mono ?_;rintro V w' ⟨Γ1,Φ1,hs,hH1,hv,hvn,hi1,hd1⟩;let Γ2:Ctx:={ Γ1.all with nm:=λ_=>none }
 have hlt:∀g,Γ2.St g->g<w'.heap.size:=λg hg=>by
  rcases hg with hg|⟨b,hb⟩
  ·exact hH1.stlt g hg
  ·exact(hH1.lt b g hb).2.1
 refine⟨Γ2,Φ1,⟨hs.os,hs.tape,hs.output,hs.size,λg hg=>.inl (hs.sub g hg),λg hg=>?_,λb g h=>by simp[Γ2] at h,hs.foot,hs.frame,hs.yv,o6 _,λb hb=>by simp at hb⟩,
  Jq (λ_=>rfl) hlt,?_,by rw[hnr];simp,hi1,λb g h=>by simp[Γ2] at h⟩
 ·rcases hg with hg|⟨b,hb⟩
  ·exact hs.stnew g hg
  ·rcases hs.own b g hb with⟨h',_⟩|h'
   all_goals grind
 ·exact VP.mono (Γ:=Γ1.all) (Γ':=Γ2) (w:=w') (w':=w') (sh:=A1 Hc') (ok:=λ_=>False) ⟨λ_ _=>rfl,λ_ h=>h,λ_ h=>h.elim,λ_ h=>h.elim,λ_ _ h=>h.elim,rfl⟩ (hv.snap hH1) (by rw[hnr];simp)
def RX:List (Nat × (List PV->Tr))->Nat->Option (List PV->Tr)
 | [],_=>none
 | (g,a)::r,n=>cond (y7 n g) (some a) (RX r n)
def J6(P:Program)(G:GT):List (Nat × (List PV->Tr))->Prop
 | []=>True
 | (g,a)::r=>A9 P G g a/\J6 P G r
theorem J6.x1{C:Cfg}{l:List (Nat × (List PV->Tr))}(hl:C.X=RX l)(h:J6 C.P C.G l):Cq1 C:=by
 intro g pf args ret Hc hg hpf Γ w Vs hnm hH hG hc;rw[hl] at hg;have key:∀l:List (Nat × (List PV->Tr)),J6 C.P C.G l->RX l g=some pf->A9 C.P C.G g pf:=by
  intro l
  induction l with
  | nil=>intro _ h;cases h
  | cons e r ih=>
   intro h1 h2;obtain⟨n,q⟩:=e;simp only[RX] at h2;cases hb:y7 g n with
   | true=>
    rw[hb] at h2;simp only[cond_true,j0] at h2;have:=w9 hb;subst this;subst h2;exact h1.1
   | false=>
    rw[hb] at h2;exact ih h1.2 h2
 exact key l h hg args ret Hc hpf C rfl rfl Γ w Vs hnm hH hG hc
theorem DJ{C a:Cfg}(h:C.P=a.P):Fl C=Fl a:=by
 funext s
 unfold Fl;split
 ·simp only[Cu,Cfg.sh,h]
 ·rfl
 ·rfl
theorem Stp.congr{C C':Cfg}(h:C.P=C'.P){Γ Γ':Ctx}{H H':List Blk}{w w':World}{Φ Φ':Nat->Prop}(s:Stp C Γ H w Φ Γ' H' w' Φ'):Stp C' Γ H w Φ Γ' H' w' Φ':=
 ⟨s.os,s.tape,s.output,s.size,s.sub,s.stnew,s.own,s.foot,s.frame,s.yv,s.len,λb hb hf=>s.keep b hb (by rw[DJ h];exact hf)⟩
def Qv(P:Program)(G:GT)(g:Nat)(j:List PV->List Blk->Tr):Prop:=
 ∀C:Cfg,C.P=P->C.G=G->∀(i:Type) (I:i->(Nat->Prop)->(Nat->Prop)->World->Prop) (k:Yh i) (h:Value),HI I->Ab1 P I k h->
  ∀args H s ret e,J2 (j args H)=some (ret,e)->∀a d w f,a.yv=h->HR a H w->GOK C a.St w->I s a.St d w->(∀b g,a.nm b=some g->¬d g)->CR a (A1 H) w args f->(∀c∈C6 args,c<H.length)->
   M4 P ((callFunc g f).run P w) (Y0 C I a H w d ret e s)
def SY(P:Program)(G:GT)(g:Nat)(k:List PV->List Blk->Option (Bool × List (List PV))):Prop:=
 ∀C:Cfg,C.P=P->C.G=G->∀(j:Type) (I:j->(Nat->Prop)->(Nat->Prop)->World->Prop) (h:Yh j) (i:Value),HI I->Ab1 P I h i->
  ∀args H L s f,k args H=some (true,L)->H.all DU=true->P0 h L s=some f->∀a d w e,a.yv=i->HR a H w->GOK C a.St w->I s a.St d w->(∀b g,a.nm b=some g->¬d g)->CR a (A1 H) w args e->(∀c∈C6 args,c<H.length)->
   M4 P ((callFunc g e).run P w) (Y0 C I a H w d (.tup []) (H.map Gf) f)
theorem Bi4{C o:Cfg}{σ:Type}{I:σ->(Nat->Prop)->(Nat->Prop)->World->Prop}{S:Ctx}{H D:List Blk}{w w':World}{Φ:Nat->Prop}{s':σ}{V:Value}(hP:o.P=C.P)(hb:H.all DU=true)(hH:HR S H w)(h:Y0 o I S H w Φ (.tup []) D s' V w'):Y0 C I S H w Φ (.tup []) (H.map Gf) s' V w':=by
 obtain⟨n,T,l,G,k2,k3,k4,k5⟩:=h;have B:∀b g,(if b<H.length then n.nm b else none)=some g->b<H.length/\n.nm b=some g:=λb g h=>by grind
 have p:(H.map Gf).length=H.length:=z7 _;refine⟨{ n with nm:=λb=>if b<H.length then n.nm b else none },T,⟨l.os,l.tape,l.output,l.size,l.sub,l.stnew,λb g y=>l.own b g (B b g y).2,l.foot,l.frame,l.yv,by rw[p];exact o6 _,λb i hf=>?_⟩,
  ⟨λb U g K M=>G.inj b U g (B b g K).2 (B U g M).2,λb g y=>?_,G.stlt,λb i c Y=>?_,λb i=>?_⟩,?_,by simp[PV.nms,C6],k4,λb g y=>k5 b g (B b g y).2⟩
 ·obtain⟨Z,Q,R⟩:=l.keep b i (by rw[DJ hP];exact hf);refine⟨by simp only;rw[if_pos i];exact Z,?_,R⟩;simp only[A1,ab3];cases H[b]? with
  | none=>rfl
  | some x=>exact congrArg some (IA x)
 ·obtain⟨q1,q2⟩:=B b g y;have:=G.lt b g q2;grind
 ·rw[o8,HZ] at Y;simp at Y
 ·rw[p] at i;rw[o8];have k:=x7.1 hb _ (o0 i);have X:=hH.blk b i;cases q:H[b] with
  | box cells=>
   rw[q] at X;obtain⟨g,a0,e,K,M,W,_⟩:=X;obtain⟨Z,Q,R⟩:=l.keep b i (by simp only[A1,c8 i,q];exact trivial);have z:b<D.length:=j9 i l.len;have v:=G.blk b z;have f:(D[b]).shp = .box:=by
    simp only[A1,c8 i,c8 z,ac5,j0] at Q;rw[Q,q];rfl
   cases t:D[b] with
   | box F=>
    rw[t] at v;obtain⟨J,m,e',L,u,a1,a2⟩:=v;have N:J=g:=by grind
    subst N;have r:=R J K;simp only[World.shape?,M,u,j0,s8] at r;refine⟨J,m,e',by simp only;rw[if_pos i];exact L,u,by rw[r.2,W];simp,λj O=>?_⟩;have P:j<m.size:=by rw[r.2,W];simpa using O
    exact⟨m[j],Array.getElem?_eq_getElem P,by rw[o8];exact .bad _⟩
   | arr a b c d=>rw[t] at f;cases f
   | iter a b=>rw[t] at f;cases f
   | mp a=>rw[t] at f;cases f
   | ms a b=>rw[t] at f;cases f
   | dead=>rw[t] at f;cases f
  | arr a b c d=>rw[q] at k;cases k
  | iter a b=>rw[q] at k;cases k
  | mp a=>rw[q] at k;cases k
  | ms a b=>rw[q] at k;cases k
  | dead=>rw[q] at k;cases k
 ·obtain⟨A,rfl,hA,a3⟩:=k2.inv_tup;exact VP.mk_tup hA λj O=>by simp at O
theorem Yp{C₀:Cfg}{g:Nat}{n:List PV->List Blk->Option (Bool × List (List PV))}(u:XOK C₀)(r:Hx C₀)(A:C₀.P.follows .mixedOrders=true)
  (h:∀args H L,n args H=some (true,L)->∀(a:Type) (f:Yh a) (s e:a),P0 f L s=some e->∃d i,evC C₀ d a f g args H s=some (.tup [],i,e)):SY C₀.P C₀.G g n:=by
 intro C t p a I f G q F args H L s e k v c J K w o l m y z b x B;obtain⟨d,i,j⟩:=h args H L k a f s e c;exact(Ik u r A d a I f G q F g args H s _ i e j J K w o l m (y.congr p.symm) z b x B).mono λV w' D=>Bi4 t.symm v m D
def Jd{a:Type}:List (Nat × a)->Nat->Option a
 | [],_=>none
 | (g,b)::r,n=>cond (y7 n g) (some b) (Jd r n)
theorem To{b:Type}:∀{l:List (Nat × b)} {g:Nat} {a:b},Jd l g=some a->(g,a)∈l
 | [],_,_,h=>by cases h
 | (n,q)::r,g,a,h=>by
  simp only[Jd] at h;cases c:y7 g n with
  | true=>
   simp_all
  | false=>
   rw[c] at h;exact ae9 _ (To h)
def Hi(P:Program)(G:GT):List (Nat × (List PV->List Blk->Tr))->Prop
 | []=>True
 | (g,a)::r=>Qv P G g a/\Hi P G r
def Hh(P:Program)(G:GT):List (Nat × (List PV->List Blk->Option (Bool × List (List PV))))->Prop
 | []=>True
 | (g,a)::r=>SY P G g a/\Hh P G r
theorem Hi.mem{P:Program}{G:GT}:∀{l:List (Nat × (List PV->List Blk->Tr))} {g:Nat} {pf:List PV->List Blk->Tr},Hi P G l->(g,pf)∈l->Qv P G g pf
 | [],_,_,_,hm=>by simp at hm
 | (n,q)::r,g,pf,h,hm=>by
  rcases x6.1 hm with e|hm
  ·cases e;exact h.1
  ·exact Hi.mem h.2 hm
theorem Hh.mem{P:Program}{G:GT}:∀{l:List (Nat × (List PV->List Blk->Option (Bool × List (List PV))))} {g:Nat} {pf:List PV->List Blk->Option (Bool × List (List PV))},Hh P G l->(g,pf)∈l->SY P G g pf
 | [],_,_,_,hm=>by simp at hm
 | (n,q)::r,g,pf,h,hm=>by
  rcases x6.1 hm with e|hm
  ·cases e;exact h.1
  ·exact Hh.mem h.2 hm
theorem Hi.ok{C:Cfg}{l:List (Nat × (List PV->List Blk->Tr))}(hl:C.Y=Jd l)(h:Hi C.P C.G l):Aa C (clY C):=by
 intro σ I yh yv hI hy g args H s ret Hc s' hcl Γ Φ w Vs hyv hH hg hi hd hc hn;simp only[clY,hl] at hcl;split at hcl
 ·rename_i pf hpf;split at hcl
  ·rename_i r' h' hr;simp only[j0,s8] at hcl;obtain⟨rfl,rfl,rfl⟩:=hcl;exact h.mem (To hpf) C rfl rfl σ I yh yv hI hy args H s _ _ hr Γ Φ w Vs hyv hH hg hi hd hc hn
  grind
 ·cases hcl
theorem Hh.ok{C:Cfg}{l:List (Nat × (List PV->List Blk->Option (Bool × List (List PV))))}(hl:C.S=Jd l)(h:Hh C.P C.G l):Aa C (clS C):=by
 intro σ I yh yv hI hy g args H s ret Hc s' hcl Γ Φ w Vs hyv hH hg hi hd hc hn;simp only[clS,hl] at hcl;split at hcl
 ·rename_i pf hpf;split at hcl
  ·rename_i hb;split at hcl
   ·rename_i L hL;split at hcl
    ·rename_i s2 hr;simp only[j0,s8] at hcl;obtain⟨rfl,rfl,rfl⟩:=hcl;exact h.mem (To hpf) C rfl rfl σ I yh yv hI hy args H L s _ hL hb hr Γ Φ w Vs hyv hH hg hi hd hc hn
    grind
   grind
  grind
 ·cases hcl
theorem Kq{C:Cfg}{lx:List (Nat × (List PV->Tr))}{ly:List (Nat × (List PV->List Blk->Tr))}{ls:List (Nat × (List PV->List Blk->Option (Bool × List (List PV))))}(a:C.X=RX lx)(b:C.Y=Jd ly)(c:C.S=Jd ls)(x:J6 C.P C.G lx)(y:Hi C.P C.G ly)(s:Hh C.P C.G ls)(d:C.Z=Jd []:=by rfl):XOK C:=
 ⟨J6.x1 a x,Hi.ok b y,Hh.ok c s,λg e h=>by rw[d] at h;cases h⟩
theorem J6.ok{C:Cfg}{l:List (Nat × (List PV->Tr))}(hl:C.X=RX l)(h:J6 C.P C.G l)(h2:C.Y=Jd []:=by rfl)(h3:C.S=Jd []:=by rfl)(h4:C.Z=Jd []:=by rfl):XOK C:=
 Kq hl h2 h3 h trivial trivial h4
def okL:List Nat->Nat->Bool
 | [],_=>false
 | a::r,n=>y7 n a||okL r n
def Al0(C:Cfg)(l:List Nat):Bool:=l.all λf=>match C.P.funcs[f]? with
 | some fn=>match fn.body with
  | some c=>Bj4 C c && !(fn.name == "runtime.NumGoroutine")
  | none=>true
 | none=>true
theorem F8{C:Cfg}{l:List Nat}(d:C.okf=okL l)(h:Al0 C l=true):Hx C:=by
 intro f fn c b g e;have key:∀l:List Nat,okL l f=true->f∈l:=by
  intro l
  induction l with
  | nil=>intro h;cases h
  | cons a r j=>
   intro h;simp only[okL,Bool.or_eq_true] at h;rcases h with h|h
   all_goals simp_all
 have i:f∈l:=key l (by rw[<-d];exact b);simp only[Al0,x7] at h;grind
def cd:List Nat->Code->Code
 | [],c=>c
 | 0::p,.seq a _=>cd p a
 | 1::p,.seq _ b=>cd p b
 | 0::p,.cond _ a _=>cd p a
 | 1::p,.cond _ _ b=>cd p b
 | 0::p,.block _ a=>cd p a
 | 0::p,.loop a=>cd p a
 | 0::p,.scope a=>cd p a
 | 0::p,.rangeFunc _ _ a _=>cd p a
 | 1::p,.rangeFunc _ _ _ b=>cd p b
 | _,_=>.skip
def K3:List Nat->Code->Code->Code
 | [],b,_=>b
 | 0::p,b,.seq x y=>.seq (K3 p b x) y
 | 1::p,b,.seq x y=>.seq x (K3 p b y)
 | 0::p,b,.cond c x y=>.cond c (K3 p b x) y
 | 1::p,b,.cond c x y=>.cond c x (K3 p b y)
 | 0::p,b,.block id x=>.block id (K3 p b x)
 | 0::p,b,.loop x=>.loop (K3 p b x)
 | 0::p,b,.scope x=>.scope (K3 p b x)
 | 0::p,b,.rangeFunc g a x y=>.rangeFunc g a (K3 p b x) y
 | 1::p,b,.rangeFunc g a x y=>.rangeFunc g a x (K3 p b y)
 | _,_,c=>c
def E5(f:Func):Code:=f.body.getD .skip
section
variable {Y R : Type}
def bd(C:Cfg)(a:E3)(d:Yh Y)(c:Code):St Y->(Out->St Y->Option R)->Option R:=λb k=>A7 C a d c b k
def J0(C:Cfg)(c:E3)(d:Yh Y)(b:Code)(k:Out->St Y->Option R):Out->St Y->Option R:=λo a=>match o with
 | .normal=>A7 C c d b a k
 | o=>k o a
def I1(id:Nat)(k:Out->St Y->Option R):Out->St Y->Option R:=λo a=>match o with
 | .exit j=>if j=id then k .normal a else k (.exit j) a
 | o=>k o a
def I6(C:Cfg)(fn:Func):Out->St Y->Option (PV × List Blk × Y):=λo a=>match o with
 | .normal=>Zj C a.sl a.hp fn.results.toList λb=>some (Aj b,a.hp,a.s)
 | .ret=>Zj C a.sl a.hp fn.results.toList λb=>some (Aj b,a.hp,a.s)
 | _=>none
def lpK(L:Nat)(ds:Option (List Nat))(a:St Y->(Out->St Y->Option R)->Option R)(n:Nat)(k:Out->St Y->Option R):Out->St Y->Option R:=λo b=>match o with
 | .normal=>G1 L ds a n (Ka ds (T2 L b)) k
 | o=>k o (Ka ds b)
end
theorem Ci9{C:Cfg}{d f:Nat}{fn:Func}{e:Type}{g:Yh e}{args:List PV}{H:List Blk}{s:e}(i:C.P.funcs[f]? = some fn)(h:C.okf f=true)(a:fn.body=some (E5 fn)) :
  evC C (d+1) e g f args H s=A7 C (evC C d) g (E5 fn) { sl:=args++j7 (fn.ntmps-args.length) (.tup []),hp:=H,s:=s } (I6 C fn):=by
 simp only[evC,h,i];split
 ·rename_i c b;rw[b] at a;simp only[j0] at a;rw[<-a];rfl
 ·rename_i b;rw[b] at a;cases a
theorem evE{C:Cfg}{d f:Nat}{fn:Func}{a:Type}{b:Yh a}{args:List PV}{H:List Blk}{s:a}(h:(C.P.funcs[f]?,C.okf f,fn.body)=(some fn,true,some (E5 fn))) :
  evC C (d+1) a b f args H s=A7 C (evC C d) b (E5 fn) { sl:=args++j7 (fn.ntmps-args.length) (.tup []),hp:=H,s:=s } (I6 C fn):=by
 simp only[s8] at h;exact Ci9 h.1 h.2.1 h.2.2
def Hn:List Nat->List Blk->List Blk
 | [],H=>H
 | i::r,H=>Hn r (H.set i .dead)
def Ae5(a:List Nat)(ret:PV)(H:List Blk):Bool:=a.all λi=>!(ret.nms.contains i)&&(Hn a H).all λb=>!(b.nms.contains i)
theorem Xo:∀(b:List Nat) (H:List Blk),(Hn b H).length=H.length/\∀i (h:i<(Hn b H).length) (c:i<H.length),(i∈b/\(Hn b H)[i] = .dead)\/(i∉b/\(Hn b H)[i]=H[i])
 | [],H=>⟨rfl,λi h c=>.inr ⟨by simp,rfl⟩⟩
 | a::r,H=>by
  obtain⟨d,e⟩:=Xo r (H.set a .dead);simp only[Hn];grind
theorem Y0.dead{C:Cfg}{Γ:Ctx}{w w':World}{ret:PV}{Hc:List Blk}{V:Value}{idx:List Nat}(h:Y0 C I0 Γ [] w noΦ ret Hc () V w')(hok:Ae5 idx ret Hc=true):Y0 C I0 Γ [] w noΦ ret (Hn idx Hc) () V w':=by
 obtain⟨Γ1,Φ1,hs,hH1,hv,hvn,hi1,hd1⟩:=h;obtain⟨hl,hsp⟩:=Xo idx Hc;simp only[Ae5,x7,k9,Bool.not_eq_true',List.contains_iff_mem,<-Bool.not_eq_true] at hok;let Γ2:Ctx:={ Γ1 with nm:=λb=>if b∈idx then none else Γ1.nm b }
 have hnm:∀b g,Γ2.nm b=some g->b∉idx/\Γ1.nm b=some g:=λb g h=>by
  simp only[Γ2] at h;split at h
  ·cases h
  ·exact⟨‹_›,h⟩
 have M:V8 Γ1 (A1 Hc) w' Γ2 (A1 (Hn idx Hc)) w' (·∉idx):=⟨λ_ _=>rfl,λ_ h=>h,λb hb=>by simp only[Γ2];rw[if_neg hb],λb hb=>by
  simp only[A1];by_cases hlt:b<Hc.length
  ·rcases hsp b (by omega) hlt with⟨q,_⟩|⟨_,q⟩
   ·exact absurd q hb
   ·rw[c8 (by omega),c8 hlt,q]
  ·rw[w8 (by omega),w8 (by omega)],λ_ _ _ _=>rfl,rfl⟩
 refine⟨Γ2,Φ1,⟨hs.os,hs.tape,hs.output,hs.size,hs.sub,hs.stnew,λb g h=>hs.own b g (hnm b g h).2,hs.foot,hs.frame,hs.yv,Nat.zero_le _,λb hb=>by simp at hb⟩,
  ⟨λb b' g h1 h2=>hH1.inj b b' g (hnm b g h1).2 (hnm b' g h2).2,λb g h=>by have:=hH1.lt b g (hnm b g h).2;rw[hl];exact this,hH1.stlt,λb hb c hc=>?_,λb hb=>?_⟩,
  hv.mono M (λb hb hi=>by have:=(hok b hi).1;exact this hb),λc hc=>by rw[hl];exact hvn c hc,hi1,λb g h=>hd1 b g (hnm b g h).2⟩
 ·have hlt:b<Hc.length:=by omega
  rcases hsp b hb hlt with⟨_,q⟩|⟨_,q⟩
  ·rw[q] at hc;simp[Blk.nms] at hc
  ·rw[q] at hc;rw[hl];exact hH1.nms b hlt c hc
 ·have hlt:b<Hc.length:=by omega
  rcases hsp b hb hlt with⟨_,q⟩|⟨q0,q⟩
  ·rw[q];trivial
  ·rw[q];refine(hH1.blk b hlt).mono M (M.nm b q0) (λ_ _=>rfl) (λc hc hi=>?_);have:=(hok c hi).2 _ (o0 hb);rw[q] at this;exact this hc
theorem W6{C₀:Cfg}{g:Nat}{pf:List PV->Tr}(y:XOK C₀)(u:Hx C₀)(B:C₀.P.follows .mixedOrders=true)
  (h:∀args ret i,J2 (pf args)=some (ret,i)->C6 args=[]/\∃d e c,evC C₀ d Unit noY g args [] ()=some (ret,e,())/\Ae5 c ret e=true/\Hn c e=i):A9 C₀.P C₀.G g pf:=by
 intro args ret i f C v j D w o m t q z;obtain⟨l,d,e,c,k,A,rfl⟩:=h args ret i f;have p:=Hf (C₀:=C₀) (g:=g) (pf:=λa=>match J2 (pf a) with|some _=>(match evC C₀ d Unit noY g a [] () with|some (r,H,_)=>cond (C6 a).isEmpty (.ret r H) .fail|none=>.fail)|none=>.fail) y u B (λa r H b=>by
  split at b
  ·split at b
   ·rename_i G H' _ F;cases n:(C6 a).isEmpty with
    | true=>
     rw[n] at b;simp only[cond_true,J2,Dd,j0,s8] at b;grind
    | false=>rw[n] at b;cases b
   ·cases b
  ·cases b)
 refine(p args ret e ?_ C v j D w o m t q z).mono λV w' x=>x.dead A
 dsimp only;rw[f];dsimp only;rw[k];dsimp only;rw[l];rfl
theorem ST{C₀:Cfg}{g:Nat}{pf:List PV->Tr}(y:XOK C₀)(v:Hx C₀)(A:C₀.P.follows .mixedOrders=true)
  (h:∀args ret f,J2 (pf args)=some (ret,f)->C6 args=[]/\f=[]/\ret.nms=[]/\∃d b e,evC C₀ d Unit noY g args [] ()=some (b,e,())/\b.snap e=ret):A9 C₀.P C₀.G g pf:=by
 intro args ret f n C x i B w p l u t z;obtain⟨k,rfl,m,d,b,e,j,rfl⟩:=h args ret f n;have q:=Hf (C₀:=C₀) (g:=g) (pf:=λa=>match evC C₀ d Unit noY g a [] () with|some (r,H,_)=>cond (C6 a).isEmpty (.ret r H) .fail|none=>.fail) y v A (λa r H c=>by
  split at c
  ·rename_i F H' _ D;cases o:(C6 a).isEmpty with
   | true=>
    rw[o] at c;simp only[cond_true,J2,Dd,j0,s8] at c;grind
   | false=>rw[o] at c;cases c
  ·cases c)
 refine q.snap args (b.snap e) [] ?_ C x i B w p l u t z;dsimp only;rw[j];dsimp only;rw[k];simp only[List.isEmpty_nil,cond_true,Tr.snap,m];rfl
section
variable {L R : Type} {C : Cfg} {Y : E3} {W : Yh L} {c a b : Code} {Q : St L} {k : Out -> St L -> Option R} {id : Nat}
theorem A0{b:Bool}{x y d e:Option R}(f:x=d)(g:y=e):cond b x y=cond b d e:=by rw[f,g]
end
def Bq6{α:Type}(z:α)(f:Nat->α->α):Nat->α
 | 0=>z
 | n+1=>f n (Bq6 z f n)
def A3{b:Type}:List (Nat × b)->Nat->Option b
 | [],_=>none
 | (a,l)::r,n=>cond (y7 n a) (some l) (A3 r n)
def bds(n:Nat):List PV:=j7 n .bad
def tps(n:Nat):List PV:=j7 n (.tup [])
def gp:List (Nat × PV)->Nat->List PV
 | [],n=>bds n
 | (m,v)::r,n=>bds m++v::gp r n
abbrev LL:=List (List SV)
abbrev MS:=List (List UInt8 × List SV)
abbrev By:=List UInt8
def A4(n:Int):Int:=o9 .i64 n
def Cn3(n:Int):Int:=o9 .u64 n
def Bv3(n:Int):Int:=o9 .u32 n
def Ua(n:Int):Int:=o9 .u16 n
def wu8(n:Int):Int:=o9 .u8 n
def Ab5(k:IntKind)(a b:Int):Int:=k.wrap (y9 k.bits a &&& y9 k.bits b).toNat
def bOr(k:IntKind)(a b:Int):Int:=k.wrap (y9 k.bits a ||| y9 k.bits b).toNat
def Th(k:IntKind)(a b:Int):Int:=k.wrap (a*2 ^ min b.toNat k.bits)
def HG(k:IntKind)(a b:Int):Int:=a.fdiv (2 ^ min b.toNat k.bits)
def inR(n:Int)(m:Nat):Bool:=decide (0<=n)&&decide (n<m)
def Ap7:TI:=⟨true,false,[.int .i64]⟩
def Jc:TI:=⟨true,false,[.str]⟩
def okE(t:TI)(l:LL)(i o:Nat):Bool:=decide (i<l.length)&&okS t (l.getD i []) o
def gC(l:LL)(i j:Nat):SV:=(l.getD i []).getD j .nilp
def gE(l:LL)(i j:Nat):Int:=(gC l i j).gI
def gX(l:LL)(i j:Nat):By:=(gC l i j).gS
def bAt(s:By)(n:Int):Int:=((s.getD n.toNat 0).toNat:Int)
def O6(l h:Int)(n:Nat):Bool:=decide (0<=l)&&decide (l<=h)&&decide (h<=n)
def cut{a:Type}(s:List a)(l h:Int):List a:=(s.take h.toNat).drop l.toNat
def Cu2:Code->Bool | .rangeFunc _ _ _ _=>true|_=>false
def rgX:Code->Operand | .rangeFunc x _ _ _=>x|_=>.tmp 0
def rgP:Code->Array Tmp | .rangeFunc _ p _ _=>p|_=>#[]
theorem OQ:∀(p:List Nat),cd p .skip = .skip
 | []=>rfl
 | 0::_=>rfl
 | 1::_=>rfl
 | (_+2)::_=>rfl
theorem Ff:∀(p q:List Nat) (c:Code),cd (p++q) c=cd q (cd p c)
 | [],q,c=>rfl
 | i::p,q,c=>by
  rw[ad4]
  match i,c with
  | 0,.seq a b=>exact Ff p q a
  | 1,.seq a b=>exact Ff p q b
  | 0,.cond _ a b=>exact Ff p q a
  | 1,.cond _ a b=>exact Ff p q b
  | 0,.block _ a=>exact Ff p q a
  | 0,.loop a=>exact Ff p q a
  | 0,.scope a=>exact Ff p q a
  | 0,.rangeFunc _ _ a b=>exact Ff p q a
  | 1,.rangeFunc _ _ a b=>exact Ff p q b
  | 0,.skip|0,.region _ _ _|0,.exit _|0,.label _|0,.goto _|0,.ret|0,.refuse _=>exact(OQ q).symm
  | 1,.skip|1,.region _ _ _|1,.exit _|1,.scope _|1,.label _|1,.goto _|1,.ret|1,.refuse _|1,.block _ _|1,.loop _=>exact(OQ q).symm
  | _+2,.skip|_+2,.region _ _ _|_+2,.exit _|_+2,.scope _|_+2,.label _|_+2,.goto _|_+2,.ret|_+2,.refuse _|_+2,.block _ _|_+2,.loop _|_+2,.seq _ _|_+2,.cond _ _ _|_+2,.rangeFunc _ _ _ _=>exact(OQ q).symm
section
variable {L R : Type} {C : Cfg} {Y : E3} {Q : Yh L} {B : Code} {W : St L} {k : Out -> St L -> Option R}
def rdB(g:Array Tmp)(e:List PV)(a b:St L->(Out->St L->Option R)->Option R)(xs:List (List PV))(n:Nat)(f:Option Out->List Blk->L->Option R):Out->St L->Option R:=λd c=>match d with
 | .normal=>Q6 g e a b xs (T2 n c).hp c.s f
 | d=>f (some d) (T2 n c).hp c.s
theorem Av1(p:List Nat)(h:Cu2 (cd p B)=true):A7 C Y Q (cd p B) W k=Qc C Y (opnd C W.sl (rgX (cd p B))) W (λa=>Hs (rgP (cd p B)) a (bd C Y Q (cd (p++[0]) B)) (bd C Y Q (cd (p++[1]) B))) (λa=>Q6 (rgP (cd p B)) a (bd C Y Q (cd (p++[0]) B)) (bd C Y Q (cd (p++[1]) B))) k:=by rw[Ff,Ff];cases b:cd p B<;>rw[b] at h<;>first|rfl|cases h
theorem By2{x:Option (Bool × L)}{k a:Bool->L->Option R}(h:∀b s,k b s=a b s):ydK x k=ydK x a:=by
 have:k=a:=funext λb=>funext λs=>h b s
 rw[this]
theorem Ki{c:Bool}{x y:Option R}(h:x=y):need c x=cond c y none:=by rw[h];rfl
end
abbrev pS(l:List UInt8):PV:=.s (.str l)
abbrev pB(b:Bool):PV:=.s (.bool b)
abbrev pI(n:Int):PV:=.s (.int .i64 n)
abbrev p8(n:Int):PV:=.s (.int .u8 n)
abbrev p16(n:Int):PV:=.s (.int .u16 n)
abbrev p32(n:Int):PV:=.s (.int .u32 n)
abbrev p64(n:Int):PV:=.s (.int .u64 n)
abbrev vl{a b:Type}(e:a)(f:a->b):b:=f e
theorem A5{a R:Type}{e:a}{f g:a->Option R}(h:∀x,f x=g x):vl e f=vl e g:=h e
def P5(m n:Nat):Bool:=decide (m+n<4611686018427387904)
theorem fx1{A R:Type}{f g:A->R}(b:∀a,f a=g a):f=g:=funext b
theorem fx2{A B R:Type}{f g:A->B->R}(c:∀a b,f a b=g a b):f=g:=funext λa=>fx1 (c a)
theorem fx3{A B C R:Type}{f g:A->B->C->R}(d:∀a b c,f a b c=g a b c):f=g:=funext λa=>fx2 (d a)
theorem fx4{A B C D R:Type}{f g:A->B->C->D->R}(e:∀a b c d,f a b c d=g a b c d):f=g:=funext λa=>fx3 (e a)
theorem fx5{A B C D E R:Type}{f g:A->B->C->D->E->R}(h:∀a b c d e,f a b c d e=g a b c d e):f=g:=funext λa=>fx4 (h a)
theorem fx6{A B C D E H R:Type}{f g:A->B->C->D->E->H->R}(i:∀a b c d e h,f a b c d e h=g a b c d e h):f=g:=funext λa=>fx5 (i a)
theorem fx7{A B C D E H I R:Type}{f g:A->B->C->D->E->H->I->R}(j:∀a b c d e h i,f a b c d e h i=g a b c d e h i):f=g:=funext λa=>fx6 (j a)
theorem fx8{A B C D E H I J R:Type}{f g:A->B->C->D->E->H->I->J->R}(k:∀a b c d e h i j,f a b c d e h i j=g a b c d e h i j):f=g:=funext λa=>fx7 (k a)
theorem fx9{A B C D E H I J K R:Type}{f g:A->B->C->D->E->H->I->J->K->R}(l:∀a b c d e h i j k,f a b c d e h i j k=g a b c d e h i j k):f=g:=funext λa=>fx8 (l a)
theorem Cu0{A B C D E H I J K L R:Type}{f g:A->B->C->D->E->H->I->J->K->L->R}(m:∀a b c d e h i j k l,f a b c d e h i j k l=g a b c d e h i j k l):f=g:=funext λa=>fx9 (m a)
def Bq7{α a:Type}(z:α)(f:a->List a->α->α):List a->α
 | []=>z
 | x::xs=>f x xs (Bq7 z f xs)
def Rt(n:Nat):PV->PV
 | .s (.sl z t k a)=>if n=0 then .s (.sl z t k a) else if k=n then .s (.sl z t k a) else .s (.sl z t (cond z n k) a)
 | v=>v
def Pu:List Nat->List PV->List PV
 | n::r,v::l=>Rt n v::Pu r l
 | _,l=>l
def Cj0(a:List Nat):PV->PV
 | .agg l=>.agg (Pu a l)
 | v=>Rt (a.headD 0) v
def E0:List (List Nat)->List PV->List PV
 | s::r,v::l=>Cj0 s v::E0 r l
 | _,l=>l
section
variable {L : Ctx} {sh : Nat -> Option Shp} {w : World}
theorem Zr{n:Nat}{v:PV}{V:Value}(h:VP L sh w v V):VP L sh w (Rt n v) V:=by
 unfold Rt;split
 ·rename_i z t k a;split
  ·exact h
  ·split
   ·exact h
   ·cases z with
    | false=>exact h
    | true=>
     have b:=h.inv_s;cases b with
     | nil=>exact .s _ _ (.nil _ _)
 ·exact h
theorem Ru:∀(a:List Nat) (l:List PV),(Pu a l).length=l.length
 | [],_=>rfl
 | _::_,[]=>rfl
 | n::r,v::l=>by simp[Pu,Ru r l]
theorem DI:∀(a:List Nat) (l:List PV) (j:Nat) (h:j<l.length) (b:j<(Pu a l).length),∃n,(Pu a l)[j]=Rt n l[j]
 | [],l,j,h,b=>⟨0,by
  have e:Pu [] l=l:=by cases l<;>rfl
  simp only[e];unfold Rt;split
  ·rename_i c;rw[c];simp
  ·rfl⟩
 | n::r,v::l,0,h,b=>⟨n,rfl⟩
 | n::r,v::l,j+1,h,b=>by
  obtain⟨m,e⟩:=DI r l j (by simpa using h) (by simpa[Pu] using b);exact⟨m,by simpa[Pu] using e⟩
theorem B24{b:List Nat}{v:PV}{V:Value}(h:VP L sh w v V):VP L sh w (Cj0 b v) V:=by
 unfold Cj0;split
 ·rename_i l;obtain⟨A,rfl,hA,f⟩:=h.inv_agg;refine VP.mk_agg (by rw[Ru];exact hA) λj c=>?_
  have a:j<l.length:=by rw[Ru] at c;exact c
  obtain⟨U,e,k⟩:=f j a;obtain⟨m,d⟩:=DI b l j a c;exact⟨U,e,by rw[d];exact Zr k⟩
 ·exact Zr h
theorem VM:∀(a:List (List Nat)) (l:List PV),(E0 a l).length=l.length
 | [],_=>rfl
 | _::_,[]=>rfl
 | n::r,v::l=>by simp[E0,VM r l]
theorem B25:∀(a:List (List Nat)) (l:List PV) (V:Array Value),CR L sh w l V->CR L sh w (E0 a l) V:=by
 intro a l V h;refine⟨by rw[VM];exact h.1,?_⟩;have key:∀(a:List (List Nat)) (l:List PV) (b:Nat->Option Value),(∀j (h:j<l.length),∃U,b j=some U/\VP L sh w (l[j]) U)->∀j (h:j<(E0 a l).length),∃U,b j=some U/\VP L sh w ((E0 a l)[j]) U:=by
  intro a
  induction a with
  | nil=>intro l b d j c;exact d j (by cases l<;>exact c)
  | cons s r f=>
   intro l b d j c;cases l with
   | nil=>simp[E0] at c
   | cons v l=>
    cases j with
    | zero=>
     obtain⟨U,e,k⟩:=d 0 (by simp);exact⟨U,e,B24 k⟩
    | succ j=>
     have:=f l (λj=>b (j+1)) (λj h=>d (j+1) (by simpa using h)) j (by simpa[E0] using c);simpa[E0] using this
 exact key a l (λj=>V[j]?) h.2
end
theorem A9.fix{P:Program}{G:GT}{g:Nat}{pf:List PV->Tr}(szs:List (List Nat))(h:A9 P G g pf):A9 P G g (λargs=>pf (E0 szs args)):=
 λargs ret Hc hpf C hP hGe Γ w Vs hnm hH hG hc=>h (E0 szs args) ret Hc hpf C hP hGe Γ w Vs hnm hH hG (B25 szs args Vs hc)
def plE(a:LL):Bool:=a.all λb=>b.all SV.plain
theorem G6{v:PV}{H:List Blk}{ret:PV}{a:List Blk}(h:J2 (.ret v H)=some (ret,a)):ret=v/\a=H:=by simp only[J2,Dd,j0,s8] at h;grind
theorem C8{c:Bool}{t:Tr}{ret:PV}{a:List Blk}(h:J2 (.need c t)=some (ret,a)):c=true/\J2 t=some (ret,a):=by
 cases c with
 | true=>exact⟨rfl,h⟩
 | false=>cases h
theorem Bs6{c:Bool}{a b:Tr}{ret:PV}{d:List Blk}(h:J2 (.split c a b)=some (ret,d)):(c=true/\J2 a=some (ret,d))\/(c=false/\J2 b=some (ret,d)):=by
 cases c with
 | true=>exact .inl ⟨rfl,h⟩
 | false=>exact .inr ⟨rfl,h⟩
theorem Ce7:∃n:Nat,100000000000000000000<=n:=⟨_,o6 _⟩
noncomputable def LF:Nat:=ad1 Ce7
theorem G3:100000000000000000000<=LF:=ae3 Ce7
attribute [irreducible] LF
theorem A29(b:UInt8):Zd (H7 b)=b:=by simp[Zd,H7,SV.gI]
theorem Mo(l:List UInt8):(l.map H7).map Zd=l:=by
 rw[ah7];have:Zd ∘ H7=id:=by funext b;exact A29 b
 rw[this,List.map_id]
theorem A53(b:UInt8):DY (H7 b)=true:=by have:=b.toNat_lt;simp only[DY,H7,k9,decide_eq_true_eq];omega
theorem Lk(l:List UInt8):(l.map H7).all DY=true:=by rw[ah6];simp[Function.comp_def,A53]
theorem Cn2(n:Nat):o9 .u8 (n:Int)=((n % 256:Nat):Int):=by simp[o9,ac6,aa9]
theorem Az3(n:Nat):o9 .u16 (n:Int)=((n % 65536:Nat):Int):=by simp[o9,ac6,aa9]
theorem Cc3(n:Nat):o9 .u32 (n:Int)=((n % 4294967296:Nat):Int):=by simp[o9,ac6,aa9]
theorem Cc4(n:Nat):o9 .u64 (n:Int)=((n % 18446744073709551616:Nat):Int):=by simp[o9,ac6,aa9]
theorem Cc2(n:Int)(a:-9223372036854775808<=n)(b:n<9223372036854775808):o9 .i64 n=n:=by simp[o9,ac6,aa9];split<;>omega
theorem Bl2(n m:Nat):Int.fdiv (n:Int) (m:Int)=((n / m:Nat):Int):=by rw[Int.fdiv_eq_ediv_of_nonneg _ (by omega)];rfl
theorem Ar(n m:Nat):ad3 (n:Int) (m:Int)=((n / m:Nat):Int):=by rw[Int.tdiv_eq_ediv_of_nonneg (by omega)];rfl
theorem GB(n m:Nat):Int.tmod (n:Int) (m:Int)=((n % m:Nat):Int):=by rw[Int.tmod_eq_emod_of_nonneg (by omega)];rfl
theorem Ci1(w a b:Nat)(c:a<2 ^ w)(d:b<2 ^ w):(y9 w (a:Int) ||| y9 w (b:Int)).toNat=a ||| b:=by simp[ae4,v8 c,v8 d]
theorem Cg0(w a b:Nat)(c:a<2 ^ w)(d:b<2 ^ w):(y9 w (a:Int) &&& y9 w (b:Int)).toNat=a &&& b:=by simp[ae4,v8 c,v8 d]
theorem Ck6(a b i:Nat)(h:a<2 ^ i):a ||| (b*2 ^ i)=a+b*2 ^ i:=by rw[Nat.mul_comm b,Nat.or_comm,ah8];exact(Nat.two_pow_add_eq_or_of_lt h b).symm
end
section
open Go Go.ChangeShapes Go.RowKit Go.Sort Go.WideShapes
theorem X4{P:Program}{f:Nat}{fn:Func}{d:Array Value}{w:World}{R:Value->World->Prop}(m:P.funcs[f]? = some fn)(j:fn.body.isSome=true)(p:(fn.name == "runtime.NumGoroutine")=false)
  (h:Calls P f d w λe w'=>∃V,e = .returned V/\R V w'):M4 P ((callFunc f d).run P w) R:=by
 obtain⟨c,j⟩:=aa4.1 j;intro q n o a next Q b
 have g:(callFunc f d).run P w = .ok (.enter f d) w:=by
  have k:¬ fn.name = "runtime.NumGoroutine":=by simpa using p
  simp[callFunc,m,j,k,af0]
 rw[g];simp only[ac9];refine⟨λh=>(by simp[D6,ab7] at h),?_⟩;have key:CallsIn ab7 (n-1) P f d w λe w'=>∃V,e = .returned V/\R V w':=callsIn_wide.2 h
 have i:CallsIn (D6 q) (n-1) P f d w λe w'=>∃V,e = .returned V/\R V w':=key
 refine i.mono ?_;rintro e w' ⟨V,rfl,l⟩;exact b V w' l
theorem Bj6{C:Cfg}{d:Ctx}{w w':World}{ret:PV}{V:Value}(a:∀b,d.nm b=none)(f:HR d [] w)(c:Below w.heap.size w w')(j:VP d (A1 []) w' ret V)(i:ret.nms=[]):Y0 C I0 d [] w noΦ ret [] () V w':=by
 refine⟨d,noΦ,⟨c.os,c.tape,c.output,c.size,λ_ h=>h,λ_ h=>.inl h,λb g h=>(by rw[a] at h;cases h),λ_ h=>h.elim,λg e _ _=>c.block g e,rfl,o6 _,λb h=>(by simp at h)⟩,
  ⟨λb k g h=>(by rw[a] at h;cases h),λb g h=>(by rw[a] at h;cases h),λg e=>j9 (f.stlt g e) c.size,λb h=>(by simp at h),λb h=>(by simp at h)⟩,j,by rw[i];simp,λ_ h=>h,λb g h=>(by rw[a] at h;cases h)⟩
theorem Lp(w:World)(n:Nat):Below w.heap.size w (w.drewN n):=⟨rfl,rfl,rfl,o6 _,λ_ _=>rfl⟩
theorem CE(w:World)(os:Array Obj):Below w.heap.size w (grow w os):=by refine⟨rfl,rfl,rfl,by simp[grow],λk a=>?_⟩;simp only[grow];grind
theorem Ab8(w:World)(s:ByteArray)(pos:Nat):Below w.heap.size w (w.iter s pos):=(Below.refl _ w).alloc (o6 _) _
section
variable {Γ : Ctx} {sh : Nat -> Option Shp} {w : World}
theorem CR.arr1{a:PV}{A:Array Value}(h:CR Γ sh w [a] A):∃U,A = #[U]/\VP Γ sh w a U:=by obtain⟨U,e,k⟩:=h.2 0 (by simp);refine⟨U,?_,k⟩;have hs:A.size=1:=h.1;grind
theorem CR.arr2{a b:PV}{A:Array Value}(h:CR Γ sh w [a,b] A):∃U V,A = #[U,V]/\VP Γ sh w a U/\VP Γ sh w b V:=by obtain⟨U,e,k⟩:=h.2 0 (by simp);obtain⟨V,e',k'⟩:=h.2 1 (by simp);refine⟨U,V,?_,k,k'⟩;have hs:A.size=2:=h.1;grind
theorem CR.arr3{a b c:PV}{A:Array Value}(h:CR Γ sh w [a,b,c] A):∃U V W,A = #[U,V,W]/\VP Γ sh w a U/\VP Γ sh w b V/\VP Γ sh w c W:=by obtain⟨U,e,k⟩:=h.2 0 (by simp);obtain⟨V,e',k'⟩:=h.2 1 (by simp);obtain⟨W,e'',k''⟩:=h.2 2 (by simp);refine⟨U,V,W,?_,k,k',k''⟩;have hs:A.size=3:=h.1;grind
theorem VP.mk_str(l:List UInt8):VP Γ sh w (.s (.str l)) (.string ⟨l.toArray⟩):=by have:=VP.s (Γ:=Γ) (sh:=sh) (w:=w) _ _ (VS.str (St:=Γ.St) (w:=w) ⟨l.toArray⟩);omega
theorem VP.mk_int(k:IntKind)(n:Int):VP Γ sh w (.s (.int k n)) (.int k n):=.s _ _ (.int k n)
theorem VP.mk_bool(b:Bool):VP Γ sh w (.s (.bool b)) (.bool b):=.s _ _ (.bool b)
theorem VP.mk_tup3{a b c:PV}{U V W:Value}(h:VP Γ sh w a U)(k:VP Γ sh w b V)(l:VP Γ sh w c W):VP Γ sh w (.tup [a,b,c]) (.tuple #[U,V,W]):=
 VP.mk_tup rfl λj hj=>by grind
end
theorem H8{P:Program}{G:GT}{g:Nat}{fn:Func}{k:List PV->Tr}(q:P.funcs[g]? = some fn)(d:fn.body.isSome=true)(t:(fn.name == "runtime.NumGoroutine")=false)
  (h:∀args ret b,J2 (k args)=some (ret,b)->b=[]/\ret.nms=[]/\∀C:Cfg,C.P=P->C.G=G->∀a w c,GOK C a.St w->(∀g,a.St g->g<w.heap.size)->CR a (A1 []) w args c->
   Calls P g c w λe w'=>∃V,e = .returned V/\Below w.heap.size w w'/\VP a (A1 []) w' ret V):A9 P G g k:=by
 intro args ret b i C n m a w c f j r o;obtain⟨rfl,u,l⟩:=h args ret b i;exact X4 q d t ((l C n m a w c r j.stlt o).mono λe w' ⟨V,p,d,v⟩=>⟨V,p,Bj6 f j d v u⟩)
def PV.stab(szs:List Nat)(H:List Blk):PV->PV
 | .tup l=>.tup (Pu szs (O2 H l))
 | v=>Rt (szs.headD 0) (v.snap H)
theorem VP.stab{Γ:Ctx}{H:List Blk}{w:World}(szs:List Nat)(hH:HR Γ H w){v:PV}{V:Value}(h:VP Γ (A1 H) w v V):VP Γ.all (A1 H) w (v.stab szs H) V:=by
 by_cases ht:∃l,v = .tup l
 ·obtain⟨l,rfl⟩:=ht;obtain⟨A,rfl,hA,hc⟩:=h.inv_tup;simp only[PV.stab];have hl:(Pu szs (O2 H l)).length=l.length:=by rw[Ru,Ap,z7]
  refine VP.mk_tup (by rw[hl];exact hA) λj hj=>?_
  obtain⟨U,e,k⟩:=hc j (by omega);refine⟨U,e,?_⟩;have hj':j<(O2 H l).length:=by rw[Ap,z7];omega
  obtain⟨n,en⟩:=DI szs (O2 H l) j hj' hj;rw[en];have e2:(O2 H l)[j]=(l[j]'(by omega)).snap H:=by
   simp only[Ap,o8]
  rw[e2];exact Zr (k.snap hH)
 ·have e:v.stab szs H=Rt (szs.headD 0) (v.snap H):=by
   cases v with
   | tup l=>exact absurd ⟨l,rfl⟩ ht
   | _=>rfl
  rw[e];exact Zr (h.snap hH)
theorem As2(f:List Blk->PV->PV)(Q:∀{Γ:Ctx} {H:List Blk} {w:World},HR Γ H w->∀{v:PV} {V:Value},VP Γ (A1 H) w v V->VP Γ.all (A1 H) w (f H v) V){C₀:Cfg}{g:Nat}{pf:List PV->Tr}(N:XOK C₀)(L:Hx C₀)(R:C₀.P.follows .mixedOrders=true)
  (h:∀args ret p,J2 (pf args)=some (ret,p)->C6 args=[]/\p=[]/\ret.nms=[]/\∃d c l,evC C₀ d Unit noY g args [] ()=some (c,l,())/\f l c=ret):A9 C₀.P C₀.G g pf:=by
 intro args ret p B C M t Γ w G A K J O;obtain⟨z,rfl,n,d,c,l,u,rfl⟩:=h args ret p B;have I:=Hf (C₀:=C₀) (g:=g) (pf:=λa=>match evC C₀ d Unit noY g a [] () with|some (r,H,_)=>cond (C6 a).isEmpty (.ret r H) .fail|none=>.fail) N L R (λa r H k=>by
  split at k
  ·rename_i U H' _ T;cases F:(C6 a).isEmpty with
   | true=>
    rw[F] at k;simp only[cond_true,J2,Dd,j0,s8] at k;grind
   | false=>rw[F] at k;cases k
  ·cases k)
 refine(I args c l (by dsimp only;rw[u];dsimp only;rw[z];rfl) C M t Γ w G A K J O).mono ?_;rintro V w' ⟨o,D,e,j,S,hvn,x,P⟩;let Γ2:Ctx:={ o.all with nm:=λ_=>none }
 have y:∀g,Γ2.St g->g<w'.heap.size:=λg i=>by
  rcases i with i|⟨b,m⟩
  ·exact j.stlt g i
  ·exact(j.lt b g m).2.1
 refine⟨Γ2,D,⟨e.os,e.tape,e.output,e.size,λg i=>.inl (e.sub g i),λg i=>?_,λb g h=>by simp[Γ2] at h,e.foot,e.frame,e.yv,o6 _,λb m=>by simp at m⟩,
  Jq (λ_=>rfl) y,?_,by rw[n];simp,x,λb g h=>by simp[Γ2] at h⟩
 ·rcases i with i|⟨b,m⟩
  ·exact e.stnew g i
  ·rcases e.own b g m with⟨q,_⟩|q
   ·simp at q
   ·exact .inr q
 ·exact VP.mono (Γ:=o.all) (Γ':=Γ2) (w:=w') (w':=w') (sh:=A1 l) (ok:=λ_=>False) ⟨λ_ _=>rfl,λ_ h=>h,λ_ h=>h.elim,λ_ h=>h.elim,λ_ _ h=>h.elim,rfl⟩ (Q j S) (by rw[n];simp)
theorem G9(b:List Nat){C₀:Cfg}{g:Nat}{f:List PV->Tr}(k:XOK C₀)(j:Hx C₀)(l:C₀.P.follows .mixedOrders=true)
  (h:∀args ret e,J2 (f args)=some (ret,e)->C6 args=[]/\e=[]/\ret.nms=[]/\∃d a c,evC C₀ d Unit noY g args [] ()=some (a,c,())/\a.stab b c=ret):A9 C₀.P C₀.G g f:=
 As2 (λH v=>v.stab b H) (λi _ _ h=>h.stab b i) k j l h
def Tr.Good(szs:List Nat)(args:List PV)(e:Option (PV × List Blk × Unit)):Tr->Prop
 | .ret v H=>C6 args=[]/\H=[]/\v.nms=[]/\∃r H0,e=some (r,H0,())/\r.stab szs H0=v
 | .need c t=>c=true->Good szs args e t
 | .split c a b=>(c=true->Good szs args e a)/\(c=false->Good szs args e b)
 | .fail=>True
theorem Tr.Good.res{szs:List Nat}{args:List PV}{e:Option (PV × List Blk × Unit)}{ret:PV}{Hc:List Blk}:∀{t:Tr},t.Good szs args e->J2 t=some (ret,Hc)->C6 args=[]/\Hc=[]/\ret.nms=[]/\∃r H0,e=some (r,H0,())/\r.stab szs H0=ret
 | .ret v H,h,hr=>by
  obtain⟨rfl,rfl⟩:=G6 hr;exact h
 | .need c t,h,hr=>by
  obtain⟨h0,hr⟩:=C8 hr;exact res (h h0) hr
 | .split c a b,h,hr=>by
  rcases Bs6 hr with⟨h0,hr⟩|⟨h0,hr⟩
  ·exact res (h.1 h0) hr
  ·exact res (h.2 h0) hr
theorem xf(b:List Nat)(a:Cfg){g:Nat}(d:List PV->Tr){e:List (List Nat)}{l:List (Nat × (List PV->Tr))}{c:List Nat}(n:a.X=RX l)(t:J6 a.P a.G l)(p:a.okf=okL c)(m:Al0 a c=true)(o:a.P.follows .mixedOrders=true)
  (h:∀args,(d args).Good b args (evC a 1 Unit noY g args [] ())) (i:a.Y=Jd []:=by rfl) (j:a.S=Jd []:=by rfl) (k:a.Z=Jd []:=by rfl):A9 a.P a.G g (λargs=>d (E0 e args)):=
 A9.fix e (G9 b (J6.ok n t i j k) (F8 p m) o λargs ret z q=>by
  obtain⟨u,v,w,r,f,x,y⟩:=(h args).res q;exact⟨u,v,w,1,r,f,x,y⟩)
end
section
open Go
def Ah5(n:Nat)(ret:PV)(H:List Blk):Bool:=ret.nms.all (ah9 · n)&&H.all λb=>b.nms.all (ah9 · n)
theorem Y0.head{C:Cfg}{σ:Type}{I:σ->(Nat->Prop)->(Nat->Prop)->World->Prop}{Γ:Ctx}{H Hc T:List Blk}{w w':World}{Φ:Nat->Prop}{s':σ}{ret:PV}{V:Value}
  (h:Y0 C I Γ H w Φ ret (Hc++T) s' V w') (hl:H.length<=Hc.length) (hok:Ah5 Hc.length ret Hc=true):Y0 C I Γ H w Φ ret Hc s' V w':=by
 obtain⟨Γ1,Φ1,hs,hH1,hv,hvn,hi1,hd1⟩:=h;simp only[Ah5,k9,x7,Nat.blt_eq] at hok;let Γ2:Ctx:={ Γ1 with nm:=λb=>if b<Hc.length then Γ1.nm b else none }
 have hnm:∀b g,Γ2.nm b=some g->b<Hc.length/\Γ1.nm b=some g:=λb g h=>by grind
 have get:∀b (h:b<Hc.length) (h':b<(Hc++T).length),(Hc++T)[b]=Hc[b]:=λb h h'=>ad0 h
 have shp:∀b,b<Hc.length->A1 Hc b=A1 (Hc++T) b:=λb hb=>by
  simp only[A1];grind
 have M:V8 Γ1 (A1 (Hc++T)) w' Γ2 (A1 Hc) w' (· < Hc.length):=⟨λ_ _=>rfl,λ_ h=>h,λb hb=>by simp only[Γ2];rw[if_pos hb],λb hb=>shp b hb,λ_ _ _ _=>rfl,rfl⟩
 refine⟨Γ2,Φ1,⟨hs.os,hs.tape,hs.output,hs.size,hs.sub,hs.stnew,λb g h=>hs.own b g (hnm b g h).2,hs.foot,hs.frame,hs.yv,hl,λb hb hf=>?_⟩,
  ⟨λb b' g h1 h2=>hH1.inj b b' g (hnm b g h1).2 (hnm b' g h2).2,λb g h=>by have:=hH1.lt b g (hnm b g h).2;exact⟨(hnm b g h).1,this.2⟩,hH1.stlt,λb hb c hc=>hok.2 _ (o0 hb) c hc,λb hb=>?_⟩,
  hv.mono M (λb hb=>hok.1 b hb),λc hc=>hok.1 c hc,hi1,λb g h=>hd1 b g (hnm b g h).2⟩
 ·obtain⟨m1,m2,m3⟩:=hs.keep b hb hf;have hb2:b<Hc.length:=j9 hb hl;exact⟨by simp only[Γ2];rw[if_pos hb2];exact m1,by rw[shp b hb2];exact m2,m3⟩
 ·have hb':b<(Hc++T).length:=by rw[af4];omega
  have:=hH1.blk b hb';rw[get b hb hb'] at this;exact this.mono M (M.nm b hb) (λ_ _=>rfl) (λc hc=>hok.2 _ (o0 hb) c hc)
theorem Dz{C₀:Cfg}{g:Nat}{n:List PV->List Blk->Tr}(x:XOK C₀)(u:Hx C₀)(F:C₀.P.follows .mixedOrders=true)
  (h:∀args H ret a,J2 (n args H)=some (ret,a)->x4 H.length a.length=true/\Ah5 a.length ret a=true/\∀(b:Type) (f:Yh b) (s:b),∃d c,evC C₀ d b f g args H s=some (ret,c,s)/\c.take a.length=a):Qv C₀.P C₀.G g n:=by
 intro C v q b I f S t M args H s ret a j T U w o k r A B z y G;obtain⟨D,i,p⟩:=h args H ret a j;obtain⟨d,c,e,L⟩:=p b f s;rw[<-List.take_append_drop a.length c,L] at e;refine(Ik x u F d b I f S t M g args H s ret (a++c.drop a.length) s e T U w o k r (A.congr q.symm) B z y G).mono ?_;rintro V w' J;obtain⟨l,m,K,N,O,P,Q,R⟩:=J.head (ab5 D) i;exact⟨l,m,K.congr v.symm,N,O,P,Q,R⟩
def BX(P:Program):List (Nat × (SV->List (List SV)->Bool × List (List SV)))->Prop
 | []=>True
 | (g,a)::r=>TN P g a/\BX P r
theorem BX.mem{P:Program}:∀{l:List (Nat × (SV->List (List SV)->Bool × List (List SV)))} {g:Nat} {pf:SV->List (List SV)->Bool × List (List SV)},BX P l->(g,pf)∈l->TN P g pf
 | [],_,_,_,hm=>by simp at hm
 | (n,q)::r,g,pf,h,hm=>by
  rcases x6.1 hm with e|hm
  ·cases e;exact h.1
  ·exact BX.mem h.2 hm
theorem Ct2{C:Cfg}{lx:List (Nat × (List PV->Tr))}{ly:List (Nat × (List PV->List Blk->Tr))}{ls:List (Nat × (List PV->List Blk->Option (Bool × List (List PV))))}{lz:List (Nat × (SV->List (List SV)->Bool × List (List SV)))}(a:C.X=RX lx)(b:C.Y=Jd ly)(c:C.S=Jd ls)(d:C.Z=Jd lz)(x:J6 C.P C.G lx)(y:Hi C.P C.G ly)(s:Hh C.P C.G ls)(z:BX C.P lz):XOK C:=
 ⟨J6.x1 a x,Hi.ok b y,Hh.ok c s,λg e h=>by rw[d] at h;exact z.mem (To h)⟩
def Ew:List Int:=(ah1 32).map λi=>((if i % 2=0 then Lib.accLo (i / 2) else Lib.accHi (i / 2):Nat):Int)
def GX:GT:=⟨λg=>cond (y7 g 1) (some (.u8,af6)) (cond (y7 g 2) (some (.u8,Ew)) (cond (y7 g 3) (some (.u64,af7)) (cond (y7 g 5) (some (.u8,ac8.map λn:Nat=>(n:Int))) none))),λg=>y7 g 0⟩
def Cs0:List (Nat × Nat × Nat × Nat)->Nat->Nat->Nat × Nat
 | [],_,_=>(0,0)
 | (t,j,e,k)::r,b,a=>cond (y7 t b&&y7 j a) (e,k) (Cs0 r b a)
def Cg4:List (Nat × Nat)->Nat->Option Nat
 | [],_=>none
 | (a,b)::r,i=>cond (y7 a i) (some b) (Cg4 r i)
noncomputable def D1(f:Nat)(e:List Nat)(d:Nat->Option (List Nat))(X:List (Nat × (List PV->Tr)))(b:Nat->Option (List Nat):=λ_=>none)(g:List Nat:=[])(a:Nat->Option (List Nat):=λ_=>none)(c:Option (List Nat):=none)(Y:List (Nat × (List PV->List Blk->Tr)):=[])(S:List (Nat × (List PV->List Blk->Option (Bool × List (List PV)))):=[])(lend:List Nat:=[])(nt:List (Nat × Nat × Nat × Nat):=[])(rw:List (Nat × Nat):=[])(Z:List (Nat × (SV->List (List SV)->Bool × List (List SV))):=[])(fr:List (Nat × List Nat × List Nat):=[])(sb:List Nat:=[])(rs:List (Nat × List Nat):=[]):Cfg:=
 { P:=j6,G:=GX,X:=RX X,lend:=okL lend,okf:=okL e,lf:=f,keep:=d,keepR:=b,xp:=okL g,keepE:=a,keepT:=c,Y:=Jd Y,S:=Jd S,nilT:=Cs0 nt,rowR:=Cg4 rw,Z:=Jd Z,farR:=A3 fr,stab:=okL sb,rowsR:=A3 rs }
theorem follows:j6.follows .mixedOrders=true:=by kernel_rfl
theorem Ba9{n:Nat}:I4 n=true↔n<=68719476736:=by simp[I4]
theorem I7{n:Nat}(h:n<=68719476736):I4 n=true:=Ba9.2 h
theorem F1{a b:Int}(h:a<b):ltI a b=true:=by rw[V2];simpa using h
theorem I2{a b:Int}(h:b<=a):ltI a b=false:=by rw[V2];simpa using h
theorem Sk{a b:Int}:ltI a b=true↔a<b:=by rw[V2];simp
theorem Sl{a b:Int}:ltI a b=false↔b<=a:=by rw[V2];simp
theorem O5{n:Int}(a:-9223372036854775808<=n)(b:n<9223372036854775808):A4 n=n:=Cc2 n a b
theorem SN{n:Int}(a:0<=n)(b:n<18446744073709551616):Cn3 n=n:=by obtain⟨m,rfl⟩:=y8 a;unfold Cn3;rw[Cc4,v8 (by omega)]
theorem Az5{n:Int}(a:0<=n)(b:n<4294967296):Bv3 n=n:=by obtain⟨m,rfl⟩:=y8 a;unfold Bv3;rw[Cc3,v8 (by omega)]
theorem Az4{n:Int}(a:0<=n)(b:n<65536):Ua n=n:=by obtain⟨m,rfl⟩:=y8 a;unfold Ua;rw[Az3,v8 (by omega)]
theorem SO{n:Int}(a:0<=n)(b:n<256):wu8 n=n:=by obtain⟨m,rfl⟩:=y8 a;unfold wu8;rw[Cn2,v8 (by omega)]
theorem C7{a b:Int}(h:a<b:=by omega):ltI a b=true:=F1 h
theorem A8{a b:Int}(h:b<=a:=by omega):ltI a b=false:=I2 h
theorem C0{n:Int}(h:-9223372036854775808<=n:=by omega)(g:n<9223372036854775808:=by omega):A4 n=n:=O5 h g
theorem GL{n:Int}(h:0<=n:=by omega)(g:n<4294967296:=by omega):Bv3 n=n:=Az5 h g
theorem Xe{n:Int}(h:0<=n:=by omega)(g:n<65536:=by omega):Ua n=n:=Az4 h g
theorem Z9{n:Int}(h:0<=n:=by omega)(g:n<256:=by omega):wu8 n=n:=SO h g
theorem Fo{d:Sort _}{c:Prop}[Decidable c]{a b:d}(h:c:=by omega):(if c then a else b)=a:=if_pos h
theorem T1{d:Sort _}{c:Prop}[Decidable c]{a b:d}(h:¬c:=by omega):(if c then a else b)=b:=if_neg h
theorem Bv2(n:Nat):Ua (n:Int)=((n % 65536:Nat):Int):=Az3 n
theorem Ay3(k:IntKind)(a m:Nat)(h:m<=k.bits):HG k (a:Int) (m:Int)=((a / 2 ^ m:Nat):Int):=by
 unfold HG;rw[Int.toNat_natCast,Nat.min_eq_left h];have:(2:Int) ^ m=((2 ^ m:Nat):Int):=by simp
 rw[this,Bl2]
theorem Fz{l h:Int}{n:Nat}(a:0<=l)(b:l<=h)(c:h<=n):O6 l h n=true:=by simp[O6,a,b,c]
theorem O8{i:Int}{n:Nat}(a:0<=i)(b:i<n):inR i n=true:=by simp[inR,a,b]
theorem T0{l h:Int}{n:Nat}(a:0<=l:=by omega)(b:l<=h:=by omega)(c:h<=n:=by omega):O6 l h n=true:=Fz a b c
theorem K8{i:Int}{n:Nat}(a:0<=i:=by omega)(b:i<n:=by omega):inR i n=true:=O8 a b
end
section
open Go Go.Proofs
def AA(r:Option (PV × List Blk × Unit)):Bool:=match r with
 | some (.s (.bool true),_,_)=>true
 | _=>false
theorem RC{r:Option (PV × List Blk × Unit)}(h:AA r=true):∃H,r=some (.s (.bool true),H,()):=by
 unfold AA at h;split at h
 ·exact⟨_,rfl⟩
 ·cases h
theorem As3{C₀:Cfg}{g d:Nat}(f:XOK C₀)(c:Hx C₀)(i:C₀.P.follows .mixedOrders=true)(h:AA (evC C₀ d Unit noY g [] [] ())=true):A9 C₀.P C₀.G g (λargs=>match args with|[]=>.ret (.s (.bool true)) []|_=>.fail):=
 ST f c i λargs ret j b=>by
  cases args with
  | nil=>
   obtain⟨rfl,rfl⟩:=G6 b;obtain⟨H,e⟩:=RC h;exact⟨rfl,rfl,rfl,d,_,H,e,rfl⟩
  | cons a r=>cases b
theorem Bz6{P:Program}{t:Nat}{v:PV}{f:Ty}(h:AJ P t v)(e:Hd P 20 t=some [f])(i:Qw P t=false):∃x,v = .s x/\f.of x:=by
 obtain⟨j,l,b,c,a⟩:=h;rw[e] at b;simp only[j0] at b;subst b;rcases a with⟨a,_⟩|⟨_,x,rfl,rfl⟩
 ·rw[i] at a;cases a
 ·simp only[Ty.ofL] at c;obtain⟨v,q,d,g,rfl⟩:=c;simp only[List.cons.injEq,and_true] at d;subst d;exact⟨_,rfl,g⟩
end
section
open Go
def A6(l:List By):LL:=l.map λs=>[SV.str s]
def G4(l:List Nat):LL:=l.map λn=>[SV.int .u16 (Int.ofNat n)]
def M7(c:UInt8):By->By->List By
 | a,[]=>[a]
 | a,b::r=>if b=c then a::M7 c [] r else M7 c (a++[b]) r
def pcs(c:UInt8)(s:By):List By:=M7 c [] s
theorem Hb(c:UInt8):∀(s a:By),(M7 c a s).length=s.count c+1
 | [],a=>rfl
 | b::r,a=>by
  simp only[M7,List.count_cons];by_cases h:b=c
  ·simp[h,Hb c r]
  ·simp[h,Hb c r]
theorem Tm(c:UInt8):∀(s a:By),c∉s->M7 c a s=[a++s]
 | [],a,_=>by simp[M7]
 | b::r,a,h=>by
  simp only[x6,not_or] at h;simp only[M7];rw[if_neg (λe=>h.1 e.symm),Tm c r _ h.2];simp
theorem Ys(c:UInt8):∀(p a s:By),c∉p->M7 c a (p++c::s)=(a++p)::M7 c [] s
 | [],a,s,_=>by simp[M7]
 | b::r,a,s,h=>by
  simp only[x6,not_or] at h;simp only[ad4,M7];rw[if_neg (λe=>h.1 e.symm),Ys c r _ s h.2];simp
theorem Ao8(c:UInt8)(s a:By):M7 c a s≠[]:=by intro h;have:=Hb c s a;rw[h] at this;simp at this
theorem Mw(c:UInt8):∀(s a:By),c∉a->∀x∈M7 c a s,c∉x/\x.length<=a.length+s.length
 | [],a,h,x,d=>by
  simp only[M7,List.mem_singleton] at d;subst d;exact⟨h,by simp⟩
 | b::r,a,h,x,d=>by
  simp only[M7] at d;split at d
  ·rcases x6.1 d with rfl|d
   ·exact⟨h,by simp⟩
   ·have:=Mw c r [] (by simp) x d;refine⟨this.1,?_⟩;have:=this.2;simp at this ⊢;omega
  ·rename_i e;have:=Mw c r (a++[b]) (by simp[h,Ne.symm e]) x d;refine⟨this.1,?_⟩;have:=this.2;simp at this ⊢;omega
def Aw(b:UInt8):UInt8:=if 65<=b/\b<=90 then b+32 else b
def D0(s:By):By:=s.map Aw
def dig(b:UInt8):Nat:=
 if 48<=b.toNat/\b.toNat<=57 then b.toNat-48 else if 97<=b.toNat/\b.toNat<=102 then b.toNat-87 else if 65<=b.toNat/\b.toNat<=70 then b.toNat-55 else 99
def Iw:Nat:=1099511627776
def J1(base:Nat):Nat->By->Option Nat
 | n,[]=>some n
 | n,b::r=>if dig b<base then J1 base (min (n*base+dig b) Iw) r else none
def Gt(s:By):Bool:=s.getD 0 0==48&&(s.getD 1 0==120||s.getD 1 0==88)
def Og(s:By):Option Nat:=
 if s=[] then none else if Gt s then J1 16 0 (s.drop 2) else if 1<s.length/\s.getD 0 0=48 then J1 8 0 (s.drop 1) else J1 10 0 s
def F6(s:By):List By:=if 1<(pcs 46 s).length/\(pcs 46 s).getLastD []=[] then (pcs 46 s).dropLast else pcs 46 s
def Kv(s:By):By:=(F6 s).getLastD []
def N9(s:By):Bool:=if Gt (Kv s) then (J1 16 0 ((Kv s).drop 2)).isSome else !(Kv s).isEmpty&&(J1 10 0 (Kv s)).isSome
def FD(free:Nat):Nat->List By->Option Nat
 | _,[]=>none
 | v,p::r=>match Og p with
  | none=>none
  | some n=>match r with
   | []=>if n<2 ^ free then some (v*2 ^ free+n) else none
   | r=>if n<=255 then FD free (v*256+n) r else none
def pnB(s:By):Option Nat:=if 4<(F6 s).length then none else FD (8*(5-(F6 s).length)) 0 (F6 s)
def oct(s:By):Option Nat:=match J1 10 0 s with
 | some n=>if n<=255/\aa0 n=s then some n else none
 | none=>none
def XF:Nat->List By->Option Nat
 | v,[]=>some v
 | v,p::r=>match oct p with
  | some n=>XF (v*256+n) r
  | none=>none
def v4B(s:By):Option Nat:=if (pcs 46 s).length=4 then XF 0 (pcs 46 s) else none
def Na(v:Nat):By:=aa0 (v / 16777216)++46::(aa0 (v / 65536 % 256)++46::(aa0 (v / 256 % 256)++46::aa0 (v % 256)))
def Rx:Nat->By->Option Nat
 | n,[]=>some n
 | n,b::r=>if dig b<16 then Rx (n*16+dig b) r else none
def grp(s:By):Option Nat:=if s=[]\/4<s.length then none else Rx 0 s
def Mg(last:Bool):List By->Option (List Nat)
 | []=>some []
 | x::r=>match grp x with
  | some v=>(Mg last r).map (v::·)
  | none=>match v4B x with
   | some v=>if last=true/\r=[] then some [v / 65536,v % 65536] else none
   | none=>none
def Ck(s:By)(last:Bool):Option (List Nat):=if s=[] then some [] else Mg last (pcs 58 s)
def v6B(s:By):Option (List Nat):=
 match Ck (y5 s [58,58]).1 (!(y5 s [58,58]).2.2),Ck (y5 s [58,58]).2.1 true with
 | some x,some y=>if (y5 s [58,58]).2.2 then (if x.length+y.length<=7 then some (x++j7 (8-x.length-y.length) 0++y) else none)
   else if x.length+y.length=8 then some (x++y) else none
 | _,_=>none
def Wr(l:List Nat):Nat:=(l.takeWhile (· == 0)).length
def zGo:List Nat->Nat->Nat->Nat->Nat × Nat
 | [],_,z,m=>(z,m)
 | x::r,i,z,m=>if m<Wr (x::r) then zGo r (i+1) i (Wr (x::r)) else zGo r (i+1) z m
def Zf(n:Nat):UInt8:=if n<10 then aa1 (48+n) else aa1 (87+n)
def Af(v:Nat):By:=if h:v<16 then [Zf v] else Af (v / 16)++[Zf (v % 16)]
 termination_by v
 decreasing_by omega
def Cm(l:List Nat):By:=ae7 (l.map Af) [58]
def Yx(a:List Nat):By:=if (zGo a 0 0 0).2<2 then Cm a else Cm (a.take (zGo a 0 0 0).1)++58::58::Cm (a.drop ((zGo a 0 0 0).1+(zGo a 0 0 0).2))
def Ld(n:Nat):Bool:=x4 n 1114111&&(ah9 n 55296||ah9 57343 n)
def BY(d k:Nat):Nat:=if h:455<d then BY (d / 35) (k+36) else k+36*d / (d+38)
 termination_by d
 decreasing_by omega
def Ex(delta count:Nat)(first:Bool):Nat:=
 let d:=if first then delta / 700 else delta / 2
 BY (d+d / count) 0
def thr(k a:Nat):Nat:=max 1 (min 26 (36*(k+1)-a))
theorem Bt(k a:Nat):1<=thr k a/\thr k a<=26:=by unfold thr;omega
def Mc(d:Nat):UInt8:=if d<26 then aa1 (97+d) else aa1 (22+d)
def La(b:UInt8):Option Nat:=
 if 97<=b.toNat/\b.toNat<=122 then some (b.toNat-97) else if 65<=b.toNat/\b.toNat<=90 then some (b.toNat-65) else if 48<=b.toNat/\b.toNat<=57 then some (b.toNat-22) else none
def T7(q k a:Nat):By:=
 if h:q<thr k a then [Mc q] else Mc (thr k a+(q-thr k a) % (36-thr k a))::T7 ((q-thr k a) / (36-thr k a)) (k+1) a
 termination_by q
 decreasing_by
  have:=Bt k a;exact Nat.lt_of_le_of_lt (Nat.div_le_self _ _) (by omega)
structure ZP where
 delta:Nat
 bias:Nat
 done:Nat
 out:By
def O7(n a:Nat):List Nat->ZP->ZP
 | [],s=>s
 | p::r,s=>if p<n then O7 n a r { s with delta:=s.delta+1 }
  else if p=n then O7 n a r { delta:=0,bias:=Ex s.delta (s.done+1) (s.done==a),done:=s.done+1,out:=s.out++T7 s.delta 0 s.bias }
  else O7 n a r s
def L2(n:Nat):List Nat->Nat->Nat
 | [],m=>m
 | p::r,m=>L2 n r (if n<=p then min m p else m)
def Y1(b:List Nat)(a:Nat):Nat->Nat->ZP->ZP
 | 0,_,s=>s
 | f+1,n,s=>if s.done<b.length then
   let m:=L2 n b 1114112;let c:=O7 m a b { s with delta:=s.delta+(m-n)*(s.done+1) }
   Y1 b a f (m+1) { c with delta:=c.delta+1 }
  else s
def N2(a:List Nat):By:=(a.filter (· < 128)).map aa1
def Jy(a:List Nat):By × Nat:=
 if 256<a.length then ([],3) else if !(a.all Ld) then ([],2)
 else ((Y1 a (N2 a).length 256 128 { delta:=0,bias:=72,done:=(N2 a).length,out:=if (N2 a).isEmpty then [] else N2 a++[45] }).out,0)
def E1(a:Nat):By->Nat->Nat->Nat->Nat × By × Nat
 | [],i,w,k=>(0,[],4)
 | b::r,i,w,k=>match La b with
  | none=>(0,[],4)
  | some x=>if Iw<i+x*w then (0,[],19) else if x<thr k a then (i+x*w,r,0)
   else if Iw<w*(36-thr k a) then (0,[],19) else E1 a r (i+x*w) (w*(36-thr k a)) (k+1)
theorem Vr(a:Nat):∀(s:By) (i w k:Nat),(E1 a s i w k).2.2=0->(E1 a s i w k).2.1.length<s.length
 | [],i,w,k,h=>by simp[E1] at h
 | b::r,i,w,k,h=>by
  unfold E1 at h ⊢;cases d:La b with
  | none=>simp[d] at h
  | some x=>
   simp only[d] at h ⊢;split at h
   ·simp at h
   ·rename_i e;rw[if_neg e];split at h
    ·rename_i c;rw[if_pos c];simp
    ·rename_i c;rw[if_neg c];split at h
     ·simp at h
     ·rename_i f;rw[if_neg f];have:=Vr a r _ _ _ h;simp only[List.length_cons];omega
def Xv(l:List Nat)(i n:Nat):List Nat:=l.take i++n::l.drop i
def S6(s:By)(b:List Nat)(n i a:Nat)(first:Bool):List Nat × Nat:=
 if e:s=[] then (b,0) else
  let q:=E1 a s i 1 0
  if d:q.2.2=0 then
   let count:=b.length+1;let c:=n+q.1 / count
   if Ld c then (if 256<count then ([],3) else S6 q.2.1 (Xv b (q.1 % count) c) c (q.1 % count+1) (Ex (q.1-i) count first) false)
   else ([],2)
  else ([],q.2.2)
 termination_by s.length
 decreasing_by exact Vr a s i 1 0 d
def P8:By->Nat
 | []=>0
 | b::r=>if 45∈r then P8 r+1 else 0
def W0(s:By):List Nat × Nat:=
 if 1024<s.length then ([],3) else if s.any (λb=>x4 128 b.toNat) then ([],4)
 else if 256<P8 s then ([],3)
 else S6 (if P8 s=0 then s else s.drop (P8 s+1)) ((s.take (P8 s)).map (·.toNat)) 128 0 72 true
def Dc:Nat->By->Option (List Nat)
 | 0,_=>some []
 | f+1,l=>if l=[] then some [] else if (ae6 l).1=65533/\(ae6 l).2=1 then none else (Dc f (l.drop (ae6 l).2)).map ((ae6 l).1::·)
def Zi(s:By):Option (List Nat):=Dc s.length s
def Ob(s:By):Bool:=
 (W0 s).2==0&&!((W0 s).1.any λp=>x4 65 p&&x4 p 90)&&((W0 s).1.any λp=>x4 128 p)&&(Jy (W0 s).1).2==0&&(Jy (W0 s).1).1==s
def X8(b:UInt8):Bool:=(x4 97 b.toNat&&x4 b.toNat 122)||(x4 48 b.toNat&&x4 b.toNat 57)||b==45||b==95
def xnB:By:=[120,110,45,45]
def R3(s:By):Bool:=
 !s.isEmpty&&x4 s.length 63&&s.getD 0 0 !=45&&s.getD (s.length-1) 0 !=45&&s.all X8&&(!(xnB.isPrefixOf s)||Ob (s.drop 4))
def R4(s:By):By × Nat:=match Zi s with
 | none=>([],4)
 | some p=>if 256<p.length then ([],3)
  else if p.length<s.length then (match Zi (D0 s) with
   | none=>([],14)
   | some q=>if (Jy q).2=0 then (if R3 (xnB++(Jy q).1) then (xnB++(Jy q).1,0) else ([],14)) else ([],14))
  else if R3 (D0 s) then (D0 s,0) else ([],14)
def Ak:By->Option By
 | []=>some []
 | b::r=>if b=37 then (match r with
   | x::y::a=>if dig x<16/\dig y<16 then (Ak a).map (aa1 (16*dig x+dig y)::·) else none
   | _=>none)
  else (Ak r).map (b::·)
structure C1 where
 kind:Nat
 name:By
 v4:Nat
 v6:List Nat
 deriving DecidableEq
def z8:List Nat:=[0,0,0,0,0,0,0,0]
def M6:C1:=⟨0,[],0,z8⟩
def K5:List By->List By × Nat
 | []=>([],0)
 | x::r=>if (R4 x).2=0 then ((R4 x).1::(K5 r).1,(K5 r).2) else ([],(R4 x).2)
def M8(s:By):By:=if s.getLast? = some 46 then s.dropLast else s
def H4(s:By):C1 × Nat:=
 if 1024<s.length then (M6,3)
 else if s.head? = some 91 then (if s.getLast? = some 93/\2<=s.length then (match v6B ((s.take (s.length-1)).drop 1) with
   | some a=>(⟨3,[],0,a⟩,0)
   | none=>(M6,14)) else (M6,14))
 else match Ak s with
  | none=>(M6,14)
  | some t=>if N9 (M8 t) then (match pnB (M8 t) with
    | some v=>(⟨2,[],v,z8⟩,0)
    | none=>(M6,14))
   else if (K5 (pcs 46 (M8 t))).2=0 then (
    let name:=ae7 (K5 (pcs 46 (M8 t))).1 [46]
    if 253<name.length then (M6,3) else if N9 name then (M6,14) else (⟨1,name,0,z8⟩,0))
   else (M6,(K5 (pcs 46 (M8 t))).2)
def Cy(s:By):Bool:=x4 s.length 253&&!(N9 s)&&(pcs 46 s).all R3
def P2(h:C1):Bool:=
 if h.kind=1 then Cy h.name&&h.v4==0&&h.v6==z8 else if h.kind=2 then h.name.isEmpty&&h.v6==z8 else if h.kind=3 then h.name.isEmpty&&h.v4==0 else false
def Fm(h:C1):By:=if P2 h then (if h.kind=1 then h.name else if h.kind=2 then Na h.v4 else 91::(Yx h.v6++[93])) else []
def Rl(a b:By):Bool:=Cy a&&Cy b&&(a==b||(46::a).isSuffixOf b)
def A2(n:Nat):Bool:=decide (n<=1000000000)
theorem KC{n:Nat}:A2 n=true↔n<=1000000000:=by simp[A2]
def isS:List SV->Bool|[.str _]=>true|_=>false
def elS(a:List SV):By:=(a.getD 0 .nilp).gS
def Cn(o:Option Nat):Nat:=o.getD 0
def u8n(c:Int):UInt8:=aa1 c.toNat
def RY(s p:By):By:=if p.isSuffixOf s then s.take (s.length-p.length) else s
def Fh(s p:By):By:=if p.isPrefixOf s then s.drop p.length else s
def ltN(v:Int)(n:Nat):Bool:=match v with
 | .ofNat m=>x4 (m+1) n
 | .negSucc _=>false
theorem E8{v:Int}{n:Nat}:ltN v n=true↔0<=v/\v<(n:Int):=by
 cases v with
 | ofNat m=>
  simp only[ltN,Nat.ble_eq,Int.ofNat_eq_natCast];omega
 | negSucc m=>
  refine⟨λh=>(by cases h),λh=>?_⟩;have:=Int.negSucc_lt_zero m;omega
def Lc(n:Int):Bool:=ltN (n+9223372036854775808) 18446744073709551616
theorem DQ{n:Int}:Lc n=true↔-9223372036854775808<=n/\n<9223372036854775808:=by unfold Lc;rw[E8];constructor<;>rintro⟨a,b⟩<;>constructor<;>omega
def Ce8(b:Nat):List PV->Tr
 | [.s (.int .i64 n)]=>.need (ltN n b) (.ret (.s (.str (aa0 (j8 n)))) [])
 | _=>.fail
def gvs(s:By)(last:Bool):List Nat:=(Ck s last).getD []
def v6c(i:Nat)(s:By):Nat:=((v6B s).getD z8).getD i 0
def n8(a b c d e f g h:Int):List Nat:=[a.toNat,b.toNat,c.toNat,d.toNat,e.toNat,f.toNat,g.toNat,h.toNat]
def ok8(a b c d e f g h:Int):Bool:=[a,b,c,d,e,f,g,h].all λx=>ltN x 65536
def Si:List SV->Bool|[.int .u16 n]=>ltN n 65536|_=>false
def elN(a:List SV):Nat:=(a.getD 0 .nilp).gI.toNat
def ptI(n:Int):Bool:=match n with | .ofNat m=>Ld m | .negSucc _=>false
def J7(b:UInt8):Int:=match La b with|some n=>n|none=>-1
def Y9(k b:Int):Int:=max 1 (min 26 (k+36-b))
def Xw:List SV->Bool|[.int .i64 _]=>true|_=>false
def elI(a:List SV):Int:=(a.getD 0 .nilp).gI
def Gd(l:List Int):By × Nat:=if 256<l.length then ([],3) else if l.all ptI then Jy (l.map j8) else ([],2)
def Ij(b:Int):By->Int->Int->Int->Int × By × Int
 | [],i,w,k=>(4,[],i)
 | c::r,i,w,k=>if J7 c<0 then (4,c::r,i) else if 1099511627776<i+J7 c*w then (19,r,i+J7 c*w)
  else if J7 c<Y9 k b then (0,r,i+J7 c*w) else if 1099511627776<w*(36-Y9 k b) then (19,r,i+J7 c*w)
  else Ij b r (i+J7 c*w) (w*(36-Y9 k b)) (k+36)
def EO(b:Int)(s:By)(i:Int):Int:=(Ij b s i 1 0).1
def EQ(b:Int)(s:By)(i:Int):By:=(Ij b s i 1 0).2.1
def Qa(b:Int)(s:By)(i:Int):Int:=(Ij b s i 1 0).2.2
def Kd(l:List (List SV))(i:Nat)(n:Int):List (List SV):=l.take i++[SV.int .i64 n]::l.drop i
structure DS where
 rest:By
 n:Int
 i:Int
 b:Int
 st:Bool
 l:List (List SV)
def E4(s:DS):Int × DS:=
 if EO s.b s.rest s.i=0 then
  let c:Int:=s.l.length+1;let x:=Qa s.b s.rest s.i;let d:DS:={ rest:=EQ s.b s.rest s.i,n:=s.n+ad3 x c,i:=Int.tmod x c,b:=Ex (x-s.i).toNat c.toNat (!s.st),st:=true,l:=s.l }
  if ptI d.n then (if 256<c then (3,d) else (0,{ d with i:=d.i+1,l:=Kd s.l d.i.toNat d.n })) else (2,d)
 else (EO s.b s.rest s.i,{ s with rest:=EQ s.b s.rest s.i,i:=Qa s.b s.rest s.i })
def J8(c:UInt8):By->Int
 | []=>-1
 | b::r=>if J8 c r<0 then (if b=c then 0 else -1) else J8 c r+1
def Ak4(l:List Nat):List (List SV):=l.map λx:Nat=>[SV.int .i64 (x:Int)]
def Vt(b:UInt8):Int:=if dig b<16 then dig b else -1
def Al7(s:By):By:=(Ak s).getD []
def P4(s:By):C1 × Nat:=if s.getLast? = some 93/\2<=s.length then (match v6B ((s.take (s.length-1)).drop 1) with
 | some a=>(⟨3,[],0,a⟩,0)
 | none=>(M6,14)) else (M6,14)
def mkH(b:Int)(c:By)(v4:Int)(a:List Nat):C1:=⟨if ltN b 4 then b.toNat else 0,c,v4.toNat,a⟩
def Hu(n:Int)(l:List By):Bool:=l.all λs=>!(ltI n (s.length:Int))
def Bm9(s:By):Bool:=([91]:By).isPrefixOf s
attribute [simp] F1 I2 O5 SN Az5 Az4 SO Fz O8 I7
attribute [simp] vl
@[simp] theorem D9{n:Nat}(h:n<=1000000000):A2 n=true:=KC.2 h
@[simp] theorem EI{v:Int}{n:Nat}(h:0<=v)(a:v<n):ltN v n=true:=E8.2 ⟨h,a⟩
theorem S9{n:Nat}(h:n<=1000000000:=by omega):A2 n=true:=D9 h
theorem Ay{v:Int}{n:Nat}(h:0<=v:=by omega)(g:v<n:=by omega):ltN v n=true:=EI h g
@[simp] theorem R7{m n:Nat}(h:m+n<4611686018427387904):P5 m n=true:=by simp[P5,h]
abbrev rv(v:PV)(H:List Blk):Option (PV × List Blk × Unit):=some (v,H,())
theorem N7{n:Nat}(h:A2 n=true):n<=1000000000:=KC.1 h
theorem N0(s:By)(i:Nat)(h:i<s.length):s.drop i=s.getD i 0::s.drop (i+1):=by rw[o7,c8 h,Option.getD_some,List.getElem_cons_drop]
theorem KG(s:By)(i:Nat)(h:i<s.length):s.take (i+1)=s.take i++[s.getD i 0]:=by rw[List.take_add_one,o7,c8 h];rfl
theorem Aj3(s:By)(i:Nat)(h:i<s.length):(D0 (s.take (i+1))).map H7=(D0 (s.take i)).map H7++[H7 (Aw (s.getD i 0))]:=by unfold D0;rw[KG s i h,ac4,ac4];rfl
theorem U9(b:UInt8):(b.toNat<65/\Aw b=b)\/(90<b.toNat/\Aw b=b)\/(65<=b.toNat/\b.toNat<=90/\((Aw b).toNat=b.toNat+32)):=by
 unfold Aw;by_cases a:b.toNat<65
 ·refine .inl ⟨a,if_neg ?_⟩;intro h;have:=ab6.1 h.1;simp at this;omega
 ·by_cases c:90<b.toNat
  ·refine .inr (.inl ⟨c,if_neg ?_⟩);intro h;have:=ab6.1 h.2;simp at this;omega
  ·refine .inr (.inr ⟨by omega,by omega,?_⟩);rw[if_pos (by constructor<;>(rw[ab6];simp;omega)),UInt8.toNat_add];simp;omega
@[simp] theorem L4(s:By)(i:Nat):bAt s (i:Int)=((s.getD i 0).toNat:Int):=by simp[bAt]
@[simp] theorem Qx(s:By):bAt s 0=((s.getD 0 0).toNat:Int):=by simp[bAt]
@[simp] theorem Ct6(s:By):bAt s 1=((s.getD 1 0).toNat:Int):=by simp[bAt]
theorem Gq{c:Type}(s:List c)(a b:Nat):cut s (a:Int) (b:Int)=(s.take b).drop a:=by simp[cut]
@[simp] theorem Bw{b:Type}(s:List b)(a:Int):cut s a (s.length:Int)=s.drop a.toNat:=by simp[cut]
@[simp] theorem Ch{a:Type}(s:List a)(b:Int):cut s 0 b=s.take b.toNat:=by simp[cut]
@[simp] theorem C2(l:List By):(A6 l).length=l.length:=by simp[A6]
@[simp] theorem W3(l:List By)(i:Nat):gX (A6 l) i 0=l.getD i []:=by
 unfold gX gC A6;by_cases h:i<l.length
 ·simp[o7,c8 h,SV.gS]
 ·simp[o7,w8 (show l.length<=i by omega),SV.gS]
@[simp] theorem R0{l:List By}{i:Nat}(h:i<l.length):okE Jc (A6 l) i 0=true:=by unfold okE A6;simp[o7,c8 h,h,Jc,okS,SV.has]
theorem Jb(a b:List By):A6 (a++b)=A6 a++A6 b:=by simp[A6]
theorem Bq0(l:List By):plE (A6 l)=true:=by simp[plE,A6,SV.plain]
theorem SD(b:UInt8):u8n (b.toNat:Int)=b:=by simp[u8n]
theorem Cl8(b:UInt8):inR (b.toNat:Int) 256=true:=by have:=b.toNat_lt;exact K8
theorem Cs6{a b:UInt8}:((a.toNat:Int)==(b.toNat:Int))=(a==b):=by
 rw[ae2];simp only[beq_iff_eq];constructor
 ·intro h;exact UInt8.toNat_inj.1 (by omega)
 ·intro h;rw[h]
theorem Qh(a:UInt8)(n:Nat)(h:n<256):((a.toNat:Int)==(n:Int))=(a==aa1 n):=by rw[<-Cs6];simp[v8 h]
theorem Cv(p s:By):p.isPrefixOf s=(decide (p.length<=s.length)&&(s.take p.length==p)):=by
 rw[ae2];simp only[List.isPrefixOf_iff_prefix,k9,decide_eq_true_eq,beq_iff_eq];constructor
 ·intro h;exact⟨h.length_le,(ad7.1 h).symm⟩
 ·rintro⟨_,h⟩;exact ad7.2 h.symm
theorem Kt(p s:By):p.isSuffixOf s=(decide (p.length<=s.length)&&(s.drop (s.length-p.length)==p)):=by
 rw[ae2];simp only[List.isSuffixOf_iff_suffix,k9,decide_eq_true_eq,beq_iff_eq];constructor
 ·intro h;exact⟨h.length_le,(ad8.1 h).symm⟩
 ·rintro⟨_,h⟩;exact ad8.2 h.symm
end
section
open Go Go.ChangeAt Go.ChangeShapes Go.Proofs Go.RowKit Go.WideShapes
set_option maxRecDepth 100000
theorem own:ownKnob j6.godebug=none:=by kernel_rfl
theorem B60:laidOutB j6=true:=by kernel_rfl
noncomputable def gTy(g:Nat):Nat:=match j6.globals[g]? with|some x=>x.type|none=>0
noncomputable def dbT:Nat:=gTy 5
noncomputable def B94:Nat:=gTy 3
noncomputable def MZ:Nat:=gTy 2
noncomputable def B22:Nat:=gTy 1
noncomputable def MY:Nat:=match j6.underlying MZ with|some (.array _ e)=>e|_=>0
noncomputable def Ux:Array Field:=match j6.underlying MY with|some (.struct a)=>a|_=>#[]
noncomputable def HQ:Field:=match Ux.toList with|a::_=>a|_=>default
noncomputable def HS:Field:=match Ux.toList with|_::a::_=>a|_=>default
theorem Ch2:Ux[0]? = some HQ:=by unfold HQ Ux MY MZ gTy;kernel_rfl
theorem Ch3:Ux[1]? = some HS:=by unfold HS Ux MY MZ gTy;kernel_rfl
def Da:List (String × DataW Unit):=[("math/bits.deBruijn32tab", Rows.laid_math_bits_deBruijn32tab), ("math/bits.deBruijn64tab", Rows.laid_math_bits_deBruijn64tab), ("internal/strconv.uint64pow10", Rows.laid_internal_strconv_uint64pow10), ("unicode/utf8.acceptRanges", Rows.laid_unicode_utf8_acceptRanges), ("unicode/utf8.first", Rows.laid_unicode_utf8_first)]
theorem KJ{W:World}{n:String}{g:Nat}{a:Array Value}(b:j6.globalNamed n=some g)(h:W.var? j6 n=some a):∃e x,W.heap[g]? = some (.cells a e x):=by
 unfold World.var? at h;rw[b,j4] at h;split at h
 ·rename_i c e x d;simp only[j0] at h;subst h;exact⟨e,x,d⟩
 ·cases h
theorem Wx{W:World}{n:String}{g t e m:Nat}{k:IntKind}{f:List Int}(l:j6.globalNamed n=some g)(d:(j6.globals[g]?).map (·.type)=some t)(w:j6.underlying t=some (.array m e))(v:j6.underlying e=some (.int k))(a:j6.cellsOf e=1)(c:j6.cellsOf t=m)
  (h:ab0 j6 W n (aa8 k f)):∃e x,W.heap[g]? = some (.cells (f.map λz=>ab8 k z).toArray e x):=by
 obtain⟨y,A,o,i,p,q,r,j,u⟩:=h;obtain rfl:=p9 (l.symm.trans q);obtain rfl:=p9 (d.symm.trans r);have b:=Lib.cells_of_tab w v a c u;have:o=(f.map λz=>ab8 k z).toArray:=by rw[<-b]
 rw[this] at j;exact KJ l j
theorem GD{H:Type}{enc:TypeId × Value->H}{P:Program}{w:World}{base:Nat}{sp:Nat->Bool}{held:Bool}{a:Nat}{t e:TypeId}{n:Nat}{b:List Value}{d:DataW H}{p:List MemPlace}(f:P.underlying t=some (.array n e))
  (h:aa6 enc P w base sp held a t b=some (d,p)):b.length=P.cellsOf t:=by
 cases a with
 | zero=>simp[aa6] at h
 | succ a=>
  simp only[aa6,f] at h;split at h
  ·rename_i c;simpa using c
  ·cases h
theorem A05{W:World}(C : j6.globalNamed "unicode/utf8.acceptRanges" = some 2)(h:ab0 j6 W "unicode/utf8.acceptRanges" ae5) :
  ∃e x,W.heap[2]? = some (.cells (Ew.map λz=>ab8 .u8 z).toArray e x):=by
 obtain⟨M,t,v,w,p,H,a,y,A⟩:=h;obtain rfl:=p9 (C.symm.trans H);have n:(j6.globals[2]?).map (·.type)=some MZ:=by unfold MZ;kernel_rfl
 obtain rfl:=p9 (n.symm.trans a);have F:j6.underlying MZ=some (.array 16 MY):=by unfold MZ MY;kernel_rfl
 have N:=GD F A;have I:j6.cellsOf MZ=32:=by unfold MZ;kernel_rfl
 have b:j6.cellsOf MY=2:=by unfold MY;kernel_rfl
 have K:∃j,j6.underlying MY=some (.struct j)/\j.size=2/\∀(i:Nat) (f:Field),j[i]? = some f->j6.underlying f.type=some (.int .u8)/\f.offset=i/\j6.cellsOf f.type=1:=by
  refine⟨Ux,by unfold MY Ux;kernel_rfl,by unfold Ux;kernel_rfl,λi f m=>?_⟩;have:i<2:=by
   have:=(x8.1 m).1;rwa [show Ux.size=2 by unfold Ux;kernel_rfl] at this
  match i,this with
  | 0,_=>
   obtain rfl:=p9 (m.symm.trans (show Ux[0]? = some HQ from Ch2));exact⟨by unfold HQ;kernel_rfl,by unfold HQ;kernel_rfl,by unfold HQ;kernel_rfl⟩
  | 1,_=>
   obtain rfl:=p9 (m.symm.trans (show Ux[1]? = some HS from Ch3));exact⟨by unfold HS;kernel_rfl,by unfold HS;kernel_rfl,by unfold HS;kernel_rfl⟩
 obtain⟨j,o,r,u⟩:=K;have l:v.toList=Ew.map λz=>ab8 .u8 z:=by
  have D:(Ew.map λz=>ab8 .u8 z).length=32:=by rw[z7];rfl
  apply List.ext_getElem?;intro q;by_cases J:q<32
  ·obtain⟨k,d,O,c,B⟩:=Lib.array_elem F A (q / 2) (by omega);simp only[ab3,af3 (show q / 2<16 by omega),ac5,j0] at c;subst c;rw[b] at B;have L:=Lib.ints_of_struct o u (by rw[b,r]) B;have e0:=congrArg (·[q % 2]?) L;simp only[aa7,List.getElem?_drop] at e0;rw[Fo,show q / 2*2+q % 2=q by omega] at e0;rw[e0];unfold Ew;have G:∀g:Nat->Value,(x9 g (ah1 32))[q]? = some (g q):=λg=>by
    rw[ab3,af3 J];rfl
   rw[ah7,G];rcases Nat.mod_two_eq_zero_or_one q with a|a
   ·simp[a]
   ·simp[a]
  ·rw[w8 (by omega),w8 (by omega)]
 have:v=(Ew.map λz=>ab8 .u8 z).toArray:=by rw[<-l]
 rw[this] at y;exact KJ C y
theorem Ah0{C:Cfg}(r:C.G=GX){W:World}(b:laidMet j6 Da W)(p:W.ShapedOpen j6):GOK C (· < W.heap.size) W:=by
 have lt:∀{g:Nat} {o:Obj},W.heap[g]? = some o->g<W.heap.size:=λh=>(x8.1 h).1
 have I:ab0 j6 W "math/bits.deBruijn64tab" (aa8 .u8 (ac8.map λn:Nat=>(n:Int))):=ab1 b (by rw [show (aa8 .u8 (ac8.map λn:Nat=>(n:Int)):DataW Unit)=Rows.laid_math_bits_deBruijn64tab by kernel_rfl];simp [Da])
 have J:ab0 j6 W "internal/strconv.uint64pow10" (aa8 .u64 af7):=ab1 b (by rw [show (aa8 .u64 af7:DataW Unit)=Rows.laid_internal_strconv_uint64pow10 by kernel_rfl];simp [Da])
 have K:ab0 j6 W "unicode/utf8.acceptRanges" ae5:=ab1 b (by rw [show ae5=Rows.laid_unicode_utf8_acceptRanges by kernel_rfl];simp [Da])
 have L:ab0 j6 W "unicode/utf8.first" (aa8 .u8 af6):=ab1 b (by rw [show (aa8 .u8 af6:DataW Unit)=Rows.laid_unicode_utf8_first by kernel_rfl];simp [Da])
 have y:=Wx (g:=5) (t:=dbT) (e:=5) (m:=64) (by kernel_rfl) (by unfold dbT;kernel_rfl) (by unfold dbT;kernel_rfl) (by kernel_rfl) (by kernel_rfl) (by unfold dbT;kernel_rfl) I;have A:=Wx (g:=3) (t:=B94) (e:=95) (m:=20) (by kernel_rfl) (by unfold B94;kernel_rfl) (by unfold B94;kernel_rfl) (by kernel_rfl) (by kernel_rfl) (by unfold B94;kernel_rfl) J;have B:=A05 (by kernel_rfl) K;have D:=Wx (g:=1) (t:=B22) (e:=5) (m:=256) (by kernel_rfl) (by unfold B22;kernel_rfl) (by unfold B22;kernel_rfl) (by kernel_rfl) (by kernel_rfl) (by unfold B22;kernel_rfl) L;have F:=cell_of_shapedOpen_int (k:=.i64) (g:=0) (t:=3) (zero:=#[.int .i64 0]) p (of_decide_eq_true (by kernel_rfl)) (by kernel_rfl) rfl (by kernel_rfl) (by kernel_rfl) (by kernel_rfl);refine⟨λg k w h=>?_,λg h=>?_⟩
 ·rw[r] at h;simp only[GX] at h;have key:∀{q:Nat} {v:IntKind} {a:List Int},(∃e x,W.heap[q]? = some (.cells (a.map λz=>ab8 v z).toArray e x))->g=q->(v,a)=(k,w)->g<W.heap.size/\∃e x,W.heap[g]? = some (.cells (w.map λz=>ab8 k z).toArray e x):=λc G H=>by
   subst G;cases H;obtain⟨e,x,c⟩:=c;exact⟨lt c,e,x,c⟩
  cases d:y7 g 1 with
  | true=>rw[d,cond_true] at h;exact key D (w9 d) (p9 h)
  | false=>
   rw[d,cond_false] at h;cases f:y7 g 2 with
   | true=>rw[f,cond_true] at h;exact key B (w9 f) (p9 h)
   | false=>
    rw[f,cond_false] at h;cases i:y7 g 3 with
    | true=>rw[i,cond_true] at h;exact key A (w9 i) (p9 h)
    | false=>
     rw[i,cond_false] at h;cases j:y7 g 5 with
     | true=>rw[j,cond_true] at h;exact key y (w9 j) (p9 h)
     | false=>rw[j,cond_false] at h;cases h
 ·rw[r] at h;have e:=w9 h;subst e;obtain⟨m,u⟩:=F;refine⟨?_,m,u⟩;apply Classical.byContradiction;intro l;simp[ai8,ae0 (ad9 l)] at u
theorem Wg(os:Os)(args:Array Value):((aa5 j6 os Da).forCall (λ_ _=>0) ⟨#[],args,[]⟩).Shaped j6:=
 World.shaped_of_ZipB (by kernel_rfl) (by kernel_rfl)
theorem GU(os:Os)(args:Array Value):laidMetH j6 Da ((aa5 j6 os Da).forCall (λ_ _=>0) ⟨#[],args,[]⟩).memory:=by rw[ac7 _ _ _ (by kernel_rfl)];exact laidMet_laidAll _ (by kernel_rfl) (by kernel_rfl)
theorem Ai3{H:Type}{enc:TypeId × Value->H}{os:Os}(j:os.Started){C:Cfg}(u:C.P=j6)(r:C.G=GX)(W:XOK C)(V:Hx C){f tb:Nat}{fn:Func}{c:Code}{s:ChangeSpec}{g:List PathCond}{apart fresh handsOn again:Bool}(l:j6.inits.idxOf? f=none)(x:j6.funcs[f]? = some fn)(Z:fn.body=some c)(n:(fn.name == "runtime.NumGoroutine")=false)
  (F:∀t∈fn.params.toList,(j6.readableRec t=true/\t<j6.types.size)/\(Hd j6 20 t).isSome=true) (z:fn.resultTypes = #[tb]) (m:j6.underlying tb=some .bool) (q:s.vars=[])
  (p:∀ds:List (DataW H),ds.length=fn.params.toList.length->s.fn H ds = { results:=[.lit (.bool true)],args:=ds })
  (a:Array Value) (h:Nat) (o:Input.okWideB j6 ((aa5 j6 os Da).forCall (λ_ _=>0) ⟨#[],a,[]⟩) f ⟨#[],a,[]⟩=true)
  (Zg:s.preB enc j6 fn g apart ((aa5 j6 os Da).forCall (λ_ _=>0) ⟨#[],a,[]⟩).memory a h=true)
  (J:s.sizedB enc j6 fn apart ((aa5 j6 os Da).forCall (λ_ _=>0) ⟨#[],a,[]⟩).memory a h=true)
  (D:∀args,Jk j6 fn.params.toList args->∃d R,evC C d Unit noY f args [] ()=some (.s (.bool true),R,())) :
  ReturnsInHanded {} af9 os f .any (λw args=>(s.pre enc j6 fn g apart w args/\laidMetH j6 Da w)/\sizedMet enc j6 fn (OpenSpec.ofChange s) apart w args) (s.post enc j6 fn apart fresh handsOn again):=by
 obtain⟨P,G,X,lend,a0,lf,Q,M,xp,L,N,Y,S,nt,a1⟩:=C;simp only at u r;subst u;refine returnsInHanded_of_calls (C:=af9) own j l
  (ChangeSpec.witness_shaped (enc:=enc) (C:=af9) (os:=os) (X:=λw _=>laidMetH j6 Da w) false (aa5 j6 os Da) a h (World.laidAll_os _ _ _) (Wg os a) o Zg J (GU os a)) ?_
 intro w b i _ I _ o Zg A;obtain⟨_,_,_,B,y,_,_,_,_,Lb⟩:=o;have e:B=fn:=p9 (y.symm.trans x);subst e;obtain⟨⟨⟨ds,T,k,hw,hc⟩,O⟩,hz⟩:=Zg;have K:=DataW.Whole.of_heap (w':=w.forCall b i) (by rfl) hw;have U:laidMet j6 Da (w.forCall b i):=by
  rw[ac7 _ _ _ (by kernel_rfl)] at O;exact laidMet.of_heap (w':=w.forCall b i) (by rfl) O
 refine(Bj5 (apart:=apart) (fresh:=fresh) (handsOn:=handsOn) (again:=again) W V follows B60 x Z n F z m q p D (w.forCall b i) (Ah0 r U I) w.heap.size i.args ds T k Lb K).mono λe W' ⟨v,he,F⟩=>?_
 subst he;exact ChangeSpec.post_blind F
end
section
open Go Go.Proofs
set_option maxRecDepth 100000
section
def Ox:List PV->Tr
 | [.s (.str s),.s (.str p),.s (.int .i64 v),.s (.int .i64 n)]=>.need (A2 (c9 s)) (.need ((c9 p)==1) (.need (v==(0:Int)) (.need (n==((-1):Int)) (.ret (.vw 0 0 (c9 (pcs (j1 p 0 0) s))) [.arr false 9 1 (A6 (pcs (j1 p 0 0) s))]))))
 | _=>.fail
def Ug(args:List PV):Tr:=Ox (E0 [[0],[0],[0],[0]] args)
def Pa:List PV->Tr
 | [.s (.str s),.s (.str p)]=>.need (A2 (c9 s)) (.need ((c9 p)==1) (.ret (.vw 0 0 (c9 (pcs (j1 p 0 0) s))) [.arr false 9 1 (A6 (pcs (j1 p 0 0) s))]))
 | _=>.fail
def HO(args:List PV):Tr:=Pa (E0 [[0],[0]] args)
def LV:List PV->Tr
 | [.s (.str s),.s (.str p)]=>.need (A2 (c9 s)) (.ret (.s (.bool (ac3 p s))) [])
 | _=>.fail
def LU(args:List PV):Tr:=LV (E0 [[0],[0]] args)
def LE:List PV->Tr
 | [.s (.str s),.s (.str p)]=>.need (A2 (c9 s)) (.ret (.s (.bool (ac3 p s))) [])
 | _=>.fail
def AQ(args:List PV):Tr:=LE (E0 [[0],[0]] args)
def LX:List PV->Tr
 | [.s (.str s),.s (.str p)]=>.need (A2 (c9 s)) (.ret (.s (.bool (ag6 p s))) [])
 | _=>.fail
def ZY(args:List PV):Tr:=LX (E0 [[0],[0]] args)
def LG:List PV->Tr
 | [.s (.str s),.s (.str p)]=>.need (A2 (c9 s)) (.ret (.s (.bool (ag6 p s))) [])
 | _=>.fail
def Bg0(args:List PV):Tr:=LG (E0 [[0],[0]] args)
def BB:List PV->Tr
 | [.s (.str s),.s (.str p)]=>.need (A2 (c9 s)) (.ret (.s (.str (RY s p))) [])
 | _=>.fail
def At6(args:List PV):Tr:=BB (E0 [[0],[0]] args)
def BN:List PV->Tr
 | [.s (.str s),.s (.str p)]=>.need (A2 (c9 s)) (.ret (.s (.str (RY s p))) [])
 | _=>.fail
def At9(args:List PV):Tr:=BN (E0 [[0],[0]] args)
def AW:List PV->Tr
 | [.s (.str s),.s (.str p)]=>.need (A2 (c9 s)) (.ret (.tup [.s (.str (Fh s p)),.s (.bool (ac3 p s))]) [])
 | _=>.fail
def At3(args:List PV):Tr:=AW (E0 [[0],[0]] args)
def KQ:List PV->Tr
 | [.s (.str s),.s (.str p)]=>.need (A2 (c9 s)) (.ret (.tup [.s (.str (Fh s p)),.s (.bool (ac3 p s))]) [])
 | _=>.fail
def ZS(args:List PV):Tr:=KQ (E0 [[0],[0]] args)
def MK:List PV->Tr
 | [.s (.str s),.s (.str p)]=>.need (A2 (c9 s)) (.ret (.s (.int .i64 (Lib.index s p))) [])
 | _=>.fail
def BG(args:List PV):Tr:=MK (E0 [[0],[0]] args)
def MI:List PV->Tr
 | [.s (.str s),.s (.str p)]=>.need ((c9 p)==1) (.ret (.s (.int .i64 (↑(List.count (j1 p 0 0) s):Int))) [])
 | _=>.fail
def Aa3(args:List PV):Tr:=MI (E0 [[0],[0]] args)
def AL:List PV->Tr
 | [.s (.str s),.s (.int .i64 n)]=>.fail
 | _=>.fail
def Hy(args:List PV):Tr:=AL (E0 [[0],[0]] args)
def Uf:List PV->Tr
 | [.s (.str s),.s (.str p),.s (.int .i64 v),.s (.int .i64 n)]=>.need (A2 (c9 s)) (.need ((c9 p)==1) (.need (v==(0:Int)) (.need (n==((-1):Int)) (.ret (.s (.sl false false 1 (A6 (pcs (j1 p 0 0) s)))) []))))
 | _=>.fail
def TB(args:List PV):Tr:=Uf (E0 [[0],[0],[0],[0]] args)
def Uq:List PV->Tr
 | [.s (.str s),.s (.str p)]=>.need (A2 (c9 s)) (.need ((c9 p)==1) (.ret (.s (.sl false false 1 (A6 (pcs (j1 p 0 0) s)))) []))
 | _=>.fail
def Qu(args:List PV):Tr:=Uq (E0 [[0],[0]] args)
def LN:List PV->Tr
 | [.s (.int .i64 n)]=>.need (ltN n 4294967296) (.ret (.s (.str (aa0 (j8 n)))) [])
 | _=>.fail
def ZV(args:List PV):Tr:=LN (E0 [[0]] args)
def LT:List PV->Tr
 | [.s (.str s)]=>.need (A2 (c9 s)) (.ret (.s (.str (D0 s))) [])
 | _=>.fail
def AX(args:List PV):Tr:=LT (E0 [[0]] args)
def LC:List PV->Tr
 | [.s (.str s)]=>.need (A2 (c9 s)) (.ret (.s (.bool (Gt s))) [])
 | _=>.fail
def ZT(args:List PV):Tr:=LC (E0 [[0]] args)
def KT:List PV->Tr
 | [.s (.str s),.s (.int .i64 base)]=>.need (A2 (c9 s)) (.need (ltN base 17) (.ret (.tup [.s (.int .i64 (↑(Cn (J1 (j8 base) 0 s)):Int)),.s (.bool (p7 (J1 (j8 base) 0 s)))]) []))
 | _=>.fail
def KR(args:List PV):Tr:=KT (E0 [[0],[0]] args)
def ZZ:List PV->Tr
 | [.s (.str s)]=>.need (A2 (c9 s)) (.ret (.tup [.s (.int .i64 (↑(Cn (Og s)):Int)),.s (.bool (p7 (Og s)))]) [])
 | _=>.fail
def Bg4(args:List PV):Tr:=ZZ (E0 [[0]] args)
def BE:List PV->Tr
 | [.s (.str s)]=>.need (A2 (c9 s)) (.ret (.s (.sl false false 1 (A6 (F6 s)))) [])
 | _=>.fail
def MB(args:List PV):Tr:=BE (E0 [[0]] args)
def Oy:List PV->Tr
 | [.s (.str s)]=>.need (A2 (c9 s)) (.ret (.s (.bool (N9 s))) [])
 | _=>.fail
def Nd(args:List PV):Tr:=Oy (E0 [[0]] args)
def MF:List PV->Tr
 | [.s (.str s)]=>.need (A2 (c9 s)) (.ret (.tup [.s (.int .u32 (↑(Cn (pnB s)):Int)),.s (.bool (p7 (pnB s)))]) [])
 | _=>.fail
def Bg6(args:List PV):Tr:=MF (E0 [[0]] args)
def Aa7:List PV->Tr
 | [.s (.str s)]=>.need (A2 (c9 s)) (.ret (.tup [.s (.int .u32 (↑(Cn (v4B s)):Int)),.s (.bool (p7 (v4B s)))]) [])
 | _=>.fail
def Cf1(args:List PV):Tr:=Aa7 (E0 [[0]] args)
def Aa6:List PV->Tr
 | [.s (.int .u32 v)]=>.need (ltN v 4294967296) (.ret (.s (.str (Na (j8 v)))) [])
 | _=>.fail
def Cf0(args:List PV):Tr:=Aa6 (E0 [[0]] args)
def Cp7:List PV->Tr
 | [.s (.str s),.s (.int .u8 c)]=>.need (A2 (c9 s)) (.need (inR c 256) (.ret (.s (.sl false false 1 (A6 (pcs (u8n c) s)))) []))
 | _=>.fail
def Ct4:List PV->Tr
 | [.s (.int .u8 b)]=>.need (inR b 256) (.ret (.s (.int .i64 (↑(dig (u8n b)):Int))) [])
 | _=>.fail
def KY:List PV->Tr
 | [.s (.str s)]=>.need (A2 (c9 s)) (.ret (.tup [.s (.int .u16 (↑(Cn (grp s)):Int)),.s (.bool (p7 (grp s)))]) [])
 | _=>.fail
def Bf6(args:List PV):Tr:=KY (E0 [[0]] args)
def AN:List PV->Tr
 | [.s (.str s),.s (.bool last)]=>.need (A2 (c9 s)) (.ret (.tup [.s (.sl (w7 (gvs s last)) (w7 (gvs s last)) 1 (G4 (gvs s last))),.s (.bool (p7 (Ck s last)))]) [])
 | _=>.fail
def As9(args:List PV):Tr:=AN (E0 [[0],[0]] args)
def Ab0:List PV->Tr
 | [.s (.str s)]=>.need (A2 (c9 s)) (.ret (.tup [.agg [.s (.int .u16 (↑(v6c 0 s):Int)),.s (.int .u16 (↑(v6c 1 s):Int)),.s (.int .u16 (↑(v6c 2 s):Int)),.s (.int .u16 (↑(v6c 3 s):Int)),.s (.int .u16 (↑(v6c 4 s):Int)),.s (.int .u16 (↑(v6c 5 s):Int)),.s (.int .u16 (↑(v6c 6 s):Int)),.s (.int .u16 (↑(v6c 7 s):Int))],.s (.bool (p7 (v6B s)))]) [])
 | _=>.fail
def Cf4(args:List PV):Tr:=Ab0 (E0 [[0]] args)
def BW:List PV->Tr
 | [.agg [.s (.int .u16 a),.s (.int .u16 b),.s (.int .u16 c),.s (.int .u16 d),.s (.int .u16 e),.s (.int .u16 f),.s (.int .u16 g),.s (.int .u16 h)]]=>.need (ok8 a b c d e f g h) (.ret (.tup [.s (.int .i64 (↑((zGo (n8 a b c d e f g h) 0 0 0)).1:Int)),.s (.int .i64 (↑((zGo (n8 a b c d e f g h) 0 0 0)).2:Int))]) [])
 | _=>.fail
def Au1(args:List PV):Tr:=BW (E0 [[0,0,0,0,0,0,0,0]] args)
def Bg8:List PV->Tr
 | [.s (.int .u64 x)]=>.need (x==(16:Int)) (.ret (.s (.int .i64 (4:Int))) [])
 | _=>.fail
def Ch1(args:List PV):Tr:=Bg8 (E0 [[0]] args)
def AS:List PV->Tr
 | [.s (.int .i64 x)]=>.need (x==(16:Int)) (.ret (.s (.bool true)) [])
 | _=>.fail
def LM(args:List PV):Tr:=AS (E0 [[0]] args)
def AM:List PV->Tr
 | [.s (.sl c a 0 ds),.s (.int .u64 v),.s (.int .i64 b),.s (.bool neg),.s (.bool app)]=>.need (ltN v 65536) (.need (b==(16:Int)) (.need (not neg) (.need (not app) (.ret (.tup [.s (.sl true true 1 List.nil),.s (.str (Af (j8 v)))]) []))))
 | _=>.fail
def KW(args:List PV):Tr:=AM (E0 [[0],[0],[0],[0],[0]] args)
def AR:List PV->Tr
 | [.s (.int .u64 v),.s (.int .i64 b)]=>.need (ltN v 65536) (.need (b==(16:Int)) (.ret (.s (.str (Af (j8 v)))) []))
 | _=>.fail
def LJ(args:List PV):Tr:=AR (E0 [[0],[0]] args)
def KX:List PV->Tr
 | [.s (.int .u64 v),.s (.int .i64 b)]=>.need (ltN v 65536) (.need (b==(16:Int)) (.ret (.s (.str (Af (j8 v)))) []))
 | _=>.fail
def Bf5(args:List PV):Tr:=KX (E0 [[0],[0]] args)
def BJ:List PV->Tr
 | [.s (.sl b a 1 l),.s (.str p)]=>.need (ab2 l isS) (.need (A2 (c9 (ae7 (x9 elS l) p))) (.need (A2 (c9 l)) (.ret (.s (.str (ae7 (x9 elS l) p))) [])))
 | _=>.fail
def MN(args:List PV):Tr:=BJ (E0 [[1],[0]] args)
def MJ:List PV->Tr
 | [.s (.str s),.s (.str p)]=>.need (A2 (c9 s)) (.ret (.tup [.s (.str ((y5 s p)).1),.s (.str (((y5 s p)).2).1),.s (.bool (((y5 s p)).2).2)]) [])
 | _=>.fail
def Aa4(args:List PV):Tr:=MJ (E0 [[0],[0]] args)
def Aa9:List PV->Tr
 | [.s (.sl b a 1 l)]=>.need (ab2 l Si) (.need (x4 (c9 l) 8) (.ret (.s (.str (Cm (x9 elN l)))) []))
 | _=>.fail
def Cf3(args:List PV):Tr:=Aa9 (E0 [[1]] args)
def Aa8:List PV->Tr
 | [.agg [.s (.int .u16 a),.s (.int .u16 b),.s (.int .u16 c),.s (.int .u16 d),.s (.int .u16 e),.s (.int .u16 f),.s (.int .u16 g),.s (.int .u16 h)]]=>.need (ok8 a b c d e f g h) (.ret (.s (.str (Yx (n8 a b c d e f g h)))) [])
 | _=>.fail
def Cf2(args:List PV):Tr:=Aa8 (E0 [[0,0,0,0,0,0,0,0]] args)
def Un:List PV->Tr
 | [.s (.int .i64 n)]=>.ret (.s (.bool (ptI n))) []
 | _=>.fail
def Li(args:List PV):Tr:=Un (E0 [[0]] args)
def Um:List PV->Tr
 | [.s (.int .i64 d),.s (.int .i64 c),.s (.bool f)]=>.need (ltN d 1152921504606846976) (.need (ltN c 1000000) (.need (ltI (0:Int) c) (.ret (.s (.int .i64 (↑(Ex (j8 d) (j8 c) f):Int))) [])))
 | _=>.fail
def Lh(args:List PV):Tr:=Um (E0 [[0],[0],[0]] args)
def MD:List PV->Tr
 | [.s (.int .i64 d)]=>.need (ltN d 36) (.ret (.s (.int .u8 (↑(UInt8.toNat (Mc (j8 d))):Int))) [])
 | _=>.fail
def Aa0(args:List PV):Tr:=MD (E0 [[0]] args)
def MH:List PV->Tr
 | [.s (.int .u8 b)]=>.need (inR b 256) (.ret (.s (.int .i64 (J7 (u8n b)))) [])
 | _=>.fail
def Aa2(args:List PV):Tr:=MH (E0 [[0]] args)
def MG:List PV->Tr
 | [.s (.int .i64 b)]=>.ret (.fnr (Fn.func 156) [] [.ptr 1 0 0,.ptr 0 0 0]) [.box [.s (.int .i64 b)],.box [.s (.int .i64 (0:Int))]]
 | _=>.fail
def BF(args:List PV):Tr:=MG (E0 [[0]] args)
def Nf:List PV->List Blk->Tr
 | [.ptr 0 0 0,.ptr 1 0 0],[.box [.s (.int .i64 k)],.box [.s (.int .i64 b)]]=>.need (ltN k 1000000000000) (.need (ltN b 1000000) (.ret (.s (.int .i64 (Y9 k b))) [.box [.s (.int .i64 (Int.add k (36:Int)))],.box [.s (.int .i64 b)]]))
 | _,_=>.fail
def MA:List PV->List Blk->Tr
 | [.fl 0,.s (.int .i64 q),.s (.int .i64 b)],[.arr z 5 1 l]=>.need (ltN q 1152921504606846976) (.need (ltN b 1000000) (.need (x4 (c9 l) 100000) (.ret (.fl 0) [.arr z 5 1 (List.append l (x9 H7 (T7 (j8 q) 0 (j8 b))))])))
 | _,_=>.fail
def ME:List PV->Tr
 | [.s (.sl b a 1 p)]=>.need (ab2 p Xw) (.ret (.tup [.s (.str ((Gd (x9 elI p))).1),.s (.int .i64 (↑((Gd (x9 elI p))).2:Int))]) [])
 | _=>.fail
def Aa1(args:List PV):Tr:=ME (E0 [[1]] args)
def MM:List PV->List Blk->Tr
 | [.fl 0,.s (.int .i64 i),.fl 1],[.arr z 3 1 l,.arr false 3 1 [[.int .i64 n]]]=>.need (ltN i (Nat.add (c9 l) 1)) (.need (x4 (c9 l) 100000) (.ret (.fl 0) [.arr z 3 1 (Kd l (j8 i) n),.arr false 3 1 [[.int .i64 n]]]))
 | _,_=>.fail
def KV:List PV->List Blk->Tr
 | [.ptr 0 0 0],[.box [.s (.str a),.fl 1,.s (.int .i64 n),.s (.int .i64 i),.s (.int .i64 b),.s (.bool c)],.arr z 3 1 l]=>.need (A2 (c9 a)) (.need (ltN b 1000000) (.need (ltN i 1099511627777) (.ret (.s (.int .i64 (EO b a i))) [.box [.s (.str (EQ b a i)),.fl 1,.s (.int .i64 n),.s (.int .i64 (Qa b a i)),.s (.int .i64 b),.s (.bool c)],.arr z 3 1 l])))
 | _,_=>.fail
def Zn:List PV->List Blk->Tr
 | [.ptr 0 0 0],[.box [.s (.str a),.fl 1,.s (.int .i64 n),.s (.int .i64 i),.s (.int .i64 b),.s (.bool c)],.arr z 3 1 l]=>.need (A2 (c9 a)) (.need (ltN b 1000000) (.need (ltN i 1099511627777) (.need (ltN n 1152921504606846976) (.need (x4 (c9 l) 100000) (.ret (.s (.int .i64 ((E4 (DS.mk a n i b c l))).1)) [.box [.s (.str (DS.rest ((E4 (DS.mk a n i b c l))).2)),.fl 1,.s (.int .i64 (DS.n ((E4 (DS.mk a n i b c l))).2)),.s (.int .i64 (DS.i ((E4 (DS.mk a n i b c l))).2)),.s (.int .i64 (DS.b ((E4 (DS.mk a n i b c l))).2)),.s (.bool (DS.st ((E4 (DS.mk a n i b c l))).2))],.arr z 3 1 (DS.l ((E4 (DS.mk a n i b c l))).2)])))))
 | _,_=>.fail
def Ui:List PV->Tr
 | [.s (.str s),.s (.int .u8 c)]=>.need (A2 (c9 s)) (.need (inR c 256) (.ret (.s (.int .i64 (J8 (u8n c) s))) []))
 | _=>.fail
def TD(args:List PV):Tr:=Ui (E0 [[0],[0]] args)
def AV:List PV->Tr
 | [.s (.str s),.s (.int .u8 c)]=>.need (A2 (c9 s)) (.need (inR c 256) (.ret (.s (.int .i64 (J8 (u8n c) s))) []))
 | _=>.fail
def Zo(args:List PV):Tr:=AV (E0 [[0],[0]] args)
def MC:List PV->Tr
 | [.s (.str s)]=>.need (A2 (c9 s)) (.ret (.tup [.s (.sl (w7 ((W0 s)).1) (w7 ((W0 s)).1) 1 (Ak4 ((W0 s)).1)),.s (.int .i64 (↑((W0 s)).2:Int))]) [])
 | _=>.fail
def Bg5(args:List PV):Tr:=MC (E0 [[0]] args)
def TA:List PV->Tr
 | [.s (.str t)]=>.fail
 | _=>.fail
def Qr(args:List PV):Tr:=TA (E0 [[0]] args)
def AZ:List PV->Tr
 | [.s (.str t),.s (.str p),.s (.int .i64 n)]=>.ret (.fnr (Fn.func 101) [] [.ptr 1 0 0,.ptr 0 0 0,.ptr 2 0 0]) [.box [.s (.str t)],.box [.s (.str p)],.box [.s (.int .i64 n)]]
 | _=>.fail
def LW(args:List PV):Tr:=AZ (E0 [[0],[0],[0]] args)
def MO:List PV->Tr
 | [.s (.str t),.s (.str p)]=>.ret (.fnr (Fn.func 101) [] [.ptr 1 0 0,.ptr 0 0 0,.ptr 2 0 0]) [.box [.s (.str t)],.box [.s (.str p)],.box [.s (.int .i64 (0:Int))]]
 | _=>.fail
def BL(args:List PV):Tr:=MO (E0 [[0],[0]] args)
def Ni:List PV->List Blk->Option (Bool × List (List PV))
 | [.yd,.ptr 0 0 0,.ptr 1 0 0,.ptr 2 0 0],[.box [.s (.str p)],.box [.s (.str t)],.box [.s (.int .i64 n)]]=>some (((A2 (c9 t))&&(((c9 p)==1)&&(n==(0:Int)))),x9 (λ(x:By)=>([.s (.str x)]:List PV)) (pcs (j1 p 0 0) t))
 | _,_=>none
def AY:List PV->Tr
 | [.s (.str s)]=>.need (A2 (c9 s)) (.ret (.s (.bool (Ob s))) [])
 | _=>.fail
def At4(args:List PV):Tr:=AY (E0 [[0]] args)
def LZ:List PV->Tr
 | [.s (.str s)]=>.need (A2 (c9 s)) (.ret (.s (.bool (R3 s))) [])
 | _=>.fail
def LY(args:List PV):Tr:=LZ (E0 [[0]] args)
def Uv:List PV->Tr
 | [.s (.str s)]=>.need (A2 (c9 s)) (.ret (.s (.bool (p7 (Zi s)))) [])
 | _=>.fail
def TM(args:List PV):Tr:=Uv (E0 [[0]] args)
def Ur:List PV->Tr
 | [.s (.str s)]=>.need (A2 (c9 s)) (.ret (.s (.int .i64 (↑(Lib.runeCountL s):Int))) [])
 | _=>.fail
def TK(args:List PV):Tr:=Ur (E0 [[0]] args)
def LS:List PV->Tr
 | [.s (.str s)]=>.need (A2 (c9 s)) (.ret (.tup [.s (.str ((R4 s)).1),.s (.int .i64 (↑((R4 s)).2:Int))]) [])
 | _=>.fail
def Bg3(args:List PV):Tr:=LS (E0 [[0]] args)
def LB:List PV->Tr
 | [.s (.int .u8 b)]=>.need (inR b 256) (.ret (.s (.int .i64 (Vt (u8n b)))) [])
 | _=>.fail
def Bf9(args:List PV):Tr:=LB (E0 [[0]] args)
def LA:List PV->Tr
 | [.s (.str s)]=>.need (A2 (c9 s)) (.ret (.tup [.s (.str (Al7 s)),.s (.bool (p7 (Ak s)))]) [])
 | _=>.fail
def Bf8(args:List PV):Tr:=LA (E0 [[0]] args)
def AO:List PV->Tr
 | [.s (.str s)]=>.need (A2 (c9 s)) (.need (Bm9 s) (.ret (.tup [.agg [.s (.int .i64 (↑(C1.kind ((P4 s)).1):Int)),.s (.str (C1.name ((P4 s)).1)),.s (.int .u32 (↑(C1.v4 ((P4 s)).1):Int)),.s (.int .u16 (↑(j1 (C1.v6 ((P4 s)).1) 0 0):Int)),.s (.int .u16 (↑(j1 (C1.v6 ((P4 s)).1) 1 0):Int)),.s (.int .u16 (↑(j1 (C1.v6 ((P4 s)).1) 2 0):Int)),.s (.int .u16 (↑(j1 (C1.v6 ((P4 s)).1) 3 0):Int)),.s (.int .u16 (↑(j1 (C1.v6 ((P4 s)).1) 4 0):Int)),.s (.int .u16 (↑(j1 (C1.v6 ((P4 s)).1) 5 0):Int)),.s (.int .u16 (↑(j1 (C1.v6 ((P4 s)).1) 6 0):Int)),.s (.int .u16 (↑(j1 (C1.v6 ((P4 s)).1) 7 0):Int))],.s (.int .i64 (↑((P4 s)).2:Int))]) []))
 | _=>.fail
def At0(args:List PV):Tr:=AO (E0 [[0]] args)
def Uh:List PV->Tr
 | [.s (.str s)]=>.need (A2 (c9 s)) (.ret (.tup [.agg [.s (.int .i64 (↑(C1.kind ((H4 s)).1):Int)),.s (.str (C1.name ((H4 s)).1)),.s (.int .u32 (↑(C1.v4 ((H4 s)).1):Int)),.s (.int .u16 (↑(j1 (C1.v6 ((H4 s)).1) 0 0):Int)),.s (.int .u16 (↑(j1 (C1.v6 ((H4 s)).1) 1 0):Int)),.s (.int .u16 (↑(j1 (C1.v6 ((H4 s)).1) 2 0):Int)),.s (.int .u16 (↑(j1 (C1.v6 ((H4 s)).1) 3 0):Int)),.s (.int .u16 (↑(j1 (C1.v6 ((H4 s)).1) 4 0):Int)),.s (.int .u16 (↑(j1 (C1.v6 ((H4 s)).1) 5 0):Int)),.s (.int .u16 (↑(j1 (C1.v6 ((H4 s)).1) 6 0):Int)),.s (.int .u16 (↑(j1 (C1.v6 ((H4 s)).1) 7 0):Int))],.s (.int .i64 (↑((H4 s)).2:Int))]) [])
 | _=>.fail
def TC(args:List PV):Tr:=Uh (E0 [[0]] args)
def ZU:List PV->Tr
 | [.s (.str s)]=>.need (A2 (c9 s)) (.ret (.s (.bool (Cy s))) [])
 | _=>.fail
def Bg1(args:List PV):Tr:=ZU (E0 [[0]] args)
def LI:List PV->Tr
 | [.agg [.s (.int .i64 j),.s (.str i),.s (.int .u32 v4),.s (.int .u16 a),.s (.int .u16 b),.s (.int .u16 c),.s (.int .u16 d),.s (.int .u16 e),.s (.int .u16 f),.s (.int .u16 g),.s (.int .u16 h)]]=>.need (A2 (c9 i)) (.need (ltN v4 4294967296) (.need (ok8 a b c d e f g h) (.ret (.s (.bool (P2 (mkH j i v4 (n8 a b c d e f g h))))) [])))
 | _=>.fail
def LH(args:List PV):Tr:=LI (E0 [[0,0,0,0,0,0,0,0,0,0,0]] args)
def LD:List PV->Tr
 | [.agg [.s (.int .i64 j),.s (.str i),.s (.int .u32 v4),.s (.int .u16 a),.s (.int .u16 b),.s (.int .u16 c),.s (.int .u16 d),.s (.int .u16 e),.s (.int .u16 f),.s (.int .u16 g),.s (.int .u16 h)]]=>.need (A2 (c9 i)) (.need (ltN v4 4294967296) (.need (ok8 a b c d e f g h) (.ret (.s (.str (Fm (mkH j i v4 (n8 a b c d e f g h))))) [])))
 | _=>.fail
def AP(args:List PV):Tr:=LD (E0 [[0,0,0,0,0,0,0,0,0,0,0]] args)
def KZ:List PV->Tr
 | [.s (.str p),.s (.str s)]=>.need (A2 (c9 p)) (.need (A2 (c9 s)) (.ret (.s (.bool (Rl p s))) []))
 | _=>.fail
def Bf7(args:List PV):Tr:=KZ (E0 [[0],[0]] args)
def Uj:List PV->Tr
 | [.s (.int .i64 n),.s (.sl b a 1 l)]=>.need (ab2 l isS) (.need (A2 (c9 l)) (.ret (.s (.bool (Hu n (x9 elS l)))) []))
 | _=>.fail
def TE(args:List PV):Tr:=Uj (E0 [[0],[1]] args)
def Uk:List PV->Tr
 | [.s (.sl d c 1 a),.s (.sl f e 1 b)]=>.need (ab2 a isS) (.need (ab2 b isS) (.need (A2 (c9 a)) (.need (A2 (c9 b)) (.ret (.s (.bool ((x9 elS a)==(x9 elS b)))) []))))
 | _=>.fail
def TF(args:List PV):Tr:=Uk (E0 [[1],[1]] args)
end
section
variable {W R : Type} (L : Nat) (Q : E3) (Y : Yh W) (s : W) (k : Out -> St W -> Option R)
noncomputable abbrev Bb:Code:=E5 ag3
noncomputable def W8(L:Nat):Cfg:=D1 L [148] (A3 [(5,[0,1,0,0,10,0])]) [] (A3 [(16,[2,0]),(15,[0,3,10,0]),(10,[0,3,10,0]),(12,[0,3,10,0]),(14,[0,3,10,0]),(8,[2,0]),(13,[0,3,1,8,0,32]),(11,[0,3,1,8,0,18]),(9,[0,3,1,8,0,5]),(7,[0,3,1,8,0]),(6,[0,3,0,9,0]),(5,[0,3,10,0,0]),(4,[0,3,10,0]),(3,[0,3]),(2,[2,0]),(1,[0,12]),(0,[0])]) [] (A3 [(0,[4]),(1,[0,3,10,0]),(2,[0,3,10,0])]) (some [2,0]) [] [] []
noncomputable def Ry{R:Type}(i:By)(v1 c g h:Int)(d:Bool)(e:By->Int->Int->Int->Option R)(f:Unit->Option R):Option R:=cond d (vl (wu8 ((wu8 (c-65))+10)) λa=>vl (bOr .u16 (Th .u16 v1 (4:Int)) (Ua a)) λb=>e i b g h) (f ())
abbrev IQ(b:Code):Prop:=∀(k:Out->St W->Option R) c v1 b2 a n4 b5,A7 (W8 L) Q Y b ⟨gp [(0,pS c),(3,p16 v1),(1,p8 b2),(8,pI a),(0,pI n4),(32,pB b5)] 15,[],s⟩ k=Ry c v1 b2 a n4 b5 (λc v1 d a=>k .normal ⟨gp [(0,pS c),(3,p16 v1),(10,pI d),(0,pI a)] 48,[],s⟩) (λ_=>k .ret ⟨gp [(2,p16 (0:Int)),(0,pB false)] 61,[],s⟩)
theorem Ag2:IQ (R:=R) L Q Y s (cd [1,1,1,0,1,0,0,1,1,0,0,1,1,0,1,1,1,1,1] Bb):=by intro k e v1 a c d b;unfold Ry;kernel_rfl
noncomputable def Rz{R:Type}(o:By)(v1 a l m:Int)(r:Bool)(f:By->Int->Int->Int->Option R)(q:Unit->Option R):Option R:=cond r (vl (wu8 ((wu8 (a-97))+10)) λg=>vl (bOr .u16 (Th .u16 v1 (4:Int)) (Ua g)) λh=>f o h l m) (cond (not (ltI a 65)) (Ry o v1 a l m (not (ltI 70 a)) (λn p i j=>f n p i j) (λ_=>q ())) (Ry o v1 a l m false (λd e b c=>f d e b c) (λ_=>q ())))
abbrev Wa(b:Code):Prop:=∀(k:Out->St W->Option R) c v1 b2 a n4 b5,A7 (W8 L) Q Y b ⟨gp [(0,pS c),(3,p16 v1),(1,p8 b2),(8,pI a),(0,pI n4),(18,pB b5)] 29,[],s⟩ k=Rz c v1 b2 a n4 b5 (λc v1 d a=>k .normal ⟨gp [(0,pS c),(3,p16 v1),(10,pI d),(0,pI a)] 48,[],s⟩) (λ_=>k .ret ⟨gp [(2,p16 (0:Int)),(0,pB false)] 61,[],s⟩)
theorem Ag3(a:Code)(b:IQ (R:=R) L Q Y s a):Wa (R:=R) L Q Y s (cd [1,1,1,0,1,0,0,1,1,0,0,1,1,0,1,1,1] (K3 [1,1,1,0,1,0,0,1,1,0,0,1,1,0,1,1,1,1,1] a Bb)):=by intro k g v1 c e f d;unfold Rz;simp only[<-b k];kernel_rfl
theorem Ag4:Wa (R:=R) L Q Y s (cd [1,1,1,0,1,0,0,1,1,0,0,1,1,0,1,1,1] Bb):=by intro k e v1 a c d b;exact w6 (by kernel_rfl) (Ag3 L Q Y s (cd [1,1,1,0,1,0,0,1,1,0,0,1,1,0,1,1,1,1,1] Bb) (Ag2 L Q Y s) k e v1 a c d b)
noncomputable def Sa{R:Type}(p:By)(v1 a n o:Int)(r:Bool)(j:By->Int->Int->Int->Option R)(q:Unit->Option R):Option R:=cond r (vl (Ua (wu8 (a-48))) λl=>vl (bOr .u16 (Th .u16 v1 (4:Int)) l) λm=>j p m n o) (cond (not (ltI a 97)) (Rz p v1 a n o (not (ltI 102 a)) (λf h b c=>j f h b c) (λ_=>q ())) (Rz p v1 a n o false (λg i d e=>j g i d e) (λ_=>q ())))
abbrev Np(b:Code):Prop:=∀(k:Out->St W->Option R) c v1 b2 a n4 b5,A7 (W8 L) Q Y b ⟨gp [(0,pS c),(3,p16 v1),(1,p8 b2),(8,pI a),(0,pI n4),(5,pB b5)] 42,[],s⟩ k=Sa c v1 b2 a n4 b5 (λc v1 d a=>k .normal ⟨gp [(0,pS c),(3,p16 v1),(10,pI d),(0,pI a)] 48,[],s⟩) (λ_=>k .ret ⟨gp [(2,p16 (0:Int)),(0,pB false)] 61,[],s⟩)
theorem Ag5(a:Code)(b:Wa (R:=R) L Q Y s a):Np (R:=R) L Q Y s (cd [1,1,1,0,1,0,0,1,1,0,0,1,1,0,1] (K3 [1,1,1,0,1,0,0,1,1,0,0,1,1,0,1,1,1] a Bb)):=by intro k g v1 c e f d;unfold Sa;simp only[<-b k];kernel_rfl
theorem Ag6:Np (R:=R) L Q Y s (cd [1,1,1,0,1,0,0,1,1,0,0,1,1,0,1] Bb):=by intro k e v1 a c d b;exact w6 (by kernel_rfl) (Ag5 L Q Y s (cd [1,1,1,0,1,0,0,1,1,0,0,1,1,0,1,1,1] Bb) (Ag4 L Q Y s) k e v1 a c d b)
noncomputable def Di{R:Type}(L n:Nat)(b:By)(v1 q a:Int)(o:Unit->Option R)(p:Int->Option R):Option R:=match n with|0=>none|n+1=>cond (ltI a q) (cond (inR a b.length) (cond (not (ltI (bAt b a) (48:Int))) (Sa b v1 (bAt b a) q a (not (ltI 57 (bAt b a))) (λi l c d=>vl (A4 (d+1)) λe=>Di L n i l c e o p) (λ_=>o ())) (Sa b v1 (bAt b a) q a false (λj m f g=>vl (A4 (g+1)) λh=>Di L n j m f h o p) (λ_=>o ()))) none) (p v1)
theorem Ag7(a:Code)(b:Np (R:=R) L Q Y s a)(n:Nat)(d:By)(v1 i c:Int):G1 0 ((W8 L).keep 5) (bd (W8 L) Q Y (cd [1,1,1,0,1,0,0] (K3 [1,1,1,0,1,0,0,1,1,0,0,1,1,0,1] a Bb))) n ⟨gp [(0,pS d),(3,p16 v1),(10,pI i),(0,pI c)] 48,[],s⟩ k =
 Di L n d v1 i c (λ_=>k .ret ⟨gp [(2,p16 (0:Int)),(0,pB false)] 61,[],s⟩) (λv0=>k (.exit 0) ⟨gp [(4,p16 v0)] 60,[],s⟩):=by
 induction n generalizing d v1 i c with
 | zero=>rfl
 | succ n q=>rw[Di];exact let p:=(I1 2 (I1 1 (J0 (W8 L) Q Y (cd [1,1,1,0,1,0,0,1,1,1] Bb) (lpK 0 ((W8 L).keep 5) (bd (W8 L) Q Y (cd [1,1,1,0,1,0,0] (K3 [1,1,1,0,1,0,0,1,1,0,0,1,1,0,1] a Bb))) n k))));(w6 (by kernel_rfl) (A0 (A0 (A0 ((b p d v1 (bAt d c) i c (not (ltI 57 (bAt d c)))).trans (congr (congr rfl (fx4 λj m e r=>(w6 (by kernel_rfl) (A5 λf=>(q j m e f))))) (by kernel_rfl))) ((b p d v1 (bAt d c) i c false).trans (congr (congr rfl (fx4 λl o g t=>(w6 (by kernel_rfl) (A5 λh=>(q l o g h))))) (by kernel_rfl)))) rfl) rfl))
noncomputable def Bl9{R:Type}(L:Nat)(c:By)(b:Int->Bool->Option R):Option R:=cond (c==[]) (b 0 false) (cond (ltI 4 (c.length:Int)) (b 0 false) (Di L L c 0 (c.length:Int) 0 (λ_=>b 0 false) (λa=>b a true)))
theorem B30(a:Code)(b:Np (R:=PV × List Blk × W) L Q Y s a)(c:By):A7 (W8 L) Q Y (cd [] (K3 [1,1,1,0,1,0,0,1,1,0,0,1,1,0,1] a Bb)) ⟨[pS c]++tps 64,[],s⟩ (I6 (W8 L) ag3)=Bl9 L c (λd e=>some (.tup [p16 d,pB e],[],s)):=by unfold Bl9;exact(w6 (by kernel_rfl) (A0 rfl (A0 rfl ((Ag7 L Q Y s (I1 0 (J0 (W8 L) Q Y (cd [1,1,1,1] Bb) (I6 (W8 L) ag3))) a b L c 0 (c.length:Int) 0).trans (by kernel_rfl)))))
theorem B31(d:Nat)(s0):evC (W8 L) (d+1) W Y 148 [pS s0] [] s=Bl9 L s0 (λa b=>some (.tup [p16 a,pB b],[],s)):=
 (evE (fn:=ag3) (by kernel_rfl)).trans (w6 (by kernel_rfl) (B30 L (evC (W8 L) d) Y s (cd [1,1,1,0,1,0,0,1,1,0,0,1,1,0,1] Bb) (Ag6 L (evC (W8 L) d) Y s) s0))
noncomputable abbrev Au3:Code:=E5 ah4
noncomputable def Js(L:Nat):Cfg:=D1 L [134] (A3 [(6,[1,2,0,0,0,10,0,0])]) [(98,Qu),(148,Bf6),(149,Cf1)] (A3 [(16,[4,0]),(15,[1,4,0,10,0,0]),(14,[6]),(13,[4,0]),(12,[6,5,39]),(11,[1,4,0,0,3,0]),(10,[1,4,0,10,0,0]),(9,[1,4,0,0,0,0,7,0,0,9]),(8,[1,4,0,0,0,0,0,6,0,0]),(7,[1,4,0,0,0,8,0,0]),(6,[1,4,0,10,0,0,0]),(5,[1,4,0,10,0,0]),(4,[1,4,0]),(3,[0,0,4]),(2,[4,0]),(1,[0,0,13]),(0,[0,0])]) [148,149] (A3 [(0,[6]),(1,[1,4,0,10,0,0])]) (some [4,0]) [] [] []
noncomputable def Cl{R:Type}(L n:Nat)(a:Bool)(c:LL)(l b:Int)(d:LL)(f:LL->Option R)(g:LL->Option R):Option R:=match n with|0=>none|n+1=>cond (ltI b l) (cond (inR b c.length) (cond (okE Jc c (j8 b) 0) (cond (A2 (c9 (gX c (j8 b) 0))) (vl (↑(Cn (grp (gX c (j8 b) 0))):Int) λh=>cond (p7 (grp (gX c (j8 b) 0))) (cond (I4 (d.length+1)) (Cl L n a c l (A4 (b+1)) (d++[[(SV.int .u16 h)]]) f g) none) (cond (A2 (c9 (gX c (j8 b) 0))) (vl (↑(Cn (v4B (gX c (j8 b) 0))):Int) λe=>cond (not (p7 (v4B (gX c (j8 b) 0)))) (f d) (cond (not a) (f d) (vl (A4 ((c.length:Int)-1)) λi=>cond (ltI b i) (f d) (vl (HG .u32 e (16:Int)) λj=>cond (I4 (d.length+2)) (g (d++[[(SV.int .u16 (Ua j))],[(SV.int .u16 (Ua e))]])) none)))) none)) none) none) none) (g d)
theorem VZ(n last0 l1 n2 n3 l4):G1 1 ((Js L).keep 6) (bd (Js L) Q Y (cd [1,0,1,1,1,1,0,1,0,0] Au3)) n ⟨gp [(1,pB last0),(4,.fl 0),(0,.s (.sl false false 1 l1)),(10,.s (.sl false false 1 l1)),(0,pI n2),(0,pI n3)] 42,[.arr true 38 1 l4],s⟩ k =
 Cl L n last0 l1 n2 n3 l4 (λa=>k .ret ⟨gp [(4,.fl 1),(0,pB false)] 57,[.arr true 38 1 a,.arr true 38 1 []],s⟩) (λa=>k (.exit 0) ⟨gp [(6,.fl 0)] 56,[.arr true 38 1 a],s⟩):=by
 induction n generalizing last0 l1 n2 n3 l4 with
 | zero=>rfl
 | succ n b=>rw[Cl];simp only[<-b];kernel_rfl
noncomputable def Av4{R:Type}(L:Nat)(e:By)(a:Bool)(f:LL->Option R)(g:LL->Option R):Option R:=cond (e==[]) (f []) (cond (A2 e.length) (cond (1==1) (vl (A6 (pcs (j1 ([58]:List UInt8) 0 0) e)) λb=>Cl L L a b (b.length:Int) 0 [] (λd=>g d) (λc=>f c)) none) none)
theorem Bm0(d:Nat)(s0 last1):evC (Js L) (d+1) W Y 134 [pS s0,pB last1] [] s=Av4 L s0 last1 (λb=>some (.tup [.fl 0,pB true],[.arr true 38 1 b],s)) (λb=>some (.tup [.fl 1,pB false],[.arr true 38 1 b,.arr true 38 1 []],s)):=by refine(evE (fn:=ah4) (by kernel_rfl)).trans ?_;generalize evC (Js L) d=Q;unfold Av4;exact(w6 (by kernel_rfl) (A0 rfl (A0 (A0 (A5 λa=>((VZ L Q Y s (I1 0 (J0 (Js L) Q Y (cd [1,0,1,1,1,1,1] Au3) (I6 (Js L) ah4))) L last1 a (a.length:Int) 0 []).trans (by kernel_rfl))) rfl) rfl)))
noncomputable abbrev Bi2:Code:=E5 ag1
noncomputable def Xh(L:Nat):Cfg:=D1 L [116] (A3 []) [(31,Aa4),(134,As9)] (A3 [(10,[2,0]),(9,[2,1]),(8,[2,1,5]),(7,[2,0]),(6,[2,1,3,1,45]),(5,[2,1,2,0,0,0,0,0]),(4,[2,1,2,0,0,0,0]),(3,[2,1,1,0,0,0]),(2,[2,1,0,0,0]),(1,[0,1,1]),(0,[0,1])]) [31] (A3 []) (some [2,0]) [] [] []
noncomputable def Nb{R:Type}(p o d:LL)(q:LL->LL->Option R):Option R:=cond (decide (d.length=8)) (cond (decide (8<=d.length)) (vl ((aa2 0 d)++((aa2 8 p)++(af1 (0+(min p.length 8)) d))) λc=>vl (A4 ((8:Int)-(o.length:Int))) λb=>cond (decide (c.length=8)) (cond (O6 b (8:Int) 8) (cond (decide (((j8 b)+(8-(j8 b)))<=c.length)) (vl ((aa2 (j8 b) c)++((aa2 (8-(j8 b)) o)++(af1 ((j8 b)+(min o.length (8-(j8 b)))) c))) λa=>cond ((decide (8=(a.length*1)))&&(okS ⟨true,true,[.int .u16,.int .u16,.int .u16,.int .u16,.int .u16,.int .u16,.int .u16,.int .u16]⟩ (j2 a) 0)) (vl (SV.gI (j1 (j2 a) 0 SV.nilp)) λf=>vl (SV.gI (j1 (j2 a) 1 SV.nilp)) λg=>vl (SV.gI (j1 (j2 a) 2 SV.nilp)) λh=>vl (SV.gI (j1 (j2 a) 3 SV.nilp)) λi=>vl (SV.gI (j1 (j2 a) 4 SV.nilp)) λj=>vl (SV.gI (j1 (j2 a) 5 SV.nilp)) λl=>vl (SV.gI (j1 (j2 a) 6 SV.nilp)) λm=>vl (SV.gI (j1 (j2 a) 7 SV.nilp)) λn=>cond (decide (8=(d.length*1))) (vl (Q7 1 d.length [(SV.int .u16 f),(SV.int .u16 g),(SV.int .u16 h),(SV.int .u16 i),(SV.int .u16 j),(SV.int .u16 l),(SV.int .u16 m),(SV.int .u16 n)]) λe=>q e a) none) none) none) none) none) none) none
abbrev ZA(b:Code):Prop:=∀(k:Out->St W->Option R) x_z0 x1 y_z2 y3 b4 l5,A7 (Xh L) Q Y b ⟨gp [(2,.ptr 0 0 0),(1,.ptr 1 0 0),(3,.s (.sl x_z0 x_z0 1 x1)),(1,.s (.sl y_z2 y_z2 1 y3)),(45,pB b4)] 11,[.arr false 39 1 l5,.arr false 39 1 l5],s⟩ k=Nb x1 y3 l5 (λa c=>k .ret ⟨gp [(2,.ptr 0 0 0),(0,pB true)] 64,[.arr false 39 1 a,.arr false 39 1 c],s⟩)
theorem Be3:ZA (R:=R) L Q Y s (cd [1,1,1,1,1,1,1] Bi2):=by intro k a e b f c d;unfold Nb;kernel_rfl
noncomputable def v6p{R:Type}(L:Nat)(h:By)(g:Int->Int->Int->Int->Int->Int->Int->Int->Bool->LL->LL->Option R):Option R:=cond (A2 h.length) (vl ((y5 h ([58,58]:List UInt8))).1 λj=>vl (((y5 h ([58,58]:List UInt8))).2).1 λe=>cond (A2 j.length) (vl (G4 (gvs j (not (((y5 h ([58,58]:List UInt8))).2).2))) λf=>cond (A2 e.length) (vl (A4 ((f.length:Int)+(↑(c9 (G4 (gvs e true))):Int))) λi=>cond (not (p7 (Ck j (not (((y5 h ([58,58]:List UInt8))).2).2)))) (g 0 0 0 0 0 0 0 0 false (j7 8 [(SV.int .u16 (0:Int))]) (j7 8 [(SV.int .u16 (0:Int))])) (cond (not (p7 (Ck e true))) (g 0 0 0 0 0 0 0 0 false (j7 8 [(SV.int .u16 (0:Int))]) (j7 8 [(SV.int .u16 (0:Int))])) (cond (not (((y5 h ([58,58]:List UInt8))).2).2) (cond (i !=8) (g 0 0 0 0 0 0 0 0 false (j7 8 [(SV.int .u16 (0:Int))]) (j7 8 [(SV.int .u16 (0:Int))])) (cond (((y5 h ([58,58]:List UInt8))).2).2 (cond (ltI 7 i) (g 0 0 0 0 0 0 0 0 false (j7 8 [(SV.int .u16 (0:Int))]) (j7 8 [(SV.int .u16 (0:Int))])) (Nb f (G4 (gvs e true)) (j7 8 [(SV.int .u16 (0:Int))]) (λa l=>cond ((decide (8=(a.length*1)))&&(okS ⟨true,true,[.int .u16,.int .u16,.int .u16,.int .u16,.int .u16,.int .u16,.int .u16,.int .u16]⟩ (j2 a) 0)) (g (SV.gI (j1 (j2 a) 0 SV.nilp)) (SV.gI (j1 (j2 a) 1 SV.nilp)) (SV.gI (j1 (j2 a) 2 SV.nilp)) (SV.gI (j1 (j2 a) 3 SV.nilp)) (SV.gI (j1 (j2 a) 4 SV.nilp)) (SV.gI (j1 (j2 a) 5 SV.nilp)) (SV.gI (j1 (j2 a) 6 SV.nilp)) (SV.gI (j1 (j2 a) 7 SV.nilp)) true a l) none))) (Nb f (G4 (gvs e true)) (j7 8 [(SV.int .u16 (0:Int))]) (λb m=>cond ((decide (8=(b.length*1)))&&(okS ⟨true,true,[.int .u16,.int .u16,.int .u16,.int .u16,.int .u16,.int .u16,.int .u16,.int .u16]⟩ (j2 b) 0)) (g (SV.gI (j1 (j2 b) 0 SV.nilp)) (SV.gI (j1 (j2 b) 1 SV.nilp)) (SV.gI (j1 (j2 b) 2 SV.nilp)) (SV.gI (j1 (j2 b) 3 SV.nilp)) (SV.gI (j1 (j2 b) 4 SV.nilp)) (SV.gI (j1 (j2 b) 5 SV.nilp)) (SV.gI (j1 (j2 b) 6 SV.nilp)) (SV.gI (j1 (j2 b) 7 SV.nilp)) true b m) none)))) (cond (((y5 h ([58,58]:List UInt8))).2).2 (cond (ltI 7 i) (g 0 0 0 0 0 0 0 0 false (j7 8 [(SV.int .u16 (0:Int))]) (j7 8 [(SV.int .u16 (0:Int))])) (Nb f (G4 (gvs e true)) (j7 8 [(SV.int .u16 (0:Int))]) (λc n=>cond ((decide (8=(c.length*1)))&&(okS ⟨true,true,[.int .u16,.int .u16,.int .u16,.int .u16,.int .u16,.int .u16,.int .u16,.int .u16]⟩ (j2 c) 0)) (g (SV.gI (j1 (j2 c) 0 SV.nilp)) (SV.gI (j1 (j2 c) 1 SV.nilp)) (SV.gI (j1 (j2 c) 2 SV.nilp)) (SV.gI (j1 (j2 c) 3 SV.nilp)) (SV.gI (j1 (j2 c) 4 SV.nilp)) (SV.gI (j1 (j2 c) 5 SV.nilp)) (SV.gI (j1 (j2 c) 6 SV.nilp)) (SV.gI (j1 (j2 c) 7 SV.nilp)) true c n) none))) (Nb f (G4 (gvs e true)) (j7 8 [(SV.int .u16 (0:Int))]) (λd o=>cond ((decide (8=(d.length*1)))&&(okS ⟨true,true,[.int .u16,.int .u16,.int .u16,.int .u16,.int .u16,.int .u16,.int .u16,.int .u16]⟩ (j2 d) 0)) (g (SV.gI (j1 (j2 d) 0 SV.nilp)) (SV.gI (j1 (j2 d) 1 SV.nilp)) (SV.gI (j1 (j2 d) 2 SV.nilp)) (SV.gI (j1 (j2 d) 3 SV.nilp)) (SV.gI (j1 (j2 d) 4 SV.nilp)) (SV.gI (j1 (j2 d) 5 SV.nilp)) (SV.gI (j1 (j2 d) 6 SV.nilp)) (SV.gI (j1 (j2 d) 7 SV.nilp)) true d o) none)))))) none) none) none
theorem Cm9(b:Code)(a:ZA (R:=PV × List Blk × W) L Q Y s b)(f:By):A7 (Xh L) Q Y (cd [] (K3 [1,1,1,1,1,1,1] b Bi2)) ⟨[pS f]++tps 67,[],s⟩ (I6 (Xh L) ag1)=v6p L f (λl m n o p q r t r8 j i=>some (.tup [.agg [p16 l,p16 m,p16 n,p16 o,p16 p,p16 q,p16 r,p16 t],pB r8],[.arr false 39 1 j,.arr false 39 1 i],s)):=by unfold v6p;exact let h:=(I6 (Xh L) ag1);(w6 (by kernel_rfl) (A0 (A5 λe=>(A5 λc=>(A0 (A5 λd=>(A0 (A5 λg=>(A0 rfl (A0 rfl (A0 (A0 rfl (A0 (A0 rfl ((a h (w7 (gvs e (not (((y5 f ([58,58]:List UInt8))).2).2))) d (w7 (gvs c true)) (G4 (gvs c true)) (ltI 7 g) (j7 8 [(SV.int .u16 (0:Int))])).trans (by kernel_rfl))) ((a h (w7 (gvs e (not (((y5 f ([58,58]:List UInt8))).2).2))) d (w7 (gvs c true)) (G4 (gvs c true)) false (j7 8 [(SV.int .u16 (0:Int))])).trans (by kernel_rfl)))) (A0 (A0 rfl ((a h (w7 (gvs e (not (((y5 f ([58,58]:List UInt8))).2).2))) d (w7 (gvs c true)) (G4 (gvs c true)) (ltI 7 g) (j7 8 [(SV.int .u16 (0:Int))])).trans (by kernel_rfl))) ((a h (w7 (gvs e (not (((y5 f ([58,58]:List UInt8))).2).2))) d (w7 (gvs c true)) (G4 (gvs c true)) false (j7 8 [(SV.int .u16 (0:Int))])).trans (by kernel_rfl))))))) rfl)) rfl))) rfl))
theorem Cn0(d:Nat)(s0):evC (Xh L) (d+1) W Y 116 [pS s0] [] s=v6p L s0 (λc e f g h i j l r8 b a=>some (.tup [.agg [p16 c,p16 e,p16 f,p16 g,p16 h,p16 i,p16 j,p16 l],pB r8],[.arr false 39 1 b,.arr false 39 1 a],s)):=
 (evE (fn:=ag1) (by kernel_rfl)).trans (w6 (by kernel_rfl) (Cm9 L (evC (Xh L) d) Y s (cd [1,1,1,1,1,1,1] Bi2) (Be3 L (evC (Xh L) d) Y s) s0))
noncomputable abbrev Nl:Code:=E5 ai6
noncomputable def V9(L:Nat):Cfg:=D1 L [44] (A3 [(6,[1,0,0,0,0,0,0,0]),(3,[1,0,0,0,0,2])]) [] (A3 [(11,[2,0]),(10,[1,2,0,2]),(9,[1,2,0,2]),(8,[1,2,0,0,0,0,18]),(7,[1,2,0,0,0,0]),(6,[1,2,0,0,0,0,13]),(5,[1,2,0,0,0,0]),(4,[1,2,0,0,1]),(3,[1,2,0,2,0]),(2,[1,2,0,2]),(1,[1,2,0]),(0,[1])]) [] (A3 [(0,[4,0]),(1,[1,2,0,2]),(2,[1,2,0,0,0,0]),(3,[1,2,0,0,0,0])]) (some [2,0]) [] [] []
noncomputable def Gc{R:Type}(L n:Nat)(b a c d:Int)(e:LL)(f:Int->Int->Int->Int->LL->Option R):Option R:=match n with|0=>none|n+1=>cond (ltI (A4 (c+d)) (8:Int)) (cond (inR (A4 (c+d)) 8) (cond (okE ⟨true,false,[.int .u16]⟩ e (j8 (A4 (c+d))) 0) (vl (gE e (j8 (A4 (c+d))) 0) λg=>cond (g==0) (Gc L n b a c (A4 (d+1)) e f) (f b a c d e)) none) none) (f b a c d e)
theorem ZN(n b a c e d):G1 1 ((V9 L).keep 6) (bd (V9 L) Q Y (cd [1,1,0,1,0,0,1,1,0,0,1,1,0,0,0] Nl)) n ⟨gp [(1,.ptr 0 0 0),(2,pI b),(0,pI a),(0,pI c),(0,pI e),(0,pI c)] 24,[.arr false 39 1 d],s⟩ k =
 Gc L n b a c e d (λb a c e d=>k (.exit 2) ⟨gp [(1,.ptr 0 0 0),(2,pI b),(0,pI a),(0,pI c),(0,pI e),(0,pI c)] 24,[.arr false 39 1 d],s⟩):=by
 induction n generalizing b a c e d with
 | zero=>rfl
 | succ n f=>rw[Gc];simp only[<-f];kernel_rfl
noncomputable def Cq{R:Type}(L n:Nat)(e b j:Int)(i:LL)(h:Int->Int->LL->Option R):Option R:=match n with|0=>none|n+1=>cond (ltI j 8) (Gc L L e b j 0 i (λd a c g f=>cond (ltI a g) (Cq L n c g (A4 (c+1)) f h) (Cq L n d a (A4 (c+1)) f h))) (h e b i)
theorem ZO(n b a n2 l3):G1 1 ((V9 L).keep 3) (bd (V9 L) Q Y (cd [1,1,0,1,0,0] Nl)) n ⟨gp [(1,.ptr 0 0 0),(2,pI b),(0,pI a),(2,pI n2)] 24,[.arr false 39 1 l3],s⟩ k =
 Cq L n b a n2 l3 (λb a i=>k (.exit 0) ⟨gp [(4,pI b),(0,pI a)] 27,[.arr false 39 1 i],s⟩):=by
 induction n generalizing b a n2 l3 with
 | zero=>rfl
 | succ n h=>rw[Cq];exact(w6 (by kernel_rfl) (A0 ((ZN L Q Y s (I1 2 (J0 (V9 L) Q Y (cd [1,1,0,1,0,0,1,1,0,0,1,1,1] Nl) (I1 1 (J0 (V9 L) Q Y (cd [1,1,0,1,0,0,1,1,1] Nl) (lpK 1 ((V9 L).keep 3) (bd (V9 L) Q Y (cd [1,1,0,1,0,0] Nl)) n k))))) L b a n2 0 l3).trans (congr rfl (fx5 λe c d g f=>(w6 (by kernel_rfl) (A0 (h d g (A4 (d+1)) f) (h e c (A4 (d+1)) f)))))) rfl))
noncomputable def A04{R:Type}(L:Nat)(d e f g h i j l:Int)(m:Int->Int->LL->Option R):Option R:=Cq L L 0 0 0 [[(SV.int .u16 d)],[(SV.int .u16 e)],[(SV.int .u16 f)],[(SV.int .u16 g)],[(SV.int .u16 h)],[(SV.int .u16 i)],[(SV.int .u16 j)],[(SV.int .u16 l)]] (λb a c=>m b a c)
theorem By6(d:Nat)(a0 a1 a2 a3 a4 a5 a6 a7):evC (V9 L) (d+1) W Y 44 [.agg [p16 a0,p16 a1,p16 a2,p16 a3,p16 a4,p16 a5,p16 a6,p16 a7]] [] s=A04 L a0 a1 a2 a3 a4 a5 a6 a7 (λb c a=>some (.tup [pI b,pI c],[.arr false 39 1 a],s)):=by refine(evE (fn:=ai6) (by kernel_rfl)).trans ?_;generalize evC (V9 L) d=Q;unfold A04;exact(w6 (by kernel_rfl) ((ZO L Q Y s (I1 0 (J0 (V9 L) Q Y (cd [1,1,1] Nl) (I6 (V9 L) ai6))) L 0 0 0 [[(SV.int .u16 a0)],[(SV.int .u16 a1)],[(SV.int .u16 a2)],[(SV.int .u16 a3)],[(SV.int .u16 a4)],[(SV.int .u16 a5)],[(SV.int .u16 a6)],[(SV.int .u16 a7)]]).trans (by kernel_rfl)))
noncomputable abbrev Cf9:Code:=E5 ai7
noncomputable def CO(L:Nat):Cfg:=D1 L [45] (A3 [(3,[2,0,2,0,0])]) [(75,Bf5),(76,MN)] (A3 [(7,[2]),(6,[3,2,0,0]),(5,[3,2,0,0]),(4,[3,1,0,0,0]),(3,[3,2,0,0,0]),(2,[3,2,0,0]),(1,[0,2]),(0,[0])]) [75,76] (A3 [(0,[3]),(1,[3,2,0,0])]) (some [2]) [] [] []
noncomputable def Qk{R:Type}(L n:Nat)(h g:Bool)(c:LL)(f b:Int)(d:LL)(e:LL->Option R):Option R:=match n with|0=>none|n+1=>cond (ltI b f) (cond (inR b c.length) (cond (okE ⟨true,false,[.int .u16]⟩ c (j8 b) 0) (vl (Cn3 (gE c (j8 b) 0)) λa=>cond (ltN a 65536) (cond ((16:Int)==16) (cond (I4 (d.length+1)) (Qk L n h g c f (A4 (b+1)) (d++[[(SV.str (Af (j8 a)))]]) e) none) none) none) none) none) (e d)
theorem Be2(n z0 t1 l2 n3 n4 l5):G1 1 ((CO L).keep 3) (bd (CO L) Q Y (cd [1,1,0,1,0,0] Cf9)) n ⟨gp [(3,.fl 0),(2,.s (.sl z0 t1 1 l2)),(0,pI n3),(0,pI n4)] 12,[.arr true 9 1 l5],s⟩ k =
 Qk L n z0 t1 l2 n3 n4 l5 (λb=>k (.exit 0) ⟨gp [(3,.fl 0)] 17,[.arr true 9 1 b],s⟩):=by
 induction n generalizing z0 t1 l2 n3 n4 l5 with
 | zero=>rfl
 | succ n a=>rw[Qk];simp only[<-a];kernel_rfl
noncomputable def v6j{R:Type}(L:Nat)(c b:Bool)(e:LL)(f:By->LL->Option R):Option R:=Qk L L c b e (e.length:Int) 0 [] (λa=>cond (ab2 a isS) (cond (A2 (c9 (ae7 (x9 elS a) ([58]:List UInt8)))) (cond (A2 a.length) (vl (ae7 (x9 elS a) ([58]:List UInt8)) λd=>f d a) none) none) none)
theorem Cm7(d:Nat)(l_z0 l_t1 l2):evC (CO L) (d+1) W Y 45 [.s (.sl l_z0 l_t1 1 l2)] [] s=v6j L l_z0 l_t1 l2 (λb a=>some (pS b,[.arr true 9 1 a],s)):=by refine(evE (fn:=ai7) (by kernel_rfl)).trans ?_;generalize evC (CO L) d=Q;unfold v6j;exact(w6 (by kernel_rfl) ((Be2 L Q Y s (I1 0 (J0 (CO L) Q Y (cd [1,1,1] Cf9) (I6 (CO L) ai7))) L l_z0 l_t1 l2 (l2.length:Int) 0 []).trans (by kernel_rfl)))
noncomputable def Bi7(L:Nat):Cfg:=D1 L [26] (A3 []) [(44,Au1),(45,Cf3)] (A3 [(4,[2]),(3,[2]),(2,[1,1,0,6]),(1,[1,1,0]),(0,[1])]) [44,45] (A3 []) (some [2]) [] [] []
noncomputable def v6f{R:Type}(L:Nat)(c d e f g h i j:Int)(p:By->LL->Option R):Option R:=cond (ok8 c d e f g h i j) (vl (↑((zGo (n8 c d e f g h i j) 0 0 0)).1:Int) λa=>vl (↑((zGo (n8 c d e f g h i j) 0 0 0)).2:Int) λb=>cond (ltI b 2) (cond (ab2 [[(SV.int .u16 c)],[(SV.int .u16 d)],[(SV.int .u16 e)],[(SV.int .u16 f)],[(SV.int .u16 g)],[(SV.int .u16 h)],[(SV.int .u16 i)],[(SV.int .u16 j)]] Si) (cond (x4 8 8) (vl (Cm (x9 elN [[(SV.int .u16 c)],[(SV.int .u16 d)],[(SV.int .u16 e)],[(SV.int .u16 f)],[(SV.int .u16 g)],[(SV.int .u16 h)],[(SV.int .u16 i)],[(SV.int .u16 j)]])) λo=>p o [[(SV.int .u16 c)],[(SV.int .u16 d)],[(SV.int .u16 e)],[(SV.int .u16 f)],[(SV.int .u16 g)],[(SV.int .u16 h)],[(SV.int .u16 i)],[(SV.int .u16 j)]]) none) none) (cond (O6 0 a 8) (cond (ab2 (aa2 ((j8 a)-0) [[(SV.int .u16 c)],[(SV.int .u16 d)],[(SV.int .u16 e)],[(SV.int .u16 f)],[(SV.int .u16 g)],[(SV.int .u16 h)],[(SV.int .u16 i)],[(SV.int .u16 j)]]) Si) (cond (x4 (c9 (aa2 ((j8 a)-0) [[(SV.int .u16 c)],[(SV.int .u16 d)],[(SV.int .u16 e)],[(SV.int .u16 f)],[(SV.int .u16 g)],[(SV.int .u16 h)],[(SV.int .u16 i)],[(SV.int .u16 j)]])) 8) (vl (Cm (x9 elN (aa2 ((j8 a)-0) [[(SV.int .u16 c)],[(SV.int .u16 d)],[(SV.int .u16 e)],[(SV.int .u16 f)],[(SV.int .u16 g)],[(SV.int .u16 h)],[(SV.int .u16 i)],[(SV.int .u16 j)]]))) λl=>cond (P5 l.length 2) (vl (l++[58,58]) λm=>cond (O6 (A4 (a+b)) (8:Int) 8) (cond (ab2 (aa2 (8-(j8 (A4 (a+b)))) (af1 (j8 (A4 (a+b))) [[(SV.int .u16 c)],[(SV.int .u16 d)],[(SV.int .u16 e)],[(SV.int .u16 f)],[(SV.int .u16 g)],[(SV.int .u16 h)],[(SV.int .u16 i)],[(SV.int .u16 j)]])) Si) (cond (x4 (c9 (aa2 (8-(j8 (A4 (a+b)))) (af1 (j8 (A4 (a+b))) [[(SV.int .u16 c)],[(SV.int .u16 d)],[(SV.int .u16 e)],[(SV.int .u16 f)],[(SV.int .u16 g)],[(SV.int .u16 h)],[(SV.int .u16 i)],[(SV.int .u16 j)]]))) 8) (vl (Cm (x9 elN (aa2 (8-(j8 (A4 (a+b)))) (af1 (j8 (A4 (a+b))) [[(SV.int .u16 c)],[(SV.int .u16 d)],[(SV.int .u16 e)],[(SV.int .u16 f)],[(SV.int .u16 g)],[(SV.int .u16 h)],[(SV.int .u16 i)],[(SV.int .u16 j)]])))) λn=>cond (P5 m.length n.length) (p (m++n) [[(SV.int .u16 c)],[(SV.int .u16 d)],[(SV.int .u16 e)],[(SV.int .u16 f)],[(SV.int .u16 g)],[(SV.int .u16 h)],[(SV.int .u16 i)],[(SV.int .u16 j)]]) none) none) none) none) none) none) none) none)) none
theorem Cm5(d:Nat)(a0 a1 a2 a3 a4 a5 a6 a7):evC (Bi7 L) (d+1) W Y 26 [.agg [p16 a0,p16 a1,p16 a2,p16 a3,p16 a4,p16 a5,p16 a6,p16 a7]] [] s=v6f L a0 a1 a2 a3 a4 a5 a6 a7 (λb a=>some (pS b,[.arr false 39 1 a],s)):=by refine(evE (fn:=Tryz.f26) (by kernel_rfl)).trans ?_;generalize evC (Bi7 L) d=Q;unfold v6f;kernel_rfl
noncomputable def CI(L:Nat):Cfg:=D1 L [130] (A3 []) [] (A3 [(1,[2]),(0,[0])]) [] (A3 []) (some [2]) [] [] []
noncomputable def QZ{R:Type}(L:Nat)(n0:Int)(a:Bool->Option R):Option R:=cond (not (ltI n0 0)) (cond (not (ltI 1114111 n0)) (cond (ltI n0 55296) (a true) (a (ltI 57343 n0))) (a false)) (a false)
theorem Ba0(d:Nat)(n0):evC (CI L) (d+1) W Y 130 [pI n0] [] s=QZ L n0 (λa=>some (pB a,[],s)):=by refine(evE (fn:=Tryz.f130) (by kernel_rfl)).trans ?_;generalize evC (CI L) d=Q;unfold QZ;kernel_rfl
noncomputable abbrev Ln:Code:=E5 ag2
noncomputable def U5(L:Nat):Cfg:=D1 L [132] (A3 [(6,[0,5,0])]) [] (A3 [(9,[6]),(8,[0,6]),(7,[0,6]),(6,[0,6,11]),(5,[0,6]),(4,[0]),(2,[0,0]),(3,[0,0]),(1,[0,0,6]),(0,[0,0,0])]) [] (A3 [(0,[0,6]),(1,[0,6])]) (some [6]) [] [] []
noncomputable def Es{R:Type}(L n:Nat)(a b:Int)(e:Int->Int->Option R):Option R:=match n with|0=>none|n+1=>cond (ltI 455 a) (vl (A4 (ad3 a (35:Int))) λc=>vl (A4 (b+36)) λd=>Es L n c d e) (e a b)
theorem QT(n a b):G1 0 ((U5 L).keep 6) (bd (U5 L) Q Y (cd [1,1,1,1,0,0,0] Ln)) n ⟨gp [(0,pI a),(6,pI b)] 23,[],s⟩ k =
 Es L n a b (λa b=>k (.exit 0) ⟨gp [(0,pI a),(6,pI b)] 23,[],s⟩):=by
 induction n generalizing a b with
 | zero=>rfl
 | succ n c=>rw[Es];simp only[<-c];kernel_rfl
noncomputable def Er{R:Type}(L:Nat)(c b:Int)(i:Int->Option R):Option R:=cond (b !=0) (vl (A4 (ad3 c b)) λh=>Es L L (A4 (c+h)) 0 (λa e=>vl (A4 ((36:Int)*a)) λf=>vl (A4 (a+38)) λd=>cond (d !=0) (vl (A4 (ad3 f d)) λg=>i (A4 (e+g))) none)) none
abbrev Yi(b:Code):Prop:=∀(k:Out->St W->Option R) delta0 count1,A7 (U5 L) Q Y b ⟨gp [(0,pI delta0),(0,pI count1)] 29,[],s⟩ k=Er L delta0 count1 (λn0=>k .ret ⟨gp [(6,pI n0)] 24,[],s⟩)
theorem QS:Yi (R:=R) L Q Y s (cd [1,1] Ln):=by intro k a b;unfold Er;exact(w6 (by kernel_rfl) (A0 (A5 λc=>((QT L Q Y s (I1 0 (J0 (U5 L) Q Y (cd [1,1,1,1,1] Ln) k)) L (A4 (a+c)) 0).trans (by kernel_rfl))) rfl))
noncomputable def EW{R:Type}(L:Nat)(b a:Int)(c:Bool)(h:Int->Option R):Option R:=cond c (vl (A4 (ad3 b (700:Int))) λf=>Er L f a (λd=>h d)) (vl (A4 (ad3 b (2:Int))) λg=>Er L g a (λe=>h e))
theorem A85(e:Code)(a:Yi (R:=PV × List Blk × W) L Q Y s e)(c b:Int)(d:Bool):A7 (U5 L) Q Y (cd [] (K3 [1,1] e Ln)) ⟨[pI c,pI b,pB d]++tps 28,[],s⟩ (I6 (U5 L) ag2)=EW L c b d (λi=>some (pI i,[],s)):=by unfold EW;exact let h:=(I6 (U5 L) ag2);(w6 (by kernel_rfl) (A0 (A5 λf=>((a h f b).trans (by kernel_rfl))) (A5 λg=>((a h g b).trans (by kernel_rfl)))))
theorem A86(d:Nat)(delta0 count1 first2):evC (U5 L) (d+1) W Y 132 [pI delta0,pI count1,pB first2] [] s=EW L delta0 count1 first2 (λa=>some (pI a,[],s)):=
 (evE (fn:=ag2) (by kernel_rfl)).trans (w6 (by kernel_rfl) (A85 L (evC (U5 L) d) Y s (cd [1,1] Ln) (QS L (evC (U5 L) d) Y s) delta0 count1 first2))
noncomputable def Ad5(L:Nat):Cfg:=D1 L [147] (A3 []) [] (A3 [(3,[2]),(2,[2]),(1,[0,3]),(0,[0])]) [] (A3 []) (some [2]) [] [] []
noncomputable def B87{R:Type}(L:Nat)(a:Int)(d:Int->Option R):Option R:=cond (ltI a 26) (vl (wu8 (A4 ((97:Int)+a))) λb=>d b) (vl (A4 ((A4 ((48:Int)+a))-26)) λc=>d (wu8 c))
theorem B88(d:Nat)(d0):evC (Ad5 L) (d+1) W Y 147 [pI d0] [] s=B87 L d0 (λa=>some (p8 a,[],s)):=by refine(evE (fn:=Tryz.f147) (by kernel_rfl)).trans ?_;generalize evC (Ad5 L) d=Q;unfold B87;kernel_rfl
noncomputable abbrev Ph:Code:=E5 ag4
noncomputable def Hl(L:Nat):Cfg:=D1 L [153] (A3 []) [] (A3 [(7,[2]),(2,[2]),(4,[2]),(6,[2]),(5,[0,22]),(3,[0,12]),(1,[0,2]),(0,[0])]) [] (A3 [(0,[])]) (some [2]) [] [] []
noncomputable def Ta{R:Type}(a:Int)(g:Bool)(e:Int->Option R)(f:Int->Bool->Option R):Option R:=cond g (vl (A4 (wu8 (a-65))) λb=>e b) (cond (not (ltI a 48)) (cond (not (ltI 57 a)) (vl (A4 (wu8 (a-48))) λc=>vl (A4 (c+26)) λd=>e d) (f a (not (ltI 57 a)))) (f a false))
abbrev JU(b:Code):Prop:=∀(k:Out->St W->Option R) a c,A7 (Hl L) Q Y b ⟨gp [(0,p8 a),(12,pB c)] 20,[],s⟩ k=Ta a c (λn0=>k .ret ⟨gp [(2,pI n0)] 31,[],s⟩) (λa c=>k .normal ⟨gp [(0,p8 a),(22,pB c)] 10,[],s⟩)
theorem An3:JU (R:=R) L Q Y s (cd [1,0,0,1,1,1] Ph):=by intro k a b;unfold Ta;kernel_rfl
noncomputable def Tb{R:Type}(a:Int)(l:Bool)(f:Int->Option R)(j:Int->Bool->Option R):Option R:=cond l (vl (A4 (wu8 (a-97))) λg=>f g) (cond (not (ltI a 65)) (Ta a (not (ltI 90 a)) (λh=>f h) (λb c=>j b c)) (Ta a false (λi=>f i) (λd e=>j d e)))
abbrev Wp(b:Code):Prop:=∀(k:Out->St W->Option R) a c,A7 (Hl L) Q Y b ⟨gp [(0,p8 a),(2,pB c)] 30,[],s⟩ k=Tb a c (λn0=>k .ret ⟨gp [(2,pI n0)] 31,[],s⟩) (λa c=>k .normal ⟨gp [(0,p8 a),(22,pB c)] 10,[],s⟩)
theorem An4(a:Code)(b:JU (R:=R) L Q Y s a):Wp (R:=R) L Q Y s (cd [1,0,0,1] (K3 [1,0,0,1,1,1] a Ph)):=by intro k c d;unfold Tb;simp only[<-b k];kernel_rfl
theorem An5:Wp (R:=R) L Q Y s (cd [1,0,0,1] Ph):=by intro k a b;exact w6 (by kernel_rfl) (An4 L Q Y s (cd [1,0,0,1,1,1] Ph) (An3 L Q Y s) k a b)
noncomputable def Bq3{R:Type}(L:Nat)(c:Int)(d:Int->Option R):Option R:=cond (not (ltI c 97)) (Tb c (not (ltI 122 c)) (λa=>d a) (λe f=>d (-1))) (Tb c false (λb=>d b) (λg h=>d (-1)))
theorem B98(b:Code)(a:Wp (R:=PV × List Blk × W) L Q Y s b)(c:Int):A7 (Hl L) Q Y (cd [] (K3 [1,0,0,1] b Ph)) ⟨[p8 c]++tps 33,[],s⟩ (I6 (Hl L) ag4)=Bq3 L c (λe=>some (pI e,[],s)):=by unfold Bq3;exact let d:=(I1 0 (J0 (Hl L) Q Y (cd [1,1] Ph) (I6 (Hl L) ag4)));(w6 (by kernel_rfl) (A0 ((a d c (not (ltI 122 c))).trans (by kernel_rfl)) ((a d c false).trans (by kernel_rfl))))
theorem B99(d:Nat)(b0):evC (Hl L) (d+1) W Y 153 [p8 b0] [] s=Bq3 L b0 (λa=>some (pI a,[],s)):=
 (evE (fn:=ag4) (by kernel_rfl)).trans (w6 (by kernel_rfl) (B98 L (evC (Hl L) d) Y s (cd [1,0,0,1] Ph) (An5 L (evC (Hl L) d) Y s) b0))
end
end
end Go.Proofs.YtiodfnbjmmdlmaaGreatDoor.E
