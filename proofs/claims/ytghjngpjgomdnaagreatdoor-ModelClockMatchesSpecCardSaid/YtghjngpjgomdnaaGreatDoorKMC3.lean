/-
  Parts of the proof, merged by a program of the prover's own; no condition.
-/
import Derived.Test.YtghjngpjgomdnaaGreatDoorKMC2
import Derived.Deep.Draws
import Derived.JoinedCond
import Derived.KernelRfl
import Derived.LaidMore
import Derived.LaidSub
import Derived.Laws.RangeString
import Derived.Lay
import Derived.Lib.IndexMore
import Derived.Lib.ItoaNum
import Derived.Lib.Join
import Derived.Lib.LaidTab
import Derived.Lib.LaidU8
import Derived.Lib.LastIndexLaws
import Derived.Lib.RuneCount
import Derived.Lib.TrailingZeros
import Derived.Lib.ValidU
import Derived.OpenShut
import Derived.ProofKit
import Derived.RangeFuncLeaves
import Derived.RangeFuncNested
import Derived.Shelf.Vars
import Derived.Sort.Grow
import Derived.Test.YtghjngpjgomdnaaGreatDoorChecked
import Derived.Test.YtghjngpjgomdnaaGreatDoorProg
import Derived.Test.YtghjngpjgomdnaaGreatDoorRows
import Derived.WalkKit
open List renaming getElem?_eq_getElem->a7,length->a8,replicate->j3,getD_eq_getElem?_getD->j5,getElem_mem->j6,isPrefixOf->o6,getD->o9,getElem?_eq_none->p6,mem_append->r9,all_eq_true->s5,getElem_map->s6,length_map->s8,mem_cons->u4,eq_nil_iff_forall_not_mem->u6,isEmpty->u7,take_of_length_le->u9,map->v7,isPrefixOf_iff_prefix->v8,getD_cons_zero->x3,getElem?_map->y7,drop_append_of_le_length->aa2,append_nil->aa5,map_append->aa6,count_eq_zero->ab0,length_append->ab1,getElem_append_left->ab6,cons_append->ac1,getElem?_cons_zero->ac2,prefix_iff_eq_take->ac3,suffix_iff_eq_drop->ac4,dropLast_eq_take->ac9,length_singleton->ad0,all->ad3,drop_zero->ad4,mem_cons_of_mem->ad5,mem_of_mem_drop->ad6,set->ad7,getD_cons_succ->ae0,getElem?_range->ae1,length_pos_iff->ae2,replicate_succ->ae3,length_cons->af1,count_cons->af7,isSuffixOf->af8,nodup_cons->af9,drop_drop->ag2,mapM_cons->ag3,range->ag4,take_add->ag8,all_map->ah3,map_map->ah4
open Option.some renaming injEq->b8,inj->o7
open Option renaming bind_some->b9,bind_none->c9,isSome->o0,isSome_iff_exists->x4,map_some->aa7
open Go.Proofs.Tryz renaming prog->j0,checked->ae8,f120->af2,f141->af3,f142->af4,f172->af5,f89->ag5,f119->ag9,f136->ah0,f53->ai5,f68->ai6
open Int renaming toNat->j2,toNat_natCast->k9,eq_ofNat_of_zero_le->p9,tdiv->ab9
open Bool renaming and_eq_true->j4,not_false->o5,not_true->p5,false_eq_true->aa9,eq_iff_iff->ac7,and_true->ag7
open Eq renaming trans->j7
open Nat renaming lt_of_lt_of_le->j8,le_refl->p4,eq_of_beq_eq_true->p7,beq->s9,ble->u5,le_trans->w6,mod_eq_of_lt->w8,le_of_not_lt->ac5,blt->ah5,zero_add->ah6,zero_mul->ah7
open Go.World renaming putObj_heap_other->j9,laidAll->x5,putObj_heap_same->y8,alloc_heap_new->aa3,cells?_some->ae9,cell?->ai8
open Go.IntKind renaming wrap->o3,signed->x8,bits->aa8
open Prod.mk renaming injEq->o8
open Array renaming getElem?_eq_some_iff->s7,replicate->aa4,getElem?_eq_none->ac6,length_toList->ad9
open UInt8 renaming ofNat->u0,le_iff_toNat_le->y9,toNat->ai7
open Go.Value renaming okWide->w9,int->aa0
open Go.DataW renaming trod->x6,TrodAll->aa1,Whole->ai0
open Go.Lib renaming tabData->x7,VarReads->x9,deBruijn64tab->ab4,index->ac0,acceptData->ad1,decodeL->ad2,decDigits->ae4,firstTab->ae5,pow10Tab->ae6,occAt->af0,index_spec->ag1,join->ai1
open Go.Lib.laidMet renaming reads->y5
open Go.Fence renaming wide->z7
open Classical renaming byContradiction->ab2,choose->ab7,choose_spec->ac8
open Go.MakeChecks renaming laidMetH_plain->ab3
open Go.Oper renaming uponIn_enter->ab5
open Go.Deferred renaming ofValue->ab8
open Go.Result renaming andThen->ad8
open Go.Sem renaming run_bind->ae7
open Go.Ending renaming returned->af6
open Go.Code renaming rangeFunc->ag0
open BitVec renaming ofInt->ah1
open Go.Instr renaming loadAt->ah2
open BEq renaming comm->ah9
namespace Go.Proofs.YtghjngpjgomdnaaGreatDoor.E
set_option linter.all false
section
open Go
section
variable {K R : Type} {r : R} {C : Cfg} {I : K -> (Nat -> Prop) -> (Nat -> Prop) -> World -> Prop} {Γ Γ' : Ctx} {Z O : Nat -> Prop} {L : St K} {a : Act} {w w' : World} {J : E2} {W : Yh K} {Y : Value} {H H' : List Blk} {tmps : Array Value}
theorem Ap8{sh sh':Nat->Option Shp}{v:PV}{V:Value}(h:v.sv?.isSome=true)(b:VP Γ sh w v V)(c:∀g,Γ.St g->Γ'.St g):VP Γ' sh' w v V/\v.nms=[]:=by
 cases v<;>simp[PV.sv?] at h
 ·exact⟨.s _ _ (b.inv_s.mono (λ_ _=>rfl) c),rfl⟩
 ·rw[b.inv_nsl];exact⟨.nsl,rfl⟩
theorem HB:∀{l:List PV} {c:List SV},Dg l=some c->∀v∈l,v.sv?.isSome=true
 | [],_,_,v,b=>by simp at b
 | x::l,c,h,v,b=>by
  simp only[Dg] at h;split at h
  ·rename_i p q d e;rcases u4.1 b with rfl|b
   ·rw[d];rfl
   ·exact HB e v b
  ·cases h
theorem BN{sh sh':Nat->Option Shp}(o:∀g,Γ.St g->Γ'.St g):∀{args:List PV},Er args=true->∀v∈args,v.nms=[]/\∀V,VP Γ sh w v V->VP Γ' sh' w v V
 | [],_,v,f=>by simp at f
 | x::r,h,v,f=>by
  have key:(x.nms=[]/\∀V,VP Γ sh w x V->VP Γ' sh' w x V)/\Er r=true:=by
   unfold Er at h;split at h
   ·rename_i d;cases d
   ·rename_i d;cases d;exact⟨⟨rfl,λV n=>(Ap8 (Γ:=Γ) (Γ':=Γ') rfl n o).1⟩,h⟩
   ·rename_i l t d;cases d;simp only[j4,x4] at h;obtain⟨⟨y,i⟩,h⟩:=h;refine⟨⟨?_,λV n=>?_⟩,h⟩
    ·simp only[PV.nms];rw[u6];intro c b;obtain⟨j,m,b⟩:=B7.1 b;have p:=HB i _ (j6 m);generalize l[j]=u at p b;cases u<;>simp[PV.sv?] at p<;>simp[PV.nms] at b
    ·obtain⟨A,rfl,q,b⟩:=n.inv_agg;refine VP.mk_agg q λj m=>?_
     obtain⟨U,e,k⟩:=b j m;exact⟨U,e,(Ap8 (HB i _ (j6 m)) k o).1⟩
   ·cases h
  rcases u4.1 f with rfl|f
  ·exact key.1
  ·exact BN o key.2 v f
theorem Nw:∀(c:List Nat) (b:List PV) (d:List Value) {sl:List PV} {tmps:Array Value},SR Γ H w sl tmps->b.length=d.length->(∀j (h:j<b.length),∃U,d[j]? = some U/\VP Γ (A0 H) w (b[j]) U)->(∀v∈b,v.nms=[])->
  SR Γ H w (Fh sl c b) ((c.zip d).foldl (λt (p:Nat × Value)=>t.setIfInBounds p.1 p.2) tmps)
 | [],b,d,sl,tmps,h,_,_,_=>by cases b<;>exact h
 | t::c,[],[],sl,tmps,h,_,_,_=>h
 | t::c,[],_::_,_,_,_,f,_,_=>by simp at f
 | t::c,_::_,[],_,_,_,f,_,_=>by simp at f
 | t::c,v::b,V::d,sl,tmps,h,f,g,i=>by
  have l:VP Γ (A0 H) w v V:=by
   obtain⟨U,e,k⟩:=g 0 (by simp);simp only[ac2,b8] at e;subst e;exact k
  have m:=h.put (ds:=[]) ({ op:=.move (.const undef),dst:=some t,guard:=none,type:=0,after:=#[],pos:=default }:Oper) l (by rw[i v (by simp)];simp);have n:SR Γ H w (sl.set t v) (tmps.setIfInBounds t V):=m;exact Nw c b d n (by simpa using f) (λj o=>by
   obtain⟨U,e,k⟩:=g (j+1) (by simpa using o);exact⟨U,by simpa using e,by simpa using k⟩) (λv q=>i v (by simp[q]))
theorem Ak5(o:Out):((Z8 o).map jmp).isNone=(Z8 o).isNone:=by cases o<;>rfl
theorem Bl6{Γ0:Ctx}{H0:List Blk}{w0:World}{Φ0:Nat->Prop}{T:List PV}{l Dv fn:Nat}{D:Option Nat}{ps:Array Tmp}{aq body:Code}(hI:HI I)(d4:Γ0.yv=Y)(e6:WP C I J W Y aq)(e7:WP C I J W Y body)
  (b1:∀c∈B9 T,c<H0.length/\Ek C (A0 H0 c)) :
  NH C.P (RI C I Γ0 H0 w0 Φ0 T tmps l D (Em fn tmps ps aq body Dv)) (En ps T (λL k=>B8 C J W aq L k) (λL k=>B8 C J W body L k)) (.func (.yield l) #[] #[]):=by
 intro args x b x' a3 f6 Γ Z w Vs ⟨Γb,V,r⟩ f3 hc;obtain⟨H,d8,s1⟩:=x;unfold En at a3;cases d8 with
 | some o=>simp at a3
 | none=>
 dsimp only at a3;split at a3
 case isFalse=>cases a3
 rename_i f5;have d0:(do let d <-ab8 (.func (.yield l) #[] #[]) Vs;invoke d.target d.args:Sem Next).run C.P w=(Instr.yield l Vs).run C.P w:=by simp[ab8,invoke]
 have f7:Vs.size=(Em fn tmps ps aq body Dv .ready none).params.size:=by rw[hc.1,f5];rfl
 have c5:=r.hd;have b0:w.heap[l]? = some (.loop (Em fn tmps ps aq body Dv .ready none)):=r.hl;intro ro n o a next Q b5
 rw[d0,run_yield b0 f7,Oper.uponIn_round];refine⟨λh=>(by simp[D9,z7] at h),roundIn_of_wpIn trivial ?_⟩;have inΦ:∀{g},V g\/(∃b,Γb.nm b=some g)\/g=l\/D=some g->Z g:=fun {g} h=>(r.ph g).2 h
 have B:∀{g},Z g->¬ Γ.St g:=fun {g} h=>(r.ft g h).2
 let ΓB:Ctx:={ Γb with St:=Γ.St }
 have SB:SI C I ΓB V { sl:=T,hp:=H,s:=s1 } tmps w:=r.si.wideSt hI r.st (λg f hp=>B (inΦ (.inl hp)) f) (λb g f hs=>B (inΦ (.inr (.inl ⟨b,f⟩))) hs) f3;have a4:=BN (Γ:=Γ) (Γ':=ΓB) (sh:=λ_=>none) (sh':=A0 H) (w:=w) (λ_ h=>h) f6;have e5:=Nw ps.toList args Vs.toList SB.sr (by rw[ad9];exact hc.1.symm) (λj hj=>by
  obtain⟨U,e,k⟩:=hc.2 j hj;exact⟨U,by simpa using e,(a4 _ (j6 hj)).2 U k⟩) (λv hv=>(a4 v hv).1)
 have b4:(ps.zip Vs).foldl (λtmps (t,a)=>tmps.setIfInBounds t a) tmps=(ps.toList.zip Vs.toList).foldl (λt (p:Nat × Value)=>t.setIfInBounds p.1 p.2) tmps:=by
  rw[<-Array.foldl_toList,Array.toList_zip]
 have SA:SI C I ΓB V { sl:=Fh T ps.toList args,hp:=H,s:=s1 } ((ps.zip Vs).foldl (λtmps (t,a)=>tmps.setIfInBounds t a) tmps) w:=⟨SB.hr,by rw[b4];exact e5,SB.g,SB.inv,SB.dis⟩
 have b2:ΓB.yv=Y:=r.pg.yv.trans d4;have d7:Off ΓB V w l:=⟨r.ol.1,B (inΦ (.inr (.inr (.inl rfl)))),r.ol.2.2⟩
 have f8:∀d,D=some d->Off ΓB V w d:=λd h=>⟨(r.od d h).1,B (inΦ (.inr (.inr (.inr h)))),(r.od d h).2.2⟩
 have f0:=hI.foot _ _ _ _ SA.inv;refine e6 (n0:=0) (a:={ tmps:=(ps.zip Vs).foldl (λtmps (t,a)=>tmps.setIfInBounds t a) tmps,defers:=[] }) b2 a3 SA (Mk.nil (Nat.zero_le _)) (λl' e=>by cases e;exact⟨d7,_,b0⟩) ?_;intro o1 f9 a1 w1 Γ1 Φ1 h1 i S1 f4;cases o1 with
 | exit id=>cases h1
 | ret=>cases h1
 | normal=>
 dsimp only at h1;obtain⟨a6,e0⟩:=d7.step i;have d5:∀d,D=some d->Off Γ1 Φ1 w1 d/\w1.heap[d]? = w.heap[d]?:=λd h=>(f8 d h).step i
 have c7:w1.heap[l]? = some (.loop (Em fn tmps ps aq body Dv .ready none)):=e0.trans b0;show ∃w₂,(Instr.beginRound l).run C.P w1 = .ok () w₂/\body.wpIn (D9 (some l)) (n-1) C.P (roundPost C.P l _) a1 w₂;refine⟨_,run_beginRound c7 rfl,?_⟩;have O1:Lx Γ1 Φ1 w1 (w1.putObj l (.loop { Em fn tmps ps aq body Dv .ready none with state:=.busy })):=Lx.put a6;have S2:=S1.offW hI O1;refine e7 (i.yv.trans b2) h1 S2 (f4.put c7) (λl' e=>by cases e;exact⟨a6.put,_,y8 a6.1⟩) ?_;intro o2 u a2 w3 G m h2 A S3 _;simp only[b8,o8] at h2;obtain⟨rfl,rfl⟩:=h2;obtain⟨b7,e1⟩:=(Off.put (ob:=.loop { Em fn tmps ps aq body Dv .ready none with state:=.busy }) (l:=l) a6).step A;have d6:∀d,D=some d->Off G m w3 d/\w3.heap[d]? = (w1.putObj l (.loop { Em fn tmps ps aq body Dv .ready none with state:=.busy })).heap[d]?:=λd h=>(Off.put (ob:=.loop { Em fn tmps ps aq body Dv .ready none with state:=.busy }) (l:=l) (d5 d h).1).step A
 have f1:w3.heap[l]? = some (.loop { Em fn tmps ps aq body Dv .ready none with state:=.busy }):=e1.trans (y8 a6.1);have X:=run_endRound (P:=C.P) ((Z8 o2).map jmp) f1;have c1:∀d,D=some d->d≠l:=λd h e=>by
  have:=c5 d h;rw[e,b0] at this;cases this
 obtain⟨F,S⟩:∃F,w3.putObj l (.loop { { Em fn tmps ps aq body Dv .ready none with state:=.busy } with state:=if ((Z8 o2).map jmp).isNone then .ready else .done,pending:=(Z8 o2).map jmp })=F:=⟨_,rfl⟩
 rw[S] at X;have O3:Lx G m w3 F:=by rw[<-S];exact Lx.put b7
 have c0:Off G m F l:=by rw[<-S];exact b7.put
 have b6:∀d,D=some d->Off G m F d:=λd h=>by rw[<-S];exact(d6 d h).1.put
 have S4:=S3.offW hI O3;have c8:H.length<=u.hp.length:=w6 i.len A.len;obtain⟨z,S5,t1,t2,t3,t4,t5,t6⟩:=Aq2 hI S4 c8;have e4:(R5 H.length u).s=u.s:=by unfold R5;split<;>rfl
 have y:Pg C ΓB H w V G u.hp F m:=i.pg.trans ((Pg.off S1.hr O1).trans (A.pg.trans (Pg.off S3.hr O3)));have P1:Pg C Γ0 H0 w0 Φ0 G u.hp F m:=r.pg.trans ((Pg.wideSt r.si.hr r.st).trans y);have d1:=i.st SA.hr (λg f=>(f0 g f).2);have d2:=A.st S2.hr (λg f=>(hI.foot _ _ _ _ S2.inv g f).2);have d3:∀g,ΓB.St g->F.heap[g]? = w.heap[g]?:=λg f=>by
  have q1:=i.sub g f;have q2:=A.sub g q1;rw[O3.same g (.inl q2),d2 g q1,O1.same g (.inl q1),d1 g f]
 have a9:=r.pg.len;have N:∀c,c<H0.length/\Ek C (A0 H0 c)->z.nm c=ΓB.nm c/\A0 (R5 H.length u).hp c=A0 H c/\∀g,ΓB.nm c=some g->F.shape? g=w.shape? g:=λc ⟨c2,c3⟩=>by
  obtain⟨_,k2,_⟩:=r.pg.keep c c2 c3;have c4:c<H.length:=j8 c2 a9;obtain⟨m1,m2,m3⟩:=y.keep c c4 (by rw[k2];exact c3);obtain⟨n1,n2⟩:=t5 c c4;exact⟨n1.trans m1,n2.trans m2,m3⟩
 have M:R8 ΓB (A0 H) w z (A0 (R5 H.length u).hp) F (λc=>c<H0.length/\Ek C (A0 H0 c)):=
  ⟨d3,λg f=>t1 g (y.sub g f),λb hb=>(N b hb).1,λb hb=>(N b hb).2.1,λb g hb f=>(N b hb).2.2 g f,t4.trans y.yv⟩
 have SF:SI C I z m { sl:=T,hp:=(R5 H.length u).hp,s:=u.s } tmps F:=
  ⟨S5.hr,SB.sr.mono M (λc hc=>⟨b1 c hc,j8 (b1 c hc).1 (w6 a9 t6)⟩),S5.g,by have:=S5.inv;rw[e4] at this;exact this,S5.dis⟩
 have PF:Pg C Γ0 H0 w0 Φ0 z (R5 H.length u).hp F m:=⟨P1.os,P1.tape,P1.output,P1.size,λg f=>t1 g (P1.sub g f),λb g hb=>P1.own b g (t3 b g hb),P1.foot,t4.trans P1.yv,w6 a9 t6,λb hb hf=>by
  obtain⟨k1,k2,k3⟩:=P1.keep b hb hf;obtain⟨n1,n2⟩:=t5 b (j8 hb a9);exact⟨n1.trans k1,n2.trans k2,k3⟩⟩
 have a0:∀{g},Off G m F g->Off z m F g:=fun {g} h=>⟨h.1,λq=>by
  rcases t2 g q with q|⟨b,_,q⟩
  ·exact h.2.1 q
  ·exact h.2.2.1 b q,λb q=>h.2.2.1 b (t3 b g q),h.2.2.2⟩
 have f2:F.heap[l]? = some (.loop (Em fn tmps ps aq body Dv (A44 (Z8 o2)) ((Z8 o2).map jmp))):=by
  rw[<-S,y8 b7.1];cases o2<;>rfl
 have e8:∀d,D=some d->F.heap[d]? = some (.deferred (some [])):=λd h=>by
  rw[<-S,j9 (c1 d h),(d6 d h).2,j9 (c1 d h),(d5 d h).2];exact c5 d h
 have e9:=hI.foot _ _ _ _ SF.inv;have RB:RIb C I Γ0 H0 w0 Φ0 T tmps l D (Em fn tmps ps aq body Dv) ((R5 H.length u).hp,Z8 o2,u.s) z.St (λg=>m g\/(∃b,z.nm b=some g)\/g=l\/D=some g) F z m:=by
  refine⟨SF,PF,λ_ h=>h,λ_=>Iff.rfl,λg f=>?_,a0 c0,λd h=>a0 (b6 d h),f2,e8⟩;rcases f with q|⟨b,q⟩|rfl|q
  ·exact e9 g q
  ·have:=SF.hr.lt b g q;exact⟨this.2.1,this.2.2⟩
  ·exact⟨c0.1,(a0 c0).2.1⟩
  ·exact⟨(b6 g q).1,(a0 (b6 g q)).2.1⟩
 have a5:=i.size;have e2:∀{g},(w1.putObj l (.loop { Em fn tmps ps aq body Dv .ready none with state:=.busy })).heap.size<=g->w.heap.size<=g:=fun {g} q=>w6 (w6 a5 O1.size) q
 have e3:∀{g},g<w.heap.size->g<(w1.putObj l (.loop { Em fn tmps ps aq body Dv .ready none with state:=.busy })).heap.size:=fun {g} q=>j8 q (w6 a5 O1.size)
 have b3:next (a.put o.dst (.bool ((Z8 o2).map jmp).isNone)) F:=by
  refine b5 _ _ ⟨by rw[Ak5],z.St,_,⟨z,m,RB⟩,λg f=>t1 g (y.sub g f),λg f=>?_,λg f=>?_,λg f hp=>?_,y.size,y.os,y.tape,y.output,SF.hr.stlt⟩
  ·have d9:G.St g->Γ.St g\/w.heap.size<=g:=λq=>by
    rcases A.stnew g q with q|q
    ·exact i.stnew g q
    ·exact .inr (e2 q)
   rcases t2 g f with q|⟨b,hb,q⟩
   ·exact d9 q
   ·rcases A.own b g q with⟨_,q⟩|q
    ·rcases i.own b g q with⟨q',_⟩|q
     ·simp only at q';omega
     ·exact .inr q
    ·exact .inr (e2 q)
  ·rcases f with q|⟨b,q⟩|rfl|q
   ·rcases y.foot g q with q|q
    ·exact .inl (inΦ (.inl q))
    ·exact .inr q
   ·rcases y.own b g (t3 b g q) with⟨_,q⟩|q
    ·exact .inl (inΦ (.inr (.inl ⟨b,q⟩)))
    ·exact .inr q
   ·exact .inl (inΦ (.inr (.inr (.inl rfl))))
   ·exact .inl (inΦ (.inr (.inr (.inr q))))
  ·have c6:g≠l:=λe=>hp (inΦ (.inr (.inr (.inl e))))
   have n1:∀b,ΓB.nm b≠some g:=λb q=>hp (inΦ (.inr (.inl ⟨b,q⟩)))
   have p1:¬V g:=λq=>hp (inΦ (.inl q))
   have n2:∀b,Γ1.nm b≠some g:=λb q=>by
    rcases i.own b g q with⟨_,q⟩|q
    ·exact n1 b q
    ·omega
   have p2:¬ Φ1 g:=λq=>by
    rcases i.foot g q with q|q
    ·exact p1 q
    ·omega
   rw[<-S,j9 c6,A.frame g (e3 f) n2 p2,j9 c6,i.frame g f n1 p1]
 cases o2 with
 | normal=>exact⟨_,_,X,b3⟩
 | exit id=>exact⟨_,_,X,b3⟩
 | ret=>exact⟨_,_,X,b3⟩
end
section
variable {Y R S : Type} (C : Cfg) (g : R -> Option S)
theorem C4(c:Bool)(k:Option R):(need c k).bind g=need c (k.bind g):=by cases c<;>rfl
theorem C2(b:Bool)(k:Bool->Option R):(Bb b k).bind g=Bb b λt=>(k t).bind g:=by cases b<;>rfl
theorem D1(b:Bool)(x y:Option R):(cond b x y).bind g=cond b (x.bind g) (y.bind g):=by cases b<;>rfl
theorem E5(p:Prop)[Decidable p](x y:Option R):(if p then x else y).bind g=if p then x.bind g else y.bind g:=by split<;>rfl
theorem C5:∀(t:Tr) (k:PV->List Blk->Option R),(Bg t k).bind g=Bg t λv H=>(k v H).bind g
 | .ret v H,k=>rfl
 | .need c t,k=>by cases c;rfl;exact C5 t k
 | .split c a b,k=>by cases c;exact C5 b k;exact C5 a k
 | .fail,_=>rfl
theorem Zh(op:BinOp)(t:Nat)(x y:PV)(H:List Blk)(k:PV->Option R):(XN C op t x y H k).bind g=XN C op t x y H λv=>(k v).bind g:=by unfold XN;((try dsimp only);(repeat' (first|rfl|split|(simp only[C4,C2,D1,E5,C5,c9,b9]))))
theorem LX(op:UnOp)(x:PV)(k:PV->Option R):(unK op x k).bind g=unK op x λv=>(k v).bind g:=by unfold unK;((try dsimp only);(repeat' (first|rfl|split|(simp only[C4,C2,D1,E5,C5,c9,b9]))))
theorem Wk(t:TI)(a:PV)(H:List Blk)(k:PV->Option R):(Ke t a H k).bind g=Ke t a H λv=>(k v).bind g:=by unfold Ke;((try dsimp only);(repeat' (first|rfl|split|(simp only[C4,C2,D1,E5,C5,c9,b9]))))
theorem Sa(f:Nat->Nat × Nat)(t:TI)(a v:PV)(H:List Blk)(k:List Blk->Option R):(Lv f t a v H k).bind g=Lv f t a v H λv=>(k v).bind g:=by unfold Lv;((try dsimp only);(repeat' (first|rfl|split|(simp only[C4,C2,D1,E5,C5,c9,b9]))))
theorem Gx(t:Nat)(x i:PV)(H:List Blk)(k:PV->Option R):(Z0 C t x i H k).bind g=Z0 C t x i H λv=>(k v).bind g:=by unfold Z0;((try dsimp only);(repeat' (first|rfl|split|(simp only[C4,C2,D1,E5,C5,c9,b9]))))
theorem Rj(t:Nat)(x i:PV)(k:PV->Option R):(Qd C t x i k).bind g=Qd C t x i λv=>(k v).bind g:=by unfold Qd;((try dsimp only);(repeat' (first|rfl|split|(simp only[C4,C2,D1,E5,C5,c9,b9]))))
theorem LH(t:Nat)(x:PV)(b a c:Option PV)(H:List Blk)(k:PV->Option R):(Qs C t x b a c H k).bind g=Qs C t x b a c H λv=>(k v).bind g:=by unfold Qs;((try dsimp only);(repeat' (first|rfl|split|(simp only[C4,C2,D1,E5,C5,c9,b9]))))
theorem Xs(b n:Nat)(c a d:Option PV)(k:PV->Option R):(Ci b n c a d k).bind g=Ci b n c a d λv=>(k v).bind g:=by unfold Ci;((try dsimp only);(repeat' (first|rfl|split|(simp only[C4,C2,D1,E5,C5,c9,b9]))))
theorem ED(t:Nat)(sl:List PV)(s x:PV)(H:List Blk)(k:PV->List PV->List Blk->Option R):(Bi C t sl s x H k).bind g=Bi C t sl s x H λv a b=>(k v a b).bind g:=by unfold Bi;((try dsimp only);(repeat' (first|rfl|split|(simp only[C4,C2,D1,E5,C5,c9,b9]))))
theorem OJ(t:Nat)(d x:PV)(H:List Blk)(k:PV->List Blk->Option R):(Zj C t d x H k).bind g=Zj C t d x H λv a=>(k v a).bind g:=by unfold Zj;((try dsimp only);(repeat' (first|rfl|split|(simp only[C4,C2,D1,E5,C5,c9,b9]))))
theorem OI(b a:Nat)(x:PV)(H:List Blk)(k:PV->Option R):(Zi C b a x H k).bind g=Zi C b a x H λv=>(k v).bind g:=by unfold Zi;((try dsimp only);(repeat' (first|rfl|split|(simp only[C4,C2,D1,E5,C5,c9,b9]))))
theorem IE(b a:Nat)(x:PV)(k:PV->Option R):(Pk C b a x k).bind g=Pk C b a x λv=>(k v).bind g:=by unfold Pk;((try dsimp only);(repeat' (first|rfl|split|(simp only[C4,C2,D1,E5,C5,c9,b9]))))
theorem YP(x:PV)(t:Nat)(H:List Blk)(k:PV->Option R):(YO C x t H k).bind g=YO C x t H λv=>(k v).bind g:=by unfold YO;((try dsimp only);(repeat' (first|rfl|split|(simp only[C4,C2,D1,E5,C5,c9,b9]))))
theorem Qy(t:Nat)(parts:List (Nat × PV))(k:PV->Option R):(Pj C t parts k).bind g=Pj C t parts λv=>(k v).bind g:=by unfold Pj;((try dsimp only);(repeat' (first|rfl|split|(simp only[C4,C2,D1,E5,C5,c9,b9]))))
theorem Eu(t len:Nat)(parts:List (Nat × PV))(H:List Blk)(k:PV->List Blk->Option R):(U8 C t len parts H k).bind g=U8 C t len parts H λv a=>(k v a).bind g:=by unfold U8;((try dsimp only);(repeat' (first|rfl|split|(simp only[C4,C2,D1,E5,C5,c9,b9]))))
theorem Hb(t:Nat)(l c:PV)(H:List Blk)(k:PV->List Blk->Option R):(Z3 C t l c H k).bind g=Z3 C t l c H λv a=>(k v a).bind g:=by unfold Z3;((try dsimp only);(repeat' (first|rfl|split|(simp only[C4,C2,D1,E5,C5,c9,b9]))))
theorem Nb(a:Bool)(l:List PV)(k:PV->Option R):(Gf a l k).bind g=Gf a l λv=>(k v).bind g:=by unfold Gf;((try dsimp only);(repeat' (first|rfl|split|(simp only[C4,C2,D1,E5,C5,c9,b9]))))
theorem Gw(t:Nat)(x:PV)(f:Nat)(k:PV->Option R):(Y7 C t x f k).bind g=Y7 C t x f λv=>(k v).bind g:=by unfold Y7;((try dsimp only);(repeat' (first|rfl|split|(simp only[C4,C2,D1,E5,C5,c9,b9]))))
theorem Ri(t:Nat)(x:PV)(f:Nat)(k:PV->Option R):(Px C t x f k).bind g=Px C t x f λv=>(k v).bind g:=by unfold Px;((try dsimp only);(repeat' (first|rfl|split|(simp only[C4,C2,D1,E5,C5,c9,b9]))))
theorem Sg(t len:Nat)(parts:List (Nat × PV))(k:PV->Option R):(O6 C t len parts k).bind g=O6 C t len parts λv=>(k v).bind g:=by unfold O6;((try dsimp only);(repeat' (first|rfl|split|(simp only[C4,C2,D1,E5,C5,c9,b9]))))
theorem Yj(t:Nat)(H:List Blk)(k:PV->List Blk->Option R):(Fc C t H k).bind g=Fc C t H λv a=>(k v a).bind g:=by unfold Fc;((try dsimp only);(repeat' (first|rfl|split|(simp only[C4,C2,D1,E5,C5,c9,b9]))))
theorem FK(t:Nat)(x i:PV)(ok:Bool)(H:List Blk)(k:PV->Option R):(Je C t x i ok H k).bind g=Je C t x i ok H λv=>(k v).bind g:=by
 unfold Je
 repeat' (first|rfl|split|(rw[C4];done)|(rw[C2];congr 1;funext b;rw[D1,C4];done))
theorem FQ(t:Nat)(m x v:PV)(H:List Blk)(k:List Blk->Option R):(Jh C t m x v H k).bind g=Jh C t m x v H λa=>(k a).bind g:=by unfold Jh;((try dsimp only);(repeat' (first|rfl|split|(simp only[C4,C2,D1,E5,C5,c9,b9]))))
theorem FP(t:Nat)(m x:PV)(H:List Blk)(k:List Blk->Option R):(Jg C t m x H k).bind g=Jg C t m x H λa=>(k a).bind g:=by unfold Jg;((try dsimp only);(repeat' (first|rfl|split|(simp only[C4,C2,D1,E5,C5,c9,b9]))))
theorem IK(t:Nat)(x:PV)(H:List Blk)(k:List Blk->Option R):(Pr C t x H k).bind g=Pr C t x H λa=>(k a).bind g:=by unfold Pr;((try dsimp only);(repeat' (first|rfl|split|(simp only[C4,C2,D1,E5,C5,c9,b9]))))
theorem Yc(b:Builtin)(c:List Nat)(args:List PV)(a:St Y)(k:PV->St Y->Option R):(Ai C b c args a k).bind g=Ai C b c args a λv s=>(k v s).bind g:=by
 unfold Ai;split
 ·rw[YP]
 ·split
  ·rw[ED]
  ·rfl
 ·rw[OJ]
 ·rw[Nb]
 ·rw[Nb]
 ·rw[IK]
 ·rw[FP]
 ·rfl
theorem Pi(e:Nat)(cells:List PV)(H:List Blk)(k:PV->List Blk->Option R):(Sf C e cells H k).bind g=Sf C e cells H λv a=>(k v a).bind g:=by unfold Sf;((try dsimp only);(repeat' (first|rfl|split|(simp only[C4,C2,D1,E5,C5,c9,b9]))))
theorem Vb(a:E2)(c:Yh Y)(f:Nat)(args:List PV)(b:St Y)(k:PV->St Y->Option R):(Mh C a c f args b k).bind g=Mh C a c f args b λv s=>(k v s).bind g:=by
 unfold Mh;split
 ·split
  ·rw[C5]
   congr 1;funext v H;rw[C4]
  ·rfl
 ·((try dsimp only);(repeat' (first|rfl|split|(simp only[C4,C2,D1,E5,C5,c9,b9]))))
theorem At0(x:Option (Bool × Y))(k:Bool->Y->Option R):(ydK x k).bind g=ydK x λb s=>(k b s).bind g:=by unfold ydK;((try dsimp only);(repeat' (first|rfl|split|(simp only[C4,C2,D1,E5,C5,c9,b9]))))
theorem OG(a:E2)(c:Yh Y)(f:PV)(args:List PV)(b:St Y)(k:PV->St Y->Option R):(Rb C a c f args b k).bind g=Rb C a c f args b λv s=>(k v s).bind g:=by
 unfold Rb;split
 ·rw[Vb]
 ·rw[Vb]
 ·split
  ·rw[At0]
  ·rfl
 ·rfl
theorem JW(a:E2)(c:Yh Y)(o:Oper)(b:St Y)(k:St Y->Option R):(opK C a c o b k).bind g=opK C a c o b λs=>(k s).bind g:=by
 unfold opK;dsimp only;split<;>(first|rfl|(simp only[Pi,Qy,Eu,Wk,Sa,Zh,LX,Hb,Gw,Ri,Gx,Rj,Yj,FK,FQ,D1,Sg];done)|skip)
 all_goals ((try dsimp only);(repeat' (first|rfl|split|(simp only[C4,C2,D1,E5,C5,c9,b9]))));all_goals (first|rfl|skip);all_goals (simp only[Yc,OG,Pi,Qy,Eu,Wk,Sa,Zh,LX,Hb,Gw,Ri,Gx,Rj,IE,OI,LH,Xs,C4,C2])
theorem Z6(e:E2)(f:Yh Y)(all:Array Oper):∀(l:List Oper) (d:St Y) (k:St Y->Option R),(Z5 C e f all l d k).bind g=Z5 C e f all l d λs=>(k s).bind g
 | [],d,k=>rfl
 | o::a,d,k=>by
  simp only[Z5];have c:=Z6 e f all a;split
  ·rw[JW];congr 1;funext s;exact c s k
  ·split
   ·split
    ·rw[C2];congr 1;funext b;split
     ·rw[JW];congr 1;funext s;exact c s k
     ·exact c _ k
    ·exact c _ k
    ·rfl
   ·rfl
theorem Aa6(o:Oper)(sl:List PV)(k:Trn->Option R):(TA C o sl k).bind g=TA C o sl λv=>(k v).bind g:=by
 unfold TA
 repeat' (first|rfl|split|rw[C4])
theorem UD(d:Option Nat)(t:Trn)(a:St Y)(k:St Y->Option R):(Ki C d t a k).bind g=Ki C d t a λs=>(k s).bind g:=by
 unfold Ki;split
 ·rfl
 ·exact Pi C g _ _ _ _
theorem Wt(d:E2)(f:Yh Y)(all:Array Oper)(e:List Nat × List Nat)(c:List Blk):∀(p:Bool) (l:List Nat) (b:St Y) (k:St Y->Option R),(Nh C d f all e c p l b k).bind g=Nh C d f all e c p l b λs=>(k s).bind g
 | _,[],b,k=>rfl
 | p,i::a,b,k=>by
  simp only[Nh];rw[C4,Z6]
  congr 2;funext s
  exact Wt d f all e c _ a _ k
theorem Gg(a:E2)(c:Yh Y)(all:Array Oper)(e:Option (List Nat × List Nat))(d:List Blk)(p:Bool)(l:List Nat)(b:St Y)(k:St Y->Option R):(Ff C a c all e d p l b k).bind g=Ff C a c all e d p l b λs=>(k s).bind g:=by
 cases e with
 | none=>exact Z6 C g a c all _ b k
 | some f=>exact Wt C g a c all f d p l b k
theorem Wv(e:E2)(h:Yh Y)(all:Array Oper)(f:Option (List Nat × List Nat))(c:List Blk)(d:Option Nat):∀(l:List Nat) (b:St Y) (k:St Y->Option R),(Hd C e h all f c d l b k).bind g=Hd C e h all f c d l b λs=>(k s).bind g
 | [],b,k=>rfl
 | i::a,b,k=>by
  simp only[Hd];rw[Gg]
  congr 1;funext s
  exact Wv e h all f c d a _ k
theorem YS(a b:Oper)(sl:List PV)(k:PV->Option R):(YR C a b sl k).bind g=YR C a b sl λv=>(k v).bind g:=by
 unfold YR;split
 ·rw[C4];unfold O6;split
  ·dsimp only;split
   ·split
    ·split
     ·rw[C4]
     ·rfl
    ·rfl
   ·rfl
  ·rfl
 ·rfl
theorem ZY(b:E2)(c:Yh Y)(a:Array Oper)(e:St Y)(k:St Y->Option R):∀l:List Oper,(RX C b c a e k l).bind g=RX C b c a e (λs=>(k s).bind g) l
 | []=>Z6 C g b c a _ e k
 | [o]=>Z6 C g b c a _ e k
 | f::h::d=>by
  simp only[RX];cases JJ C f h with
  | true=>
   simp only[cond_true];rw[YS];congr 1;funext v;exact Z6 C g b c a d _ k
  | false=>exact Z6 C g b c a _ e k
theorem ZZ(b:E2)(c:Yh Y)(id:Nat)(a:Array Oper)(d:Bool)(e:St Y)(k:St Y->Option R):(RY C b c id a d e k).bind g=RY C b c id a d e λs=>(k s).bind g:=by
 unfold RY;split
 ·split
  ·exact Gg C g b c a _ _ _ _ e k
  ·exact ZY C g b c a e k _
 ·split
  ·rw[Gg];congr 1;funext s;rw[Aa6];congr 1;funext v;rw[Wv];congr 1;funext s2;rw[UD];congr 1;funext s3;exact Gg C g b c a _ _ _ _ _ k
  ·rfl
theorem Wm(L:Nat)(ds:Option (List Nat))(b:St Y->(Out->St Y->Option R)->Option R)(a:St Y->(Out->St Y->Option S)->Option S)(d:∀c k,(b c k).bind g=a c λo s=>(k o s).bind g):∀(n:Nat) (c:St Y) (k:Out->St Y->Option R),(E7 L ds b n c k).bind g=E7 L ds a n c λo s=>(k o s).bind g
 | 0,c,k=>rfl
 | n+1,c,k=>by
  simp only[E7];rw[d]
  congr 1;funext o s
  cases o with
  | normal=>exact Wm L ds b a d n _ k
  | exit id=>rfl
  | ret=>rfl
theorem Ns{ps:Array Tmp}{sl0:List PV}{aq bd:St Y->(Out->St Y->Option R)->Option R}{as' bd':St Y->(Out->St Y->Option S)->Option S}(b:∀a k,(aq a k).bind g=as' a λo s=>(k o s).bind g)(c:∀a k,(bd a k).bind g=bd' a λo s=>(k o s).bind g) :
  ∀(L:List (List PV)) (H:List Blk) (s:Y) (k:Option Out->List Blk->Y->Option R),(T8 ps sl0 aq bd L H s k).bind g=T8 ps sl0 as' bd' L H s λp H s=>(k p H s).bind g
 | [],H,s,k=>rfl
 | x::xs,H,s,k=>by
  simp only[T8];split
  ·rw[b]
   congr 1;funext o st1
   cases o with
   | normal=>
    dsimp only;rw[c]
    congr 1;funext o2 st2
    cases o2 with
    | normal=>exact Ns b c xs _ _ k
    | exit id=>rfl
    | ret=>rfl
   | exit id=>rfl
   | ret=>rfl
  ·rfl
theorem KJ(b:E2)(f:PV)(c:St Y)(d:List PV->Yh (List Blk × Option Out × Y)){sR:List PV->List (List PV)->List Blk->Y->(Option Out->List Blk->Y->Option R)->Option R}{sR':List PV->List (List PV)->List Blk->Y->(Option Out->List Blk->Y->Option S)->Option S}
  (e:∀a L H s k,(sR a L H s k).bind g=sR' a L H s λp H s=>(k p H s).bind g) (k:Out->St Y->Option R):(Lq C b f c d sR k).bind g=Lq C b f c d sR' λo s=>(k o s).bind g:=by
 unfold Lq;split
 ·split
  ·unfold RP;split
   ·split
    ·rw[C4,e];rfl
    ·rfl
   ·rfl
  ·unfold Nn;((try dsimp only);(repeat' (first|rfl|split|(simp only[C4,C2,D1,E5,C5,c9,b9]))))
 ·rfl
end
theorem Rg{q:Type}(C:Cfg)(h:E2)(n:Yh q):∀(c:Code) {R S:Type} (g:R->Option S) (e:St q) (k:Out->St q->Option R),(B8 C h n c e k).bind g=B8 C h n c e λo s=>(k o s).bind g:=by
 intro c
 induction c with
 | skip=>intros;rfl
 | label l=>intros;rfl
 | region id r d=>intro R S g e k;simp only[B8];rw[ZZ]
 | seq a b i m=>
  intro R S g e k;simp only[B8];rw[i]
  congr 1;funext o s
  cases o with
  | normal=>exact m g s k
  | exit id=>rfl
  | ret=>rfl
 | cond c a b i m=>
  intro R S g e k;simp only[B8];split
  ·rw[C2];congr 1;funext t;rw[D1,i,m]
  ·rfl
 | block id a p=>
  intro R S g e k;simp only[B8];rw[p]
  congr 1;funext o s
  cases o with
  | normal=>rfl
  | exit j=>dsimp only;split<;>rfl
  | ret=>rfl
 | loop a p=>
  intro R S g e k;simp only[B8];exact Wm g _ _ _ _ (λe k=>p g e k) _ _ _
 | scope a p=>intro R S g e k;simp only[B8];rw[p]
 | exit id=>intros;rfl
 | ret=>intros;rfl
 | rangeFunc f ps a b i m=>
  intro R S g e k;simp only[B8];exact KJ C g h (opnd C e.sl f) e _ (sR:=λsl0=>T8 ps sl0 (λe k=>B8 C h n a e k) (λe k=>B8 C h n b e k)) (sR':=λsl0=>T8 ps sl0 (λe k=>B8 C h n a e k) (λe k=>B8 C h n b e k))
   (λsl0 L H s k=>Ns (ps:=ps) (sl0:=sl0) g (aq:=λe k=>B8 C h n a e k) (bd:=λe k=>B8 C h n b e k) (as':=λe k=>B8 C h n a e k) (bd':=λe k=>B8 C h n b e k) (λe k=>i g e k) (λe k=>m g e k) L H s k) k
 | _=>intros;rfl
theorem Vt{e R:Type}{C:Cfg}{a:E2}{d:Yh e}{c:Code}{b:St e}{k:Out->St e->Option R}{r:R}(h:B8 C a d c b k=some r):∃o s,B8 C a d c b (λo s=>some (o,s))=some (o,s)/\k o s=some r:=by
 have:=Rg C a d c (λp:Out × St e=>k p.1 p.2) b (λo s=>some (o,s));simp only[b9] at this;rw[<-this] at h;cases f:B8 C a d c b (λo s=>some (o,s)) with
 | none=>rw[f] at h;cases h
 | some p=>rw[f] at h;exact⟨p.1,p.2,rfl,h⟩
theorem Zo{a R:Type}{C:Cfg}{b:E2}{e:Yh a}{c:Code}{d:St a}{k:Out->St a->Option R}{o:Out}{s:St a}(h:B8 C b e c d (λo s=>some (o,s))=some (o,s)):B8 C b e c d k=k o s:=by have:=Rg C b e c (λp:Out × St a=>k p.1 p.2) d (λo s=>some (o,s));rw[h] at this;exact this.symm
def Ctx.hide(Γ:Ctx)(ns:List Nat):Ctx:={ Γ with nm:=λb=>if b∈ns then none else Γ.nm b }
def Ctx.reyv(Γ:Ctx)(y:Value)(hy:y.oneCell'=true):Ctx:={ Γ with yv:=y,yv1:=hy }
section
variable {X R : Type} {r : R} {C : Cfg} {I : X -> (Nat -> Prop) -> (Nat -> Prop) -> World -> Prop} {Γ Γ' : Ctx} {J T : Nat -> Prop} {Y : St X} {a : Act} {w w' : World} {W : E2} {Z : Yh X} {K : Value} {H H' : List Blk} {N : Array Value}
theorem Eb:∀{l:List PV},yfL l=true->∀v∈l,v.yf=true
 | [],_,v,b=>by simp at b
 | x::r,h,v,b=>by
  simp only[yfL,j4] at h;rcases u4.1 b with rfl|b
  ·exact h.1
  ·exact Eb h.2 v b
theorem VP.reyv{sh:Nat->Option Shp}{y:Value}{hy:y.oneCell'=true}{v:PV}{V:Value}(h:VP Γ sh w v V):v.yf=true->VP (Γ.reyv y hy) sh w v V:=by
 induction h with
 | s v V h=>intro _;exact .s v V h
 | nsl=>intro _;exact .nsl
 | flv b e sz h=>intro _;exact .flv b e sz h
 | fl b g v e sz n cap h hv hg hcap hm hs=>intro _;exact .fl b g v e sz n cap h hv hg hcap hm hs
 | vwv b e sz i h=>intro _;exact .vwv b e sz i h
 | vw b i n g a cap v e sz m h hv hg ha hi hcap hm=>intro _;exact .vw b i n g a cap v e sz m h hv hg ha hi hcap hm
 | ptrA b i off g v e sz n h hg=>intro _;exact .ptrA b i off g v e sz n h hg
 | ptrB b off g h hg=>intro _;exact .ptrB b off g h hg
 | fnr g x y A B As Bs hf hA hB ha hb hx hy ihx ihy=>
  intro hc;simp only[PV.yf,j4] at hc;exact .fnr g x y A B As Bs hf hA hB ha hb (λj h=>ihx j h (Eb hc.1 _ (j6 h))) (λj h=>ihy j h (Eb hc.2 _ (j6 h)))
 | it b g h hg=>intro _;exact .it b g h hg
 | mpv b g h hg=>intro _;exact .mpv b g h hg
 | yd=>intro h;simp[PV.yf] at h
 | agg l A As hA ha hl ih=>
  intro hc;simp only[PV.yf] at hc;exact .agg l A As hA ha (λj h=>ih j h (Eb hc _ (j6 h)))
 | tup l A As hA ha hl ih=>
  intro hc;simp only[PV.yf] at hc;exact .tup l A As hA ha (λj h=>ih j h (Eb hc _ (j6 h)))
 | bad V=>intro _;exact .bad V
mutual
theorem PV.yf_rn(f:Nat->Nat):∀v:PV,(v.rn f).yf=v.yf
 | .s _=>rfl
 | .nsl=>rfl
 | .fl b=>rfl
 | .vw b _ _=>rfl
 | .ptr b _ _=>rfl
 | .fnr _ x y=>by simp only[PV.rn,PV.yf,Lw f x,Lw f y]
 | .it b=>rfl
 | .yd=>rfl
 | .agg l=>by simp only[PV.rn,PV.yf,Lw f l]
 | .tup l=>by simp only[PV.rn,PV.yf,Lw f l]
 | .bad=>rfl
theorem Lw(f:Nat->Nat):∀l:List PV,yfL (rnL f l)=yfL l
 | []=>rfl
 | v::r=>by simp only[rnL,yfL,PV.yf_rn f v,Lw f r]
end
theorem Ap5(f:PV->PV)(l:List (List UInt8 × PV)):(Ym f l).map Prod.snd=(l.map Prod.snd).map f:=by simp[Ym]
theorem Blk.yf_rn(f:Nat->Nat)(x:Blk):(x.rn f).yf=x.yf:=(by cases x with|mp ents=>simp only[Blk.rn,Blk.yf,Ap5,<-Gm,Lw]|_=>simp[Blk.rn,Blk.yf,Lw])
theorem Bh9(a:Bool)(l:List SV):(svV a l).yf=true:=by
 cases a with
 | true=>
  simp only[svV,cond_true,PV.yf]
  induction l with
  | nil=>rfl
  | cons x l b=>exact b
 | false=>simp only[svV,cond_false];split<;>rfl
theorem BR.reyv{sh:Nat->Option Shp}{b:Nat}{x:Blk}{y:Value}{hy:y.oneCell'=true}(h:BR Γ sh w b x)(hx:x.yf=true):BR (Γ.reyv y hy) sh w b x:=by
 cases x with
 | arr v e sz els=>exact h
 | box cells=>
  simp only[Blk.yf] at hx;obtain⟨g,cur,e,h1,h2,h3,h4⟩:=h;refine⟨g,cur,e,h1,h2,h3,λj h=>?_⟩;obtain⟨V,e1,e2⟩:=h4 j h;exact⟨V,e1,e2.reyv (Eb hx _ (j6 h))⟩
 | iter s p=>exact h
 | mp ents=>
  simp only[Blk.yf] at hx;obtain⟨g,es,ck,h1,h2,h3⟩:=h;exact⟨g,es,ck,h1,h2,h3.imp λv hv V k=>k.reyv (Eb hx v hv)⟩
 | ms a ents=>
  obtain⟨g,es,ck,h1,h2,h3⟩:=h;refine⟨g,es,ck,h1,h2,h3.imp λv hv V k=>k.reyv ?_⟩;obtain⟨e,he,rfl⟩:=Sv hv;exact Bh9 a _
 | dead=>exact h
theorem HR.reyv{y:Value}{hy:y.oneCell'=true}(h:HR Γ H w)(hx:∀b (h:b<H.length),(H[b]).yf=true):HR (Γ.reyv y hy) H w:=
 ⟨h.inj,h.lt,h.stlt,h.nms,λb hb=>(h.blk b hb).reyv (hx b hb)⟩
theorem Wn:∀(H:List Blk) (n:Nat),∀b (h:b<H.length),(n+b)∈V5 C H n\/Ao C H[b]=true
 | [],n,b,h=>by simp at h
 | x::r,n,0,_=>by
  cases c:Ao C x with
  | true=>exact .inr c
  | false=>exact .inl (by simp[V5,c])
 | x::r,n,b+1,h=>by
  have:=Wn r (n+1) b (by simpa using h);rw[show n+1+b=n+(b+1) by omega] at this;rcases this with q|q
  ·refine .inl ?_;simp only[V5];cases Ao C x with
   | true=>exact q
   | false=>exact ad5 _ q
  ·exact .inr (by simpa using q)
theorem Zu{d:List Nat}(c:∀b,b∉d->A0 H' b=A0 H b):R8 Γ (A0 H) w (Γ.hide d) (A0 H') w (·∉d):=
 ⟨λ_ _=>rfl,λ_ h=>h,λb e=>by simp only[Ctx.hide];rw[if_neg e],c,λ_ _ _ _=>rfl,rfl⟩
theorem Au5{f:List Nat}(o:HR Γ H w)(v:f.Nodup)(u:∀b∈f,b<H.length):(J8 f H).length=H.length/\(∀b,b∉f->A0 (J8 f H) b=A0 H b)/\(∀b,b∈f->A0 (J8 f H) b=some .dead)/\HR (Γ.hide f) (J8 f H) w:=by
 obtain⟨i,x,q⟩:=Ia (Γ:=Γ) (sh:=A0 H) (w:=w) f H;obtain⟨A,t⟩:=Dw f (j3 f.length .dead) (M7 f H) v (by simp) (λb d=>by rw[i];exact u b d);have k:(J8 f H).length=H.length:=by rw[J8,A,i]
 have j:∀b,b∉f->(J8 f H)[b]? = (M7 f H)[b]?:=λb d=>by rw[J8,t,if_neg d]
 have l:∀b,b∈f->(J8 f H)[b]? = some .dead:=λb d=>by
  rw[J8,t,if_pos d,List.getElem?_replicate,if_pos (List.idxOf_lt_length_of_mem d)]
 have p:∀b,b∉f->A0 (J8 f H) b=A0 H b:=λb d=>by
  rw[<-x b];simp only[A0,j b d]
 have M:=Zu (Γ:=Γ) (H:=H) (w:=w) p;have m:∀b g,(Γ.hide f).nm b=some g->b∉f/\Γ.nm b=some g:=λb g h=>by
  simp only[Ctx.hide] at h;split at h
  ·cases h
  ·exact⟨‹_›,h⟩
 refine⟨k,p,λb d=>by simp only[A0,l b d];rfl,⟨λb B g D F=>o.inj b B g (m b g D).2 (m B g F).2,λb g h=>?_,o.stlt,λb d c n=>?_,λb d=>?_⟩⟩
 ·obtain⟨y,z,G⟩:=o.lt b g (m b g h).2;exact⟨by rw[k];exact y,z,G⟩
 ·rw[k] at d ⊢;by_cases h:b∈f
  ·have:=l b h;rw[a7 (by rw[k];exact d)] at this;simp only[b8] at this;rw[this] at n;simp[Blk.nms] at n
  ·have e:=j b h;rw[a7 (by rw[k];exact d),a7 (by rw[i];exact d)] at e;simp only[b8] at e;rw[e] at n;exact o.nms b d c ((q b (by rw[i];exact d) d).1 c n).2
 ·rw[k] at d;by_cases h:b∈f
  ·have:=l b h;rw[a7 (by rw[k];exact d)] at this;simp only[b8] at this;rw[this];trivial
  ·have e:=j b h;rw[a7 (by rw[k];exact d),a7 (by rw[i];exact d)] at e;simp only[b8] at e;rw[e];obtain⟨y,z⟩:=q b (by rw[i];exact d) d;exact(z b (o.blk b d)).mono M (M.nm b h) (λ_ _=>rfl) (λc n=>(y c n).1)
theorem Iv{b:Obj}{g:Nat}(h:g<w.heap.size):(w.alloc b).heap[g]? = w.heap[g]?:=by show(w.heap.push b)[g]? = w.heap[g]?;rw[Array.getElem?_push];rw[if_neg (by omega)]
theorem Kh{v:PV}{V:Value}{sh:Nat->Option Shp}{f:Nat}{first b:List PV}(h:Jq v=some (f,first,b))(k:VP Γ sh w v V):∃A B,V = .func (.func f) A B/\CR Γ sh w first A/\CR Γ sh w b B/\∀c∈B9 (first++b),c∈v.nms:=by
 have i:∀(l:List SV),B9 (l.map PV.s)=[]:=λl=>by
  rw[u6];intro c d;obtain⟨j,m,d⟩:=B7.1 d;simp[PV.nms] at d
 unfold Jq at h;split at h
 ·simp only[b8,o8] at h;obtain⟨rfl,rfl,rfl⟩:=h;obtain⟨A,B,rfl,e,g⟩:=k.inv_fn';exact⟨A,B,rfl,e,g,λc d=>by rw[K3,i,i] at d;simp at d⟩
 ·simp only[b8,o8] at h;obtain⟨rfl,rfl,rfl⟩:=h;obtain⟨A,B,rfl,e,g⟩:=k.inv_fnr';exact⟨A,B,rfl,e,g,λc d=>by rw[K3] at d;simpa[PV.nms] using d⟩
 ·cases h
theorem VP.ndead{sh:Nat->Option Shp}{v:PV}{V:Value}(h:VP Γ sh w v V):∀c∈v.nms,sh c≠some .dead:=by
 induction h with
 | s v V h=>intro c hc;simp[PV.nms] at hc
 | nsl=>intro c hc;simp[PV.nms] at hc
 | flv b e sz h=>intro c hc;simp[PV.nms] at hc;subst hc;rw[h];simp
 | fl b g v e sz n cap h hv hg hcap hm hs=>intro c hc;simp[PV.nms] at hc;subst hc;rw[h];simp
 | vwv b e sz i h=>intro c hc;simp[PV.nms] at hc;subst hc;rw[h];simp
 | vw b i n g a cap v e sz m h hv hg ha hi hcap hm=>intro c hc;simp[PV.nms] at hc;subst hc;rw[h];simp
 | ptrA b i off g v e sz n h hg=>intro c hc;simp[PV.nms] at hc;subst hc;rw[h];simp
 | ptrB b off g h hg=>intro c hc;simp[PV.nms] at hc;subst hc;rw[h];simp
 | fnr g x y A B As Bs hf hA hB ha hb hx hy ihx ihy=>
  intro c hc;simp only[PV.nms,r9] at hc;rcases hc with hc|hc
  ·obtain⟨j,hj,hc⟩:=B7.1 hc;exact ihx j hj c hc
  ·obtain⟨j,hj,hc⟩:=B7.1 hc;exact ihy j hj c hc
 | it b g h hg=>intro c hc;simp[PV.nms] at hc;subst hc;rw[h];simp
 | mpv b g h hg=>intro c hc;simp[PV.nms] at hc;subst hc;rw[h];simp
 | yd=>intro c hc;simp[PV.nms] at hc
 | agg l A As hA ha hl ih=>intro c hc;simp only[PV.nms] at hc;obtain⟨j,hj,hc⟩:=B7.1 hc;exact ih j hj c hc
 | tup l A As hA ha hl ih=>intro c hc;simp only[PV.nms] at hc;obtain⟨j,hj,hc⟩:=B7.1 hc;exact ih j hj c hc
 | bad V=>intro c hc;simp[PV.nms] at hc
theorem BR.ndead{sh:Nat->Option Shp}{b:Nat}{x:Blk}(h:BR Γ sh w b x):∀c∈x.nms,sh c≠some .dead:=by
 cases x with
 | box cells=>
  intro c hc;simp only[Blk.nms] at hc;obtain⟨j,hj,hc⟩:=B7.1 hc;obtain⟨g,cur,e,h1,h2,h3,h4⟩:=h;obtain⟨V,_,e2⟩:=h4 j hj;exact e2.ndead c hc
 | arr v e sz els=>intro c hc;simp[Blk.nms] at hc
 | iter s p=>intro c hc;simp[Blk.nms] at hc
 | mp ents=>
  intro c hc;simp only[Blk.nms] at hc;obtain⟨j,hj,hc⟩:=B7.1 hc;obtain⟨g,es,ck,h1,h2,h3⟩:=h;exact h3.vals _ (j6 hj) (λV k=>k.ndead c hc)
 | ms a ents=>intro c hc;simp[Blk.nms] at hc
 | dead=>intro c hc;simp[Blk.nms] at hc
theorem Xe{ro:Option Nat}{n n0:Nat}{g:Operand}{ps:Array Tmp}{aq body:Code}{k:Out->St X->Option R}{Q:Exit->Act->World->Prop}{f9:E2}{f:Nat}{first a0:List PV}{m:List Nat}(A:Ask C I W Z K)(i3:W0 C f9)(l7:Γ.yv=K)(i9:WP C I W Z K aq)(k0:WP C I W Z K body)
  (l5:Jq (opnd C Y.sl g)=some (f,first,a0)) (f6:m.Nodup) (c2:∀c∈B9 (first++a0),c∈m) (a4:∀b∈m,b<Y.hp.length)
  (h:Nn C f9 f first a0 m Y (λl9=>En ps l9 (λY k=>B8 C W Z aq Y k) (λY k=>B8 C W Z body Y k)) k=some r) (S:SI C I Γ J Y a.tmps w) (hM:Mk n0 Γ J w a.defers) (hR:Ro ro Γ J w) (hP:At5 C I n0 Γ J Y.hp w k r Q) :
  (ag0 g ps aq body).wpIn (D9 ro) n C.P Q a w:=by
 have hv:=(S.opnd g).1;have hvn:=(S.opnd g).2;obtain⟨FA,FB,i4,k4,k5,m7⟩:=Kh l5 hv;unfold Nn at h;split at h
 case isFalse=>cases h
 rename_i b7;simp only[j4,s5] at b7;obtain⟨⟨⟨k6,f7⟩,l6⟩,d8⟩:=b7;split at h
 case h_2=>cases h
 rename_i ret Hc H1 a2 s' f1;refine wpIn_rangeFunc (λfn _=>?_);have i0:∃(G:World) (l Dv:Nat) (D:Option Nat),(Instr.enterLoop fn a.tmps ps aq body ro).run C.P w = .ok (l,D.toList.map mkD) G/\w.heap.size<=l/\l<G.heap.size/\w.heap.size<=G.heap.size/\(∀g,g<w.heap.size->G.heap[g]? = w.heap[g]?)/\
   G.heap[l]? = some (.loop (Em fn a.tmps ps aq body Dv .ready none))/\(∀d,D=some d->w.heap.size<=d/\d<G.heap.size/\d≠l/\G.heap[d]? = some (.deferred (some [])))/\G.os=w.os/\G.tape=w.tape/\G.output=w.output:=by
  cases ro with
  | none=>
   refine⟨(w.alloc (.deferred (some []))).alloc (.loop (Em fn a.tmps ps aq body w.heap.size .ready none)),w.heap.size+1,w.heap.size,some w.heap.size,run_enterLoop_outer _ _ _ _ _,by omega,by simp,by simp;omega,λg B=>?_,?_,λd hd=>?_,rfl,rfl,rfl⟩
   ·rw[Iv (by simp;omega),Iv B]
   ·have:=aa3 (w.alloc (.deferred (some []))) (.loop (Em fn a.tmps ps aq body w.heap.size .ready none));rwa [World.size_alloc] at this
   ·simp only[b8] at hd;subst hd;exact⟨p4 _,by simp;omega,by omega,by rw[Iv (by simp)];exact aa3 w _⟩
  | some l0=>
   obtain⟨_,r0,l4⟩:=hR l0 rfl;exact⟨w.alloc (.loop (Em fn a.tmps ps aq body r0.defers .ready none)),w.heap.size,r0.defers,none,run_enterLoop_inner l4 _ _ _ _ _,p4 _,by simp,by simp,λg B=>Iv B,aa3 w _,λd hd=>(by cases hd),rfl,rfl,rfl⟩
 obtain⟨G,lw,Dv,D,c8,l3,l1,h7,a5,l2,hD,ho⟩:=i0;obtain⟨S1,m8⟩:=S.wide A.hI (St':=Γ.St) a5 h7 (λ_ h=>h) (λ_ h=>.inl h) (λg B=>by have:=S.hr.stlt g B;omega) ho.1 ho.2.1 ho.2.2;have S1:SI C I Γ J Y a.tmps G:=S1;have k7:=A.hI.foot _ _ _ _ S.inv;have e4:∀{g},w.heap.size<=g->g<G.heap.size->Off Γ J G g:=fun {g} h1 h2=>⟨h2,λq=>by have:=S.hr.stlt g q;omega,λb q=>by have:=(S.hr.lt b g q).2.1;omega,λq=>by have:=(k7 g q).1;omega⟩
 have d5:Off Γ J G lw:=e4 l3 l1;have d4:∀d,D=some d->Off Γ J G d:=λd h=>e4 (hD d h).1 (hD d h).2.1
 obtain⟨dl,c3,g0,e6⟩:=Au5 S1.hr f6 a4;have d1:=Gb (Γ:=Γ) (sh:=A0 Y.hp) (w:=G) (m++V5 C Y.hp 0) Y.sl;have f3:=Zu (Γ:=Γ) (H:=Y.hp) (H':=J8 m Y.hp) (w:=G) c3;have a1:∀c∈B9 (I4 (m++V5 C Y.hp 0) Y.sl),c∉m/\c<Y.hp.length/\Ao C (Y.hp.getD c .dead)=true:=λc u=>by
  obtain⟨F,q2⟩:=d1.2.1 c u;have q3:=S.sr.nms c q2;simp only[r9,not_or] at F;refine⟨F.1,q3,?_⟩;have e:Y.hp.getD c .dead=Y.hp[c]:=by rw[j5,a7 q3];rfl
  rw[e];rcases Wn (C:=C) Y.hp 0 c q3 with q|q
  ·rw[ah6] at q;exact absurd q F.2
  ·exact q
 have g3:SR (Γ.hide m) (J8 m Y.hp) G (I4 (m++V5 C Y.hp 0) Y.sl) a.tmps:=by
  have h0:SR Γ Y.hp G (I4 (m++V5 C Y.hp 0) Y.sl) a.tmps:=⟨by rw[d1.1];exact S1.sr.size,λc u=>(a1 c u).2.1,λi hi=>by
   have c1:i<Y.sl.length:=by rw[<-d1.1];exact hi
   obtain⟨V,e1,e2⟩:=S1.sr.slot i c1;exact⟨V,e1,d1.2.2 i hi c1 V e2⟩⟩
  exact h0.mono f3 (λc u=>⟨(a1 c u).1,by rw[dl];exact(a1 c u).2.1⟩)
 have M:∀{b g},(Γ.hide m).nm b=some g->b∉m/\Γ.nm b=some g:=fun {b g} h=>by
  simp only[Ctx.hide] at h;split at h
  ·cases h
  ·exact⟨‹_›,h⟩
 have SS:SI C I (Γ.hide m) J { sl:=I4 (m++V5 C Y.hp 0) Y.sl,hp:=J8 m Y.hp,s:=Y.s } a.tmps G:=⟨e6,g3,S1.g,S1.inv,λb g p=>S1.dis b g (M p).2⟩
 have g7:∀c∈B9 (I4 (m++V5 C Y.hp 0) Y.sl),c<(J8 m Y.hp).length/\Ek C (A0 (J8 m Y.hp) c):=λc u=>by
  obtain⟨F,q2,q3⟩:=a1 c u;exact⟨by rw[dl];exact q2,by rw[c3 c F];exact(Vu q2).1 q3⟩
 have e3:∀{g},Off Γ J G g->Off (Γ.hide m) J G g:=fun {g} h=>⟨h.1,h.2.1,λb q=>h.2.2.1 b (M q).2,h.2.2.2⟩
 let Φc:Nat->Prop:=λg=>J g\/(∃b,(Γ.hide m).nm b=some g)\/g=lw\/D=some g
 have h9:RI C I (Γ.hide m) (J8 m Y.hp) G J (I4 (m++V5 C Y.hp 0) Y.sl) a.tmps lw D (Em fn a.tmps ps aq body Dv) (J8 m Y.hp,none,Y.s) Γ.St Φc G:=by
  refine⟨Γ.hide m,J,SS,Stp.pg (Stp.refl e6),λ_ h=>h,λ_=>Iff.rfl,λg B=>?_,e3 d5,λd h=>e3 (d4 d h),l2,λd h=>(hD d h).2.2.2⟩;rcases B with q|⟨b,q⟩|q|q
  ·have:=A.hI.foot _ _ _ _ S1.inv g q;exact this
  ·have:=e6.lt b g q;exact⟨this.2.1,this.2.2⟩
  ·rw[q];exact⟨d5.1,d5.2.1⟩
  ·exact⟨(d4 g q).1,(d4 g q).2.1⟩
 have i5:=FJ S1.hr f6 a4 k6;have a3:=λb (h:b∈m)=>U0 h
 have f5:(L0 Y.hp m).length=m.length:=by simp[L0]
 let y:Value:=.func (.yield lw) #[] #[];have b2:y.oneCell'=true:=rfl;have g2:HR ((Γ.lent m).reyv y b2) (L0 Y.hp m) G:=i5.reyv (λb p=>by
  have j1:b<m.length:=by rw[<-f5];exact p
  simp only[L0,s6,Blk.yf_rn];exact l6 _ (j6 j1))
 have e5:∀{l:List PV} {V:Array Value},CR Γ (A0 Y.hp) w l V->yfL l=true->(∀c∈B9 l,c∈m)->CR ((Γ.lent m).reyv y b2) (A0 (L0 Y.hp m)) G (rnL (F2 m) l) V:=fun {l V} u hy hn=>by
  have g5:CR Γ (A0 Y.hp) G l V:=u.mono (Γ':=Γ) (H':=Y.hp) (Qw S.hr a5 (λ_ h=>h)) (λ_ _=>trivial);rw[Gm];refine⟨by rw[s8];exact g5.1,λj hj=>?_⟩;have f4:j<l.length:=by simpa using hj
  obtain⟨U,e,q⟩:=g5.2 j f4;refine⟨U,e,?_⟩;rw[s6];refine VP.reyv (VP.rn (Γ:=Γ) (Γ':=Γ.lent m) rfl q (.inr λ_ h=>h) (λc u=>?_)) (by rw[PV.yf_rn];exact Eb hy _ (j6 f4));have c7:=hn c (B7.2 ⟨j,f4,u⟩);obtain⟨F,q2⟩:=a3 c c7;exact⟨Jd c7,by rw[Fb a4 F,q2]⟩
 have m4:∀(x z:List PV),yfL (x++z)=(yfL x&&yfL z):=λx z=>by
  induction x with
  | nil=>simp[yfL]
  | cons v x ih=>simp[yfL,ih,Bool.and_assoc]
 rw[m4,j4] at f7;have f0:CR ((Γ.lent m).reyv y b2) (A0 (L0 Y.hp m)) G (rnL (F2 m) first++.yd::rnL (F2 m) a0) (FA++#[y]++FB):=by
  have h1:=e5 k4 f7.1 (λc u=>c2 c (by rw[K3];simp[u]));have h2:=e5 k5 f7.2 (λc u=>c2 c (by rw[K3];simp[u]));have h3:CR ((Γ.lent m).reyv y b2) (A0 (L0 Y.hp m)) G [.yd] #[y]:=CR.one .yd;have:=(h1.append h3).append h2;simpa using this
 have e9:∀c∈B9 (rnL (F2 m) first++.yd::rnL (F2 m) a0),c<(L0 Y.hp m).length:=λc u=>by
  have:c∈(B9 (first++a0)).map (F2 m):=by
   rw[K3] at u;simp only[B9,PV.nms,List.nil_append,Bp,r9] at u;rw[K3,aa6,r9];exact u
  obtain⟨d,hd,rfl⟩:=List.mem_map.1 this;rw[f5];exact(a3 d (c2 d hd)).1
 have a9:∀{i g},(Γ.lent m).nm i=some g->∃hi:i<m.length,Γ.nm m[i]=some g:=fun {i g} h=>by
  simp only[Ctx.lent] at h;cases hi:m[i]? with
  | none=>rw[hi] at h;simp at h
  | some b=>
   obtain⟨h1,h2⟩:=List.getElem?_eq_some_iff.1 hi;rw[hi] at h;exact⟨h1,by rw[h2];exact h⟩
 have c5:=i3 _ _ _ y (Bl5 A.hI) (Bl6 (fn:=fn) (ps:=ps) (aq:=aq) (body:=body) (l:=lw) (Dv:=Dv) (D:=D) (tmps:=a.tmps) (w0:=G) (Φ0:=J) (Γ0:=Γ.hide m) A.hI l7 i9 k0 g7) f _ _ _ ret Hc _ f1 ((Γ.lent m).reyv y b2) Φc G (FA++#[y]++FB) rfl g2 S1.g h9 (λi g hi=>by
  obtain⟨k8,d0⟩:=a9 hi;rintro(q|⟨b,q⟩|q|q)
  ·exact S1.dis _ g d0 q
  ·obtain⟨F,q2⟩:=M q;have:=S1.hr.inj _ _ g d0 q2;exact F (this▸j6 k8)
  ·exact d5.2.2.1 _ (q▸d0)
  ·exact(d4 _ q).2.2.1 _ d0) f0 e9
 have c6:=Of (ro:=ro) (n:=n) (T6 d8) c5;refine⟨lw,D.toList.map mkD,G,{ target:=.fn (.func f) FB,args:=FA++#[y] },G,f,FA++#[y]++FB,G,?_,?_,λ_ _=>trivial,?_,λh=>by simp[D9,z7] at h,c6.mono ?_⟩
 ·exact c8
 ·simp[resolve,i4,ab8];rfl
 ·show(callFunc f (FA++#[y]++FB)).run C.P G=_;exact T6 d8
 rintro e W2 ⟨V,rfl,Γ1,Φ1,hs,b5,m9,m6,⟨Γb,Φb,r1⟩,c0⟩;have g8:=r1.hl;have d7:=run_endLoop (P:=C.P) g8 (by cases a2<;>simp[Em,A44]);obtain⟨w4,d3⟩:∃w4,W2.putObj lw (.loop { Em fn a.tmps ps aq body Dv (A44 a2) (a2.map jmp) with state:=.exhausted })=w4:=⟨_,rfl⟩
 rw[d3] at d7;have O:Lx Γb Φb W2 w4:=by rw[<-d3];exact Lx.put r1.ol
 have b1:w4.heap.size=W2.heap.size:=by rw[<-d3];simp
 have h4:∀g,g≠lw->w4.heap[g]? = W2.heap[g]?:=λg B=>by rw[<-d3];exact j9 B
 have inΦ:∀{g},Φb g\/(∃b,Γb.nm b=some g)\/g=lw\/D=some g->Φ1 g:=fun {g} h=>(r1.ph g).2 h
 have S5:=(r1.si.offW A.hI O).wideSt A.hI (St':=Γ1.St) r1.st (λg B hp=>(r1.ft g (inΦ (.inl hp))).2 B) (λb g p B=>(r1.ft g (inΦ (.inr (.inl ⟨b,p⟩)))).2 B) (λg B=>by rw[b1];exact b5.stlt g B);have d2:Y.hp.length<=H1.length:=by have:=r1.pg.len;rw[dl] at this;exact this
 have d6:m.length<=Hc.length:=by have:=hs.len;rw[s8] at this;exact this
 obtain⟨l8,h8⟩:=Dw m (m.map λb=>cond (Ao C (Y.hp.getD b .dead)) (Di (Hc.getD (F2 m b) .dead)) .dead) H1 f6 (by simp) (λb p=>j8 (a4 b p) d2);generalize e8:IB C m Y.hp Hc H1=H2 at h;have a6:H2.length=H1.length:=by rw[<-e8];exact l8
 have e7:∀b (p:b∈m),H2[b]? = some (cond (Ao C (Y.hp.getD b .dead)) (Di (Hc.getD (F2 m b) .dead)) .dead):=λb p=>by
  rw[<-e8];simp only[IB];rw[h8,if_pos p,y7];have e:m.idxOf b=F2 m b:=rfl;rw[e,a7 (a3 b p).1,(a3 b p).2];rfl
 have b4:∀b,b∉m->H2[b]? = H1[b]?:=λb p=>by
  rw[<-e8];simp only[IB];rw[h8,if_neg p]
 let Γf:Ctx:={ St:=Γ1.St,nm:=λb=>if b∈m then (if Ao C (Y.hp.getD b .dead)=true then Γ1.nm (F2 m b) else none) else Γb.nm b,yv:=Γ.yv,yv1:=Γ.yv1 }
 have b3:∀{b},b∈m->Ao C (Y.hp.getD b .dead)=true->Γf.nm b=Γ1.nm (F2 m b):=fun {b} h1 h2=>by simp only[Γf];rw[if_pos h1,if_pos h2]
 have g1:∀{b},b∈m->¬Ao C (Y.hp.getD b .dead)=true->Γf.nm b=none:=fun {b} h1 h2=>by simp only[Γf];rw[if_pos h1,if_neg h2]
 have b0:∀{b},b∉m->Γf.nm b=Γb.nm b:=fun {b} h1=>by simp only[Γf];rw[if_neg h1]
 have L:∀{b g},Γf.nm b=some g->(b∈m/\Γ1.nm (F2 m b)=some g)\/(b∉m/\Γb.nm b=some g):=fun {b g} h=>by
  by_cases p:b∈m
  ·by_cases hf:Ao C (Y.hp.getD b .dead)=true
   ·rw[b3 p hf] at h;exact .inl ⟨p,h⟩
   ·rw[g1 p hf] at h;cases h
  ·rw[b0 p] at h;exact .inr ⟨p,h⟩
 have h5:∀c,c∈m->A0 H1 c=some .dead:=λc u=>by
  obtain⟨_,k2,_⟩:=r1.pg.keep c (by rw[dl];exact a4 c u) (by rw[g0 c u];trivial);rw[k2];exact g0 c u
 have e0:∀b,b∉m->A0 H2 b=A0 H1 b:=λb p=>by simp only[A0,b4 b p]
 have Mf:R8 { Γb with St:=Γ1.St } (A0 H1) w4 Γf (A0 H2) w4 (·∉m):=⟨λ_ _=>rfl,λ_ h=>h,λb p=>b0 p,e0,λ_ _ _ _=>rfl,(r1.pg.yv:Γb.yv=Γ.yv).symm⟩
 have i6:HR Γf H2 w4:=by
  refine⟨λb b' g h1 h2=>?_,λb g p=>?_,λg B=>by rw[b1];exact b5.stlt g B,λb p c u=>?_,λb p=>?_⟩
  ·rcases L h1 with⟨p1,F⟩|⟨p1,F⟩<;>rcases L h2 with⟨p2,q2⟩|⟨p2,q2⟩
   ·have:=b5.inj _ _ g F q2;have e1:=(a3 b p1).2;have e2:=(a3 b' p2).2;rw[<-e1,<-e2];simp only[this]
   ·exact absurd (inΦ (.inr (.inl ⟨b',q2⟩))) (c0 _ g F)
   ·exact absurd (inΦ (.inr (.inl ⟨b,F⟩))) (c0 _ g q2)
   ·exact r1.si.hr.inj b b' g F q2
  ·rcases L p with⟨p1,F⟩|⟨p1,F⟩
   ·have:=b5.lt _ g F;exact⟨by rw[a6];exact j8 (a4 b p1) d2,by rw[b1];exact this.2.1,this.2.2⟩
   ·have:=S5.hr.lt b g F;exact⟨by rw[a6];exact this.1,this.2⟩
  ·by_cases t:b∈m
   ·have e:=e7 b t;rw[a7 p] at e;simp only[b8] at e;rw[e] at u;cases hf:Ao C (Y.hp.getD b .dead) with
    | true=>rw[hf,cond_true,Zf] at u;simp at u
    | false=>rw[hf] at u;simp[Blk.nms] at u
   ·have e:=b4 b t;have b6:b<H1.length:=by rw[<-a6];exact p
    rw[a7 p,a7 b6] at e;simp only[b8] at e;rw[e] at u;rw[a6];exact S5.hr.nms b b6 c u
  ·by_cases t:b∈m
   ·have e:=e7 b t;rw[a7 p] at e;simp only[b8] at e;rw[e];cases hf:Ao C (Y.hp.getD b .dead) with
    | true=>
     rw[cond_true];have hi:F2 m b<Hc.length:=j8 (a3 b t).1 d6;rw[Mu hi];refine Ah3 (b5.blk _ hi) (b3 t hf) (λg B=>h4 g ?_) (λ_ h=>h) (λg B=>h4 g ?_)
     ·intro e;rw[e] at B;exact(r1.ft _ (inΦ (.inr (.inr (.inl rfl))))).2 B
     ·intro e;rw[e] at B;exact c0 _ _ B (inΦ (.inr (.inr (.inl rfl))))
    | false=>trivial
   ·have e:=b4 b t;have b6:b<H1.length:=by rw[<-a6];exact p
    rw[a7 p,a7 b6] at e;simp only[b8] at e;rw[e];have hB:=S5.hr.blk b b6;exact hB.mono Mf (b0 t) (λ_ _=>rfl) (λc u c7=>hB.ndead c u (h5 c c7))
 have g4:SR Γf H2 w4 (I4 (m++V5 C Y.hp 0) Y.sl) a.tmps:=S5.sr.mono Mf (λc u=>⟨(a1 c u).1,by rw[a6];exact j8 (a1 c u).2.1 d2⟩);have SF:SI C I Γf Φb { sl:=I4 (m++V5 C Y.hp 0) Y.sl,hp:=H2,s:=s' } a.tmps w4:=⟨i6,g4,S5.g,S5.inv,λb g p=>by
  rcases L p with⟨_,F⟩|⟨_,F⟩
  ·exact λq=>c0 _ g F (inΦ (.inl q))
  ·exact S5.dis b g F⟩
 have m5:=hs.size;have f8:Stp C Γ Y.hp w J Γf H2 w4 Φb:=by
  refine⟨O.os.trans (hs.os.trans ho.1),O.tape.trans (hs.tape.trans ho.2.1),O.output.trans (hs.output.trans ho.2.2),by omega,λg B=>hs.sub g B,λg B=>?_,λb g p=>?_,λg B=>?_,λg B hn hp=>?_,rfl,by rw[a6];exact d2,λb p hf=>?_⟩
  ·rcases hs.stnew g B with q|q
   ·exact .inl q
   ·exact .inr (by omega)
  ·rcases L p with⟨p1,F⟩|⟨p1,F⟩
   ·rcases hs.own _ g F with⟨_,q⟩|q
    ·obtain⟨i1,i2⟩:=a9 q;rw[(a3 b p1).2] at i2;exact .inl ⟨a4 b p1,i2⟩
    ·exact .inr (by omega)
   ·rcases r1.pg.own b g F with⟨q,q'⟩|q
    ·exact .inl ⟨by rw[<-dl];exact q,(M q').2⟩
    ·exact .inr (by omega)
  ·rcases r1.pg.foot g B with q|q
   ·exact .inl q
   ·exact .inr (by omega)
  ·have np:¬ Φc g:=by
    rintro(q|⟨b,q⟩|q|q)
    ·exact hp q
    ·exact hn b (M q).2
    ·omega
    ·have:=(hD g q).1;omega
   rw[h4 g (by omega),hs.frame g (by omega) (λb q=>by obtain⟨_,i2⟩:=a9 q;exact hn _ i2) np,a5 g B]
  ·by_cases t:b∈m
   ·have g6:=(Vu (C:=C) (H:=Y.hp) p).2 hf;obtain⟨F,q2⟩:=a3 b t;have hi:F2 m b<(L0 Y.hp m).length:=by rw[f5];exact F
    have h6:A0 (L0 Y.hp m) (F2 m b)=A0 Y.hp b:=by rw[Fb a4 F,q2]
    obtain⟨k1,k2,k3⟩:=hs.keep _ hi (by show Ek C (A0 (L0 Y.hp m) _);rw[h6];exact hf);have k2:A0 Hc (F2 m b)=A0 (L0 Y.hp m) (F2 m b):=k2;have d9:((Γ.lent m).reyv y b2).nm (F2 m b)=Γ.nm b:=Jd t;refine⟨(b3 t g6).trans (k1.trans d9),?_,λg B=>?_⟩
    ·have c1:F2 m b<Hc.length:=j8 F d6;simp only[A0,e7 b t,g6,cond_true,aa7,Zg,Mu c1];show some (Hc[F2 m b]).shp=A0 Y.hp b;rw[<-h6,<-k2];simp only[A0,a7 c1,aa7]
    ·have e1:=k3 g (d9.trans B);have f2:=S.hr.lt b g B;rw[D2 (h4 g (by omega)),e1,D2 (a5 g f2.2.1)]
   ·obtain⟨k1,k2,k3⟩:=r1.pg.keep b (by rw[dl];exact p) (by rw[c3 b t];exact hf);have hh:(Γ.hide m).nm b=Γ.nm b:=by simp only[Ctx.hide];rw[if_neg t]
    refine⟨(b0 t).trans (k1.trans hh),by rw[e0 b t,k2,c3 b t],λg B=>?_⟩;have f2:=S.hr.lt b g B;rw[D2 (h4 g (by omega)),k3 g (hh.trans B),D2 (a5 g f2.2.1)]
 have i7:Mk n0 Γf Φb w4 (D.toList.map mkD++a.defers):=by
  obtain⟨m0,Ds,m1,m2,m3⟩:=hM;refine⟨by omega,D.toList++Ds,by rw[m1,aa6],?_,λd hd=>?_⟩
  ·cases D with
   | none=>exact m2
   | some d=>exact af9.2 ⟨λg9=>by have:=(m3 _ g9).2.1.1;have:=(hD d rfl).1;omega,m2⟩
  ·rcases r9.1 hd with hd|hd
   ·have e:D=some d:=by
     cases D with
     | none=>simp at hd
     | some d'=>simp at hd;rw[hd]
    refine⟨w6 m0 (hD d e).1,⟨by rw[b1];exact(r1.od d e).1,(r1.ft _ (inΦ (.inr (.inr (.inr e))))).2,λb q=>?_,(r1.od d e).2.2.2⟩,by rw[h4 _ (hD d e).2.2.1];exact r1.hd d e⟩;rcases L q with⟨_,F⟩|⟨_,F⟩
    ·exact c0 _ _ F (inΦ (.inr (.inr (.inr e))))
    ·exact(r1.od d e).2.2.1 b F
   ·obtain⟨k1,k2,k3⟩:=m3 d hd;obtain⟨F,q2⟩:=k2.step f8;exact⟨k1,F,q2.trans k3⟩
 have c4:=hP (a2.getD .normal) { sl:=I4 (m++V5 C Y.hp 0) Y.sl,hp:=H2,s:=s' } { a with defers:=D.toList.map mkD++a.defers } w4 Γf Φb h f8 SF i7;refine⟨a2.map jmp,w4,d7,?_⟩;cases a2 with
 | none=>exact c4
 | some o=>
  cases o with
  | normal=>exact wpIn_skip c4
  | exit id=>exact wpIn_exit c4
  | ret=>exact wpIn_ret c4
theorem Rv{n:Array Tmp}{d:List PV}{g c:Code}:∀(L:List (List PV)) (H:List Blk) (s:X) {k:Option Out->List Blk->X->Option R},T8 n d (λY k=>B8 C W Z g Y k) (λY k=>B8 C W Z c Y k) L H s k=some r->
  ∃H' b f,Z9 (En n d (λY k=>B8 C W Z g Y k) (λY k=>B8 C W Z c Y k)) L (H,none,s)=some (H',b,f)/\k b H' f=some r
 | [],H,s,k,h=>⟨H,none,s,rfl,h⟩
 | x::xs,H,s,k,h=>by
  simp only[T8] at h;split at h
  case isFalse=>cases h
  rename_i v;obtain⟨o,y,p,i⟩:=Vt h;cases o with
  | exit id=>cases i
  | ret=>cases i
  | normal=>
  obtain⟨m,e,q,j⟩:=Vt i;have l:En n d (λY k=>B8 C W Z g Y k) (λY k=>B8 C W Z c Y k) x (H,none,s)=some ((Z8 m).isNone,((R5 H.length e).hp,Z8 m,e.s)):=by
   simp only[En];rw[if_pos v,Zo p];dsimp only;rw[Zo q]
  cases m with
  | normal=>
   obtain⟨H',b,f,t,u⟩:=Rv xs _ _ j;refine⟨H',b,f,?_,u⟩;simp only[Z9,l];exact t
  | exit id=>exact⟨_,_,_,by simp only[Z9,l];rfl,j⟩
  | ret=>exact⟨_,_,_,by simp only[Z9,l];rfl,j⟩
theorem ZW{ro:Option Nat}{n n0:Nat}{g:Operand}{G:Array Tmp}{q i:Code}{k:Out->St X->Option R}{Q:Exit->Act->World->Prop}(A:Ask C I W Z K)(z:Γ.yv=K)(t:WP C I W Z K q)(u:WP C I W Z K i)
  (h:Lq C W (opnd C Y.sl g) Y (λp=>En G p (λY k=>B8 C W Z q Y k) (λY k=>B8 C W Z i Y k)) (λp=>T8 G p (λY k=>B8 C W Z q Y k) (λY k=>B8 C W Z i Y k)) k=some r) (S:SI C I Γ J Y a.tmps w) (P:Mk n0 Γ J w a.defers) (V:Ro ro Γ J w) (U:At5 C I n0 Γ J Y.hp w k r Q) :
  (ag0 g G q i).wpIn (D9 ro) n C.P Q a w:=by
 have hvn:=(S.opnd g).2;have hv:=(S.opnd g).1;unfold Lq at h;split at h
 case h_2=>cases h
 rename_i f first d o;obtain⟨FA,FB,a0,a1,a2,O⟩:=Kh o hv;have y:=Ru Y.hp (B9 (first++d));have m:=AV Y.hp (B9 (first++d));have v:∀b∈Y2 Y.hp (B9 (first++d)),b<Y.hp.length:=AU Y.hp (B9 (first++d)) (· < Y.hp.length) (λb D c F=>by
  have e:Y.hp.getD b .dead=Y.hp[b]:=by rw[j5,a7 D];rfl
  rw[e] at F;exact S.hr.nms b D c F) (λc F=>hvn c (O c F))
 generalize Y2 Y.hp (B9 (first++d))=l at *;split at h
 ·rename_i pf hS;unfold RP at h;split at h
  case isFalse=>cases h
  rename_i j;rw[j4] at j;split at h
  case h_2=>cases h
  rename_i cL L hL;obtain⟨rfl,h⟩:=B6 h;obtain⟨H',B,s',h1,h2⟩:=Rv L _ _ h;refine Xe A A.hX.s z t u o y m v ?_ S P V U;unfold Nn;rw[if_pos j.1];have M:(l.map λb=>(Y.hp.getD b .dead).rn (F2 l)).all Wd=true:=by
   rw[ah3,s5];intro b D;have:=s5.1 j.2 b D;simp only[Function.comp];generalize Y.hp.getD b .dead=x at this;cases x<;>simp_all [Wd,Blk.rn]
  have e:clS C (List Blk × Option Out × X) (En G (I4 (l++V5 C Y.hp 0) Y.sl) (λY k=>B8 C W Z q Y k) (λY k=>B8 C W Z i Y k)) f (rnL (F2 l) first++PV.yd::rnL (F2 l) d) (l.map λb=>(Y.hp.getD b .dead).rn (F2 l)) (J8 l Y.hp,none,Y.s)=some (.tup [],(l.map λb=>(Y.hp.getD b .dead).rn (F2 l)).map Di,(H',B,s')):=by
   simp only[clS,hS];rw[if_pos M,hL];simp only[h1]
  rw[e];exact h2
 ·exact Xe A A.hC z t u o y m v h S P V U
end
section
variable {J R : Type} {r : R} {C : Cfg} {I : J -> (Nat -> Prop) -> (Nat -> Prop) -> World -> Prop} {L : Ctx} {W : Nat -> Prop} {Y : St J} {a : Act} {w : World} {U : E2} {Z : Yh J} {K : Value} {o : Oper} {H : List Blk}
theorem YA(A:Ask C I U Z K)(hm:C.P.follows .mixedOrders=true):∀(c:Code) {ro:Option Nat} {n n0:Nat} {rf:Bool} {R:Type} {r:R} {L:Ctx} {W:Nat->Prop} {Y:St J} {a:Act} {w:World} {k:Out->St J->Option R} {Q:Exit->Act->World->Prop},
  O8 C rf c=true->L.yv=K->B8 C U Z c Y k=some r->SI C I L W Y a.tmps w->Mk n0 L W w a.defers->Ro ro L W w->At5 C I n0 L W Y.hp w k r Q->c.wpIn (D9 ro) n C.P Q a w:=by
 intro c
 induction c with
 | skip=>intro ro n n0 rf R r L W Y a w k Q b f h S z G q;exact wpIn_skip (q .normal Y a w L W h (Stp.refl S.hr) S z)
 | label l=>intro ro n n0 rf R r L W Y a w k Q b f h S z G q;exact wpIn_label (q .normal Y a w L W h (Stp.refl S.hr) S z)
 | region id T d=>
  intro ro n n0 rf R r L W Y a w k Q b f h S z G q;cases d with
  | false=>
   have h:RX C U Z T Y (λp=>k .normal (Mt (C.keepR id) Y.hp.length p)) T.toList=some r:=by
    simp only[B8,RY] at h;split at h
    ·exact h
    ·cases h
   refine wpIn_region_list (A18 A T.toList f h S ?_);intro p F w' Γ' i v u B D;obtain⟨N,V,M⟩:=Kb A.hI B u (C.keepR id) (p4 _);exact q .normal _ F w' N i v M V (by rw[D];exact z.step M)
  | true=>
   simp only[O8,p5,Bool.false_or] at b;refine A19 A hm b f h S ?_;intro p F w' Γ' i v u B D;obtain⟨N,V,M⟩:=Kb A.hI B u (C.keepR id) (p4 _);exact q .normal _ F w' N i v M V (by rw[D];exact z.step M)
 | seq x y O P=>
  intro ro n n0 rf R r L W Y a w k Q b f h S z G q;simp only[O8,j4] at b;refine wpIn_seq (O b.1 f h S z G ?_);intro o p F w' Γ' i v u B D;cases o with
  | normal=>exact P b.2 (u.yv.trans f) v B D (G.step u) λo2 a3 a2 w2 N Φ2 k1 k2 k3 k4=>q o2 a3 a2 w2 N Φ2 k1 (u.trans k2) k3 k4
  | exit id=>exact q (.exit id) p F w' Γ' i v u B D
  | ret=>exact q .ret p F w' Γ' i v u B D
 | cond c x y O P=>
  intro ro n n0 rf R r L W Y a w k Q b f h S z G q;simp only[O8,j4] at b;simp only[B8] at h;split at h
  ·rename_i t hc;have hv:=(S.opnd c).1;rw[hc] at hv;have hb:=hv.inv_bool;cases t with
   | true=>exact wpIn_cond hb (O b.1 f h S z G q)
   | false=>exact wpIn_cond hb (P b.2 f h S z G q)
  ·cases h
 | block id x ih=>
  intro ro n n0 rf R r L W Y a w k Q b f h S z G q;refine wpIn_block (ih b f h S z G ?_);intro o p F w' Γ' i v u B D;cases o with
  | normal=>exact q .normal p F w' Γ' i v u B D
  | exit j=>
   simp only[Out.exit',Exit.inBlock];dsimp only at v;split at v
   ·rename_i e;rw[if_pos e];exact q .normal p F w' Γ' i v u B D
   ·rename_i e;rw[if_neg e];exact q (.exit j) p F w' Γ' i v u B D
  | ret=>exact q .ret p F w' Γ' i v u B D
 | loop x ih=>
  intro ro n n0 rf R r L W Y a w k Q b f h S z G q;simp only[B8] at h;refine UJ (λm F w'=>∃p Γ' i,E7 Y.hp.length (C.keep (IY x)) (λY k=>B8 C U Z x Y k) m p k=some r/\Stp C L Y.hp w W Γ' p.hp w' i/\SI C I Γ' i p F.tmps w'/\Mk n0 Γ' i w' F.defers) C.lf ⟨_,L,W,h,by rw[Cc];exact Stp.refl S.hr,Cb S _,z⟩ ?_;rintro m a1 w1 ⟨a4,Γ1,Φ1,v,u,B,D⟩;cases m with
  | zero=>simp[E7] at v
  | succ m=>
   simp only[E7] at v;refine ih b (u.yv.trans f) v B D (G.step u) ?_;intro o p F w' Γ' i k1 k2 k3 k4;cases o with
   | normal=>
    obtain⟨N,V,M,X⟩:=LW A.hI k3 (u.trans k2);have a0:=Mk.sub k4 X;exact⟨m,Nat.lt_succ_self m,_,N,i,k1,by rw[Cc];exact M,Cb V _,a0⟩
   | exit j=>exact q (.exit j) _ F w' Γ' i k1 (by rw[Cc];exact u.trans k2) (Cb k3 _) k4
   | ret=>exact q .ret _ F w' Γ' i k1 (by rw[Cc];exact u.trans k2) (Cb k3 _) k4
 | exit id=>intro ro n n0 rf R r L W Y a w k Q b f h S z G q;exact wpIn_exit (q (.exit id) _ a w L W h (by rw[Cc];exact Stp.refl S.hr) (Cb S _) z)
 | ret=>intro ro n n0 rf R r L W Y a w k Q b f h S z G q;exact wpIn_ret (q .ret _ a w L W h (by rw[Cc];exact Stp.refl S.hr) (Cb S _) z)
 | scope x ih=>
  intro ro n n0 rf R r L W Y a w k Q b f h S z G q;refine MB (ih (Q:=λe a w=>(∀l,e≠.goto l)/\Q e a w) b f h S z G ?_);intro o p F w' Γ' i v u B D;exact⟨λl=>by cases o<;>simp[Out.exit'],q o p F w' Γ' i v u B D⟩
 | rangeFunc g ps x y O P=>
  intro ro n n0 rf R r L W Y a w k Q b f h S z G q;simp only[O8,j4] at b;obtain⟨hx,hy⟩:=b;simp only[B8] at h;exact ZW A f (fun {R r ro n n0 L W Y a w k Q} v u B D h6 h5=>O hx v u B D h6 h5) (fun {R r ro n n0 L W Y a w k Q} v u B D h6 h5=>P hy v u B D h6 h5) h S z G q
 | _=>intro ro n n0 rf R r L W Y a w k Q b f h S z G q;simp[B8] at h
end
section
variable {J R : Type} {r : R} {C : Cfg} {I : J -> (Nat -> Prop) -> (Nat -> Prop) -> World -> Prop} {L : Ctx} {Y : Nat -> Prop} {W : St J} {a : Act} {w : World} {O : E2} {K : Yh J} {Z : Value} {o : Oper} {H : List Blk}
def Qo(b:Array Value):ResultVar->Sem Value
 | .tmp t=>pure (b.getD t undef)
 | .cell a t=>do loadVar t (<-asAddr (b.getD a undef))
theorem SM(fn:Func)(b:Array Value):results fn b=(fn.results.toList.mapM (Qo b) >>= λl=>pure (if h:l.length=1 then l[0] else .tuple l.toArray)):=by
 unfold results;have:∀(c:Array ResultVar),(c.mapM (Qo b) >>= λd=>(pure (if h:d.size=1 then d[0] else .tuple d):Sem Value))=(c.toList.mapM (Qo b) >>= λl=>pure (if h:l.length=1 then l[0] else .tuple l.toArray)):=by
  intro c;rw[Array.mapM_eq_mapM_toList,map_eq_pure_bind,bind_assoc]
  congr 1
 exact this fn.results
theorem Zq(S:SR L H w W.sl a.tmps)(t:Nat):VP L (A0 H) w (W.sl.getD t (.tup [])) (a.tmps.getD t undef)/\∀c∈(W.sl.getD t (.tup [])).nms,c<H.length:=by
 by_cases h:t<W.sl.length
 ·obtain⟨V,e,k⟩:=S.slot t h;have g:∀c∈(W.sl[t]).nms,c<H.length:=λc f=>S.nms c (B7.2 ⟨t,h,f⟩)
  simp_all
 ·have b:W.sl.getD t (.tup []) = .tup []:=by rw[j5,p6 (ac5 h)];rfl
  have d:a.tmps.getD t undef=undef:=by rw[Array.getD_eq_getD_getElem?,ac6 (by rw[S.size];exact ac5 h)];rfl
  rw[b,d];exact⟨R6,by simp[PV.nms,B9]⟩
def LR(L:Ctx)(sh:Nat->Option Shp)(w:World):List PV->List Value->Prop
 | [],[]=>True
 | v::r,V::q=>VP L sh w v V/\LR L sh w r q
 | _,_=>False
theorem LR.len{sh:Nat->Option Shp}:∀{l:List PV} {A:List Value},LR L sh w l A->A.length=l.length
 | [],[],_=>rfl
 | v::r,V::q,h=>by simp[LR.len h.2]
 | [],_::_,h=>h.elim
 | _::_,[],h=>h.elim
theorem LR.CR{sh:Nat->Option Shp}:∀{l:List PV} {A:List Value},LR L sh w l A->∀j (h:j<l.length),∃U,A[j]? = some U/\VP L sh w (l[j]) U
 | [],[],_,j,h=>by simp at h
 | v::r,V::q,h,0,_=>⟨V,rfl,h.1⟩
 | v::r,V::q,h,j+1,hj=>by
  obtain⟨U,e,k⟩:=LR.CR h.2 j (by simpa using hj);grind
 | [],_::_,h,_,_=>h.elim
 | _::_,[],h,_,_=>h.elim
theorem Ax7{t:TypeId}{A V:Value}{w':World}(h:(ah2 t A).run C.P w' = .ok V w'):(do loadVar t (<-asAddr A):Sem Value).run C.P w' = .ok V w':=by
 simp only[ah2] at h;unfold Instr.sureAddr at h;split at h
 ·exact h
 simp_all
theorem Lr(j:HR L H w)(S:SR L H w W.sl a.tmps):∀(n:List ResultVar) {k:List PV->Option R},Sn C W.sl H n k=some r->
  ∃e d,k e=some r/\(n.mapM (Qo a.tmps)).run C.P w = .ok d w/\LR L (A0 H) w e d/\∀c∈B9 e,c<H.length
 | [],k,h=>⟨[],[],h,by simp,trivial,by simp[B9]⟩
 | .tmp t::b,k,h=>by
  simp only[Sn] at h;obtain⟨e,d,g,m,i,q⟩:=Lr j S b h;obtain⟨f,p⟩:=Zq S t;refine⟨_,a.tmps.getD t undef::d,g,?_,⟨f,i⟩,λc l=>?_⟩
  ·rw[ag3];simp only[Qo,ae7,Sem.run_pure,ad8,m]
  ·simp only[B9,r9] at l;grind
 | .cell x t::b,k,h=>by
  simp only[Sn] at h;obtain⟨f,p⟩:=Zq S x;obtain⟨v,u,A,V,z,y⟩:=Rl j h f;obtain⟨e,d,g,m,i,q⟩:=Lr j S b u;refine⟨_,V::d,g,?_,⟨z,i⟩,λc l=>?_⟩
  ·rw[ag3];have:=Ax7 (y w (Ext.refl w));rw[show Qo a.tmps (.cell x t)=(do loadVar t (<-asAddr (a.tmps.getD x undef)):Sem Value) from rfl];rw[ae7,this];simp_all
  ·simp only[B9,r9] at l;grind
theorem JY{b:List PV}{c:Nat}(h:c∈(W9 b).nms):c∈B9 b:=by
 unfold W9 at h;split at h
 ·simp[B9,h]
 ·exact h
theorem Az7{f:List PV}{b:List Value}(h:LR L (A0 H) w f b):VP L (A0 H) w (W9 f) (if h:b.length=1 then b[0] else .tuple b.toArray):=by
 have c:=h.len;unfold W9;split
 ·rename_i v;cases b with
  | nil=>simp at c
  | cons V q=>
   cases q with
   | nil=>exact h.1
   | cons _ _=>simp at c
 ·rename_i d;have:b.length≠1:=by
   intro e;rw[e] at c
   match f,c with
   | [v],_=>exact d v rfl
  rw[dif_neg this];refine VP.mk_tup (by simpa using c) λj g=>?_
  obtain⟨U,e,k⟩:=h.CR j g;grind
def Dh(C:Cfg):Prop:=∀ f fn c,C.okf f=true->C.P.funcs[f]? = some fn->fn.body=some c->Ai5 C c=true/\(fn.name == "runtime.NumGoroutine")=false
theorem Hv{f:Nat}{fn:Func}{c:Code}{d:Array Value}(g:C.P.funcs[f]? = some fn)(e:fn.body=some c)(h:(fn.name == "runtime.NumGoroutine")=false):(callFunc f d).run C.P w = .ok (.enter f d) w:=by
 have b:¬ fn.name = "runtime.NumGoroutine":=by simpa using h
 simp[callFunc,g,e,b,ad8]
theorem Au1{args:List PV}{d:Array Value}{n:Nat}(e:CR L (A0 H) w args d)(i:∀c∈B9 args,c<H.length) :
  SR L H w (args++j3 (n-args.length) (.tup [])) (d++aa4 (n-d.size) undef):=by
 have h:CR L (A0 H) w (j3 (n-args.length) (.tup [])) (aa4 (n-d.size) undef):=⟨by simp[e.1],λj f=>by
  simp only[List.length_replicate] at f;refine⟨undef,by rw[e.1];simp[f],?_⟩;simp only[List.getElem_replicate];exact R6⟩
 have g:=e.append h;refine⟨g.1,λc b=>?_,g.2⟩;rw[K3,r9] at b;rcases b with b|b
 ·exact i c b
 ·obtain⟨j,f,b⟩:=B7.1 b;simp[PV.nms,B9] at b
theorem Stp.put{Γ0 Γ':Ctx}{H0 H':List Blk}{w0 w':World}{Φ0 Φ':Nat->Prop}{D:Nat}{ob:Obj}(h:Stp C Γ0 H0 w0 Φ0 Γ' H' w' Φ')(hD:w0.heap.size<=D)(hO:Off Γ' Φ' w' D):Stp C Γ0 H0 w0 Φ0 Γ' H' (w'.putObj D ob) Φ':=by
 refine⟨h.os,h.tape,h.output,by rw[World.putObj_size];exact h.size,h.sub,h.stnew,h.own,h.foot,λg hg hn hp=>?_,h.yv,h.len,λb hb hf=>?_⟩
 ·rw[j9 (by omega)];exact h.frame g hg hn hp
 ·obtain⟨k1,k2,k3⟩:=h.keep b hb hf;refine⟨k1,k2,λg hg=>?_⟩;rw[<-k3 g hg];refine D2 (j9 ?_);rintro rfl;exact hO.2.2.1 b (k1.trans hg)
theorem WD{F:Fence}{n:Nat}{fn:Func}{l:Ending->World->Prop}{f Γ':Ctx}{k:List Blk}{j:World}{g c:Nat->Prop}{d:St J}{b:Array Value}(q:HI I)
  (t:∀w',SI C I Γ' c d b w'->Stp C f k j g Γ' d.hp w' c->∃V,(results fn b).run C.P w' = .ok V w'/\l (.returned V) w') :
  ∀(e:List Nat) (w:World),e.Nodup->(∀D∈e,j.heap.size<=D/\Off Γ' c w D/\w.heap[D]? = some (.deferred (some [])))->SI C I Γ' c d b w->Stp C f k j g Γ' d.hp w c->LeavesInM F n C.P fn b l (e.map mkD) .returning w
 | [],w,_,_,S,h=>t w S h
 | D::e,w,y,p,S,h=>by
  obtain⟨u,m,v⟩:=p D (by simp);refine⟨by simp,.inl ⟨D,w.putObj D (.deferred none),rfl,run_takeDeferred v,?_⟩⟩;have i:=af9.1 y;refine WD q t e _ i.2 (λE x=>?_) (S.offW q (Lx.put m)) (h.put u m);obtain⟨z,A,B⟩:=p E (by simp[x]);refine⟨z,A.put,(j9 ?_).trans B⟩;grind
theorem Ex(hX:XOK C)(hO:Dh C)(hm:C.P.follows .mixedOrders=true):∀d,W0 C (evC C d)
 | 0=>λJ I K Z D hy g args H s ret j k h=>by simp[evC] at h
 | d+1=>λJ I K Z D hy g args H s ret j k h L Y w u S hH hg hi A G hn=>by
  have ih:=Ex hX hO hm d;simp only[evC] at h;split at h
  ·rename_i fn P M;split at h
   ·rename_i c F;obtain⟨m,p⟩:=hO g fn c P M F;intro ro n o a next Q N
    rw[Hv M F p];simp only[ab5];refine⟨λh=>(by simp[D9,z7] at h),?_⟩;have key:CallsIn z7 (n-1) C.P g u w λe i=>∃V,e = .returned V/\V9 C I L H w Y ret j k V i:=by
     refine callsIn_of_wp_marks M F trivial ?_;have S0:SI C I L Y { sl:=args++j3 (fn.ntmps-args.length) (.tup []),hp:=H,s:=s } (u++aa4 (fn.ntmps-u.size) undef) w:=⟨hH,Au1 G hn,hg,hi,A⟩
     refine YA (ro:=none) (rf:=true) (n:=n-1) (n0:=w.heap.size) (a:={ tmps:=u++aa4 (fn.ntmps-u.size) undef,defers:=[] }) ⟨D,ih,hX,hy⟩ hm c m S h S0 (Mk.nil (p4 _)) Ro.none ?_;intro o f y w' Γ' t T U q ⟨_,Ds,k4,k5,k6⟩
     suffices z:∀w',SI C I Γ' t f y.tmps w'->Stp C L H w Y Γ' f.hp w' t->Sn C f.sl f.hp fn.results.toList (λv=>some (W9 v,f.hp,f.s))=some (ret,j,k)->∃V,(results fn y.tmps).run C.P w' = .ok V w'/\∃x,af6 V = .returned x/\V9 C I L H w Y ret j k x w' by
      have l:Sn C f.sl f.hp fn.results.toList (λv=>some (W9 v,f.hp,f.s))=some (ret,j,k)->LeavesInM (D9 none) (n-1) C.P fn y.tmps (λe i=>∃V,e = .returned V/\V9 C I L H w Y ret j k V i) y.defers .returning w':=λh=>by
       rw[k4];exact WD D (λw' a b=>z w' a b h) Ds w' k5 k6 q U
      cases o with
      | normal=>exact l T
      | ret=>exact l T
      | exit id=>cases T
     intro w' q U;have z:∀(h:Sn C f.sl f.hp fn.results.toList (λv=>some (W9 v,f.hp,f.s))=some (ret,j,k)),∃V,(results fn y.tmps).run C.P w' = .ok V w'/\∃x,af6 V = .returned x/\V9 C I L H w Y ret j k x w':=λh=>by
      obtain⟨v,Us,X,h2,h3,h4⟩:=Lr q.hr q.sr _ h;simp only[b8,o8] at X;obtain⟨rfl,rfl,rfl⟩:=X;refine⟨_,?_,_,rfl,Γ',t,U,q.hr,Az7 h3,λc G=>h4 c (JY G),q.inv,q.dis⟩;rw[SM,ae7,h2];rfl
     omega
    have B:CallsIn (D9 ro) (n-1) C.P g u w λe i=>∃V,e = .returned V/\V9 C I L H w Y ret j k V i:=key
    refine B.mono ?_;grind
   ·cases h
  ·cases h
end
end
section
open Go Go.ChangeShapes Go.RowKit Go.WideShapes
inductive Ty where
 | bool
 | int (k:IntKind)
 | str
 | slice (e:List Ty)
 deriving Inhabited
def Aq4(P:Program)(f:Nat->Option (List Ty)):List Field->Nat->Option (List Ty)
 | [],_=>some []
 | x::r,off=>if x.offset==off then match f x.type with
   | some a=>if P.cellsOf x.type==a.length then match Aq4 P f r (off+a.length) with
    | some b=>some (a++b)
    | none=>none else none
   | none=>none else none
def Dz(P:Program):Nat->Nat->Option (List Ty)
 | 0,_=>none
 | d+1,t=>match P.underlying t with
  | some .bool=>some [.bool]
  | some (.int k)=>some [.int k]
  | some .string=>some [.str]
  | some (.slice e)=>match Dz P d e with
   | some a=>if P.cellsOf e==a.length&&decide (0<a.length) then some [.slice a] else none
   | none=>none
  | some (.struct b)=>match Aq4 P (Dz P d) b.toList 0 with
   | some r=>if P.cellsOf t==r.length then some r else none
   | none=>none
  | some (.array n e)=>match Dz P d e with
   | some a=>if P.cellsOf e==a.length&&P.cellsOf t==n*a.length then some (j3 n a).flatten else none
   | none=>none
  | _=>none
mutual
def Ty.of:Ty->SV->Prop
 | .bool,v=>∃b,v = .bool b
 | .int k,v=>∃n,v = .int k n/\k.min<=n/\n<=k.max
 | .str,v=>∃l,v = .str l/\l.length<=maxLen
 | .slice e,v=>v = .sl true false e.length []\/∃els,v = .sl false false e.length els/\els.length<=maxLen/\∀el∈els,Ty.ofL e el
def Ty.ofL:List Ty->List SV->Prop
 | [],l=>l=[]
 | t::r,l=>∃v q,l=v::q/\t.of v/\Ty.ofL r q
end
theorem Ty.ofL_len:∀{ts:List Ty} {l:List SV},Ty.ofL ts l->l.length=ts.length
 | [],l,h=>by simp only[Ty.ofL] at h;subst h;rfl
 | t::r,l,h=>by
  simp only[Ty.ofL] at h;obtain⟨v,q,rfl,_,hq⟩:=h;simp[Ty.ofL_len hq]
theorem Ty.ofL_append:∀{a b:List Ty} {x y:List SV},Ty.ofL a x->Ty.ofL b y->Ty.ofL (a++b) (x++y)
 | [],b,x,y,h,k=>by simp only[Ty.ofL] at h;subst h;exact k
 | t::r,b,x,y,h,k=>by
  simp only[Ty.ofL] at h;obtain⟨v,q,rfl,hv,hq⟩:=h;simp only[ac1,Ty.ofL];exact⟨v,q++y,rfl,hv,Ty.ofL_append hq k⟩
def CVS(St:Nat->Prop)(w:World)(l:List SV)(A:List Value):Prop:=A.length=l.length/\∀j (h:j<l.length),∃U,A[j]? = some U/\VS St w (l[j]) U
theorem CVS.append{St:Nat->Prop}{w:World}{x y:List SV}{X Y:List Value}(hx:CVS St w x X)(hy:CVS St w y Y):CVS St w (x++y) (X++Y):=by
 refine⟨by simp[hx.1,hy.1],λj hj=>?_⟩;by_cases h:j<x.length
 ·obtain⟨U,e,k⟩:=hx.2 j h;exact⟨U,by rw[List.getElem?_append_left (by rw[hx.1];exact h)];exact e,by rw[ab6 h];exact k⟩
 ·obtain⟨U,e,k⟩:=hy.2 (j-x.length) (by simp at hj;omega);exact⟨U,by rw[List.getElem?_append_right (by rw[hx.1];omega),hx.1];exact e,by rw[List.getElem_append_right (by omega)];exact k⟩
theorem CVS.one{St:Nat->Prop}{w:World}{v:SV}{V:Value}(h:VS St w v V):CVS St w [v] [V]:=⟨rfl,λj hj=>by
 have:j=0:=by simpa using hj
 subst this;exact⟨V,rfl,h⟩⟩
theorem Ab6{w:World}{a:Addr}{V:Value}(h:w.cell? a=some V):a.spot=none/\a.block<w.heap.size:=by
 unfold ai8 at h;split at h
 ·rename_i c t e b;refine⟨?_,(s7.1 b).1⟩;cases d:a.spot with
  | none=>rfl
  | some x=>rw[d] at h;simp at h
 ·cases h
theorem HU{a:Addr}(h:a.spot=none)(n:Nat):a.add n=⟨a.block,a.off+n,none⟩:=by
 unfold Addr.add;split
 ·rename_i b;subst b;cases a;simp_all
 ·rfl
theorem At8{a:Addr}{m n:Nat}(h:a.spot=none):(a.add m).add n=⟨a.block,a.off+m+n,none⟩:=by rw[HU h,HU rfl]
theorem BS{H:Type}{enc:TypeId × Value->H}{P:Program}{w:World}{base:Nat}{sp:Nat->Bool}{held:Bool}{f:Nat->Option (List Ty)}{m:Nat}
  (q:∀t c g x,f t=some c->x6 enc P w base sp held m t g=some x->∃d,Ty.ofL c d/\CVS (· < w.heap.size) w d g) (g:List Value) :
  ∀(n:List Field) (off:Nat) (c:List Ty),Aq4 P f n off=some c->(∀(i:Nat) (fl:Field),n[i]? = some fl->∃y,x6 enc P w base sp held m fl.type ((g.drop fl.offset).take (P.cellsOf fl.type))=some y)->
   ∃d,Ty.ofL c d/\CVS (· < w.heap.size) w d ((g.drop off).take c.length)
 | [],off,c,h,_=>by
  simp only[Aq4,b8] at h;subst h;exact⟨[],rfl,by simp,λj F=>by simp at F⟩
 | x::r,off,c,h,k=>by
  simp only[Aq4] at h;split at h
  ·rename_i l;simp only[beq_iff_eq] at l;split at h
   ·rename_i a B;split at h
    ·rename_i o;simp only[beq_iff_eq] at o;split at h
     ·rename_i b C;simp only[b8] at h;subst h;obtain⟨y,p⟩:=k 0 x rfl;rw[l,o] at p;obtain⟨G,u,v⟩:=q _ _ _ _ B p;obtain⟨I,z,A⟩:=BS q g r _ b C (λi fl D=>k (i+1) fl (by simpa using D));refine⟨G++I,Ty.ofL_append u z,?_⟩;have:=v.append A;have e:(g.drop off).take (a++b).length=(g.drop off).take a.length++(g.drop (off+a.length)).take b.length:=by
       rw[ab1,ag8,ag2]
      rw[e];exact this
     ·cases h
    ·cases h
   ·cases h
  ·cases h
theorem HX{H:Type}{enc:TypeId × Value->H}{P:Program}{w:World}{base:Nat}{sp:Nat->Bool}{held:Bool}{e m:Nat}{a:List Ty}(c:List Value)
  (g:∀c x,x6 enc P w base sp held m e c=some x->∃b,Ty.ofL a b/\CVS (· < w.heap.size) w b c) (f:P.cellsOf e=a.length) :
  ∀(n k:Nat),(∀i,k<=i->i<k+n->∃y,x6 enc P w base sp held m e ((c.drop (i*P.cellsOf e)).take (P.cellsOf e))=some y)->
   ∃b,Ty.ofL (j3 n a).flatten b/\CVS (· < w.heap.size) w b ((c.drop (k*a.length)).take (n*a.length))
 | 0,k,_=>⟨[],by simp[Ty.ofL],by simp,λj r=>by simp at r⟩
 | n+1,k,hall=>by
  obtain⟨y,t⟩:=hall k (p4 _) (by omega);obtain⟨u,h,d⟩:=g _ _ t;obtain⟨v,l,o⟩:=HX c g f n (k+1) (λi p q=>hall i (by omega) (by omega));rw[f] at d;refine⟨u++v,?_,?_⟩
  ·rw[ae3,List.flatten_cons];exact Ty.ofL_append h l
  ·have:=d.append o;have e:(c.drop (k*a.length)).take ((n+1)*a.length)=(c.drop (k*a.length)).take a.length++(c.drop ((k+1)*a.length)).take (n*a.length):=by
    rw[show(n+1)*a.length=a.length+n*a.length by rw[Nat.add_mul,Nat.one_mul,Nat.add_comm],ag8,ag2,show k*a.length+a.length=(k+1)*a.length by rw[Nat.add_mul,Nat.one_mul]]
   rw[e];exact this
theorem Ta{H:Type}{enc:TypeId × Value->H}{P:Program}{w:World}{base:Nat}{sp:Nat->Bool}{held:Bool}:∀(n t:Nat) (q:List Ty) (m:Nat) (C:List Value) (x:DataW H × List MemPlace),Dz P n t=some q->
  x6 enc P w base sp held m t C=some x->∃p,Ty.ofL q p/\CVS (· < w.heap.size) w p C
 | 0,t,q,m,C,x,h,_=>by simp[Dz] at h
 | n+1,t,q,m,C,x,h,hd=>by
  simp only[Dz] at h;split at h
  ·rename_i B;simp only[b8] at h;subst h;obtain⟨b,rfl,_⟩:=DataW.trod_bool B hd;exact⟨[.bool b],by simp[Ty.ofL,Ty.of],CVS.one (.bool b)⟩
  ·rename_i k B;simp only[b8] at h;subst h;obtain⟨b,rfl,_,S⟩:=DataW.trod_int B hd;simp only[Lit.wf,j4,decide_eq_true_eq] at S;exact⟨[.int k b],by simp[Ty.ofL,Ty.of,S],CVS.one (.int k b)⟩
  ·rename_i B;simp only[b8] at h;subst h;obtain⟨b,rfl,_,S⟩:=DataW.trod_string B hd;exact⟨[.str b.data.toList],by simpa[Ty.ofL,Ty.of] using S,CVS.one (.str b)⟩
  ·rename_i e B;split at h
   ·rename_i a V;split at h
    ·rename_i F;simp only[j4,beq_iff_eq,decide_eq_true_eq] at F;simp only[b8] at h;subst h;rcases DataW.trod_slice B hd with⟨rfl,_⟩|⟨g,len,cap,T,a1,Q,_,rfl,_,hb,hl,hm,G,D,_,_⟩
     ·exact⟨[.sl true false a.length []],by simp[Ty.ofL,Ty.of],CVS.one (.nil _ _)⟩
     ·have v:∀i,i<len->∃M d,w.cells? base (g.add (i*a.length)) a.length=some d/\Ty.ofL a M/\CVS (· < w.heap.size) w M d:=λi f=>by
       have u:=D i f;rw[a7 (by omega),F.1,Option.bind_eq_some_iff] at u;obtain⟨d,o,K⟩:=u;obtain⟨M,h4,h5⟩:=Ta n e a Q d _ V K;exact⟨M,d,o,h4,h5⟩
      by_cases h0:len=0
      ·subst h0;exact⟨[.sl false false a.length []],by simp[Ty.ofL,Ty.of],CVS.one (.emp _ _ _ _ (by simp) hm)⟩
      ·let c:List (List SV):=(ag4 len).attach.map λi=>ab7 (v i.1 (List.mem_range.1 i.2))
       have N:c.length=len:=by simp[c]
       have l:∀i (f:i<c.length),∃d,w.cells? base (g.add (i*a.length)) a.length=some d/\Ty.ofL a (c[i])/\CVS (· < w.heap.size) w (c[i]) d:=λi f=>by
        have z:i<len:=by omega
        have e:c[i]=ab7 (v i z):=by simp[c]
        rw[e];exact ac8 (v i z)
       have A:g.spot=none/\g.block<w.heap.size:=by
        obtain⟨d,u,o,K⟩:=l 0 (by omega);obtain⟨_,Y,J⟩:=ae9 u;have:=J 0 F.2;rw[a7 (by omega)] at this;simp only[ah7,Addr.add,if_true] at this;exact Ab6 this
       have D:∀i (f:i<c.length),(c[i]).length=a.length:=λi f=>by
        obtain⟨d,u,o,K⟩:=l i f;exact Ty.ofL_len o
       have y:∀i (f:i<c.length) j (I:j<(c[i]).length),∃U,w.cell? ⟨g.block,g.off+i*a.length+j,none⟩=some U/\VS (· < w.heap.size) w (c[i][j]) U:=λi f j I=>by
        obtain⟨d,u,o,K⟩:=l i f;obtain⟨_,Y,J⟩:=ae9 u;have X:j<a.length:=by rw[<-D i f];exact I
        obtain⟨U,L,R⟩:=K.2 j I;refine⟨U,?_,R⟩;rw[<-L,<-J j X,At8 A.1]
       refine⟨[.sl false false a.length c],?_,CVS.one ?_⟩
       ·simp only[Ty.ofL,Ty.of];refine⟨_,[],rfl,.inr ⟨c,rfl,by omega,λM a0=>?_⟩,rfl⟩;obtain⟨i,f,rfl⟩:=List.getElem_of_mem a0;obtain⟨d,u,o,K⟩:=l i f;exact o
       ·have e:g=⟨g.block,g.off,none⟩:=by cases g;simp_all
        rw[e];refine .sl false c g.block g.off len cap a.length (λi j=>(w.cell? ⟨g.block,g.off+i*a.length+j,none⟩).getD undef) N.symm hl hm (by simp) A.2 D (λi f j I=>?_) (λi f j I=>?_)
        ·obtain⟨U,L,R⟩:=y i f j I;rw[L];rfl
        ·obtain⟨U,L,R⟩:=y i f j I;rw[L];exact R
    ·cases h
   ·cases h
  ·rename_i fs B;split at h
   ·rename_i r hr;split at h
    ·rename_i F;simp only[beq_iff_eq] at F;simp only[b8] at h;subst h;obtain⟨xs,Q,_,_,G,O,W⟩:=DataW.trod_struct B hd;obtain⟨p,u,o⟩:=BS (λt q C x=>Ta n t q Q C x) C fs.toList 0 r hr (λi fl f=>by
      have z:fs[i]? = some fl:=by simpa using f
      have:=W i fl z;have Z:i<xs.length:=by rw[O];exact(s7.1 z).1
      rw[a7 Z] at this;exact⟨_,this⟩)
     refine⟨p,u,?_⟩;rw[ad4,u9 (by omega)] at o;exact o
    ·cases h
   ·cases h
  ·rename_i k e B;split at h
   ·rename_i a V;split at h
    ·rename_i F;simp only[j4,beq_iff_eq] at F;simp only[b8] at h;subst h;obtain⟨xs,Q,_,_,G,O,W⟩:=DataW.trod_array B hd;obtain⟨p,u,o⟩:=HX C (λC x=>Ta n e a Q C x V) F.1 k 0 (λi _ f=>by
      have:=W i (by omega);rw[a7 (by omega)] at this;exact⟨_,this⟩)
     refine⟨p,u,?_⟩;rw[ah7,ad4,u9 (by omega)] at o;exact o
    ·cases h
   ·cases h
  ·cases h
def Mc(P:Program)(t:Nat):Bool:=match P.underlying t with
 | some (.struct _)=>true
 | some (.array _ _)=>true
 | _=>false
def Ti(P:Program)(t:Nat)(v:PV):Prop:=∃a l,Dz P 20 t=some a/\Ty.ofL a l/\((Mc P t=true/\v = .agg (l.map .s))\/(Mc P t=false/\∃x,l=[x]/\v = .s x))
def Fk(P:Program):List Nat->List PV->Prop
 | [],l=>l=[]
 | t::r,l=>∃v q,l=v::q/\Ti P t v/\Fk P r q
theorem Ti.nms{P:Program}{t:Nat}{v:PV}(h:Ti P t v):v.nms=[]:=by
 obtain⟨tys,l,_,_,h⟩:=h;rcases h with⟨_,rfl⟩|⟨_,x,_,rfl⟩
 ·simp only[PV.nms];rw[u6];intro c hc;obtain⟨j,hj,hc⟩:=B7.1 hc;simp[PV.nms] at hc
 ·rfl
theorem Fk.nms{P:Program}:∀{ts:List Nat} {l:List PV},Fk P ts l->B9 l=[]
 | [],l,h=>by simp only[Fk] at h;subst h;rfl
 | t::r,l,h=>by
  simp only[Fk] at h;obtain⟨v,q,rfl,h1,h2⟩:=h;simp[B9,h1.nms,h2.nms]
section
variable {H : Type} {enc : TypeId × Value -> H} {P : Program} {w : World}
theorem Az5{v:Value}{r:Reach}{b:Nat}{t:Nat}(f:Mc P t=false)(a:w9 P w r b t v):∀c,v = .agg c->False:=by
 rintro c rfl;simp only[w9,Cell.okWide] at a;unfold Mc at f;split at a
 ·grind
 ·grind
 ·revert a
  cases e:P.underlying t with
  | none=>simp[Cell.ok,e]
  | some d=>cases d<;>simp[Cell.ok,e]
theorem An6{Γ:Ctx}{sh:Nat->Option Shp}{sp:Nat->Bool}{held:Bool}{r:Reach}{b z t:Nat}{v:Value}{d:DataW H}{G:List MemPlace}(hΓ:∀g,g<w.heap.size->Γ.St g)(l:(Dz P 20 t).isSome=true)(c:w9 P w r b t v)(B:DataW.Trod enc P w z sp held t v d G) :
  ∃y,Ti P t y/\VP Γ sh w y v:=by
 obtain⟨f,q⟩:=x4.1 l;obtain⟨m,F⟩:=B;obtain⟨a,u,i⟩:=Ta 20 t f m _ _ q F;have lift:∀{x:SV} {V:Value},VS (· < w.heap.size) w x V->VS Γ.St w x V:=λh=>h.mono (λ_ _=>rfl) hΓ
 cases o:Mc P t with
 | true=>
  refine⟨.agg (a.map .s),⟨f,a,q,u,.inl ⟨o,rfl⟩⟩,?_⟩;have:∃n,v = .agg n:=by
   unfold Mc at o;simp only[w9] at c;grind
  obtain⟨n,rfl⟩:=this;simp only[Value.cells] at i;refine VP.mk_agg (by simpa using i.1) λj C=>?_
  have p:j<a.length:=by simpa using C
  obtain⟨U,e,k⟩:=i.2 j p;exact⟨U,by simpa using e,by rw[s6];exact .s _ _ (lift k)⟩
 | false=>
  have A:v.cells = #[v]:=by
   have:=Az5 o c;cases v with
   | agg n=>exact(this n rfl).elim
   | _=>rfl
  rw[A] at i;have D:a.length=1:=by have:=i.1;simpa using this.symm
  obtain⟨x,rfl⟩:∃x,a=[x]:=by
   match a,D with
   | [x],_=>exact⟨x,rfl⟩
  obtain⟨U,e,k⟩:=i.2 0 (by simp);simp only[ac2,b8] at e;subst e;exact⟨.s x,⟨f,[x],q,u,.inr ⟨o,x,rfl,rfl⟩⟩,.s _ _ (lift k)⟩
theorem AW{Γ:Ctx}{sh:Nat->Option Shp}{sp:Nat->Bool}{held:Bool}{r:Reach}{b y:Nat}(hΓ:∀g,g<w.heap.size->Γ.St g):∀(i:List Nat) (l:List Value) (ds:List (DataW H)) (o:List MemPlace),(∀t∈i,(Dz P 20 t).isSome=true)->(∀(j:Nat) t v,i[j]? = some t->l[j]? = some v->w9 P w r b t v)->aa1 enc P w y sp held i l ds o->
  ∃a,Fk P i a/\l.length=a.length/\ds.length=i.length/\∀j (h:j<a.length),∃U,l[j]? = some U/\VP Γ sh w (a[j]) U
 | [],l,ds,o,_,_,h=>by
  obtain⟨rfl,rfl,_⟩:=trodAll_nil h;exact⟨[],rfl,rfl,rfl,λj m=>by simp at m⟩
 | t::i,l,ds,o,c,f,h=>by
  obtain⟨v,u,d,n,p,q,rfl,rfl,rfl,D,F⟩:=trodAll_cons h;obtain⟨x,J,K⟩:=An6 (Γ:=Γ) (sh:=sh) hΓ (c t (by simp)) (f 0 t v rfl rfl) D;obtain⟨a,z,A,B,C⟩:=AW (Γ:=Γ) (sh:=sh) hΓ i u n q (λt G=>c t (by simp[G])) (λj t v m I=>f (j+1) t v (by simpa using m) (by simpa using I)) F;refine⟨x::a,⟨x,a,rfl,J,z⟩,by simp[A],by simp[B],λj m=>?_⟩;cases j with
  | zero=>exact⟨v,rfl,K⟩
  | succ j=>
   obtain⟨U,e,k⟩:=C j (by simpa using m);grind
theorem Un(g:laidOutB P=true){w':World}{ts:List Nat}{vs:List Value}{ds:List (DataW H)}{ps:List MemPlace}:∀{ts:List Nat} {vs:List Value} {ds:List (DataW H)} {ps:List MemPlace},(∀t∈ts,P.readableRec t=true/\t<P.types.size)->aa1 enc P w 0 (λ_=>true) true ts vs ds ps->(∀x∈ps,w.sameAt w' x)->∀sp:Nat->Bool,(∀x∈ps,sp x.block=true)->
  aa1 enc P w' 0 sp true ts vs ds ps
 | [],vs,ds,ps,_,h,_,sp,_=>by
  obtain⟨rfl,rfl,rfl⟩:=trodAll_nil h;exact trodAll_mk0
 | t::ts,vs,ds,ps,e,h,i,sp,b=>by
  obtain⟨v,f,d,c,p,q,rfl,rfl,rfl,j,k⟩:=trodAll_cons h;refine⟨p,q,WideElems.Trod_stays g (e t (by simp)).1 (e t (by simp)).2 j (λx a=>i x (by simp[a])) (λx a=>b x (by simp[a])),Un g (w':=w') (ts:=ts) (vs:=f) (ds:=c) (ps:=q) (λt l=>e t (by simp[l])) k (λx a=>i x (by simp[a])) sp (λx a=>b x (by simp[a])),rfl⟩
theorem Yo{f:Func}{s:ChangeSpec}{c fresh d k:Bool}{W m:World}{args:Array Value}{v:Value}{ds n:List (DataW H)}{a pa pv:List MemPlace}
  (u:ai0 enc P f.params.toList s.vars c W args.toList ds n a)
  (i:∀(b:Nat) (sp:Nat->Bool) (B:Bool),aa1 enc P m b sp B f.resultTypes.toList (v.resultList f.resultTypes.size) (s.fn H (ds++n)).results [])
  (e:∀sp:Nat->Bool,(∀p∈a,sp p.block=true)->aa1 enc P m 0 sp true f.params.toList args.toList (s.fn H (ds++n)).args pa)
  (g:∀sp:Nat->Bool,(∀p∈a,sp p.block=true)->DataW.TrodVars enc P m sp s.vars (s.fn H (ds++n)).vars pv)
  (l:a=pa++pv) (z:Below W.heap.size W m)
  (y:∀(j:Nat) (t:TypeId) (r:Value),f.resultTypes[j]? = some t->(v.resultList f.resultTypes.size)[j]? = some r->w9 P m .any 0 t r) :
  s.post enc P f c fresh d k W args v m:=by
 have h:∀p∈a,(λb=>decide (b<W.heap.size)) p.block=true:=λp o=>by simpa using u.lt p o
 refine⟨ds,n,a,[],pa,pv,u,i _ _ _,e _ h,g _ h,z.frame _,λ_=>?_⟩;have x:=u.lt;obtain⟨_,_,_,_,_,D,C⟩:=u;refine⟨y,_,_,([]++pa)++pv,⟨[]++pa,pv,trodAll_append (e _ (λ_ _=>rfl)) (i _ _ _),g _ (λ_ _=>rfl),rfl,?_,?_⟩,?_⟩
 ·intro b off o;have q:MemPlace.cell b off∈a:=by rw[l];simpa using o
  rw[z.frozen (x _ q)];exact D b off q
 ·intro A;have:=C A;rw[l] at this;simpa using this
 ·intro p o _;rw[l];simpa using o
end
theorem UG{P:Program}{f:Nat}{a:Array Value}{w:World}{R:Value->World->Prop}(b:(callFunc f a).run P w = .ok (.enter f a) w)(h:L9 P ((callFunc f a).run P w) R):Calls P f a w λe w'=>∃V,e = .returned V/\R V w':=by
 rw[b] at h;have:=h none 1 { op:=.move (.const undef),dst:=some 0,guard:=none,type:=0,after:=#[],pos:=default } { tmps:=#[undef],defers:=[] } (λg w'=>∃V,g.tmps[0]? = some V/\R V w') (λ_ _ _=>False) (λV w' k=>⟨V,by simp[Act.put],k⟩);rw[ab5] at this;have j:CallsIn z7 0 P f a w _:=this.2;refine(callsIn_wide.1 j).mono λe w' d=>?_
 cases e with
 | returned v=>
  obtain⟨V,i,l⟩:=d;simp[Act.put] at i;grind
 | panicked c=>exact d.elim
 | outgrown=>obtain⟨_,_,h⟩:=d;exact h.elim
def noY:Yh Unit:=λ_ _=>none
theorem Ai6{H:Type}{enc:TypeId × Value->H}{C:Cfg}{f X:Nat}{fn:Func}{c:Code}{s:ChangeSpec}{apart fresh handsOn again:Bool}(hX:XOK C)(hO:Dh C)(hm:C.P.follows .mixedOrders=true)(hl:laidOutB C.P=true)(K:C.P.funcs[f]? = some fn)(hb:fn.body=some c)(r:(fn.name == "runtime.NumGoroutine")=false)
  (T:∀t∈fn.params.toList,(C.P.readableRec t=true/\t<C.P.types.size)/\(Dz C.P 20 t).isSome=true) (n:fn.resultTypes = #[X]) (a:C.P.underlying X=some .bool) (i:s.vars=[])
  (y:∀ds:List (DataW H),ds.length=fn.params.toList.length->s.fn H ds = { results:=[.lit (.bool true)],args:=ds })
  (J:∀args,Fk C.P fn.params.toList args->∃d G,evC C d Unit noY f args [] ()=some (.s (.bool true),G,()))
  (W:World) (hG:GOK C (· < W.heap.size) W) (base:Nat) (args:Array Value) (ds Y:List (DataW H)) (l:List MemPlace)
  (B:∀(j:Nat) t v,fn.params[j]? = some t->args[j]? = some v->w9 C.P W .any base t v)
  (R:ai0 enc C.P fn.params.toList s.vars apart W args.toList ds Y l) :
  Calls C.P f args W λe I=>∃v,e = .returned v/\s.post enc C.P fn apart fresh handsOn again W args v I:=by
 have o:=R;obtain⟨p,q,Q,F,rfl,a0,a1⟩:=R;rw[i] at F;obtain⟨rfl,rfl⟩:=trodVars_none F;let Γ:Ctx:={ St:=(· < W.heap.size),nm:=λ_=>none,yv:=.nilFunc,yv1:=rfl }
 obtain⟨D,P,Z,h3,h4⟩:=AW (Γ:=Γ) (sh:=A0 []) (λ_ h=>h) fn.params.toList args.toList ds p (λt N=>(T t N).2) (λj t v L O=>B j t v (by simpa using L) (by simpa using O)) Q;obtain⟨d,G,S⟩:=J D P;have hS:=Ex hX hO hm d Unit I0 noY .nilFunc Ad6 Ad7 f D [] () _ G () S Γ noΦ W args rfl (Fp (λ_=>rfl) (λ_ h=>h)) hG (λ_ h=>h) (λb g h=>by cases h)
  ⟨by rw[<-ad9];exact Z,λj L=>by obtain⟨U,e,k⟩:=h4 j L;exact⟨U,by simpa using e,k⟩⟩ (by rw[P.nms];simp)
 refine(UG (Hv K hb r) hS).mono ?_;rintro e I ⟨V,rfl,Γ',Φ',z,hH,O,_⟩;have F:=O.inv_bool;subst F;have m:Below W.heap.size W I:=⟨z.os,z.tape,z.output,z.size,λk hk=>z.frame k hk (λb=>by simp[Γ]) (λx=>x)⟩
 simp only[aa5] at o;refine⟨_,rfl,?_⟩;have u:=y ds h3;have M:=o.lt;refine Yo (pa:=p) (pv:=[]) o (λb sp S=>?_) (λsp A=>?_) (λsp _=>?_) (by simp) m ?_
 ·rw[aa5,u,n];exact trodAll_cons_mk (shut_bool a _) trodAll_mk0
 ·rw[aa5,u];exact Un hl (w:=W) (ts:=fn.params.toList) (vs:=args.toList) (ds:=ds) (ps:=p) (λt N=>(T t N).1) Q (λx hx=>m.same (M x hx)) sp A
 ·rw[aa5,u,i];rfl
 ·exact ok_one n rfl (okWide_bool_mk a _)
end
section
open Go
def A9(P:Program)(G:GT)(g:Nat)(pf:List PV->Tr):Prop:=
 ∀args ret c,G5 (pf args)=some (ret,c)->∀C:Cfg,C.P=P->C.G=G->∀a w d,(∀b,a.nm b=none)->HR a [] w->GOK C a.St w->CR a (A0 []) w args d->
  L9 P ((callFunc g d).run P w) (V9 C I0 a [] w noΦ ret c ())
theorem Ea{C₀:Cfg}{g:Nat}{pf:List PV->Tr}(y:XOK C₀)(x:Dh C₀)(B:C₀.P.follows .mixedOrders=true)
  (h:∀args ret c,G5 (pf args)=some (ret,c)->B9 args=[]/\∃d,evC C₀ d Unit noY g args [] ()=some (ret,c,())):A9 C₀.P C₀.G g pf:=by
 intro args ret c o C F f p w t n v u A;obtain⟨m,d,k⟩:=h args ret c o;have e:GOK C₀ p.St w:=u.congr f.symm;refine(Ex y x B d Unit I0 noY p.yv Ad6 Ad7 g args [] () ret c () k p noΦ w t rfl v e (λ_ h=>h) (λb g h=>by rw[n] at h;cases h) A (by rw[m];simp)).mono ?_;rintro V w' ⟨q,r,a,i,D,hvn,l,j⟩;exact⟨q,r,⟨a.os,a.tape,a.output,a.size,a.sub,a.stnew,a.own,a.foot,a.frame,a.yv,a.len,λb z=>by simp at z⟩,i,D,hvn,l,j⟩
def Tr.snap:Tr->Tr
 | .ret v H=>cond (v.snap H).nms.isEmpty (.ret (v.snap H) []) .fail
 | .need c t=>.need c t.snap
 | .split c a b=>.split c a.snap b.snap
 | .fail=>.fail
theorem Tr.snap_res:∀{t:Tr} {v:PV} {H:List Blk},G5 t.snap=some (v,H)->∃v' H',G5 t=some (v',H')/\v=v'.snap H'/\H=[]/\v.nms=[]
 | .ret v' H',v,H,h=>by
  simp only[Tr.snap] at h;cases he:(v'.snap H').nms.isEmpty with
  | false=>rw[he] at h;cases h
  | true=>
   rw[he] at h;simp only[cond_true,G5,Bg,b8,o8] at h;obtain⟨rfl,rfl⟩:=h;exact⟨v',H',rfl,rfl,rfl,List.isEmpty_iff.1 he⟩
 | .need c t,v,H,h=>by
  cases c with
  | true=>exact Tr.snap_res (t:=t) h
  | false=>cases h
 | .split c a b,v,H,h=>by
  cases c with
  | true=>exact Tr.snap_res (t:=a) h
  | false=>exact Tr.snap_res (t:=b) h
 | .fail,_,_,h=>by cases h
theorem A9.snap{P:Program}{G:GT}{g:Nat}{pf:List PV->Tr}(h:A9 P G g pf):A9 P G g (λargs=>(pf args).snap):=by
 intro args ret Hc hpf C hP hGe Γ w Vs hnm hH hG hc;obtain⟨ret',Hc',hpf',rfl,rfl,hnr⟩:=Tr.snap_res hpf;refine(h args ret' Hc' hpf' C hP hGe Γ w Vs hnm hH hG hc).mono ?_;rintro V w' ⟨Γ1,Φ1,hs,hH1,hv,hvn,hi1,hd1⟩;let Γ2:Ctx:={ Γ1.all with nm:=λ_=>none }
 have hlt:∀g,Γ2.St g->g<w'.heap.size:=λg hg=>by
  rcases hg with hg|⟨b,hb⟩
  ·exact hH1.stlt g hg
  ·exact(hH1.lt b g hb).2.1
 refine⟨Γ2,Φ1,⟨hs.os,hs.tape,hs.output,hs.size,λg hg=>.inl (hs.sub g hg),λg hg=>?_,λb g h=>by simp[Γ2] at h,hs.foot,hs.frame,hs.yv,p4 _,λb hb=>by simp at hb⟩,
  Fp (λ_=>rfl) hlt,?_,by rw[hnr];simp,hi1,λb g h=>by simp[Γ2] at h⟩
 ·rcases hg with hg|⟨b,hb⟩
  ·exact hs.stnew g hg
  ·rcases hs.own b g hb with⟨h',_⟩|h'
   all_goals grind
 ·exact VP.mono (Γ:=Γ1.all) (Γ':=Γ2) (w:=w') (w':=w') (sh:=A0 Hc') (ok:=λ_=>False) ⟨λ_ _=>rfl,λ_ h=>h,λ_ h=>h.elim,λ_ h=>h.elim,λ_ _ h=>h.elim,rfl⟩ (hv.snap hH1) (by rw[hnr];simp)
def LV:List (Nat × (List PV->Tr))->Nat->Option (List PV->Tr)
 | [],_=>none
 | (g,a)::r,n=>cond (s9 n g) (some a) (LV r n)
def G3(P:Program)(G:GT):List (Nat × (List PV->Tr))->Prop
 | []=>True
 | (g,a)::r=>A9 P G g a/\G3 P G r
theorem G3.x1{C:Cfg}{l:List (Nat × (List PV->Tr))}(hl:C.X=LV l)(h:G3 C.P C.G l):Bl7 C:=by
 intro g pf args ret Hc hg hpf Γ w Vs hnm hH hG hc;rw[hl] at hg;have key:∀l:List (Nat × (List PV->Tr)),G3 C.P C.G l->LV l g=some pf->A9 C.P C.G g pf:=by
  intro l
  induction l with
  | nil=>intro _ h;cases h
  | cons e r ih=>
   intro h1 h2;obtain⟨n,q⟩:=e;simp only[LV] at h2;cases hb:s9 g n with
   | true=>
    rw[hb] at h2;simp only[cond_true,b8] at h2;have:=p7 hb;subst this;subst h2;exact h1.1
   | false=>
    rw[hb] at h2;exact ih h1.2 h2
 exact key l h hg args ret Hc hpf C rfl rfl Γ w Vs hnm hH hG hc
theorem Vw{C a:Cfg}(h:C.P=a.P):Ek C=Ek a:=by
 funext s
 unfold Ek;split
 ·simp only[Fw,Cfg.sh,h]
 ·rfl
 ·rfl
theorem Stp.congr{C C':Cfg}(h:C.P=C'.P){Γ Γ':Ctx}{H H':List Blk}{w w':World}{Φ Φ':Nat->Prop}(s:Stp C Γ H w Φ Γ' H' w' Φ'):Stp C' Γ H w Φ Γ' H' w' Φ':=
 ⟨s.os,s.tape,s.output,s.size,s.sub,s.stnew,s.own,s.foot,s.frame,s.yv,s.len,λb hb hf=>s.keep b hb (by rw[Vw h];exact hf)⟩
def Jz(P:Program)(G:GT)(g:Nat)(j:List PV->List Blk->Tr):Prop:=
 ∀C:Cfg,C.P=P->C.G=G->∀(i:Type) (I:i->(Nat->Prop)->(Nat->Prop)->World->Prop) (k:Yh i) (h:Value),HI I->NH P I k h->
  ∀args H s ret e,G5 (j args H)=some (ret,e)->∀a d w f,a.yv=h->HR a H w->GOK C a.St w->I s a.St d w->(∀b g,a.nm b=some g->¬d g)->CR a (A0 H) w args f->(∀c∈B9 args,c<H.length)->
   L9 P ((callFunc g f).run P w) (V9 C I a H w d ret e s)
def US(P:Program)(G:GT)(g:Nat)(k:List PV->List Blk->Option (Bool × List (List PV))):Prop:=
 ∀C:Cfg,C.P=P->C.G=G->∀(j:Type) (I:j->(Nat->Prop)->(Nat->Prop)->World->Prop) (h:Yh j) (i:Value),HI I->NH P I h i->
  ∀args H L s f,k args H=some (true,L)->H.all Wd=true->Z9 h L s=some f->∀a d w e,a.yv=i->HR a H w->GOK C a.St w->I s a.St d w->(∀b g,a.nm b=some g->¬d g)->CR a (A0 H) w args e->(∀c∈B9 args,c<H.length)->
   L9 P ((callFunc g e).run P w) (V9 C I a H w d (.tup []) (H.map Di) f)
theorem Ah4{C o:Cfg}{σ:Type}{I:σ->(Nat->Prop)->(Nat->Prop)->World->Prop}{S:Ctx}{H D:List Blk}{w w':World}{Φ:Nat->Prop}{s':σ}{V:Value}(hP:o.P=C.P)(hb:H.all Wd=true)(hH:HR S H w)(h:V9 o I S H w Φ (.tup []) D s' V w'):V9 C I S H w Φ (.tup []) (H.map Di) s' V w':=by
 obtain⟨n,T,l,G,k2,k3,k4,k5⟩:=h;have B:∀b g,(if b<H.length then n.nm b else none)=some g->b<H.length/\n.nm b=some g:=λb g h=>by grind
 have p:(H.map Di).length=H.length:=s8 _;refine⟨{ n with nm:=λb=>if b<H.length then n.nm b else none },T,⟨l.os,l.tape,l.output,l.size,l.sub,l.stnew,λb g y=>l.own b g (B b g y).2,l.foot,l.frame,l.yv,by rw[p];exact p4 _,λb i hf=>?_⟩,
  ⟨λb U g K M=>G.inj b U g (B b g K).2 (B U g M).2,λb g y=>?_,G.stlt,λb i c Y=>?_,λb i=>?_⟩,?_,by simp[PV.nms,B9],k4,λb g y=>k5 b g (B b g y).2⟩
 ·obtain⟨Z,Q,R⟩:=l.keep b i (by rw[Vw hP];exact hf);refine⟨by simp only;rw[if_pos i];exact Z,?_,R⟩;simp only[A0,y7];cases H[b]? with
  | none=>rfl
  | some x=>exact congrArg some (Zg x)
 ·obtain⟨q1,q2⟩:=B b g y;have:=G.lt b g q2;grind
 ·rw[s6,Zf] at Y;simp at Y
 ·rw[p] at i;rw[s6];have k:=s5.1 hb _ (j6 i);have X:=hH.blk b i;cases q:H[b] with
  | box cells=>
   rw[q] at X;obtain⟨g,a0,e,K,M,W,_⟩:=X;obtain⟨Z,Q,R⟩:=l.keep b i (by simp only[A0,a7 i,q];exact trivial);have z:b<D.length:=j8 i l.len;have v:=G.blk b z;have f:(D[b]).shp = .box:=by
    simp only[A0,a7 i,a7 z,aa7,b8] at Q;rw[Q,q];rfl
   cases t:D[b] with
   | box F=>
    rw[t] at v;obtain⟨J,m,e',L,u,a1,a2⟩:=v;have N:J=g:=by grind
    subst N;have r:=R J K;simp only[World.shape?,M,u,b8,o8] at r;refine⟨J,m,e',by simp only;rw[if_pos i];exact L,u,by rw[r.2,W];simp,λj O=>?_⟩;have P:j<m.size:=by rw[r.2,W];simpa using O
    exact⟨m[j],Array.getElem?_eq_getElem P,by rw[s6];exact .bad _⟩
   | arr a b c d=>rw[t] at f;cases f
   | iter a b=>rw[t] at f;cases f
   | mp a=>rw[t] at f;cases f
   | ms a b=>rw[t] at f;cases f
   | dead=>rw[t] at f;cases f
  | arr a b c d=>rw[q] at k;cases k
  | iter a b=>rw[q] at k;cases k
  | mp a=>rw[q] at k;cases k
  | ms a b=>rw[q] at k;cases k
  | dead=>rw[q] at k;cases k
 ·obtain⟨A,rfl,hA,a3⟩:=k2.inv_tup;exact VP.mk_tup hA λj O=>by simp at O
theorem LE{C₀:Cfg}{g:Nat}{n:List PV->List Blk->Option (Bool × List (List PV))}(u:XOK C₀)(r:Dh C₀)(A:C₀.P.follows .mixedOrders=true)
  (h:∀args H L,n args H=some (true,L)->∀(a:Type) (f:Yh a) (s e:a),Z9 f L s=some e->∃d i,evC C₀ d a f g args H s=some (.tup [],i,e)):US C₀.P C₀.G g n:=by
 intro C t p a I f G q F args H L s e k v c J K w o l m y z b x B;obtain⟨d,i,j⟩:=h args H L k a f s e c;exact(Ex u r A d a I f G q F g args H s _ i e j J K w o l m (y.congr p.symm) z b x B).mono λV w' D=>Ah4 t.symm v m D
def Io{a:Type}:List (Nat × a)->Nat->Option a
 | [],_=>none
 | (g,b)::r,n=>cond (s9 n g) (some b) (Io r n)
theorem Xw{b:Type}:∀{l:List (Nat × b)} {g:Nat} {a:b},Io l g=some a->(g,a)∈l
 | [],_,_,h=>by cases h
 | (n,q)::r,g,a,h=>by
  simp only[Io] at h;cases c:s9 g n with
  | true=>
   simp_all
  | false=>
   rw[c] at h;exact ad5 _ (Xw h)
def Hn(P:Program)(G:GT):List (Nat × (List PV->List Blk->Tr))->Prop
 | []=>True
 | (g,a)::r=>Jz P G g a/\Hn P G r
def Hh(P:Program)(G:GT):List (Nat × (List PV->List Blk->Option (Bool × List (List PV))))->Prop
 | []=>True
 | (g,a)::r=>US P G g a/\Hh P G r
theorem Hn.mem{P:Program}{G:GT}:∀{l:List (Nat × (List PV->List Blk->Tr))} {g:Nat} {pf:List PV->List Blk->Tr},Hn P G l->(g,pf)∈l->Jz P G g pf
 | [],_,_,_,hm=>by simp at hm
 | (n,q)::r,g,pf,h,hm=>by
  rcases u4.1 hm with e|hm
  ·cases e;exact h.1
  ·exact Hn.mem h.2 hm
theorem Hh.mem{P:Program}{G:GT}:∀{l:List (Nat × (List PV->List Blk->Option (Bool × List (List PV))))} {g:Nat} {pf:List PV->List Blk->Option (Bool × List (List PV))},Hh P G l->(g,pf)∈l->US P G g pf
 | [],_,_,_,hm=>by simp at hm
 | (n,q)::r,g,pf,h,hm=>by
  rcases u4.1 hm with e|hm
  ·cases e;exact h.1
  ·exact Hh.mem h.2 hm
theorem Hn.ok{C:Cfg}{l:List (Nat × (List PV->List Blk->Tr))}(hl:C.Y=Io l)(h:Hn C.P C.G l):W0 C (clY C):=by
 intro σ I yh yv hI hy g args H s ret Hc s' hcl Γ Φ w Vs hyv hH hg hi hd hc hn;simp only[clY,hl] at hcl;split at hcl
 ·rename_i pf hpf;split at hcl
  ·rename_i r' h' hr;simp only[b8,o8] at hcl;obtain⟨rfl,rfl,rfl⟩:=hcl;exact h.mem (Xw hpf) C rfl rfl σ I yh yv hI hy args H s _ _ hr Γ Φ w Vs hyv hH hg hi hd hc hn
  grind
 ·cases hcl
theorem Hh.ok{C:Cfg}{l:List (Nat × (List PV->List Blk->Option (Bool × List (List PV))))}(hl:C.S=Io l)(h:Hh C.P C.G l):W0 C (clS C):=by
 intro σ I yh yv hI hy g args H s ret Hc s' hcl Γ Φ w Vs hyv hH hg hi hd hc hn;simp only[clS,hl] at hcl;split at hcl
 ·rename_i pf hpf;split at hcl
  ·rename_i hb;split at hcl
   ·rename_i L hL;split at hcl
    ·rename_i s2 hr;simp only[b8,o8] at hcl;obtain⟨rfl,rfl,rfl⟩:=hcl;exact h.mem (Xw hpf) C rfl rfl σ I yh yv hI hy args H L s _ hL hb hr Γ Φ w Vs hyv hH hg hi hd hc hn
    grind
   grind
  grind
 ·cases hcl
theorem Gu{C:Cfg}{lx:List (Nat × (List PV->Tr))}{ly:List (Nat × (List PV->List Blk->Tr))}{ls:List (Nat × (List PV->List Blk->Option (Bool × List (List PV))))}(a:C.X=LV lx)(b:C.Y=Io ly)(c:C.S=Io ls)(x:G3 C.P C.G lx)(y:Hn C.P C.G ly)(s:Hh C.P C.G ls)(d:C.Z=Io []:=by rfl):XOK C:=
 ⟨G3.x1 a x,Hn.ok b y,Hh.ok c s,λg e h=>by rw[d] at h;cases h⟩
theorem G3.ok{C:Cfg}{l:List (Nat × (List PV->Tr))}(hl:C.X=LV l)(h:G3 C.P C.G l)(h2:C.Y=Io []:=by rfl)(h3:C.S=Io []:=by rfl)(h4:C.Z=Io []:=by rfl):XOK C:=
 Gu hl h2 h3 h trivial trivial h4
def okL:List Nat->Nat->Bool
 | [],_=>false
 | a::r,n=>s9 n a||okL r n
def QP(C:Cfg)(l:List Nat):Bool:=l.all λf=>match C.P.funcs[f]? with
 | some fn=>match fn.body with
  | some c=>Ai5 C c && !(fn.name == "runtime.NumGoroutine")
  | none=>true
 | none=>true
theorem D4{C:Cfg}{l:List Nat}(d:C.okf=okL l)(h:QP C l=true):Dh C:=by
 intro f fn c b g e;have key:∀l:List Nat,okL l f=true->f∈l:=by
  intro l
  induction l with
  | nil=>intro h;cases h
  | cons a r j=>
   intro h;simp only[okL,Bool.or_eq_true] at h;rcases h with h|h
   all_goals simp_all
 have i:f∈l:=key l (by rw[<-d];exact b);simp only[QP,s5] at h;grind
def cd:List Nat->Code->Code
 | [],c=>c
 | 0::p,.seq a _=>cd p a
 | 1::p,.seq _ b=>cd p b
 | 0::p,.cond _ a _=>cd p a
 | 1::p,.cond _ _ b=>cd p b
 | 0::p,.block _ a=>cd p a
 | 0::p,.loop a=>cd p a
 | 0::p,.scope a=>cd p a
 | 0::p,.rangeFunc _ _ a _=>cd p a
 | 1::p,.rangeFunc _ _ _ b=>cd p b
 | _,_=>.skip
def X3:List Nat->Code->Code->Code
 | [],b,_=>b
 | 0::p,b,.seq x y=>.seq (X3 p b x) y
 | 1::p,b,.seq x y=>.seq x (X3 p b y)
 | 0::p,b,.cond c x y=>.cond c (X3 p b x) y
 | 1::p,b,.cond c x y=>.cond c x (X3 p b y)
 | 0::p,b,.block id x=>.block id (X3 p b x)
 | 0::p,b,.loop x=>.loop (X3 p b x)
 | 0::p,b,.scope x=>.scope (X3 p b x)
 | 0::p,b,.rangeFunc g a x y=>.rangeFunc g a (X3 p b x) y
 | 1::p,b,.rangeFunc g a x y=>.rangeFunc g a x (X3 p b y)
 | _,_,c=>c
def F0(f:Func):Code:=f.body.getD .skip
section
variable {Y R : Type}
def bd(C:Cfg)(a:E2)(d:Yh Y)(c:Code):St Y->(Out->St Y->Option R)->Option R:=λb k=>B8 C a d c b k
def I8(C:Cfg)(c:E2)(d:Yh Y)(b:Code)(k:Out->St Y->Option R):Out->St Y->Option R:=λo a=>match o with
 | .normal=>B8 C c d b a k
 | o=>k o a
def I2(id:Nat)(k:Out->St Y->Option R):Out->St Y->Option R:=λo a=>match o with
 | .exit j=>if j=id then k .normal a else k (.exit j) a
 | o=>k o a
def J6(C:Cfg)(fn:Func):Out->St Y->Option (PV × List Blk × Y):=λo a=>match o with
 | .normal=>Sn C a.sl a.hp fn.results.toList λb=>some (W9 b,a.hp,a.s)
 | .ret=>Sn C a.sl a.hp fn.results.toList λb=>some (W9 b,a.hp,a.s)
 | _=>none
def lpK(L:Nat)(ds:Option (List Nat))(a:St Y->(Out->St Y->Option R)->Option R)(n:Nat)(k:Out->St Y->Option R):Out->St Y->Option R:=λo b=>match o with
 | .normal=>E7 L ds a n (Fy ds (R5 L b)) k
 | o=>k o (Fy ds b)
end
theorem Be8{C:Cfg}{d f:Nat}{fn:Func}{e:Type}{g:Yh e}{args:List PV}{H:List Blk}{s:e}(i:C.P.funcs[f]? = some fn)(h:C.okf f=true)(a:fn.body=some (F0 fn)) :
  evC C (d+1) e g f args H s=B8 C (evC C d) g (F0 fn) { sl:=args++j3 (fn.ntmps-args.length) (.tup []),hp:=H,s:=s } (J6 C fn):=by
 simp only[evC,h,i];split
 ·rename_i c b;rw[b] at a;simp only[b8] at a;rw[<-a];rfl
 ·rename_i b;rw[b] at a;cases a
theorem evE{C:Cfg}{d f:Nat}{fn:Func}{a:Type}{b:Yh a}{args:List PV}{H:List Blk}{s:a}(h:(C.P.funcs[f]?,C.okf f,fn.body)=(some fn,true,some (F0 fn))) :
  evC C (d+1) a b f args H s=B8 C (evC C d) b (F0 fn) { sl:=args++j3 (fn.ntmps-args.length) (.tup []),hp:=H,s:=s } (J6 C fn):=by
 simp only[o8] at h;exact Be8 h.1 h.2.1 h.2.2
def Ei:List Nat->List Blk->List Blk
 | [],H=>H
 | i::r,H=>Ei r (H.set i .dead)
def OK(a:List Nat)(ret:PV)(H:List Blk):Bool:=a.all λi=>!(ret.nms.contains i)&&(Ei a H).all λb=>!(b.nms.contains i)
theorem Rd:∀(b:List Nat) (H:List Blk),(Ei b H).length=H.length/\∀i (h:i<(Ei b H).length) (c:i<H.length),(i∈b/\(Ei b H)[i] = .dead)\/(i∉b/\(Ei b H)[i]=H[i])
 | [],H=>⟨rfl,λi h c=>.inr ⟨by simp,rfl⟩⟩
 | a::r,H=>by
  obtain⟨d,e⟩:=Rd r (H.set a .dead);simp only[Ei];grind
theorem V9.dead{C:Cfg}{Γ:Ctx}{w w':World}{ret:PV}{Hc:List Blk}{V:Value}{idx:List Nat}(h:V9 C I0 Γ [] w noΦ ret Hc () V w')(hok:OK idx ret Hc=true):V9 C I0 Γ [] w noΦ ret (Ei idx Hc) () V w':=by
 obtain⟨Γ1,Φ1,hs,hH1,hv,hvn,hi1,hd1⟩:=h;obtain⟨hl,hsp⟩:=Rd idx Hc;simp only[OK,s5,j4,Bool.not_eq_true',List.contains_iff_mem,<-Bool.not_eq_true] at hok;let Γ2:Ctx:={ Γ1 with nm:=λb=>if b∈idx then none else Γ1.nm b }
 have hnm:∀b g,Γ2.nm b=some g->b∉idx/\Γ1.nm b=some g:=λb g h=>by
  simp only[Γ2] at h;split at h
  ·cases h
  ·exact⟨‹_›,h⟩
 have M:R8 Γ1 (A0 Hc) w' Γ2 (A0 (Ei idx Hc)) w' (·∉idx):=⟨λ_ _=>rfl,λ_ h=>h,λb hb=>by simp only[Γ2];rw[if_neg hb],λb hb=>by
  simp only[A0];by_cases hlt:b<Hc.length
  ·rcases hsp b (by omega) hlt with⟨q,_⟩|⟨_,q⟩
   ·exact absurd q hb
   ·rw[a7 (by omega),a7 hlt,q]
  ·rw[p6 (by omega),p6 (by omega)],λ_ _ _ _=>rfl,rfl⟩
 refine⟨Γ2,Φ1,⟨hs.os,hs.tape,hs.output,hs.size,hs.sub,hs.stnew,λb g h=>hs.own b g (hnm b g h).2,hs.foot,hs.frame,hs.yv,Nat.zero_le _,λb hb=>by simp at hb⟩,
  ⟨λb b' g h1 h2=>hH1.inj b b' g (hnm b g h1).2 (hnm b' g h2).2,λb g h=>by have:=hH1.lt b g (hnm b g h).2;rw[hl];exact this,hH1.stlt,λb hb c hc=>?_,λb hb=>?_⟩,
  hv.mono M (λb hb hi=>by have:=(hok b hi).1;exact this hb),λc hc=>by rw[hl];exact hvn c hc,hi1,λb g h=>hd1 b g (hnm b g h).2⟩
 ·have hlt:b<Hc.length:=by omega
  rcases hsp b hb hlt with⟨_,q⟩|⟨_,q⟩
  ·rw[q] at hc;simp[Blk.nms] at hc
  ·rw[q] at hc;rw[hl];exact hH1.nms b hlt c hc
 ·have hlt:b<Hc.length:=by omega
  rcases hsp b hb hlt with⟨_,q⟩|⟨q0,q⟩
  ·rw[q];trivial
  ·rw[q];refine(hH1.blk b hlt).mono M (M.nm b q0) (λ_ _=>rfl) (λc hc hi=>?_);have:=(hok c hi).2 _ (j6 hb);rw[q] at this;exact this hc
theorem S8{C₀:Cfg}{g:Nat}{pf:List PV->Tr}(y:XOK C₀)(u:Dh C₀)(B:C₀.P.follows .mixedOrders=true)
  (h:∀args ret i,G5 (pf args)=some (ret,i)->B9 args=[]/\∃d e c,evC C₀ d Unit noY g args [] ()=some (ret,e,())/\OK c ret e=true/\Ei c e=i):A9 C₀.P C₀.G g pf:=by
 intro args ret i f C v j D w o m t q z;obtain⟨l,d,e,c,k,A,rfl⟩:=h args ret i f;have p:=Ea (C₀:=C₀) (g:=g) (pf:=λa=>match G5 (pf a) with|some _=>(match evC C₀ d Unit noY g a [] () with|some (r,H,_)=>cond (B9 a).isEmpty (.ret r H) .fail|none=>.fail)|none=>.fail) y u B (λa r H b=>by
  split at b
  ·split at b
   ·rename_i G H' _ F;cases n:(B9 a).isEmpty with
    | true=>
     rw[n] at b;simp only[cond_true,G5,Bg,b8,o8] at b;grind
    | false=>rw[n] at b;cases b
   ·cases b
  ·cases b)
 refine(p args ret e ?_ C v j D w o m t q z).mono λV w' x=>x.dead A
 dsimp only;rw[f];dsimp only;rw[k];dsimp only;rw[l];rfl
theorem HE{C₀:Cfg}{g:Nat}{pf:List PV->Tr}(y:XOK C₀)(v:Dh C₀)(A:C₀.P.follows .mixedOrders=true)
  (h:∀args ret f,G5 (pf args)=some (ret,f)->B9 args=[]/\f=[]/\ret.nms=[]/\∃d b e,evC C₀ d Unit noY g args [] ()=some (b,e,())/\b.snap e=ret):A9 C₀.P C₀.G g pf:=by
 intro args ret f n C x i B w p l u t z;obtain⟨k,rfl,m,d,b,e,j,rfl⟩:=h args ret f n;have q:=Ea (C₀:=C₀) (g:=g) (pf:=λa=>match evC C₀ d Unit noY g a [] () with|some (r,H,_)=>cond (B9 a).isEmpty (.ret r H) .fail|none=>.fail) y v A (λa r H c=>by
  split at c
  ·rename_i F H' _ D;cases o:(B9 a).isEmpty with
   | true=>
    rw[o] at c;simp only[cond_true,G5,Bg,b8,o8] at c;grind
   | false=>rw[o] at c;cases c
  ·cases c)
 refine q.snap args (b.snap e) [] ?_ C x i B w p l u t z;dsimp only;rw[j];dsimp only;rw[k];simp only[List.isEmpty_nil,cond_true,Tr.snap,m];rfl
section
variable {L R : Type} {C : Cfg} {Y : E2} {Q : Yh L} {c a b : Code} {W : St L} {k : Out -> St L -> Option R} {id : Nat}
theorem A1{b:Bool}{x y d e:Option R}(f:x=d)(g:y=e):cond b x y=cond b d e:=by rw[f,g]
end
def A4{b:Type}:List (Nat × b)->Nat->Option b
 | [],_=>none
 | (a,l)::r,n=>cond (s9 n a) (some l) (A4 r n)
def bds(n:Nat):List PV:=j3 n .bad
def tps(n:Nat):List PV:=j3 n (.tup [])
def gp:List (Nat × PV)->Nat->List PV
 | [],n=>bds n
 | (m,v)::r,n=>bds m++v::gp r n
abbrev LL:=List (List SV)
abbrev By:=List UInt8
def A2(n:Int):Int:=o3 .i64 n
def Bo2(n:Int):Int:=o3 .u64 n
def Bo1(n:Int):Int:=o3 .u32 n
def Aq8(n:Int):Int:=o3 .u16 n
def wu8(n:Int):Int:=o3 .u8 n
def bOr(k:IntKind)(a b:Int):Int:=k.wrap (ah1 k.bits a ||| ah1 k.bits b).toNat
def Bh4(k:IntKind)(a b:Int):Int:=k.wrap (a*2 ^ min b.toNat k.bits)
def inR(n:Int)(m:Nat):Bool:=decide (0<=n)&&decide (n<m)
def Dd:TI:=⟨true,false,[.int .i64]⟩
def Jy:TI:=⟨true,false,[.str]⟩
def okE(t:TI)(l:LL)(i o:Nat):Bool:=decide (i<l.length)&&okS t (l.getD i []) o
def gC(l:LL)(i j:Nat):SV:=(l.getD i []).getD j .nilp
def gE(l:LL)(i j:Nat):Int:=(gC l i j).gI
def gX(l:LL)(i j:Nat):By:=(gC l i j).gS
def gY(l:LL)(i j:Nat):Bool:=(gC l i j).gB
def bAt(s:By)(n:Int):Int:=((s.getD n.toNat 0).toNat:Int)
def N3(l h:Int)(n:Nat):Bool:=decide (0<=l)&&decide (l<=h)&&decide (h<=n)
def cut{a:Type}(s:List a)(l h:Int):List a:=(s.take h.toNat).drop l.toNat
def Br5:Code->Bool | .rangeFunc _ _ _ _=>true|_=>false
def rgX:Code->Operand | .rangeFunc x _ _ _=>x|_=>.tmp 0
def rgP:Code->Array Tmp | .rangeFunc _ p _ _=>p|_=>#[]
theorem ET:∀(p:List Nat),cd p .skip = .skip
 | []=>rfl
 | 0::_=>rfl
 | 1::_=>rfl
 | (_+2)::_=>rfl
theorem Cm:∀(p q:List Nat) (c:Code),cd (p++q) c=cd q (cd p c)
 | [],q,c=>rfl
 | i::p,q,c=>by
  rw[ac1]
  match i,c with
  | 0,.seq a b=>exact Cm p q a
  | 1,.seq a b=>exact Cm p q b
  | 0,.cond _ a b=>exact Cm p q a
  | 1,.cond _ a b=>exact Cm p q b
  | 0,.block _ a=>exact Cm p q a
  | 0,.loop a=>exact Cm p q a
  | 0,.scope a=>exact Cm p q a
  | 0,.rangeFunc _ _ a b=>exact Cm p q a
  | 1,.rangeFunc _ _ a b=>exact Cm p q b
  | 0,.skip|0,.region _ _ _|0,.exit _|0,.label _|0,.goto _|0,.ret|0,.refuse _=>exact(ET q).symm
  | 1,.skip|1,.region _ _ _|1,.exit _|1,.scope _|1,.label _|1,.goto _|1,.ret|1,.refuse _|1,.block _ _|1,.loop _=>exact(ET q).symm
  | _+2,.skip|_+2,.region _ _ _|_+2,.exit _|_+2,.scope _|_+2,.label _|_+2,.goto _|_+2,.ret|_+2,.refuse _|_+2,.block _ _|_+2,.loop _|_+2,.seq _ _|_+2,.cond _ _ _|_+2,.rangeFunc _ _ _ _=>exact(ET q).symm
section
variable {W R : Type} {C : Cfg} {L : E2} {Y : Yh W} {B : Code} {Q : St W} {k : Out -> St W -> Option R}
theorem Bm5(p:List Nat)(h:Br5 (cd p B)=true):B8 C L Y (cd p B) Q k=Lq C L (opnd C Q.sl (rgX (cd p B))) Q (λa=>En (rgP (cd p B)) a (bd C L Y (cd (p++[0]) B)) (bd C L Y (cd (p++[1]) B))) (λa=>T8 (rgP (cd p B)) a (bd C L Y (cd (p++[0]) B)) (bd C L Y (cd (p++[1]) B))) k:=by rw[Cm,Cm];cases b:cd p B<;>rw[b] at h<;>first|rfl|cases h
theorem QK{c:Bool}{x y:Option R}(h:x=y):need c x=cond c y none:=by rw[h];rfl
end
abbrev pS(l:List UInt8):PV:=.s (.str l)
abbrev pB(b:Bool):PV:=.s (.bool b)
abbrev pI(n:Int):PV:=.s (.int .i64 n)
abbrev p8(n:Int):PV:=.s (.int .u8 n)
abbrev vl{a b:Type}(e:a)(f:a->b):b:=f e
theorem B5{a R:Type}{e:a}{f g:a->Option R}(h:∀x,f x=g x):vl e f=vl e g:=h e
def VQ(m n:Nat):Bool:=decide (m+n<4611686018427387904)
theorem fx1{A R:Type}{f g:A->R}(b:∀a,f a=g a):f=g:=funext b
theorem fx2{A B R:Type}{f g:A->B->R}(c:∀a b,f a b=g a b):f=g:=funext λa=>fx1 (c a)
theorem fx3{A B C R:Type}{f g:A->B->C->R}(d:∀a b c,f a b c=g a b c):f=g:=funext λa=>fx2 (d a)
theorem fx4{A B C D R:Type}{f g:A->B->C->D->R}(e:∀a b c d,f a b c d=g a b c d):f=g:=funext λa=>fx3 (e a)
theorem fx5{A B C D E R:Type}{f g:A->B->C->D->E->R}(h:∀a b c d e,f a b c d e=g a b c d e):f=g:=funext λa=>fx4 (h a)
theorem fx6{A B C D E H R:Type}{f g:A->B->C->D->E->H->R}(i:∀a b c d e h,f a b c d e h=g a b c d e h):f=g:=funext λa=>fx5 (i a)
theorem fx7{A B C D E H I R:Type}{f g:A->B->C->D->E->H->I->R}(j:∀a b c d e h i,f a b c d e h i=g a b c d e h i):f=g:=funext λa=>fx6 (j a)
theorem fx8{A B C D E H I J R:Type}{f g:A->B->C->D->E->H->I->J->R}(k:∀a b c d e h i j,f a b c d e h i j=g a b c d e h i j):f=g:=funext λa=>fx7 (k a)
theorem fx9{A B C D E H I J K R:Type}{f g:A->B->C->D->E->H->I->J->K->R}(l:∀a b c d e h i j k,f a b c d e h i j k=g a b c d e h i j k):f=g:=funext λa=>fx8 (l a)
theorem Aw0{A B C D E H I J K L R:Type}{f g:A->B->C->D->E->H->I->J->K->L->R}(m:∀a b c d e h i j k l,f a b c d e h i j k l=g a b c d e h i j k l):f=g:=funext λa=>fx9 (m a)
def Bn8{α a:Type}(z:α)(f:a->List a->α->α):List a->α
 | []=>z
 | x::xs=>f x xs (Bn8 z f xs)
def Sj(n:Nat):PV->PV
 | .s (.sl z t k a)=>if n=0 then .s (.sl z t k a) else if k=n then .s (.sl z t k a) else .s (.sl z t (cond z n k) a)
 | v=>v
def Py:List Nat->List PV->List PV
 | n::r,v::l=>Sj n v::Py r l
 | _,l=>l
def Bf0(a:List Nat):PV->PV
 | .agg l=>.agg (Py a l)
 | v=>Sj (a.headD 0) v
def D8:List (List Nat)->List PV->List PV
 | s::r,v::l=>Bf0 s v::D8 r l
 | _,l=>l
section
variable {L : Ctx} {sh : Nat -> Option Shp} {w : World}
theorem Ss{n:Nat}{v:PV}{V:Value}(h:VP L sh w v V):VP L sh w (Sj n v) V:=by
 unfold Sj;split
 ·rename_i z t k a;split
  ·exact h
  ·split
   ·exact h
   ·cases z with
    | false=>exact h
    | true=>
     have b:=h.inv_s;cases b with
     | nil=>exact .s _ _ (.nil _ _)
 ·exact h
theorem Ms:∀(a:List Nat) (l:List PV),(Py a l).length=l.length
 | [],_=>rfl
 | _::_,[]=>rfl
 | n::r,v::l=>by simp[Py,Ms r l]
theorem Vv:∀(a:List Nat) (l:List PV) (j:Nat) (h:j<l.length) (b:j<(Py a l).length),∃n,(Py a l)[j]=Sj n l[j]
 | [],l,j,h,b=>⟨0,by
  have e:Py [] l=l:=by cases l<;>rfl
  simp only[e];unfold Sj;split
  ·rename_i c;rw[c];simp
  ·rfl⟩
 | n::r,v::l,0,h,b=>⟨n,rfl⟩
 | n::r,v::l,j+1,h,b=>by
  obtain⟨m,e⟩:=Vv r l j (by simpa using h) (by simpa[Py] using b);exact⟨m,by simpa[Py] using e⟩
theorem Av8{b:List Nat}{v:PV}{V:Value}(h:VP L sh w v V):VP L sh w (Bf0 b v) V:=by
 unfold Bf0;split
 ·rename_i l;obtain⟨A,rfl,f,g⟩:=h.inv_agg;refine VP.mk_agg (by rw[Ms];exact f) λj c=>?_
  have a:j<l.length:=by rw[Ms] at c;exact c
  obtain⟨U,e,k⟩:=g j a;obtain⟨m,d⟩:=Vv b l j a c;exact⟨U,e,by rw[d];exact Ss k⟩
 ·exact Ss h
theorem IW:∀(a:List (List Nat)) (l:List PV),(D8 a l).length=l.length
 | [],_=>rfl
 | _::_,[]=>rfl
 | n::r,v::l=>by simp[D8,IW r l]
theorem Av9:∀(a:List (List Nat)) (l:List PV) (V:Array Value),CR L sh w l V->CR L sh w (D8 a l) V:=by
 intro a l V h;refine⟨by rw[IW];exact h.1,?_⟩;have key:∀(a:List (List Nat)) (l:List PV) (b:Nat->Option Value),(∀j (h:j<l.length),∃U,b j=some U/\VP L sh w (l[j]) U)->∀j (h:j<(D8 a l).length),∃U,b j=some U/\VP L sh w ((D8 a l)[j]) U:=by
  intro a
  induction a with
  | nil=>intro l b d j c;exact d j (by cases l<;>exact c)
  | cons s r f=>
   intro l b d j c;cases l with
   | nil=>simp[D8] at c
   | cons v l=>
    cases j with
    | zero=>
     obtain⟨U,e,k⟩:=d 0 (by simp);exact⟨U,e,Av8 k⟩
    | succ j=>
     have:=f l (λj=>b (j+1)) (λj h=>d (j+1) (by simpa using h)) j (by simpa[D8] using c);simpa[D8] using this
 exact key a l (λj=>V[j]?) h.2
end
theorem A9.fix{P:Program}{G:GT}{g:Nat}{pf:List PV->Tr}(szs:List (List Nat))(h:A9 P G g pf):A9 P G g (λargs=>pf (D8 szs args)):=
 λargs ret Hc hpf C hP hGe Γ w Vs hnm hH hG hc=>h (D8 szs args) ret Hc hpf C hP hGe Γ w Vs hnm hH hG (Av9 szs args Vs hc)
theorem I7{v:PV}{H:List Blk}{ret:PV}{a:List Blk}(h:G5 (.ret v H)=some (ret,a)):ret=v/\a=H:=by simp only[G5,Bg,b8,o8] at h;grind
theorem D5{c:Bool}{t:Tr}{ret:PV}{a:List Blk}(h:G5 (.need c t)=some (ret,a)):c=true/\G5 t=some (ret,a):=by
 cases c with
 | true=>exact⟨rfl,h⟩
 | false=>cases h
theorem Xx{c:Bool}{a b:Tr}{ret:PV}{d:List Blk}(h:G5 (.split c a b)=some (ret,d)):(c=true/\G5 a=some (ret,d))\/(c=false/\G5 b=some (ret,d)):=by
 cases c with
 | true=>exact .inl ⟨rfl,h⟩
 | false=>exact .inr ⟨rfl,h⟩
theorem A82:∃n:Nat,100000000000000000000<=n:=⟨_,p4 _⟩
noncomputable def LF:Nat:=ab7 A82
theorem F9:100000000000000000000<=LF:=ac8 A82
attribute [irreducible] LF
theorem XY(b:UInt8):Pu (D7 b)=b:=by simp[Pu,D7,SV.gI]
theorem Fd(l:List UInt8):(l.map D7).map Pu=l:=by
 rw[ah4];have:Pu ∘ D7=id:=by funext b;exact XY b
 rw[this,List.map_id]
theorem YL(b:UInt8):Sk (D7 b)=true:=by have:=b.toNat_lt;simp only[Sk,D7,j4,decide_eq_true_eq];omega
theorem Et(l:List UInt8):(l.map D7).all Sk=true:=by rw[ah3];simp[Function.comp_def,YL]
theorem Bi4(n:Nat):o3 .u8 (n:Int)=((n % 256:Nat):Int):=by simp[o3,aa8,x8]
theorem A59(n:Nat):o3 .u16 (n:Int)=((n % 65536:Nat):Int):=by simp[o3,aa8,x8]
theorem A60(n:Nat):o3 .u32 (n:Int)=((n % 4294967296:Nat):Int):=by simp[o3,aa8,x8]
theorem A61(n:Nat):o3 .u64 (n:Int)=((n % 18446744073709551616:Nat):Int):=by simp[o3,aa8,x8]
theorem A58(n:Int)(a:-9223372036854775808<=n)(b:n<9223372036854775808):o3 .i64 n=n:=by simp[o3,aa8,x8];split<;>omega
theorem Bm6(n m:Nat):Int.fdiv (n:Int) (m:Int)=((n / m:Nat):Int):=by rw[Int.fdiv_eq_ediv_of_nonneg _ (by omega)];rfl
theorem K5(n m:Nat):ab9 (n:Int) (m:Int)=((n / m:Nat):Int):=by rw[Int.tdiv_eq_ediv_of_nonneg (by omega)];rfl
theorem Fi(n m:Nat):Int.tmod (n:Int) (m:Int)=((n % m:Nat):Int):=by rw[Int.tmod_eq_emod_of_nonneg (by omega)];rfl
end
section
open Go Go.ChangeShapes Go.RowKit Go.Sort Go.WideShapes
theorem Kj{P:Program}{f:Nat}{fn:Func}{d:Array Value}{w:World}{R:Value->World->Prop}(m:P.funcs[f]? = some fn)(j:fn.body.isSome=true)(p:(fn.name == "runtime.NumGoroutine")=false)
  (h:Calls P f d w λe w'=>∃V,e = .returned V/\R V w'):L9 P ((callFunc f d).run P w) R:=by
 obtain⟨c,j⟩:=x4.1 j;intro q n o a next Q b
 have g:(callFunc f d).run P w = .ok (.enter f d) w:=by
  have k:¬ fn.name = "runtime.NumGoroutine":=by simpa using p
  simp[callFunc,m,j,k,ad8]
 rw[g];simp only[ab5];refine⟨λh=>(by simp[D9,z7] at h),?_⟩;have key:CallsIn z7 (n-1) P f d w λe w'=>∃V,e = .returned V/\R V w':=callsIn_wide.2 h
 have i:CallsIn (D9 q) (n-1) P f d w λe w'=>∃V,e = .returned V/\R V w':=key
 refine i.mono ?_;rintro e w' ⟨V,rfl,l⟩;exact b V w' l
theorem Ai7{C:Cfg}{d:Ctx}{w w':World}{ret:PV}{V:Value}(a:∀b,d.nm b=none)(f:HR d [] w)(c:Below w.heap.size w w')(j:VP d (A0 []) w' ret V)(i:ret.nms=[]):V9 C I0 d [] w noΦ ret [] () V w':=by
 refine⟨d,noΦ,⟨c.os,c.tape,c.output,c.size,λ_ h=>h,λ_ h=>.inl h,λb g h=>(by rw[a] at h;cases h),λ_ h=>h.elim,λg e _ _=>c.block g e,rfl,p4 _,λb h=>(by simp at h)⟩,
  ⟨λb k g h=>(by rw[a] at h;cases h),λb g h=>(by rw[a] at h;cases h),λg e=>j8 (f.stlt g e) c.size,λb h=>(by simp at h),λb h=>(by simp at h)⟩,j,by rw[i];simp,λ_ h=>h,λb g h=>(by rw[a] at h;cases h)⟩
theorem IC(w:World)(n:Nat):Below w.heap.size w (w.drewN n):=⟨rfl,rfl,rfl,p4 _,λ_ _=>rfl⟩
theorem NM(w:World)(s:ByteArray)(pos:Nat):Below w.heap.size w (w.iter s pos):=(Below.refl _ w).alloc (p4 _) _
section
variable {Γ : Ctx} {sh : Nat -> Option Shp} {w : World}
theorem CR.arr1{a:PV}{A:Array Value}(h:CR Γ sh w [a] A):∃U,A = #[U]/\VP Γ sh w a U:=by obtain⟨U,e,k⟩:=h.2 0 (by simp);refine⟨U,?_,k⟩;have hs:A.size=1:=h.1;grind
theorem CR.arr2{a b:PV}{A:Array Value}(h:CR Γ sh w [a,b] A):∃U V,A = #[U,V]/\VP Γ sh w a U/\VP Γ sh w b V:=by obtain⟨U,e,k⟩:=h.2 0 (by simp);obtain⟨V,e',k'⟩:=h.2 1 (by simp);refine⟨U,V,?_,k,k'⟩;have hs:A.size=2:=h.1;grind
theorem CR.arr3{a b c:PV}{A:Array Value}(h:CR Γ sh w [a,b,c] A):∃U V W,A = #[U,V,W]/\VP Γ sh w a U/\VP Γ sh w b V/\VP Γ sh w c W:=by obtain⟨U,e,k⟩:=h.2 0 (by simp);obtain⟨V,e',k'⟩:=h.2 1 (by simp);obtain⟨W,e'',k''⟩:=h.2 2 (by simp);refine⟨U,V,W,?_,k,k',k''⟩;have hs:A.size=3:=h.1;grind
theorem VP.mk_str(l:List UInt8):VP Γ sh w (.s (.str l)) (.string ⟨l.toArray⟩):=by have:=VP.s (Γ:=Γ) (sh:=sh) (w:=w) _ _ (VS.str (St:=Γ.St) (w:=w) ⟨l.toArray⟩);omega
theorem VP.mk_int(k:IntKind)(n:Int):VP Γ sh w (.s (.int k n)) (.int k n):=.s _ _ (.int k n)
theorem VP.mk_bool(b:Bool):VP Γ sh w (.s (.bool b)) (.bool b):=.s _ _ (.bool b)
theorem VP.mk_tup3{a b c:PV}{U V W:Value}(h:VP Γ sh w a U)(k:VP Γ sh w b V)(l:VP Γ sh w c W):VP Γ sh w (.tup [a,b,c]) (.tuple #[U,V,W]):=
 VP.mk_tup rfl λj hj=>by grind
end
theorem M5{P:Program}{G:GT}{g:Nat}{fn:Func}{k:List PV->Tr}(q:P.funcs[g]? = some fn)(d:fn.body.isSome=true)(t:(fn.name == "runtime.NumGoroutine")=false)
  (h:∀args ret b,G5 (k args)=some (ret,b)->b=[]/\ret.nms=[]/\∀C:Cfg,C.P=P->C.G=G->∀a w c,GOK C a.St w->(∀g,a.St g->g<w.heap.size)->CR a (A0 []) w args c->
   Calls P g c w λe w'=>∃V,e = .returned V/\Below w.heap.size w w'/\VP a (A0 []) w' ret V):A9 P G g k:=by
 intro args ret b i C n m a w c f j r o;obtain⟨rfl,u,l⟩:=h args ret b i;exact Kj q d t ((l C n m a w c r j.stlt o).mono λe w' ⟨V,p,d,v⟩=>⟨V,p,Ai7 f j d v u⟩)
def PV.stab(szs:List Nat)(H:List Blk):PV->PV
 | .tup l=>.tup (Py szs (N1 H l))
 | v=>Sj (szs.headD 0) (v.snap H)
theorem VP.stab{Γ:Ctx}{H:List Blk}{w:World}(szs:List Nat)(hH:HR Γ H w){v:PV}{V:Value}(h:VP Γ (A0 H) w v V):VP Γ.all (A0 H) w (v.stab szs H) V:=by
 by_cases ht:∃l,v = .tup l
 ·obtain⟨l,rfl⟩:=ht;obtain⟨A,rfl,hA,hc⟩:=h.inv_tup;simp only[PV.stab];have hl:(Py szs (N1 H l)).length=l.length:=by rw[Ms,X7,s8]
  refine VP.mk_tup (by rw[hl];exact hA) λj hj=>?_
  obtain⟨U,e,k⟩:=hc j (by omega);refine⟨U,e,?_⟩;have hj':j<(N1 H l).length:=by rw[X7,s8];omega
  obtain⟨n,en⟩:=Vv szs (N1 H l) j hj' hj;rw[en];have e2:(N1 H l)[j]=(l[j]'(by omega)).snap H:=by
   simp only[X7,s6]
  rw[e2];exact Ss (k.snap hH)
 ·have e:v.stab szs H=Sj (szs.headD 0) (v.snap H):=by
   cases v with
   | tup l=>exact absurd ⟨l,rfl⟩ ht
   | _=>rfl
  rw[e];exact Ss (h.snap hH)
theorem UO(f:List Blk->PV->PV)(Q:∀{Γ:Ctx} {H:List Blk} {w:World},HR Γ H w->∀{v:PV} {V:Value},VP Γ (A0 H) w v V->VP Γ.all (A0 H) w (f H v) V){C₀:Cfg}{g:Nat}{pf:List PV->Tr}(N:XOK C₀)(L:Dh C₀)(R:C₀.P.follows .mixedOrders=true)
  (h:∀args ret p,G5 (pf args)=some (ret,p)->B9 args=[]/\p=[]/\ret.nms=[]/\∃d c l,evC C₀ d Unit noY g args [] ()=some (c,l,())/\f l c=ret):A9 C₀.P C₀.G g pf:=by
 intro args ret p B C M t Γ w G A K J O;obtain⟨z,rfl,n,d,c,l,u,rfl⟩:=h args ret p B;have I:=Ea (C₀:=C₀) (g:=g) (pf:=λa=>match evC C₀ d Unit noY g a [] () with|some (r,H,_)=>cond (B9 a).isEmpty (.ret r H) .fail|none=>.fail) N L R (λa r H k=>by
  split at k
  ·rename_i U H' _ T;cases F:(B9 a).isEmpty with
   | true=>
    rw[F] at k;simp only[cond_true,G5,Bg,b8,o8] at k;grind
   | false=>rw[F] at k;cases k
  ·cases k)
 refine(I args c l (by dsimp only;rw[u];dsimp only;rw[z];rfl) C M t Γ w G A K J O).mono ?_;rintro V w' ⟨o,D,e,j,S,hvn,x,P⟩;let Γ2:Ctx:={ o.all with nm:=λ_=>none }
 have y:∀g,Γ2.St g->g<w'.heap.size:=λg i=>by
  rcases i with i|⟨b,m⟩
  ·exact j.stlt g i
  ·exact(j.lt b g m).2.1
 refine⟨Γ2,D,⟨e.os,e.tape,e.output,e.size,λg i=>.inl (e.sub g i),λg i=>?_,λb g h=>by simp[Γ2] at h,e.foot,e.frame,e.yv,p4 _,λb m=>by simp at m⟩,
  Fp (λ_=>rfl) y,?_,by rw[n];simp,x,λb g h=>by simp[Γ2] at h⟩
 ·rcases i with i|⟨b,m⟩
  ·exact e.stnew g i
  ·rcases e.own b g m with⟨q,_⟩|q
   ·simp at q
   ·exact .inr q
 ·exact VP.mono (Γ:=o.all) (Γ':=Γ2) (w:=w') (w':=w') (sh:=A0 l) (ok:=λ_=>False) ⟨λ_ _=>rfl,λ_ h=>h,λ_ h=>h.elim,λ_ h=>h.elim,λ_ _ h=>h.elim,rfl⟩ (Q j S) (by rw[n];simp)
theorem Q0(b:List Nat){C₀:Cfg}{g:Nat}{f:List PV->Tr}(k:XOK C₀)(j:Dh C₀)(l:C₀.P.follows .mixedOrders=true)
  (h:∀args ret e,G5 (f args)=some (ret,e)->B9 args=[]/\e=[]/\ret.nms=[]/\∃d a c,evC C₀ d Unit noY g args [] ()=some (a,c,())/\a.stab b c=ret):A9 C₀.P C₀.G g f:=
 UO (λH v=>v.stab b H) (λi _ _ h=>h.stab b i) k j l h
def Tr.Good(szs:List Nat)(args:List PV)(e:Option (PV × List Blk × Unit)):Tr->Prop
 | .ret v H=>B9 args=[]/\H=[]/\v.nms=[]/\∃r H0,e=some (r,H0,())/\r.stab szs H0=v
 | .need c t=>c=true->Good szs args e t
 | .split c a b=>(c=true->Good szs args e a)/\(c=false->Good szs args e b)
 | .fail=>True
theorem Tr.Good.res{szs:List Nat}{args:List PV}{e:Option (PV × List Blk × Unit)}{ret:PV}{Hc:List Blk}:∀{t:Tr},t.Good szs args e->G5 t=some (ret,Hc)->B9 args=[]/\Hc=[]/\ret.nms=[]/\∃r H0,e=some (r,H0,())/\r.stab szs H0=ret
 | .ret v H,h,hr=>by
  obtain⟨rfl,rfl⟩:=I7 hr;exact h
 | .need c t,h,hr=>by
  obtain⟨h0,hr⟩:=D5 hr;exact res (h h0) hr
 | .split c a b,h,hr=>by
  rcases Xx hr with⟨h0,hr⟩|⟨h0,hr⟩
  ·exact res (h.1 h0) hr
  ·exact res (h.2 h0) hr
theorem xf(b:List Nat)(a:Cfg){g:Nat}(d:List PV->Tr){e:List (List Nat)}{l:List (Nat × (List PV->Tr))}{c:List Nat}(n:a.X=LV l)(t:G3 a.P a.G l)(p:a.okf=okL c)(m:QP a c=true)(o:a.P.follows .mixedOrders=true)
  (h:∀args,(d args).Good b args (evC a 1 Unit noY g args [] ())) (i:a.Y=Io []:=by rfl) (j:a.S=Io []:=by rfl) (k:a.Z=Io []:=by rfl):A9 a.P a.G g (λargs=>d (D8 e args)):=
 A9.fix e (Q0 b (G3.ok n t i j k) (D4 p m) o λargs ret z q=>by
  obtain⟨u,v,w,r,f,x,y⟩:=(h args).res q;exact⟨u,v,w,1,r,f,x,y⟩)
end
section
open Go
def PI(n:Nat)(ret:PV)(H:List Blk):Bool:=ret.nms.all (ah5 · n)&&H.all λb=>b.nms.all (ah5 · n)
theorem V9.head{C:Cfg}{σ:Type}{I:σ->(Nat->Prop)->(Nat->Prop)->World->Prop}{Γ:Ctx}{H Hc T:List Blk}{w w':World}{Φ:Nat->Prop}{s':σ}{ret:PV}{V:Value}
  (h:V9 C I Γ H w Φ ret (Hc++T) s' V w') (hl:H.length<=Hc.length) (hok:PI Hc.length ret Hc=true):V9 C I Γ H w Φ ret Hc s' V w':=by
 obtain⟨Γ1,Φ1,hs,hH1,hv,hvn,hi1,hd1⟩:=h;simp only[PI,j4,s5,Nat.blt_eq] at hok;let Γ2:Ctx:={ Γ1 with nm:=λb=>if b<Hc.length then Γ1.nm b else none }
 have hnm:∀b g,Γ2.nm b=some g->b<Hc.length/\Γ1.nm b=some g:=λb g h=>by grind
 have get:∀b (h:b<Hc.length) (h':b<(Hc++T).length),(Hc++T)[b]=Hc[b]:=λb h h'=>ab6 h
 have shp:∀b,b<Hc.length->A0 Hc b=A0 (Hc++T) b:=λb hb=>by
  simp only[A0];grind
 have M:R8 Γ1 (A0 (Hc++T)) w' Γ2 (A0 Hc) w' (· < Hc.length):=⟨λ_ _=>rfl,λ_ h=>h,λb hb=>by simp only[Γ2];rw[if_pos hb],λb hb=>shp b hb,λ_ _ _ _=>rfl,rfl⟩
 refine⟨Γ2,Φ1,⟨hs.os,hs.tape,hs.output,hs.size,hs.sub,hs.stnew,λb g h=>hs.own b g (hnm b g h).2,hs.foot,hs.frame,hs.yv,hl,λb hb hf=>?_⟩,
  ⟨λb b' g h1 h2=>hH1.inj b b' g (hnm b g h1).2 (hnm b' g h2).2,λb g h=>by have:=hH1.lt b g (hnm b g h).2;exact⟨(hnm b g h).1,this.2⟩,hH1.stlt,λb hb c hc=>hok.2 _ (j6 hb) c hc,λb hb=>?_⟩,
  hv.mono M (λb hb=>hok.1 b hb),λc hc=>hok.1 c hc,hi1,λb g h=>hd1 b g (hnm b g h).2⟩
 ·obtain⟨m1,m2,m3⟩:=hs.keep b hb hf;have hb2:b<Hc.length:=j8 hb hl;exact⟨by simp only[Γ2];rw[if_pos hb2];exact m1,by rw[shp b hb2];exact m2,m3⟩
 ·have hb':b<(Hc++T).length:=by rw[ab1];omega
  have:=hH1.blk b hb';rw[get b hb hb'] at this;exact this.mono M (M.nm b hb) (λ_ _=>rfl) (λc hc=>hok.2 _ (j6 hb) c hc)
theorem S9{C₀:Cfg}{g:Nat}{n:List PV->List Blk->Tr}(x:XOK C₀)(u:Dh C₀)(F:C₀.P.follows .mixedOrders=true)
  (h:∀args H ret a,G5 (n args H)=some (ret,a)->u5 H.length a.length=true/\PI a.length ret a=true/\∀(b:Type) (f:Yh b) (s:b),∃d c,evC C₀ d b f g args H s=some (ret,c,s)/\c.take a.length=a):Jz C₀.P C₀.G g n:=by
 intro C v q b I f S t M args H s ret a j T U w o k r A B z y G;obtain⟨D,i,p⟩:=h args H ret a j;obtain⟨d,c,e,L⟩:=p b f s;rw[<-List.take_append_drop a.length c,L] at e;refine(Ex x u F d b I f S t M g args H s ret (a++c.drop a.length) s e T U w o k r (A.congr q.symm) B z y G).mono ?_;rintro V w' J;obtain⟨l,m,K,N,O,P,Q,R⟩:=J.head (Nat.le_of_ble_eq_true D) i;exact⟨l,m,K.congr v.symm,N,O,P,Q,R⟩
def Cj:List Int:=(ag4 32).map λi=>((if i % 2=0 then Lib.accLo (i / 2) else Lib.accHi (i / 2):Nat):Int)
def GX:GT:=⟨λg=>cond (s9 g 1) (some (.u8,ae5)) (cond (s9 g 2) (some (.u8,Cj)) (cond (s9 g 3) (some (.u64,ae6)) (cond (s9 g 5) (some (.u8,ab4.map λn:Nat=>(n:Int))) none))),λg=>s9 g 0⟩
def Bn6:List (Nat × Nat × Nat × Nat)->Nat->Nat->Nat × Nat
 | [],_,_=>(0,0)
 | (t,j,e,k)::r,b,a=>cond (s9 t b&&s9 j a) (e,k) (Bn6 r b a)
def Bc6:List (Nat × Nat)->Nat->Option Nat
 | [],_=>none
 | (a,b)::r,i=>cond (s9 a i) (some b) (Bc6 r i)
noncomputable def C3(g:Nat)(f:List Nat)(d:Nat->Option (List Nat))(X:List (Nat × (List PV->Tr)))(b:Nat->Option (List Nat):=λ_=>none)(h:List Nat:=[])(a:Nat->Option (List Nat):=λ_=>none)(c:Option (List Nat):=none)(Y:List (Nat × (List PV->List Blk->Tr)):=[])(S:List (Nat × (List PV->List Blk->Option (Bool × List (List PV)))):=[])(e:List Nat:=[])(nt:List (Nat × Nat × Nat × Nat):=[])(rw:List (Nat × Nat):=[])(Z:List (Nat × (SV->List (List SV)->Bool × List (List SV))):=[])(i:List (Nat × List Nat × List Nat):=[])(j:List Nat:=[]):Cfg:=
 { P:=j0,G:=GX,X:=LV X,lend:=okL e,okf:=okL f,lf:=g,keep:=d,keepR:=b,xp:=okL h,keepE:=a,keepT:=c,Y:=Io Y,S:=Io S,nilT:=Bn6 nt,rowR:=Bc6 rw,Z:=Io Z,farR:=A4 i,stab:=okL j }
theorem follows:j0.follows .mixedOrders=true:=by kernel_rfl
theorem Aa5{n:Nat}:G1 n=true↔n<=68719476736:=by simp[G1]
theorem E9{n:Nat}(h:n<=68719476736):G1 n=true:=Aa5.2 h
theorem D0{a b:Int}(h:a<b):ltI a b=true:=by rw[Z2];simpa using h
theorem E4{a b:Int}(h:b<=a):ltI a b=false:=by rw[Z2];simpa using h
theorem WF{a b:Int}:ltI a b=true↔a<b:=by rw[Z2];simp
theorem G7{n:Int}(a:-9223372036854775808<=n)(b:n<9223372036854775808):A2 n=n:=A58 n a b
theorem A64{n:Int}(a:0<=n)(b:n<18446744073709551616):Bo2 n=n:=by obtain⟨m,rfl⟩:=p9 a;unfold Bo2;rw[A61,w8 (by omega)]
theorem A63{n:Int}(a:0<=n)(b:n<4294967296):Bo1 n=n:=by obtain⟨m,rfl⟩:=p9 a;unfold Bo1;rw[A60,w8 (by omega)]
theorem A62{n:Int}(a:0<=n)(b:n<65536):Aq8 n=n:=by obtain⟨m,rfl⟩:=p9 a;unfold Aq8;rw[A59,w8 (by omega)]
theorem Aq9{n:Int}(a:0<=n)(b:n<256):wu8 n=n:=by obtain⟨m,rfl⟩:=p9 a;unfold wu8;rw[Bi4,w8 (by omega)]
theorem A8{a b:Int}(h:a<b:=by omega):ltI a b=true:=D0 h
theorem A6{a b:Int}(h:b<=a:=by omega):ltI a b=false:=E4 h
theorem A5{n:Int}(h:-9223372036854775808<=n:=by omega)(g:n<9223372036854775808:=by omega):A2 n=n:=G7 h g
theorem R7{n:Int}(h:0<=n:=by omega)(g:n<256:=by omega):wu8 n=n:=Aq9 h g
theorem Kc{d:Sort _}{c:Prop}[Decidable c]{a b:d}(h:c:=by omega):(if c then a else b)=a:=if_pos h
theorem V2{d:Sort _}{c:Prop}[Decidable c]{a b:d}(h:¬c:=by omega):(if c then a else b)=b:=if_neg h
theorem R4{l h:Int}{n:Nat}(a:0<=l)(b:l<=h)(c:h<=n):N3 l h n=true:=by simp[N3,a,b,c]
theorem M4{i:Int}{n:Nat}(a:0<=i)(b:i<n):inR i n=true:=by simp[inR,a,b]
theorem R3{l h:Int}{n:Nat}(a:0<=l:=by omega)(b:l<=h:=by omega)(c:h<=n:=by omega):N3 l h n=true:=R4 a b c
theorem K2{i:Int}{n:Nat}(a:0<=i:=by omega)(b:i<n:=by omega):inR i n=true:=M4 a b
end
section
open Go Go.Proofs
def Tb(r:Option (PV × List Blk × Unit)):Bool:=match r with
 | some (.s (.bool true),_,_)=>true
 | _=>false
theorem GL{r:Option (PV × List Blk × Unit)}(h:Tb r=true):∃H,r=some (.s (.bool true),H,()):=by
 unfold Tb at h;split at h
 ·exact⟨_,rfl⟩
 ·cases h
theorem UP{C₀:Cfg}{g d:Nat}(f:XOK C₀)(c:Dh C₀)(i:C₀.P.follows .mixedOrders=true)(h:Tb (evC C₀ d Unit noY g [] [] ())=true):A9 C₀.P C₀.G g (λargs=>match args with|[]=>.ret (.s (.bool true)) []|_=>.fail):=
 HE f c i λargs ret j b=>by
  cases args with
  | nil=>
   obtain⟨rfl,rfl⟩:=I7 b;obtain⟨H,e⟩:=GL h;exact⟨rfl,rfl,rfl,d,_,H,e,rfl⟩
  | cons a r=>cases b
theorem Au0{P:Program}{t:Nat}{v:PV}{f:Ty}(h:Ti P t v)(e:Dz P 20 t=some [f])(i:Mc P t=false):∃x,v = .s x/\f.of x:=by
 obtain⟨j,l,b,c,a⟩:=h;rw[e] at b;simp only[b8] at b;subst b;rcases a with⟨a,_⟩|⟨_,x,rfl,rfl⟩
 ·rw[i] at a;cases a
 ·simp only[Ty.ofL] at c;obtain⟨v,q,d,g,rfl⟩:=c;simp only[List.cons.injEq,and_true] at d;subst d;exact⟨_,rfl,g⟩
theorem At9{P:Program}{t:Nat}{v:PV}{k:IntKind}(h:Ti P t v)(e:Dz P 20 t=some [.int k])(c:Mc P t=false):∃n,v = .s (.int k n)/\k.min<=n/\n<=k.max:=by obtain⟨x,rfl,n,rfl,a,b⟩:=Au0 h e c;exact⟨n,rfl,a,b⟩
end
section
open Go
def H5(l:List By):LL:=l.map λs=>[SV.str s]
def Br8(l:List Nat):LL:=l.map λn=>[SV.int .u16 (Int.ofNat n)]
def I5(c:UInt8):By->By->List By
 | a,[]=>[a]
 | a,b::r=>if b=c then a::I5 c [] r else I5 c (a++[b]) r
def pcs(c:UInt8)(s:By):List By:=I5 c [] s
theorem Dx(c:UInt8):∀(s a:By),(I5 c a s).length=s.count c+1
 | [],a=>rfl
 | b::r,a=>by
  simp only[I5,af7];by_cases h:b=c
  ·simp[h,Dx c r]
  ·simp[h,Dx c r]
theorem Bx(c:UInt8):∀(s a:By),c∉s->I5 c a s=[a++s]
 | [],a,_=>by simp[I5]
 | b::r,a,h=>by
  simp only[u4,not_or] at h;simp only[I5];rw[if_neg (λe=>h.1 e.symm),Bx c r _ h.2];simp
theorem Rz(c:UInt8):∀(p a s:By),c∉p->I5 c a (p++c::s)=(a++p)::I5 c [] s
 | [],a,s,_=>by simp[I5]
 | b::r,a,s,h=>by
  simp only[u4,not_or] at h;simp only[ac1,I5];rw[if_neg (λe=>h.1 e.symm),Rz c r _ s h.2];simp
theorem TV(c:UInt8)(s a:By):I5 c a s≠[]:=by intro h;have:=Dx c s a;rw[h] at this;simp at this
theorem Il(c:UInt8):∀(s a:By),c∉a->∀x∈I5 c a s,c∉x/\x.length<=a.length+s.length
 | [],a,h,x,d=>by
  simp only[I5,List.mem_singleton] at d;subst d;exact⟨h,by simp⟩
 | b::r,a,h,x,d=>by
  simp only[I5] at d;split at d
  ·rcases u4.1 d with rfl|d
   ·exact⟨h,by simp⟩
   ·have:=Il c r [] (by simp) x d;refine⟨this.1,?_⟩;have:=this.2;simp at this ⊢;omega
  ·rename_i e;have:=Il c r (a++[b]) (by simp[h,Ne.symm e]) x d;refine⟨this.1,?_⟩;have:=this.2;simp at this ⊢;omega
def Gd(b:UInt8):UInt8:=if 65<=b/\b<=90 then b+32 else b
def G8(s:By):By:=s.map Gd
def dig(b:UInt8):Nat:=
 if 48<=b.toNat/\b.toNat<=57 then b.toNat-48 else if 97<=b.toNat/\b.toNat<=102 then b.toNat-87 else if 65<=b.toNat/\b.toNat<=70 then b.toNat-55 else 99
def Jx:Nat:=1099511627776
def F1(base:Nat):Nat->By->Option Nat
 | n,[]=>some n
 | n,b::r=>if dig b<base then F1 base (min (n*base+dig b) Jx) r else none
def W6(s:By):Bool:=s.getD 0 0==48&&(s.getD 1 0==120||s.getD 1 0==88)
def Cu(s:By):Option Nat:=
 if s=[] then none else if W6 s then F1 16 0 (s.drop 2) else if 1<s.length/\s.getD 0 0=48 then F1 8 0 (s.drop 1) else F1 10 0 s
def F8(s:By):List By:=if 1<(pcs 46 s).length/\(pcs 46 s).getLastD []=[] then (pcs 46 s).dropLast else pcs 46 s
def Fa(s:By):By:=(F8 s).getLastD []
def R1(s:By):Bool:=if W6 (Fa s) then (F1 16 0 ((Fa s).drop 2)).isSome else !(Fa s).isEmpty&&(F1 10 0 (Fa s)).isSome
def Br7(free:Nat):Nat->List By->Option Nat
 | _,[]=>none
 | v,p::r=>match Cu p with
  | none=>none
  | some n=>match r with
   | []=>if n<2 ^ free then some (v*2 ^ free+n) else none
   | r=>if n<=255 then Br7 free (v*256+n) r else none
def oct(s:By):Option Nat:=match F1 10 0 s with
 | some n=>if n<=255/\ae4 n=s then some n else none
 | none=>none
def Bn7:Nat->List By->Option Nat
 | v,[]=>some v
 | v,p::r=>match oct p with
  | some n=>Bn7 (v*256+n) r
  | none=>none
def v4B(s:By):Option Nat:=if (pcs 46 s).length=4 then Bn7 0 (pcs 46 s) else none
def Bc3:Nat->By->Option Nat
 | n,[]=>some n
 | n,b::r=>if dig b<16 then Bc3 (n*16+dig b) r else none
def grp(s:By):Option Nat:=if s=[]\/4<s.length then none else Bc3 0 s
def Bn0(last:Bool):List By->Option (List Nat)
 | []=>some []
 | x::r=>match grp x with
  | some v=>(Bn0 last r).map (v::·)
  | none=>match v4B x with
   | some v=>if last=true/\r=[] then some [v / 65536,v % 65536] else none
   | none=>none
def Bc4(s:By)(last:Bool):Option (List Nat):=if s=[] then some [] else Bn0 last (pcs 58 s)
def Bn1(n:Nat):UInt8:=if n<10 then u0 (48+n) else u0 (87+n)
def Bf2(v:Nat):By:=if h:v<16 then [Bn1 v] else Bf2 (v / 16)++[Bn1 (v % 16)]
 termination_by v
 decreasing_by omega
def Bn4(l:List Nat):By:=ai1 (l.map Bf2) [58]
def Ba(n:Nat):Bool:=u5 n 1114111&&(ah5 n 55296||ah5 57343 n)
def Pd(d k:Nat):Nat:=if h:455<d then Pd (d / 35) (k+36) else k+36*d / (d+38)
 termination_by d
 decreasing_by omega
def M0(delta count:Nat)(first:Bool):Nat:=
 let d:=if first then delta / 700 else delta / 2
 Pd (d+d / count) 0
def thr(k a:Nat):Nat:=max 1 (min 26 (36*(k+1)-a))
theorem P9(k a:Nat):1<=thr k a/\thr k a<=26:=by unfold thr;omega
def T4(d:Nat):UInt8:=if d<26 then u0 (97+d) else u0 (22+d)
def Hg(b:UInt8):Option Nat:=
 if 97<=b.toNat/\b.toNat<=122 then some (b.toNat-97) else if 65<=b.toNat/\b.toNat<=90 then some (b.toNat-65) else if 48<=b.toNat/\b.toNat<=57 then some (b.toNat-22) else none
def L3(q k a:Nat):By:=
 if h:q<thr k a then [T4 q] else T4 (thr k a+(q-thr k a) % (36-thr k a))::L3 ((q-thr k a) / (36-thr k a)) (k+1) a
 termination_by q
 decreasing_by
  have:=P9 k a;exact Nat.lt_of_le_of_lt (Nat.div_le_self _ _) (by omega)
structure BZ where
 delta:Nat
 bias:Nat
 done:Nat
 out:By
def F7(n a:Nat):List Nat->BZ->BZ
 | [],s=>s
 | p::r,s=>if p<n then F7 n a r { s with delta:=s.delta+1 }
  else if p=n then F7 n a r { delta:=0,bias:=M0 s.delta (s.done+1) (s.done==a),done:=s.done+1,out:=s.out++L3 s.delta 0 s.bias }
  else F7 n a r s
def F6(n:Nat):List Nat->Nat->Nat
 | [],m=>m
 | p::r,m=>F6 n r (if n<=p then min m p else m)
def M6(b:List Nat)(a:Nat):Nat->Nat->BZ->BZ
 | 0,_,s=>s
 | f+1,n,s=>if s.done<b.length then
   let m:=F6 n b 1114112;let c:=F7 m a b { s with delta:=s.delta+(m-n)*(s.done+1) }
   M6 b a f (m+1) { c with delta:=c.delta+1 }
  else s
def G0(a:List Nat):By:=(a.filter (· < 128)).map u0
def Bl(a:List Nat):By × Nat:=
 if 256<a.length then ([],3) else if !(a.all Ba) then ([],2)
 else ((M6 a (G0 a).length 256 128 { delta:=0,bias:=72,done:=(G0 a).length,out:=if (G0 a).isEmpty then [] else G0 a++[45] }).out,0)
def C8(a:Nat):By->Nat->Nat->Nat->Nat × By × Nat
 | [],i,w,k=>(0,[],4)
 | b::r,i,w,k=>match Hg b with
  | none=>(0,[],4)
  | some x=>if Jx<i+x*w then (0,[],19) else if x<thr k a then (i+x*w,r,0)
   else if Jx<w*(36-thr k a) then (0,[],19) else C8 a r (i+x*w) (w*(36-thr k a)) (k+1)
theorem Iy(a:Nat):∀(s:By) (i w k:Nat),(C8 a s i w k).2.2=0->(C8 a s i w k).2.1.length<s.length
 | [],i,w,k,h=>by simp[C8] at h
 | b::r,i,w,k,h=>by
  unfold C8 at h ⊢;cases d:Hg b with
  | none=>simp[d] at h
  | some x=>
   simp only[d] at h ⊢;split at h
   ·simp at h
   ·rename_i e;rw[if_neg e];split at h
    ·rename_i c;rw[if_pos c];simp
    ·rename_i c;rw[if_neg c];split at h
     ·simp at h
     ·rename_i f;rw[if_neg f];have:=Iy a r _ _ _ h;simp only[af1];omega
def P4(l:List Nat)(i n:Nat):List Nat:=l.take i++n::l.drop i
def F5(s:By)(b:List Nat)(n i a:Nat)(first:Bool):List Nat × Nat:=
 if e:s=[] then (b,0) else
  let q:=C8 a s i 1 0
  if d:q.2.2=0 then
   let count:=b.length+1;let c:=n+q.1 / count
   if Ba c then (if 256<count then ([],3) else F5 q.2.1 (P4 b (q.1 % count) c) c (q.1 % count+1) (M0 (q.1-i) count first) false)
   else ([],2)
  else ([],q.2.2)
 termination_by s.length
 decreasing_by exact Iy a s i 1 0 d
def E6:By->Nat
 | []=>0
 | b::r=>if 45∈r then E6 r+1 else 0
def J9(s:By):List Nat × Nat:=
 if 1024<s.length then ([],3) else if s.any (λb=>u5 128 b.toNat) then ([],4)
 else if 256<E6 s then ([],3)
 else F5 (if E6 s=0 then s else s.drop (E6 s+1)) ((s.take (E6 s)).map (·.toNat)) 128 0 72 true
def Bf:Nat->By->Option (List Nat)
 | 0,_=>some []
 | f+1,l=>if l=[] then some [] else if (ad2 l).1=65533/\(ad2 l).2=1 then none else (Bf f (l.drop (ad2 l).2)).map ((ad2 l).1::·)
def Sm(s:By):Option (List Nat):=Bf s.length s
def Ae(s:By):Bool:=
 (J9 s).2==0&&!((J9 s).1.any λp=>u5 65 p&&u5 p 90)&&((J9 s).1.any λp=>u5 128 p)&&(Bl (J9 s).1).2==0&&(Bl (J9 s).1).1==s
def S6(b:UInt8):Bool:=(u5 97 b.toNat&&u5 b.toNat 122)||(u5 48 b.toNat&&u5 b.toNat 57)||b==45||b==95
def xnB:By:=[120,110,45,45]
def N5(s:By):Bool:=
 !s.isEmpty&&u5 s.length 63&&s.getD 0 0 !=45&&s.getD (s.length-1) 0 !=45&&s.all S6&&(!(xnB.isPrefixOf s)||Ae (s.drop 4))
def Ip(s:By):By × Nat:=match Sm s with
 | none=>([],4)
 | some p=>if 256<p.length then ([],3)
  else if p.length<s.length then (match Sm (G8 s) with
   | none=>([],14)
   | some q=>if (Bl q).2=0 then (if N5 (xnB++(Bl q).1) then (xnB++(Bl q).1,0) else ([],14)) else ([],14))
  else if N5 (G8 s) then (G8 s,0) else ([],14)
def El:By->Option By
 | []=>some []
 | b::r=>if b=37 then (match r with
   | x::y::a=>if dig x<16/\dig y<16 then (El a).map (u0 (16*dig x+dig y)::·) else none
   | _=>none)
  else (El r).map (b::·)
def Bc(s:By):Bool:=u5 s.length 253&&!(R1 s)&&(pcs 46 s).all N5
def A3(n:Nat):Bool:=decide (n<=1000000000)
theorem BK{n:Nat}:A3 n=true↔n<=1000000000:=by simp[A3]
def isS:List SV->Bool|[.str _]=>true|_=>false
def elS(a:List SV):By:=(a.getD 0 .nilp).gS
def Ln(o:Option Nat):Nat:=o.getD 0
def u8n(c:Int):UInt8:=u0 c.toNat
def Ac6(s p:By):By:=if p.isSuffixOf s then s.take (s.length-p.length) else s
def Vh(s p:By):By:=if p.isPrefixOf s then s.drop p.length else s
def ltN(v:Int)(n:Nat):Bool:=match v with
 | .ofNat m=>u5 (m+1) n
 | .negSucc _=>false
theorem K7{v:Int}{n:Nat}:ltN v n=true↔0<=v/\v<(n:Int):=by
 cases v with
 | ofNat m=>
  simp only[ltN,Nat.ble_eq,Int.ofNat_eq_natCast];omega
 | negSucc m=>
  refine⟨λh=>(by cases h),λh=>?_⟩;have:=Int.negSucc_lt_zero m;omega
def Bf7(n:Int):Bool:=ltN (n+9223372036854775808) 18446744073709551616
theorem Ak3{n:Int}:Bf7 n=true↔-9223372036854775808<=n/\n<9223372036854775808:=by unfold Bf7;rw[K7];constructor<;>rintro⟨a,b⟩<;>constructor<;>omega
def A91(b:Nat):List PV->Tr
 | [.s (.int .i64 n)]=>.need (ltN n b) (.ret (.s (.str (ae4 (j2 n)))) [])
 | _=>.fail
def gvs(s:By)(last:Bool):List Nat:=(Bc4 s last).getD []
def Bn3:List SV->Bool|[.int .u16 n]=>ltN n 65536|_=>false
def elN(a:List SV):Nat:=(a.getD 0 .nilp).gI.toNat
def ptI(n:Int):Bool:=match n with | .ofNat m=>Ba m | .negSucc _=>false
def C9(b:UInt8):Int:=match Hg b with|some n=>n|none=>-1
def I6(k b:Int):Int:=max 1 (min 26 (k+36-b))
def Hz:List SV->Bool|[.int .i64 _]=>true|_=>false
def elI(a:List SV):Int:=(a.getD 0 .nilp).gI
def Q7(l:List Int):By × Nat:=if 256<l.length then ([],3) else if l.all ptI then Bl (l.map j2) else ([],2)
def O4(b:Int):By->Int->Int->Int->Int × By × Int
 | [],i,w,k=>(4,[],i)
 | c::r,i,w,k=>if C9 c<0 then (4,c::r,i) else if 1099511627776<i+C9 c*w then (19,r,i+C9 c*w)
  else if C9 c<I6 k b then (0,r,i+C9 c*w) else if 1099511627776<w*(36-I6 k b) then (19,r,i+C9 c*w)
  else O4 b r (i+C9 c*w) (w*(36-I6 k b)) (k+36)
def Wr(b:Int)(s:By)(i:Int):Int:=(O4 b s i 1 0).1
def Ws(b:Int)(s:By)(i:Int):By:=(O4 b s i 1 0).2.1
def Lm(b:Int)(s:By)(i:Int):Int:=(O4 b s i 1 0).2.2
def Ga(l:List (List SV))(i:Nat)(n:Int):List (List SV):=l.take i++[SV.int .i64 n]::l.drop i
structure DS where
 rest:By
 n:Int
 i:Int
 b:Int
 st:Bool
 l:List (List SV)
def D6(s:DS):Int × DS:=
 if Wr s.b s.rest s.i=0 then
  let c:Int:=s.l.length+1;let x:=Lm s.b s.rest s.i;let d:DS:={ rest:=Ws s.b s.rest s.i,n:=s.n+ab9 x c,i:=Int.tmod x c,b:=M0 (x-s.i).toNat c.toNat (!s.st),st:=true,l:=s.l }
  if ptI d.n then (if 256<c then (3,d) else (0,{ d with i:=d.i+1,l:=Ga s.l d.i.toNat d.n })) else (2,d)
 else (Wr s.b s.rest s.i,{ s with rest:=Ws s.b s.rest s.i,i:=Lm s.b s.rest s.i })
def L6(c:UInt8):By->Int
 | []=>-1
 | b::r=>if L6 c r<0 then (if b=c then 0 else -1) else L6 c r+1
def Sl(l:List Nat):List (List SV):=l.map λx:Nat=>[SV.int .i64 (x:Int)]
def Ps(b:UInt8):Int:=if dig b<16 then dig b else -1
def Bh0(s:By):By:=(El s).getD []
attribute [simp] D0 E4 G7 A64 A63 A62 Aq9 R4 M4 E9
attribute [simp] vl
@[simp] theorem L5{n:Nat}(h:n<=1000000000):A3 n=true:=BK.2 h
@[simp] theorem WG{v:Int}{n:Nat}(h:0<=v)(a:v<n):ltN v n=true:=K7.2 ⟨h,a⟩
theorem A42{n:Nat}(h:n<=1000000000:=by omega):A3 n=true:=L5 h
theorem L7{v:Int}{n:Nat}(h:0<=v:=by omega)(g:v<n:=by omega):ltN v n=true:=WG h g
@[simp] theorem Au2{m n:Nat}(h:m+n<4611686018427387904):VQ m n=true:=by simp[VQ,h]
abbrev rv(v:PV)(H:List Blk):Option (PV × List Blk × Unit):=some (v,H,())
theorem N6{n:Nat}(h:A3 n=true):n<=1000000000:=BK.1 h
theorem J0(s:By)(i:Nat)(h:i<s.length):s.drop i=s.getD i 0::s.drop (i+1):=by rw[j5,a7 h,Option.getD_some,List.getElem_cons_drop]
theorem BO(s:By)(i:Nat)(h:i<s.length):s.take (i+1)=s.take i++[s.getD i 0]:=by rw[List.take_add_one,j5,a7 h];rfl
theorem PZ(s:By)(i:Nat)(h:i<s.length):(G8 (s.take (i+1))).map D7=(G8 (s.take i)).map D7++[D7 (Gd (s.getD i 0))]:=by unfold G8;rw[BO s i h,aa6,aa6];rfl
theorem Lk(b:UInt8):(b.toNat<65/\Gd b=b)\/(90<b.toNat/\Gd b=b)\/(65<=b.toNat/\b.toNat<=90/\((Gd b).toNat=b.toNat+32)):=by
 unfold Gd;by_cases a:b.toNat<65
 ·refine .inl ⟨a,if_neg ?_⟩;intro h;have:=y9.1 h.1;simp at this;omega
 ·by_cases c:90<b.toNat
  ·refine .inr (.inl ⟨c,if_neg ?_⟩);intro h;have:=y9.1 h.2;simp at this;omega
  ·refine .inr (.inr ⟨by omega,by omega,?_⟩);rw[if_pos (by constructor<;>(rw[y9];simp;omega)),UInt8.toNat_add];simp;omega
@[simp] theorem J1(s:By)(i:Nat):bAt s (i:Int)=((s.getD i 0).toNat:Int):=by simp[bAt]
@[simp] theorem Hp(s:By):bAt s 0=((s.getD 0 0).toNat:Int):=by simp[bAt]
@[simp] theorem VI(s:By):bAt s 1=((s.getD 1 0).toNat:Int):=by simp[bAt]
theorem Mj{c:Type}(s:List c)(a b:Nat):cut s (a:Int) (b:Int)=(s.take b).drop a:=by simp[cut]
@[simp] theorem N7{b:Type}(s:List b)(a:Int):cut s a (s.length:Int)=s.drop a.toNat:=by simp[cut]
@[simp] theorem Al{a:Type}(s:List a)(b:Int):cut s 0 b=s.take b.toNat:=by simp[cut]
@[simp] theorem N2(l:List By):(H5 l).length=l.length:=by simp[H5]
@[simp] theorem Fz(l:List By)(i:Nat):gX (H5 l) i 0=l.getD i []:=by
 unfold gX gC H5;by_cases h:i<l.length
 ·simp[j5,a7 h,SV.gS]
 ·simp[j5,p6 (show l.length<=i by omega),SV.gS]
@[simp] theorem Cw{l:List By}{i:Nat}(h:i<l.length):okE Jy (H5 l) i 0=true:=by unfold okE H5;simp[j5,a7 h,h,Jy,okS,SV.has]
theorem Xv(a b:List By):H5 (a++b)=H5 a++H5 b:=by simp[H5]
theorem Od(b:UInt8):u8n (b.toNat:Int)=b:=by simp[u8n]
theorem UF(b:UInt8):inR (b.toNat:Int) 256=true:=by have:=b.toNat_lt;exact K2
theorem Bc9{a b:UInt8}:((a.toNat:Int)==(b.toNat:Int))=(a==b):=by
 rw[ac7];simp only[beq_iff_eq];constructor
 ·intro h;exact UInt8.toNat_inj.1 (by omega)
 ·intro h;rw[h]
theorem T3(a:UInt8)(n:Nat)(h:n<256):((a.toNat:Int)==(n:Int))=(a==u0 n):=by rw[<-Bc9];simp[w8 h]
theorem Gy(p s:By):p.isPrefixOf s=(decide (p.length<=s.length)&&(s.take p.length==p)):=by
 rw[ac7];simp only[v8,j4,decide_eq_true_eq,beq_iff_eq];constructor
 ·intro h;exact⟨h.length_le,(ac3.1 h).symm⟩
 ·rintro⟨_,h⟩;exact ac3.2 h.symm
theorem Gz(p s:By):p.isSuffixOf s=(decide (p.length<=s.length)&&(s.drop (s.length-p.length)==p)):=by
 rw[ac7];simp only[List.isSuffixOf_iff_suffix,j4,decide_eq_true_eq,beq_iff_eq];constructor
 ·intro h;exact⟨h.length_le,(ac4.1 h).symm⟩
 ·rintro⟨_,h⟩;exact ac4.2 h.symm
end
section
open Go Go.ChangeAt Go.ChangeShapes Go.Proofs Go.RowKit Go.WideShapes
set_option maxRecDepth 100000
theorem own:ownKnob j0.godebug=none:=by kernel_rfl
theorem Ax2:laidOutB j0=true:=by kernel_rfl
noncomputable def gTy(g:Nat):Nat:=match j0.globals[g]? with|some x=>x.type|none=>0
noncomputable def dbT:Nat:=gTy 5
noncomputable def A11:Nat:=gTy 3
noncomputable def EB:Nat:=gTy 2
noncomputable def Av7:Nat:=gTy 1
noncomputable def EA:Nat:=match j0.underlying EB with|some (.array _ e)=>e|_=>0
noncomputable def Pc:Array Field:=match j0.underlying EA with|some (.struct a)=>a|_=>#[]
noncomputable def Yz:Field:=match Pc.toList with|a::_=>a|_=>default
noncomputable def Za:Field:=match Pc.toList with|_::a::_=>a|_=>default
theorem Bd4:Pc[0]? = some Yz:=by unfold Yz Pc EA EB gTy;kernel_rfl
theorem Bd5:Pc[1]? = some Za:=by unfold Za Pc EA EB gTy;kernel_rfl
def Be:List (String × DataW Unit):=[("math/bits.deBruijn32tab", Rows.laid_math_bits_deBruijn32tab), ("math/bits.deBruijn64tab", Rows.laid_math_bits_deBruijn64tab), ("internal/strconv.uint64pow10", Rows.laid_internal_strconv_uint64pow10), ("unicode/utf8.acceptRanges", Rows.laid_unicode_utf8_acceptRanges), ("unicode/utf8.first", Rows.laid_unicode_utf8_first)]
theorem BT{W:World}{n:String}{g:Nat}{a:Array Value}(b:j0.globalNamed n=some g)(h:W.var? j0 n=some a):∃e x,W.heap[g]? = some (.cells a e x):=by
 unfold World.var? at h;rw[b,b9] at h;split at h
 ·rename_i c e x d;simp only[b8] at h;subst h;exact⟨e,x,d⟩
 ·cases h
theorem Qt{W:World}{n:String}{g t e m:Nat}{k:IntKind}{f:List Int}(l:j0.globalNamed n=some g)(d:(j0.globals[g]?).map (·.type)=some t)(w:j0.underlying t=some (.array m e))(v:j0.underlying e=some (.int k))(a:j0.cellsOf e=1)(c:j0.cellsOf t=m)
  (h:x9 j0 W n (x7 k f)):∃e x,W.heap[g]? = some (.cells (f.map λz=>aa0 k z).toArray e x):=by
 obtain⟨y,A,o,i,p,q,r,j,u⟩:=h;obtain rfl:=o7 (l.symm.trans q);obtain rfl:=o7 (d.symm.trans r);have b:=Lib.cells_of_tab w v a c u;have:o=(f.map λz=>aa0 k z).toArray:=by rw[<-b]
 rw[this] at j;exact BT l j
theorem Xy{H:Type}{enc:TypeId × Value->H}{P:Program}{w:World}{base:Nat}{sp:Nat->Bool}{held:Bool}{a:Nat}{t e:TypeId}{n:Nat}{b:List Value}{d:DataW H}{p:List MemPlace}(f:P.underlying t=some (.array n e))
  (h:x6 enc P w base sp held a t b=some (d,p)):b.length=P.cellsOf t:=by
 cases a with
 | zero=>simp[x6] at h
 | succ a=>
  simp only[x6,f] at h;split at h
  ·rename_i c;simpa using c
  ·cases h
theorem XK{W:World}(D : j0.globalNamed "unicode/utf8.acceptRanges" = some 2)(h:x9 j0 W "unicode/utf8.acceptRanges" ad1) :
  ∃e x,W.heap[2]? = some (.cells (Cj.map λz=>aa0 .u8 z).toArray e x):=by
 obtain⟨N,t,w,y,p,I,a,A,B⟩:=h;obtain rfl:=o7 (D.symm.trans I);have o:(j0.globals[2]?).map (·.type)=some EB:=by unfold EB;kernel_rfl
 obtain rfl:=o7 (o.symm.trans a);have G:j0.underlying EB=some (.array 16 EA):=by unfold EB EA;kernel_rfl
 have O:=Xy G B;have J:j0.cellsOf EB=32:=by unfold EB;kernel_rfl
 have b:j0.cellsOf EA=2:=by unfold EA;kernel_rfl
 have L:∃j,j0.underlying EA=some (.struct j)/\j.size=2/\∀(i:Nat) (f:Field),j[i]? = some f->j0.underlying f.type=some (.int .u8)/\f.offset=i/\j0.cellsOf f.type=1:=by
  refine⟨Pc,by unfold EA Pc;kernel_rfl,by unfold Pc;kernel_rfl,λi f n=>?_⟩;have:i<2:=by
   have:=(s7.1 n).1;rwa [show Pc.size=2 by unfold Pc;kernel_rfl] at this
  match i,this with
  | 0,_=>
   obtain rfl:=o7 (n.symm.trans (show Pc[0]? = some Yz from Bd4));exact⟨by unfold Yz;kernel_rfl,by unfold Yz;kernel_rfl,by unfold Yz;kernel_rfl⟩
  | 1,_=>
   obtain rfl:=o7 (n.symm.trans (show Pc[1]? = some Za from Bd5));exact⟨by unfold Za;kernel_rfl,by unfold Za;kernel_rfl,by unfold Za;kernel_rfl⟩
 obtain⟨j,r,u,v⟩:=L;have m:w.toList=Cj.map λz=>aa0 .u8 z:=by
  have F:(Cj.map λz=>aa0 .u8 z).length=32:=by rw[s8];rfl
  apply List.ext_getElem?;intro q;by_cases K:q<32
  ·obtain⟨l,d,P,c,C⟩:=Lib.array_elem G B (q / 2) (by omega);simp only[y7,ae1 (show q / 2<16 by omega),aa7,b8] at c;subst c;rw[b] at C;have M:=Lib.ints_of_struct r v (by rw[b,u]) C;have k:=congrArg (·[q % 2]?) M;simp only[List.getElem?_take,List.getElem?_drop] at k;rw[Kc,show q / 2*2+q % 2=q by omega] at k;rw[k];unfold Cj;have H:∀g:Nat->Value,(v7 g (ag4 32))[q]? = some (g q):=λg=>by
    rw[y7,ae1 K];rfl
   rw[ah4,H];rcases Nat.mod_two_eq_zero_or_one q with a|a
   ·simp[a]
   ·simp[a]
  ·rw[p6 (by omega),p6 (by omega)]
 have:w=(Cj.map λz=>aa0 .u8 z).toArray:=by rw[<-m]
 rw[this] at A;exact BT D A
theorem PC{C:Cfg}(r:C.G=GX){W:World}(b:laidMet j0 Be W)(p:W.ShapedOpen j0):GOK C (· < W.heap.size) W:=by
 have lt:∀{g:Nat} {o:Obj},W.heap[g]? = some o->g<W.heap.size:=λh=>(s7.1 h).1
 have I:x9 j0 W "math/bits.deBruijn64tab" (x7 .u8 (ab4.map λn:Nat=>(n:Int))):=y5 b (by rw [show (x7 .u8 (ab4.map λn:Nat=>(n:Int)):DataW Unit)=Rows.laid_math_bits_deBruijn64tab by kernel_rfl];simp [Be])
 have J:x9 j0 W "internal/strconv.uint64pow10" (x7 .u64 ae6):=y5 b (by rw [show (x7 .u64 ae6:DataW Unit)=Rows.laid_internal_strconv_uint64pow10 by kernel_rfl];simp [Be])
 have K:x9 j0 W "unicode/utf8.acceptRanges" ad1:=y5 b (by rw [show ad1=Rows.laid_unicode_utf8_acceptRanges by kernel_rfl];simp [Be])
 have L:x9 j0 W "unicode/utf8.first" (x7 .u8 ae5):=y5 b (by rw [show (x7 .u8 ae5:DataW Unit)=Rows.laid_unicode_utf8_first by kernel_rfl];simp [Be])
 have y:=Qt (g:=5) (t:=dbT) (e:=5) (m:=64) (by kernel_rfl) (by unfold dbT;kernel_rfl) (by unfold dbT;kernel_rfl) (by kernel_rfl) (by kernel_rfl) (by unfold dbT;kernel_rfl) I;have A:=Qt (g:=3) (t:=A11) (e:=192) (m:=20) (by kernel_rfl) (by unfold A11;kernel_rfl) (by unfold A11;kernel_rfl) (by kernel_rfl) (by kernel_rfl) (by unfold A11;kernel_rfl) J;have B:=XK (by kernel_rfl) K;have D:=Qt (g:=1) (t:=Av7) (e:=5) (m:=256) (by kernel_rfl) (by unfold Av7;kernel_rfl) (by unfold Av7;kernel_rfl) (by kernel_rfl) (by kernel_rfl) (by unfold Av7;kernel_rfl) L;have F:=cell_of_shapedOpen_int (k:=.i64) (g:=0) (t:=3) (zero:=#[.int .i64 0]) p (of_decide_eq_true (by kernel_rfl)) (by kernel_rfl) rfl (by kernel_rfl) (by kernel_rfl) (by kernel_rfl);refine⟨λg k w h=>?_,λg h=>?_⟩
 ·rw[r] at h;simp only[GX] at h;have key:∀{q:Nat} {v:IntKind} {a:List Int},(∃e x,W.heap[q]? = some (.cells (a.map λz=>aa0 v z).toArray e x))->g=q->(v,a)=(k,w)->g<W.heap.size/\∃e x,W.heap[g]? = some (.cells (w.map λz=>aa0 k z).toArray e x):=λc G H=>by
   subst G;cases H;obtain⟨e,x,c⟩:=c;exact⟨lt c,e,x,c⟩
  cases d:s9 g 1 with
  | true=>rw[d,cond_true] at h;exact key D (p7 d) (o7 h)
  | false=>
   rw[d,cond_false] at h;cases f:s9 g 2 with
   | true=>rw[f,cond_true] at h;exact key B (p7 f) (o7 h)
   | false=>
    rw[f,cond_false] at h;cases i:s9 g 3 with
    | true=>rw[i,cond_true] at h;exact key A (p7 i) (o7 h)
    | false=>
     rw[i,cond_false] at h;cases j:s9 g 5 with
     | true=>rw[j,cond_true] at h;exact key y (p7 j) (o7 h)
     | false=>rw[j,cond_false] at h;cases h
 ·rw[r] at h;have e:=p7 h;subst e;obtain⟨m,u⟩:=F;refine⟨?_,m,u⟩;apply ab2;intro l;simp[ai8,ac6 (ac5 l)] at u
theorem Qf(os:Os)(args:Array Value):((x5 j0 os Be).forCall (λ_ _=>0) ⟨#[],args,[]⟩).Shaped j0:=
 World.shaped_of_ZipB (by kernel_rfl) (by kernel_rfl)
theorem Yf(os:Os)(args:Array Value):laidMetH j0 Be ((x5 j0 os Be).forCall (λ_ _=>0) ⟨#[],args,[]⟩).memory:=by rw[ab3 _ _ _ (by kernel_rfl)];exact laidMet_laidAll _ (by kernel_rfl) (by kernel_rfl)
theorem PO{H:Type}{enc:TypeId × Value->H}{os:Os}(j:os.Started){C:Cfg}(u:C.P=j0)(r:C.G=GX)(hX:XOK C)(Z:Dh C){f tb:Nat}{fn:Func}{c:Code}{s:ChangeSpec}{g:List PathCond}{apart fresh handsOn again:Bool}(l:j0.inits.idxOf? f=none)(x:j0.funcs[f]? = some fn)(hb:fn.body=some c)(n:(fn.name == "runtime.NumGoroutine")=false)
  (I:∀t∈fn.params.toList,(j0.readableRec t=true/\t<j0.types.size)/\(Dz j0 20 t).isSome=true) (z:fn.resultTypes = #[tb]) (m:j0.underlying tb=some .bool) (q:s.vars=[])
  (p:∀ds:List (DataW H),ds.length=fn.params.toList.length->s.fn H ds = { results:=[.lit (.bool true)],args:=ds })
  (a:Array Value) (h:Nat) (o:Input.okWideB j0 ((x5 j0 os Be).forCall (λ_ _=>0) ⟨#[],a,[]⟩) f ⟨#[],a,[]⟩=true)
  (JC:s.preB enc j0 fn g apart ((x5 j0 os Be).forCall (λ_ _=>0) ⟨#[],a,[]⟩).memory a h=true)
  (K:s.sizedB enc j0 fn apart ((x5 j0 os Be).forCall (λ_ _=>0) ⟨#[],a,[]⟩).memory a h=true)
  (F:∀args,Fk j0 fn.params.toList args->∃d U,evC C d Unit noY f args [] ()=some (.s (.bool true),U,())) :
  ReturnsInHanded {} ae8 os f .any (λw args=>(s.pre enc j0 fn g apart w args/\laidMetH j0 Be w)/\sizedMet enc j0 fn (OpenSpec.ofChange s) apart w args) (s.post enc j0 fn apart fresh handsOn again):=by
 obtain⟨P,G,X,T,a0,lf,R,N,xp,M,O,Y,S,nt,a1⟩:=C;simp only at u r;subst u;refine returnsInHanded_of_calls (C:=ae8) own j l
  (ChangeSpec.witness_shaped (enc:=enc) (C:=ae8) (os:=os) (X:=λw _=>laidMetH j0 Be w) false (x5 j0 os Be) a h (World.laidAll_os _ _ _) (Qf os a) o JC K (Yf os a)) ?_
 intro w b i _ J _ o JC B;obtain⟨_,_,_,D,y,_,_,_,_,A⟩:=o;have e:D=fn:=o7 (y.symm.trans x);subst e;obtain⟨⟨⟨ds,V,k,hw,hc⟩,Q⟩,hz⟩:=JC;have L:=DataW.Whole.of_heap (w':=w.forCall b i) (by rfl) hw;have W:laidMet j0 Be (w.forCall b i):=by
  rw[ab3 _ _ _ (by kernel_rfl)] at Q;exact laidMet.of_heap (w':=w.forCall b i) (by rfl) Q
 refine(Ai6 (apart:=apart) (fresh:=fresh) (handsOn:=handsOn) (again:=again) hX Z follows Ax2 x hb n I z m q p F (w.forCall b i) (PC r W J) w.heap.size i.args ds V k A L).mono λe W' ⟨v,he,I⟩=>?_
 subst he;exact ChangeSpec.post_blind I
end
section
open Go Go.Proofs
set_option maxRecDepth 100000
section
def Km:List PV->Tr
 | [.s (.str s),.s (.str p),.s (.int .i64 v),.s (.int .i64 n)]=>.need (A3 (a8 s)) (.need ((a8 p)==1) (.need (v==(0:Int)) (.need (n==((-1):Int)) (.ret (.vw 0 0 (a8 (pcs (o9 p 0 0) s))) [.arr false 9 1 (H5 (pcs (o9 p 0 0) s))]))))
 | _=>.fail
def Ok(args:List PV):Tr:=Km (D8 [[0],[0],[0],[0]] args)
def Kq:List PV->Tr
 | [.s (.str s),.s (.str p)]=>.need (A3 (a8 s)) (.need ((a8 p)==1) (.ret (.vw 0 0 (a8 (pcs (o9 p 0 0) s))) [.arr false 9 1 (H5 (pcs (o9 p 0 0) s))]))
 | _=>.fail
def Yx(args:List PV):Tr:=Kq (D8 [[0],[0]] args)
def CN:List PV->Tr
 | [.s (.str s),.s (.str p)]=>.need (A3 (a8 s)) (.ret (.s (.bool (o6 p s))) [])
 | _=>.fail
def MQ(args:List PV):Tr:=CN (D8 [[0],[0]] args)
def CH:List PV->Tr
 | [.s (.str s),.s (.str p)]=>.need (A3 (a8 s)) (.ret (.s (.bool (o6 p s))) [])
 | _=>.fail
def CG(args:List PV):Tr:=CH (D8 [[0],[0]] args)
def CP:List PV->Tr
 | [.s (.str s),.s (.str p)]=>.need (A3 (a8 s)) (.ret (.s (.bool (af8 p s))) [])
 | _=>.fail
def Ae5(args:List PV):Tr:=CP (D8 [[0],[0]] args)
def Tp:List PV->Tr
 | [.s (.str s),.s (.str p)]=>.need (A3 (a8 s)) (.ret (.s (.str (Ac6 s p))) [])
 | _=>.fail
def UW(args:List PV):Tr:=Tp (D8 [[0],[0]] args)
def Uk:List PV->Tr
 | [.s (.str s),.s (.str p)]=>.need (A3 (a8 s)) (.ret (.s (.str (Ac6 s p))) [])
 | _=>.fail
def DZ(args:List PV):Tr:=Uk (D8 [[0],[0]] args)
def Tm:List PV->Tr
 | [.s (.str s),.s (.str p)]=>.need (A3 (a8 s)) (.ret (.tup [.s (.str (Vh s p)),.s (.bool (o6 p s))]) [])
 | _=>.fail
def UU(args:List PV):Tr:=Tm (D8 [[0],[0]] args)
def CA:List PV->Tr
 | [.s (.str s),.s (.str p)]=>.need (A3 (a8 s)) (.ret (.tup [.s (.str (Vh s p)),.s (.bool (o6 p s))]) [])
 | _=>.fail
def Ae0(args:List PV):Tr:=CA (D8 [[0],[0]] args)
def DR:List PV->Tr
 | [.s (.str s),.s (.str p)]=>.need (A3 (a8 s)) (.ret (.s (.int .i64 (ac0 s p))) [])
 | _=>.fail
def Uh(args:List PV):Tr:=DR (D8 [[0],[0]] args)
def DO:List PV->Tr
 | [.s (.str s),.s (.str p)]=>.need ((a8 p)==1) (.ret (.s (.int .i64 (↑(List.count (o9 p 0 0) s):Int))) [])
 | _=>.fail
def NB(args:List PV):Tr:=DO (D8 [[0],[0]] args)
def Tj:List PV->Tr
 | [.s (.str s),.s (.int .i64 n)]=>.fail
 | _=>.fail
def Es(args:List PV):Tr:=Tj (D8 [[0],[0]] args)
def Oj:List PV->Tr
 | [.s (.str s),.s (.str p),.s (.int .i64 v),.s (.int .i64 n)]=>.need (A3 (a8 s)) (.need ((a8 p)==1) (.need (v==(0:Int)) (.need (n==((-1):Int)) (.ret (.s (.sl false false 1 (H5 (pcs (o9 p 0 0) s)))) []))))
 | _=>.fail
def HN(args:List PV):Tr:=Oj (D8 [[0],[0],[0],[0]] args)
def Oz:List PV->Tr
 | [.s (.str s),.s (.str p)]=>.need (A3 (a8 s)) (.need ((a8 p)==1) (.ret (.s (.sl false false 1 (H5 (pcs (o9 p 0 0) s)))) []))
 | _=>.fail
def HQ(args:List PV):Tr:=Oz (D8 [[0],[0]] args)
def Bq8:List PV->Tr
 | [.s (.int .i64 n)]=>.need (ltN n 4294967296) (.ret (.s (.str (ae4 (j2 n)))) [])
 | _=>.fail
def CM:List PV->Tr
 | [.s (.str s)]=>.need (A3 (a8 s)) (.ret (.s (.str (G8 s))) [])
 | _=>.fail
def Om(args:List PV):Tr:=CM (D8 [[0]] args)
def CF:List PV->Tr
 | [.s (.str s)]=>.need (A3 (a8 s)) (.ret (.s (.bool (W6 s))) [])
 | _=>.fail
def MM(args:List PV):Tr:=CF (D8 [[0]] args)
def CB:List PV->Tr
 | [.s (.str s),.s (.int .i64 base)]=>.need (A3 (a8 s)) (.need (ltN base 17) (.ret (.tup [.s (.int .i64 (↑(Ln (F1 (j2 base) 0 s)):Int)),.s (.bool (o0 (F1 (j2 base) 0 s)))]) []))
 | _=>.fail
def ML(args:List PV):Tr:=CB (D8 [[0],[0]] args)
def MS:List PV->Tr
 | [.s (.str s)]=>.need (A3 (a8 s)) (.ret (.tup [.s (.int .i64 (↑(Ln (Cu s)):Int)),.s (.bool (o0 (Cu s)))]) [])
 | _=>.fail
def A97(args:List PV):Tr:=MS (D8 [[0]] args)
def Tt:List PV->Tr
 | [.s (.str s)]=>.need (A3 (a8 s)) (.ret (.s (.sl false false 1 (H5 (F8 s)))) [])
 | _=>.fail
def UX(args:List PV):Tr:=Tt (D8 [[0]] args)
def Kn:List PV->Tr
 | [.s (.str s)]=>.need (A3 (a8 s)) (.ret (.s (.bool (R1 s))) [])
 | _=>.fail
def It(args:List PV):Tr:=Kn (D8 [[0]] args)
def Ko:List PV->Tr
 | [.s (.str s)]=>.need (A3 (a8 s)) (.ret (.s (.bool ((not (u7 s))&&(o0 (F1 10 0 s))))) [])
 | _=>.fail
def Yw(args:List PV):Tr:=Ko (D8 [[0]] args)
def Oy:List PV->Tr
 | [.s (.str s),.s (.int .u8 c)]=>.need (A3 (a8 s)) (.need (inR c 256) (.ret (.s (.sl false false 1 (H5 (pcs (u8n c) s)))) []))
 | _=>.fail
def Mb(args:List PV):Tr:=Oy (D8 [[0],[0]] args)
def DF:List PV->Tr
 | [.s (.int .u8 b)]=>.need (inR b 256) (.ret (.s (.int .i64 (↑(dig (u8n b)):Int))) [])
 | _=>.fail
def Af1(args:List PV):Tr:=DF (D8 [[0]] args)
def DJ:List PV->Tr
 | [.s (.str s)]=>.need (A3 (a8 s)) (.ret (.tup [.s (.int .i64 (↑(Ln (Cu s)):Int)),.s (.bool (o0 (Cu s)))]) [])
 | _=>.fail
def Af5(args:List PV):Tr:=DJ (D8 [[0]] args)
def Ow:List PV->Tr
 | [.s (.str s)]=>.need (A3 (a8 s)) (.ret (.s (.sl false false 1 (H5 (F8 s)))) [])
 | _=>.fail
def HP(args:List PV):Tr:=Ow (D8 [[0]] args)
def Hm:List PV->Tr
 | [.s (.str s)]=>.need (A3 (a8 s)) (.ret (.s (.bool (R1 s))) [])
 | _=>.fail
def Ub(args:List PV):Tr:=Hm (D8 [[0]] args)
def Bl9:List PV->Tr
 | [.s (.str s),.s (.bool last)]=>.need (A3 (a8 s)) (.ret (.tup [.s (.sl (u7 (gvs s last)) (u7 (gvs s last)) 1 (Br8 (gvs s last))),.s (.bool (o0 (Bc4 s last)))]) [])
 | _=>.fail
def Bl8:List PV->Tr
 | [.s (.sl c a 0 ds),.s (.int .u64 v),.s (.int .i64 b),.s (.bool neg),.s (.bool app)]=>.need (ltN v 65536) (.need (b==(16:Int)) (.need (not neg) (.need (not app) (.ret (.tup [.s (.sl true true 1 List.nil),.s (.str (Bf2 (j2 v)))]) []))))
 | _=>.fail
def Ui:List PV->Tr
 | [.s (.sl b a 1 l),.s (.str p)]=>.need (ad3 l isS) (.need (A3 (a8 (ai1 (v7 elS l) p))) (.need (A3 (a8 l)) (.ret (.s (.str (ai1 (v7 elS l) p))) [])))
 | _=>.fail
def VG(args:List PV):Tr:=Ui (D8 [[1],[0]] args)
def DP:List PV->Tr
 | [.s (.str s),.s (.str p)]=>.need (A3 (a8 s)) (.ret (.tup [.s (.str ((Lib.cut s p)).1),.s (.str (((Lib.cut s p)).2).1),.s (.bool (((Lib.cut s p)).2).2)]) [])
 | _=>.fail
def NC(args:List PV):Tr:=DP (D8 [[0],[0]] args)
def Br2:List PV->Tr
 | [.s (.sl b a 1 l)]=>.need (ad3 l Bn3) (.need (u5 (a8 l) 8) (.ret (.s (.str (Bn4 (v7 elN l)))) []))
 | _=>.fail
def Oq:List PV->Tr
 | [.s (.int .i64 n)]=>.ret (.s (.bool (ptI n))) []
 | _=>.fail
def Hl(args:List PV):Tr:=Oq (D8 [[0]] args)
def Oo:List PV->Tr
 | [.s (.int .i64 d),.s (.int .i64 c),.s (.bool f)]=>.need (ltN d 1152921504606846976) (.need (ltN c 1000000) (.need (ltI (0:Int) c) (.ret (.s (.int .i64 (↑(M0 (j2 d) (j2 c) f):Int))) [])))
 | _=>.fail
def Hk(args:List PV):Tr:=Oo (D8 [[0],[0],[0]] args)
def CZ:List PV->Tr
 | [.s (.int .i64 d)]=>.need (ltN d 36) (.ret (.s (.int .u8 (↑(ai7 (T4 (j2 d))):Int))) [])
 | _=>.fail
def MT(args:List PV):Tr:=CZ (D8 [[0]] args)
def DE:List PV->Tr
 | [.s (.int .u8 b)]=>.need (inR b 256) (.ret (.s (.int .i64 (C9 (u8n b)))) [])
 | _=>.fail
def MY(args:List PV):Tr:=DE (D8 [[0]] args)
def DD:List PV->Tr
 | [.s (.int .i64 b)]=>.ret (.fnr (Fn.func 175) [] [.ptr 1 0 0,.ptr 0 0 0]) [.box [.s (.int .i64 b)],.box [.s (.int .i64 (0:Int))]]
 | _=>.fail
def Tu(args:List PV):Tr:=DD (D8 [[0]] args)
def Iu:List PV->List Blk->Tr
 | [.ptr 0 0 0,.ptr 1 0 0],[.box [.s (.int .i64 k)],.box [.s (.int .i64 b)]]=>.need (ltN k 1000000000000) (.need (ltN b 1000000) (.ret (.s (.int .i64 (I6 k b))) [.box [.s (.int .i64 (Int.add k (36:Int)))],.box [.s (.int .i64 b)]]))
 | _,_=>.fail
def CW:List PV->List Blk->Tr
 | [.fl 0,.s (.int .i64 q),.s (.int .i64 b)],[.arr z 5 1 l]=>.need (ltN q 1152921504606846976) (.need (ltN b 1000000) (.need (u5 (a8 l) 100000) (.ret (.fl 0) [.arr z 5 1 (List.append l (v7 D7 (L3 (j2 q) 0 (j2 b))))])))
 | _,_=>.fail
def DA:List PV->Tr
 | [.s (.sl b a 1 p)]=>.need (ad3 p Hz) (.ret (.tup [.s (.str ((Q7 (v7 elI p))).1),.s (.int .i64 (↑((Q7 (v7 elI p))).2:Int))]) [])
 | _=>.fail
def MU(args:List PV):Tr:=DA (D8 [[1]] args)
def DT:List PV->List Blk->Tr
 | [.fl 0,.s (.int .i64 i),.fl 1],[.arr z 3 1 l,.arr false 3 1 [[.int .i64 n]]]=>.need (ltN i (Nat.add (a8 l) 1)) (.need (u5 (a8 l) 100000) (.ret (.fl 0) [.arr z 3 1 (Ga l (j2 i) n),.arr false 3 1 [[.int .i64 n]]]))
 | _,_=>.fail
def CC:List PV->List Blk->Tr
 | [.ptr 0 0 0],[.box [.s (.str a),.fl 1,.s (.int .i64 n),.s (.int .i64 i),.s (.int .i64 b),.s (.bool c)],.arr z 3 1 l]=>.need (A3 (a8 a)) (.need (ltN b 1000000) (.need (ltN i 1099511627777) (.ret (.s (.int .i64 (Wr b a i))) [.box [.s (.str (Ws b a i)),.fl 1,.s (.int .i64 n),.s (.int .i64 (Lm b a i)),.s (.int .i64 b),.s (.bool c)],.arr z 3 1 l])))
 | _,_=>.fail
def Sp:List PV->List Blk->Tr
 | [.ptr 0 0 0],[.box [.s (.str a),.fl 1,.s (.int .i64 n),.s (.int .i64 i),.s (.int .i64 b),.s (.bool c)],.arr z 3 1 l]=>.need (A3 (a8 a)) (.need (ltN b 1000000) (.need (ltN i 1099511627777) (.need (ltN n 1152921504606846976) (.need (u5 (a8 l) 100000) (.ret (.s (.int .i64 ((D6 (DS.mk a n i b c l))).1)) [.box [.s (.str (DS.rest ((D6 (DS.mk a n i b c l))).2)),.fl 1,.s (.int .i64 (DS.n ((D6 (DS.mk a n i b c l))).2)),.s (.int .i64 (DS.i ((D6 (DS.mk a n i b c l))).2)),.s (.int .i64 (DS.b ((D6 (DS.mk a n i b c l))).2)),.s (.bool (DS.st ((D6 (DS.mk a n i b c l))).2))],.arr z 3 1 (DS.l ((D6 (DS.mk a n i b c l))).2)])))))
 | _,_=>.fail
def Ol:List PV->Tr
 | [.s (.str s),.s (.int .u8 c)]=>.need (A3 (a8 s)) (.need (inR c 256) (.ret (.s (.int .i64 (L6 (u8n c) s))) []))
 | _=>.fail
def HO(args:List PV):Tr:=Ol (D8 [[0],[0]] args)
def Tl:List PV->Tr
 | [.s (.str s),.s (.int .u8 c)]=>.need (A3 (a8 s)) (.need (inR c 256) (.ret (.s (.int .i64 (L6 (u8n c) s))) []))
 | _=>.fail
def Lz(args:List PV):Tr:=Tl (D8 [[0],[0]] args)
def CY:List PV->Tr
 | [.s (.str s)]=>.need (A3 (a8 s)) (.ret (.tup [.s (.sl (u7 ((J9 s)).1) (u7 ((J9 s)).1) 1 (Sl ((J9 s)).1)),.s (.int .i64 (↑((J9 s)).2:Int))]) [])
 | _=>.fail
def Af0(args:List PV):Tr:=CY (D8 [[0]] args)
def HM:List PV->Tr
 | [.s (.str t)]=>.fail
 | _=>.fail
def Ly(args:List PV):Tr:=HM (D8 [[0]] args)
def To:List PV->Tr
 | [.s (.str t),.s (.str p),.s (.int .i64 n)]=>.ret (.fnr (Fn.func 113) [] [.ptr 1 0 0,.ptr 0 0 0,.ptr 2 0 0]) [.box [.s (.str t)],.box [.s (.str p)],.box [.s (.int .i64 n)]]
 | _=>.fail
def CO(args:List PV):Tr:=To (D8 [[0],[0],[0]] args)
def DU:List PV->Tr
 | [.s (.str t),.s (.str p)]=>.ret (.fnr (Fn.func 113) [] [.ptr 1 0 0,.ptr 0 0 0,.ptr 2 0 0]) [.box [.s (.str t)],.box [.s (.str p)],.box [.s (.int .i64 (0:Int))]]
 | _=>.fail
def NE(args:List PV):Tr:=DU (D8 [[0],[0]] args)
def Sq:List PV->List Blk->Option (Bool × List (List PV))
 | [.yd,.ptr 0 0 0,.ptr 1 0 0,.ptr 2 0 0],[.box [.s (.str p)],.box [.s (.str t)],.box [.s (.int .i64 n)]]=>some (((A3 (a8 t))&&(((a8 p)==1)&&(n==(0:Int)))),v7 (λ(x:By)=>([.s (.str x)]:List PV)) (pcs (o9 p 0 0) t))
 | _,_=>none
def Ox:List PV->Tr
 | [.s (.int .i64 n)]=>.ret (.s (.bool (ptI n))) []
 | _=>.fail
def Uf(args:List PV):Tr:=Ox (D8 [[0]] args)
def Ot:List PV->Tr
 | [.s (.int .i64 d),.s (.int .i64 c),.s (.bool f)]=>.need (ltN d 1152921504606846976) (.need (ltN c 1000000) (.need (ltI (0:Int) c) (.ret (.s (.int .i64 (↑(M0 (j2 d) (j2 c) f):Int))) [])))
 | _=>.fail
def Tv(args:List PV):Tr:=Ot (D8 [[0],[0],[0]] args)
def DL:List PV->Tr
 | [.s (.int .i64 k),.s (.int .i64 b)]=>.need (ltN k 10000000000) (.need (ltN b 1000000) (.ret (.s (.int .i64 (I6 (Int.mul (36:Int) k) b))) []))
 | _=>.fail
def MZ(args:List PV):Tr:=DL (D8 [[0],[0]] args)
def Tw:List PV->Tr
 | [.s (.int .i64 d)]=>.need (ltN d 36) (.ret (.s (.int .u8 (↑(ai7 (T4 (j2 d))):Int))) [])
 | _=>.fail
def UZ(args:List PV):Tr:=Tw (D8 [[0]] args)
def DM:List PV->Tr
 | [.s (.int .u8 b)]=>.need (inR b 256) (.ret (.s (.int .i64 (C9 (u8n b)))) [])
 | _=>.fail
def Af7(args:List PV):Tr:=DM (D8 [[0]] args)
def DG:List PV->Tr
 | [.s (.sl b a 1 p)]=>.need (ad3 p Hz) (.ret (.tup [.s (.str ((Q7 (v7 elI p))).1),.s (.int .i64 (↑((Q7 (v7 elI p))).2:Int))]) [])
 | _=>.fail
def Af2(args:List PV):Tr:=DG (D8 [[1]] args)
def Ud:List PV->Tr
 | [.s (.str s)]=>.need (A3 (a8 s)) (.ret (.tup [.s (.sl (u7 ((J9 s)).1) (u7 ((J9 s)).1) 1 (Sl ((J9 s)).1)),.s (.int .i64 (↑((J9 s)).2:Int))]) [])
 | _=>.fail
def VD(args:List PV):Tr:=Ud (D8 [[0]] args)
def Tn:List PV->Tr
 | [.s (.str s)]=>.need (A3 (a8 s)) (.ret (.s (.bool (Ae s))) [])
 | _=>.fail
def UV(args:List PV):Tr:=Tn (D8 [[0]] args)
def CS:List PV->Tr
 | [.s (.str s)]=>.need (A3 (a8 s)) (.ret (.s (.bool (N5 s))) [])
 | _=>.fail
def CQ(args:List PV):Tr:=CS (D8 [[0]] args)
def Pb:List PV->Tr
 | [.s (.str s)]=>.need (A3 (a8 s)) (.ret (.s (.bool (o0 (Sm s)))) [])
 | _=>.fail
def HT(args:List PV):Tr:=Pb (D8 [[0]] args)
def Pa:List PV->Tr
 | [.s (.str s)]=>.need (A3 (a8 s)) (.ret (.s (.int .i64 (↑(Lib.runeCountL s):Int))) [])
 | _=>.fail
def HS(args:List PV):Tr:=Pa (D8 [[0]] args)
def CL:List PV->Tr
 | [.s (.str s)]=>.need (A3 (a8 s)) (.ret (.tup [.s (.str ((Ip s)).1),.s (.int .i64 (↑((Ip s)).2:Int))]) [])
 | _=>.fail
def Ae4(args:List PV):Tr:=CL (D8 [[0]] args)
def Ug:List PV->Tr
 | [.s (.str s)]=>.need (A3 (a8 s)) (.ret (.s (.bool (Ae s))) [])
 | _=>.fail
def VF(args:List PV):Tr:=Ug (D8 [[0]] args)
def Tz:List PV->Tr
 | [.s (.str s)]=>.need (A3 (a8 s)) (.ret (.s (.bool (N5 s))) [])
 | _=>.fail
def VB(args:List PV):Tr:=Tz (D8 [[0]] args)
def CE:List PV->Tr
 | [.s (.int .u8 b)]=>.need (inR b 256) (.ret (.s (.int .i64 (Ps (u8n b)))) [])
 | _=>.fail
def Ae2(args:List PV):Tr:=CE (D8 [[0]] args)
def CD:List PV->Tr
 | [.s (.str s)]=>.need (A3 (a8 s)) (.ret (.tup [.s (.str (Bh0 s)),.s (.bool (o0 (El s)))]) [])
 | _=>.fail
def Ae1(args:List PV):Tr:=CD (D8 [[0]] args)
def MN:List PV->Tr
 | [.s (.str s)]=>.need (A3 (a8 s)) (.ret (.s (.bool (Bc s))) [])
 | _=>.fail
def A94(args:List PV):Tr:=MN (D8 [[0]] args)
def DH:List PV->Tr
 | [.s (.str s)]=>.need (A3 (a8 s)) (.ret (.s (.bool (Bc s))) [])
 | _=>.fail
def Af3(args:List PV):Tr:=DH (D8 [[0]] args)
end
section
variable {W R : Type} (L : Nat) (Q : E2) (Y : Yh W) (s : W) (k : Out -> St W -> Option R)
noncomputable def VV{R:Type}(i:By)(v1 c g h:Int)(d:Bool)(e:By->Int->Int->Int->Option R)(f:Unit->Option R):Option R:=cond d (vl (wu8 ((wu8 (c-65))+10)) λa=>vl (bOr .u16 (Bh4 .u16 v1 (4:Int)) (Aq8 a)) λb=>e i b g h) (f ())
noncomputable def VW{R:Type}(o:By)(v1 a l m:Int)(r:Bool)(f:By->Int->Int->Int->Option R)(q:Unit->Option R):Option R:=cond r (vl (wu8 ((wu8 (a-97))+10)) λg=>vl (bOr .u16 (Bh4 .u16 v1 (4:Int)) (Aq8 g)) λh=>f o h l m) (cond (not (ltI a 65)) (VV o v1 a l m (not (ltI 70 a)) (λn p i j=>f n p i j) (λ_=>q ())) (VV o v1 a l m false (λd e b c=>f d e b c) (λ_=>q ())))
noncomputable def VX{R:Type}(p:By)(v1 a n o:Int)(r:Bool)(j:By->Int->Int->Int->Option R)(q:Unit->Option R):Option R:=cond r (vl (Aq8 (wu8 (a-48))) λl=>vl (bOr .u16 (Bh4 .u16 v1 (4:Int)) l) λm=>j p m n o) (cond (not (ltI a 97)) (VW p v1 a n o (not (ltI 102 a)) (λf h b c=>j f h b c) (λ_=>q ())) (VW p v1 a n o false (λg i d e=>j g i d e) (λ_=>q ())))
noncomputable def VY{R:Type}(L n:Nat)(b:By)(v1 q a:Int)(o:Unit->Option R)(p:Int->Option R):Option R:=match n with|0=>none|n+1=>cond (ltI a q) (cond (inR a b.length) (cond (not (ltI (bAt b a) (48:Int))) (VX b v1 (bAt b a) q a (not (ltI 57 (bAt b a))) (λi l c d=>vl (A2 (d+1)) λe=>VY L n i l c e o p) (λ_=>o ())) (VX b v1 (bAt b a) q a false (λj m f g=>vl (A2 (g+1)) λh=>VY L n j m f h o p) (λ_=>o ()))) none) (p v1)
noncomputable def Uv(L:Nat):Cfg:=C3 L [139] (A4 []) [] (A4 [(1,[2]),(0,[0])]) [] (A4 []) (some [2]) [] [] []
noncomputable def GE{R:Type}(L:Nat)(n0:Int)(a:Bool->Option R):Option R:=cond (not (ltI n0 0)) (cond (not (ltI 1114111 n0)) (cond (ltI n0 55296) (a true) (a (ltI 57343 n0))) (a false)) (a false)
theorem ZR(d:Nat)(n0):evC (Uv L) (d+1) W Y 139 [pI n0] [] s=GE L n0 (λa=>some (pB a,[],s)):=by refine(evE (fn:=Tryz.f139) (by kernel_rfl)).trans ?_;generalize evC (Uv L) d=Q;unfold GE;kernel_rfl
noncomputable abbrev Hq:Code:=F0 af3
noncomputable def Q5(L:Nat):Cfg:=C3 L [141] (A4 [(6,[0,5,0])]) [] (A4 [(9,[6]),(8,[0,6]),(7,[0,6]),(6,[0,6,11]),(5,[0,6]),(4,[0]),(2,[0,0]),(3,[0,0]),(1,[0,0,6]),(0,[0,0,0])]) [] (A4 [(0,[0,6]),(1,[0,6])]) (some [6]) [] [] []
noncomputable def Ce{R:Type}(L n:Nat)(a b:Int)(e:Int->Int->Option R):Option R:=match n with|0=>none|n+1=>cond (ltI 455 a) (vl (A2 (ab9 a (35:Int))) λc=>vl (A2 (b+36)) λd=>Ce L n c d e) (e a b)
theorem GC(n a b):E7 0 ((Q5 L).keep 6) (bd (Q5 L) Q Y (cd [1,1,1,1,0,0,0] Hq)) n ⟨gp [(0,pI a),(6,pI b)] 23,[],s⟩ k =
 Ce L n a b (λa b=>k (.exit 0) ⟨gp [(0,pI a),(6,pI b)] 23,[],s⟩):=by
 induction n generalizing a b with
 | zero=>rfl
 | succ n c=>rw[Ce];simp only[<-c];kernel_rfl
noncomputable def Cd{R:Type}(L:Nat)(c b:Int)(i:Int->Option R):Option R:=cond (b !=0) (vl (A2 (ab9 c b)) λh=>Ce L L (A2 (c+h)) 0 (λa e=>vl (A2 ((36:Int)*a)) λf=>vl (A2 (a+38)) λd=>cond (d !=0) (vl (A2 (ab9 f d)) λg=>i (A2 (e+g))) none)) none
abbrev Rq(b:Code):Prop:=∀(k:Out->St W->Option R) delta0 count1,B8 (Q5 L) Q Y b ⟨gp [(0,pI delta0),(0,pI count1)] 29,[],s⟩ k=Cd L delta0 count1 (λn0=>k .ret ⟨gp [(6,pI n0)] 24,[],s⟩)
theorem GB:Rq (R:=R) L Q Y s (cd [1,1] Hq):=by intro k a b;unfold Cd;exact(j7 (by kernel_rfl) (A1 (B5 λc=>((GC L Q Y s (I2 0 (I8 (Q5 L) Q Y (cd [1,1,1,1,1] Hq) k)) L (A2 (a+c)) 0).trans (by kernel_rfl))) rfl))
noncomputable def Wx{R:Type}(L:Nat)(b a:Int)(c:Bool)(h:Int->Option R):Option R:=cond c (vl (A2 (ab9 b (700:Int))) λf=>Cd L f a (λd=>h d)) (vl (A2 (ab9 b (2:Int))) λg=>Cd L g a (λe=>h e))
theorem ZI(e:Code)(a:Rq (R:=PV × List Blk × W) L Q Y s e)(c b:Int)(d:Bool):B8 (Q5 L) Q Y (cd [] (X3 [1,1] e Hq)) ⟨[pI c,pI b,pB d]++tps 28,[],s⟩ (J6 (Q5 L) af3)=Wx L c b d (λi=>some (pI i,[],s)):=by unfold Wx;exact let h:=(J6 (Q5 L) af3);(j7 (by kernel_rfl) (A1 (B5 λf=>((a h f b).trans (by kernel_rfl))) (B5 λg=>((a h g b).trans (by kernel_rfl)))))
theorem ZJ(d:Nat)(delta0 count1 first2):evC (Q5 L) (d+1) W Y 141 [pI delta0,pI count1,pB first2] [] s=Wx L delta0 count1 first2 (λa=>some (pI a,[],s)):=
 (evE (fn:=af3) (by kernel_rfl)).trans (j7 (by kernel_rfl) (ZI L (evC (Q5 L) d) Y s (cd [1,1] Hq) (GB L (evC (Q5 L) d) Y s) delta0 count1 first2))
noncomputable def NX(L:Nat):Cfg:=C3 L [161] (A4 []) [] (A4 [(3,[2]),(2,[2]),(1,[0,3]),(0,[0])]) [] (A4 []) (some [2]) [] [] []
noncomputable def A04{R:Type}(L:Nat)(a:Int)(d:Int->Option R):Option R:=cond (ltI a 26) (vl (wu8 (A2 ((97:Int)+a))) λb=>d b) (vl (A2 ((A2 ((48:Int)+a))-26)) λc=>d (wu8 c))
theorem A05(d:Nat)(d0):evC (NX L) (d+1) W Y 161 [pI d0] [] s=A04 L d0 (λa=>some (p8 a,[],s)):=by refine(evE (fn:=Tryz.f161) (by kernel_rfl)).trans ?_;generalize evC (NX L) d=Q;unfold A04;kernel_rfl
noncomputable abbrev Kv:Code:=F0 af5
noncomputable def Ee(L:Nat):Cfg:=C3 L [172] (A4 []) [] (A4 [(7,[2]),(2,[2]),(4,[2]),(6,[2]),(5,[0,22]),(3,[0,12]),(1,[0,2]),(0,[0])]) [] (A4 [(0,[])]) (some [2]) [] [] []
noncomputable def Nk{R:Type}(a:Int)(g:Bool)(e:Int->Option R)(f:Int->Bool->Option R):Option R:=cond g (vl (A2 (wu8 (a-65))) λb=>e b) (cond (not (ltI a 48)) (cond (not (ltI 57 a)) (vl (A2 (wu8 (a-48))) λc=>vl (A2 (c+26)) λd=>e d) (f a (not (ltI 57 a)))) (f a false))
abbrev AS(b:Code):Prop:=∀(k:Out->St W->Option R) a c,B8 (Ee L) Q Y b ⟨gp [(0,p8 a),(12,pB c)] 20,[],s⟩ k=Nk a c (λn0=>k .ret ⟨gp [(2,pI n0)] 31,[],s⟩) (λa c=>k .normal ⟨gp [(0,p8 a),(22,pB c)] 10,[],s⟩)
theorem RM:AS (R:=R) L Q Y s (cd [1,0,0,1,1,1] Kv):=by intro k a b;unfold Nk;kernel_rfl
noncomputable def Nl{R:Type}(a:Int)(l:Bool)(f:Int->Option R)(j:Int->Bool->Option R):Option R:=cond l (vl (A2 (wu8 (a-97))) λg=>f g) (cond (not (ltI a 65)) (Nk a (not (ltI 90 a)) (λh=>f h) (λb c=>j b c)) (Nk a false (λi=>f i) (λd e=>j d e)))
abbrev Ql(b:Code):Prop:=∀(k:Out->St W->Option R) a c,B8 (Ee L) Q Y b ⟨gp [(0,p8 a),(2,pB c)] 30,[],s⟩ k=Nl a c (λn0=>k .ret ⟨gp [(2,pI n0)] 31,[],s⟩) (λa c=>k .normal ⟨gp [(0,p8 a),(22,pB c)] 10,[],s⟩)
theorem RN(a:Code)(b:AS (R:=R) L Q Y s a):Ql (R:=R) L Q Y s (cd [1,0,0,1] (X3 [1,0,0,1,1,1] a Kv)):=by intro k c d;unfold Nl;simp only[<-b k];kernel_rfl
theorem RO:Ql (R:=R) L Q Y s (cd [1,0,0,1] Kv):=by intro k a b;exact j7 (by kernel_rfl) (RN L Q Y s (cd [1,0,0,1,1,1] Kv) (RM L Q Y s) k a b)
noncomputable def An2{R:Type}(L:Nat)(c:Int)(d:Int->Option R):Option R:=cond (not (ltI c 97)) (Nl c (not (ltI 122 c)) (λa=>d a) (λe f=>d (-1))) (Nl c false (λb=>d b) (λg h=>d (-1)))
theorem A14(b:Code)(a:Ql (R:=PV × List Blk × W) L Q Y s b)(c:Int):B8 (Ee L) Q Y (cd [] (X3 [1,0,0,1] b Kv)) ⟨[p8 c]++tps 33,[],s⟩ (J6 (Ee L) af5)=An2 L c (λe=>some (pI e,[],s)):=by unfold An2;exact let d:=(I2 0 (I8 (Ee L) Q Y (cd [1,1] Kv) (J6 (Ee L) af5)));(j7 (by kernel_rfl) (A1 ((a d c (not (ltI 122 c))).trans (by kernel_rfl)) ((a d c false).trans (by kernel_rfl))))
theorem A15(d:Nat)(b0):evC (Ee L) (d+1) W Y 172 [p8 b0] [] s=An2 L b0 (λa=>some (pI a,[],s)):=
 (evE (fn:=af5) (by kernel_rfl)).trans (j7 (by kernel_rfl) (A14 L (evC (Ee L) d) Y s (cd [1,0,0,1] Kv) (RO L (evC (Ee L) d) Y s) b0))
end
section
variable {W R : Type} (L : Nat) (Q : E2) (Y : Yh W) (s : W) (k : Out -> St W -> Option R)
noncomputable def NS(L:Nat):Cfg:=C3 L [101] (A4 []) [] (A4 [(1,[4]),(0,[0,0])]) [] (A4 []) (some [4]) [] [] []
noncomputable def Ay0{R:Type}(L:Nat)(c a:By)(d:Bool->Option R):Option R:=cond (not (ltI (c.length:Int) (a.length:Int))) (cond (N3 0 (a.length:Int) c.length) (vl (cut c 0 (a.length:Int)) λb=>d (b==a)) none) (d false)
theorem Ay1(d:Nat)(s0 prefix1):evC (NS L) (d+1) W Y 101 [pS s0,pS prefix1] [] s=Ay0 L s0 prefix1 (λa=>some (pB a,[],s)):=by refine(evE (fn:=Tryz.f101) (by kernel_rfl)).trans ?_;generalize evC (NS L) d=Q;unfold Ay0;kernel_rfl
noncomputable def NR(L:Nat):Cfg:=C3 L [73] (A4 []) [(101,MQ)] (A4 [(1,[4]),(0,[0,0])]) [101] (A4 []) (some [4]) [] [] []
noncomputable def JC{R:Type}(L:Nat)(b a:By)(c:Bool->Option R):Option R:=cond (A3 b.length) (c (o6 a b)) none
theorem Aw8(d:Nat)(s0 prefix1):evC (NR L) (d+1) W Y 73 [pS s0,pS prefix1] [] s=JC L s0 prefix1 (λa=>some (pB a,[],s)):=by refine(evE (fn:=Tryz.f73) (by kernel_rfl)).trans ?_;generalize evC (NR L) d=Q;unfold JC;kernel_rfl
noncomputable def NT(L:Nat):Cfg:=C3 L [132] (A4 []) [] (A4 [(1,[4]),(0,[0,0])]) [] (A4 []) (some [4]) [] [] []
noncomputable def Ay2{R:Type}(L:Nat)(b a:By)(e:Bool->Option R):Option R:=cond (not (ltI (b.length:Int) (a.length:Int))) (vl (A2 ((b.length:Int)-(a.length:Int))) λc=>cond (N3 c (b.length:Int) b.length) (vl (cut b c (b.length:Int)) λd=>e (d==a)) none) (e false)
theorem Ay3(d:Nat)(s0 suffix1):evC (NT L) (d+1) W Y 132 [pS s0,pS suffix1] [] s=Ay2 L s0 suffix1 (λa=>some (pB a,[],s)):=by refine(evE (fn:=Tryz.f132) (by kernel_rfl)).trans ?_;generalize evC (NT L) d=Q;unfold Ay2;kernel_rfl
noncomputable def EL(L:Nat):Cfg:=C3 L [105] (A4 []) [(132,Ae5)] (A4 [(3,[4]),(2,[4]),(1,[0,0,5]),(0,[0,0])]) [132] (A4 []) (some [4]) [] [] []
noncomputable def WH{R:Type}(L:Nat)(b a:By)(d:By->Option R):Option R:=cond (A3 b.length) (cond (af8 a b) (vl (A2 ((b.length:Int)-(a.length:Int))) λc=>cond (N3 0 c b.length) (d (cut b 0 c)) none) (d b)) none
theorem Al6(d:Nat)(s0 suffix1):evC (EL L) (d+1) W Y 105 [pS s0,pS suffix1] [] s=WH L s0 suffix1 (λa=>some (pS a,[],s)):=by refine(evE (fn:=Tryz.f105) (by kernel_rfl)).trans ?_;generalize evC (EL L) d=Q;unfold WH;kernel_rfl
noncomputable def ER(L:Nat):Cfg:=C3 L [76] (A4 []) [(105,UW)] (A4 [(1,[4]),(0,[0,0])]) [105] (A4 []) (some [4]) [] [] []
noncomputable def XG{R:Type}(L:Nat)(b a:By)(c:By->Option R):Option R:=cond (A3 b.length) (c (Ac6 b a)) none
theorem Aq3(d:Nat)(s0 suffix1):evC (ER L) (d+1) W Y 76 [pS s0,pS suffix1] [] s=XG L s0 suffix1 (λa=>some (pS a,[],s)):=by refine(evE (fn:=Tryz.f76) (by kernel_rfl)).trans ?_;generalize evC (ER L) d=Q;unfold XG;kernel_rfl
noncomputable def EJ(L:Nat):Cfg:=C3 L [96] (A4 []) [(101,MQ)] (A4 [(3,[4,0]),(2,[4,0]),(1,[0,0,7]),(0,[0,0])]) [101] (A4 []) (some [4,0]) [] [] []
noncomputable def WC{R:Type}(L:Nat)(b a:By)(d:By->Bool->Option R):Option R:=cond (A3 b.length) (cond (not (o6 a b)) (d b false) (cond (N3 (a.length:Int) (b.length:Int) b.length) (vl (cut b (a.length:Int) (b.length:Int)) λc=>d c true) none)) none
theorem Ak8(d:Nat)(s0 prefix1):evC (EJ L) (d+1) W Y 96 [pS s0,pS prefix1] [] s=WC L s0 prefix1 (λa b=>some (.tup [pS a,pB b],[],s)):=by refine(evE (fn:=Tryz.f96) (by kernel_rfl)).trans ?_;generalize evC (EJ L) d=Q;unfold WC;kernel_rfl
noncomputable def NP(L:Nat):Cfg:=C3 L [71] (A4 []) [(96,UU)] (A4 [(1,[4,0]),(0,[0,0])]) [96] (A4 []) (some [4,0]) [] [] []
noncomputable def Au3{R:Type}(L:Nat)(b a:By)(c:By->Bool->Option R):Option R:=cond (A3 b.length) (c (Vh b a) (o6 a b)) none
theorem Au4(d:Nat)(s0 prefix1):evC (NP L) (d+1) W Y 71 [pS s0,pS prefix1] [] s=Au3 L s0 prefix1 (λa b=>some (.tup [pS a,pB b],[],s)):=by refine(evE (fn:=Tryz.f71) (by kernel_rfl)).trans ?_;generalize evC (NP L) d=Q;unfold Au3;kernel_rfl
noncomputable abbrev HY:Code:=F0 ah0
noncomputable def Aj(L:Nat):Cfg:=C3 L [136] (A4 [(11,[0,0,0,0,4,0,0])]) [(156,Es),(157,NB),(115,Uh)] (A4 [(18,[8]),(17,[9,0]),(16,[0,0,0,0,5,0]),(15,[0,0,0,0,5,0]),(14,[0,0,0,0,5,0,0]),(13,[0,0,0,0,5,0,0,29]),(12,[0,0,0,0,5,0,0]),(11,[0,0,0,0,5,0,25]),(10,[0,0,0,0,5,0]),(9,[0,0,0,0,5]),(8,[0,0,0,0,5]),(7,[0,0,0,0]),(6,[0,0,0,0]),(5,[0,0,0,0,16]),(4,[8]),(3,[0,0,0,0,11]),(2,[8]),(1,[0,0,0,0,9]),(0,[0,0,0,0])]) [157,115] (A4 [(0,[0,8,0]),(1,[0,0,0,0,5,0])]) (some [8]) [] [] []
noncomputable def V0{R:Type}(L n:Nat)(c b:By)(a l d:Int)(g:LL)(j:By->Int->LL->Option R):Option R:=match n with|0=>none|n+1=>cond (ltI d l) (cond (A3 c.length) (cond (ltI (ac0 c b) (0:Int)) (j c d g) (vl (A2 ((ac0 c b)+a)) λe=>cond (N3 0 e c.length) (cond (inR d g.length) (cond (decide ((j2 d)<g.length)) (vl (ad7 g (j2 d) (F4 (o9 g (j2 d) []) 0 [(SV.str (cut c 0 e))])) λh=>vl (A2 ((ac0 c b)+(b.length:Int))) λf=>cond (N3 f (c.length:Int) c.length) (vl (cut c f (c.length:Int)) λi=>V0 L n i b a l (A2 (d+1)) h j) none) none) none) none)) none) (j c d g)
theorem Mv(n a sep1 sepSave2 n3 i4 l5):E7 1 ((Aj L).keep 11) (bd (Aj L) Q Y (cd [1,1,1,1,1,1,1,1,0,0,0] HY)) n ⟨gp [(0,pS a),(0,pS sep1),(0,pI sepSave2),(0,pI n3),(5,.fl 0),(0,pI i4)] 55,[.arr false 9 1 l5],s⟩ k =
 V0 L n a sep1 sepSave2 n3 i4 l5 (λa b d=>k (.exit 0) ⟨gp [(0,pS a),(8,.fl 0),(0,pI b)] 55,[.arr false 9 1 d],s⟩):=by
 induction n generalizing a sep1 sepSave2 n3 i4 l5 with
 | zero=>rfl
 | succ n c=>rw[V0];simp only[<-c];kernel_rfl
noncomputable def Vx{R:Type}(L:Nat)(t d:By)(a u:Int)(w:Unit->Option R)(v:Nat->LL->Option R):Option R:=cond (u==0) (w ()) (cond (d==[]) none (cond (ltI u 0) (cond (d.length==1) (vl (↑(List.count (o9 d 0 0) t):Int) λn=>vl (A2 ((t.length:Int)+1)) λo=>vl (if (o<(A2 (n+1))) then o else (A2 (n+1))) λg=>cond (((decide ((0:Int)<=g))&&(decide (g<=g)))&&(G1 (j2 g))) (V0 L L t d a (A2 (g-1)) 0 (j3 (j2 g) [(SV.str ([]:List UInt8))]) (λq b e=>cond (inR b e.length) (cond (decide ((j2 b)<e.length)) (vl (ad7 e (j2 b) (F4 (o9 e (j2 b) []) 0 [(SV.str q)])) λi=>vl (A2 (b+1)) λl=>cond (N3 0 l i.length) (v ((j2 l)-0) i) none) none) none)) none) none) (vl (A2 ((t.length:Int)+1)) λp=>vl (if (p<u) then p else u) λh=>cond (((decide ((0:Int)<=h))&&(decide (h<=h)))&&(G1 (j2 h))) (V0 L L t d a (A2 (h-1)) 0 (j3 (j2 h) [(SV.str ([]:List UInt8))]) (λr c f=>cond (inR c f.length) (cond (decide ((j2 c)<f.length)) (vl (ad7 f (j2 c) (F4 (o9 f (j2 c) []) 0 [(SV.str r)])) λj=>vl (A2 (c+1)) λm=>cond (N3 0 m j.length) (v ((j2 m)-0) j) none) none) none)) none)))
theorem Zr(d:Nat)(s0 sep1 sepSave2 n3):evC (Aj L) (d+1) W Y 136 [pS s0,pS sep1,pI sepSave2,pI n3] [] s=Vx L s0 sep1 sepSave2 n3 (λ_=>some (.fl 0,[.arr true 9 1 []],s)) (λc f=>some (.vw 0 0 c,[.arr false 9 1 f],s)):=by refine(evE (fn:=ah0) (by kernel_rfl)).trans ?_;generalize evC (Aj L) d=Q;unfold Vx;exact let e:=(I2 0 (I8 (Aj L) Q Y (cd [1,1,1,1,1,1,1,1,1] HY) (J6 (Aj L) ah0)));(j7 (by kernel_rfl) (A1 rfl (A1 rfl (A1 (A1 (B5 λg=>(B5 λh=>(B5 λa=>(A1 ((Mv L Q Y s e L s0 sep1 sepSave2 (A2 (a-1)) 0 (j3 (j2 a) [(SV.str ([]:List UInt8))])).trans (by kernel_rfl)) rfl)))) rfl) (B5 λi=>(B5 λb=>(A1 ((Mv L Q Y s e L s0 sep1 sepSave2 (A2 (b-1)) 0 (j3 (j2 b) [(SV.str ([]:List UInt8))])).trans (by kernel_rfl)) rfl)))))))
noncomputable def Uz(L:Nat):Cfg:=C3 L [112] (A4 []) [(136,HN)] (A4 [(1,[4]),(0,[0,0])]) [] (A4 []) (some [4]) [] [] []
noncomputable def GW{R:Type}(L:Nat)(c a:By)(d:LL->Option R):Option R:=cond (A3 c.length) (cond (a.length==1) (cond ((0:Int)==0) (cond (((-1):Int)==((-1):Int)) (vl (H5 (pcs (o9 a 0 0) c)) λb=>d b) none) none) none) none
theorem Ac0(d:Nat)(s0 sep1):evC (Uz L) (d+1) W Y 112 [pS s0,pS sep1] [] s=GW L s0 sep1 (λa=>some (.s (.sl false false 1 a),[],s)):=by refine(evE (fn:=Tryz.f112) (by kernel_rfl)).trans ?_;generalize evC (Uz L) d=Q;unfold GW;kernel_rfl
noncomputable abbrev Ag6:Code:=F0 ai5
noncomputable def Lb(L:Nat):Cfg:=C3 L [53] (A4 [(3,[0,1,0,6,0])]) [] (A4 [(10,[2]),(9,[0,2,6,0]),(8,[0,2,6,0]),(7,[0,2,1,4,0]),(6,[0,2,1,4,0,10]),(5,[0,2,1,4,0]),(4,[0,2,0,5,0]),(3,[0,2,6,0,0]),(2,[0,2,6,0]),(1,[0,2]),(0,[0])]) [] (A4 [(0,[3]),(1,[0,2,6,0])]) (some [2]) [] [] []
noncomputable def Bn{R:Type}(L n:Nat)(b:By)(e a:Int)(c:LL)(d:LL->Option R):Option R:=match n with|0=>none|n+1=>cond (ltI a e) (cond (inR a b.length) (cond (not (ltI (bAt b a) (65:Int))) (cond (not (ltI 90 (bAt b a))) (vl (wu8 ((bAt b a)+32)) λf=>cond (G1 (c.length+1)) (Bn L n b e (A2 (a+1)) (c++[[(SV.int .u8 f)]]) d) none) (cond (G1 (c.length+1)) (Bn L n b e (A2 (a+1)) (c++[[(SV.int .u8 (bAt b a))]]) d) none)) (cond (G1 (c.length+1)) (Bn L n b e (A2 (a+1)) (c++[[(SV.int .u8 (bAt b a))]]) d) none)) none) (d c)
theorem PX(n s0 n1 n2 l3):E7 1 ((Lb L).keep 3) (bd (Lb L) Q Y (cd [1,1,0,1,0,0] Ag6)) n ⟨gp [(0,pS s0),(2,.fl 0),(6,pI n1),(0,pI n2)] 20,[.arr false 5 1 l3],s⟩ k =
 Bn L n s0 n1 n2 l3 (λb=>k (.exit 0) ⟨gp [(3,.fl 0)] 28,[.arr false 5 1 b],s⟩):=by
 induction n generalizing s0 n1 n2 l3 with
 | zero=>rfl
 | succ n a=>rw[Bn];simp only[<-a];kernel_rfl
noncomputable def Ax8{R:Type}(L:Nat)(b:By)(c:By->LL->Option R):Option R:=cond ((decide ((0:Int)<=(b.length:Int)))&&(G1 (j2 (b.length:Int)))) (Bn L L b (b.length:Int) 0 [] (λa=>cond (ad3 a Sk) (c (v7 Pu a) a) none)) none
theorem Ax9(d:Nat)(s0):evC (Lb L) (d+1) W Y 53 [pS s0] [] s=Ax8 L s0 (λb a=>some (pS b,[.arr false 5 1 a],s)):=by refine(evE (fn:=ai5) (by kernel_rfl)).trans ?_;generalize evC (Lb L) d=Q;unfold Ax8;exact(j7 (by kernel_rfl) (A1 ((PX L Q Y s (I2 0 (I8 (Lb L) Q Y (cd [1,1,1] Ag6) (J6 (Lb L) ai5))) L s0 (s0.length:Int) 0 []).trans (by kernel_rfl)) rfl))
noncomputable def NQ(L:Nat):Cfg:=C3 L [87] (A4 []) [(73,CG)] (A4 [(1,[2]),(0,[0])]) [73] (A4 []) (some [2]) [] [] []
noncomputable def Aw6{R:Type}(L:Nat)(a:By)(b:Bool->Option R):Option R:=cond (A3 a.length) (cond (o6 ([48,120]:List UInt8) a) (b true) (cond (A3 a.length) (b (o6 ([48,88]:List UInt8) a)) none)) none
theorem Aw7(d:Nat)(s0):evC (NQ L) (d+1) W Y 87 [pS s0] [] s=Aw6 L s0 (λa=>some (pB a,[],s)):=by refine(evE (fn:=Tryz.f87) (by kernel_rfl)).trans ?_;generalize evC (NQ L) d=Q;unfold Aw6;kernel_rfl
noncomputable abbrev Ax:Code:=F0 ag5
noncomputable def Q3(L:Nat):Cfg:=C3 L [89] (A4 [(3,[0,0,2,0,0,4,0])]) [] (A4 [(18,[4,0]),(17,[0,0,4,4,0]),(16,[0,0,4,4,0]),(15,[4,0]),(14,[0,0,4,1,2,0,39]),(9,[0,0,4,1,2,0]),(11,[0,0,4,1,2,0]),(13,[0,0,4,1,2,0]),(7,[4,0]),(12,[0,0,4,2,1,0,26]),(10,[0,0,4,2,1,0,15]),(8,[0,0,4,2,1,0,5]),(6,[0,0,4,2,1,0]),(5,[0,0,4,0,3,0]),(4,[0,0,4,0,3,0]),(3,[0,0,4,4,0,0]),(2,[0,0,4,4,0]),(1,[0,0,4]),(0,[0,0])]) [] (A4 [(0,[6]),(1,[0,0,4,4,0]),(2,[0,0,4,1,2,0])]) (some [4,0]) [] [] []
noncomputable def Ml{R:Type}(m:By)(a i b j l:Int)(n:Bool)(g:By->Int->Int->Int->Int->Int->Option R)(h:Unit->Option R):Option R:=cond n (vl (A2 (wu8 (b-97))) λc=>vl (A2 (c+10)) λd=>g m a i d j l) (cond (not (ltI b 65)) (cond (not (ltI 70 b)) (vl (A2 (wu8 (b-65))) λe=>vl (A2 (e+10)) λf=>g m a i f j l) (h ())) (h ()))
abbrev Zm(b:Code):Prop:=∀(k:Out->St W->Option R) f a c b3 d e b6,B8 (Q3 L) Q Y b ⟨gp [(0,pS f),(0,pI a),(4,pI c),(2,p8 b3),(1,pI d),(0,pI e),(15,pB b6)] 32,[],s⟩ k=Ml f a c b3 d e b6 (λf a c g d e=>k .normal ⟨gp [(0,pS f),(0,pI a),(4,pI c),(1,pI g),(2,pI d),(0,pI e)] 48,[],s⟩) (λ_=>k .ret ⟨gp [(4,pI (0:Int)),(0,pB false)] 55,[],s⟩)
theorem ON:Zm (R:=R) L Q Y s (cd [1,1,0,1,0,0,1,1,0,0,1,1,0,1,0,1,1,1] Ax):=by intro k g a d b e f c;unfold Ml;kernel_rfl
noncomputable def Mm{R:Type}(v:By)(a q d r t:Int)(x:Bool)(m:By->Int->Int->Int->Int->Int->Option R)(w:Unit->Option R):Option R:=cond x (vl (A2 (wu8 (d-48))) λn=>m v a q n r t) (cond (not (ltI d 97)) (Ml v a q d r t (not (ltI 102 d)) (λu c o l p f=>m u c o l p f) (λ_=>w ())) (Ml v a q d r t false (λj b g e h i=>m j b g e h i) (λ_=>w ())))
abbrev Ja(b:Code):Prop:=∀(k:Out->St W->Option R) f a c b3 d e b6,B8 (Q3 L) Q Y b ⟨gp [(0,pS f),(0,pI a),(4,pI c),(2,p8 b3),(1,pI d),(0,pI e),(5,pB b6)] 42,[],s⟩ k=Mm f a c b3 d e b6 (λf a c g d e=>k .normal ⟨gp [(0,pS f),(0,pI a),(4,pI c),(1,pI g),(2,pI d),(0,pI e)] 48,[],s⟩) (λ_=>k .ret ⟨gp [(4,pI (0:Int)),(0,pB false)] 55,[],s⟩)
theorem OO(a:Code)(b:Zm (R:=R) L Q Y s a):Ja (R:=R) L Q Y s (cd [1,1,0,1,0,0,1,1,0,0,1,1,0,1,0,1] (X3 [1,1,0,1,0,0,1,1,0,0,1,1,0,1,0,1,1,1] a Ax)):=by intro k i c f d g h e;unfold Mm;simp only[<-b k];kernel_rfl
theorem OP:Ja (R:=R) L Q Y s (cd [1,1,0,1,0,0,1,1,0,0,1,1,0,1,0,1] Ax):=by intro k g a d b e f c;exact j7 (by kernel_rfl) (OO L Q Y s (cd [1,1,0,1,0,0,1,1,0,0,1,1,0,1,0,1,1,1] Ax) (ON L Q Y s) k g a d b e f c)
noncomputable def Mn{R:Type}(j:By)(a g d h i:Int)(e:Unit->Option R)(f:By->Int->Int->Int->Int->Option R):Option R:=cond (not (ltI d a)) (e ()) (vl (A2 ((A2 (g*a))+d)) λb=>vl (if ((1099511627776:Int)<b) then (1099511627776:Int) else b) λc=>f j a c h i)
abbrev Pt(b:Code):Prop:=∀(k:Out->St W->Option R) e a c d3 d n5,B8 (Q3 L) Q Y b ⟨gp [(0,pS e),(0,pI a),(4,pI c),(1,pI d3),(2,pI d),(0,pI n5)] 48,[],s⟩ k=Mn e a c d3 d n5 (λ_=>k .ret ⟨gp [(4,pI (0:Int)),(0,pB false)] 55,[],s⟩) (λe a c f d=>k .normal ⟨gp [(0,pS e),(0,pI a),(4,pI c),(4,pI f),(0,pI d)] 48,[],s⟩)
theorem OQ:Pt (R:=R) L Q Y s (cd [1,1,0,1,0,0,1,1,0,0,1,1,1] Ax):=by intro k f a c b d e;unfold Mn;kernel_rfl
noncomputable def Dk{R:Type}(L n:Nat)(g:By)(e H I f:Int)(h:Unit->Option R)(G:Int->Option R):Option R:=match n with|0=>none|n+1=>cond (ltI f I) (cond (inR f g.length) (cond (not (ltI (bAt g f) (48:Int))) (Mm g e H (bAt g f) I f (not (ltI 57 (bAt g f))) (λB a l i m o=>Mn B a l i m o (λ_=>h ()) (λC b p q r=>vl (A2 (r+1)) λt=>Dk L n C b p q t h G)) (λ_=>h ())) (Mm g e H (bAt g f) I f false (λD c u j v w=>Mn D c u j v w (λ_=>h ()) (λF d x y z=>vl (A2 (z+1)) λA=>Dk L n F d x y A h G)) (λ_=>h ()))) none) (G H)
theorem OR(b:Code)(d:Ja (R:=R) L Q Y s b)(a:Code)(e:Pt (R:=R) L Q Y s a)(n:Nat)(l:By)(c C D j:Int):E7 0 ((Q3 L).keep 3) (bd (Q3 L) Q Y (cd [1,1,0,1,0,0] (X3 [1,1,0,1,0,0,1,1,0,0,1,1,1] a (X3 [1,1,0,1,0,0,1,1,0,0,1,1,0,1,0,1] b Ax)))) n ⟨gp [(0,pS l),(0,pI c),(4,pI C),(4,pI D),(0,pI j)] 48,[],s⟩ k =
 Dk L n l c C D j (λ_=>k .ret ⟨gp [(4,pI (0:Int)),(0,pB false)] 55,[],s⟩) (λn0=>k (.exit 0) ⟨gp [(6,pI n0)] 54,[],s⟩):=by
 induction n generalizing l c C D j with
 | zero=>rfl
 | succ n M=>rw[Dk];exact let J:=(I2 1 (I8 (Q3 L) Q Y (cd [1,1,0,1,0,0,1,1,1] Ax) (lpK 0 ((Q3 L).keep 3) (bd (Q3 L) Q Y (cd [1,1,0,1,0,0] (X3 [1,1,0,1,0,0,1,1,0,0,1,1,1] a (X3 [1,1,0,1,0,0,1,1,0,0,1,1,0,1,0,1] b Ax)))) n k)));let K:=(I2 2 (I8 (Q3 L) Q Y a J));(j7 (by kernel_rfl) (A1 (A1 (A1 ((d K l c C (bAt l j) D j (not (ltI 57 (bAt l j)))).trans (congr (congr rfl (fx6 λF f p m q r=>(j7 (by kernel_rfl) ((e J F f p m q r).trans (congr (congr rfl (by kernel_rfl)) (fx5 λG g t u N=>(j7 (by kernel_rfl) (B5 λv=>(M G g t u v))))))))) (by kernel_rfl))) ((d K l c C (bAt l j) D j false).trans (congr (congr rfl (fx6 λH h w o x y=>(j7 (by kernel_rfl) ((e J H h w o x y).trans (congr (congr rfl (by kernel_rfl)) (fx5 λI i z A O=>(j7 (by kernel_rfl) (B5 λB=>(M I i z A B))))))))) (by kernel_rfl)))) rfl) rfl))
noncomputable def Aj1{R:Type}(L:Nat)(d:By)(a:Int)(c:Int->Bool->Option R):Option R:=Dk L L d a 0 (d.length:Int) 0 (λ_=>c 0 false) (λb=>c b true)
theorem Au9(a:Code)(d:Ja (R:=PV × List Blk × W) L Q Y s a)(b:Code)(e:Pt (R:=PV × List Blk × W) L Q Y s b)(f:By)(c:Int):B8 (Q3 L) Q Y (cd [] (X3 [1,1,0,1,0,0,1,1,0,0,1,1,1] b (X3 [1,1,0,1,0,0,1,1,0,0,1,1,0,1,0,1] a Ax))) ⟨[pS f,pI c]++tps 59,[],s⟩ (J6 (Q3 L) ag5)=Aj1 L f c (λg h=>some (.tup [pI g,pB h],[],s)):=by unfold Aj1;exact(j7 (by kernel_rfl) ((OR L Q Y s (I2 0 (I8 (Q3 L) Q Y (cd [1,1,1] Ax) (J6 (Q3 L) ag5))) a d b e L f c 0 (f.length:Int) 0).trans (by kernel_rfl)))
theorem Av0(d:Nat)(s0 base1):evC (Q3 L) (d+1) W Y 89 [pS s0,pI base1] [] s=Aj1 L s0 base1 (λa b=>some (.tup [pI a,pB b],[],s)):=
 (evE (fn:=ag5) (by kernel_rfl)).trans (j7 (by kernel_rfl) (Au9 L (evC (Q3 L) d) Y s (cd [1,1,0,1,0,0,1,1,0,0,1,1,0,1,0,1] Ax) (OP L (evC (Q3 L) d) Y s) (cd [1,1,0,1,0,0,1,1,0,0,1,1,1] Ax) (OQ L (evC (Q3 L) d) Y s) s0 base1))
noncomputable def Ah9(L:Nat):Cfg:=C3 L [88] (A4 []) [(87,MM),(89,ML)] (A4 [(7,[2,0]),(2,[2,0]),(4,[2,0]),(6,[2,0]),(5,[0,14]),(3,[0,6]),(1,[0,3]),(0,[0])]) [87,89] (A4 [(0,[0])]) (some [2,0]) [] [] []
noncomputable def num{R:Type}(L:Nat)(a:By)(d:Int->Bool->Option R):Option R:=cond (a==[]) (d 0 false) (cond (A3 a.length) (cond (W6 a) (cond (N3 2 (a.length:Int) a.length) (vl (cut a 2 (a.length:Int)) λb=>cond (A3 b.length) (cond (ltN 16 17) (vl (↑(Ln (F1 16 0 b)):Int) λe=>d e (o0 (F1 16 0 b))) none) none) none) (cond (ltI 1 (a.length:Int)) (cond (inR 0 a.length) (cond ((bAt a (0:Int))==48) (cond (N3 1 (a.length:Int) a.length) (vl (cut a 1 (a.length:Int)) λc=>cond (A3 c.length) (cond (ltN 8 17) (vl (↑(Ln (F1 8 0 c)):Int) λf=>d f (o0 (F1 8 0 c))) none) none) none) (cond (A3 a.length) (cond (ltN 10 17) (vl (↑(Ln (F1 10 0 a)):Int) λg=>d g (o0 (F1 10 0 a))) none) none)) none) (cond (A3 a.length) (cond (ltN 10 17) (vl (↑(Ln (F1 10 0 a)):Int) λh=>d h (o0 (F1 10 0 a))) none) none))) none)
theorem Bg5(d:Nat)(s0):evC (Ah9 L) (d+1) W Y 88 [pS s0] [] s=num L s0 (λa b=>some (.tup [pI a,pB b],[],s)):=by refine(evE (fn:=Tryz.f88) (by kernel_rfl)).trans ?_;generalize evC (Ah9 L) d=Q;unfold num;kernel_rfl
noncomputable def EN(L:Nat):Cfg:=C3 L [86] (A4 []) [(112,HQ)] (A4 [(5,[2]),(4,[3]),(3,[3,0,13]),(2,[3,0]),(1,[3]),(0,[0])]) [] (A4 []) (some [2]) [] [] []
noncomputable def parts{R:Type}(L:Nat)(e:By)(c:LL->Option R):Option R:=cond (A3 e.length) (cond (1==1) (vl (H5 (pcs (o9 ([46]:List UInt8) 0 0) e)) λa=>vl (A2 ((a.length:Int)-1)) λb=>cond (ltI 0 b) (cond (inR b a.length) (cond (okE Jy a (j2 b) 0) (vl (gX a (j2 b) 0) λd=>cond (d==[]) (cond (N3 0 b a.length) (c (cut a 0 b)) none) (c a)) none) none) (c a)) none) none
theorem Am5(d:Nat)(s0):evC (EN L) (d+1) W Y 86 [pS s0] [] s=parts L s0 (λa=>some (.s (.sl false false 1 a),[],s)):=by refine(evE (fn:=Tryz.f86) (by kernel_rfl)).trans ?_;generalize evC (EN L) d=Q;unfold parts;kernel_rfl
noncomputable def Pm(L:Nat):Cfg:=C3 L [61] (A4 []) [(86,UX),(87,MM),(88,A97),(89,ML)] (A4 [(7,[2]),(6,[4,3]),(5,[2]),(4,[6]),(3,[4,13]),(2,[4]),(1,[3]),(0,[0])]) [87,88,89] (A4 []) (some [2]) [] [] []
noncomputable def Sw{R:Type}(L:Nat)(c:By)(d:Bool->Option R):Option R:=cond (A3 c.length) (vl (A2 ((↑(a8 (H5 (F8 c))):Int)-1)) λb=>cond (inR b (a8 (H5 (F8 c)))) (cond (okE Jy (H5 (F8 c)) (j2 b) 0) (vl (gX (H5 (F8 c)) (j2 b) 0) λa=>cond (A3 a.length) (cond (W6 a) (cond (A3 a.length) (vl (↑(Ln (Cu a)):Int) λe=>d (o0 (Cu a))) none) (cond (A3 a.length) (cond (ltN 10 17) (vl (↑(Ln (F1 10 0 a)):Int) λf=>cond (o0 (F1 10 0 a)) (d (not (a==[]))) (d false)) none) none)) none) none) none) none
theorem QO(d:Nat)(s0):evC (Pm L) (d+1) W Y 61 [pS s0] [] s=Sw L s0 (λa=>some (pB a,[],s)):=by refine(evE (fn:=Tryz.f61) (by kernel_rfl)).trans ?_;generalize evC (Pm L) d=Q;unfold Sw;kernel_rfl
noncomputable abbrev Ze:Code:=F0 ag9
noncomputable def Y4(L:Nat):Cfg:=C3 L [119] (A4 [(2,[0,1,0])]) [] (A4 [(6,[2]),(3,[0,2]),(5,[2]),(4,[0,2,15]),(2,[0,2,3]),(1,[0,2]),(0,[0])]) [] (A4 [(0,[0]),(1,[0,2])]) (some [2]) [] [] []
noncomputable def U2{R:Type}(L n:Nat)(a:By)(b:Int)(c:Unit->Option R)(d:By->Option R):Option R:=match n with|0=>none|n+1=>cond (ltI b (a.length:Int)) (cond (inR b a.length) (cond (ltI (bAt a b) (48:Int)) (c ()) (cond (inR b a.length) (cond (ltI 57 (bAt a b)) (c ()) (U2 L n a (A2 (b+1)) c d)) none)) none) (d a)
theorem Yp(n a i1):E7 0 ((Y4 L).keep 2) (bd (Y4 L) Q Y (cd [1,0,1,0,0] Ze)) n ⟨gp [(0,pS a),(2,pI i1)] 18,[],s⟩ k =
 U2 L n a i1 (λ_=>k .ret ⟨gp [(2,pB false)] 19,[],s⟩) (λa=>k (.exit 0) ⟨gp [(0,pS a)] 21,[],s⟩):=by
 induction n generalizing a i1 with
 | zero=>rfl
 | succ n b=>rw[U2];simp only[<-b];kernel_rfl
noncomputable def Sz{R:Type}(L:Nat)(c:By)(b:Bool->Option R):Option R:=U2 L L c 0 (λ_=>b false) (λa=>b (not (a==[])))
theorem RW(d:Nat)(s0):evC (Y4 L) (d+1) W Y 119 [pS s0] [] s=Sz L s0 (λa=>some (pB a,[],s)):=by refine(evE (fn:=ag9) (by kernel_rfl)).trans ?_;generalize evC (Y4 L) d=Q;unfold Sz;exact(j7 (by kernel_rfl) ((Yp L Q Y s (I2 0 (I8 (Y4 L) Q Y (cd [1,1] Ze) (J6 (Y4 L) ag9))) L s0 0).trans (by kernel_rfl)))
noncomputable abbrev IA:Code:=F0 ai6
noncomputable def Cl(L:Nat):Cfg:=C3 L [68] (A4 [(4,[0,0,2,0,0,0])]) [] (A4 [(9,[4]),(5,[0,0,3,0,0]),(8,[0,0,3,0,0]),(7,[0,0,3,1]),(6,[0,0,3,0,0,16]),(4,[0,0,3,0,0,3]),(3,[0,0,3,0,0]),(2,[0,0,3,0]),(1,[0,0,3]),(0,[0,0])]) [] (A4 [(0,[5]),(1,[0,0,3,0,0])]) (some [4]) [] [] []
noncomputable def P8{R:Type}(L n:Nat)(c:By)(d a b:Int)(e:LL)(f:LL->Option R):Option R:=match n with|0=>none|n+1=>cond (not (ltI (c.length:Int) b)) (cond (b==(c.length:Int)) (cond (N3 a b c.length) (cond (G1 (e.length+1)) (P8 L n c d (A2 (b+1)) (A2 (b+1)) (e++[[(SV.str (cut c a b))]]) f) none) none) (cond (inR b c.length) (cond ((bAt c b)==d) (cond (N3 a b c.length) (cond (G1 (e.length+1)) (P8 L n c d (A2 (b+1)) (A2 (b+1)) (e++[[(SV.str (cut c a b))]]) f) none) none) (P8 L n c d a (A2 (b+1)) e f)) none)) (f e)
theorem GS(n s0 at1 from2 i3 l4):E7 1 ((Cl L).keep 4) (bd (Cl L) Q Y (cd [1,1,1,0,1,0,0] IA)) n ⟨gp [(0,pS s0),(0,p8 at1),(3,.fl 0),(0,pI from2),(0,pI i3)] 27,[.arr true 9 1 l4],s⟩ k =
 P8 L n s0 at1 from2 i3 l4 (λb=>k (.exit 0) ⟨gp [(5,.fl 0)] 29,[.arr true 9 1 b],s⟩):=by
 induction n generalizing s0 at1 from2 i3 l4 with
 | zero=>rfl
 | succ n a=>rw[P8];simp only[<-a];kernel_rfl
noncomputable def Xm{R:Type}(L:Nat)(d:By)(a:Int)(c:LL->Option R):Option R:=P8 L L d a 0 0 [] (λb=>c b)
theorem Ab0(d:Nat)(s0 at1):evC (Cl L) (d+1) W Y 68 [pS s0,p8 at1] [] s=Xm L s0 at1 (λa=>some (.fl 0,[.arr true 9 1 a],s)):=by refine(evE (fn:=ai6) (by kernel_rfl)).trans ?_;generalize evC (Cl L) d=Q;unfold Xm;exact(j7 (by kernel_rfl) ((GS L Q Y s (I2 0 (I8 (Cl L) Q Y (cd [1,1,1,1] IA) (J6 (Cl L) ai6))) L s0 at1 0 0 []).trans (by kernel_rfl)))
noncomputable abbrev Kw:Code:=F0 af4
noncomputable def Ef(L:Nat):Cfg:=C3 L [142] (A4 []) [] (A4 [(7,[2]),(2,[2]),(4,[2]),(6,[2]),(5,[0,23]),(3,[0,12]),(1,[0,2]),(0,[0])]) [] (A4 [(0,[])]) (some [2]) [] [] []
noncomputable def No{R:Type}(a:Int)(h:Bool)(f:Int->Option R)(g:Int->Bool->Option R):Option R:=cond h (vl (A2 (wu8 (a-97))) λb=>vl (A2 (b+10)) λc=>f c) (cond (not (ltI a 65)) (cond (not (ltI 70 a)) (vl (A2 (wu8 (a-65))) λd=>vl (A2 (d+10)) λe=>f e) (g a (not (ltI 70 a)))) (g a false))
abbrev AT(b:Code):Prop:=∀(k:Out->St W->Option R) a c,B8 (Ef L) Q Y b ⟨gp [(0,p8 a),(12,pB c)] 21,[],s⟩ k=No a c (λn0=>k .ret ⟨gp [(2,pI n0)] 32,[],s⟩) (λa c=>k .normal ⟨gp [(0,p8 a),(23,pB c)] 10,[],s⟩)
theorem RS:AT (R:=R) L Q Y s (cd [1,0,0,1,1,1] Kw):=by intro k a b;unfold No;kernel_rfl
noncomputable def Np{R:Type}(b:Int)(l:Bool)(f:Int->Option R)(j:Int->Bool->Option R):Option R:=cond l (vl (A2 (wu8 (b-48))) λg=>f g) (cond (not (ltI b 97)) (No b (not (ltI 102 b)) (λh=>f h) (λc d=>j c d)) (No b false (λi=>f i) (λe a=>j e a)))
abbrev Qm(b:Code):Prop:=∀(k:Out->St W->Option R) a c,B8 (Ef L) Q Y b ⟨gp [(0,p8 a),(2,pB c)] 31,[],s⟩ k=Np a c (λn0=>k .ret ⟨gp [(2,pI n0)] 32,[],s⟩) (λa c=>k .normal ⟨gp [(0,p8 a),(23,pB c)] 10,[],s⟩)
theorem RT(a:Code)(b:AT (R:=R) L Q Y s a):Qm (R:=R) L Q Y s (cd [1,0,0,1] (X3 [1,0,0,1,1,1] a Kw)):=by intro k c d;unfold Np;simp only[<-b k];kernel_rfl
theorem RU:Qm (R:=R) L Q Y s (cd [1,0,0,1] Kw):=by intro k a b;exact j7 (by kernel_rfl) (RT L Q Y s (cd [1,0,0,1,1,1] Kw) (RS L Q Y s) k a b)
noncomputable def An5{R:Type}(L:Nat)(c:Int)(d:Int->Option R):Option R:=cond (not (ltI c 48)) (Np c (not (ltI 57 c)) (λa=>d a) (λe f=>d 99)) (Np c false (λb=>d b) (λg h=>d 99))
theorem A16(b:Code)(a:Qm (R:=PV × List Blk × W) L Q Y s b)(c:Int):B8 (Ef L) Q Y (cd [] (X3 [1,0,0,1] b Kw)) ⟨[p8 c]++tps 34,[],s⟩ (J6 (Ef L) af4)=An5 L c (λe=>some (pI e,[],s)):=by unfold An5;exact let d:=(I2 0 (I8 (Ef L) Q Y (cd [1,1] Kw) (J6 (Ef L) af4)));(j7 (by kernel_rfl) (A1 ((a d c (not (ltI 57 c))).trans (by kernel_rfl)) ((a d c false).trans (by kernel_rfl))))
theorem A17(d:Nat)(b0):evC (Ef L) (d+1) W Y 142 [p8 b0] [] s=An5 L b0 (λa=>some (pI a,[],s)):=
 (evE (fn:=af4) (by kernel_rfl)).trans (j7 (by kernel_rfl) (A16 L (evC (Ef L) d) Y s (cd [1,0,0,1] Kw) (RU L (evC (Ef L) d) Y s) b0))
noncomputable abbrev Y3:Code:=F0 af2
noncomputable def L2(L:Nat):Cfg:=C3 L [120] (A4 [(10,[0,1,0,0,0,0])]) [(142,Af1)] (A4 [(16,[2,0]),(11,[0,3,0,0]),(15,[0,3,0,0]),(14,[2,0]),(13,[0,3,0,0,0,44]),(12,[0,3,0,0,0]),(10,[0,3,0,0,36]),(9,[0,3,0,0]),(8,[0,3,0]),(5,[0,3]),(7,[0,3]),(6,[0,3,32]),(4,[0,3,22]),(3,[0,3]),(2,[2,0]),(1,[0,8]),(0,[0])]) [142] (A4 [(0,[5]),(1,[0,3,0,0])]) (some [2,0]) [] [] []
noncomputable def Td{R:Type}(a:By)(c:By->Option R):Option R:=cond (N3 2 (a.length:Int) a.length) (vl (cut a 2 (a.length:Int)) λb=>c b) none
abbrev BA(b:Code):Prop:=∀(k:Out->St W->Option R) a,B8 (L2 L) Q Y b ⟨gp [(0,pS a),(3,pI (10:Int)),(22,pB true)] 32,[],s⟩ k=Td a (λa=>k .normal ⟨gp [(0,pS a),(3,pI (16:Int))] 55,[],s⟩)
theorem SQ:BA (R:=R) L Q Y s (cd [1,1,1,0,1] Y3):=by intro k a;unfold Td;kernel_rfl
noncomputable def Dt{R:Type}(L n:Nat)(d:By)(h a:Int)(f:Unit->Option R)(g:Int->Option R):Option R:=match n with|0=>none|n+1=>cond (ltI a (d.length:Int)) (cond (inR a d.length) (cond (inR (bAt d a) 256) (vl (↑(dig (u8n (bAt d a))):Int) λb=>cond (not (ltI b 16)) (f ()) (vl (A2 ((A2 (h*16))+b)) λc=>vl (if ((1099511627776:Int)<c) then (1099511627776:Int) else c) λe=>Dt L n d e (A2 (a+1)) f g)) none) none) (g h)
theorem SY(n s0 n1 i2):E7 0 ((L2 L).keep 10) (bd (L2 L) Q Y (cd [1,1,1,1,1,0,1,0,0] Y3)) n ⟨gp [(0,pS s0),(3,pI (16:Int)),(0,pI n1),(0,pI i2)] 53,[],s⟩ k =
 Dt L n s0 n1 i2 (λ_=>k .ret ⟨gp [(2,pI (0:Int)),(0,pB false)] 56,[],s⟩) (λn0=>k (.exit 0) ⟨gp [(5,pI n0)] 54,[],s⟩):=by
 induction n generalizing s0 n1 i2 with
 | zero=>rfl
 | succ n a=>rw[Dt];simp only[<-a];kernel_rfl
noncomputable def Te{R:Type}(L:Nat)(c:By)(b:Int->Bool->Option R):Option R:=Dt L L c 0 0 (λ_=>b 0 false) (λa=>b a true)
abbrev BB(b:Code):Prop:=∀(k:Out->St W->Option R) s0,B8 (L2 L) Q Y b ⟨gp [(0,pS s0),(3,pI (16:Int))] 55,[],s⟩ k=Te L s0 (λn0 a=>k .ret ⟨gp [(2,pI n0),(0,pB a)] 56,[],s⟩)
theorem ST:BB (R:=R) L Q Y s (cd [1,1,1,1] Y3):=by intro k a;unfold Te;exact(j7 (by kernel_rfl) ((SY L Q Y s (I2 0 (I8 (L2 L) Q Y (cd [1,1,1,1,1,1] Y3) k)) L a 0 0).trans (by kernel_rfl)))
noncomputable def Jr{R:Type}(a:By)(f:Bool)(d:By->Int->Option R)(e:By->Bool->Option R):Option R:=cond f (cond (N3 2 (a.length:Int) a.length) (vl (cut a 2 (a.length:Int)) λc=>d c 16) none) (cond (not (ltI (a.length:Int) (2:Int))) (cond (inR 0 a.length) (cond ((bAt a (0:Int))==48) (cond (N3 1 (a.length:Int) a.length) (vl (cut a 1 (a.length:Int)) λb=>d b 8) none) (e a ((bAt a (0:Int))==48))) none) (e a false))
abbrev BC(b:Code):Prop:=∀(k:Out->St W->Option R) c d,B8 (L2 L) Q Y b ⟨gp [(0,pS c),(3,pI (10:Int)),(22,pB d)] 32,[],s⟩ k=Jr c d (λc a=>k .normal ⟨gp [(0,pS c),(3,pI a)] 55,[],s⟩) (λc d=>k .normal ⟨gp [(0,pS c),(3,pI (10:Int)),(32,pB d)] 22,[],s⟩)
theorem SU:BC (R:=R) L Q Y s (cd [1,1,1,0,1] Y3):=by intro k b a;unfold Jr;kernel_rfl
noncomputable def Bu{R:Type}(L n:Nat)(f:By)(a i d:Int)(g:Unit->Option R)(h:Int->Option R):Option R:=match n with|0=>none|n+1=>cond (ltI d (f.length:Int)) (cond (inR d f.length) (cond (inR (bAt f d) 256) (vl (↑(dig (u8n (bAt f d))):Int) λb=>cond (not (ltI b a)) (g ()) (vl (A2 ((A2 (i*a))+b)) λc=>vl (if ((1099511627776:Int)<c) then (1099511627776:Int) else c) λe=>Bu L n f a e (A2 (d+1)) g h)) none) none) (h i)
theorem Xk(n s0 base1 n2 i3):E7 0 ((L2 L).keep 10) (bd (L2 L) Q Y (cd [1,1,1,1,1,0,1,0,0] Y3)) n ⟨gp [(0,pS s0),(3,pI base1),(0,pI n2),(0,pI i3)] 53,[],s⟩ k =
 Bu L n s0 base1 n2 i3 (λ_=>k .ret ⟨gp [(2,pI (0:Int)),(0,pB false)] 56,[],s⟩) (λn0=>k (.exit 0) ⟨gp [(5,pI n0)] 54,[],s⟩):=by
 induction n generalizing s0 base1 n2 i3 with
 | zero=>rfl
 | succ n a=>rw[Bu];simp only[<-a];kernel_rfl
noncomputable def Js{R:Type}(L:Nat)(d:By)(a:Int)(c:Int->Bool->Option R):Option R:=Bu L L d a 0 0 (λ_=>c 0 false) (λb=>c b true)
abbrev BD(b:Code):Prop:=∀(k:Out->St W->Option R) s0 base1,B8 (L2 L) Q Y b ⟨gp [(0,pS s0),(3,pI base1)] 55,[],s⟩ k=Js L s0 base1 (λn0 a=>k .ret ⟨gp [(2,pI n0),(0,pB a)] 56,[],s⟩)
theorem SW:BD (R:=R) L Q Y s (cd [1,1,1,1] Y3):=by intro k b a;unfold Js;exact(j7 (by kernel_rfl) ((Xk L Q Y s (I2 0 (I8 (L2 L) Q Y (cd [1,1,1,1,1,1] Y3) k)) L b a 0 0).trans (by kernel_rfl)))
noncomputable def Jt{R:Type}(L:Nat)(c:By)(b:Int->Bool->Option R):Option R:=Bu L L c 10 0 0 (λ_=>b 0 false) (λa=>b a true)
abbrev BE(b:Code):Prop:=∀(k:Out->St W->Option R) s0 a,B8 (L2 L) Q Y b ⟨gp [(0,pS s0),(3,pI (10:Int)),(32,pB a)] 22,[],s⟩ k=Jt L s0 (λn0 a=>k .ret ⟨gp [(2,pI n0),(0,pB a)] 56,[],s⟩)
theorem SX:BE (R:=R) L Q Y s (cd [1,1,1,1] Y3):=by intro k a b;unfold Jt;exact(j7 (by kernel_rfl) ((Xk L Q Y s (I2 0 (I8 (L2 L) Q Y (cd [1,1,1,1,1,1] Y3) k)) L a 10 0 0).trans (by kernel_rfl)))
noncomputable def Ao3{R:Type}(L:Nat)(a:By)(e:Int->Bool->Option R):Option R:=cond (a==[]) (e 0 false) (cond (not (ltI (a.length:Int) (2:Int))) (cond (inR 0 a.length) (cond ((bAt a (0:Int))==48) (cond (inR 1 a.length) (cond ((bAt a (1:Int))==120) (Td a (λB=>Te L B (λA z=>e A z))) (cond (inR 1 a.length) (Jr a ((bAt a (1:Int))==88) (λt b=>Js L t b (λm f=>e m f)) (λu C=>Jt L u (λn g=>e n g))) none)) none) (Jr a false (λv c=>Js L v c (λo h=>e o h)) (λw D=>Jt L w (λp i=>e p i)))) none) (Jr a false (λx d=>Js L x d (λq j=>e q j)) (λy F=>Jt L y (λr l=>e r l))))
theorem A27(e:Code)(f:BA (R:=PV × List Blk × W) L Q Y s e)(a:BC (R:=PV × List Blk × W) L Q Y s e)(d:Code)(g:BB (R:=PV × List Blk × W) L Q Y s d)(b:BD (R:=PV × List Blk × W) L Q Y s d)(c:BE (R:=PV × List Blk × W) L Q Y s d)(m:By):B8 (L2 L) Q Y (cd [] (X3 [1,1,1,1] d (X3 [1,1,1,0,1] e Y3))) ⟨[pS m]++tps 59,[],s⟩ (J6 (L2 L) af2)=Ao3 L m (λz A=>some (.tup [pI z,pB A],[],s)):=by unfold Ao3;exact let l:=(J6 (L2 L) af2);let x:=(I8 (L2 L) Q Y d l);(j7 (by kernel_rfl) (A1 rfl (A1 (A1 (A1 (A1 (A1 ((f x m).trans (congr rfl (fx1 λy=>(j7 (by kernel_rfl) ((g l y).trans (by kernel_rfl)))))) (A1 ((a x m ((bAt m (1:Int))==88)).trans (congr (congr rfl (fx2 λq h=>(j7 (by kernel_rfl) ((b l q h).trans (by kernel_rfl))))) (fx2 λr n=>(j7 (by kernel_rfl) ((c l r n).trans (by kernel_rfl)))))) rfl)) rfl) ((a x m false).trans (congr (congr rfl (fx2 λt i=>(j7 (by kernel_rfl) ((b l t i).trans (by kernel_rfl))))) (fx2 λu o=>(j7 (by kernel_rfl) ((c l u o).trans (by kernel_rfl))))))) rfl) ((a x m false).trans (congr (congr rfl (fx2 λv j=>(j7 (by kernel_rfl) ((b l v j).trans (by kernel_rfl))))) (fx2 λw p=>(j7 (by kernel_rfl) ((c l w p).trans (by kernel_rfl)))))))))
theorem A28(d:Nat)(s0):evC (L2 L) (d+1) W Y 120 [pS s0] [] s=Ao3 L s0 (λa b=>some (.tup [pI a,pB b],[],s)):=
 (evE (fn:=af2) (by kernel_rfl)).trans (j7 (by kernel_rfl) (A27 L (evC (L2 L) d) Y s (cd [1,1,1,0,1] Y3) (SQ L (evC (L2 L) d) Y s) (SU L (evC (L2 L) d) Y s) (cd [1,1,1,1] Y3) (ST L (evC (L2 L) d) Y s) (SW L (evC (L2 L) d) Y s) (SX L (evC (L2 L) d) Y s) s0))
noncomputable def Ux(L:Nat):Cfg:=C3 L [118] (A4 []) [(68,Mb)] (A4 [(4,[2]),(3,[3]),(2,[3,13]),(1,[3]),(0,[0])]) [] (A4 []) (some [2]) [] [] []
noncomputable def GQ{R:Type}(L:Nat)(f:By)(d:LL->Option R):Option R:=cond (A3 f.length) (vl (H5 (pcs (u8n (46:Int)) f)) λa=>cond (ltI 1 (a.length:Int)) (vl (A2 ((a.length:Int)-1)) λb=>cond (inR b a.length) (cond (okE Jy a (j2 b) 0) (vl (gX a (j2 b) 0) λe=>cond (e==[]) (vl (A2 ((a.length:Int)-1)) λc=>cond (N3 0 c a.length) (d (cut a 0 c)) none) (d a)) none) none) (d a)) none
theorem Aa7(d:Nat)(s0):evC (Ux L) (d+1) W Y 118 [pS s0] [] s=GQ L s0 (λa=>some (.s (.sl false false 1 a),[],s)):=by refine(evE (fn:=Tryz.f118) (by kernel_rfl)).trans ?_;generalize evC (Ux L) d=Q;unfold GQ;kernel_rfl
noncomputable def Lf(L:Nat):Cfg:=C3 L [92] (A4 []) [(118,HP),(119,Yw),(120,Af5)] (A4 [(6,[2]),(5,[4,1]),(4,[2]),(3,[4,11]),(2,[4]),(1,[3]),(0,[0])]) [119,120] (A4 []) (some [2]) [] [] []
noncomputable def Nr{R:Type}(L:Nat)(d:By)(c:Bool->Option R):Option R:=cond (A3 d.length) (vl (A2 ((↑(a8 (H5 (F8 d))):Int)-1)) λb=>cond (inR b (a8 (H5 (F8 d)))) (cond (okE Jy (H5 (F8 d)) (j2 b) 0) (vl (gX (H5 (F8 d)) (j2 b) 0) λa=>cond (A3 a.length) (cond ((not (u7 a))&&(o0 (F1 10 0 a))) (c true) (cond (A3 a.length) (vl (↑(Ln (Cu a)):Int) λe=>cond (o0 (Cu a)) (cond (not (ltI (a.length:Int) (2:Int))) (cond (inR 1 a.length) (cond ((bAt a (1:Int))==120) (c true) (cond (inR 1 a.length) (c ((bAt a (1:Int))==88)) none)) none) (c false)) (c false)) none)) none) none) none) none
theorem KP(d:Nat)(s0):evC (Lf L) (d+1) W Y 92 [pS s0] [] s=Nr L s0 (λa=>some (pB a,[],s)):=by refine(evE (fn:=Tryz.f92) (by kernel_rfl)).trans ?_;generalize evC (Lf L) d=Q;unfold Nr;kernel_rfl
noncomputable def Pp(L:Nat):Cfg:=C3 L [112] (A4 []) [(136,Ok)] (A4 [(1,[4]),(0,[0,0])]) [] (A4 []) (some [4]) [] [] []
noncomputable def Tg{R:Type}(L:Nat)(c a:By)(d:Nat->LL->Option R):Option R:=cond (A3 c.length) (cond (a.length==1) (cond ((0:Int)==0) (cond (((-1):Int)==((-1):Int)) (vl (H5 (pcs (o9 a 0 0) c)) λb=>d (a8 (pcs (o9 a 0 0) c)) b) none) none) none) none
theorem TY(d:Nat)(s0 sep1):evC (Pp L) (d+1) W Y 112 [pS s0,pS sep1] [] s=Tg L s0 sep1 (λa b=>some (.vw 0 0 a,[.arr false 9 1 b],s)):=by refine(evE (fn:=Tryz.f112) (by kernel_rfl)).trans ?_;generalize evC (Pp L) d=Q;unfold Tg;kernel_rfl
end
end
section
open Go
theorem Iz(b:UInt8):(48<=b.toNat/\b.toNat<=57/\dig b=b.toNat-48)\/(97<=b.toNat/\b.toNat<=102/\dig b=b.toNat-87)\/(65<=b.toNat/\b.toNat<=70/\dig b=b.toNat-55)\/(¬(48<=b.toNat/\b.toNat<=57)/\¬(97<=b.toNat/\b.toNat<=102)/\¬(65<=b.toNat/\b.toNat<=70)/\dig b=99):=by
 unfold dig;split
 ·rename_i h;exact .inl ⟨h.1,h.2,rfl⟩
 ·split
  ·rename_i h;exact .inr (.inl ⟨h.1,h.2,rfl⟩)
  ·split
   ·rename_i h;exact .inr (.inr (.inl ⟨h.1,h.2,rfl⟩))
   ·exact .inr (.inr (.inr ⟨by assumption,by assumption,by assumption,rfl⟩))
theorem Ap3(m:Nat):(if (1099511627776:Int)<(m:Int) then (1099511627776:Int) else (m:Int))=((min m Jx:Nat):Int):=by unfold Jx;split<;>omega
theorem Wz{c:UInt8}{s:By}(h:c∉s):pcs c s=[s]:=by unfold pcs;rw[Bx c s [] h];rfl
theorem WN{c:UInt8}{p r:By}(h:c∉p):pcs c (p++c::r)=p::pcs c r:=by unfold pcs;rw[Rz c p [] r h];rfl
theorem Gh(c:UInt8)(s:By):(pcs c s).length=s.count c+1:=Dx c s []
theorem QW(c:UInt8)(s:By):pcs c s≠[]:=TV c s []
theorem Sy{c:UInt8}{s x:By}(h:x∈pcs c s):c∉x/\x.length<=s.length:=by have:=Il c s [] (by simp) x h;simpa using this
theorem Hw(c:UInt8)(s:By):s.count c<=s.length:=List.count_le_length
theorem Im(c:UInt8):∀s:By,c∉s\/∃p r,s=p++c::r/\c∉p
 | []=>.inl (by simp)
 | b::s=>by
  by_cases h:b=c
  ·subst h;exact .inr ⟨[],s,rfl,by simp⟩
  ·rcases Im c s with a|⟨p,r,rfl,d⟩
   ·exact .inl (by simp[a,Ne.symm h])
   ·exact .inr ⟨b::p,r,rfl,by simp[d,Ne.symm h]⟩
theorem Wa{c:UInt8}{s:By}(h:c∉s):ac0 s [c]=-1:=by
 rcases ag1 s [c] with a|⟨i,a,e,b,f⟩
 ·exact a.1
 ·exfalso;simp only[af0,v8] at b;obtain⟨t,d⟩:=b;have:c∈s.drop i:=by rw[<-d];simp
  exact h (ad6 this)
theorem Zw{c:UInt8}{p r:By}(h:c∉p):ac0 (p++c::r) [c]=(p.length:Int):=by
 rcases ag1 (p++c::r) [c] with d|⟨i,d,m,f,g⟩
 ·exfalso;have:=d.2 p.length (by simp);simp[af0] at this
 ·rw[d];have n:¬p.length<i:=by
   intro a;have:=g p.length a;simp[af0] at this
  have k:¬i<p.length:=by
   intro a;simp only[af0,v8] at f;obtain⟨t,b⟩:=f;have j:(p++c::r).drop i=p.drop i++c::r:=by rw[aa2 (by omega)]
   rw[j] at b;cases e:p.drop i with
   | nil=>have:=List.length_drop (i:=i) (l:=p);rw[e] at this;simp at this;omega
   | cons x y=>
    rw[e] at b;simp at b;have:x∈p:=ad6 (i:=i) (by rw[e];simp);rw[<-b.1] at this;exact h this
  omega
theorem ZM(s:By):F8 s≠[]:=by
 unfold F8;split
 ·rename_i h;intro e;have:=congrArg a8 e;simp at this;omega
 ·exact QW _ _
theorem Wy{s x:By}(h:x∈F8 s):x.length<=s.length:=by
 unfold F8 at h;split at h
 ·exact(Sy ((List.dropLast_sublist _).subset h)).2
 ·exact(Sy h).2
theorem Lo(s:By):1<=(F8 s).length/\(F8 s).length<=s.length+1:=by
 have a:=ae2.2 (ZM s);have b:=Gh 46 s;have c:=Hw 46 s;refine⟨a,?_⟩;unfold F8;split
 ·rw[List.length_dropLast];omega
 ·omega
theorem Qg(s:By):(F8 s).getD ((F8 s).length-1) []=Fa s:=by unfold Fa;rw[List.getLastD_eq_getLast?,List.getLast?_eq_getElem?,j5]
theorem AA(s:By):Fa s∈F8 s:=by have h:=(Lo s).1;rw[<-Qg,j5,a7 (by omega)];exact j6 _
theorem Ej{base:Nat}:∀{s:By} {n i:Nat},i<s.length->base<=dig (s.getD i 0)->F1 base n s=none
 | [],n,i,h,_=>by simp at h
 | b::r,n,0,h,a=>by
  simp only[x3] at a;simp only[F1];rw[V2]
 | b::r,n,i+1,h,a=>by
  simp only[ae0] at a;simp only[F1];split
  ·exact Ej (i:=i) (by simpa using h) a
  ·rfl
theorem Qe(s:By):W6 s=true↔s.getD 0 0=48/\(s.getD 1 0=120\/s.getD 1 0=88):=by simp[W6]
theorem Jc{s:By}(h:W6 s=true):2<=s.length:=by
 rw[Qe] at h
 match s with
 | []=>simp at h
 | [a]=>simp at h
 | a::b::r=>simp
theorem Am3(l:By):(if W6 l then (F1 16 0 (l.drop 2)).isSome else !l.isEmpty&&(F1 10 0 l).isSome) =
  (if (!l.isEmpty&&(F1 10 0 l).isSome)=true then true else (if (Cu l).isSome=true then decide (2<=l.length)&&(l.getD 1 0==120||l.getD 1 0==88) else false)):=by
 by_cases b:W6 l=true
 ·have g:=Jc b;have j:=(Qe l).1 b;have f:F1 10 0 l=none:=Ej (i:=1) (by omega) (by rcases j.2 with h|h<;>rw[h]<;>decide);have d:Cu l=F1 16 0 (l.drop 2):=by
   unfold Cu;rw[if_neg (by intro e;rw[e] at g;simp at g),if_pos b]
  rw[if_pos b,f,d];have c:(l.getD 1 0==120||l.getD 1 0==88)=true:=by simpa using j.2
  rw[c];simp[g]
 ·rw[if_neg b];cases n:(!l.isEmpty&&(F1 10 0 l).isSome) with
  | true=>rfl
  | false=>
   rw[if_neg (by simp)];cases d:Cu l with
   | none=>rfl
   | some v=>
    rw[show(some v).isSome=true from rfl,if_pos rfl]
    symm
    rw[Bool.and_eq_false_iff];by_cases c:2<=l.length
    ·right
     apply ab2;intro a;have a:l.getD 1 0=120\/l.getD 1 0=88:=by
      cases k:(l.getD 1 0==120||l.getD 1 0==88) with
      | false=>exact absurd k a
      | true=>simpa using k
     have m:¬l.getD 0 0=48:=λh=>b ((Qe l).2 ⟨h,a⟩)
     have f:F1 10 0 l=none:=Ej (i:=1) (by omega) (by rcases a with h|h<;>rw[h]<;>decide);unfold Cu at d;rw[if_neg (by intro e;rw[e] at c;simp at c),if_neg b,if_neg (by intro h;exact m h.2),f] at d;cases d
    ·left;simpa using c
end
section
open Go Go.Proofs
theorem YY{R:Type}{a:Bool->Option R}(s p:By)(b:A3 s.length=true):Ay0 LF s p a=a (p.isPrefixOf s):=by
 have:=N6 b;unfold Ay0;rw[Gy];by_cases h:p.length<=s.length
 ·simp_all
 ·simp (disch:=omega) [h]
theorem YH{R:Type}{a:Bool->Option R}(s p:By)(b:A3 s.length=true):JC LF s p a=a (p.isPrefixOf s):=by unfold JC;rw[b];rfl
theorem YZ{R:Type}{a:Bool->Option R}(s p:By)(b:A3 s.length=true):Ay2 LF s p a=a (p.isSuffixOf s):=by
 have:=N6 b;unfold Ay2;rw[Gz];by_cases h:p.length<=s.length
 ·have e:((s.length:Int)-(p.length:Int)).toNat=s.length-p.length:=by omega
  simp (disch:=omega) [h,e]
 ·simp (disch:=omega) [h]
theorem QD{R:Type}{b:By->Option R}(s p:By)(a:A3 s.length=true):WH LF s p b=b (Ac6 s p):=by
 have:=N6 a;unfold WH Ac6;rw[a];cases h:p.isSuffixOf s with
 | false=>simp
 | true=>
  have:p.length<=s.length:=by rw[Gz] at h;simp at h;exact h.1
  have e:((s.length:Int)-(p.length:Int)).toNat=s.length-p.length:=by omega
  simp (disch:=omega) [e]
theorem UC{R:Type}{a:By->Option R}(s p:By)(b:A3 s.length=true):XG LF s p a=a (Ac6 s p):=by unfold XG;rw[b];rfl
theorem PP{R:Type}{b:By->Bool->Option R}(s p:By)(a:A3 s.length=true):WC LF s p b=b (Vh s p) (p.isPrefixOf s):=by
 have:=N6 a;unfold WC Vh;rw[a];cases h:p.isPrefixOf s with
 | false=>simp
 | true=>
  have:p.length<=s.length:=by rw[Gy] at h;simp at h;exact h.1
  simp_all
theorem XR{R:Type}{a:By->Bool->Option R}(s p:By)(b:A3 s.length=true):Au3 LF s p a=a (Vh s p) (p.isPrefixOf s):=by unfold Au3;rw[b];rfl
theorem LN{R:Type}{a:LL->Option R}(s p:By)(b:A3 s.length=true)(c:(p.length==1)=true):GW LF s p a=a (H5 (pcs (p.getD 0 0) s)):=by unfold GW;rw[b,c];rfl
theorem YV{R:Type}{k0:LL->Option R}(s:By)(o:s.length<=1000000000):∀(r i n:Nat),i+r=s.length->r<n->Bn LF n s (s.length:Int) (i:Int) ((G8 (s.take i)).map D7) k0=k0 ((G8 s).map D7):=by
 intro r
 induction r with
 | zero=>
  intro i n g j;obtain⟨n,rfl⟩:∃m,n=m+1:=⟨n-1,by omega⟩
  rw[Bn];rw[A6,u9 (by omega)];rfl
 | succ r a=>
  intro i n g j;obtain⟨n,rfl⟩:∃m,n=m+1:=⟨n-1,by omega⟩
  rw[Bn];have h:(G8 (s.take i)).length=i:=by simp[G8];omega
  have a:=a (i+1) n (by omega) (by omega);rw[PZ s i (by omega)] at a;rw[J1];have l:=(s.getD i 0).toNat_lt;generalize s.getD i 0=b at *;have c:((i:Int)+1)=((i+1:Nat):Int):=by omega
  simp (disch:=omega) only[D0,M4,cond_true,vl,s8,h,E9,G7];rw[c];rcases Lk b with⟨d,e⟩|⟨d,e⟩|⟨d,k,e⟩
  ·simp (disch:=omega) only[D0,p5,cond_false];rw[e] at a;exact a
  ·simp (disch:=omega) only[E4,D0,p5,o5,cond_false,cond_true];rw[e] at a;exact a
  ·have f:wu8 ((b.toNat:Int)+32)=((Gd b).toNat:Int):=by
    rw[R7];omega
   simp (disch:=omega) only[E4,o5,cond_true,f];exact a
theorem YW{R:Type}{k0:By->LL->Option R}(s:By)(b:A3 s.length=true):Ax8 LF s k0=k0 (G8 s) ((G8 s).map D7):=by have c:=N6 b;have:=F9;unfold Ax8;simp (disch:=omega) only[k9,E9,ag7];rw[show(decide ((0:Int)<=(s.length:Int)))=true by simp];have:=YV (k0:=λa=>cond (ad3 a Sk) (k0 (v7 Pu a) a) none) s c s.length 0 LF (by omega) (by omega);simp only[List.take_zero,G8,List.map_nil] at this;rw[cond_true];refine j7 this ?_;rw[show(v7 Gd s).map D7=(G8 s).map D7 from rfl,Et,Fd];rfl
theorem YF{R:Type}{c:Bool->Option R}(s:By)(d:A3 s.length=true):Aw6 LF s c=c (W6 s):=by
 unfold Aw6;have key:W6 s=(([48,120]:By).isPrefixOf s||([48,88]:By).isPrefixOf s):=by
  match s with
  | []=>rfl
  | [a]=>simp[W6,o6]
  | a::b::r=>
   simp only[W6,o6,x3,ae0,ag7];rw[ah9 (a:=(48:UInt8)),ah9 (a:=(120:UInt8)),ah9 (a:=(88:UInt8))];cases (a==48)<;>simp
 grind
theorem XU{R:Type}{k0:Unit->Option R}{k1:Int->Option R}(s:By)(C:s.length<=1000000000)(base:Nat)(B:base<=16):∀(r i a n:Nat),i+r=s.length->r<n->a<=Jx->
  Dk LF n s (base:Int) (a:Int) (s.length:Int) (i:Int) k0 k1=match F1 base a (s.drop i) with|some v=>k1 (v:Int)|none=>k0 ():=by
 intro r
 induction r with
 | zero=>
  intro i a n u w q;obtain⟨n,rfl⟩:∃m,n=m+1:=⟨n-1,by omega⟩
  rw[Dk];rw[A6,List.drop_of_length_le (by omega)];rfl
 | succ r l=>
  intro i a n u w q;obtain⟨n,rfl⟩:∃m,n=m+1:=⟨n-1,by omega⟩
  rw[Dk,J0 s i (by omega)];rw[J1];have t:=(s.getD i 0).toNat_lt;generalize s.getD i 0=b at *;have k:((i:Int)+1)=((i+1:Nat):Int):=by omega
  have o:Jx=1099511627776:=rfl;have step:∀d:Nat,d<base->(a*base+d<100000000000000/\A2 (A2 ((a:Int)*(base:Int))+(d:Int))=((a*base+d:Nat):Int)):=by
   intro d c;have h:a*base<=1099511627776*16:=Nat.mul_le_mul (by omega) (by omega);refine⟨by omega,?_⟩;have p:A2 ((a*base:Nat):Int)=((a*base:Nat):Int):=A5;rw[<-Int.natCast_mul,p,A5];rfl
  simp (disch:=omega) only[D0,M4,cond_true,vl,G7,Mn,Mm,Ml];rw[k];simp only[F1];rcases Iz b with⟨h,j,e⟩|⟨h,j,e⟩|⟨h,j,e⟩|⟨h,j,A,e⟩
  ·have f:wu8 ((b.toNat:Int)-48)=((dig b:Nat):Int):=by rw[R7];omega
   simp (disch:=omega) only[D0,E4,p5,o5,cond_false,cond_true,f,G7];by_cases c:dig b<base
   ·rw[if_pos c,A8,(step _ c).2,Ap3];exact l (i+1) _ n (by omega) (by omega) (by omega)
   ·rw[if_neg c,A6];rfl
  ·have f:wu8 ((b.toNat:Int)-97)+10=((dig b:Nat):Int):=by rw[R7];omega
   have g:wu8 ((b.toNat:Int)-97)=((b.toNat:Int)-97):=R7;rw[g] at f;simp (disch:=omega) only[D0,E4,p5,o5,cond_false,cond_true,g,G7,f];by_cases c:dig b<base
   ·rw[if_pos c,A8,(step _ c).2,Ap3];exact l (i+1) _ n (by omega) (by omega) (by omega)
   ·rw[if_neg c,A6];rfl
  ·have f:wu8 ((b.toNat:Int)-65)+10=((dig b:Nat):Int):=by rw[R7];omega
   have g:wu8 ((b.toNat:Int)-65)=((b.toNat:Int)-65):=R7;rw[g] at f;simp (disch:=omega) only[D0,E4,p5,o5,cond_false,cond_true,g,G7,f];by_cases c:dig b<base
   ·rw[if_pos c,A8,(step _ c).2,Ap3];exact l (i+1) _ n (by omega) (by omega) (by omega)
   ·rw[if_neg c,A6];rfl
  ·rw[if_neg (show ¬dig b<base by omega)];by_cases x:b.toNat<48
   ·simp (disch:=omega) only[D0,E4,p5,o5,cond_false,cond_true]
   ·by_cases y:b.toNat<65
    ·simp (disch:=omega) only[D0,E4,p5,o5,cond_false,cond_true]
    ·by_cases z:b.toNat<97
     ·simp (disch:=omega) only[D0,E4,p5,o5,cond_false,cond_true]
     ·simp (disch:=omega) only[D0,E4,p5,o5,cond_false,cond_true]
theorem XV{R:Type}{k0:Int->Bool->Option R}(s:By)(base:Int)(c:A3 s.length=true)(d:ltN base 17=true):Aj1 LF s base k0=k0 (Ln (F1 base.toNat 0 s):Int) (F1 base.toNat 0 s).isSome:=by have f:=N6 c;have:=F9;obtain⟨a,e⟩:=K7.1 d;obtain⟨b,rfl⟩:=p9 a;unfold Aj1;have:=XU (k0:=λ_=>k0 0 false) (k1:=λn=>k0 n true) s f b (by omega) s.length 0 0 LF (by omega) (by omega) (by unfold Jx;omega);refine j7 this ?_;rw[ad4,k9];cases F1 b 0 s<;>rfl
theorem Am2{R:Type}{f:Int->Bool->Option R}(s:By)(d:A3 s.length=true):num LF s f=f (Ln (Cu s):Int) (Cu s).isSome:=by
 have k:=N6 d;unfold num Cu;rw[d];by_cases a:s=[]
 ·subst a;rfl
 have c:(s==([]:By))=false:=by simpa using a
 have j:0<s.length:=ae2.2 a;rw[if_neg a,c];simp only[cond_true,cond_false,vl];cases h:W6 s with
 | true=>
  have:=Jc h;simp (disch:=first|omega|(simp;omega)) only[cond_true,if_true,R4,N7,L5,WG];rfl
 | false=>
  simp only[cond_false,aa9,if_false];have i:(F1 10 0 s)=F1 10 0 s:=rfl;by_cases g:1<s.length
  ·simp (disch:=omega) only[D0,M4,cond_true,Hp,g,true_and];have e:=T3 (s.getD 0 0) 48 (by omega);rw[show((48:Nat):Int)=48 from rfl] at e;rw[e];by_cases b:s.getD 0 0=48
   ·rw[if_pos b,b,show((48:UInt8)==u0 48)=true from rfl];simp (disch:=first|omega|(simp;omega)) only[R4,N7,L5,WG,cond_true];rfl
   ·rw[if_neg b,show(s.getD 0 0==u0 48)=false from beq_eq_false_iff_ne.2 b];rfl
  ·rw[A6,V2];rfl
theorem FU{R:Type}{b:Bool->Option R}(s:By)(a:A3 s.length=true):Sw LF s b=b (R1 s):=by
 have i:=N6 a;have h:=Lo s;have g:=Wy (AA s);have d:=Qg s;have c:((F8 s).length:Int)-1=(((F8 s).length-1:Nat):Int):=by omega
 unfold Sw R1;rw[a];simp (disch:=omega) only[cond_true,vl,N2,c,G7,M4,k9,Cw,Fz,d,L5];cases f:W6 (Fa s) with
 | true=>
  have:=Jc f;have e:Cu (Fa s)=F1 16 0 ((Fa s).drop 2):=by
   unfold Cu;grind
  simp[e]
 | false=>
  simp only[cond_false,aa9,if_false];cases F1 10 0 (Fa s) with
  | none=>simp
  | some v=>cases Fa s<;>rfl
theorem Yq{R:Type}{c:Bool->Option R}(s:By)(a:A3 s.length=true):Nr LF s c=c (R1 s):=by
 have j:=N6 a;have i:=Lo s;have h:=Wy (AA s);have e:=Qg s;have d:((F8 s).length:Int)-1=(((F8 s).length-1:Nat):Int):=by omega
 unfold Nr R1;rw[a,Am3];simp (disch:=omega) only[cond_true,vl,N2,d,G7,M4,k9,Cw,Fz,e,L5];generalize Fa s=l at *;cases (!l.isEmpty&&(F1 10 0 l).isSome) with
 | true=>rfl
 | false=>
  simp only[cond_false,aa9,if_false];cases Cu l with
  | none=>rfl
  | some v=>
   simp only[Option.isSome_some,cond_true,if_true,VI];by_cases b:2<=l.length
   ·simp (disch:=omega) only[E4,M4,o5,cond_true,b,decide_true,Bool.true_and];have f:=T3 (l.getD 1 0) 120 (by omega);have g:=T3 (l.getD 1 0) 88 (by omega);grind
   ·rw[A8];simp[b]
theorem Bm1(s:By)(a b:Nat)(h:a<=b)(c:b<s.length):cut s (a:Int) ((b+1:Nat):Int)=cut s (a:Int) (b:Int)++[s.getD b 0]:=by rw[Mj,Mj,BO s b c,aa2 (by rw[List.length_take];omega)]
theorem Ai8(s:By)(a:Nat):cut s (a:Int) (a:Int)=[]:=by rw[Mj];grind
theorem LA{R:Type}{k0:LL->Option R}(s:By)(p:s.length<=1000000000)(c:UInt8):∀(r i a n:Nat) (l:List By),i+r=s.length->r+1<n->a<=i->l.length<=i->
  P8 LF n s (c.toNat:Int) (a:Int) (i:Int) (H5 l) k0=k0 (H5 (l++I5 c (cut s (a:Int) (i:Int)) (s.drop i))):=by
 intro r
 induction r with
 | zero=>
  intro i a n l j o f k;obtain⟨n,rfl⟩:∃m,n=m+1:=⟨n-1,by omega⟩
  obtain⟨n,rfl⟩:∃m,n=m+1:=⟨n-1,by omega⟩
  have b:i=s.length:=by omega
  subst b;rw[P8];simp (disch:=omega) only[E4,o5,cond_true,beq_self_eq_true,R4,N2,E9,G7];rw[P8];rw[A8,List.drop_length];simp only[p5,cond_false,I5,Xv];rfl
 | succ r g=>
  intro i a n l j o f k;obtain⟨n,rfl⟩:∃m,n=m+1:=⟨n-1,by omega⟩
  rw[P8];have d:((i:Int)+1)=((i+1:Nat):Int):=by omega
  have e:((i:Int)==(s.length:Int))=false:=by rw[beq_eq_false_iff_ne];omega
  simp (disch:=omega) only[E4,o5,cond_true,cond_false,e,M4,J1,Bc9,R4,N2,E9,G7];rw[d,J0 s i (by omega)];simp only[I5];by_cases h:s.getD i 0=c
  ·rw[show(s.getD i 0==c)=true by simpa using h,if_pos h,cond_true];have:=g (i+1) (i+1) n (l++[cut s (a:Int) (i:Int)]) (by omega) (by omega) (by omega) (by simp<;>omega);rw[Xv] at this;refine j7 this ?_;rw[Ai8];simp
  ·rw[show(s.getD i 0==c)=false from beq_eq_false_iff_ne.2 h,if_neg h,cond_false];rw[g (i+1) a n l (by omega) (by omega) (by omega) (by omega),Bm1 s a i f (by omega)]
theorem TN{R:Type}{k0:LL->Option R}(s:By)(c:Int)(a:A3 s.length=true)(d:inR c 256=true):Xm LF s c k0=k0 (H5 (pcs (u8n c) s)):=by
 have f:=N6 a;have:=F9;simp only[inR,j4,decide_eq_true_eq] at d;have e:c=((u8n c).toNat:Int):=by
  unfold u8n;simp;omega
 unfold Xm;generalize u8n c=b at *;subst e;have:=LA (k0:=k0) s f b s.length 0 0 LF [] (by omega) (by omega) (by omega) (by simp);refine j7 this ?_;rw[Ai8];rfl
theorem LS(c:UInt8)(s:By):(H5 (pcs c s)).isEmpty=false:=by
 cases h:pcs c s with
 | nil=>exact absurd h (QW c s)
 | cons a r=>rfl
theorem LB(s:By)(c:Int)(a:A3 s.length=true)(b:inR c 256=true):∃r H,Xm LF s c (λl=>rv (.fl 0) [.arr true 9 1 l])=rv r H/\r.stab [1] H = .s (.sl false false 1 (H5 (pcs (u8n c) s))):=by refine⟨_,_,TN s c a b,?_⟩;simp[PV.stab,Sj,PV.snap,LS]
theorem Ap4(d:List By)(x:By)(m:Nat):ad7 (H5 (d++j3 (m+1) [])) d.length (F4 (o9 (H5 (d++j3 (m+1) [])) d.length []) 0 [SV.str x])=H5 ((d++[x])++j3 m []):=by
 have a:o9 (H5 (d++j3 (m+1) [])) d.length []=[SV.str []]:=by
  unfold H5;grind
 rw[a];simp only[F4,List.set_cons_zero,Xv];rw[show d.length=(H5 d).length by simp,List.set_append_right _ _ (by omega),Nat.sub_self,ae3];simp[H5]
theorem JA{R:Type}{k0:By->Int->LL->Option R}(c:UInt8):∀(m n:Nat) (s:By) (d:List By),s.length<=1000000000->m=s.count c->d.length+m<=1000000000->m<n->
  ∃(f:List By) (e:By),pcs c s=f++[e]/\e.length<=s.length/\V0 LF n s [c] 0 ((d.length+m:Nat):Int) (d.length:Int) (H5 (d++j3 (m+1) [])) k0=k0 e ((d.length+m:Nat):Int) (H5 ((d++f)++[[]])):=by
 intro m
 induction m with
 | zero=>
  intro n s d k b x y;obtain⟨n,rfl⟩:∃m,n=m+1:=⟨n-1,by omega⟩
  have a:c∉s:=ab0.1 b.symm;refine⟨[],s,Wz a,p4 _,?_⟩;rw[V0];rw[A6];simp
 | succ m z=>
  intro n s d k b x y;obtain⟨n,rfl⟩:∃m,n=m+1:=⟨n-1,by omega⟩
  rcases Im c s with a|⟨p,r,rfl,a⟩
  ·rw[ab0.2 a] at b;omega
  ·have i:m=r.count c:=by
    rw[List.count_append,af7,ab0.2 a] at b;simp at b;omega
   simp only[ab1,af1] at k;obtain⟨f,e,w,B,j⟩:=z n r (d++[p]) (by omega) i (by simp<;>omega) (by omega);refine⟨p::f,e,by rw[WN a,w];rfl,by simp<;>omega,?_⟩;rw[V0];have l:((p.length:Int)+1)=((p.length+1:Nat):Int):=by omega
   have o:(d.length:Int)+1=((d.length+1:Nat):Int):=by omega
   have q:((p.length+1:Nat):Int).toNat=p.length+1:=by omega
   have A:(((p++c::r).length:Nat):Int)=((p.length+(r.length+1):Nat):Int):=by simp
   have t:(p++c::r).take p.length=p:=List.take_left' rfl;have u:(p++c::r).drop (p.length+1)=r:=by
    rw[show p++c::r=(p++[c])++r by simp,List.drop_left' (by simp)]
   rw[Zw a];have v:(H5 (d++j3 (m+1+1) [])).length=d.length+(m+2):=by simp<;>omega
   simp (disch:=first|omega|(simp;omega)) only[D0,E4,L5,cond_true,cond_false,vl,Int.add_zero,G7,R4,M4,v,k9,ad0,N7,Al,t,Ap4];rw[decide_eq_true (show d.length<d.length+(m+2) by omega),cond_true,show((1:Nat):Int)=1 from rfl,l];simp (disch:=first|omega|(simp;omega)) only[G7,R4,cond_true,N7,q,u,o];have g:((((d++[p]).length+m:Nat):Int))=((d.length+(m+1):Nat):Int):=by simp<;>omega
   have h:(((d++[p]).length:Nat):Int)=((d.length+1:Nat):Int):=by simp
   rw[g,h] at j;rw[j];simp
theorem Vy{R:Type}{k0:Unit->Option R}{g:Nat->LL->Option R}(s p:By)(v n:Int)(w:A3 s.length=true)(x:(p.length==1)=true)(y:(v==0)=true)(z:(n==(-1))=true) :
  Vx LF s p v n k0 g=g (pcs (p.getD 0 0) s).length (H5 (pcs (p.getD 0 0) s)):=by
 have C:=N6 w;have:=F9;obtain⟨c,rfl⟩:∃c,p=[c]:=by
  match p,x with
  | [c],_=>exact⟨c,rfl⟩
 have:v=0:=by simpa using y
 subst this;have:n=-1:=by simpa using z
 subst this;have G:=Hw c s;have B:=Gh c s;obtain⟨d,D,u,F,h⟩:=JA (R:=R) (k0:=λf a b=>cond (inR a (a8 b))
     (cond (decide ((j2 a)<(a8 b)))
      (vl (A2 (a+(1))) λe=>
      cond (N3 (0) e (a8 (ad7 b (j2 a) (F4 (o9 b (j2 a) []) 0 [(SV.str f)]))))
       (g ((j2 e)-0) (ad7 b (j2 a) (F4 (o9 b (j2 a) []) 0 [(SV.str f)])))
       (none))
      (none))
     (none)) c (s.count c) LF s [] C rfl (by simp<;>omega) (by omega)
 unfold Vx;have i:A2 ((s.count c:Int)+1)=((s.count c+1:Nat):Int):=A5;have j:A2 ((s.length:Int)+1)=((s.length+1:Nat):Int):=A5;have k:(if ((s.length+1:Nat):Int)<((s.count c+1:Nat):Int) then ((s.length+1:Nat):Int) else ((s.count c+1:Nat):Int))=((s.count c+1:Nat):Int):=V2;have l:((s.count c+1:Nat):Int)-1=(s.count c:Int):=by omega
 have m:(j3 (s.count c+1) [SV.str ([]:By)])=H5 ([]++j3 (s.count c+1) []):=by simp[H5]
 simp only[x3,vl,ad0,i,j,k,k9,m];rw[show((-1:Int)==0)=false from rfl,show([c]==([]:By))=false from rfl,show ltI (-1) 0=true from rfl,decide_eq_true (show(0:Int)<=((s.count c+1:Nat):Int) by omega),decide_eq_true (show((s.count c+1:Nat):Int)<=((s.count c+1:Nat):Int) by omega),E9 (by omega),l,A5];simp only[cond_true,cond_false,beq_self_eq_true,Bool.and_self];simp only[List.length_nil,ah6] at h;refine j7 h ?_;have o:(H5 ((([]:List By)++d)++[[]]))=H5 (d++j3 (0+1) []):=by simp
 have A:d.length=s.count c:=by grind
 have q:=Ap4 d D 0;rw[<-A,o];have t:(H5 (d++j3 (0+1) ([]:By))).length=d.length+1:=by simp
 have r:A2 ((d.length:Int)+1)=((d.length+1:Nat):Int):=A5;simp only[k9,q,t,vl,r];rw[K2,decide_eq_true (show d.length<d.length+1 by omega),R4 (by omega) (by omega) (by simp),u];simp
theorem JB(s p:By)(v n:Int)(a:A3 s.length=true)(b:(p.length==1)=true)(c:(v==0)=true)(d:(n==(-1))=true) :
  ∃r H,Vx LF s p v n (λ_=>rv (.fl 0) [.arr true 9 1 []]) (λi l=>rv (.vw 0 0 i) [.arr false 9 1 l])=rv r H/\r.stab [1] H = .s (.sl false false 1 (H5 (pcs (p.getD 0 0) s))):=by
 refine⟨_,_,Vy s p v n a b c d,?_⟩;simp[PV.stab,Sj,PV.snap,u9]
theorem GY{R:Type}{a:Nat->LL->Option R}(s p:By)(b:A3 s.length=true)(c:(p.length==1)=true):Tg LF s p a=a (pcs (p.getD 0 0) s).length (H5 (pcs (p.getD 0 0) s)):=by unfold Tg;rw[b,c];rfl
theorem QT{R:Type}{d:LL->Option R}(s:By)(b:A3 s.length=true):parts LF s d=d (H5 (F8 s)):=by
 have j:=N6 b;have g:=Gh 46 s;have i:=Hw 46 s;unfold parts;rw[b];have e:A2 (((pcs 46 s).length:Int)-1)=(((pcs 46 s).length-1:Nat):Int):=by rw[A5];omega
 simp only[cond_true,vl,x3,show((1:Nat)==1)=true from rfl,N2,e,k9];by_cases c:1<(pcs 46 s).length
 ·rw[A8,K2,Cw (by omega),Fz];have f:(pcs 46 s).getD ((pcs 46 s).length-1) []=(pcs 46 s).getLastD []:=by grind
  rw[f];by_cases a:(pcs 46 s).getLastD []=[]
  ·rw[a,show(([]:By)==[])=true from rfl,R3];have:F8 s=(pcs 46 s).dropLast:=by unfold F8;rw[if_pos ⟨c,a⟩]
   rw[this,ac9,Al,k9];simp[H5]
  ·rw[show((pcs 46 s).getLastD []==[])=false from beq_eq_false_iff_ne.2 a];have:F8 s=pcs 46 s:=by unfold F8;rw[if_neg (λh=>a h.2)]
   grind
 ·rw[A6];have:F8 s=pcs 46 s:=by unfold F8;rw[if_neg (λh=>c h.1)]
  grind
theorem KQ{R:Type}{d:LL->Option R}(s:By)(b:A3 s.length=true):GQ LF s d=d (H5 (F8 s)):=by
 have j:=N6 b;have g:=Gh 46 s;have i:=Hw 46 s;unfold GQ;rw[b];have e:A2 (((pcs 46 s).length:Int)-1)=(((pcs 46 s).length-1:Nat):Int):=by rw[A5];omega
 simp only[cond_true,vl,show u8n 46=46 from rfl,N2,e,k9];by_cases c:1<(pcs 46 s).length
 ·rw[A8,K2,Cw (by omega),Fz];have f:(pcs 46 s).getD ((pcs 46 s).length-1) []=(pcs 46 s).getLastD []:=by grind
  rw[f];by_cases a:(pcs 46 s).getLastD []=[]
  ·rw[a,show(([]:By)==[])=true from rfl,R3];have:F8 s=(pcs 46 s).dropLast:=by unfold F8;rw[if_pos ⟨c,a⟩]
   rw[this,ac9,Al,k9];simp[H5]
  ·rw[show((pcs 46 s).getLastD []==[])=false from beq_eq_false_iff_ne.2 a];have:F8 s=pcs 46 s:=by unfold F8;rw[if_neg (λh=>a h.2)]
   grind
 ·rw[A6];have:F8 s=pcs 46 s:=by unfold F8;rw[if_neg (λh=>c h.1)]
  grind
end
end Go.Proofs.YtghjngpjgomdnaaGreatDoor.E
