/-
  Parts of the proof, merged by a program of the prover's own; no condition.
-/
import Derived.Test.YtfkhfkjcidamaaaGreatDoorKMU1
import Derived.Deep.Draws
import Derived.JoinedCond
import Derived.KernelRfl
import Derived.Laws.RangeString
import Derived.Lib.IndexMore
import Derived.Lib.ItoaNum
import Derived.Lib.Join
import Derived.Lib.LaidTab
import Derived.Lib.LaidU8
import Derived.Lib.RuneCount
import Derived.Lib.TrailingZeros
import Derived.Lib.ValidU
import Derived.OpenShut
import Derived.ProofKit
import Derived.RangeFuncLeaves
import Derived.RangeFuncRecord
import Derived.Sort.Grow
import Derived.Sort.QuietThIn
import Derived.Test.YtfkhfkjcidamaaaGreatDoorProg
import Derived.WalkKit
open List renaming length->a8,getElem?_eq_getElem->b9,getElem_mem->j5,getD->j6,all_eq_true->j8,getElem_map->j9,eq_nil_iff_forall_not_mem->v8,replicate->w8,length_append->w9,mem_append->x4,isEmpty->x5,mem_cons->x6,append_nil->x8,length_map->y5,getElem_append_left->y8,getD_eq_getElem?_getD->aa4,isEmpty_iff->aa6,map->ab7,getElem?_eq_none->ac1,isPrefixOf->ac4,nil_append->ac5,getElem?_take->ac9,cons_append->ad3,getElem?_cons_zero->ad4,length_cons->ad5,length_take->ad6,take_of_length_le->ad8,length_singleton->ae3,drop_zero->ae7,mem_cons_of_mem->ae8,all->af7,getElem?_map->af8,map_nil->af9,any_eq_true->ag4,isSuffixOf->ah0,nodup_cons->ah1,drop_drop->ah5,mapM_cons->ah6,mem_range->ah7,range->ah8,take_add->ai2,all_map->ai5
open Option.some renaming injEq->b8
open Bool renaming and_eq_true->j0,or_eq_true->aa2,not_eq_true'->ab4,false_eq_true->af4,false_or->ai1
open Option renaming bind_some->j1,bind_none->j2,isSome->o0,isSome_iff_exists->p4,map_some->ae0
open Nat renaming lt_of_lt_of_le->j4,le_refl->j7,ble->o5,eq_of_beq_eq_true->p5,beq->p9,le_trans->w6,mod_eq_of_lt->x3,le_of_ble_eq_true->ac2,zero_add->ac8,lt_irrefl->af3,le_of_not_lt->ag5,ble_eq->ah9,add_comm->ai6,blt->ai7,zero_mul->ai8
open Go.World renaming putObj_heap_other->k9,putObj_heap_same->ad9,alloc_heap_new->af0,cells?_some->ag2,cell?->aj5
open Go.Region renaming ready->o6,wanted->o7,Mode->z7,noSelect->aa3,binds->ac0
open Array renaming getElem?_eq_some_iff->o8,replicate->x7,getD_eq_getD_getElem?->x9,getElem?_eq_getElem->aa8,getElem?_eq_none->ab3,length_toList->ac6,getElem?_replicate->ad1,mem_of_getElem?->ae1,toList_map->ag3
open Go.Deferred renaming ofValue->o9
open Go.IntKind renaming wrap->p6,signed->ab6,bits->ac7
open Int renaming toNat->p7,eq_ofNat_of_zero_le->y9
open Prod.mk renaming injEq->v7
open Go.Lib renaming decDigits->y7,decodeL->ae6,cut->af1,index->af2,join->ah4
open UInt8 renaming ofNat->aa0,toNat->aj4
open BitVec renaming ofInt->aa1,ofInt_natCast->ae4
open Go.Act renaming put_comm->aa5,put->af5
open Go.Value renaming okWide->aa7
open Decidable renaming byContradiction->aa9
open Go.Oper renaming semAt_eq->ab0,uponIn->ab2,quietAtIn->ab8,uponIn_enter->ab9,quietUponIn->ag6,wpIn->ag7
open Go.Fence renaming wide->ab1
open Go.Fn renaming func->ab5
open Go.DataW renaming TrodAll->ac3,trod->ad7,Whole->ai9
open Go.Result renaming andThen->ad0
open Classical renaming choose->ad2,choose_spec->ae2
open Go.Code renaming region->ae5,rangeFunc->ah2
open Or renaming inl->ae9
open Go.CallsIn renaming mono->af6
open Go.RoundIn renaming mono->ag0
open Go.Sem renaming run_bind->ag1
open Go.Proofs.Tryz renaming f177->ag8,f65->ai0
open Go.Ending renaming returned->ag9
open Eq renaming trans->ah3
open Go.StepsIn renaming trans->ai3
open Go.Instr renaming loadAt->ai4
open Go.RowsIn renaming mono->aj3
namespace Go.Proofs.YtfkhfkjcidamaaaGreatDoor.E
set_option linter.all false
section
open Go
section
variable {Z R : Type} {r : R} {C : Cfg} {I : Z -> (Nat -> Prop) -> (Nat -> Prop) -> World -> Prop} {Γ : Ctx} {L : Nat -> Prop} {st : St Z} {a : Act} {w : World} {cl : G4} {yh : Yh Z} {yv : Value} {o : Oper}
structure Ask (C:Cfg) (I:Z->(Nat->Prop)->(Nat->Prop)->World->Prop) (cl:G4) (yh:Yh Z) (yv:Value):Prop where
 hI:HI I
 hC:Cl C cl
 hX:XOK C
 hy:A15 C.P I yh yv
def EA{g:Nat}{args:List PV}{p e:Array Value}{k:PV->St Z->Option R}(A:Ask C I cl yh yv)(m:Γ.yv=yv)(h:Wo C cl yh g args st k=some r)(S:SI C I Γ L st e w)(n:CR Γ (A5 st.hp) w args p)(F:∀c∈C9 args,c<st.hp.length) :
  U5 C.P ((callFunc g p).run C.P w) (Ay7 C I Γ L st e w k r):=by
 unfold Wo at h;split at h
 ·rename_i x B;split at h
  ·rename_i f;obtain⟨ret,i,b,h⟩:=Bp h;have b:M9 (x (N1 st.hp args))=some (ret,i):=by
    cases z:C.xp g with
    | true=>rw[z] at b;exact(Ce b).1
    | false=>rw[z] at b;exact b
   obtain⟨q,t⟩:=C6 h;exact Ai0 A.hI A.hX S n B b (aa6.1 f) (by simpa only[aa2,ab4,j0] using q) t
  ·cases h
 ·dsimp only at h;split at h
  ·rename_i y;split at h
   ·rename_i j;have key:CR Γ (A5 st.hp) w (cond (C.lend g) args (N1 st.hp args)) p/\∀c∈C9 (cond (C.lend g) args (N1 st.hp args)),c<st.hp.length:=by
     cases v:C.lend g with
     | true=>exact⟨n,F⟩
     | false=>
      rw[v] at y;have G:Qt args=false:=by simpa using y
      obtain⟨H,J⟩:=n.snap_plain G;grind
    split at h
    ·rename_i x D;obtain⟨ret,i,b,h⟩:=Bp h;refine EB (s':=st.s) A.hI A.hX.y A.hy m S key.1 key.2 j ?_ h;simp only[clY,D];rw[show M9 (x _ (T5 st.hp _))=some (ret,i) from b]
    ·split at h
     ·rename_i ret i s' d;exact EB A.hI A.hC A.hy m S key.1 key.2 j d h
     ·cases h
   ·cases h
  ·split at h
   ·rename_i f;split at h
    ·rename_i ret i u d;split at h
     ·rename_i l;obtain⟨q,t⟩:=C6 h;exact Ah8 A.hI A.hC S n (aa6.1 f) d l q t
     ·cases h
    ·cases h
   ·cases h
def CR.append{sh:Nat->Option Shp}{x y:List PV}{X Y:Array Value}(hx:CR Γ sh w x X)(hy:CR Γ sh w y Y):CR Γ sh w (x++y) (X++Y):=by
 refine⟨by rw[Array.size_append,w9,hx.1,hy.1],λj hj=>?_⟩;rw[w9] at hj;by_cases h:j<x.length
 ·obtain⟨U,e,k⟩:=hx.2 j h;grind
 ·obtain⟨U,e,k⟩:=hy.2 (j-x.length) (by omega);refine⟨U,by rw[Array.getElem?_append_right (by rw[hx.1];omega),hx.1];exact e,?_⟩;grind
def O7(x y:List PV):C9 (x++y)=C9 x++C9 y:=by
 induction x with
 | nil=>rfl
 | cons a x b=>simp[C9,b]
def VP.inv_fn'{sh:Nat->Option Shp}{V:Value}{f:Fn}{x y:List SV}(h:VP Γ sh w (.s (.fn f x y)) V):∃A B,V = .func f A B/\CR Γ sh w (x.map .s) A/\CR Γ sh w (y.map .s) B:=by
 have hs:=h.inv_s;cases hs with
 | fn _ _ _ A B As Bs hf hA hB ha hb hx hy=>
  refine⟨A,B,rfl,⟨by simpa using hA,λj hj=>?_⟩,⟨by simpa using hB,λj hj=>?_⟩⟩
  ·have hj':j<x.length:=by simpa using hj
   exact⟨As j,ha j hj',by rw[j9];exact .s _ _ (hx j hj')⟩
  ·have hj':j<y.length:=by simpa using hj
   exact⟨Bs j,hb j hj',by rw[j9];exact .s _ _ (hy j hj')⟩
def VP.inv_fnr'{sh:Nat->Option Shp}{V:Value}{f:Fn}{x y:List PV}(h:VP Γ sh w (.fnr f x y) V):∃A B,V = .func f A B/\CR Γ sh w x A/\CR Γ sh w y B:=by
 cases h with
 | fnr _ _ _ A B As Bs hf hA hB ha hb hx hy=>exact⟨A,B,rfl,⟨hA,λj hj=>⟨As j,ha j hj,hx j hj⟩⟩,⟨hB,λj hj=>⟨Bs j,hb j hj,hy j hj⟩⟩⟩
def TD{sh:Nat->Option Shp}:∀{args:List PV} {Vs:List Value},Kr args=true->args.length=Vs.length->(∀j (h:j<args.length),∃U,Vs[j]? = some U/\VP Γ sh w (args[j]) U)->∀j (h:j<args.length),∃U,Vs[j]? = some U/\VP Γ (λ_=>none) w (args[j]) U
 | [],Vs,_,_,_=>λj h=>by simp at h
 | v::r,[],_,n,_=>by simp at n
 | v::r,U::z,c,n,y=>by
  have t:VP Γ sh w v U:=by
   obtain⟨q,e,k⟩:=y 0 (by simp);grind
  have B:∀j (h:j<r.length),∃U,z[j]? = some U/\VP Γ sh w (r[j]) U:=λj d=>by
   obtain⟨q,e,k⟩:=y (j+1) (by simpa using d);grind
  have key:Kr r=true/\VP Γ (λ_=>none) w v U:=by
   unfold Kr at c;split at c
   ·grind
   ·rename_i m;cases m;exact⟨c,.s _ _ t.inv_s⟩
   ·rename_i l G m;cases m;simp only[j0,p4] at c;obtain⟨⟨g,p⟩,c⟩:=c;refine⟨c,?_⟩;obtain⟨A,rfl,hA,i⟩:=t.inv_agg;refine VP.mk_agg hA λj d=>?_
    obtain⟨U,e,k⟩:=i j d;refine⟨U,e,?_⟩;have:(l[j]).nms=[]:=by
     have:∀(l:List PV) g,Su l=some g->∀v∈l,v.nms=[]:=by
      intro l
      induction l with
      | nil=>intro _ _ v f;simp at f
      | cons x l F=>
       intro g h v f;simp only[Su] at h;split at h
       ·rename_i a b u D;rcases x6.1 f with rfl|f
        ·unfold PV.sv? at u;split at u
         ·rfl
         ·rfl
         grind
        grind
       grind
     exact this l g p _ (j5 d)
    exact k.mono (Γ':=Γ) (ok:=λ_=>False) ⟨λ_ _=>rfl,λ_ h=>h,λ_ h=>h.elim,λ_ h=>h.elim,λ_ _ h=>h.elim,rfl⟩ (by rw[this];simp)
   grind
  intro j d;cases j with
  | zero=>exact⟨U,rfl,by simpa using key.2⟩
  | succ j=>
   obtain⟨q,e,k⟩:=TD key.1 (by simpa using n) B j (by simpa using d);grind
def Ah9{f:PV}{D:Value}{args:List PV}{Vs n:Array Value}{k:PV->St Z->Option R}(A:Ask C I cl yh yv)(u:Γ.yv=yv)(h:EC C cl yh f args st k=some r)(S:SI C I Γ L st n w)(K:VP Γ (A5 st.hp) w f D)(p:∀c∈f.nms,c<st.hp.length)
  (i:CR Γ (A5 st.hp) w args Vs) (Y:∀c∈C9 args,c<st.hp.length) :
  U5 C.P ((do let d <-o9 D Vs;invoke d.target d.args).run C.P w) (Ay7 C I Γ L st n w k r):=by
 unfold EC at h;split at h
 ·rename_i g first v;obtain⟨F,B,rfl,G,H⟩:=K.inv_fn';have:=EA A u h S ((G.append i).append H) (λc i=>by
   rw[O7,O7,MJ,MJ] at i;simp only[ac5,x8] at i;exact Y c i)
  simpa[o9,invoke] using this
 ·rename_i g first v;obtain⟨F,B,rfl,G,H⟩:=K.inv_fnr';have:=EA A u h S ((G.append i).append H) (λc i=>by
   rw[O7,O7] at i;simp only[x4] at i;simp only[PV.nms,x4] at p;rcases i with(i|i)|i
   ·exact p c (.inl i)
   ·exact Y c i
   ·exact p c (.inr i))
  simpa[o9,invoke] using this
 ·split at h
  ·rename_i z;unfold ydK at h;split at h
   ·rename_i b s' P;have J:D=yv:=by
     cases K;exact u
    subst J;refine(A.hy args st.s b s' P z Γ L w Vs S.inv S.hr.stlt ⟨i.1,?_⟩).mono ?_
    ·intro j N;obtain⟨U,e,q⟩:=TD (Vs:=Vs.toList) z (by simpa using i.1.symm) (λj N=>by obtain⟨U,e,k⟩:=i.2 j N;exact⟨U,by simpa using e,k⟩) j N;exact⟨U,by simpa using e,q⟩
    ·rintro V w' ⟨rfl,St',W,hi,Q,q2,q3,T,q5,q6,q7,q8,q9⟩;have t:=A.hI.foot _ _ _ _ S.inv;have m:∀b g,Γ.nm b=some g->w'.heap[g]? = w.heap[g]?:=λb g l=>T g (S.hr.lt b g l).2.1 (S.dis b g l)
     have y:∀g,Γ.St g->w'.heap[g]? = w.heap[g]?:=λg l=>T g (S.hr.stlt g l) (λx=>(t g x).2 l)
     let Γ2:Ctx:={ Γ with St:=St' }
     have M:Az Γ (A5 st.hp) w Γ2 (A5 st.hp) w' (λ_=>True):=⟨y,Q,λ_ _=>rfl,λ_ _=>rfl,λb g _ l=>F5 (m b g l),rfl⟩
     have O:HR Γ2 st.hp w':=by
      refine⟨S.hr.inj,λb g l=>?_,q9,S.hr.nms,λb X=>(S.hr.blk b X).mono M rfl (λg l=>m b g l) (λ_ _=>trivial)⟩;have:=S.hr.lt b g l;refine⟨this.1,by omega,λh=>?_⟩;rcases q2 g h with h|h
      ·exact this.2.2 h
      ·omega
     refine⟨_,_,Γ2,W,h,⟨q6,q7,q8,q5,Q,q2,λb g l=>.inl ⟨(S.hr.lt b g l).1,l⟩,q3,λg l _ x=>T g l x,rfl,j7 _,λb X _=>⟨rfl,rfl,λg l=>F5 (m b g l)⟩⟩,
      ⟨O,S.sr.mono M (λc i=>⟨trivial,S.sr.nms c i⟩),S.g.mono y Q,hi,λb g l x=>?_⟩,.bool _,by simp[PV.nms]⟩
     rcases q3 g x with h|h
     ·exact S.dis b g l h
     ·have:=(S.hr.lt b g l).2.1;omega
   ·cases h
  ·cases h
 ·cases h
def Nxt(C:Cfg)(I:Z->(Nat->Prop)->(Nat->Prop)->World->Prop)(Γ:Ctx)(L:Nat->Prop)(H:List Blk)(w:World)(ds:List Deferred)(k:St Z->Option R)(r:R)(next:Act->World->Prop):Prop:=
 ∀b d w' Γ' c,k b=some r->Stp C Γ H w L Γ' b.hp w' c->SI C I Γ' c b d.tmps w'->d.defers=ds->next d w'
def put_defers(a:Act)(d:Option Tmp)(v:Value):(a.put d v).defers=a.defers:=by cases d<;>rfl
def Cw0{y:Option Nat}{n:Nat}{k:St Z->Option R}{next:Act->World->Prop}{Q:Exit->Act->World->Prop}(A:Ask C I cl yh yv)(u:Γ.yv=yv)(h:opK C cl yh o st k=some r)(S:SI C I Γ L st a.tmps w)(hN:Nxt C I Γ L st.hp w a.defers k r next) :
  o.wpIn (I4 y) n C.P a w next Q:=by
 refine⟨λ_ _=>trivial,?_⟩;have t:∀c,o.op≠.defer c:=λc e=>by simp[opK,e] at h
 rw[ab0 _ _ _ t];by_cases i:BN o.op=true
 ·obtain⟨c,g⟩:∃c,o.op = .call c:=by
   unfold BN at i;split at i
   ·exact⟨_,‹_›⟩
   ·cases i
  have p:=h;simp only[opK,g] at p;split at p
  ·rename_i b F;rw[g] at i;simp[BN,F] at i
  ·rename_i f J;obtain⟨G,q⟩:=S.list c.args;have:=Ah9 A u p S (S.opnd f).1 (S.opnd f).2 G q;have H:execOp a.eval o=(do let d <-o9 (a.eval f) (c.args.map a.eval);invoke d.target d.args):=by simp only[execOp,g,resolve,J]
   rw[H];refine this y n o a next Q ?_
   rintro V w' ⟨v,m,Γ',x,K,M,l,N,O⟩;exact hN _ (a.put o.dst V) w' Γ' x K M ⟨l.hr,l.sr.put (ds:=a.defers) o N O,l.g,l.inv,l.dis⟩ (put_defers _ _ _)
  ·cases p
 ·obtain⟨V,w',Γ',m,z,j,B,D⟩:=An6 A.hI (by simpa using i) h S;have q:=hN m (a.put o.dst V) w' Γ' L z D B (put_defers _ _ _);rcases j with j|⟨rfl,j⟩
  ·rw[j];exact q
  ·rw[j];exact q
def SR.set{Γ:Ctx}{H:List Blk}{sl:List PV}{tmps:Array Value}(h:SR Γ H w sl tmps)(g:Nat){v:PV}(hv:∀V,tmps[g]? = some V->VP Γ (A5 H) w v V)(hn:∀c∈v.nms,c<H.length):SR Γ H w (sl.set g v) tmps:=by
 refine⟨by simpa using h.size,λc hc=>?_,λi hi=>?_⟩
 ·obtain⟨j,hj,hc⟩:=C1.1 hc;rw[List.getElem_set] at hc;split at hc
  ·grind
  ·exact h.nms c (C1.2 ⟨j,by simpa using hj,hc⟩)
 ·have hi':i<sl.length:=by simpa using hi
  obtain⟨U,e1,e2⟩:=h.slot i hi';grind
def ZJ{F:Option Nat}{n:Nat}{Q:Exit->Act->World->Prop}{all:Array Oper}(A:Ask C I cl yh yv):∀(c:List Oper) {Γ:Ctx} {L:Nat->Prop} {st:St Z} {a:Act} {w:World} {k:St Z->Option R},Γ.yv=yv->Bm C cl yh all c st k=some r->SI C I Γ L st a.tmps w->
  Nxt C I Γ L st.hp w a.defers k r (λt w'=>Q .normal t w')->wpListIn (I4 F) n C.P all Q c a w
 | [],Γ,L,st,a,w,k,hyv,h,S,hN=>hN st a w Γ L h (Stp.refl S.hr) S rfl
 | o::c,Γ,L,st,a,w,k,hyv,h,S,hN=>by
  have run:∀{st:St Z},SI C I Γ L st a.tmps w->Nxt C I Γ L st.hp w a.defers k r (λt w'=>Q .normal t w')->opK C cl yh o st (λl=>Bm C cl yh all c l k)=some r->o.wpIn (I4 F) n C.P a w (wpListIn (I4 F) n C.P all Q c) Q:=λS hN h=>
   Cw0 A hyv h S λl t w' Γ' Φ' W N X Y=>ZJ A c (N.yv.trans hyv) W X λJ P w2 K M k1 k2 k3 k4=>hN J P w2 K M k1 (N.trans k2) k3 (k4.trans Y)
  have skip:∀{st:St Z},SI C I Γ L st a.tmps w->Nxt C I Γ L st.hp w a.defers k r (λt w'=>Q .normal t w')->Bm C cl yh all c { st with sl:=Ck o.dst (.tup []) st.sl } k=some r->wpListIn (I4 F) n C.P all Q c (a.put o.dst undef) w:=fun {st} S hN h=>
   ZJ A c (st:={ st with sl:=Ck o.dst (.tup []) st.sl }) hyv h (S.put (o:=o) Ja (by simp[PV.nms,C9])) (by rw[put_defers];exact hN)
  simp only[wpListIn];simp only[Bm] at h;split at h
  ·rename_i u;have hw:o7 o (yielded all a.tmps)=true:=by simp[o7,u]
   grind
  ·rename_i j m u;split at h
   ·rename_i g x;have z:∀b,a.tmps[g]? = some (.bool b)->yielded all a.tmps j=some b:=λb e=>by simp[yielded,x,e]
    have y:(∀b,a.tmps[g]?≠some (.bool b))->yielded all a.tmps j=none:=λa1=>by
     simp only[yielded,x,j1]
    have d:∀v,st.sl.getD g (.tup [])=v->∀V,a.tmps[g]? = some V->VP Γ (A5 st.hp) w v V:=λv hv V hV=>by
     have p:g<st.sl.length:=by rw[<-S.sr.size];exact(o8.1 hV).1
     obtain⟨U,G,T⟩:=S.sr.slot g p;grind
    split at h
    ·rename_i b D;have p:g<st.sl.length:=aa9 λa0=>by grind
     obtain⟨U,G,T⟩:=S.sr.slot g p;have hU:=(d _ D U G).inv_bool;subst hU;have f:yielded all a.tmps j=some b:=z b G;have O:SI C I Γ L { st with sl:=st.sl.set g (.s (.bool b)) } a.tmps w:=⟨S.hr,S.sr.set g (d _ D) (by simp[PV.nms]),S.g,S.inv,S.dis⟩
     have q:(if (b==m)=true then opK C cl yh o { st with sl:=st.sl.set g (.s (.bool b)) } (λl=>Bm C cl yh all c l k) else Bm C cl yh all c { st with sl:=Ck o.dst (.tup []) (st.sl.set g (.s (.bool b))) } k)=some r:=by
      cases b<;>exact h
     by_cases i:b=m
     ·rw[if_pos (by simpa using i)] at q;rw[if_pos (by simp[o7,u,f,i])];grind
     ·rw[if_neg (by simpa using i)] at q;rw[if_neg (by simp[o7,u,f,i])];exact⟨λ_ _=>trivial,skip O hN q⟩
    ·rename_i D;have f:yielded all a.tmps j=none:=y λb H=>by
      obtain⟨B,e,_⟩:=(d _ D _ H).inv_tup;cases e
     rw[if_neg (by simp[o7,u,f])];exact⟨λ_ _=>trivial,skip S hN h⟩
    grind
   ·cases h
end
section quiet
variable {F : Fence} {n : Nat} {P : Program} {Y : Array Oper} {L : z7} {K : World -> Prop}
def Bq7{c:Code}{Q:Exit->Act->World->Prop}{a:Act}{w:World}(J:Nat->Act->World->Prop)(N:Nat)(u:J N a w)
  (round:∀m a w,J m a w->c.wpIn F n P (Exit.then (λq w'=>∃D,D<m/\J D q w') Q) a w):(Code.loop c).wpIn F n P Q a w:=by
 intro b k y C z B;have key:∀j a w,J j a w->∃e q w',Q e q w'/\ArrivesIn (Machine.fenced P F) P (lone (b.atR a (.code c::.inLoop c::k)) y w) b k y e q w':=by
  intro j
  induction j using Nat.strongRecOn with
  | _ j H=>
   intro a w G;obtain⟨e,f,g,i,d⟩:=round j a w G b (.inLoop c::k) y C z B;cases e with
   | normal=>
    obtain⟨m,A,o⟩:=i;obtain⟨t,r,v,p,h⟩:=H m A f g o;exact⟨t,r,v,p,.of_steps (ai3 d (.one (fenced_calm z B rfl) stepR_inLoop)) h⟩
   | exit id=>exact⟨_,f,g,i,.pass (x:=.inLoop c) rfl (λ_ _=>.inl (by simp)) d⟩
   | goto l=>exact⟨_,f,g,i,.pass (x:=.inLoop c) rfl (λ_ _=>.inl (by simp)) d⟩
   | ret=>exact⟨_,f,g,i,.pass (x:=.inLoop c) rfl (λ_ _=>.inl (by simp)) d⟩
   | panic I=>exact⟨_,f,g,i,.pass (x:=.inLoop c) rfl (λ_ _=>.inl (by simp)) d⟩
   | outgrown=>exact⟨_,f,g,i,.pass (x:=.inLoop c) rfl (λ_ _=>.inl (by simp)) d⟩
 obtain⟨e,q,w',i,d⟩:=key N a w u;exact⟨e,q,w',i,.of_steps (.one (fenced_calm z B rfl) stepR_loop) d⟩
def Ch{b:Frame}{a:Act}{k:List Item}{d:List Frame}{w:World}{c:Code}:step P (lone (b.atR a (.code (.scope c)::k)) d w) = .next (lone (b.atR a (.code c::.inScope c::k)) d w):=
 step_lone_go (by simp[stepG,stepG.exec,Frame.atR])
def PP{b:Frame}{a:Act}{k:List Item}{d:List Frame}{w:World}{c:Code}:step P (lone (b.atR a (.inScope c::k)) d w) = .next (lone (b.atR a k) d w):=
 step_lone_go (by simp[stepG,stepG.exec,Frame.atR])
def Ax5{c:Code}{Q:Exit->Act->World->Prop}{a:Act}{w:World}(h:c.wpIn F n P (λe a w=>(∀l,e≠.goto l)/\Q e a w) a w):(Code.scope c).wpIn F n P Q a w:=by
 intro b k u t o q;have i:(lone (b.atR a (.code (.scope c)::k)) u w).fenced P F:=fenced_calm o q rfl;obtain⟨e,f,g,⟨z,j⟩,d⟩:=h b (.inScope c::k) u t o q;cases e with
 | normal=>exact⟨.normal,f,g,j,.head i Ch (ai3 d (.one (fenced_calm o q rfl) PP))⟩
 | exit id=>
  have v:exitTo id (.inScope c::k)=exitTo id k:=by simp[exitTo]
  exact⟨.exit id,f,g,j,λA p=>.head i Ch (d.1 A (by rw[v];exact p)),
   λr p=>let⟨m,x,y⟩:=d.2 r (by rw[v];exact p);⟨m,x,.head i Ch y⟩⟩
 | goto l=>exact absurd rfl (z l)
 | ret=>exact⟨_,f,g,j,.of_steps (.one i Ch) d⟩
 | panic B=>exact⟨_,f,g,j,.of_steps (.one i Ch) d⟩
 | outgrown=>exact⟨_,f,g,j,.of_steps (.one i Ch) d⟩
end quiet
section
variable {Z R : Type} {r : R} {C : Cfg} {I : Z -> (Nat -> Prop) -> (Nat -> Prop) -> World -> Prop} {Γ : Ctx} {Y : Nat -> Prop} {L : St Z} {a : Act} {w : World} {W : G4} {Q : Yh Z} {J : Value} {o : Oper}
def SI.like(hI:HI I)(S:SI C I Γ Y L a.tmps w){w':World}(h:P3 w w'):SI C I Γ Y L a.tmps w'/\Stp C Γ L.hp w Y Γ L.hp w' Y:=
 S.wide hI (St':=Γ.St) h.1.1 h.1.2 (λ_ h=>h) (λ_ h=>.inl h) (λg hg=>j4 (S.hr.stlt g hg) h.1.2) h.2.1 h.2.2.1 h.2.2.2
def QS:PV->Value
 | .s (.bool b)=>.bool b
 | .s (.int k n)=>.int k n
 | .s (.str l)=>.string ⟨l.toArray⟩
 | _=>undef
def Dc1:PV->Value
 | .tup l=>.tuple (l.map QS).toArray
 | v=>QS v
def Ai7{Γ:Ctx}{sh:Nat->Option Shp}{w:World}{v:PV}{V:Value}(h:VP Γ sh w v V)(b:v.det1=true):V=QS v:=by
 cases h with
 | s x V c=>
  cases c<;>simp[PV.det1,SV.det] at b<;>simp[QS]
 | _=>simp[PV.det1] at b
def Dc2{Γ:Ctx}{sh:Nat->Option Shp}{w:World}{v:PV}{V:Value}(h:VP Γ sh w v V)(b:v.det=true):V=Dc1 v:=by
 cases h with
 | s x V i=>exact Ai7 (sh:=sh) (.s x V i) b
 | tup l A k hA f g=>
  simp only[PV.det,j8] at b;simp only[Dc1]
  congr 1
  apply Array.ext
  ·simp[hA]
  ·intro j d m;have c:j<l.length:=by rw[<-hA];exact d
   have e:=f j c;rw[aa8 d] at e;simp only[b8] at e;simp only[List.getElem_toArray,j9];rw[e];exact Ai7 (g j c) (b _ (j5 c))
 | _=>simp[PV.det] at b
def YC{Γ:Ctx}{sh:Nat->Option Shp}{w:World}{v:PV}(b:v.det1=true):VP Γ sh w v (QS v)/\v.nms=[]:=by
 cases v with
 | s x=>
  cases x<;>simp[PV.det1,SV.det] at b
  ·exact⟨.s _ _ (.bool _),rfl⟩
  ·exact⟨.s _ _ (.int _ _),rfl⟩
  ·rename_i l;have:=VS.str (St:=Γ.St) (w:=w) (⟨l.toArray⟩:ByteArray);simp only at this;exact⟨.s _ _ this,rfl⟩
 | _=>simp[PV.det1] at b
def Dx3{Γ:Ctx}{sh:Nat->Option Shp}{w:World}{v:PV}(b:v.det=true):VP Γ sh w v (Dc1 v)/\v.nms=[]:=by
 cases v with
 | s x=>exact YC (v:=.s x) b
 | tup l=>
  simp only[PV.det,j8] at b;refine⟨VP.mk_tup (by simp) λj e=>⟨QS (l[j]),by simp[e],(YC (b _ (j5 e))).1⟩,?_⟩;simp only[PV.nms];rw[v8];intro c d;obtain⟨j,e,d⟩:=C1.1 d;rw[(YC (Γ:=Γ) (sh:=sh) (w:=w) (b _ (j5 e))).2] at d;simp at d
 | _=>simp[PV.det] at b
def Dx4{v:PV}(b:v.det=true)(f:Nat->Nat):v.rn f=v:=by
 cases v with
 | s x=>rfl
 | tup l=>
  simp only[PV.det,j8] at b;simp only[PV.rn]
  congr 1
  induction l with
  | nil=>rfl
  | cons a r d=>
   simp only[rnL];have c:=b a (by simp);have:a.rn f=a:=by cases a<;>simp[PV.det1] at c<;>rfl
   grind
 | _=>simp[PV.det] at b
def Bh{P:Program}{g:Nat}{Vs:Array Value}{w:World}(h:BW P g=true):(callFunc g Vs).run P w = .ok (.enter g Vs) w:=by
 unfold BW at h;split at h
 ·rename_i fn e;simp only[j0,ab4,p4] at h;obtain⟨⟨c,d⟩,f⟩:=h
  have b:¬ fn.name = "runtime.NumGoroutine":=by simpa using f
  simp[callFunc,e,d,b,ad0]
 ·cases h
def Zs{P:Program}{ro:Option Nat}{n f:Nat}{d:Array Value}{w:World}{R:Value->World->Prop}(b:(callFunc f d).run P w = .ok (.enter f d) w)(h:U5 P ((callFunc f d).run P w) R):CallsIn (I4 ro) (n-1) P f d w λe w'=>∃V,e = .returned V/\R V w':=by
 rw[b] at h;have:=h ro n { op:=.move (.const undef),dst:=some 0,guard:=none,type:=0,after:=#[],pos:=default } { tmps:=#[undef],defers:=[] } (λi w'=>∃V,i.tmps[0]? = some V/\R V w') (λ_ _ _=>False) (λV w' k=>⟨V,by simp[af5],k⟩);rw[ab9] at this;refine this.2.mono λe w' g=>?_
 cases e with
 | returned v=>
  obtain⟨V,j,l⟩:=g;simp[af5] at j;grind
 | panicked c=>exact g.elim
 | outgrown=>obtain⟨_,_,h⟩:=g;exact h.elim
def B85{ro:Option Nat}{n:Nat}{k:St Z->Option R}(U:HI I)(X:XOK C)(u:Sc C o.op=true)(h:opK C W Q o L k=some r)(S:SI C I Γ Y L a.tmps w) :
  ∃V v,k v=some r/\(∀w',P3 w w'->o.quietAtIn (I4 ro) n C.P a (P3 w') w' V)/\SI C I Γ Y v (a.put o.dst V).tmps w/\Stp C Γ L.hp w noΦ Γ v.hp w noΦ:=by
 obtain⟨c,q⟩:∃c,o.op = .call c:=by
  unfold Sc at u;grind
 rw[q] at u;simp only[Sc] at u;split at u
 ·rename_i g j;simp only[j0,p4] at u;obtain⟨⟨M,pf,m⟩,l⟩:=u;simp only[opK,q,j,opnd,EC,Wo,m,M,cond_true,af9,ac5,x8] at h;split at h
  ·rename_i G;obtain⟨ret,Hc,t,h⟩:=Bp h;obtain⟨t,f,rfl⟩:=Ce t;obtain⟨h1,N⟩:=C6 h;simp only[af9,x8,Dx4 f] at N;have O:=Dx3 (Γ:=Γ) (sh:=A5 L.hp) (w:=w) f;refine⟨Dc1 ret,_,N,λw' K=>?_,S.put O.1 (by rw[O.2];simp),Stp.refl S.hr⟩;obtain⟨A,_⟩:=S.like U K;obtain⟨hc,hn⟩:=A.list c.args;have B:=hc.snap A.hr;let Γc:Ctx:={ Γ.all with nm:=λ_=>none }
   have D:CR Γc (A5 []) w' (N1 L.hp (c.args.toList.map (opnd C L.sl))) (c.args.map a.eval):=B.bare (aa6.1 G) (λ_ h=>h) rfl;have p:=X.x g pf _ ret [] m t Γc w' _ (λ_=>rfl) (Ml (λ_=>rfl) (A17 A)) (A.g.mono (λ_ _=>rfl) (λ_ h=>ae9 h)) D;have i:=Zs (ro:=ro) (n:=n) (Bh l) p;have F:a.eval (.func g) = .func (.func g) #[] #[]:=rfl;have he:execOp a.eval o=(do let d <-o9 (a.eval (.func g)) (c.args.map a.eval);invoke d.target d.args):=by simp only[execOp,q,resolve,j]
   unfold ab8;rw[he,F];have y:(do let d <-o9 (Value.func (.func g) #[] #[]) (c.args.map a.eval);invoke d.target d.args:Sem Next).run C.P w' = .ok (.enter g (c.args.map a.eval)) w':=by
    have:=Bh (P:=C.P) (Vs:=c.args.map a.eval) (w:=w') l;simpa[o9,invoke] using this
   rw[y];refine⟨rfl,λh=>(by simp[I4,ab1] at h),i.mono ?_⟩;rintro e a0 ⟨V,rfl,Γ1,Φ1,z,T,H,_⟩;have:=Dc2 H f;subst this;exact⟨rfl,⟨λg hg=>z.frame g hg (λb=>by simp[Γc]) (λx=>x),z.size⟩,z.os,z.tape,z.output⟩
  ·cases h
 ·cases u
def Out.exit':Out->Exit
 | .normal=>.normal
 | .exit id=>.exit id
 | .ret=>.ret
end
def WW{a b:Nat}(h:a<=b):o5 a b=true:=by rw[ah9];exact h
def KB{a b:Nat}(h:o5 a b=true):a<=b:=by rw[ah9] at h;exact h
def P3.refl(w:World):P3 w w:=⟨⟨λ_ _=>rfl,j7 _⟩,rfl,rfl,rfl⟩
def P3.trans{a b c:World}(h:P3 a b)(k:P3 b c):P3 a c:=
 ⟨⟨λg hg=>(k.1.1 g (j4 hg h.1.2)).trans (h.1.1 g hg),w6 h.1.2 k.1.2⟩,k.2.1.trans h.2.1,k.2.2.1.trans h.2.2.1,k.2.2.2.trans h.2.2.2⟩
section
variable {F : Fence} {n : Nat} {P : Program} {L : Array Oper} {Y : z7}
def QF:Exit->Act->World->Prop:=λ_ _ _=>False
def Dp7{o:Oper}{a:Act}{w:World}{N:Act->World->Prop}{Q:Exit->Act->World->Prop}(h:o.wpIn F n P a w N QF):o.wpIn F n P a w N Q:=by
 unfold ag7 at *;refine⟨h.1,?_⟩;have h:=h.2;generalize (o.semAt F.round a.eval).run P w=r at *;cases r with
 | ok x w'=>
  cases x<;>simp only[ab2] at h ⊢
  case value=>exact h
  case skip=>exact h
  case defer=>exact h
  case enter=>exact⟨h.1,af6 h.2 λe d b=>by
   cases e with
   | returned u=>exact b
   | panicked c=>exact b.elim
   | outgrown=>obtain⟨_,_,h⟩:=b;exact h.elim⟩
  case row=>exact h
  case round=>exact⟨h.1,ag0 h.2 λe d b=>by
   cases e with
   | returned u=>exact b
   | panicked c=>exact b.elim
   | outgrown=>obtain⟨_,_,h⟩:=b;exact h.elim⟩
 | halt x w'=>
  cases x<;>simp only[ab2] at h ⊢
  case panic=>exact h.elim
def Ci6{i:Nat}{a:Act}{w:World}{N:Act->World->Prop}{Q:Exit->Act->World->Prop}(h:wpOpIn F n P L QF i N a w):wpOpIn F n P L Q i N a w:=by
 unfold wpOpIn at *;split
 ·grind
 ·rename_i o b;simp only[b] at h;split
  ·rename_i c;simp only[c,if_true] at h;exact Dp7 h
  grind
def YQ(F:Fence)(n:Nat)(P:Program)(L:Array Oper)(q:Bool)(b:World)(o:Oper)(v:Value)(a:Act):Prop:=
 o.askedIn F P a (λw=>q=true->P3 b w)/\
 ((o7 o (yielded L a.tmps)=true/\∀w,(q=true->P3 b w)->o.quietAtIn F n P a (P3 w) w v)\/
  (o7 o (yielded L a.tmps)=false/\v=undef))
def YQ.step{q:Bool}{w0 w1:World}{o:Oper}{v:Value}{a:Act}(h:YQ F n P L q w0 o v a)(hl:q=true->P3 w0 w1):YQ F n P L q w1 o v a:=
 ⟨λw hw=>h.1 w λhq=>(hl hq).trans (hw hq),h.2.imp (λh=>⟨h.1,λw hw=>h.2 w λhq=>(hl hq).trans (hw hq)⟩) (λh=>h)⟩
def YQ.of_same{q:Bool}{w0:World}{o:Oper}{v:Value}{a a':Act}(hy:YQ F n P L q w0 o v a)(he:execOp a'.eval o=execOp a.eval o)
  (hw:o7 o (yielded L a'.tmps)=o7 o (yielded L a.tmps)) (hb:∀w,o.about P w a'.eval=o.about P w a.eval):YQ F n P L q w0 o v a':=by
 unfold YQ ab8 Oper.askedIn at *;rw[he,hw];exact⟨λw hc f hf=>hy.1 w hc f (by rw[<-hb w];exact hf),hy.2⟩
def YQ.wpOpIn{q:Bool}{w0 w:World}{i:Nat}{o:Oper}{v:Value}{a:Act}(hi:L[i]? = some o)(hnd:∀c,o.op≠.defer c)(hy:YQ F n P L q w0 o v a)(hw:q=true->P3 w0 w){K:Act->World->Prop}(h:∀w',P3 w w'->K (a.put o.dst v) w'):wpOpIn F n P L QF i K a w:=by
 unfold Go.wpOpIn;simp only[hi];rcases hy.2 with⟨hwt,hv⟩|⟨hwt,rfl⟩
 ·simp only[hwt,if_true];have h3:=hv w hw;unfold ab8 at h3;unfold ag7;refine⟨hy.1 w hw,?_⟩;rw[ab0 _ _ _ hnd];generalize (execOp a.eval o).run P w=r at *;cases r with
  | ok x w'=>
   cases x<;>simp only[ag6] at h3<;>simp only[ab2]
   case value u=>
    obtain⟨e1,e2⟩:=h3;rw[e1,e2];exact h _ (P3.refl w)
   case skip=>
    obtain⟨e1,e2⟩:=h3;rw[e1,<-e2];exact h _ (P3.refl w)
   case enter f args=>
    obtain⟨e1,hd,hc⟩:=h3;rw[e1];exact⟨hd,hc.mono λe w'' ⟨he,hw''⟩=>by subst he;exact h _ hw''⟩
  | halt x w'=>simp only[ag6] at h3
 ·simp only[hwt,af4,if_false];exact⟨hy.1 w hw,h _ (P3.refl w)⟩
def Ax6{q:Bool}{A:World}{j:Nat}{i k:Oper}{v:Value}(O:L[j]? = some k)(G:i.apart L k=true)
  (I:∀C b,i.op≠.select C b) (J:∀C b,k.op≠.select C b) (y:∀c,k.op≠.defer c) {K:Act->World->Prop} {a:Act} {w:World}
  (o:YQ F n P L q A i v a) (h:wpOpIn F n P L QF j K (a.put i.dst v) w) :
  wpOpIn F n P L QF j (λN w'=>YQ F n P L q A i v N/\K (N.put i.dst v) w') a w:=by
 obtain⟨B,p,D⟩:=Oper.apart_spec G;have g:∀(a:Act),YQ F n P L q A i v a->∀u,YQ F n P L q A i v (a.put k.dst u):=λa o u=>
  o.of_same (execOp_put i I a k.dst u D) (wanted_put i a k.dst u D) (λw=>about_put i w a k.dst u D)
 unfold wpOpIn at *;simp only[O] at *;rw[wanted_put k a i.dst v B,about_put k w a i.dst v B] at h;split
 ·rename_i M;simp only[M,if_true] at h;unfold ag7 at *;rw[about_put k w a i.dst v B] at h;refine⟨h.1,?_⟩;have h:=h.2;rw[ab0 _ _ _ y,execOp_put k J a i.dst v B] at h;rw[ab0 _ _ _ y];have H:∀d w',(execOp a.eval k).run P w≠.ok (.defer d) w'\/True:=λ_ _=>.inr trivial
  generalize Q:(execOp a.eval k).run P w=r at *;cases r with
  | ok x w'=>
   cases x<;>simp only[ab2] at h ⊢
   case value u=>exact⟨g a o u,by rw[<-aa5 a v u p];exact h⟩
   case skip=>exact⟨g a o _,by rw[<-aa5 a v undef p];exact h⟩
   case defer d=>
    have t:∀d,YQ F n P L q A i v { a with defers:=d::a.defers }:=λd=>o.of_same rfl rfl (λ_=>rfl)
    refine⟨g _ (t d) _,?_⟩;rw[<-aa5 _ v undef p,<-Act.put_defers];exact h
   case enter f args=>
    refine⟨h.1,af6 h.2 λe z m=>?_⟩;cases e with
    | returned u=>exact⟨g a o u,by rw[<-aa5 a v u p];exact m⟩
    | panicked c=>exact m
    | outgrown=>exact m
   case row row args=>exact⟨h.1,aj3 h.2 λu z m=>⟨g a o u,by rw[<-aa5 a v u p];exact m⟩⟩
   case round l f tmps assign body=>
    refine⟨h.1,ag0 h.2 λe z m=>?_⟩;cases e with
    | returned u=>exact⟨g a o u,by rw[<-aa5 a v u p];exact m⟩
    | panicked c=>exact m
    | outgrown=>exact m
  | halt x w'=>
   cases x<;>simp only[ab2] at h ⊢
   case panic u=>exact h
 ·rename_i M;simp only[M] at h;exact⟨h.1,g a o _,by rw[<-aa5 a v undef p];exact h.2⟩
def wpR(F:Fence)(n:Nat)(P:Program)(Y:z7)(L:Array Oper)(c:Nat->Bool)(b:Act->World->Prop):Nat->Array Bool->Act->World->Prop
 | 0,listed,a,w=>o6 Y L listed=[]/\b a w
 | f+1,listed,a,w=>(o6 Y L listed=[]->b a w)/\
  ∀i∈o6 Y L listed,wpOpIn F n P L QF i (λd w'=>(c i=false->P3 w w')/\∀w1,P3 w' w1->wpR F n P Y L c b f (listed.setIfInBounds i true) d w1) a w
def Oi{wr:Nat->Bool}{Q:Exit->Act->World->Prop}{Qn:Act->World->Prop}(b:∀a w,Qn a w->Q .normal a w):∀(f:Nat) (listed:Array Bool) (a:Act) (w:World),wpR F n P Y L wr Qn f listed a w->wpAnyIn F n P Y L Q f listed a w
 | 0,_,_,_,h=>⟨h.1,b _ _ h.2⟩
 | f+1,_,_,_,h=>⟨λd=>b _ _ (h.1 d),λi e=>Ci6 (wpOpIn_mono (λc w' h=>Oi b f _ c w' (h.2 w' (P3.refl w'))) (h.2 i e))⟩
def DC(Y:z7)(L:Array Oper)(listed:Array Bool):Prop:=∀j o,L[j]? = some o->listed.getD j false=true->∀e∈o.after,ac0 Y e=true->listed.getD e.on false=true
def Ak2{listed:Array Bool}{i j:Nat}(h:(listed.setIfInBounds i true).getD j false=true):j=i\/listed.getD j false=true:=by by_cases a:i=j;all_goals simp_all
def DC.set{listed:Array Bool}{i:Nat}(h:DC Y L listed)(hi:i∈o6 Y L listed):DC Y L (listed.setIfInBounds i true):=by
 intro j o ho hj e he hb;refine getD_set_true ?_;rcases Ak2 hj with rfl|hj
 ·obtain⟨_,o',ho',hall⟩:=mem_ready.1 hi;grind
 ·exact h j o ho hj e he hb
def OG(Y:z7)(L:Array Oper):Nat->Nat->Nat->Bool
 | 0,_,_=>false
 | f+1,j,i=>match L[j]? with
  | some o=>(o.after.toList.any λe=>ac0 Y e&&p9 e.on i)||(o.after.toList.any λe=>ac0 Y e&&OG Y L f e.on i)
  | none=>false
def FU{listed:Array Bool}{i:Nat}(d:DC Y L listed)(k:listed.getD i false=false):∀f j,OG Y L f j i=true->listed.getD j false=false/\j∉o6 Y L listed
 | 0,j,h=>by cases h
 | f+1,j,h=>by
  simp only[OG] at h;split at h
  ·rename_i o m;have key:∃e∈o.after,ac0 Y e=true/\listed.getD e.on false=false:=by
    rw[aa2,ag4,ag4] at h;rcases h with⟨e,b,a⟩|⟨e,b,a⟩
    ·rw[j0] at a;have:=p5 a.2;grind
    ·rw[j0] at a;exact⟨e,by simpa using b,a.1,(FU d k f e.on a.2).1⟩
   obtain⟨e,b,a,g⟩:=key;refine⟨?_,λq=>?_⟩
   ·cases l:listed.getD j false with
    | false=>rfl
    | true=>rw[d j o m l e b a] at g;cases g
   ·obtain⟨_,r,p,c⟩:=mem_ready.1 q;grind
  ·cases h
def Zp{listed:Array Bool}{i:Nat}(h:i∈o6 Y L listed):listed.getD i false=false:=by have a:=(mem_ready.1 h).1;grind
def Ci7{R:Nat->Bool}{Qn:Act->World->Prop}{q:Bool}{i:Nat}{C:Oper}{v:Value}(J:L[i]? = some C)(x:∀(j:Nat) (o:Oper) G b,L[j]? = some o->o.op≠.select G b)(A:∀(j:Nat) (o:Oper) c,L[j]? = some o->o.op≠.defer c) :
  ∀(f:Nat) (listed:Array Bool) (a:Act) (O:World),
   (∀j z,L[j]? = some z->j≠i->listed.getD j true=false->(∀e∈z.after,ac0 Y e=true->e.on≠i)->C.apart L z=true)->
   (q=true->∀j,j≠i->listed.getD j true=false->R j=true->OG Y L L.size j i=true)->DC Y L listed->
   i∈o6 Y L listed->YQ F n P L q O C v a->
   (∀w,P3 O w->wpR F n P Y L R Qn f (listed.setIfInBounds i true) (a.put C.dst v) w)->∀w,P3 O w->wpR F n P Y L R Qn (f+1) listed a w:=by
 intro f
 induction f with
 | zero=>
  intro listed a O _ _ _ B Q H w y;refine⟨λh=>(by rw[h] at B;cases B),λj D=>?_⟩;by_cases d:j=i
  ·subst d;exact Q.wpOpIn J (λc=>A j C c J) (λ_=>y) λw' u=>⟨λ_=>u,λw1 I=>H w1 (y.trans (u.trans I))⟩
  ·have:=ready_mono D d;rw[(H w y).1] at this;cases this
 | succ f ih=>
  intro listed a O l N hd B Q H w y;refine⟨λh=>(by rw[h] at B;cases B),λj D=>?_⟩;by_cases d:j=i
  ·subst d;exact Q.wpOpIn J (λc=>A j C c J) (λ_=>y) λw' u=>⟨λ_=>u,λw1 I=>H w1 (y.trans (u.trans I))⟩
  ·have I:=(H w y).2 j (ready_mono D d);obtain⟨t,z,p,a1⟩:=mem_ready.1 D;have K:=Zp B;have M:∀e∈z.after,ac0 Y e=true->e.on≠i:=λe he hb heq=>by grind
   have h2:=Ax6 p (l j z p d t M) (λG b=>x i C G b J) (λG b=>x j z G b p) (λc=>A j z c p) (Q.step (w1:=w) λ_=>y) I;have m:∀{k:Nat},k≠i->(listed.setIfInBounds j true).getD k true=false->listed.getD k true=false:=fun {k} g r=>by
    by_cases a2:j=k;all_goals simp_all
   refine wpOpIn_mono (λa' w' h3=>?_) h2;obtain⟨a0,u,hR⟩:=h3;refine⟨u,λw1 V=>?_⟩;have U:q=true->P3 w w':=λT=>by
    refine u ?_;cases X:R j with
    | false=>rfl
    | true=>exact absurd D (FU hd K L.size j (N T j d t X)).2
   refine ih (listed.setIfInBounds j true) a' w' (λk ok hk g r S=>l k ok hk g (m g r) S) (λT k g r Z=>N T k g (m g r) Z) (hd.set D) (ready_mono B (Ne.symm d)) (a0.step U) (λw2 W=>?_) w1 V;rw[Array.setIfInBounds_comm _ _ d];exact hR w2 W
def S9(F:Fence)(n:Nat)(P:Program)(L:Array Oper)(kind:Nat->Nat)(E:Act->World->Prop):List Nat->Act->World->Prop
 | [],a,c=>E a c
 | i::b,a,c=>(kind i<=1->∃o v,L[i]? = some o/\YQ F n P L (p9 (kind i) 1) c o v a/\S9 F n P L kind E b (a.put o.dst v) c)/\
  (2<=kind i->∀w,P3 c w->wpOpIn F n P L QF i (λd w'=>(kind i=2->P3 w w')/\S9 F n P L kind E b d w') a w)
def Bv9(Y:z7)(L:Array Oper)(kind:Nat->Nat)(i:Nat)(listed:Array Bool):Bool:=
 (o6 Y L listed).contains i&&(Region.free Y L listed i&&(p9 (kind i) 0||(ah8 L.size).all λj=>p9 j i||(listed.getD j true||(!(o5 3 (kind j))||OG Y L L.size j i))))
def KT(Y:z7)(L:Array Oper)(kind:Nat->Nat)(a:Array Bool->Bool):List Nat->Array Bool->Bool
 | [],listed=>a listed
 | i::r,listed=>cond (o5 (kind i) 1) (Bv9 Y L kind i listed) ((o6 Y L listed)==[i])&&KT Y L kind a r (listed.setIfInBounds i true)
def YA(Y:z7)(L:Array Oper)(kind:Nat->Nat):List Nat->Array Bool->Bool:=KT Y L kind λlisted=>(o6 Y L listed).isEmpty
def Cq8{kind:Nat->Nat}{t:Act->World->Prop}(H:aa3 L=true)(m:∀(j:Nat) (o:Oper) c,L[j]? = some o->o.op≠.defer c)(C:∀j,L.size<=j->kind j<=1){i b:Nat}{listed:Array Bool}{a:Act}{g:World}{o:Oper}{v:Value}
  (u:Bv9 Y L kind i listed=true) (x:DC Y L listed) (y:L[i]? = some o) (J:YQ F n P L (p9 (kind i) 1) g o v a)
  (h:DC Y L (listed.setIfInBounds i true)->∀w,P3 g w->wpR F n P Y L (λj=>o5 3 (kind j)) t b (listed.setIfInBounds i true) (a.put o.dst v) w):∀w,P3 g w->wpR F n P Y L (λj=>o5 3 (kind j)) t (b+1) listed a w:=by
 intro w I;simp only[Bv9,j0] at u;obtain⟨G,A,d⟩:=u;have e:i∈o6 Y L listed:=by simpa using G
 refine Ci7 (q:=p9 (kind i) 1) y (Region.noSelect_spec H) m b listed a g (Region.free_spec y A) (λD j k r f=>?_) x e J (h (x.set e)) w I;have p:=p5 D;rw[p] at d;simp only[show p9 1 0=false from rfl,ai1,j8,ah7] at d;have l:j<L.size:=aa9 λB=>by
  have:=C j (by omega);have K:=KB f;omega
 have:=d j l;rw[show p9 j i=false by cases z:p9 j i with|false=>rfl|true=>exact absurd (p5 z) k,r,f] at this;simpa using this
def Rq{kind:Nat->Nat}{Qn E:Act->World->Prop}{fin:Array Bool->Bool}{m:Nat}(B:aa3 L=true)(k:∀(j:Nat) (o:Oper) c,L[j]? = some o->o.op≠.defer c)(A:∀j,L.size<=j->kind j<=1)
  (d:∀listed a f,fin listed=true->DC Y L listed->E a f->∀w,P3 f w->wpR F n P Y L (λj=>o5 3 (kind j)) Qn m listed a w) :
  ∀(b:List Nat) (listed:Array Bool) (a:Act) (f:World),KT Y L kind fin b listed=true->DC Y L listed->S9 F n P L kind E b a f->∀w,P3 f w->wpR F n P Y L (λj=>o5 3 (kind j)) Qn (m+b.length) listed a w
 | [],listed,a,f,r,t,h,w,u=>d listed a f r t h w u
 | i::b,listed,a,f,r,t,h,w,u=>by
  simp only[KT,j0] at r;obtain⟨e,q⟩:=r;simp only[S9] at h;show wpR F n P Y L _ Qn (m+b.length+1) listed a w;by_cases g:kind i<=1
  ·rw[show o5 (kind i) 1=true from WW g,cond_true] at e;obtain⟨o,v,K,M,I⟩:=h.1 g;exact Cq8 B k A e t K M (λx w1 l=>Rq B k A d b _ _ f q x I w1 l) w u
  ·rw[show o5 (kind i) 1=false by cases J:o5 (kind i) 1 with|false=>rfl|true=>exact absurd (KB J) g,cond_false] at e;have G:o6 Y L listed=[i]:=by simpa using e
   refine⟨λC=>(by rw[G] at C;cases C),λj y=>?_⟩;have z:j=i:=by rw[G] at y;simpa using y
   subst z;refine wpOpIn_mono (λH w' D=>?_) (h.2 (by omega) w u);refine⟨λp=>D.1 ?_,λw1 l=>Rq B k A d b _ H w' q (t.set y) D.2 w1 l⟩;have:¬ 3<=kind j:=λh=>by dsimp only at p;rw[WW h] at p;cases p
   omega
def Zv(F:Fence)(n:Nat)(P:Program)(L:Array Oper)(kind:Nat->Nat)(E:Act->World->Prop)(e:Nat)(post:List Nat):List Nat->Act->World->Prop
 | [],a,c=>∀w,P3 c w->wpOpIn F n P L QF e (λd w'=>P3 w w'/\S9 F n P L kind E post d w') a w
 | i::b,a,c=>S9 F n P L kind (Zv F n P L kind E e post b) [i] a c/\
  (2<=kind i->∀w,P3 c w->wpOpIn F n P L QF e (λd w'=>P3 w w'/\S9 F n P L kind E ((i::b)++post) d w') a w)
def Rp(Y:z7)(L:Array Oper)(kind:Nat->Nat)(a:Nat)(post:List Nat):List Nat->Array Bool->Bool
 | [],listed=>(o6 Y L listed==[a])&&YA Y L kind post (listed.setIfInBounds a true)
 | i::r,listed=>cond (o5 (kind i) 1) (Bv9 Y L kind i listed)
   ((o6 Y L listed).contains i&&((o6 Y L listed).all (λj=>p9 j i||p9 j a)&&YA Y L kind ((i::r)++post) (listed.setIfInBounds a true)))&&Rp Y L kind a post r (listed.setIfInBounds i true)
def Cp2{kind:Nat->Nat}{y:Act->World->Prop}{I:Nat}{post:List Nat}(Q:aa3 L=true)(t:∀(j:Nat) (o:Oper) c,L[j]? = some o->o.op≠.defer c)(O:∀j,L.size<=j->kind j<=1) :
  ∀(g:List Nat) (listed:Array Bool) (a:Act) (k:World),Rp Y L kind I post g listed=true->DC Y L listed->Zv F n P L kind (λa k=>∀w,P3 k w->y a w) I post g a k->∀w,P3 k w->wpR F n P Y L (λj=>o5 3 (kind j)) y (post.length+1+g.length) listed a w:=by
 have m:∀(listed:Array Bool) (a:Act) (k:World),(o6 Y L listed).isEmpty=true->DC Y L listed->(∀w,P3 k w->y a w)->∀w,P3 k w->wpR F n P Y L (λj=>o5 3 (kind j)) y 0 listed a w:=
  λlisted a k h _ V w u=>⟨by simpa using h,V w u⟩
 intro g
 induction g with
 | nil=>
  intro listed a k A D h w u;simp only[Rp,j0] at A;obtain⟨b,l⟩:=A;have R:o6 Y L listed=[I]:=by simpa using b
  show wpR F n P Y L _ y (post.length+1) listed a w;refine⟨λG=>(by rw[R] at G;cases G),λj q=>?_⟩;have f:j=I:=by rw[R] at q;simpa using q
  subst f;refine wpOpIn_mono (λz w' p=>⟨λ_=>p.1,λw1 d=>?_⟩) (h w u);have:=Rq Q t O m post _ z w' l (D.set q) p.2 w1 d;rwa [ac8] at this
 | cons i e S=>
  intro listed a k A D h w u;simp only[Rp,j0] at A;obtain⟨b,l⟩:=A;simp only[Zv] at h;obtain⟨K,U⟩:=h;simp only[S9] at K;show wpR F n P Y L _ y (post.length+1+e.length+1) listed a w;by_cases r:kind i<=1
  ·rw[show o5 (kind i) 1=true from WW r,cond_true] at b;obtain⟨o,v,H,W,T⟩:=K.1 r;exact Cq8 Q t O b D H W (λM w1 d=>S _ _ k l M T w1 d) w u
  ·rw[show o5 (kind i) 1=false by cases C:o5 (kind i) 1 with|false=>rfl|true=>exact absurd (KB C) r,cond_false] at b;simp only[j0,j8,aa2] at b;obtain⟨N,B,J⟩:=b;have H:i∈o6 Y L listed:=by simpa using N
   refine⟨λG=>(by rw[G] at H;cases H),λj q=>?_⟩;rcases B j q with C|C
   ·have f:=p5 C;subst f;refine wpOpIn_mono (λz w' p=>?_) (K.2 (by omega) w u);refine⟨λx=>p.1 ?_,λw1 d=>S _ z w' l (D.set q) p.2 w1 d⟩;have:¬ 3<=kind j:=λh=>by dsimp only at x;rw[WW h] at x;cases x
    omega
   ·have f:=p5 C;subst f;refine wpOpIn_mono (λz w' p=>⟨λ_=>p.1,λw1 d=>?_⟩) (U (by omega) w u);have:=Rq Q t O m ((i::e)++post) _ z w' J (D.set q) p.2 w1 d;rw[ac8] at this;rw[show post.length+1+e.length=((i::e)++post).length by rw[w9,ad5];omega];exact this
def PS(d:Option Tmp)(a b:Act):Prop:=∀t,d≠some t->b.tmps[t]? = a.tmps[t]?
def Bu(a:Act)(d:Option Tmp)(v:Value):PS d a (a.put d v):=λt b=>by
 cases d with
 | none=>rfl
 | some d=>
  have:d≠t:=λe=>b (by rw[e])
  simp[af5,this]
def Bq6{o:Oper}{a:Act}{w:World}{N:Act->World->Prop}(h:o.wpIn F n P a w N QF):o.wpIn F n P a w (λf w'=>PS o.dst a f/\N f w') QF:=by
 unfold ag7 at *;refine⟨h.1,?_⟩;have h:=h.2;generalize (o.semAt F.round a.eval).run P w=r at *;cases r with
 | ok x w'=>
  cases x<;>simp only[ab2] at h ⊢
  case value=>exact⟨Bu _ _ _,h⟩
  case skip=>exact⟨Bu _ _ _,h⟩
  case defer=>
   refine⟨λt g=>?_,h⟩;exact Bu { a with defers:=_ } o.dst undef t g
  case enter=>exact⟨h.1,af6 h.2 λe d b=>by
   cases e with
   | returned u=>exact⟨Bu _ _ _,b⟩
   | panicked c=>exact b.elim
   | outgrown=>obtain⟨_,_,h⟩:=b;exact h.elim⟩
  case row=>exact⟨h.1,aj3 h.2 λu d b=>⟨Bu _ _ _,b⟩⟩
  case round=>exact⟨h.1,ag0 h.2 λe d b=>by
   cases e with
   | returned u=>exact⟨Bu _ _ _,b⟩
   | panicked c=>exact b.elim
   | outgrown=>obtain⟨_,_,h⟩:=b;exact h.elim⟩
 | halt x w'=>
  cases x<;>simp only[ab2] at h ⊢
  omega
def Ad7{i:Nat}{o:Oper}(d:L[i]? = some o){a:Act}{w:World}{N:Act->World->Prop}(h:wpOpIn F n P L QF i N a w):wpOpIn F n P L QF i (λc w'=>PS o.dst a c/\N c w') a w:=by
 unfold wpOpIn at *;simp only[d] at h ⊢;split
 ·rename_i b;simp only[b,if_true] at h;exact Bq6 h
 ·rename_i b;simp only[b] at h;exact⟨h.1,Bu _ _ _,h.2⟩
def ED{kind:Nat->Nat}{E:Act->World->Prop}{i:Nat}{o:Oper}(g:L[i]? = some o){a:Act}{j:World}(h:S9 F n P L kind (λc w'=>PS o.dst a c->E c w') [i] a j):S9 F n P L kind E [i] a j:=by
 simp only[S9] at h ⊢;refine⟨λf=>?_,λf w k=>?_⟩
 ·obtain⟨l,v,b,d,e⟩:=h.1 f;obtain rfl:=Option.some.inj (g.symm.trans b);exact⟨_,v,b,d,e (Bu _ _ _)⟩
 ·exact wpOpIn_mono (λc w' ⟨b,d,e⟩=>⟨d,e b⟩) (Ad7 g (h.2 f w k))
def Zt{id:Nat}{Q:Exit->Act->World->Prop}{kind:Nat->Nat}{ord:List Nat}{a:Act}{w:World}(k:P.follows .mixedOrders=true)(p:aa3 L=true)(f:∀(j:Nat) (o:Oper) c,L[j]? = some o->o.op≠.defer c)(i:∀j,L.size<=j->kind j<=1)
  (b:ord.length=L.size) (g:YA .any L kind ord (x7 L.size false)=true) (h:S9 F n P L kind (λa d=>∀w,P3 d w->Q .normal a w) ord a w):(ae5 id L true).wpIn F n P Q a w:=by
 refine wpIn_region_any k ?_;rw[<-b,<-ac8 ord.length];refine Oi (λ_ _ h=>h) _ _ _ _ (Rq (Qn:=λa w=>Q .normal a w) (m:=0) (fin:=λlisted=>(o6 .any L listed).isEmpty) (E:=λa d=>∀w,P3 d w->Q .normal a w) p f i (λlisted a d h _ l w q=>⟨by simpa using h,l w q⟩) ord _ a w (by rw[ac8,b];exact g) (λj o r e=>?_) h _ (P3.refl w));simp only[x9,ad1] at e;split at e<;>cases e
end
section
variable {Z R : Type} {r : R} {C : Cfg} {I : Z -> (Nat -> Prop) -> (Nat -> Prop) -> World -> Prop} {Γ : Ctx} {Φ : Nat -> Prop} {st : St Z} {a : Act} {w : World} {Y : G4} {L : Yh Z} {W : Value} {o : Oper}
def Bl5{P:Program}{m:Sem Next}{w w1 b:World}{x y:Next}(h:m.run P w = .ok x w1)(k:m.run P w = .ok y b):x=y/\w1=b:=by grind
def Tz(w:World)(x:Obj):P3 w (w.alloc x):=⟨⟨λg b=>I9 (w':=w.alloc x) (o:=x) rfl b,by rw[show(w.alloc x).heap=w.heap.push x from rfl];simp⟩,rfl,rfl,rfl⟩
def QB{Γ:Ctx}{e:Nat}{ev:Operand->Value}(b:(C.ti e).ok=true)(c:o.op = .alloc e):∃z:Value,(execOp ev o).run C.P w = .ok (.value (.pointer (some ⟨w.heap.size,0,none⟩))) (w.alloc (.cells z.cells e))/\(∀(Γ:Ctx) sh w,CR Γ sh w ((C.ti e).ks.map Bt) z.cells)/\∃i,C.P.info? e=some i/\i.zero=some z:=by
 obtain⟨i,z,d,f,_,_⟩:=Om (Γ:=Γ) (sh:=λ_=>none) (w:=w) b;refine⟨z,?_,λΓ' sh w'=>?_,i,d,f⟩
 ·simp only[execOp,c];simp[Instr.alloc,zeroValue,typeInfo,d,f,newVar,newRow]
 ·obtain⟨k,l,g,j,_,h⟩:=Om (Γ:=Γ') (sh:=sh) (w:=w') b;grind
def Dz4{N:Option Nat}{n:Nat}{k:St Z->Option R}{next:Act->World->Prop}{Q:Exit->Act->World->Prop}(A:Ask C I Y L W)(a0:Γ.yv=W)(y:Bv8 C o.op=true)(h:opK C Y L o st k=some r)(S:SI C I Γ Φ st a.tmps w)(hN:Nxt C I Γ Φ st.hp w a.defers k r (λa' w'=>P3 w w'->next a' w')) :
  o.wpIn (I4 N) n C.P a w next Q:=by
 refine⟨λ_ _=>trivial,?_⟩;have M:∀c,o.op≠.defer c:=λc e=>by simp[opK,e] at h
 rw[ab0 _ _ _ M];unfold Bv8 at y;have add:BN o.op=false->(∃F x,(execOp a.eval o).run C.P w = .ok (.value F) (w.alloc x))->o.uponIn (I4 N) n C.P a next Q ((execOp a.eval o).run C.P w):=λu ⟨F,x,J⟩=>by
  obtain⟨V,w',Γ',l,G,q,h3,h4⟩:=An6 A.hI u h S;have T:=hN l (a.put o.dst V) w' Γ' Φ G h4 h3 (put_defers _ _ _);rcases q with q|⟨rfl,q⟩
  ·obtain⟨_,rfl⟩:=Bl5 q J;rw[q];exact T (Tz w x)
  grind
 split at y
 ·rename_i t len parts b;refine add (by rw[b];rfl) ?_;simp only[opK,b] at h;obtain⟨p1,p2⟩:=S.parts parts.toList;obtain⟨v,H',hk,hv,F,x,j⟩:=Jg (ps:=parts.map λ(i,x)=>(i,a.eval x)) (sl:=st.sl) (tmps:=a.tmps) S.hr h (by rw[ag3];exact p1);refine⟨F,x,?_⟩;simp only[execOp,b];simp[j]
 ·rename_i e b;refine add (by rw[b];rfl) ?_;by_cases B:(C.ti e).ok=true
  ·obtain⟨z,hr,_⟩:=QB (Γ:=Γ) (ev:=a.eval) (w:=w) B b;exact⟨_,_,hr⟩
  ·simp[opK,b,FW,B] at h
 ·rename_i c b;split at y
  ·rename_i g m;simp only[j0,p4] at y;obtain⟨⟨pf,p⟩,P⟩:=y;simp only[opK,b,m,opnd,EC,Wo,p,af9,ac5,x8] at h;split at h
   ·rename_i K;obtain⟨ret,X,f,h⟩:=Bp h;have f:M9 (pf (N1 st.hp (c.args.toList.map (opnd C st.sl))))=some (ret,X):=by
     cases U:C.xp g with
     | true=>rw[U] at f;exact(Ce f).1
     | false=>rw[U] at f;exact f
    obtain⟨G,q⟩:=C6 h;obtain⟨hc,T⟩:=S.list c.args;have key:=KR (k:=λv l=>k { l with sl:=Ck o.dst v l.sl }) A.hI A.hX S hc p f (aa6.1 K) (by simpa only[aa2,ab4,j0] using G) q;have H:execOp a.eval o=(do let d <-o9 (a.eval (.func g)) (c.args.map a.eval);invoke d.target d.args):=by simp only[execOp,b,resolve,m]
    have j:(execOp a.eval o).run C.P w=(callFunc g (c.args.map a.eval)).run C.P w:=by
     rw[H];have e:a.eval (.func g) = .func (.func g) #[] #[]:=rfl;rw[e];simp[o9,invoke]
    rw[j];refine key N n o a next Q ?_
    rintro V w' ⟨⟨v,l,Γ',O,k1,k2,D,k4,k5⟩,J⟩;exact hN _ (a.put o.dst V) w' Γ' O k1 k2 ⟨D.hr,D.sr.put (ds:=a.defers) o k4 k5,D.g,D.inv,D.dis⟩ (put_defers _ _ _) J
   ·cases h
  ·cases y
 ·cases y
def LV(C:Cfg)(op:Op):(Kk C op=0/\((∃x,op = .move x\/op = .assign x\/∃i,op = .extract x i)\/(∃t x d c e,op = .slice t x d c e)\/∃b t x y q,(b = .add\/b = .sub)/\op = .binOp b t x y q))\/(Kk C op=1/\NA C op=true)\/(Kk C op=2/\Bv8 C op=true)\/Kk C op=3:=by unfold Kk;grind
def Dx0{k:St Z->Option R}(f:(∃x,o.op = .move x\/o.op = .assign x\/∃i,o.op = .extract x i)\/(∃t x j g l,o.op = .slice t x j g l)\/∃b t x y q,(b = .add\/b = .sub)/\o.op = .binOp b t x y q)(h:opK C Y L o st k=some r)(S:SI C I Γ Φ st a.tmps w) :
  ∃V c,k c=some r/\(∀w':World,(execOp a.eval o).run C.P w' = .ok (.value V) w')/\SI C I Γ Φ c (a.put o.dst V).tmps w/\Stp C Γ st.hp w noΦ Γ c.hp w noΦ:=by
 rcases f with⟨x,d⟩|⟨t,x,j,g,l,d⟩|⟨b,t,x,y,q,f,d⟩
 ·obtain⟨V,c,m,n,p,u⟩:=CV (a:=a) (show Q9 C o.op=true by rcases d with h|h|⟨_,h⟩<;>rw[h]<;>rfl) h S;refine⟨V,c,m,λw'=>?_,p,u⟩;have e:=n w (Ext.refl w);rcases d with d|d|⟨i,d⟩<;>simp only[execOp,d] at e ⊢
  ·cases e;rfl
  ·cases e;rfl
  ·unfold Instr.extract at e ⊢;split at e
   ·split at e
    ·cases e;simp_all
    ·cases e
   ·cases e
 ·exact Av3 (a:=a) d h S
 ·exact Cg3 (a:=a) f d h S
def V9{ro:Option Nat}{n:Nat}{all:Array Oper}{E:Act->World->Prop}(A:Ask C I Y L W):∀(c:List Nat) {Γ:Ctx} {Φ:Nat->Prop} {st:St Z} {a:Act} {w:World} {k:St Z->Option R},(∀i∈c,i<all.size)->Γ.yv=W->
  Bm C Y L all (c.filterMap (all[·]?)) st k=some r->SI C I Γ Φ st a.tmps w->Nxt C I Γ Φ st.hp w a.defers k r E->S9 (I4 ro) n C.P all (Q7 C all) E c a w
 | [],Γ,Φ,st,a,w,k,l,hyv,h,S,hN=>hN st a w Γ Φ h (Stp.refl S.hr) S rfl
 | i::c,Γ,Φ,st,a,w,k,l,hyv,h,S,hN=>by
  have a6:=l i (by simp);obtain⟨o,ho⟩:∃o,all[i]? = some o:=⟨all[i],aa8 a6⟩
  have y:∀j∈c,j<all.size:=λj hj=>l j (by simp[hj])
  rw[List.filterMap_cons,ho] at h;have a9:Q7 C all i=Kk C o.op:=by simp only[Q7,ho]
  have b0:∀{w1:World},P3 w w1->Nxt C I Γ Φ st.hp w a.defers k r E->SI C I Γ Φ st a.tmps w1/\Nxt C I Γ Φ st.hp w1 a.defers k r E:=fun {w1} p hN=>by
   obtain⟨S1,H⟩:=S.like A.hI p;exact⟨S1,λd a' w' Γ' Φ' D f F G=>hN d a' w' Γ' Φ' D (H.trans f) F G⟩
  have run:∀{st:St Z},o7 o (yielded all a.tmps)=true->SI C I Γ Φ st a.tmps w->Nxt C I Γ Φ st.hp w a.defers k r E->opK C Y L o st (λd=>Bm C Y L all (c.filterMap (all[·]?)) d k)=some r->S9 (I4 ro) n C.P all (Q7 C all) E (i::c) a w:=fun {st} q S hN h=>by
   have a0:Kk C o.op<=1->∃V d,Bm C Y L all (c.filterMap (all[·]?)) d k=some r/\YQ (I4 ro) n C.P all (p9 (Kk C o.op) 1) w o V a/\SI C I Γ Φ d (a.put o.dst V).tmps w/\Stp C Γ st.hp w Φ Γ d.hp w Φ:=λP=>by
    rcases LV C o.op with⟨M,hb⟩|⟨M,hq⟩|⟨M,_⟩|M
    ·obtain⟨V,d,D,f,F,G⟩:=Dx0 (a:=a) hb h S;refine⟨V,d,D,⟨λ_ _ _ _=>trivial,.inl ⟨q,λw' _=>?_⟩⟩,F,G.lift Φ⟩;unfold ab8;rw[f w'];exact⟨rfl,rfl⟩
    ·rw[M];simp only[NA,aa2] at hq;rcases hq with hq|hq
     ·obtain⟨V,d,D,f,F,G⟩:=CV (a:=a) hq h S;refine⟨V,d,D,⟨λ_ _ _ _=>trivial,.inl ⟨q,λw' Q=>?_⟩⟩,F,G.lift Φ⟩;unfold ab8;rw[f w' (Q rfl).1.1];exact⟨rfl,rfl⟩
     ·obtain⟨V,d,D,f,F,G⟩:=B85 (ro:=ro) (n:=n) (a:=a) A.hI A.hX hq h S;exact⟨V,d,D,⟨λ_ _ _ _=>trivial,.inl ⟨q,λw' Q=>f w' (Q rfl)⟩⟩,F,G.lift Φ⟩
    all_goals omega
   simp only[S9];rw[a9];refine⟨λP=>?_,λa7 w1 p=>?_⟩
   ·obtain⟨V,d,D,f,F,G⟩:=a0 P;exact⟨o,V,ho,f,V9 A c y hyv D F λt O w2 u x T X k3 k4=>hN t O w2 u x T (G.trans X) k3 (k4.trans (put_defers _ _ _))⟩
   ·obtain⟨S1,H⟩:=S.like A.hI p;unfold wpOpIn;simp only[ho,q,if_true];rcases LV C o.op with⟨M,_⟩|⟨M,_⟩|⟨M,hx⟩|M
    ·omega
    ·omega
    ·exact Dz4 A hyv hx h S1 λd a' w' Γ' Φ' D f F G hl=>⟨λ_=>hl,V9 A c y (f.yv.trans hyv) D F λt O w2 u x T X k3 k4=>hN t O w2 u x T (H.trans (f.trans X)) k3 (k4.trans G)⟩
    ·exact Cw0 A hyv h S1 λd a' w' Γ' Φ' D f F G=>⟨λe=>by omega,V9 A c y (f.yv.trans hyv) D F λt O w2 u x T X k3 k4=>hN t O w2 u x T (H.trans (f.trans X)) k3 (k4.trans G)⟩
  have skip:∀{st:St Z},o7 o (yielded all a.tmps)=false->SI C I Γ Φ st a.tmps w->Nxt C I Γ Φ st.hp w a.defers k r E->Bm C Y L all (c.filterMap (all[·]?)) { st with sl:=Ck o.dst (.tup []) st.sl } k=some r->S9 (I4 ro) n C.P all (Q7 C all) E (i::c) a w:=fun {st} q S hN h=>by
   simp only[S9];have go:∀{w1:World},P3 w w1->S9 (I4 ro) n C.P all (Q7 C all) E c (a.put o.dst undef) w1:=fun {w1} p=>by
    obtain⟨S1,H⟩:=S.like A.hI p;exact V9 A c (st:={ st with sl:=Ck o.dst (.tup []) st.sl }) y hyv h (S1.put (o:=o) Ja (by simp[PV.nms,C9])) λt O w2 u x T X k3 k4=>hN t O w2 u x T (H.trans X) k3 (k4.trans (put_defers _ _ _))
   refine⟨λP=>⟨o,undef,ho,⟨λ_ _ _ _=>trivial,.inr ⟨q,rfl⟩⟩,go (P3.refl w)⟩,λa7 w1 p=>?_⟩;unfold wpOpIn;simp only[ho,q,af4,if_false];exact⟨λ_ _=>trivial,λ_=>P3.refl w1,go p⟩
  simp only[Bm] at h;split at h
  ·rename_i hg;exact run (by simp[o7,hg]) S hN h
  ·rename_i j N hg;split at h
   ·rename_i g a1;have a4:∀b,a.tmps[g]? = some (.bool b)->yielded all a.tmps j=some b:=λb e=>by simp[yielded,a1,e]
    have a3:(∀b,a.tmps[g]?≠some (.bool b))->yielded all a.tmps j=none:=λb2=>by
     simp only[yielded,a1,j1]
    have m:∀v,st.sl.getD g (.tup [])=v->∀V,a.tmps[g]? = some V->VP Γ (A5 st.hp) w v V:=λv hv V hV=>by
     have l:g<st.sl.length:=by rw[<-S.sr.size];exact(o8.1 hV).1
     obtain⟨U,e1,e2⟩:=S.sr.slot g l;grind
    split at h
    ·rename_i b hb;have l:g<st.sl.length:=aa9 λb1=>by grind
     obtain⟨U,e1,e2⟩:=S.sr.slot g l;have hU:=(m _ hb U e1).inv_bool;subst hU;have z:yielded all a.tmps j=some b:=a4 b e1;have S':SI C I Γ Φ { st with sl:=st.sl.set g (.s (.bool b)) } a.tmps w:=⟨S.hr,S.sr.set g (m _ hb) (by simp[PV.nms]),S.g,S.inv,S.dis⟩
     have K:(if (b==N)=true then opK C Y L o { st with sl:=st.sl.set g (.s (.bool b)) } (λd=>Bm C Y L all (c.filterMap (all[·]?)) d k) else Bm C Y L all (c.filterMap (all[·]?)) { st with sl:=Ck o.dst (.tup []) (st.sl.set g (.s (.bool b))) } k)=some r:=by
      cases b<;>exact h
     by_cases J:b=N
     ·rw[if_pos (by simpa using J)] at K;exact run (by simp[o7,hg,z,J]) S' hN K
     ·rw[if_neg (by simpa using J)] at K;exact skip (by simp[o7,hg,z,J]) S' hN K
    ·rename_i hb;have z:yielded all a.tmps j=none:=a3 λb a5=>by
      obtain⟨B,e,_⟩:=(m _ hb _ a5).inv_tup;cases e
     exact skip (by simp[o7,hg,z]) S hN h
    grind
   ·cases h
def D77:Op->Bool
 | .defer _=>false
 | _=>true
def Cx6(C:Cfg)(b:Array Oper):Bool:=
 aa3 b&&(b.toList.all (λo=>D77 o.op)&&(p9 (EQ C b.toList).length b.size&&((EQ C b.toList).all (λi=>o5 (i+1) b.size)&&YA .any b (Q7 C b) (EQ C b.toList) (x7 b.size false))))
def Bn3(o:Oper):List Nat:=o.op.operands.toList.filterMap λx=>match x with | .tmp t=>some t|_=>none
def Ii(b:Array Oper)(f:Nat)(c:List Nat):Bool:=match b[f]? with
 | some e=>(match e.dst with|some _=>true|none=>false)&&c.all λi=>match b[i]? with
  | some o=>(match o.dst with|some d=>!(Bn3 e).contains d&&!(e.dst==some d)|none=>true)
  | none=>false
 | none=>false
def Bf0(C:Cfg)(b:Array Oper)(c:Nat):Bool:=
 aa3 b&&(b.toList.all (λo=>D77 o.op)&&(p9 (Kn C b++(Ij C b c++c::Es C b c)).length b.size&&((Kn C b++(Ij C b c++c::Es C b c)).all (λi=>o5 (i+1) b.size) &&
  (Ii b c (Ij C b c)&&(p9 (Q7 C b c) 2&&KT .any b (Q7 C b) (Rp .any b (Q7 C b) c (Es C b c) (Ij C b c)) (Kn C b) (x7 b.size false))))))
def Be9(C:Cfg)(id:Nat)(b:Array Oper):Bool:=match C.rowR id with
 | none=>Cx6 C b
 | some i=>Bf0 C b i
def V5(C:Cfg)(rf:Bool):Code->Bool
 | .region id c d=>!d||Be9 C id c
 | .seq a b=>V5 C rf a&&V5 C rf b
 | .cond _ a b=>V5 C rf a&&V5 C rf b
 | .block _ a=>V5 C rf a
 | .loop a=>V5 C rf a
 | .scope a=>V5 C rf a
 | .rangeFunc _ _ a b=>rf&&V5 C false a&&V5 C false b
 | _=>true
def Cp3(C:Cfg)(c:Code):Bool:=V5 C true c
def Cb7{N:Option Nat}{n id:Nat}{b:Array Oper}{Q:Exit->Act->World->Prop}{k:St Z->Option R}(A:Ask C I Y L W)(F:C.P.follows .mixedOrders=true)(d:Cx6 C b=true)(m:Γ.yv=W)(h:Bm C Y L b (D82 C b true) st k=some r)(S:SI C I Γ Φ st a.tmps w)
  (hN:Nxt C I Γ Φ st.hp w a.defers k r (λf w'=>Q .normal f w')):(ae5 id b true).wpIn (I4 N) n C.P Q a w:=by
 simp only[Cx6,j0] at d;obtain⟨x,t,y,u,z⟩:=d;rw[j8] at t u;refine Zt (kind:=Q7 C b) (ord:=EQ C b.toList) F x (λj o c G e=>?_) (λj D=>?_) (p5 y) z (V9 A _ (λi B=>KB (u i B)) m h S λp f w' Γ' q H J K M w1 l=>?_)
 case refine_3=>
  obtain⟨v,g⟩:=K.like A.hI l;exact hN p f w1 Γ' q H (J.trans g) v M
 ·have:=t o (by simpa using ae1 G);rw[e] at this;cases this
 ·simp only[Q7,ab3 D];exact j7 _
def Trn.B(C:Cfg)(V:Value)(x:Obj)(g:Nat):Trn->Prop
 | .row v=>∀(St:Nat->Prop) (w1:World),St g->w1.heap[g]? = some x->VS St w1 v V
 | .var e=>(C.ti e).ok=true/\(∀n el,C.sh e≠.array n el)/\V = .pointer (some ⟨g,0,none⟩)/\∃z:Value,x = .cells z.cells e/\∀(Γ:Ctx) sh w,CR Γ sh w ((C.ti e).ks.map Bt) z.cells
def Ae8(C:Cfg)(o:Oper)(b:Operand->Value)(t:Trn):Prop:=∀w:World,∃V x,(execOp b o).run C.P w = .ok (.value V) (w.alloc x)/\t.B C V x w.heap.size
def Cz6(op:Op):Prop:=(∃t len b,op = .buildSlice t len b)\/∃e,op = .alloc e
def Cw6{St St':Nat->Prop}{w w':World}{v:SV}{U:Value}(c:v.plain=true)(h:VS St w v U):VS St' w' v U:=by
 cases h with
 | bool b=>exact .bool b
 | int k n=>exact .int k n
 | str s=>exact .str s
 | nilp=>exact .nilp
 | nilm=>exact .nilm
 | nilf=>exact .nilf
 | _=>simp[SV.plain] at c
def Bj0{k:Trn->Option R}(S:SI C I Γ Φ st a.tmps w)(h:Bi9 C o st.sl k=some r):o.guard=none/\Cz6 o.op/\∃t,k t=some r/\Ae8 C o a.eval t:=by
 unfold Bi9 at h;split at h
 ·rename_i e H c;refine⟨H,.inr ⟨_,c⟩,?_⟩;split at h
  ·cases h
  ·rename_i q;obtain⟨b,h⟩:=C6 h;refine⟨_,h,λw1=>?_⟩;obtain⟨z,Q,g,_⟩:=QB (Γ:=Γ) (ev:=a.eval) (w:=w1) b c;exact⟨_,_,Q,b,q,rfl,z,rfl,g⟩
 ·rename_i t len parts H c;refine⟨H,.inl ⟨_,_,_,c⟩,?_⟩;split at h
  ·rename_i e q;split at h
   ·rename_i b;simp only[j0,decide_eq_true_eq] at b;obtain⟨⟨b,d⟩,X⟩:=b;split at h
    ·rename_i out V;split at h
     ·rename_i vs M;obtain⟨K,h⟩:=C6 h;refine⟨_,h,?_⟩;obtain⟨hp,_⟩:=S.parts parts.toList;obtain⟨i,z,l,hz,u,F⟩:=Om (Γ:=Γ) (sh:=A5 st.hp) (w:=w) b;obtain⟨_,_,_,a0⟩:=N4 b;have J:0<(C.ti e).ks.length:=by rename_i Q g;omega
      have T:=Bx9 F (by simpa using J) len;rw[y5] at T;obtain⟨B,O,D,e3⟩:=Hy (place':=λj=>some (j*i.size,i.size)) (λj off size m h0=>by rw[u];exact m) V T hp;obtain⟨f1,f2⟩:=Ci (As:=B.toList) M (by simpa using D.1.symm) (λj m=>by
       obtain⟨U,e,k⟩:=D.2 j m;exact⟨U,by simpa using e,k⟩)
      have y:B.size=len*(C.ti e).ks.length:=by
       have n:∀{place:Nat->Option (Nat × Nat)} {A:List (Nat × PV)} {cells out:List PV},Jj place cells A=some out->out.length=cells.length:=by
        intro place A
        induction A with
        | nil=>intro cells out h;simp only[Jj,b8] at h;rw[h]
        | cons p A ih=>
         intro cells out h;obtain⟨i,v⟩:=p;simp only[Jj] at h;split at h
         ·split at h
          ·rw[ih h,D8]
          grind
         grind
       rw[D.1,n V,Jk,y5]
      have f:vs.length=len*(C.ti e).ks.length:=by rw[f1,ac6,y]
      intro N;have hr:=Ip (P:=C.P) N len (parts.map λ(i,x)=>(i,a.eval x)) B (K5 q) l hz (by rw[u];exact d) (by rw[u] at O ⊢;rw[ag3];exact O);refine⟨.slice (some ⟨N.heap.size,0,none⟩) len len,.cells B e,by simp only[execOp,c];simp[hr],λSt w1 G hx=>?_⟩;refine .sl true _ N.heap.size 0 len len _ (λi j=>(B[i*(C.ti e).ks.length+j]?).getD undef) (by rw[Ae]) (j7 _) (by simp only[maxLen];omega) (λ_=>rfl) G (λi l=>(Gu _ _ _ f i l).1) (λi l j m=>?_) (λi l j m=>?_)
      ·obtain⟨g,_⟩:=(Gu _ _ _ f i l).2 j m;have:i*(C.ti e).ks.length+j<B.size:=by rw[y,<-f];exact g
       simp[aj5,hx,this]
      ·obtain⟨g,e4⟩:=(Gu _ _ _ f i l).2 j m;obtain⟨U,e5,k5⟩:=f2 _ g;rw[e4];have e6:(B[i*(C.ti e).ks.length+j]?).getD undef=U:=by grind
       rw[e6];exact Cw6 (j8.1 K _ (j5 g)) k5
     grind
    grind
   ·cases h
  ·cases h
 ·cases h
def A16{d:Option Tmp}{a b:Act}(h:PS d a b){c:Oper}(f:∀t,d=some t->t∉Bn3 c):∀x∈c.op.operands,b.eval x=a.eval x:=by
 intro x g;cases x with
 | tmp t=>
  have:d≠some t:=λe=>f t e (List.mem_filterMap.2 ⟨.tmp t,by simpa using g,rfl⟩)
  have e:=h t this;simp only[Act.eval,x9,e]
 | _=>rfl
def Dl4{m:Option Nat}{n:Nat}{all:Array Oper}{g:Nat}{d:Oper}{t:Trn}(l:all[g]? = some d)(k:d.guard=none)(f:Cz6 d.op)(b:Ae8 C d a.eval t){K:Act->World->Prop}
  (h:∀V x,t.B C V x w.heap.size->K (a.put d.dst V) (w.alloc x)):wpOpIn (I4 m) n C.P all QF g K a w:=by
 unfold wpOpIn;simp only[l];rw[if_pos (by simp[o7,k])];refine⟨λ_ _=>trivial,?_⟩;rw[ab0 _ _ _ (λc e=>by rcases f with⟨_,_,_,h⟩|⟨_,h⟩<;>rw[h] at e<;>cases e)];obtain⟨V,x,i,j⟩:=b w;rw[i];exact h V x j
structure Ae6 (C:Cfg) (d:Option Tmp) (t:Trn) (g:Nat) (x:Obj) (Γ:Ctx) (Φ:Nat->Prop) (a:Act) (w:World):Prop where
 at':w.heap[g]? = some x
 st:¬ Γ.St g
 nm:∀b,Γ.nm b≠some g
 fo:¬ Φ g
 ex:∃V,t.B C V x g
 val:∀V,(∃t,d=some t/\a.tmps[t]? = some V)->t.B C V x g
def Au5(S:SI C I Γ Φ st a.tmps w)(d:Option Tmp):SI C I Γ Φ { st with sl:=Ck d .bad st.sl } a.tmps w:=by
 cases d with
 | none=>exact S
 | some t=>exact⟨S.hr,S.sr.set t (λV _=>.bad V) (by simp[PV.nms]),S.g,S.inv,S.dis⟩
def B04(S:SI C I Γ Φ st a.tmps w){d:Option Tmp}{v:PV}(h:∀V,(∃t,d=some t/\a.tmps[t]? = some V)->VP Γ (A5 st.hp) w v V)(b:∀c∈v.nms,c<st.hp.length):SI C I Γ Φ { st with sl:=Ck d v st.sl } a.tmps w:=by
 cases d with
 | none=>exact S
 | some t=>exact⟨S.hr,S.sr.set t (λV hV=>h V ⟨t,rfl,hV⟩) b,S.g,S.inv,S.dis⟩
def Ae6.step{Γ':Ctx}{Φ':Nat->Prop}{H':List Blk}{a':Act}{w':World}{d4 d:Option Tmp}{t:Trn}{g:Nat}{x:Obj}(h:Ae6 C d4 t g x Γ Φ a w)(hs:Stp C Γ st.hp w Φ Γ' H' w' Φ')(hag:PS d a a')(hne:d4≠none->d≠d4):Ae6 C d4 t g x Γ' Φ' a' w':=by
 have hlt:g<w.heap.size:=(o8.1 h.at').1;refine⟨by rw[hs.frame g hlt h.nm h.fo];exact h.at',λe=>?_,λb e=>?_,λe=>?_,h.ex,?_⟩
 ·rcases hs.stnew g e with e|e
  ·exact h.st e
  ·omega
 ·rcases hs.own b g e with⟨_,e⟩|e
  ·exact h.nm b e
  ·omega
 ·rcases hs.foot g e with e|e
  ·exact h.fo e
  ·omega
 ·rintro V ⟨t,ht,hV⟩;have:d≠some t:=λe=>hne (by rw[ht];simp) (by rw[e,ht])
  rw[hag t this] at hV;exact h.val V ⟨t,ht,hV⟩
def JU{H:List Blk}(x:Blk)(g:Nat):Az Γ (A5 H) w (Γ.upd H.length g) (A5 (H++[x])) w (· < H.length):=
 ⟨λ_ _=>rfl,λ_ h=>h,λb c=>by simp only[Ctx.upd];rw[if_neg (by omega)],λb c=>Q0 c,λ_ _ _ _=>rfl,rfl⟩
def Stp.adopt{Γ0:Ctx}{H0 H:List Blk}{w0:World}{Φ0:Nat->Prop}{g:Nat}(x:Blk)(hs:Stp C Γ0 H0 w0 Φ0 Γ H w Φ)(hg:w0.heap.size<=g):Stp C Γ0 H0 w0 Φ0 (Γ.upd H.length g) (H++[x]) w Φ:=by
 have hl:=hs.len;refine⟨hs.os,hs.tape,hs.output,hs.size,hs.sub,hs.stnew,λb g' h=>?_,hs.foot,hs.frame,hs.yv,by simp;omega,λb hb hf=>?_⟩
 ·simp only[Ctx.upd] at h;split at h
  ·grind
  ·exact hs.own b g' h
 ·obtain⟨p1,p2,p3⟩:=hs.keep b hb hf;exact⟨by simp only[Ctx.upd];rw[if_neg (by omega)];exact p1,by rw[Q0 (by omega)];exact p2,p3⟩
def SI.adopt(S:SI C I Γ Φ st a.tmps w){x:Blk}{g:Nat}(hlt:g<w.heap.size)(h1:¬ Γ.St g)(h2:∀b,Γ.nm b≠some g)(h3:¬ Φ g)(hb:BR (Γ.upd st.hp.length g) (A5 (st.hp++[x])) w st.hp.length x)(hn:∀c∈x.nms,c<st.hp.length+1) :
  SI C I (Γ.upd st.hp.length g) Φ { st with hp:=st.hp++[x] } a.tmps w:=by
 have M:Az Γ (A5 st.hp) w (Γ.upd st.hp.length g) (A5 (st.hp++[x])) w (· < st.hp.length):=JU x g;refine⟨⟨λb b' g' k1 k2=>?_,λb g' h=>?_,S.hr.stlt,λb hb' c hc=>?_,λb hb'=>?_⟩,SR.grow M S.sr,S.g,S.inv,λb g' h=>?_⟩
 ·simp only[Ctx.upd] at k1 k2;split at k1<;>split at k2
  ·omega
  ·rw[<-k1] at k2;exact absurd k2 (h2 b')
  ·rw[<-k2] at k1;exact absurd k1 (h2 b)
  ·exact S.hr.inj b b' g' k1 k2
 ·simp only[Ctx.upd] at h;split at h
  ·simp only[b8] at h;subst h;exact⟨by simp;omega,hlt,h1⟩
  ·have:=S.hr.lt b g' h;exact⟨by simp;omega,this.2⟩
 ·rw[w9,ae3] at hb' ⊢;by_cases e:b=st.hp.length
  ·subst e;simp at hc;exact hn c hc
  ·have hb2:b<st.hp.length:=by omega
   rw[y8 hb2] at hc;have:=S.hr.nms b hb2 c hc;omega
 ·rw[w9,ae3] at hb';by_cases e:b=st.hp.length
  ·subst e;simpa using hb
  ·have hb2:b<st.hp.length:=by omega
   rw[y8 hb2];exact(S.hr.blk b hb2).mono M (M.nm b hb2) (λ_ _=>rfl) (λc hc=>S.hr.nms b hb2 c hc)
 ·simp only[Ctx.upd] at h;split at h
  ·simp only[b8] at h;subst h;exact h3
  ·exact S.dis b g' h
def Bo8{q:Ctx}{F:List Blk}{D:World}{u:Nat->Prop}{k:St Z->Option R}{d:Option Tmp}{t:Trn}{g:Nat}{x:Obj}(H:HI I)(S:SI C I Γ Φ st a.tmps w)(h:Te C d t st k=some r)(f:Ae6 C d t g x Γ Φ a w)(l:Stp C q F D u Γ st.hp w Φ)(K:D.heap.size<=g) :
  ∃m Γ',k m=some r/\SI C I Γ' Φ m a.tmps w/\Stp C q F D u Γ' m.hp w Φ:=by
 have p:g<w.heap.size:=(o8.1 f.at').1;cases t with
 | row v=>
  have M:=S.wideSt H (St':=λy=>Γ.St y\/y=g) (λ_ h=>.inl h) (λy i=>by rcases i with i|rfl;exact λe=>(H.foot _ _ _ _ S.inv y e).2 i;exact f.fo) (λb y J=>by
   rintro(i|rfl)
   ·exact(S.hr.lt b y J).2.2 i
   ·exact f.nm b J) (λy i=>by rcases i with i|rfl;exact S.hr.stlt y i;exact p)
  exact⟨_,_,h,B04 M (λV hV=>.s _ _ (f.val V hV _ _ (.inr rfl) f.at')) (by simp[PV.nms]),⟨l.os,l.tape,l.output,l.size,λy i=>.inl (l.sub y i),λy i=>by rcases i with i|rfl;exact l.stnew y i;exact .inr K,l.own,l.foot,l.frame,l.yv,l.len,l.keep⟩⟩
 | var e=>
  obtain⟨_,B,a0,_,z,rfl,hz⟩:=f.ex;simp only[Te,FW,B,if_true] at h;have n:=hz Γ (A5 st.hp) w;obtain⟨T,P,Q,X,e4,e5,e6,G⟩:=Z7 (C:=C) (C.nilT e) ((C.ti e).ks.map Bt) 0 st.hp z.cells.toList S.hr (by simpa using n.1.symm) (λj A=>by
   obtain⟨U,e,k⟩:=n.2 j A;exact⟨U,by simpa using e,k⟩) (by rw[Zu];simp)
  rw[P] at h;have N:SI C I Γ Φ { st with hp:=st.hp++T } a.tmps w:=⟨Q,SR.grow e4 S.sr,S.g,S.inv,S.dis⟩
  have O:=N.adopt (x:=.box (H7 (C.nilT e) ((C.ti e).ks.map Bt) 0 st.hp).1) p f.st f.nm f.fo ⟨g,z.cells,e,by simp[Ctx.upd],f.at',by simpa using e5.symm,λj A=>by
   obtain⟨U,f1,f2⟩:=e6 j A;exact⟨U,by simpa using f1,f2.mono (JU _ g) λc n=>G c (C1.2 ⟨j,A,n⟩)⟩⟩ (λc n=>by have:=G c n;simp only at this ⊢;omega)
  exact⟨_,_,h,B04 O (λV hV=>by
   obtain⟨_,_,rfl,_⟩:=f.val V hV;exact .ptrB _ 0 g J9 (by simp[Ctx.upd])) (by simp[PV.nms]),Stp.adopt _ (l.trans (X.lift Φ)) K⟩
def QD{all:Array Oper}{e:Nat}{c:Oper}{i:Nat}{b:List Nat}(f:all[e]? = some c)(d:Ii all e (i::b)=true):∃o,all[i]? = some o/\(∀t,o.dst=some t->t∉Bn3 c)/\(c.dst≠none->o.dst≠c.dst)/\Ii all e b=true:=by unfold Ii at d ⊢;grind
def MQ{N:Option Nat}{n:Nat}{all:Array Oper}{E:Act->World->Prop}{M:Nat}{l:Oper}{t:Trn}{post:List Nat}{m:Ctx}{H:List Blk}{D:World}{p:Nat->Prop}{ds:List Deferred}{g:Nat}{x:Obj}{k:St Z->Option R}(A:Ask C I Y L W)(K:all[M]? = some l)(b:∀i∈post,i<all.size)(J:D.heap.size<=g)(hN:Nxt C I m p H D ds k r E):∀(c:List Nat) {Γ:Ctx} {Φ:Nat->Prop} {st:St Z} {a:Act} {w:World},(∀i∈c,i<all.size)->Ii all M c=true->Γ.yv=W->
  Ox C Y L all l.dst c st (λd=>Te C l.dst t d λB=>Bm C Y L all (post.filterMap (all[·]?)) B k)=some r->SI C I Γ Φ st a.tmps w->Ae6 C l.dst t g x Γ Φ a w->Stp C m H D p Γ st.hp w Φ->a.defers=ds->S9 (I4 N) n C.P all (Q7 C all) E (c++post) a w
 | [],Γ,Φ,st,a,w,hlt,hap,hyv,h,S,hah,hs,hd=>by
  simp only[Ox] at h;obtain⟨z,Γ',Q,O,f⟩:=Bo8 A.hI S h hah hs J;exact V9 A post b (f.yv.trans (hs.yv.symm.trans hyv)) Q O λd P w2 F G q1 q2 q3 q4=>hN d P w2 F G q1 (f.trans q2) q3 (q4.trans hd)
 | i::rest,Γ,Φ,st,a,w,hlt,hap,hyv,h,S,hah,hs,hd=>by
  obtain⟨o,U,T,v,e⟩:=QD K hap;simp only[Ox] at h;exact ED (E:=S9 (I4 N) n C.P all (Q7 C all) E (rest++post)) U (V9 A [i] (λj q=>hlt j (by simp at q;simp[q])) hyv h S λz a' w' Γ' Φ' V y X k4 u=>
   MQ A K b J hN rest (λj q=>hlt j (by simp[q])) e (y.yv.trans hyv) V (Au5 X l.dst) (hah.step y u v) (hs.trans y) (k4.trans hd))
def Bb4{K:Option Nat}{n:Nat}{all:Array Oper}{E:Act->World->Prop}{B:Nat}{l:Oper}{t:Trn}{post:List Nat}(A:Ask C I Y L W)(P:all[B]? = some l)(hg:l.guard=none)(F:Cz6 l.op)(y:∀i∈post,i<all.size):∀(c:List Nat) {Γ:Ctx} {Φ:Nat->Prop} {st:St Z} {a:Act} {w:World} {k:St Z->Option R},(∀i∈c,i<all.size)->Ii all B c=true->Γ.yv=W->
  Ox C Y L all l.dst c { st with sl:=Ck l.dst .bad st.sl } (λp=>Te C l.dst t p λz=>Bm C Y L all (post.filterMap (all[·]?)) z k)=some r->SI C I Γ Φ st a.tmps w->Ae8 C l a.eval t->Nxt C I Γ Φ st.hp w a.defers k r E->Zv (I4 K) n C.P all (Q7 C all) E B post c a w:=by
 have early:∀(c:List Nat) {Γ:Ctx} {Φ:Nat->Prop} {st:St Z} {a:Act} {w:World} {k:St Z->Option R},(∀i∈c,i<all.size)->Ii all B c=true->Γ.yv=W->
   Ox C Y L all l.dst c { st with sl:=Ck l.dst .bad st.sl } (λp=>Te C l.dst t p λz=>Bm C Y L all (post.filterMap (all[·]?)) z k)=some r->SI C I Γ Φ st a.tmps w->Ae8 C l a.eval t->Nxt C I Γ Φ st.hp w a.defers k r E->
   ∀w1,P3 w w1->wpOpIn (I4 K) n C.P all QF B (λM w'=>P3 w1 w'/\S9 (I4 K) n C.P all (Q7 C all) E (c++post) M w') a w1:=by
  intro c Γ Φ st a w k f m g h S d hN w1 G;refine Dl4 P hg F d λV x hV=>⟨Tz w1 x,?_⟩
  obtain⟨H,Q⟩:=S.like A.hI G;obtain⟨S2,T⟩:=H.like A.hI (Tz w1 x);refine MQ (a:=a.put l.dst V) A P y G.1.2 hN c f m g h (S2.put (o:=l) (v:=.bad) (V:=V) (.bad V) (by simp[PV.nms])) ⟨I8 rfl,λe=>af3 _ (H.hr.stlt _ e),λb e=>af3 _ (H.hr.lt b _ e).2.1,λe=>af3 _ (A.hI.foot _ _ _ _ H.inv _ e).1,⟨V,hV⟩,?_⟩ (Q.trans T) (put_defers _ _ _);rintro V' ⟨t,ht,q⟩;have e:V'=V:=by
   rw[ht] at q;simp only[af5] at q;have:=(o8.1 q).1;simp at this;simpa[this] using q.symm
  rw[e];exact hV
 intro c
 induction c with
 | nil=>
  intro Γ Φ st a w k f m g h S d hN;exact early [] f m g h S d hN
 | cons i u ih=>
  intro Γ Φ st a w k f m g h S d hN;refine⟨?_,λ_=>early (i::u) f m g h S d hN⟩;obtain⟨o,hi,O,a0,D⟩:=QD P m;have S0:=Au5 S l.dst;simp only[Ox] at h;exact ED (E:=Zv (I4 K) n C.P all (Q7 C all) E B post u) hi (V9 A [i] (λj J=>f j (by simp at J;simp[J])) g h S0 λa1 M w' Γ' Φ' k1 k2 k3 k4 N=>
   ih (λj J=>f j (by simp[J])) D (k2.yv.trans g) k1 k3 (by
    have e:=execOp_congr (ρ:=M.eval) (ρ':=a.eval) l (λcs b e=>by rcases F with⟨_,_,_,h⟩|⟨_,h⟩<;>rw[h] at e<;>cases e) (A16 N O);unfold Ae8 at d ⊢;rw[e];exact d) λp a2 w2 U X q1 q2 q3 q4=>hN p a2 w2 U X q1 (k2.trans q2) q3 (q4.trans k4))
def Bf1{J:Option Nat}{n id d:Nat}{b:Array Oper}{B:Oper}{Q:Exit->Act->World->Prop}{k:St Z->Option R}(A:Ask C I Y L W)(hm:C.P.follows .mixedOrders=true)(x:Bf0 C b d=true)(z:Γ.yv=W)(D:b[d]? = some B)
  (h:(Bm C Y L b ((Kn C b).filterMap (b[·]?)) st λg=>Bi9 C B g.sl λt=>
    Ox C Y L b B.dst (Ij C b d) { g with sl:=Ck B.dst .bad g.sl } λm=>Te C B.dst t m λK=>
     Bm C Y L b ((Es C b d).filterMap (b[·]?)) K k)=some r) (S:SI C I Γ Φ st a.tmps w)
  (hN:Nxt C I Γ Φ st.hp w a.defers k r (λa' w'=>Q .normal a' w')):(ae5 id b true).wpIn (I4 J) n C.P Q a w:=by
 simp only[Bf0,j0] at x;obtain⟨P,T,h3,U,h5,h6,h7⟩:=x;rw[j8] at T U;have u:∀(j:Nat) (o:Oper) c,b[j]? = some o->o.op≠.defer c:=λj o c D e=>by
  have:=T o (by simpa using ae1 D);rw[e] at this;cases this
 have V:∀j,b.size<=j->Q7 C b j<=1:=λj f=>by
  simp only[Q7,ab3 f];exact j7 _
 have l:∀j,j∈Kn C b\/j∈Ij C b d\/j∈Es C b d->j<b.size:=λj f=>KB (U j (by
  rcases f with f|f|f<;>simp[f]))
 have hC:S9 (I4 J) n C.P b (Q7 C b) (Zv (I4 J) n C.P b (Q7 C b) (λa M=>∀w,P3 M w->Q .normal a w) d (Es C b d) (Ij C b d)) (Kn C b) a w:=
  V9 A _ (λi p=>l i (.inl p)) z h S λg a1 w1 Γ1 Φ1 k1 X k3 k4=>by
   obtain⟨hg,F,v,hv,y⟩:=Bj0 k3 k1;exact Bb4 A D hg F (λi p=>l i (.inr (.inr p))) _ (λi p=>l i (.inr (.inl p))) h5 (X.yv.trans z) hv k3 y λm a2 w2 N O q1 q2 q3 q4 w3 H=>by
    obtain⟨S3,G⟩:=q3.like A.hI H;exact hN m a2 w3 N O q1 (X.trans (q2.trans G)) S3 (q4.trans k4)
 refine wpIn_region_any hm ?_;have q:=p5 h3;have e:b.size=(Es C b d).length+1+(Ij C b d).length+(Kn C b).length:=by
  rw[<-q];simp only[w9,ad5];omega
 rw[e];refine Oi (wr:=λj=>o5 3 (Q7 C b j)) (Qn:=λa w=>Q .normal a w) (λ_ _ h=>h) _ _ _ _ (Rq (fin:=Rp .any b (Q7 C b) d (Es C b d) (Ij C b d)) P u V
  (λlisted a M hf hd hM w hw=>Cp2 P u V _ listed a M hf hd hM w hw) (Kn C b) (x7 ((Es C b d).length+1+(Ij C b d).length+(Kn C b).length) false) a w (by rw[<-e];exact h7) (λj o D f=>?_) hC _ ⟨⟨λ_ _=>rfl,j7 _⟩,rfl,rfl,rfl⟩)
 simp only[x9,ad1] at f;split at f<;>cases f
def Dk2{l:Option Nat}{n id:Nat}{c:Array Oper}{Q:Exit->Act->World->Prop}{k:St Z->Option R}(A:Ask C I Y L W)(f:C.P.follows .mixedOrders=true)(b:Be9 C id c=true)(d:Γ.yv=W)(h:Be8 C Y L id c true st k=some r)(S:SI C I Γ Φ st a.tmps w)
  (hN:Nxt C I Γ Φ st.hp w a.defers k r (λg w'=>Q .normal g w')):(ae5 id c true).wpIn (I4 l) n C.P Q a w:=by
 unfold Be8 at h;unfold Be9 at b;split at h
 ·rename_i e;rw[e] at b;exact Cb7 A f b d h S hN
 ·rename_i i e;rw[e] at b;split at h
  ·rename_i o _ j;exact Bf1 A f b d j h S hN
  ·cases h
end
def Ctx.cut(Γ:Ctx)(L:Nat):Ctx:={ Γ with St:=λg=>Γ.St g\/∃b,L<=b/\Γ.nm b=some g,nm:=λb=>if b<L then Γ.nm b else none }
def mkD(D:Nat):Deferred:={ target:=.collected D,args:=#[] }
section
variable {Z R : Type} {r : R} {C : Cfg} {I : Z -> (Nat -> Prop) -> (Nat -> Prop) -> World -> Prop} {Γ Γ' : Ctx} {Φ Φ' : Nat -> Prop} {st : St Z} {a : Act} {w w' : World} {Y : G4} {L : Yh Z} {yv : Value} {o : Oper} {H H' : List Blk} {tmps : Array Value}
def Off(Γ:Ctx)(Φ:Nat->Prop)(w:World)(g:Nat):Prop:=g<w.heap.size/\¬ Γ.St g/\(∀b,Γ.nm b≠some g)/\¬ Φ g
def Off.step{g:Nat}(h:Off Γ Φ w g)(s:Stp C Γ H w Φ Γ' H' w' Φ'):Off Γ' Φ' w' g/\w'.heap[g]? = w.heap[g]?:=by
 obtain⟨h1,h2,h3,h4⟩:=h;refine⟨⟨j4 h1 s.size,λq=>?_,λb q=>?_,λq=>?_⟩,s.frame g h1 h3 h4⟩
 ·rcases s.stnew g q with q|q
  ·exact h2 q
  ·omega
 ·rcases s.own b g q with⟨_,q⟩|q
  ·exact h3 b q
  ·omega
 ·rcases s.foot g q with q|q
  ·exact h4 q
  ·omega
def Mk(n0:Nat)(Γ:Ctx)(Φ:Nat->Prop)(w:World)(ds:List Deferred):Prop:=n0<=w.heap.size/\∃b:List Nat,ds=b.map mkD/\b.Nodup/\∀D∈b,n0<=D/\Off Γ Φ w D/\w.heap[D]? = some (.deferred (some []))
def Mk.nil{n0:Nat}(h:n0<=w.heap.size):Mk n0 Γ Φ w []:=⟨h,[],rfl,List.nodup_nil,by simp⟩
def Mk.step{n0:Nat}{ds:List Deferred}(h:Mk n0 Γ Φ w ds)(s:Stp C Γ H w Φ Γ' H' w' Φ'):Mk n0 Γ' Φ' w' ds:=by obtain⟨h0,Ds,h1,h2,h3⟩:=h;refine⟨w6 h0 s.size,Ds,h1,h2,λD hD=>?_⟩;obtain⟨k1,k2,k3⟩:=h3 D hD;obtain⟨q1,q2⟩:=k2.step s;exact⟨k1,q1,q2.trans k3⟩
structure We (Γ:Ctx) (Φ:Nat->Prop) (w w':World):Prop where
 same:∀g,Γ.St g\/(∃b,Γ.nm b=some g)\/Φ g->w'.heap[g]? = w.heap[g]?
 size:w.heap.size<=w'.heap.size
 os:w'.os=w.os
 tape:w'.tape=w.tape
 output:w'.output=w.output
def We.mono(h:We Γ Φ w w'):Az Γ (A5 H) w Γ (A5 H) w' (λ_=>True):=
 ⟨λg hg=>h.same g (.inl hg),λ_ h=>h,λ_ _=>rfl,λ_ _=>rfl,λb g _ hg=>F5 (h.same g (.inr (.inl ⟨b,hg⟩))),rfl⟩
def SI.offW(hI:HI I)(S:SI C I Γ Φ st tmps w)(h:We Γ Φ w w'):SI C I Γ Φ st tmps w':=by
 have hf:=hI.foot _ _ _ _ S.inv;refine⟨⟨S.hr.inj,λb g hb=>?_,λg hg=>j4 (S.hr.stlt g hg) h.size,S.hr.nms,λb hb=>(S.hr.blk b hb).mono h.mono rfl (λg hg=>h.same g (.inr (.inl ⟨b,hg⟩))) (λ_ _=>trivial)⟩,
  S.sr.mono h.mono (λc hc=>⟨trivial,S.sr.nms c hc⟩),S.g.mono (λg hg=>h.same g (.inl hg)) (λ_ h=>h),
  hI.mono _ _ _ _ _ _ S.inv (λ_ h=>h) (λg hg hp=>(hf g hp).2 hg) (λg hg=>j4 (S.hr.stlt g hg) h.size) (λg hg=>h.same g (hg.elim .inl (λq=>.inr (.inr q)))) h.size h.os h.tape h.output,S.dis⟩
 obtain⟨q1,q2,q3⟩:=S.hr.lt b g hb;exact⟨q1,j4 q2 h.size,q3⟩
structure Pg (C:Cfg) (Γ:Ctx) (H:List Blk) (w:World) (Φ:Nat->Prop) (Γ':Ctx) (H':List Blk) (w':World) (Φ':Nat->Prop):Prop where
 os:w'.os=w.os
 tape:w'.tape=w.tape
 output:w'.output=w.output
 size:w.heap.size<=w'.heap.size
 sub:∀g,Γ.St g->Γ'.St g
 own:∀b g,Γ'.nm b=some g->(b<H.length/\Γ.nm b=some g)\/w.heap.size<=g
 foot:∀g,Φ' g->Φ g\/w.heap.size<=g
 yv:Γ'.yv=Γ.yv
 len:H.length<=H'.length
 keep:∀b,b<H.length->Mv C (A5 H b)->Γ'.nm b=Γ.nm b/\A5 H' b=A5 H b/\∀g,Γ.nm b=some g->w'.shape? g=w.shape? g
def Stp.pg(h:Stp C Γ H w Φ Γ' H' w' Φ'):Pg C Γ H w Φ Γ' H' w' Φ':=⟨h.os,h.tape,h.output,h.size,h.sub,h.own,h.foot,h.yv,h.len,h.keep⟩
def Pg.trans{Γ'':Ctx}{H'':List Blk}{w'':World}{Φ'':Nat->Prop}(h:Pg C Γ H w Φ Γ' H' w' Φ')(k:Pg C Γ' H' w' Φ' Γ'' H'' w'' Φ''):Pg C Γ H w Φ Γ'' H'' w'' Φ'':=by
 have h1:=h.size;refine⟨k.os.trans h.os,k.tape.trans h.tape,k.output.trans h.output,w6 h.size k.size,λg hg=>k.sub g (h.sub g hg),λb g hb=>?_,λg hg=>?_,k.yv.trans h.yv,w6 h.len k.len,λb hb hf=>?_⟩
 ·rcases k.own b g hb with⟨_,q⟩|q
  ·exact h.own b g q
  ·exact .inr (by omega)
 ·rcases k.foot g hg with q|q
  ·exact h.foot g q
  ·exact .inr (by omega)
 ·obtain⟨k1,k2,k3⟩:=h.keep b hb hf;have h2:=h.len;obtain⟨m1,m2,m3⟩:=k.keep b (by omega) (by rw[k2];exact hf);exact⟨m1.trans k1,m2.trans k2,λg hg=>(m3 g (k1.trans hg)).trans (k3 g hg)⟩
def Pg.off(hH:HR Γ H w)(h:We Γ Φ w w'):Pg C Γ H w Φ Γ H w' Φ:=
 ⟨h.os,h.tape,h.output,h.size,λ_ h=>h,λb g hb=>.inl ⟨(hH.lt b g hb).1,hb⟩,λ_ h=>.inl h,rfl,j7 _,λb hb _=>⟨rfl,rfl,λg hg=>F5 (h.same g (.inr (.inl ⟨b,hg⟩)))⟩⟩
def Pg.wideSt{St':Nat->Prop}(hH:HR Γ H w)(hs:∀g,Γ.St g->St' g):Pg C Γ H w Φ { Γ with St:=St' } H w Φ:=
 ⟨rfl,rfl,rfl,j7 _,hs,λb g hb=>.inl ⟨(hH.lt b g hb).1,hb⟩,λ_ h=>.inl h,rfl,j7 _,λ_ _ _=>⟨rfl,rfl,λ_ _=>rfl⟩⟩
def We.put{l:Nat}{ob:Obj}(h:Off Γ Φ w l):We Γ Φ w (w.putObj l ob):=by
 refine⟨λg hg=>k9 ?_,by simp,rfl,rfl,rfl⟩;rintro rfl;rcases hg with q|⟨b,q⟩|q
 ·exact h.2.1 q
 ·exact h.2.2.1 b q
 ·exact h.2.2.2 q
def Off.put{g l:Nat}{ob:Obj}(h:Off Γ Φ w g):Off Γ Φ (w.putObj l ob) g:=⟨by simpa using h.1,h.2⟩
def Mk.put{n0 l:Nat}{ob:Obj}{rr:Loop}{ds:List Deferred}(h:Mk n0 Γ Φ w ds)(hl:w.heap[l]? = some (.loop rr)):Mk n0 Γ Φ (w.putObj l ob) ds:=by obtain⟨h0,Ds,h1,h2,h3⟩:=h;refine⟨by simpa using h0,Ds,h1,h2,λD hD=>?_⟩;obtain⟨k1,k2,k3⟩:=h3 D hD;refine⟨k1,k2.put,(k9 ?_).trans k3⟩;rintro rfl;rw[k3] at hl;cases hl
def C98(C:Cfg)(I:Z->(Nat->Prop)->(Nat->Prop)->World->Prop)(n0:Nat)(Γ:Ctx)(Φ:Nat->Prop)(H:List Blk)(w:World)(k:Out->St Z->Option R)(r:R)(Q:Exit->Act->World->Prop):Prop:=
 ∀o b c w' Γ' Φ',k o b=some r->Stp C Γ H w Φ Γ' b.hp w' Φ'->SI C I Γ' Φ' b c.tmps w'->Mk n0 Γ' Φ' w' c.defers->Q o.exit' c w'
def WP(C:Cfg)(I:Z->(Nat->Prop)->(Nat->Prop)->World->Prop)(Y:G4)(L:Yh Z)(yv:Value)(c:Code):Prop:=
 ∀{R:Type} {r:R} {b:Option Nat} {n n0:Nat} {Γ:Ctx} {Φ:Nat->Prop} {st:St Z} {a:Act} {w:World} {k:Out->St Z->Option R} {Q:Exit->Act->World->Prop},
  Γ.yv=yv->A9 C Y L c st k=some r->SI C I Γ Φ st a.tmps w->Mk n0 Γ Φ w a.defers->C98 C I n0 Γ Φ st.hp w k r Q->c.wpIn (I4 b) n C.P Q a w
def No(fn:FuncId)(tmps:Array Value)(c:Array Tmp)(aq b:Code)(D:Nat)(s:LoopState)(p:Option Code):Loop:={ state:=s,pending:=p,fn:=fn,tmps:=tmps,params:=c,assign:=aq,body:=b,defers:=D }
def jmp:Out->Code
 | .normal=>.skip
 | .exit id=>.exit id
 | .ret=>.ret
def Dn5:Option Out->LoopState
 | none=>.ready
 | some _=>.done
structure RIb (C:Cfg) (I:Z->(Nat->Prop)->(Nat->Prop)->World->Prop) (Γ0:Ctx) (H0:List Blk) (w0:World) (Φ0:Nat->Prop) (sl0:List PV) (tmps:Array Value) (l D:Nat) (rc:LoopState->Option Code->Loop) (x:List Blk × Option Out × Z) (St Φ:Nat->Prop) (w:World) (Γb:Ctx) (Φb:Nat->Prop):Prop where
 si:SI C I Γb Φb { sl:=sl0,hp:=x.1,s:=x.2.2 } tmps w
 pg:Pg C Γ0 H0 w0 Φ0 Γb x.1 w Φb
 st:∀g,Γb.St g->St g
 ph:∀g,Φ g↔Φb g\/(∃b,Γb.nm b=some g)\/g=l\/g=D
 ft:∀g,Φ g->g<w.heap.size/\¬St g
 ol:Off Γb Φb w l
 od:Off Γb Φb w D
 hl:w.heap[l]? = some (.loop (rc (Dn5 x.2.1) (x.2.1.map jmp)))
 hd:w.heap[D]? = some (.deferred (some []))
def RI(C:Cfg)(I:Z->(Nat->Prop)->(Nat->Prop)->World->Prop)(c:Ctx)(g:List Blk)(i:World)(e:Nat->Prop)(b:List PV)(tmps:Array Value)(l D:Nat)(h:LoopState->Option Code->Loop):(List Blk × Option Out × Z)->(Nat->Prop)->(Nat->Prop)->World->Prop:=
 λx St Φ w=>∃d f,RIb C I c g i e b tmps l D h x St Φ w d f
def D60{k:Ctx}{n:List Blk}{F:World}{m:Nat->Prop}{j:List PV}{l D:Nat}{B:LoopState->Option Code->Loop}(p:HI I):HI (RI C I k n F m j tmps l D B):=by
 refine⟨λx St Φ w ⟨c,d,r⟩=>r.ft,λx St Φ w St' w' ⟨c,d,r⟩ y t u f i v z A=>?_⟩;have inΦ:∀{g},d g\/(∃b,c.nm b=some g)\/g=l\/g=D->Φ g:=fun {g} h=>(r.ph g).2 h
 have O:We c d w w':=⟨λg e=>by
  rcases e with q|q|q
  ·exact f g (.inl (r.st g q))
  ·exact f g (.inr (inΦ (.inr (.inl q))))
  ·exact f g (.inr (inΦ (.inl q))),i,v,z,A⟩
 have up:∀{g},Off c d w g->Off c d w' g:=λh=>⟨j4 h.1 i,h.2⟩
 exact⟨c,d,r.si.offW p O,r.pg.trans (Pg.off r.si.hr O),λg e=>y g (r.st g e),r.ph,λg e=>⟨j4 (r.ft g e).1 i,λq=>t g q e⟩,up r.ol,up r.od,
  (f l (.inr (inΦ (.inr (.inr (.inl rfl)))))).trans r.hl,(f D (.inr (inΦ (.inr (.inr (.inr rfl)))))).trans r.hd⟩
end
section
variable {Z R : Type} {r : R} {C : Cfg} {I : Z -> (Nat -> Prop) -> (Nat -> Prop) -> World -> Prop} {L Γ' : Ctx} {O K : Nat -> Prop} {J : St Z} {a : Act} {w w' : World} {U : G4} {Y : Yh Z} {Q : Value} {H H' : List Blk} {W : Array Value}
def QJ(x:Blk):(La x).nms=[]:=by
 cases x with
 | box cells=>
  simp only[La,Blk.nms];rw[v8];intro c b;obtain⟨j,d,b⟩:=C1.1 b;simp[PV.nms] at b
 | _=>rfl
def QK(x:Blk):(La x).shp=x.shp:=by cases x<;>rfl
def Co7{sh u:Nat->Option Shp}{b y:Nat}{x:Blk}(h:BR L sh w b x)(k:Γ'.nm y=L.nm b)(t:∀g,L.St g->w'.heap[g]? = w.heap[g]?)(n:∀g,L.St g->Γ'.St g)(c:∀g,L.nm b=some g->w'.heap[g]? = w.heap[g]?):BR Γ' u w' y (La x):=by
 cases x with
 | arr v e M A=>
  rcases h with h|⟨F,g,f,d,l,m,q,D⟩
  ·exact .inl h
  ·refine .inr ⟨F,g,f,by rw[k];exact d,by rw[c g d];exact l,m,q,λi h j B=>?_⟩;obtain⟨V,o,z⟩:=D i h j B;exact⟨V,o,z.mono t n⟩
 | box cells=>
  obtain⟨g,f,e,d,l,m,q⟩:=h;refine⟨g,f,e,by rw[k];exact d,by rw[c g d];exact l,by simpa using m,λj h=>?_⟩;obtain⟨V,o,_⟩:=q j (by simpa using h);exact⟨V,o,by rw[j9];exact .bad V⟩
 | iter s p=>
  obtain⟨g,G,d,l,m⟩:=h;exact⟨g,G,by rw[k];exact d,by rw[c g d];exact l,m⟩
 | dead=>trivial
end
section
variable {Z R : Type} {r : R} {C : Cfg} {I : Z -> (Nat -> Prop) -> (Nat -> Prop) -> World -> Prop} {Y : Ctx} {W : Nat -> Prop} {Q : St Z} {a : Act} {w : World} {O : G4} {J : Yh Z} {K : Value} {o : Oper} {H : List Blk}
def Ai3(d:HR Y H w){L:Nat}(e:L<=H.length):Az Y (A5 H) w (Y.cut L) (A5 (H.take L)) w (· < L):=
 ⟨λ_ _=>rfl,λ_ h=>.inl h,λb c=>by simp only[Ctx.cut];rw[if_pos c],λb c=>by simp only[A5,ac9];rw[if_pos c],λ_ _ _ _=>rfl,rfl⟩
def Cp7(d:HR Y H w){L:Nat}(v:L<=H.length)(j:B75 L (H.take L)=true):HR (Y.cut L) (H.take L) w:=by
 have f:=RS j;have t:(H.take L).length=L:=by rw[ad6];omega
 have key:∀b g,(Y.cut L).nm b=some g->b<L/\Y.nm b=some g:=λb g h=>by
  simp only[Ctx.cut] at h;grind
 refine⟨λb k g n l=>d.inj b k g (key b g n).2 (key k g l).2,λb g h=>?_,λg i=>?_,λb p c q=>?_,λb p=>?_⟩
 ·obtain⟨n,l⟩:=key b g h;have:=d.lt b g l;refine⟨by omega,this.2.1,?_⟩;rintro(u|⟨k,u,h4⟩)
  ·grind
  ·have:=d.inj b k g l h4;omega
 ·rcases i with i|⟨b,_,i⟩
  ·exact d.stlt g i
  ·exact(d.lt b g i).2.1
 ·grind
 ·have m:b<L:=by omega
  have e:(H.take L)[b]=H[b]'(by omega):=List.getElem_take;rw[e];have M:=Ai3 d v;exact(d.blk b (by omega)).mono M (M.nm b m) (λ_ _=>rfl) (λc q=>f _ (j5 p) c (by rw[e];exact q))
def Bz7(M:HR Y H w){L b:Nat}(S:¬b<L){v:PV}{V:Value}(y:v = .fl b\/∃i n,v = .vw b i n)(h:VP Y (A5 H) w v V):VP (Y.cut L) (A5 (H.take L)) w (v.snap H) V/\(v.snap H).nms=[]:=by
 rcases y with rfl|⟨i,n,rfl⟩
 ·cases h with
  | flv _ e p h=>
   obtain⟨x,j,t⟩:∃x,H[b]? = some x/\x.shp = .arr true e p 0:=by simpa[A5] using h
   cases x<;>simp[Blk.shp] at t
   rename_i k z q c;obtain⟨rfl,rfl,rfl,A⟩:=t;subst A;simp only[PV.snap,j];exact⟨.s _ _ (.nil _ _),rfl⟩
  | fl _ g v e p n cap h y u d B t=>
   obtain⟨x,j,f⟩:∃x,H[b]? = some x/\x.shp = .arr v e p n:=by simpa[A5] using h
   cases x<;>simp[Blk.shp] at f
   rename_i k z q c;obtain⟨rfl,rfl,rfl,rfl⟩:=f;have l:¬(k=true/\c=[]):=by rintro⟨F,G⟩;exact y F (by rw[G];rfl)
   have D:(k&&c.isEmpty)=false:=by cases k<;>simp_all
   simp only[PV.snap,j,D];have:=Aa5 (i:=0) (n:=c.length) (a:=⟨g,0,none⟩) (cap:=cap) M j l u (by omega) (λ_=>by simp) d B (St':=(Y.cut L).St) (λ_ h=>ae9 h) (.inr ⟨b,by omega,u⟩);simp only[ae7,List.take_length] at this;exact⟨.s _ _ this,rfl⟩
 ·cases h with
  | vwv _ e p _ h=>
   obtain⟨x,j,t⟩:∃x,H[b]? = some x/\x.shp = .arr true e p 0:=by simpa[A5] using h
   cases x<;>simp[Blk.shp] at t
   rename_i k z q c;obtain⟨rfl,rfl,rfl,A⟩:=t;subst A;simp only[PV.snap,j,List.drop_nil,List.take_nil];exact⟨.s _ _ (.nil _ _),rfl⟩
  | vw _ _ _ g a cap v e p m h y u N P d B=>
   obtain⟨x,j,f⟩:∃x,H[b]? = some x/\x.shp = .arr v e p m:=by simpa[A5] using h
   cases x<;>simp[Blk.shp] at f
   rename_i k z q c;obtain⟨rfl,rfl,rfl,rfl⟩:=f;have l:¬(k=true/\c=[]):=by rintro⟨F,G⟩;exact y F (by rw[G];rfl)
   have D:(k&&c.isEmpty)=false:=by cases k<;>simp_all
   simp only[PV.snap,j,D];exact⟨.s _ _ (Aa5 M j l u P N d B (λ_ h=>ae9 h) (.inr ⟨b,by omega,u⟩)),rfl⟩
def ZA(f:HR Y H w){L:Nat}(g:L<=H.length){v:PV}{V:Value}(h:VP Y (A5 H) w v V):VP (Y.cut L) (A5 (H.take L)) w (v.low H L) V/\∀c∈(v.low H L).nms,c<L:=by
 have M:=Ai3 f g;have d:(∀c∈v.nms,c<L)->VP (Y.cut L) (A5 (H.take L)) w v V:=λj=>h.mono M j
 unfold PV.low;split
 ·rename_i b;split
  ·rename_i e;exact⟨d (by simpa[PV.nms] using e),by simpa[PV.nms] using e⟩
  ·rename_i e;obtain⟨k,l⟩:=Bz7 f e (.inl rfl) h;grind
 ·rename_i b i n;split
  ·rename_i e;exact⟨d (by simpa[PV.nms] using e),by simpa[PV.nms] using e⟩
  ·rename_i e;obtain⟨k,l⟩:=Bz7 f e (.inr ⟨i,n,rfl⟩) h;grind
 ·exact⟨d (by simp[PV.nms]),by simp[PV.nms]⟩
 ·exact⟨d (by simp[PV.nms]),by simp[PV.nms]⟩
 ·exact⟨d (by simp[PV.nms]),by simp[PV.nms]⟩
 ·split
  ·rename_i e;exact⟨d (by simpa[PV.nms] using e),by simpa[PV.nms] using e⟩
  ·exact⟨.bad _,by simp[PV.nms]⟩
 ·split
  ·rename_i e;exact⟨d (by simpa[PV.nms] using e),by simpa[PV.nms] using e⟩
  ·exact⟨.bad _,by simp[PV.nms]⟩
 ·split
  ·grind
  ·exact⟨.bad _,by simp[PV.nms]⟩
def Sub(Y Γ':Ctx):Prop:=(∀g,Γ'.St g->Y.St g\/∃b,Y.nm b=some g)/\∀b g,Γ'.nm b=some g->Y.nm b=some g
def Mk.sub{n0:Nat}{Γ':Ctx}{ds:List Deferred}(h:Mk n0 Y W w ds)(s:Sub Y Γ'):Mk n0 Γ' W w ds:=by
 obtain⟨h0,Ds,h1,h2,h3⟩:=h;refine⟨h0,Ds,h1,h2,λD hD=>?_⟩;obtain⟨k1,k2,k3⟩:=h3 D hD;refine⟨k1,⟨k2.1,λq=>?_,λb q=>k2.2.2.1 b (s.2 b D q),k2.2.2.2⟩,k3⟩;rcases s.1 D q with q|⟨b,q⟩
 ·exact k2.2.1 q
 ·exact k2.2.2.1 b q
def Zn{v:List Blk}{p:Ctx}{F:World}{t:Nat->Prop}{L:Nat}(G:HI I)(S:SI C I Y W Q a.tmps w)(h:Stp C p v F t Y Q.hp w W)(y:v.length<=L)(x:L<=Q.hp.length):∃ Γ',SI C I Γ' W (Ab L Q) a.tmps w/\Stp C p v F t Γ' (Ab L Q).hp w W/\Sub Y Γ':=by
 unfold Ab;split
 ·rename_i n;have m:(Q.hp.take L).length=L:=by rw[ad6];omega
  have N:=Cp7 S.hr x n;have l:∀b g,(Y.cut L).nm b=some g->Y.nm b=some g:=λb g h=>by
   simp only[Ctx.cut] at h;all_goals grind
  have f:∀g,(Y.cut L).St g->Y.St g\/(F.heap.size<=g/\¬W g):=λg d=>by
   rcases d with d|⟨b,M,d⟩
   ·grind
   ·refine .inr ⟨?_,S.dis b g d⟩;rcases h.own b g d with⟨q,_⟩|q
    all_goals omega
  have A:=G.foot _ _ _ _ S.inv;refine⟨Y.cut L,⟨N,⟨by simpa using S.sr.size,λc u=>?_,λi T=>?_⟩,S.g.mono (λ_ _=>rfl) (λ_ h=>ae9 h),?_,λb g d=>S.dis b g (l b g d)⟩,
   ⟨h.os,h.tape,h.output,h.size,λg d=>ae9 (h.sub g d),λg d=>?_,λb g d=>h.own b g (l b g d),h.foot,h.frame,h.yv,by rw[m];exact y,λb M P=>?_⟩,λg d=>d.elim .inl (λ⟨b,_,q⟩=>.inr ⟨b,q⟩),l⟩
  ·obtain⟨j,V,u⟩:=C1.1 u;have D:j<Q.sl.length:=by simpa using V
   obtain⟨U,e,k⟩:=S.sr.slot j D;rw[j9] at u;have:=(ZA S.hr x k).2 c u;grind
  ·have B:i<Q.sl.length:=by simpa using T
   obtain⟨U,e,k⟩:=S.sr.slot i B;exact⟨U,e,by rw[j9];exact(ZA S.hr x k).1⟩
  ·refine G.mono _ _ _ _ _ _ S.inv (λ_ h=>ae9 h) (λg d hp=>?_) (λg d=>N.stlt g d) (λ_ _=>rfl) (j7 _) rfl rfl rfl;all_goals grind
  ·rcases f g d with q|q
   ·exact h.stnew g q
   omega
  ·obtain⟨X,k2,k3⟩:=h.keep b M P;have z:b<L:=by omega
   refine⟨by simp only[Ctx.cut];rw[if_pos z];exact X,?_,k3⟩;rw[<-k2];simp only[A5,ac9];grind
 ·exact⟨Y,S,h,λ_ h=>.inl h,λ_ _ h=>h⟩
def Aw7{d:List Blk}{b:Ctx}{e:World}{c:Nat->Prop}(f:HI I)(S:SI C I Y W Q a.tmps w)(h:Stp C b d e c Y Q.hp w W):∃ Γ',SI C I Γ' W (Ab d.length Q) a.tmps w/\Stp C b d e c Γ' (Ab d.length Q).hp w W/\Sub Y Γ':=
 Zn f S h (j7 _) h.len
def Xv:∀(g:List Nat) (l:List PV),(Ge g l).length=l.length/\∀i (h:i<(Ge g l).length) (b:i<l.length),(Ge g l)[i]=l[i]\/(Ge g l)[i] = .bad
 | g,[]=>by
  have e:Ge g []=[]:=by unfold Ge;rfl
  grind
 | [],v::l=>by
  obtain⟨c,d⟩:=Xv [] l;refine⟨by simp[Ge,c],λi h b=>?_⟩;cases i with
  | zero=>exact .inr rfl
  | succ i=>
   have:=d i (by simpa[Ge] using h) (by simpa using b);simpa[Ge] using this
 | 0::g,v::l=>by
  obtain⟨c,d⟩:=Xv g l;refine⟨by simp[Ge,c],λi h b=>?_⟩;cases i with
  | zero=>exact .inl rfl
  | succ i=>
   have:=d i (by simpa[Ge] using h) (by simpa using b);simpa[Ge] using this
 | (n+1)::g,v::l=>by
  obtain⟨c,d⟩:=Xv (n::g) l;refine⟨by simp[Ge,c],λi h b=>?_⟩;cases i with
  | zero=>exact .inr rfl
  | succ i=>
   have:=d i (by simpa[Ge] using h) (by simpa using b);simpa[Ge] using this
def By0{sl:List PV}{b:Array Value}(g:List Nat)(h:SR Y H w sl b):SR Y H w (Ge g sl) b:=by
 obtain⟨l,m⟩:=Xv g sl;refine⟨by rw[l];exact h.size,λc d=>?_,λi n=>?_⟩
 ·obtain⟨j,p,d⟩:=C1.1 d;have k:j<sl.length:=by rw[<-l];exact p
  rcases m j p k with e|e
  ·rw[e] at d;exact h.nms c (C1.2 ⟨j,k,d⟩)
  ·rw[e] at d;simp[PV.nms] at d
 ·have f:i<sl.length:=by rw[<-l];exact n
  obtain⟨V,q,t⟩:=h.slot i f;refine⟨V,q,?_⟩;rcases m i n f with e|e
  ·grind
  ·rw[e];exact .bad V
def Gy(ds:Option (List Nat))(Q:St Z):(Mx ds Q).hp=Q.hp:=by cases ds<;>rfl
def Gx(S:SI C I Y W Q a.tmps w)(ds:Option (List Nat)):SI C I Y W (Mx ds Q) a.tmps w:=by
 cases ds with
 | none=>exact S
 | some g=>exact⟨S.hr,By0 g S.sr,S.g,S.inv,S.dis⟩
def HH:∀(l:List Nat) (m:Nat),m<=Bo5 l m
 | [],m=>j7 _
 | b::r,m=>by
  simp only[Bo5];cases h:o5 m b with
  | true=>exact w6 (Nat.le_succ_of_le (ac2 h)) (HH r (b+1))
  | false=>exact HH r m
def B07:∀(l:List Blk) (m:Nat),m<=Cg8 l m
 | [],m=>j7 _
 | b::r,m=>w6 (HH _ _) (B07 r _)
def Sx{d:List Blk}{b:Ctx}{f:World}{c:Nat->Prop}(i:HI I)(S:SI C I Y W Q a.tmps w)(h:Stp C b d f c Y Q.hp w W)(ds:Option (List Nat)){L:Nat}(j:d.length<=L):∃ Γ',SI C I Γ' W (Xc ds L Q) a.tmps w/\Stp C b d f c Γ' (Xc ds L Q).hp w W:=by
 cases ds with
 | none=>exact⟨Y,S,h⟩
 | some g=>
  have e:SI C I Y W ({ sl:=Ge g Q.sl,hp:=Q.hp,s:=Q.s }:St Z) a.tmps w:=⟨S.hr,By0 g S.sr,S.g,S.inv,S.dis⟩
  simp only[Xc,D85,C32];cases k:o5 (Cg8 Q.hp (Bo5 (C9 (Ge g Q.sl)) L)+1) Q.hp.length with
  | false=>exact⟨Y,e,h⟩
  | true=>
   have:=ac2 k;obtain⟨Γ',l,m,_⟩:=Zn (L:=Cg8 Q.hp (Bo5 (C9 (Ge g Q.sl)) L)) i e h (w6 j (w6 (HH _ _) (B07 _ _))) (by show Cg8 Q.hp _<=Q.hp.length;omega);grind
def C36{d:Array Value}(y:HI I)(S:SI C I Y W Q d w){L:Nat}(t:L<=Q.hp.length):∃ Γ',SI C I Γ' W (Ab L Q) d w/\(∀g,Y.St g->Γ'.St g)/\(∀g,Γ'.St g->Y.St g\/∃b,L<=b/\Y.nm b=some g)/\
  (∀b g,Γ'.nm b=some g->Y.nm b=some g)/\Γ'.yv=Y.yv/\(∀b,b<L->Γ'.nm b=Y.nm b/\A5 (Ab L Q).hp b=A5 Q.hp b)/\L<=(Ab L Q).hp.length:=by
 unfold Ab;split
 ·rename_i n;have m:(Q.hp.take L).length=L:=by rw[ad6];omega
  have B:=Cp7 S.hr t n;have p:∀b g,(Y.cut L).nm b=some g->Y.nm b=some g:=λb g h=>by
   simp only[Ctx.cut] at h;grind
  have f:=y.foot _ _ _ _ S.inv;refine⟨Y.cut L,⟨B,⟨by simpa using S.sr.size,λc u=>?_,λi D=>?_⟩,S.g.mono (λ_ _=>rfl) (λ_ h=>ae9 h),?_,λb g l=>S.dis b g (p b g l)⟩,
   λ_ h=>ae9 h,λ_ h=>h,p,rfl,λb z=>⟨by simp only[Ctx.cut];rw[if_pos z],?_⟩,by rw[m];exact j7 _⟩
  ·obtain⟨j,F,u⟩:=C1.1 u;have x:j<Q.sl.length:=by simpa using F
   obtain⟨U,e,k⟩:=S.sr.slot j x;rw[j9] at u;have:=(ZA S.hr t k).2 c u;show c<(Q.hp.take L).length;omega
  ·have v:i<Q.sl.length:=by simpa using D
   obtain⟨U,e,k⟩:=S.sr.slot i v;exact⟨U,e,by rw[j9];exact(ZA S.hr t k).1⟩
  ·refine y.mono _ _ _ _ _ _ S.inv (λ_ h=>ae9 h) (λg l A=>?_) (λg l=>B.stlt g l) (λ_ _=>rfl) (j7 _) rfl rfl rfl;rcases l with q|⟨b,_,q⟩
   ·exact(f g A).2 q
   ·exact S.dis b g q A
  ·simp only[A5,ac9];rw[if_pos z]
 ·exact⟨Y,S,λ_ h=>h,λ_ h=>.inl h,λ_ _ h=>h,rfl,λ_ _=>⟨rfl,rfl⟩,t⟩
end
section
variable {Z R : Type} {r : R} {C : Cfg} {I : Z -> (Nat -> Prop) -> (Nat -> Prop) -> World -> Prop} {Γ Γ' : Ctx} {K O : Nat -> Prop} {W : St Z} {a : Act} {w w' : World} {J : G4} {L : Yh Z} {Y : Value} {H H' : List Blk} {tmps : Array Value}
def C29{sh b:Nat->Option Shp}{v:PV}{V:Value}(h:v.sv?.isSome=true)(c:VP Γ sh w v V)(d:∀g,Γ.St g->Γ'.St g):VP Γ' b w v V/\v.nms=[]:=by
 cases v<;>simp[PV.sv?] at h
 ·exact⟨.s _ _ (c.inv_s.mono (λ_ _=>rfl) d),rfl⟩
 ·rw[c.inv_nsl];exact⟨.nsl,rfl⟩
def Ac5:∀{l:List PV} {c:List SV},Su l=some c->∀v∈l,v.sv?.isSome=true
 | [],_,_,v,b=>by simp at b
 | x::l,c,h,v,b=>by
  simp only[Su] at h;split at h
  ·rename_i p q d e;rcases x6.1 b with rfl|b
   ·rw[d];rfl
   ·exact Ac5 e v b
  ·cases h
def TE{sh sh':Nat->Option Shp}(n:∀g,Γ.St g->Γ'.St g):∀{args:List PV},Kr args=true->∀v∈args,v.nms=[]/\∀V,VP Γ sh w v V->VP Γ' sh' w v V
 | [],_,v,f=>by simp at f
 | x::r,h,v,f=>by
  have key:(x.nms=[]/\∀V,VP Γ sh w x V->VP Γ' sh' w x V)/\Kr r=true:=by
   unfold Kr at h;split at h
   ·rename_i d;cases d
   ·rename_i d;cases d;exact⟨⟨rfl,λV hV=>(C29 (Γ:=Γ) (Γ':=Γ') rfl hV n).1⟩,h⟩
   ·rename_i l p d;cases d;simp only[j0,p4] at h;obtain⟨⟨q,i⟩,h⟩:=h;refine⟨⟨?_,λV hV=>?_⟩,h⟩
    ·simp only[PV.nms];rw[v8];intro c b;obtain⟨j,m,b⟩:=C1.1 b;have o:=Ac5 i _ (j5 m);generalize l[j]=u at o b;cases u<;>simp[PV.sv?] at o<;>simp[PV.nms] at b
    ·obtain⟨A,rfl,hA,b⟩:=hV.inv_agg;refine VP.mk_agg hA λj m=>?_
     obtain⟨U,e,k⟩:=b j m;exact⟨U,e,(C29 (Ac5 i _ (j5 m)) k n).1⟩
   ·cases h
  rcases x6.1 f with rfl|f
  ·exact key.1
  ·exact TE n key.2 v f
def Zd:∀(c:List Nat) (b:List PV) (d:List Value) {sl:List PV} {tmps:Array Value},SR Γ H w sl tmps->b.length=d.length->(∀j (h:j<b.length),∃U,d[j]? = some U/\VP Γ (A5 H) w (b[j]) U)->(∀v∈b,v.nms=[])->
  SR Γ H w (Lw sl c b) ((c.zip d).foldl (λt (p:Nat × Value)=>t.setIfInBounds p.1 p.2) tmps)
 | [],b,d,sl,tmps,h,_,_,_=>by cases b<;>exact h
 | t::c,[],[],sl,tmps,h,_,_,_=>h
 | t::c,[],_::_,_,_,_,f,_,_=>by simp at f
 | t::c,_::_,[],_,_,_,f,_,_=>by simp at f
 | t::c,v::b,V::d,sl,tmps,h,f,g,i=>by
  have l:VP Γ (A5 H) w v V:=by
   obtain⟨U,e,k⟩:=g 0 (by simp);simp only[ad4,b8] at e;subst e;exact k
  have m:=h.put (ds:=[]) ({ op:=.move (.const undef),dst:=some t,guard:=none,type:=0,after:=#[],pos:=default }:Oper) l (by rw[i v (by simp)];simp);have n:SR Γ H w (sl.set t v) (tmps.setIfInBounds t V):=m;exact Zd c b d n (by simpa using f) (λj o=>by
   obtain⟨U,e,k⟩:=g (j+1) (by simpa using o);exact⟨U,by simpa using e,by simpa using k⟩) (λv q=>i v (by simp[q]))
def Cs9(o:Out):((Ee o).map jmp).isNone=(Ee o).isNone:=by cases o<;>rfl
def D61{Γ0:Ctx}{H0:List Blk}{w0:World}{Φ0:Nat->Prop}{S:List PV}{l D fn:Nat}{ps:Array Tmp}{aq body:Code}(hI:HI I)(d2:Γ0.yv=Y)(e4:WP C I J L Y aq)(e5:WP C I J L Y body)
  (a7:∀c∈C9 S,c<H0.length/\Mv C (A5 H0 c)) :
  A15 C.P (RI C I Γ0 H0 w0 Φ0 S tmps l D (No fn tmps ps aq body D)) (Km ps S (λW k=>A9 C J L aq W k) (λW k=>A9 C J L body W k)) (.func (.yield l) #[] #[]):=by
 intro args x b x' a3 f4 Γ K w Vs ⟨Γb,V,r⟩ f1 hc;obtain⟨H,d3,s1⟩:=x;unfold Km at a3;cases d3 with
 | some o=>simp at a3
 | none=>
 dsimp only at a3;split at a3
 case isFalse=>cases a3
 rename_i f3;have c8:(do let d <-o9 (.func (.yield l) #[] #[]) Vs;invoke d.target d.args:Sem Next).run C.P w=(Instr.yield l Vs).run C.P w:=by simp[o9,invoke]
 have f5:Vs.size=(No fn tmps ps aq body D .ready none).params.size:=by rw[hc.1,f3];rfl
 have b1:=r.hd;have b3:w.heap[l]? = some (.loop (No fn tmps ps aq body D .ready none)):=r.hl;intro ro n o a next Q b4
 rw[c8,run_yield b3 f5,Oper.uponIn_round];refine⟨λh=>(by simp[I4,ab1] at h),roundIn_of_wpIn trivial ?_⟩;have inΦ:∀{g},V g\/(∃b,Γb.nm b=some g)\/g=l\/g=D->K g:=fun {g} h=>(r.ph g).2 h
 have B:∀{g},K g->¬ Γ.St g:=fun {g} h=>(r.ft g h).2
 let ΓB:Ctx:={ Γb with St:=Γ.St }
 have SB:SI C I ΓB V { sl:=S,hp:=H,s:=s1 } tmps w:=r.si.wideSt hI r.st (λg f hp=>B (inΦ (.inl hp)) f) (λb g f hs=>B (inΦ (.inr (.inl ⟨b,f⟩))) hs) f1;have a4:=TE (Γ:=Γ) (Γ':=ΓB) (sh:=λ_=>none) (sh':=A5 H) (w:=w) (λ_ h=>h) f4;have e1:=Zd ps.toList args Vs.toList SB.sr (by rw[ac6];exact hc.1.symm) (λj hj=>by
  obtain⟨U,e,k⟩:=hc.2 j hj;exact⟨U,by simpa using e,(a4 _ (j5 hj)).2 U k⟩) (λv hv=>(a4 v hv).1)
 have b2:(ps.zip Vs).foldl (λtmps (t,a)=>tmps.setIfInBounds t a) tmps=(ps.toList.zip Vs.toList).foldl (λt (p:Nat × Value)=>t.setIfInBounds p.1 p.2) tmps:=by
  rw[<-Array.foldl_toList,Array.toList_zip]
 have SA:SI C I ΓB V { sl:=Lw S ps.toList args,hp:=H,s:=s1 } ((ps.zip Vs).foldl (λtmps (t,a)=>tmps.setIfInBounds t a) tmps) w:=⟨SB.hr,by rw[b2];exact e1,SB.g,SB.inv,SB.dis⟩
 have a9:ΓB.yv=Y:=r.pg.yv.trans d2;have f9:Off ΓB V w l:=⟨r.ol.1,B (inΦ (.inr (.inr (.inl rfl)))),r.ol.2.2⟩
 have f8:Off ΓB V w D:=⟨r.od.1,B (inΦ (.inr (.inr (.inr rfl)))),r.od.2.2⟩
 have e8:=hI.foot _ _ _ _ SA.inv;refine e4 (n0:=0) (a:={ tmps:=(ps.zip Vs).foldl (λtmps (t,a)=>tmps.setIfInBounds t a) tmps,defers:=[] }) a9 a3 SA (Mk.nil (Nat.zero_le _)) ?_;intro o1 g0 a1 w1 Γ1 Φ1 h1 i S1 f2;cases o1 with
 | exit id=>cases h1
 | ret=>cases h1
 | normal=>
 dsimp only at h1;obtain⟨b6,d7⟩:=f9.step i;obtain⟨f6,d5⟩:=f8.step i;have c6:w1.heap[l]? = some (.loop (No fn tmps ps aq body D .ready none)):=d7.trans b3;show ∃w₂,(Instr.beginRound l).run C.P w1 = .ok () w₂/\body.wpIn (I4 (some l)) (n-1) C.P (roundPost C.P l _) a1 w₂;refine⟨_,run_beginRound c6 rfl,?_⟩;have O1:We Γ1 Φ1 w1 (w1.putObj l (.loop { No fn tmps ps aq body D .ready none with state:=.busy })):=We.put b6;have S2:=S1.offW hI O1;refine e5 (i.yv.trans a9) h1 S2 (f2.put c6) ?_;intro o2 m a2 w3 T u h2 A S3 _;simp only[b8,v7] at h2;obtain⟨rfl,rfl⟩:=h2;obtain⟨b7,d8⟩:=(Off.put (ob:=.loop { No fn tmps ps aq body D .ready none with state:=.busy }) (l:=l) b6).step A;obtain⟨f7,d6⟩:=(Off.put (ob:=.loop { No fn tmps ps aq body D .ready none with state:=.busy }) (l:=l) f6).step A;have e9:w3.heap[l]? = some (.loop { No fn tmps ps aq body D .ready none with state:=.busy }):=d8.trans (ad9 b6.1);have X:=run_endRound (P:=C.P) ((Ee o2).map jmp) e9;have c1:D≠l:=by
  rintro rfl;rw[b3] at b1;cases b1
 obtain⟨F,N⟩:∃F,w3.putObj l (.loop { { No fn tmps ps aq body D .ready none with state:=.busy } with state:=if ((Ee o2).map jmp).isNone then .ready else .done,pending:=(Ee o2).map jmp })=F:=⟨_,rfl⟩
 rw[N] at X;have O3:We T u w3 F:=by rw[<-N];exact We.put b7
 have c0:Off T u F l:=by rw[<-N];exact b7.put
 have b5:Off T u F D:=by rw[<-N];exact f7.put
 have S4:=S3.offW hI O3;have c7:H.length<=m.hp.length:=w6 i.len A.len;obtain⟨z,S5,t1,t2,t3,t4,t5,t6⟩:=C36 hI S4 c7;have d9:(Ab H.length m).s=m.s:=by unfold Ab;split<;>rfl
 have y:Pg C ΓB H w V T m.hp F u:=i.pg.trans ((Pg.off S1.hr O1).trans (A.pg.trans (Pg.off S3.hr O3)));have P1:Pg C Γ0 H0 w0 Φ0 T m.hp F u:=r.pg.trans ((Pg.wideSt r.si.hr r.st).trans y);have c9:=i.st SA.hr (λg f=>(e8 g f).2);have d0:=A.st S2.hr (λg f=>(hI.foot _ _ _ _ S2.inv g f).2);have d1:∀g,ΓB.St g->F.heap[g]? = w.heap[g]?:=λg f=>by
  have q1:=i.sub g f;have q2:=A.sub g q1;rw[O3.same g (.inl q2),d0 g q1,O1.same g (.inl q1),c9 g f]
 have a6:=r.pg.len;have G:∀c,c<H0.length/\Mv C (A5 H0 c)->z.nm c=ΓB.nm c/\A5 (Ab H.length m).hp c=A5 H c/\∀g,ΓB.nm c=some g->F.shape? g=w.shape? g:=λc ⟨c2,c3⟩=>by
  obtain⟨_,k2,_⟩:=r.pg.keep c c2 c3;have c4:c<H.length:=j4 c2 a6;obtain⟨m1,m2,m3⟩:=y.keep c c4 (by rw[k2];exact c3);obtain⟨n1,n2⟩:=t5 c c4;exact⟨n1.trans m1,n2.trans m2,m3⟩
 have M:Az ΓB (A5 H) w z (A5 (Ab H.length m).hp) F (λc=>c<H0.length/\Mv C (A5 H0 c)):=
  ⟨d1,λg f=>t1 g (y.sub g f),λb hb=>(G b hb).1,λb hb=>(G b hb).2.1,λb g hb f=>(G b hb).2.2 g f,t4.trans y.yv⟩
 have SF:SI C I z u { sl:=S,hp:=(Ab H.length m).hp,s:=m.s } tmps F:=
  ⟨S5.hr,SB.sr.mono M (λc hc=>⟨a7 c hc,j4 (a7 c hc).1 (w6 a6 t6)⟩),S5.g,by have:=S5.inv;rw[d9] at this;exact this,S5.dis⟩
 have PF:Pg C Γ0 H0 w0 Φ0 z (Ab H.length m).hp F u:=⟨P1.os,P1.tape,P1.output,P1.size,λg f=>t1 g (P1.sub g f),λb g hb=>P1.own b g (t3 b g hb),P1.foot,t4.trans P1.yv,w6 a6 t6,λb hb hf=>by
  obtain⟨k1,k2,k3⟩:=P1.keep b hb hf;obtain⟨n1,n2⟩:=t5 b (j4 hb a6);exact⟨n1.trans k1,n2.trans k2,k3⟩⟩
 have a0:∀{g},Off T u F g->Off z u F g:=fun {g} h=>⟨h.1,λq=>by
  rcases t2 g q with q|⟨b,_,q⟩
  ·exact h.2.1 q
  ·exact h.2.2.1 b q,λb q=>h.2.2.1 b (t3 b g q),h.2.2.2⟩
 have f0:F.heap[l]? = some (.loop (No fn tmps ps aq body D (Dn5 (Ee o2)) ((Ee o2).map jmp))):=by
  rw[<-N,ad9 b7.1];cases o2<;>rfl
 have e6:F.heap[D]? = some (.deferred (some [])):=by
  rw[<-N,k9 c1,d6,k9 c1,d5];exact b1
 have e7:=hI.foot _ _ _ _ SF.inv;have RB:RIb C I Γ0 H0 w0 Φ0 S tmps l D (No fn tmps ps aq body D) ((Ab H.length m).hp,Ee o2,m.s) z.St (λg=>u g\/(∃b,z.nm b=some g)\/g=l\/g=D) F z u:=by
  refine⟨SF,PF,λ_ h=>h,λ_=>Iff.rfl,λg f=>?_,a0 c0,a0 b5,f0,e6⟩;rcases f with q|⟨b,q⟩|rfl|rfl
  ·exact e7 g q
  ·have:=SF.hr.lt b g q;exact⟨this.2.1,this.2.2⟩
  ·exact⟨c0.1,(a0 c0).2.1⟩
  ·exact⟨b5.1,(a0 b5).2.1⟩
 have a5:=i.size;have e2:∀{g},(w1.putObj l (.loop { No fn tmps ps aq body D .ready none with state:=.busy })).heap.size<=g->w.heap.size<=g:=fun {g} q=>w6 (w6 a5 O1.size) q
 have e3:∀{g},g<w.heap.size->g<(w1.putObj l (.loop { No fn tmps ps aq body D .ready none with state:=.busy })).heap.size:=fun {g} q=>j4 q (w6 a5 O1.size)
 have b0:next (a.put o.dst (.bool ((Ee o2).map jmp).isNone)) F:=by
  refine b4 _ _ ⟨by rw[Cs9],z.St,_,⟨z,u,RB⟩,λg f=>t1 g (y.sub g f),λg f=>?_,λg f=>?_,λg f hp=>?_,y.size,y.os,y.tape,y.output,SF.hr.stlt⟩
  ·have d4:T.St g->Γ.St g\/w.heap.size<=g:=λq=>by
    rcases A.stnew g q with q|q
    ·exact i.stnew g q
    ·exact .inr (e2 q)
   rcases t2 g f with q|⟨b,hb,q⟩
   ·exact d4 q
   ·rcases A.own b g q with⟨_,q⟩|q
    ·rcases i.own b g q with⟨q',_⟩|q
     ·simp only at q';omega
     ·exact .inr q
    ·exact .inr (e2 q)
  ·rcases f with q|⟨b,q⟩|rfl|rfl
   ·rcases y.foot g q with q|q
    ·exact .inl (inΦ (.inl q))
    ·exact .inr q
   ·rcases y.own b g (t3 b g q) with⟨_,q⟩|q
    ·exact .inl (inΦ (.inr (.inl ⟨b,q⟩)))
    ·exact .inr q
   ·exact .inl (inΦ (.inr (.inr (.inl rfl))))
   ·exact .inl (inΦ (.inr (.inr (.inr rfl))))
  ·have c5:g≠l:=λe=>hp (inΦ (.inr (.inr (.inl e))))
   have n1:∀b,ΓB.nm b≠some g:=λb q=>hp (inΦ (.inr (.inl ⟨b,q⟩)))
   have p1:¬V g:=λq=>hp (inΦ (.inl q))
   have n2:∀b,Γ1.nm b≠some g:=λb q=>by
    rcases i.own b g q with⟨_,q⟩|q
    ·exact n1 b q
    ·omega
   have p2:¬ Φ1 g:=λq=>by
    rcases i.foot g q with q|q
    ·exact p1 q
    ·omega
   rw[<-N,k9 c5,A.frame g (e3 f) n2 p2,k9 c5,i.frame g f n1 p1]
 cases o2 with
 | normal=>exact⟨_,_,X,b0⟩
 | exit id=>exact⟨_,_,X,b0⟩
 | ret=>exact⟨_,_,X,b0⟩
end
section
variable {Z R S : Type} (C : Cfg) (g : R -> Option S)
def F9(c:Bool)(k:Option R):(need c k).bind g=need c (k.bind g):=by cases c<;>rfl
def D7(b:Bool)(k:Bool->Option R):(Kp b k).bind g=Kp b λt=>(k t).bind g:=by cases b<;>rfl
def G8(b:Bool)(x y:Option R):(cond b x y).bind g=cond b (x.bind g) (y.bind g):=by cases b<;>rfl
def J5(p:Prop)[Decidable p](x y:Option R):(if p then x else y).bind g=if p then x.bind g else y.bind g:=by split<;>rfl
def E8:∀(t:Tr) (k:PV->List Blk->Option R),(Io t k).bind g=Io t λv H=>(k v H).bind g
 | .ret v H,k=>rfl
 | .need c t,k=>by cases c;rfl;exact E8 t k
 | .split c a b,k=>by cases c;exact E8 b k;exact E8 a k
 | .fail,_=>rfl
def QL(op:BinOp)(t:Nat)(x y:PV)(H:List Blk)(k:PV->Option R):(Ah4 C op t x y H k).bind g=Ah4 C op t x y H λv=>(k v).bind g:=by unfold Ah4;((try dsimp only);(repeat' (first|rfl|split|(simp only[F9,D7,G8,J5,E8,j2,j1]))))
def Aw8(op:UnOp)(x:PV)(k:PV->Option R):(unK op x k).bind g=unK op x λv=>(k v).bind g:=by unfold unK;((try dsimp only);(repeat' (first|rfl|split|(simp only[F9,D7,G8,J5,E8,j2,j1]))))
def MB(t:TI)(a:PV)(H:List Blk)(k:PV->Option R):(MA t a H k).bind g=MA t a H λv=>(k v).bind g:=by unfold MA;((try dsimp only);(repeat' (first|rfl|split|(simp only[F9,D7,G8,J5,E8,j2,j1]))))
def FQ(t:TI)(a v:PV)(H:List Blk)(k:List Blk->Option R):(DJ t a v H k).bind g=DJ t a v H λv=>(k v).bind g:=by unfold DJ;((try dsimp only);(repeat' (first|rfl|split|(simp only[F9,D7,G8,J5,E8,j2,j1]))))
def Ot(t:Nat)(x i:PV)(H:List Blk)(k:PV->Option R):(Dx C t x i H k).bind g=Dx C t x i H λv=>(k v).bind g:=by unfold Dx;((try dsimp only);(repeat' (first|rfl|split|(simp only[F9,D7,G8,J5,E8,j2,j1]))))
def EK(t:Nat)(x i:PV)(k:PV->Option R):(CH C t x i k).bind g=CH C t x i λv=>(k v).bind g:=by unfold CH;((try dsimp only);(repeat' (first|rfl|split|(simp only[F9,D7,G8,J5,E8,j2,j1]))))
def Av2(t:Nat)(x:PV)(b a c:Option PV)(H:List Blk)(k:PV->Option R):(DI C t x b a c H k).bind g=DI C t x b a c H λv=>(k v).bind g:=by unfold DI;((try dsimp only);(repeat' (first|rfl|split|(simp only[F9,D7,G8,J5,E8,j2,j1]))))
def NX(b n:Nat)(c a d:Option PV)(k:PV->Option R):(Hj b n c a d k).bind g=Hj b n c a d λv=>(k v).bind g:=by unfold Hj;((try dsimp only);(repeat' (first|rfl|split|(simp only[F9,D7,G8,J5,E8,j2,j1]))))
def WS(t:Nat)(sl:List PV)(s x:PV)(H:List Blk)(k:PV->List PV->List Blk->Option R):(Rn C t sl s x H k).bind g=Rn C t sl s x H λv a b=>(k v a b).bind g:=by unfold Rn;((try dsimp only);(repeat' (first|rfl|split|(simp only[F9,D7,G8,J5,E8,j2,j1]))))
def A52(t:Nat)(d x:PV)(H:List Blk)(k:PV->List Blk->Option R):(QQ C t d x H k).bind g=QQ C t d x H λv a=>(k v a).bind g:=by unfold QQ;((try dsimp only);(repeat' (first|rfl|split|(simp only[F9,D7,G8,J5,E8,j2,j1]))))
def A51(b a:Nat)(x:PV)(H:List Blk)(k:PV->Option R):(QP C b a x H k).bind g=QP C b a x H λv=>(k v).bind g:=by unfold QP;((try dsimp only);(repeat' (first|rfl|split|(simp only[F9,D7,G8,J5,E8,j2,j1]))))
def Ah5(b a:Nat)(x:PV)(k:PV->Option R):(BD C b a x k).bind g=BD C b a x λv=>(k v).bind g:=by unfold BD;((try dsimp only);(repeat' (first|rfl|split|(simp only[F9,D7,G8,J5,E8,j2,j1]))))
def B73(x:PV)(t:Nat)(H:List Blk)(k:PV->Option R):(B72 C x t H k).bind g=B72 C x t H λv=>(k v).bind g:=by unfold B72;((try dsimp only);(repeat' (first|rfl|split|(simp only[F9,D7,G8,J5,E8,j2,j1]))))
def DY(t:Nat)(parts:List (Nat × PV))(k:PV->Option R):(BC C t parts k).bind g=BC C t parts λv=>(k v).bind g:=by unfold BC;((try dsimp only);(repeat' (first|rfl|split|(simp only[F9,D7,G8,J5,E8,j2,j1]))))
def Lb(t len:Nat)(parts:List (Nat × PV))(H:List Blk)(k:PV->List Blk->Option R):(Bv C t len parts H k).bind g=Bv C t len parts H λv a=>(k v a).bind g:=by unfold Bv;((try dsimp only);(repeat' (first|rfl|split|(simp only[F9,D7,G8,J5,E8,j2,j1]))))
def Ow(t:Nat)(l c:PV)(H:List Blk)(k:PV->List Blk->Option R):(Eb C t l c H k).bind g=Eb C t l c H λv a=>(k v a).bind g:=by unfold Eb;((try dsimp only);(repeat' (first|rfl|split|(simp only[F9,D7,G8,J5,E8,j2,j1]))))
def Xx(a:Bool)(l:List PV)(k:PV->Option R):(Nh a l k).bind g=Nh a l λv=>(k v).bind g:=by unfold Nh;((try dsimp only);(repeat' (first|rfl|split|(simp only[F9,D7,G8,J5,E8,j2,j1]))))
def Oq(t:Nat)(x:PV)(f:Nat)(k:PV->Option R):(Dv C t x f k).bind g=Dv C t x f λv=>(k v).bind g:=by unfold Dv;((try dsimp only);(repeat' (first|rfl|split|(simp only[F9,D7,G8,J5,E8,j2,j1]))))
def EH(t:Nat)(x:PV)(f:Nat)(k:PV->Option R):(BZ C t x f k).bind g=BZ C t x f λv=>(k v).bind g:=by unfold BZ;((try dsimp only);(repeat' (first|rfl|split|(simp only[F9,D7,G8,J5,E8,j2,j1]))))
def ON(b:Builtin)(c:List Nat)(args:List PV)(a:St Z)(k:PV->St Z->Option R):(Lc C b c args a k).bind g=Lc C b c args a λv s=>(k v s).bind g:=by
 unfold Lc;split
 ·rw[B73]
 ·split
  ·rw[WS]
  ·rfl
 ·rw[A52]
 ·rw[Xx]
 ·rw[Xx]
 ·rfl
def BB(e:Nat)(cells:List PV)(H:List Blk)(k:PV->List Blk->Option R):(FW C e cells H k).bind g=FW C e cells H λv a=>(k v a).bind g:=by unfold FW;((try dsimp only);(repeat' (first|rfl|split|(simp only[F9,D7,G8,J5,E8,j2,j1]))))
def KP(a:G4)(c:Yh Z)(f:Nat)(args:List PV)(b:St Z)(k:PV->St Z->Option R):(Wo C a c f args b k).bind g=Wo C a c f args b λv s=>(k v s).bind g:=by
 unfold Wo;split
 ·split
  ·rw[E8]
   congr 1;funext v H;rw[F9]
  ·rfl
 ·((try dsimp only);(repeat' (first|rfl|split|(simp only[F9,D7,G8,J5,E8,j2,j1]))))
def C94(x:Option (Bool × Z))(k:Bool->Z->Option R):(ydK x k).bind g=ydK x λb s=>(k b s).bind g:=by unfold ydK;((try dsimp only);(repeat' (first|rfl|split|(simp only[F9,D7,G8,J5,E8,j2,j1]))))
def A48(a:G4)(c:Yh Z)(f:PV)(args:List PV)(b:St Z)(k:PV->St Z->Option R):(EC C a c f args b k).bind g=EC C a c f args b λv s=>(k v s).bind g:=by
 unfold EC;split
 ·rw[KP]
 ·rw[KP]
 ·split
  ·rw[C94]
  ·rfl
 ·rfl
def An5(a:G4)(c:Yh Z)(o:Oper)(b:St Z)(k:St Z->Option R):(opK C a c o b k).bind g=opK C a c o b λs=>(k s).bind g:=by
 unfold opK;dsimp only;split<;>(first|rfl|(simp only[BB,DY,Lb,MB,FQ,QL,Aw8,Ow,Oq,EH,Ot,EK];done)|skip)
 all_goals ((try dsimp only);(repeat' (first|rfl|split|(simp only[F9,D7,G8,J5,E8,j2,j1]))));all_goals (first|rfl|skip);all_goals (simp only[ON,A48,BB,DY,Lb,MB,FQ,QL,Aw8,Ow,Oq,EH,Ot,EK,Ah5,A51,Av2,NX,F9,D7])
def Lo(e:G4)(f:Yh Z)(all:Array Oper):∀(l:List Oper) (d:St Z) (k:St Z->Option R),(Bm C e f all l d k).bind g=Bm C e f all l d λs=>(k s).bind g
 | [],d,k=>rfl
 | o::a,d,k=>by
  simp only[Bm];have c:=Lo e f all a;split
  ·rw[An5];congr 1;funext s;exact c s k
  ·split
   ·split
    ·rw[D7];congr 1;funext b;split
     ·rw[An5];congr 1;funext s;exact c s k
     ·exact c _ k
    ·exact c _ k
    ·rfl
   ·rfl
def Cd1(o:Oper)(sl:List PV)(k:Trn->Option R):(Bi9 C o sl k).bind g=Bi9 C o sl λv=>(k v).bind g:=by
 unfold Bi9
 repeat' (first|rfl|split|rw[F9])
def Bo7(d:Option Nat)(t:Trn)(a:St Z)(k:St Z->Option R):(Te C d t a k).bind g=Te C d t a λs=>(k s).bind g:=by
 unfold Te;split
 ·rfl
 ·exact BB C g _ _ _ _
def MP(c:G4)(e:Yh Z)(all:Array Oper)(d:Option Nat):∀(l:List Nat) (b:St Z) (k:St Z->Option R),(Ox C c e all d l b k).bind g=Ox C c e all d l b λs=>(k s).bind g
 | [],b,k=>rfl
 | i::a,b,k=>by
  simp only[Ox];rw[Lo]
  congr 1;funext s
  exact MP c e all d a _ k
def Cb6(b:G4)(c:Yh Z)(id:Nat)(a:Array Oper)(d:Bool)(e:St Z)(k:St Z->Option R):(Be8 C b c id a d e k).bind g=Be8 C b c id a d e λs=>(k s).bind g:=by
 unfold Be8;split
 ·exact Lo C g b c a _ e k
 ·split
  ·rw[Lo];congr 1;funext s;rw[Cd1];congr 1;funext v;rw[MP];congr 1;funext s2;rw[Bo7];congr 1;funext s3;exact Lo C g b c a _ _ k
  ·rfl
def MC(L:Nat)(ds:Option (List Nat))(b:St Z->(Out->St Z->Option R)->Option R)(a:St Z->(Out->St Z->Option S)->Option S)(d:∀c k,(b c k).bind g=a c λo s=>(k o s).bind g):∀(n:Nat) (c:St Z) (k:Out->St Z->Option R),(D0 L ds b n c k).bind g=D0 L ds a n c λo s=>(k o s).bind g
 | 0,c,k=>rfl
 | n+1,c,k=>by
  simp only[D0];rw[d]
  congr 1;funext o s
  cases o with
  | normal=>exact MC L ds b a d n _ k
  | exit id=>rfl
  | ret=>rfl
def Yu{ps:Array Tmp}{sl0:List PV}{aq bd:St Z->(Out->St Z->Option R)->Option R}{as' bd':St Z->(Out->St Z->Option S)->Option S}(b:∀a k,(aq a k).bind g=as' a λo s=>(k o s).bind g)(c:∀a k,(bd a k).bind g=bd' a λo s=>(k o s).bind g) :
  ∀(L:List (List PV)) (H:List Blk) (s:Z) (k:Option Out->List Blk->Z->Option R),(Bk ps sl0 aq bd L H s k).bind g=Bk ps sl0 as' bd' L H s λp H s=>(k p H s).bind g
 | [],H,s,k=>rfl
 | x::xs,H,s,k=>by
  simp only[Bk];split
  ·rw[b]
   congr 1;funext o st1
   cases o with
   | normal=>
    dsimp only;rw[c]
    congr 1;funext o2 st2
    cases o2 with
    | normal=>exact Yu b c xs _ _ k
    | exit id=>rfl
    | ret=>rfl
   | exit id=>rfl
   | ret=>rfl
  ·rfl
def Ap2(b:G4)(f:PV)(c:St Z)(d:List PV->Yh (List Blk × Option Out × Z)){sR:List PV->List (List PV)->List Blk->Z->(Option Out->List Blk->Z->Option R)->Option R}{sR':List PV->List (List PV)->List Blk->Z->(Option Out->List Blk->Z->Option S)->Option S}
  (e:∀a L H s k,(sR a L H s k).bind g=sR' a L H s λp H s=>(k p H s).bind g) (k:Out->St Z->Option R):(Vh C b f c d sR k).bind g=Vh C b f c d sR' λo s=>(k o s).bind g:=by
 unfold Vh;split
 ·split
  ·unfold Bd9;split
   ·split
    ·rw[F9,e];rfl
    ·rfl
   ·rfl
  ·unfold Yg;((try dsimp only);(repeat' (first|rfl|split|(simp only[F9,D7,G8,J5,E8,j2,j1]))))
 ·rfl
end
def EG{Z:Type}(C:Cfg)(h:G4)(n:Yh Z):∀(c:Code) {R S:Type} (g:R->Option S) (e:St Z) (k:Out->St Z->Option R),(A9 C h n c e k).bind g=A9 C h n c e λo s=>(k o s).bind g:=by
 intro c
 induction c with
 | skip=>intros;rfl
 | label l=>intros;rfl
 | region id q d=>intro R S g e k;simp only[A9];rw[Cb6]
 | seq a b i m=>
  intro R S g e k;simp only[A9];rw[i]
  congr 1;funext o s
  cases o with
  | normal=>exact m g s k
  | exit id=>rfl
  | ret=>rfl
 | cond c a b i m=>
  intro R S g e k;simp only[A9];split
  ·rw[D7];congr 1;funext t;rw[G8,i,m]
  ·rfl
 | block id a p=>
  intro R S g e k;simp only[A9];rw[p]
  congr 1;funext o s
  cases o with
  | normal=>rfl
  | exit j=>dsimp only;split<;>rfl
  | ret=>rfl
 | loop a p=>
  intro R S g e k;simp only[A9];exact MC g _ _ _ _ (λe k=>p g e k) _ _ _
 | scope a p=>intro R S g e k;simp only[A9];rw[p]
 | exit id=>intros;rfl
 | ret=>intros;rfl
 | rangeFunc f ps a b i m=>
  intro R S g e k;simp only[A9];exact Ap2 C g h (opnd C e.sl f) e _ (sR:=λsl0=>Bk ps sl0 (λe k=>A9 C h n a e k) (λe k=>A9 C h n b e k)) (sR':=λsl0=>Bk ps sl0 (λe k=>A9 C h n a e k) (λe k=>A9 C h n b e k))
   (λsl0 L H s k=>Yu (ps:=ps) (sl0:=sl0) g (aq:=λe k=>A9 C h n a e k) (bd:=λe k=>A9 C h n b e k) (as':=λe k=>A9 C h n a e k) (bd':=λe k=>A9 C h n b e k) (λe k=>i g e k) (λe k=>m g e k) L H s k) k
 | _=>intros;rfl
def LD{Z R:Type}{C:Cfg}{a:G4}{d:Yh Z}{c:Code}{b:St Z}{k:Out->St Z->Option R}{r:R}(h:A9 C a d c b k=some r):∃o s,A9 C a d c b (λo s=>some (o,s))=some (o,s)/\k o s=some r:=by
 have:=EG C a d c (λp:Out × St Z=>k p.1 p.2) b (λo s=>some (o,s));simp only[j1] at this;rw[<-this] at h;cases e:A9 C a d c b (λo s=>some (o,s)) with
 | none=>rw[e] at h;cases h
 | some p=>rw[e] at h;exact⟨p.1,p.2,rfl,h⟩
def QY{Z R:Type}{C:Cfg}{a:G4}{d:Yh Z}{c:Code}{b:St Z}{k:Out->St Z->Option R}{o:Out}{s:St Z}(h:A9 C a d c b (λo s=>some (o,s))=some (o,s)):A9 C a d c b k=k o s:=by have:=EG C a d c (λp:Out × St Z=>k p.1 p.2) b (λo s=>some (o,s));rw[h] at this;exact this.symm
def Ctx.hide(Γ:Ctx)(ns:List Nat):Ctx:={ Γ with nm:=λb=>if b∈ns then none else Γ.nm b }
def Ctx.reyv(Γ:Ctx)(y:Value)(hy:y.oneCell'=true):Ctx:={ Γ with yv:=y,yv1:=hy }
section
variable {Z R : Type} {r : R} {C : Cfg} {I : Z -> (Nat -> Prop) -> (Nat -> Prop) -> World -> Prop} {Γ Γ' : Ctx} {K T : Nat -> Prop} {Y : St Z} {a : Act} {w w' : World} {W : G4} {J : Yh Z} {X : Value} {H H' : List Blk} {N : Array Value}
def Ol:∀{l:List PV},yfL l=true->∀v∈l,v.yf=true
 | [],_,v,b=>by simp at b
 | x::r,h,v,b=>by
  simp only[yfL,j0] at h;rcases x6.1 b with rfl|b
  ·exact h.1
  ·exact Ol h.2 v b
def VP.reyv{sh:Nat->Option Shp}{y:Value}{hy:y.oneCell'=true}{v:PV}{V:Value}(h:VP Γ sh w v V):v.yf=true->VP (Γ.reyv y hy) sh w v V:=by
 induction h with
 | s v V h=>intro _;exact .s v V h
 | nsl=>intro _;exact .nsl
 | flv b e sz h=>intro _;exact .flv b e sz h
 | fl b g v e sz n cap h hv hg hcap hm hs=>intro _;exact .fl b g v e sz n cap h hv hg hcap hm hs
 | vwv b e sz i h=>intro _;exact .vwv b e sz i h
 | vw b i n g a cap v e sz m h hv hg ha hi hcap hm=>intro _;exact .vw b i n g a cap v e sz m h hv hg ha hi hcap hm
 | ptrA b i off g v e sz n h hg=>intro _;exact .ptrA b i off g v e sz n h hg
 | ptrB b off g h hg=>intro _;exact .ptrB b off g h hg
 | fnr g x y A B As Bs hf hA hB ha hb hx hy ihx ihy=>
  intro hc;simp only[PV.yf,j0] at hc;exact .fnr g x y A B As Bs hf hA hB ha hb (λj h=>ihx j h (Ol hc.1 _ (j5 h))) (λj h=>ihy j h (Ol hc.2 _ (j5 h)))
 | it b g h hg=>intro _;exact .it b g h hg
 | yd=>intro h;simp[PV.yf] at h
 | agg l A As hA ha hl ih=>
  intro hc;simp only[PV.yf] at hc;exact .agg l A As hA ha (λj h=>ih j h (Ol hc _ (j5 h)))
 | tup l A As hA ha hl ih=>
  intro hc;simp only[PV.yf] at hc;exact .tup l A As hA ha (λj h=>ih j h (Ol hc _ (j5 h)))
 | bad V=>intro _;exact .bad V
mutual
def PV.yf_rn(f:Nat->Nat):∀v:PV,(v.rn f).yf=v.yf
 | .s _=>rfl
 | .nsl=>rfl
 | .fl b=>rfl
 | .vw b _ _=>rfl
 | .ptr b _ _=>rfl
 | .fnr _ x y=>by simp only[PV.rn,PV.yf,DU f x,DU f y]
 | .it b=>rfl
 | .yd=>rfl
 | .agg l=>by simp only[PV.rn,PV.yf,DU f l]
 | .tup l=>by simp only[PV.rn,PV.yf,DU f l]
 | .bad=>rfl
def DU(f:Nat->Nat):∀l:List PV,yfL (rnL f l)=yfL l
 | []=>rfl
 | v::r=>by simp only[rnL,yfL,PV.yf_rn f v,DU f r]
end
def Blk.yf_rn(f:Nat->Nat)(x:Blk):(x.rn f).yf=x.yf:=by cases x<;>simp[Blk.rn,Blk.yf,DU]
def BR.reyv{sh:Nat->Option Shp}{b:Nat}{x:Blk}{y:Value}{hy:y.oneCell'=true}(h:BR Γ sh w b x)(hx:x.yf=true):BR (Γ.reyv y hy) sh w b x:=by
 cases x with
 | arr v e sz els=>exact h
 | box cells=>
  simp only[Blk.yf] at hx;obtain⟨g,cur,e,h1,h2,h3,h4⟩:=h;refine⟨g,cur,e,h1,h2,h3,λj h=>?_⟩;obtain⟨V,e1,e2⟩:=h4 j h;exact⟨V,e1,e2.reyv (Ol hx _ (j5 h))⟩
 | iter s p=>exact h
 | dead=>exact h
def HR.reyv{y:Value}{hy:y.oneCell'=true}(h:HR Γ H w)(hx:∀b (h:b<H.length),(H[b]).yf=true):HR (Γ.reyv y hy) H w:=
 ⟨h.inj,h.lt,h.stlt,h.nms,λb hb=>(h.blk b hb).reyv (hx b hb)⟩
def MD:∀(H:List Blk) (n:Nat),∀b (h:b<H.length),(n+b)∈Cc C H n\/Ex C H[b]=true
 | [],n,b,h=>by simp at h
 | x::r,n,0,_=>by
  cases c:Ex C x with
  | true=>exact .inr c
  | false=>exact .inl (by simp[Cc,c])
 | x::r,n,b+1,h=>by
  have:=MD r (n+1) b (by simpa using h);rw[show n+1+b=n+(b+1) by omega] at this;rcases this with q|q
  ·refine .inl ?_;simp only[Cc];cases Ex C x with
   | true=>exact q
   | false=>exact ae8 _ q
  ·exact .inr (by simpa using q)
def RK{d:List Nat}(c:∀b,b∉d->A5 H' b=A5 H b):Az Γ (A5 H) w (Γ.hide d) (A5 H') w (·∉d):=
 ⟨λ_ _=>rfl,λ_ h=>h,λb e=>by simp only[Ctx.hide];rw[if_neg e],c,λ_ _ _ _=>rfl,rfl⟩
def Db9{f:List Nat}(o:HR Γ H w)(v:f.Nodup)(u:∀b∈f,b<H.length):(O4 f H).length=H.length/\(∀b,b∉f->A5 (O4 f H) b=A5 H b)/\(∀b,b∈f->A5 (O4 f H) b=some .dead)/\HR (Γ.hide f) (O4 f H) w:=by
 obtain⟨i,x,q⟩:=Qi (Γ:=Γ) (sh:=A5 H) (w:=w) f H;obtain⟨A,t⟩:=Jw f (w8 f.length .dead) (T1 f H) v (by simp) (λb d=>by rw[i];exact u b d);have k:(O4 f H).length=H.length:=by rw[O4,A,i]
 have j:∀b,b∉f->(O4 f H)[b]? = (T1 f H)[b]?:=λb d=>by rw[O4,t,if_neg d]
 have l:∀b,b∈f->(O4 f H)[b]? = some .dead:=λb d=>by
  rw[O4,t,if_pos d,List.getElem?_replicate,if_pos (List.idxOf_lt_length_of_mem d)]
 have p:∀b,b∉f->A5 (O4 f H) b=A5 H b:=λb d=>by
  rw[<-x b];simp only[A5,j b d]
 have M:=RK (Γ:=Γ) (H:=H) (w:=w) p;have m:∀b g,(Γ.hide f).nm b=some g->b∉f/\Γ.nm b=some g:=λb g h=>by
  simp only[Ctx.hide] at h;split at h
  ·cases h
  ·exact⟨‹_›,h⟩
 refine⟨k,p,λb d=>by simp only[A5,l b d];rfl,⟨λb B g D F=>o.inj b B g (m b g D).2 (m B g F).2,λb g h=>?_,o.stlt,λb d c n=>?_,λb d=>?_⟩⟩
 ·obtain⟨y,z,G⟩:=o.lt b g (m b g h).2;exact⟨by rw[k];exact y,z,G⟩
 ·rw[k] at d ⊢;by_cases h:b∈f
  ·have:=l b h;rw[b9 (by rw[k];exact d)] at this;simp only[b8] at this;rw[this] at n;simp[Blk.nms] at n
  ·have e:=j b h;rw[b9 (by rw[k];exact d),b9 (by rw[i];exact d)] at e;simp only[b8] at e;rw[e] at n;exact o.nms b d c ((q b (by rw[i];exact d) d).1 c n).2
 ·rw[k] at d;by_cases h:b∈f
  ·have:=l b h;rw[b9 (by rw[k];exact d)] at this;simp only[b8] at this;rw[this];trivial
  ·have e:=j b h;rw[b9 (by rw[k];exact d),b9 (by rw[i];exact d)] at e;simp only[b8] at e;rw[e];obtain⟨y,z⟩:=q b (by rw[i];exact d) d;exact(z b (o.blk b d)).mono M (M.nm b h) (λ_ _=>rfl) (λc n=>(y c n).1)
def AZ{b:Obj}{g:Nat}(h:g<w.heap.size):(w.alloc b).heap[g]? = w.heap[g]?:=by show(w.heap.push b)[g]? = w.heap[g]?;rw[Array.getElem?_push];rw[if_neg (by omega)]
def Tb{v:PV}{V:Value}{sh:Nat->Option Shp}{f:Nat}{first b:List PV}(h:Sd v=some (f,first,b))(i:VP Γ sh w v V):∃A B,V = .func (.func f) A B/\CR Γ sh w first A/\CR Γ sh w b B/\∀c∈C9 (first++b),c∈v.nms:=by
 have g:∀(l:List SV),C9 (l.map PV.s)=[]:=λl=>by
  rw[v8];intro c d;obtain⟨j,k,d⟩:=C1.1 d;simp[PV.nms] at d
 unfold Sd at h;split at h
 ·simp only[b8,v7] at h;obtain⟨rfl,rfl,rfl⟩:=h;obtain⟨A,B,rfl,hA,e⟩:=i.inv_fn';exact⟨A,B,rfl,hA,e,λc d=>by rw[O7,g,g] at d;simp at d⟩
 ·simp only[b8,v7] at h;obtain⟨rfl,rfl,rfl⟩:=h;obtain⟨A,B,rfl,hA,e⟩:=i.inv_fnr';exact⟨A,B,rfl,hA,e,λc d=>by rw[O7] at d;simpa[PV.nms] using d⟩
 ·cases h
def VP.ndead{sh:Nat->Option Shp}{v:PV}{V:Value}(h:VP Γ sh w v V):∀c∈v.nms,sh c≠some .dead:=by
 induction h with
 | s v V h=>intro c hc;simp[PV.nms] at hc
 | nsl=>intro c hc;simp[PV.nms] at hc
 | flv b e sz h=>intro c hc;simp[PV.nms] at hc;subst hc;rw[h];simp
 | fl b g v e sz n cap h hv hg hcap hm hs=>intro c hc;simp[PV.nms] at hc;subst hc;rw[h];simp
 | vwv b e sz i h=>intro c hc;simp[PV.nms] at hc;subst hc;rw[h];simp
 | vw b i n g a cap v e sz m h hv hg ha hi hcap hm=>intro c hc;simp[PV.nms] at hc;subst hc;rw[h];simp
 | ptrA b i off g v e sz n h hg=>intro c hc;simp[PV.nms] at hc;subst hc;rw[h];simp
 | ptrB b off g h hg=>intro c hc;simp[PV.nms] at hc;subst hc;rw[h];simp
 | fnr g x y A B As Bs hf hA hB ha hb hx hy ihx ihy=>
  intro c hc;simp only[PV.nms,x4] at hc;rcases hc with hc|hc
  ·obtain⟨j,hj,hc⟩:=C1.1 hc;exact ihx j hj c hc
  ·obtain⟨j,hj,hc⟩:=C1.1 hc;exact ihy j hj c hc
 | it b g h hg=>intro c hc;simp[PV.nms] at hc;subst hc;rw[h];simp
 | yd=>intro c hc;simp[PV.nms] at hc
 | agg l A As hA ha hl ih=>intro c hc;simp only[PV.nms] at hc;obtain⟨j,hj,hc⟩:=C1.1 hc;exact ih j hj c hc
 | tup l A As hA ha hl ih=>intro c hc;simp only[PV.nms] at hc;obtain⟨j,hj,hc⟩:=C1.1 hc;exact ih j hj c hc
 | bad V=>intro c hc;simp[PV.nms] at hc
def BR.ndead{sh:Nat->Option Shp}{b:Nat}{x:Blk}(h:BR Γ sh w b x):∀c∈x.nms,sh c≠some .dead:=by
 cases x with
 | box cells=>
  intro c hc;simp only[Blk.nms] at hc;obtain⟨j,hj,hc⟩:=C1.1 hc;obtain⟨g,cur,e,h1,h2,h3,h4⟩:=h;obtain⟨V,_,e2⟩:=h4 j hj;exact e2.ndead c hc
 | arr v e sz els=>intro c hc;simp[Blk.nms] at hc
 | iter s p=>intro c hc;simp[Blk.nms] at hc
 | dead=>intro c hc;simp[Blk.nms] at hc
def NC{n n0:Nat}{g:Operand}{ps:Array Tmp}{aq body:Code}{k:Out->St Z->Option R}{Q:Exit->Act->World->Prop}{f8:G4}{f:Nat}{first a0:List PV}{m:List Nat}(A:Ask C I W J X)(h8:Cl C f8)(l1:Γ.yv=X)(i5:WP C I W J X aq)(i7:WP C I W J X body)
  (k8:Sd (opnd C Y.sl g)=some (f,first,a0)) (f5:m.Nodup) (c1:∀c∈C9 (first++a0),c∈m) (a4:∀b∈m,b<Y.hp.length)
  (h:Yg C f8 f first a0 m Y (λl3=>Km ps l3 (λY k=>A9 C W J aq Y k) (λY k=>A9 C W J body Y k)) k=some r) (S:SI C I Γ K Y a.tmps w) (hM:Mk n0 Γ K w a.defers) (hP:C98 C I n0 Γ K Y.hp w k r Q) :
  (ah2 g ps aq body).wpIn (I4 none) n C.P Q a w:=by
 have hv:=(S.opnd g).1;have hvn:=(S.opnd g).2;obtain⟨FA,FB,h9,i9,j3,l8⟩:=Tb k8 hv;unfold Yg at h;split at h
 case isFalse=>cases h
 rename_i b6;simp only[j0,j8] at b6;obtain⟨⟨⟨k0,f6⟩,l0⟩,d6⟩:=b6;split at h
 case h_2=>cases h
 rename_i ret Hc H1 a2 s' f0;refine wpIn_rangeFunc (λfn _=>?_);obtain⟨F,b0⟩:∃F,(w.alloc (.deferred (some []))).alloc (.loop (No fn a.tmps ps aq body w.heap.size .ready none))=F:=⟨_,rfl⟩
 have l5:F.heap.size=w.heap.size+2:=by rw[<-b0];simp
 have a5:∀g,g<w.heap.size->F.heap[g]? = w.heap[g]?:=λg G=>by
  rw[<-b0,AZ (by simp;omega),AZ G]
 have k7:F.heap[w.heap.size+1]? = some (.loop (No fn a.tmps ps aq body w.heap.size .ready none)):=by
  rw[<-b0];have:=af0 (w.alloc (.deferred (some []))) (.loop (No fn a.tmps ps aq body w.heap.size .ready none));rwa [World.size_alloc] at this
 have k4:F.heap[w.heap.size]? = some (.deferred (some [])):=by
  rw[<-b0,AZ (by simp)];exact af0 w _
 have ho:F.os=w.os/\F.tape=w.tape/\F.output=w.output:=by rw[<-b0];exact⟨rfl,rfl,rfl⟩
 obtain⟨S1,l9⟩:=S.wide A.hI (St':=Γ.St) a5 (by omega) (λ_ h=>h) (λ_ h=>.inl h) (λg G=>by have:=S.hr.stlt g G;omega) ho.1 ho.2.1 ho.2.2;have S1:SI C I Γ K Y a.tmps F:=S1;have k5:=A.hI.foot _ _ _ _ S.inv;have e3:∀{g},w.heap.size<=g->g<F.heap.size->Off Γ K F g:=fun {g} h1 h2=>⟨h2,λq=>by have:=S.hr.stlt g q;omega,λb q=>by have:=(S.hr.lt b g q).2.1;omega,λq=>by have:=(k5 g q).1;omega⟩
 have d3:Off Γ K F (w.heap.size+1):=e3 (by omega) (by omega);have d2:Off Γ K F w.heap.size:=e3 (by omega) (by omega);obtain⟨dl,c3,f9,e5⟩:=Db9 S1.hr f5 a4;have c9:=Nc (Γ:=Γ) (sh:=A5 Y.hp) (w:=F) (m++Cc C Y.hp 0) Y.sl;have f2:=RK (Γ:=Γ) (H:=Y.hp) (H':=O4 m Y.hp) (w:=F) c3;have a1:∀c∈C9 (L4 (m++Cc C Y.hp 0) Y.sl),c∉m/\c<Y.hp.length/\Ex C (Y.hp.getD c .dead)=true:=λc u=>by
  obtain⟨B,q2⟩:=c9.2.1 c u;have q3:=S.sr.nms c q2;simp only[x4,not_or] at B;refine⟨B.1,q3,?_⟩;have e:Y.hp.getD c .dead=Y.hp[c]:=by rw[aa4,b9 q3];rfl
  rw[e];rcases MD (C:=C) Y.hp 0 c q3 with q|q
  ·rw[ac8] at q;exact absurd q B.2
  ·exact q
 have g2:SR (Γ.hide m) (O4 m Y.hp) F (L4 (m++Cc C Y.hp 0) Y.sl) a.tmps:=by
  have h0:SR Γ Y.hp F (L4 (m++Cc C Y.hp 0) Y.sl) a.tmps:=⟨by rw[c9.1];exact S1.sr.size,λc u=>(a1 c u).2.1,λi hi=>by
   have c0:i<Y.sl.length:=by rw[<-c9.1];exact hi
   obtain⟨V,e1,e2⟩:=S1.sr.slot i c0;exact⟨V,e1,c9.2.2 i hi c0 V e2⟩⟩
  exact h0.mono f2 (λc u=>⟨(a1 c u).1,by rw[dl];exact(a1 c u).2.1⟩)
 have M:∀{b g},(Γ.hide m).nm b=some g->b∉m/\Γ.nm b=some g:=fun {b g} h=>by
  simp only[Ctx.hide] at h;split at h
  ·cases h
  ·exact⟨‹_›,h⟩
 have SS:SI C I (Γ.hide m) K { sl:=L4 (m++Cc C Y.hp 0) Y.sl,hp:=O4 m Y.hp,s:=Y.s } a.tmps F:=⟨e5,g2,S1.g,S1.inv,λb g p=>S1.dis b g (M p).2⟩
 have g6:∀c∈C9 (L4 (m++Cc C Y.hp 0) Y.sl),c<(O4 m Y.hp).length/\Mv C (A5 (O4 m Y.hp) c):=λc u=>by
  obtain⟨B,q2,q3⟩:=a1 c u;exact⟨by rw[dl];exact q2,by rw[c3 c B];exact(LE q2).1 q3⟩
 have d9:∀{g},Off Γ K F g->Off (Γ.hide m) K F g:=fun {g} h=>⟨h.1,h.2.1,λb q=>h.2.2.1 b (M q).2,h.2.2.2⟩
 let Φc:Nat->Prop:=λg=>K g\/(∃b,(Γ.hide m).nm b=some g)\/g=w.heap.size+1\/g=w.heap.size
 have h7:RI C I (Γ.hide m) (O4 m Y.hp) F K (L4 (m++Cc C Y.hp 0) Y.sl) a.tmps (w.heap.size+1) w.heap.size (No fn a.tmps ps aq body w.heap.size) (O4 m Y.hp,none,Y.s) Γ.St Φc F:=by
  refine⟨Γ.hide m,K,SS,Stp.pg (Stp.refl e5),λ_ h=>h,λ_=>Iff.rfl,λg G=>?_,d9 d3,d9 d2,k7,k4⟩;rcases G with q|⟨b,q⟩|rfl|rfl
  ·have:=A.hI.foot _ _ _ _ S1.inv g q;exact this
  ·have:=e5.lt b g q;exact⟨this.2.1,this.2.2⟩
  ·exact⟨d3.1,d3.2.1⟩
  ·exact⟨d2.1,d2.2.1⟩
 have i0:=Bx3 S1.hr f5 a4 k0;have a3:=λb (h:b∈m)=>Ia h
 have f4:(T5 Y.hp m).length=m.length:=by simp[T5]
 let y:Value:=.func (.yield (w.heap.size+1)) #[] #[];have b1:y.oneCell'=true:=rfl;have g1:HR ((Γ.lent m).reyv y b1) (T5 Y.hp m) F:=i0.reyv (λb p=>by
  have i6:b<m.length:=by rw[<-f4];exact p
  simp only[T5,j9,Blk.yf_rn];exact l0 _ (j5 i6))
 have e4:∀{l:List PV} {V:Array Value},CR Γ (A5 Y.hp) w l V->yfL l=true->(∀c∈C9 l,c∈m)->CR ((Γ.lent m).reyv y b1) (A5 (T5 Y.hp m)) F (rnL (H9 m) l) V:=fun {l V} u hy hn=>by
  have g4:CR Γ (A5 Y.hp) F l V:=u.mono (Γ':=Γ) (H':=Y.hp) (DQ S.hr a5 (λ_ h=>h)) (λ_ _=>trivial);rw[DD];refine⟨by rw[y5];exact g4.1,λj hj=>?_⟩;have f3:j<l.length:=by simpa using hj
  obtain⟨U,e,q⟩:=g4.2 j f3;refine⟨U,e,?_⟩;rw[j9];refine VP.reyv (VP.rn (Γ:=Γ) (Γ':=Γ.lent m) rfl q (.inr λ_ h=>h) (λc u=>?_)) (by rw[PV.yf_rn];exact Ol hy _ (j5 f3));have c7:=hn c (C1.2 ⟨j,f3,u⟩);obtain⟨B,q2⟩:=a3 c c7;exact⟨Xs c7,by rw[Ql a4 B,q2]⟩
 have l4:∀(x z:List PV),yfL (x++z)=(yfL x&&yfL z):=λx z=>by
  induction x with
  | nil=>simp[yfL]
  | cons v x ih=>simp[yfL,ih,Bool.and_assoc]
 rw[l4,j0] at f6;have e9:CR ((Γ.lent m).reyv y b1) (A5 (T5 Y.hp m)) F (rnL (H9 m) first++.yd::rnL (H9 m) a0) (FA++#[y]++FB):=by
  have h1:=e4 i9 f6.1 (λc u=>c1 c (by rw[O7];simp[u]));have h2:=e4 j3 f6.2 (λc u=>c1 c (by rw[O7];simp[u]));have h3:CR ((Γ.lent m).reyv y b1) (A5 (T5 Y.hp m)) F [.yd] #[y]:=CR.one .yd;have:=(h1.append h3).append h2;simpa using this
 have e8:∀c∈C9 (rnL (H9 m) first++.yd::rnL (H9 m) a0),c<(T5 Y.hp m).length:=λc u=>by
  have:c∈(C9 (first++a0)).map (H9 m):=by
   rw[O7] at u;simp only[C9,PV.nms,ac5,Jm,x4] at u;rw[O7,List.map_append,x4];exact u
  obtain⟨d,hd,rfl⟩:=List.mem_map.1 this;rw[f4];exact(a3 d (c1 d hd)).1
 have a7:∀{i g},(Γ.lent m).nm i=some g->∃hi:i<m.length,Γ.nm m[i]=some g:=fun {i g} h=>by
  simp only[Ctx.lent] at h;cases hi:m[i]? with
  | none=>rw[hi] at h;simp at h
  | some b=>
   obtain⟨h1,h2⟩:=List.getElem?_eq_some_iff.1 hi;rw[hi] at h;exact⟨h1,by rw[h2];exact h⟩
 have c5:=h8 _ _ _ y (D60 A.hI) (D61 (fn:=fn) (ps:=ps) (aq:=aq) (body:=body) (l:=w.heap.size+1) (D:=w.heap.size) (tmps:=a.tmps) (w0:=F) (Φ0:=K) (Γ0:=Γ.hide m) A.hI l1 i5 i7 g6) f _ _ _ ret Hc _ f0 ((Γ.lent m).reyv y b1) Φc F (FA++#[y]++FB) rfl g1 S1.g h7 (λi g hi=>by
  obtain⟨k6,c8⟩:=a7 hi;rintro(q|⟨b,q⟩|rfl|rfl)
  ·exact S1.dis _ g c8 q
  ·obtain⟨B,q2⟩:=M q;have:=S1.hr.inj _ _ g c8 q2;exact B (this▸j5 k6)
  ·exact d3.2.2.1 _ c8
  ·exact d2.2.2.1 _ c8) e9 e8
 have c6:=Zs (ro:=none) (n:=n) (Bh d6) c5;refine⟨w.heap.size+1,[mkD w.heap.size],F,{ target:=.fn (.func f) FB,args:=FA++#[y] },F,f,FA++#[y]++FB,F,?_,?_,λ_ _=>trivial,?_,λh=>by simp[I4,ab1] at h,c6.mono ?_⟩
 ·rw[<-b0];exact run_enterLoop_outer _ _ _ _ _
 ·simp[resolve,h9,o9];rfl
 ·show(callFunc f (FA++#[y]++FB)).run C.P F=_;exact Bh d6
 rintro e W2 ⟨V,rfl,Γ1,Φ1,hs,b4,m4,l7,⟨Γb,Φb,r1⟩,b7⟩;have g7:=r1.hl;have d5:=run_endLoop (P:=C.P) g7 (by cases a2<;>simp[No,Dn5]);obtain⟨w4,d1⟩:∃w4,W2.putObj (w.heap.size+1) (.loop { No fn a.tmps ps aq body w.heap.size (Dn5 a2) (a2.map jmp) with state:=.exhausted })=w4:=⟨_,rfl⟩
 rw[d1] at d5;have O:We Γb Φb W2 w4:=by rw[<-d1];exact We.put r1.ol
 have c2:w4.heap.size=W2.heap.size:=by rw[<-d1];simp
 have h4:∀g,g≠w.heap.size+1->w4.heap[g]? = W2.heap[g]?:=λg G=>by rw[<-d1];exact k9 G
 have inΦ:∀{g},Φb g\/(∃b,Γb.nm b=some g)\/g=w.heap.size+1\/g=w.heap.size->Φ1 g:=fun {g} h=>(r1.ph g).2 h
 have S5:=(r1.si.offW A.hI O).wideSt A.hI (St':=Γ1.St) r1.st (λg G hp=>(r1.ft g (inΦ (.inl hp))).2 G) (λb g p G=>(r1.ft g (inΦ (.inr (.inl ⟨b,p⟩)))).2 G) (λg G=>by rw[c2];exact b4.stlt g G);have d0:Y.hp.length<=H1.length:=by have:=r1.pg.len;rw[dl] at this;exact this
 have d4:m.length<=Hc.length:=by have:=hs.len;rw[y5] at this;exact this
 obtain⟨l2,h6⟩:=Jw m (m.map λb=>cond (Ex C (Y.hp.getD b .dead)) (La (Hc.getD (H9 m b) .dead)) .dead) H1 f5 (by simp) (λb p=>j4 (a4 b p) d0);generalize e7:Ah3 C m Y.hp Hc H1=H2 at h;have a6:H2.length=H1.length:=by rw[<-e7];exact l2
 have e6:∀b (p:b∈m),H2[b]? = some (cond (Ex C (Y.hp.getD b .dead)) (La (Hc.getD (H9 m b) .dead)) .dead):=λb p=>by
  rw[<-e7];simp only[Ah3];rw[h6,if_pos p,af8];have e:m.idxOf b=H9 m b:=rfl;rw[e,b9 (a3 b p).1,(a3 b p).2];rfl
 have b3:∀b,b∉m->H2[b]? = H1[b]?:=λb p=>by
  rw[<-e7];simp only[Ah3];rw[h6,if_neg p]
 let Γf:Ctx:={ St:=Γ1.St,nm:=λb=>if b∈m then (if Ex C (Y.hp.getD b .dead)=true then Γ1.nm (H9 m b) else none) else Γb.nm b,yv:=Γ.yv,yv1:=Γ.yv1 }
 have b2:∀{b},b∈m->Ex C (Y.hp.getD b .dead)=true->Γf.nm b=Γ1.nm (H9 m b):=fun {b} h1 h2=>by simp only[Γf];rw[if_pos h1,if_pos h2]
 have g0:∀{b},b∈m->¬Ex C (Y.hp.getD b .dead)=true->Γf.nm b=none:=fun {b} h1 h2=>by simp only[Γf];rw[if_pos h1,if_neg h2]
 have a9:∀{b},b∉m->Γf.nm b=Γb.nm b:=fun {b} h1=>by simp only[Γf];rw[if_neg h1]
 have L:∀{b g},Γf.nm b=some g->(b∈m/\Γ1.nm (H9 m b)=some g)\/(b∉m/\Γb.nm b=some g):=fun {b g} h=>by
  by_cases p:b∈m
  ·by_cases hf:Ex C (Y.hp.getD b .dead)=true
   ·rw[b2 p hf] at h;exact .inl ⟨p,h⟩
   ·rw[g0 p hf] at h;cases h
  ·rw[a9 p] at h;exact .inr ⟨p,h⟩
 have g9:∀c,c∈m->A5 H1 c=some .dead:=λc u=>by
  obtain⟨_,k2,_⟩:=r1.pg.keep c (by rw[dl];exact a4 c u) (by rw[f9 c u];trivial);rw[k2];exact f9 c u
 have d8:∀b,b∉m->A5 H2 b=A5 H1 b:=λb p=>by simp only[A5,b3 b p]
 have Mf:Az { Γb with St:=Γ1.St } (A5 H1) w4 Γf (A5 H2) w4 (·∉m):=⟨λ_ _=>rfl,λ_ h=>h,λb p=>a9 p,d8,λ_ _ _ _=>rfl,(r1.pg.yv:Γb.yv=Γ.yv).symm⟩
 have i3:HR Γf H2 w4:=by
  refine⟨λb b' g h1 h2=>?_,λb g p=>?_,λg G=>by rw[c2];exact b4.stlt g G,λb p c u=>?_,λb p=>?_⟩
  ·rcases L h1 with⟨p1,B⟩|⟨p1,B⟩<;>rcases L h2 with⟨p2,q2⟩|⟨p2,q2⟩
   ·have:=b4.inj _ _ g B q2;have e1:=(a3 b p1).2;have e2:=(a3 b' p2).2;rw[<-e1,<-e2];simp only[this]
   ·exact absurd (inΦ (.inr (.inl ⟨b',q2⟩))) (b7 _ g B)
   ·exact absurd (inΦ (.inr (.inl ⟨b,B⟩))) (b7 _ g q2)
   ·exact r1.si.hr.inj b b' g B q2
  ·rcases L p with⟨p1,B⟩|⟨p1,B⟩
   ·have:=b4.lt _ g B;exact⟨by rw[a6];exact j4 (a4 b p1) d0,by rw[c2];exact this.2.1,this.2.2⟩
   ·have:=S5.hr.lt b g B;exact⟨by rw[a6];exact this.1,this.2⟩
  ·by_cases t:b∈m
   ·have e:=e6 b t;rw[b9 p] at e;simp only[b8] at e;rw[e] at u;cases hf:Ex C (Y.hp.getD b .dead) with
    | true=>rw[hf,cond_true,QJ] at u;simp at u
    | false=>rw[hf] at u;simp[Blk.nms] at u
   ·have e:=b3 b t;have b5:b<H1.length:=by rw[<-a6];exact p
    rw[b9 p,b9 b5] at e;simp only[b8] at e;rw[e] at u;rw[a6];exact S5.hr.nms b b5 c u
  ·by_cases t:b∈m
   ·have e:=e6 b t;rw[b9 p] at e;simp only[b8] at e;rw[e];cases hf:Ex C (Y.hp.getD b .dead) with
    | true=>
     rw[cond_true];have hi:H9 m b<Hc.length:=j4 (a3 b t).1 d4;rw[Xd hi];refine Co7 (b4.blk _ hi) (b2 t hf) (λg G=>h4 g ?_) (λ_ h=>h) (λg G=>h4 g ?_)
     ·rintro rfl;exact(r1.ft _ (inΦ (.inr (.inr (.inl rfl))))).2 G
     ·rintro rfl;exact b7 _ _ G (inΦ (.inr (.inr (.inl rfl))))
    | false=>trivial
   ·have e:=b3 b t;have b5:b<H1.length:=by rw[<-a6];exact p
    rw[b9 p,b9 b5] at e;simp only[b8] at e;rw[e];have hB:=S5.hr.blk b b5;exact hB.mono Mf (a9 t) (λ_ _=>rfl) (λc u c7=>hB.ndead c u (g9 c c7))
 have g3:SR Γf H2 w4 (L4 (m++Cc C Y.hp 0) Y.sl) a.tmps:=S5.sr.mono Mf (λc u=>⟨(a1 c u).1,by rw[a6];exact j4 (a1 c u).2.1 d0⟩);have SF:SI C I Γf Φb { sl:=L4 (m++Cc C Y.hp 0) Y.sl,hp:=H2,s:=s' } a.tmps w4:=⟨i3,g3,S5.g,S5.inv,λb g p=>by
  rcases L p with⟨_,B⟩|⟨_,B⟩
  ·exact λq=>b7 _ g B (inΦ (.inl q))
  ·exact S5.dis b g B⟩
 have l6:=hs.size;have f7:Stp C Γ Y.hp w K Γf H2 w4 Φb:=by
  refine⟨O.os.trans (hs.os.trans ho.1),O.tape.trans (hs.tape.trans ho.2.1),O.output.trans (hs.output.trans ho.2.2),by omega,λg G=>hs.sub g G,λg G=>?_,λb g p=>?_,λg G=>?_,λg G hn hp=>?_,rfl,by rw[a6];exact d0,λb p hf=>?_⟩
  ·rcases hs.stnew g G with q|q
   ·exact .inl q
   ·exact .inr (by omega)
  ·rcases L p with⟨p1,B⟩|⟨p1,B⟩
   ·rcases hs.own _ g B with⟨_,q⟩|q
    ·obtain⟨i1,i2⟩:=a7 q;rw[(a3 b p1).2] at i2;exact .inl ⟨a4 b p1,i2⟩
    ·exact .inr (by omega)
   ·rcases r1.pg.own b g B with⟨q,q'⟩|q
    ·exact .inl ⟨by rw[<-dl];exact q,(M q').2⟩
    ·exact .inr (by omega)
  ·rcases r1.pg.foot g G with q|q
   ·exact .inl q
   ·exact .inr (by omega)
  ·have np:¬ Φc g:=by
    rintro(q|⟨b,q⟩|q|q)
    ·exact hp q
    ·exact hn b (M q).2
    ·omega
    ·omega
   rw[h4 g (by omega),hs.frame g (by omega) (λb q=>by obtain⟨_,i2⟩:=a7 q;exact hn _ i2) np,a5 g G]
  ·by_cases t:b∈m
   ·have g5:=(LE (C:=C) (H:=Y.hp) p).2 hf;obtain⟨B,q2⟩:=a3 b t;have hi:H9 m b<(T5 Y.hp m).length:=by rw[f4];exact B
    have h5:A5 (T5 Y.hp m) (H9 m b)=A5 Y.hp b:=by rw[Ql a4 B,q2]
    obtain⟨k1,k2,k3⟩:=hs.keep _ hi (by show Mv C (A5 (T5 Y.hp m) _);rw[h5];exact hf);have k2:A5 Hc (H9 m b)=A5 (T5 Y.hp m) (H9 m b):=k2;have d7:((Γ.lent m).reyv y b1).nm (H9 m b)=Γ.nm b:=Xs t;refine⟨(b2 t g5).trans (k1.trans d7),?_,λg G=>?_⟩
    ·have c0:H9 m b<Hc.length:=j4 B d4;simp only[A5,e6 b t,g5,cond_true,ae0,QK,Xd c0];show some (Hc[H9 m b]).shp=A5 Y.hp b;rw[<-h5,<-k2];simp only[A5,b9 c0,ae0]
    ·have e1:=k3 g (d7.trans G);have f1:=S.hr.lt b g G;rw[F5 (h4 g (by omega)),e1,F5 (a5 g f1.2.1)]
   ·obtain⟨k1,k2,k3⟩:=r1.pg.keep b (by rw[dl];exact p) (by rw[c3 b t];exact hf);have hh:(Γ.hide m).nm b=Γ.nm b:=by simp only[Ctx.hide];rw[if_neg t]
    refine⟨(a9 t).trans (k1.trans hh),by rw[d8 b t,k2,c3 b t],λg G=>?_⟩;have f1:=S.hr.lt b g G;rw[F5 (h4 g (by omega)),k3 g (hh.trans G),F5 (a5 g f1.2.1)]
 have i4:Mk n0 Γf Φb w4 (mkD w.heap.size::a.defers):=by
  obtain⟨m0,Ds,m1,m2,m3⟩:=hM;refine⟨by omega,w.heap.size::Ds,by rw[m1];rfl,ah1.2 ⟨λg8=>?_,m2⟩,λD hD=>?_⟩
  ·have:=(m3 _ g8).2.1.1;omega
  ·rcases x6.1 hD with rfl|hD
   ·refine⟨m0,⟨by omega,(r1.ft _ (inΦ (.inr (.inr (.inr rfl))))).2,λb q=>?_,r1.od.2.2.2⟩,by rw[h4 _ (by omega)];exact r1.hd⟩;rcases L q with⟨_,B⟩|⟨_,B⟩
    ·exact b7 _ _ B (inΦ (.inr (.inr (.inr rfl))))
    ·exact r1.od.2.2.1 b B
   ·obtain⟨k1,k2,k3⟩:=m3 D hD;obtain⟨B,q2⟩:=k2.step f7;exact⟨k1,B,q2.trans k3⟩
 have c4:=hP (a2.getD .normal) { sl:=L4 (m++Cc C Y.hp 0) Y.sl,hp:=H2,s:=s' } { a with defers:=mkD w.heap.size::a.defers } w4 Γf Φb h f7 SF i4;refine⟨a2.map jmp,w4,d5,?_⟩;cases a2 with
 | none=>exact c4
 | some o=>
  cases o with
  | normal=>exact wpIn_skip c4
  | exit id=>exact wpIn_exit c4
  | ret=>exact wpIn_ret c4
def EY{m:Array Tmp}{d:List PV}{aq c:Code}:∀(L:List (List PV)) (H:List Blk) (s:Z) {k:Option Out->List Blk->Z->Option R},Bk m d (λY k=>A9 C W J aq Y k) (λY k=>A9 C W J c Y k) L H s k=some r->
  ∃H' b f,Ej (Km m d (λY k=>A9 C W J aq Y k) (λY k=>A9 C W J c Y k)) L (H,none,s)=some (H',b,f)/\k b H' f=some r
 | [],H,s,k,h=>⟨H,none,s,rfl,h⟩
 | x::xs,H,s,k,h=>by
  simp only[Bk] at h;split at h
  case isFalse=>cases h
  rename_i u;obtain⟨o,v,n,g⟩:=LD h;cases o with
  | exit id=>cases g
  | ret=>cases g
  | normal=>
  obtain⟨l,e,p,i⟩:=LD g;have j:Km m d (λY k=>A9 C W J aq Y k) (λY k=>A9 C W J c Y k) x (H,none,s)=some ((Ee l).isNone,((Ab H.length e).hp,Ee l,e.s)):=by
   simp only[Km];rw[if_pos u,QY n];dsimp only;rw[QY p]
  cases l with
  | normal=>
   obtain⟨H',b,f,q,t⟩:=EY xs _ _ i;refine⟨H',b,f,?_,t⟩;simp only[Ej,j];exact q
  | exit id=>exact⟨_,_,_,by simp only[Ej,j];rfl,i⟩
  | ret=>exact⟨_,_,_,by simp only[Ej,j];rfl,i⟩
def Cb2{n n0:Nat}{g:Operand}{F:Array Tmp}{aq i:Code}{k:Out->St Z->Option R}{Q:Exit->Act->World->Prop}(A:Ask C I W J X)(y:Γ.yv=X)(q:WP C I W J X aq)(t:WP C I W J X i)
  (h:Vh C W (opnd C Y.sl g) Y (λp=>Km F p (λY k=>A9 C W J aq Y k) (λY k=>A9 C W J i Y k)) (λp=>Bk F p (λY k=>A9 C W J aq Y k) (λY k=>A9 C W J i Y k)) k=some r) (S:SI C I Γ K Y a.tmps w) (O:Mk n0 Γ K w a.defers) (P:C98 C I n0 Γ K Y.hp w k r Q) :
  (ah2 g F aq i).wpIn (I4 none) n C.P Q a w:=by
 have hvn:=(S.opnd g).2;have hv:=(S.opnd g).1;unfold Vh at h;split at h
 case h_2=>cases h
 rename_i f first d o;obtain⟨FA,FB,a0,a1,a2,M⟩:=Tb o hv;have v:=EX Y.hp (C9 (first++d));have m:=SK Y.hp (C9 (first++d));have u:∀b∈Di Y.hp (C9 (first++d)),b<Y.hp.length:=SJ Y.hp (C9 (first++d)) (· < Y.hp.length) (λb B c D=>by
  have e:Y.hp.getD b .dead=Y.hp[b]:=by rw[aa4,b9 B];rfl
  rw[e] at D;exact S.hr.nms b B c D) (λc D=>hvn c (M c D))
 generalize Di Y.hp (C9 (first++d))=l at *;split at h
 ·rename_i pf hS;unfold Bd9 at h;split at h
  case isFalse=>cases h
  rename_i j;rw[j0] at j;split at h
  case h_2=>cases h
  rename_i cL L hL;obtain⟨rfl,h⟩:=C6 h;obtain⟨H',z,s',U,V⟩:=EY L _ _ h;refine NC A A.hX.s y q t o v m u ?_ S O P;unfold Yg;rw[if_pos j.1];have G:(l.map λb=>(Y.hp.getD b .dead).rn (H9 l)).all RM=true:=by
   rw[ai5,j8];intro b B;have:=j8.1 j.2 b B;simp only[Function.comp];generalize Y.hp.getD b .dead=x at this;cases x<;>simp_all [RM,Blk.rn]
  have e:clS C (List Blk × Option Out × Z) (Km F (L4 (l++Cc C Y.hp 0) Y.sl) (λY k=>A9 C W J aq Y k) (λY k=>A9 C W J i Y k)) f (rnL (H9 l) first++PV.yd::rnL (H9 l) d) (l.map λb=>(Y.hp.getD b .dead).rn (H9 l)) (O4 l Y.hp,none,Y.s)=some (.tup [],(l.map λb=>(Y.hp.getD b .dead).rn (H9 l)).map La,(H',z,s')):=by
   simp only[clS,hS];rw[if_pos G,hL];simp only[U]
  rw[e];exact V
 ·exact NC A A.hC y q t o v m u h S O P
end
section
variable {Z R : Type} {r : R} {C : Cfg} {I : Z -> (Nat -> Prop) -> (Nat -> Prop) -> World -> Prop} {Y : Ctx} {W : Nat -> Prop} {L : St Z} {a : Act} {w : World} {U : G4} {J : Yh Z} {K : Value} {o : Oper} {H : List Blk}
def B45(A:Ask C I U J K)(hm:C.P.follows .mixedOrders=true):∀(c:Code) {ro:Option Nat} {n n0:Nat} {rf:Bool} {R:Type} {r:R} {Y:Ctx} {W:Nat->Prop} {L:St Z} {a:Act} {w:World} {k:Out->St Z->Option R} {Q:Exit->Act->World->Prop},
  (rf=true->ro=none)->V5 C rf c=true->Y.yv=K->A9 C U J c L k=some r->SI C I Y W L a.tmps w->Mk n0 Y W w a.defers->C98 C I n0 Y W L.hp w k r Q->c.wpIn (I4 ro) n C.P Q a w:=by
 intro c
 induction c with
 | skip=>intro ro n n0 rf R r Y W L a w k Q p b f h S B u;exact wpIn_skip (u .normal L a w Y W h (Stp.refl S.hr) S B)
 | label l=>intro ro n n0 rf R r Y W L a w k Q p b f h S B u;exact wpIn_label (u .normal L a w Y W h (Stp.refl S.hr) S B)
 | region id T d=>
  intro ro n n0 rf R r Y W L a w k Q p b f h S B u;cases d with
  | false=>
   have h:Bm C U J T T.toList L (λq=>k .normal (Xc (C.keepR id) L.hp.length q))=some r:=by
    simp only[A9,Be8] at h;split at h
    ·exact h
    ·cases h
   refine wpIn_region_list (ZJ A T.toList f h S ?_);intro q G w' Γ' i v z D F;obtain⟨N,V,M⟩:=Sx A.hI D z (C.keepR id) (j7 _);exact u .normal _ G w' N i v M V (by rw[F];exact B.step M)
  | true=>
   simp only[V5,Bool.not_true,ai1] at b;refine Dk2 A hm b f h S ?_;intro q G w' Γ' i v z D F;obtain⟨N,V,M⟩:=Sx A.hI D z (C.keepR id) (j7 _);exact u .normal _ G w' N i v M V (by rw[F];exact B.step M)
 | seq x y O P=>
  intro ro n n0 rf R r Y W L a w k Q p b f h S B u;simp only[V5,j0] at b;refine wpIn_seq (O p b.1 f h S B ?_);intro o q G w' Γ' i v z D F;cases o with
  | normal=>exact P p b.2 (z.yv.trans f) v D F λo2 a3 a2 w2 N Φ2 k1 k2 k3 k4=>u o2 a3 a2 w2 N Φ2 k1 (z.trans k2) k3 k4
  | exit id=>exact u (.exit id) q G w' Γ' i v z D F
  | ret=>exact u .ret q G w' Γ' i v z D F
 | cond c x y O P=>
  intro ro n n0 rf R r Y W L a w k Q p b f h S B u;simp only[V5,j0] at b;simp only[A9] at h;split at h
  ·rename_i t hc;have hv:=(S.opnd c).1;rw[hc] at hv;have hb:=hv.inv_bool;cases t with
   | true=>exact wpIn_cond hb (O p b.1 f h S B u)
   | false=>exact wpIn_cond hb (P p b.2 f h S B u)
  ·cases h
 | block id x ih=>
  intro ro n n0 rf R r Y W L a w k Q p b f h S B u;refine wpIn_block (ih p b f h S B ?_);intro o q G w' Γ' i v z D F;cases o with
  | normal=>exact u .normal q G w' Γ' i v z D F
  | exit j=>
   simp only[Out.exit',Exit.inBlock];dsimp only at v;split at v
   ·rename_i e;rw[if_pos e];exact u .normal q G w' Γ' i v z D F
   ·rename_i e;rw[if_neg e];exact u (.exit j) q G w' Γ' i v z D F
  | ret=>exact u .ret q G w' Γ' i v z D F
 | loop x ih=>
  intro ro n n0 rf R r Y W L a w k Q p b f h S B u;simp only[A9] at h;refine Bq7 (λm G w'=>∃q Γ' i,D0 L.hp.length (C.keep (Ak1 x)) (λL k=>A9 C U J x L k) m q k=some r/\Stp C Y L.hp w W Γ' q.hp w' i/\SI C I Γ' i q G.tmps w'/\Mk n0 Γ' i w' G.defers) C.lf ⟨_,Y,W,h,by rw[Gy];exact Stp.refl S.hr,Gx S _,B⟩ ?_;rintro m a1 w1 ⟨a4,Γ1,Φ1,v,z,D,F⟩;cases m with
  | zero=>simp[D0] at v
  | succ m=>
   simp only[D0] at v;refine ih p b (z.yv.trans f) v D F ?_;intro o q G w' Γ' i k1 k2 k3 k4;cases o with
   | normal=>
    obtain⟨N,V,M,X⟩:=Aw7 A.hI k3 (z.trans k2);have a0:=Mk.sub k4 X;exact⟨m,Nat.lt_succ_self m,_,N,i,k1,by rw[Gy];exact M,Gx V _,a0⟩
   | exit j=>exact u (.exit j) _ G w' Γ' i k1 (by rw[Gy];exact z.trans k2) (Gx k3 _) k4
   | ret=>exact u .ret _ G w' Γ' i k1 (by rw[Gy];exact z.trans k2) (Gx k3 _) k4
 | exit id=>intro ro n n0 rf R r Y W L a w k Q p b f h S B u;exact wpIn_exit (u (.exit id) _ a w Y W h (by rw[Gy];exact Stp.refl S.hr) (Gx S _) B)
 | ret=>intro ro n n0 rf R r Y W L a w k Q p b f h S B u;exact wpIn_ret (u .ret _ a w Y W h (by rw[Gy];exact Stp.refl S.hr) (Gx S _) B)
 | scope x ih=>
  intro ro n n0 rf R r Y W L a w k Q p b f h S B u;refine Ax5 (ih (Q:=λe a w=>(∀l,e≠.goto l)/\Q e a w) p b f h S B ?_);intro o q G w' Γ' i v z D F;exact⟨λl=>by cases o<;>simp[Out.exit'],u o q G w' Γ' i v z D F⟩
 | rangeFunc g ps x y O P=>
  intro ro n n0 rf R r Y W L a w k Q p b f h S B u;simp only[V5,j0] at b;obtain⟨⟨rfl,hx⟩,hy⟩:=b;obtain rfl:=p rfl;simp only[A9] at h;exact Cb2 A f (fun {R r ro n n0 Y W L a w k Q} v z D F h5=>O (rf:=false) (λh=>by cases h) hx v z D F h5) (fun {R r ro n n0 Y W L a w k Q} v z D F h5=>P (rf:=false) (λh=>by cases h) hy v z D F h5) h S B u
 | _=>intro ro n n0 rf R r Y W L a w k Q p b f h S B u;simp[A9] at h
end
section
variable {Z R : Type} {r : R} {C : Cfg} {I : Z -> (Nat -> Prop) -> (Nat -> Prop) -> World -> Prop} {L : Ctx} {Y : Nat -> Prop} {W : St Z} {a : Act} {w : World} {O : G4} {J : Yh Z} {K : Value} {o : Oper} {H : List Blk}
def DA(b:Array Value):ResultVar->Sem Value
 | .tmp t=>pure (b.getD t undef)
 | .cell a t=>do loadVar t (<-asAddr (b.getD a undef))
def Bf8(fn:Func)(b:Array Value):results fn b=(fn.results.toList.mapM (DA b) >>= λl=>pure (if h:l.length=1 then l[0] else .tuple l.toArray)):=by
 unfold results;have:∀(c:Array ResultVar),(c.mapM (DA b) >>= λd=>(pure (if h:d.size=1 then d[0] else .tuple d):Sem Value))=(c.toList.mapM (DA b) >>= λl=>pure (if h:l.length=1 then l[0] else .tuple l.toArray)):=by
  intro c;rw[Array.mapM_eq_mapM_toList,map_eq_pure_bind,bind_assoc]
  congr 1
 exact this fn.results
def RD(S:SR L H w W.sl a.tmps)(t:Nat):VP L (A5 H) w (W.sl.getD t (.tup [])) (a.tmps.getD t undef)/\∀c∈(W.sl.getD t (.tup [])).nms,c<H.length:=by
 by_cases h:t<W.sl.length
 ·obtain⟨V,e,k⟩:=S.slot t h;have g:∀c∈(W.sl[t]).nms,c<H.length:=λc f=>S.nms c (C1.2 ⟨t,h,f⟩)
  simp_all
 ·have b:W.sl.getD t (.tup []) = .tup []:=by rw[aa4,ac1 (ag5 h)];rfl
  have d:a.tmps.getD t undef=undef:=by rw[x9,ab3 (by rw[S.size];exact ag5 h)];rfl
  rw[b,d];exact⟨Ja,by simp[PV.nms,C9]⟩
def LR(L:Ctx)(sh:Nat->Option Shp)(w:World):List PV->List Value->Prop
 | [],[]=>True
 | v::r,V::q=>VP L sh w v V/\LR L sh w r q
 | _,_=>False
def LR.len{sh:Nat->Option Shp}:∀{l:List PV} {A:List Value},LR L sh w l A->A.length=l.length
 | [],[],_=>rfl
 | v::r,V::q,h=>by simp[LR.len h.2]
 | [],_::_,h=>h.elim
 | _::_,[],h=>h.elim
def LR.CR{sh:Nat->Option Shp}:∀{l:List PV} {A:List Value},LR L sh w l A->∀j (h:j<l.length),∃U,A[j]? = some U/\VP L sh w (l[j]) U
 | [],[],_,j,h=>by simp at h
 | v::r,V::q,h,0,_=>⟨V,rfl,h.1⟩
 | v::r,V::q,h,j+1,hj=>by
  obtain⟨U,e,k⟩:=LR.CR h.2 j (by simpa using hj);grind
 | [],_::_,h,_,_=>h.elim
 | _::_,[],h,_,_=>h.elim
def Dg3{t:TypeId}{A V:Value}{w':World}(h:(ai4 t A).run C.P w' = .ok V w'):(do loadVar t (<-asAddr A):Sem Value).run C.P w' = .ok V w':=by
 simp only[ai4] at h;unfold Instr.sureAddr at h;split at h
 ·exact h
 simp_all
def Vi(j:HR L H w)(S:SR L H w W.sl a.tmps):∀(n:List ResultVar) {k:List PV->Option R},FZ C W.sl H n k=some r->
  ∃e d,k e=some r/\(n.mapM (DA a.tmps)).run C.P w = .ok d w/\LR L (A5 H) w e d/\∀c∈C9 e,c<H.length
 | [],k,h=>⟨[],[],h,by simp,trivial,by simp[C9]⟩
 | .tmp t::b,k,h=>by
  simp only[FZ] at h;obtain⟨e,d,g,m,i,q⟩:=Vi j S b h;obtain⟨f,p⟩:=RD S t;refine⟨_,a.tmps.getD t undef::d,g,?_,⟨f,i⟩,λc l=>?_⟩
  ·rw[ah6];simp only[DA,ag1,Sem.run_pure,ad0,m]
  ·simp only[C9,x4] at l;grind
 | .cell x t::b,k,h=>by
  simp only[FZ] at h;obtain⟨f,p⟩:=RD S x;obtain⟨v,u,A,V,z,y⟩:=EN j h f;obtain⟨e,d,g,m,i,q⟩:=Vi j S b u;refine⟨_,V::d,g,?_,⟨z,i⟩,λc l=>?_⟩
  ·rw[ah6];have:=Dg3 (y w (Ext.refl w));rw[show DA a.tmps (.cell x t)=(do loadVar t (<-asAddr (a.tmps.getD x undef)):Sem Value) from rfl];rw[ag1,this];simp_all
  ·simp only[C9,x4] at l;grind
def An7{b:List PV}{c:Nat}(h:c∈(Cu b).nms):c∈C9 b:=by
 unfold Cu at h;split at h
 ·simp[C9,h]
 ·exact h
def Di1{f:List PV}{b:List Value}(h:LR L (A5 H) w f b):VP L (A5 H) w (Cu f) (if h:b.length=1 then b[0] else .tuple b.toArray):=by
 have c:=h.len;unfold Cu;split
 ·rename_i v;cases b with
  | nil=>simp at c
  | cons V q=>
   cases q with
   | nil=>exact h.1
   | cons _ _=>simp at c
 ·rename_i d;have:b.length≠1:=by
   intro e;rw[e] at c
   match f,c with
   | [v],_=>exact d v rfl
  rw[dif_neg this];refine VP.mk_tup (by simpa using c) λj g=>?_
  obtain⟨U,e,k⟩:=h.CR j g;grind
def Pe(C:Cfg):Prop:=∀ f fn c,C.okf f=true->C.P.funcs[f]? = some fn->fn.body=some c->Cp3 C c=true/\(fn.name == "runtime.NumGoroutine")=false
def Py{f:Nat}{fn:Func}{c:Code}{d:Array Value}(g:C.P.funcs[f]? = some fn)(e:fn.body=some c)(h:(fn.name == "runtime.NumGoroutine")=false):(callFunc f d).run C.P w = .ok (.enter f d) w:=by
 have b:¬ fn.name = "runtime.NumGoroutine":=by simpa using h
 simp[callFunc,g,e,b,ad0]
def Da7{args:List PV}{d:Array Value}{n:Nat}(e:CR L (A5 H) w args d)(i:∀c∈C9 args,c<H.length) :
  SR L H w (args++w8 (n-args.length) (.tup [])) (d++x7 (n-d.size) undef):=by
 have h:CR L (A5 H) w (w8 (n-args.length) (.tup [])) (x7 (n-d.size) undef):=⟨by simp[e.1],λj f=>by
  simp only[List.length_replicate] at f;refine⟨undef,by rw[e.1];simp[f],?_⟩;simp only[List.getElem_replicate];exact Ja⟩
 have g:=e.append h;refine⟨g.1,λc b=>?_,g.2⟩;rw[O7,x4] at b;rcases b with b|b
 ·exact i c b
 ·obtain⟨j,f,b⟩:=C1.1 b;simp[PV.nms,C9] at b
def Stp.put{Γ0 Γ':Ctx}{H0 H':List Blk}{w0 w':World}{Φ0 Φ':Nat->Prop}{D:Nat}{ob:Obj}(h:Stp C Γ0 H0 w0 Φ0 Γ' H' w' Φ')(hD:w0.heap.size<=D)(hO:Off Γ' Φ' w' D):Stp C Γ0 H0 w0 Φ0 Γ' H' (w'.putObj D ob) Φ':=by
 refine⟨h.os,h.tape,h.output,by rw[World.putObj_size];exact h.size,h.sub,h.stnew,h.own,h.foot,λg hg hn hp=>?_,h.yv,h.len,λb hb hf=>?_⟩
 ·rw[k9 (by omega)];exact h.frame g hg hn hp
 ·obtain⟨k1,k2,k3⟩:=h.keep b hb hf;refine⟨k1,k2,λg hg=>?_⟩;rw[<-k3 g hg];refine F5 (k9 ?_);rintro rfl;exact hO.2.2.1 b (k1.trans hg)
def Bx2{F:Fence}{n:Nat}{fn:Func}{l:Ending->World->Prop}{f Γ':Ctx}{k:List Blk}{j:World}{g c:Nat->Prop}{d:St Z}{b:Array Value}(q:HI I)
  (t:∀w',SI C I Γ' c d b w'->Stp C f k j g Γ' d.hp w' c->∃V,(results fn b).run C.P w' = .ok V w'/\l (.returned V) w') :
  ∀(e:List Nat) (w:World),e.Nodup->(∀D∈e,j.heap.size<=D/\Off Γ' c w D/\w.heap[D]? = some (.deferred (some [])))->SI C I Γ' c d b w->Stp C f k j g Γ' d.hp w c->LeavesInM F n C.P fn b l (e.map mkD) .returning w
 | [],w,_,_,S,h=>t w S h
 | D::e,w,y,p,S,h=>by
  obtain⟨u,m,v⟩:=p D (by simp);refine⟨by simp,.inl ⟨D,w.putObj D (.deferred none),rfl,run_takeDeferred v,?_⟩⟩;have i:=ah1.1 y;refine Bx2 q t e _ i.2 (λE x=>?_) (S.offW q (We.put m)) (h.put u m);obtain⟨z,A,B⟩:=p E (by simp[x]);refine⟨z,A.put,(k9 ?_).trans B⟩;grind
def Le(hX:XOK C)(hO:Pe C)(hm:C.P.follows .mixedOrders=true):∀d,Cl C (evC C d)
 | 0=>λZ I J K D hy g args H s ret j k h=>by simp[evC] at h
 | d+1=>λZ I J K D hy g args H s ret j k h L Y w u S hH hg hi A G hn=>by
  have ih:=Le hX hO hm d;simp only[evC] at h;split at h
  ·rename_i fn P M;split at h
   ·rename_i c F;obtain⟨m,p⟩:=hO g fn c P M F;intro ro n o a next Q N
    rw[Py M F p];simp only[ab9];refine⟨λh=>(by simp[I4,ab1] at h),?_⟩;have key:CallsIn ab1 (n-1) C.P g u w λe i=>∃V,e = .returned V/\Eu C I L H w Y ret j k V i:=by
     refine callsIn_of_wp_marks M F trivial ?_;have S0:SI C I L Y { sl:=args++w8 (fn.ntmps-args.length) (.tup []),hp:=H,s:=s } (u++x7 (fn.ntmps-u.size) undef) w:=⟨hH,Da7 G hn,hg,hi,A⟩
     refine B45 (ro:=none) (rf:=true) (n:=n-1) (n0:=w.heap.size) (a:={ tmps:=u++x7 (fn.ntmps-u.size) undef,defers:=[] }) ⟨D,ih,hX,hy⟩ hm c (λ_=>rfl) m S h S0 (Mk.nil (j7 _)) ?_;intro o f y w' Γ' t T U q ⟨_,Ds,k4,k5,k6⟩
     suffices z:∀w',SI C I Γ' t f y.tmps w'->Stp C L H w Y Γ' f.hp w' t->FZ C f.sl f.hp fn.results.toList (λv=>some (Cu v,f.hp,f.s))=some (ret,j,k)->∃V,(results fn y.tmps).run C.P w' = .ok V w'/\∃x,ag9 V = .returned x/\Eu C I L H w Y ret j k x w' by
      have l:FZ C f.sl f.hp fn.results.toList (λv=>some (Cu v,f.hp,f.s))=some (ret,j,k)->LeavesInM (I4 none) (n-1) C.P fn y.tmps (λe i=>∃V,e = .returned V/\Eu C I L H w Y ret j k V i) y.defers .returning w':=λh=>by
       rw[k4];exact Bx2 D (λw' a b=>z w' a b h) Ds w' k5 k6 q U
      cases o with
      | normal=>exact l T
      | ret=>exact l T
      | exit id=>cases T
     intro w' q U;have z:∀(h:FZ C f.sl f.hp fn.results.toList (λv=>some (Cu v,f.hp,f.s))=some (ret,j,k)),∃V,(results fn y.tmps).run C.P w' = .ok V w'/\∃x,ag9 V = .returned x/\Eu C I L H w Y ret j k x w':=λh=>by
      obtain⟨v,Us,X,h2,h3,h4⟩:=Vi q.hr q.sr _ h;simp only[b8,v7] at X;obtain⟨rfl,rfl,rfl⟩:=X;refine⟨_,?_,_,rfl,Γ',t,U,q.hr,Di1 h3,λc G=>h4 c (An7 G),q.inv,q.dis⟩;rw[Bf8,ag1,h2];rfl
     omega
    have B:CallsIn (I4 ro) (n-1) C.P g u w λe i=>∃V,e = .returned V/\Eu C I L H w Y ret j k V i:=key
    refine B.mono ?_;grind
   ·cases h
  ·cases h
end
end
section
open Go Go.ChangeShapes Go.RowKit Go.WideShapes
inductive Ty where
 | bool
 | int (k:IntKind)
 | str
 | slice (e:List Ty)
 deriving Inhabited
def C40(P:Program)(f:Nat->Option (List Ty)):List Field->Nat->Option (List Ty)
 | [],_=>some []
 | x::r,off=>if x.offset==off then match f x.type with
   | some a=>if P.cellsOf x.type==a.length then match C40 P f r (off+a.length) with
    | some b=>some (a++b)
    | none=>none else none
   | none=>none else none
def Fk(P:Program):Nat->Nat->Option (List Ty)
 | 0,_=>none
 | d+1,t=>match P.underlying t with
  | some .bool=>some [.bool]
  | some (.int k)=>some [.int k]
  | some .string=>some [.str]
  | some (.slice e)=>match Fk P d e with
   | some a=>if P.cellsOf e==a.length&&decide (0<a.length) then some [.slice a] else none
   | none=>none
  | some (.struct b)=>match C40 P (Fk P d) b.toList 0 with
   | some r=>if P.cellsOf t==r.length then some r else none
   | none=>none
  | some (.array n e)=>match Fk P d e with
   | some a=>if P.cellsOf e==a.length&&P.cellsOf t==n*a.length then some (w8 n a).flatten else none
   | none=>none
  | _=>none
mutual
def Ty.of:Ty->SV->Prop
 | .bool,v=>∃b,v = .bool b
 | .int k,v=>∃n,v = .int k n/\k.min<=n/\n<=k.max
 | .str,v=>∃l,v = .str l/\l.length<=maxLen
 | .slice e,v=>v = .sl true false e.length []\/∃els,v = .sl false false e.length els/\els.length<=maxLen/\∀el∈els,Ty.ofL e el
def Ty.ofL:List Ty->List SV->Prop
 | [],l=>l=[]
 | t::r,l=>∃v q,l=v::q/\t.of v/\Ty.ofL r q
end
def Ty.ofL_len:∀{ts:List Ty} {l:List SV},Ty.ofL ts l->l.length=ts.length
 | [],l,h=>by simp only[Ty.ofL] at h;subst h;rfl
 | t::r,l,h=>by
  simp only[Ty.ofL] at h;obtain⟨v,q,rfl,_,hq⟩:=h;simp[Ty.ofL_len hq]
def Ty.ofL_append:∀{a b:List Ty} {x y:List SV},Ty.ofL a x->Ty.ofL b y->Ty.ofL (a++b) (x++y)
 | [],b,x,y,h,k=>by simp only[Ty.ofL] at h;subst h;exact k
 | t::r,b,x,y,h,k=>by
  simp only[Ty.ofL] at h;obtain⟨v,q,rfl,hv,hq⟩:=h;simp only[ad3,Ty.ofL];exact⟨v,q++y,rfl,hv,Ty.ofL_append hq k⟩
def CVS(St:Nat->Prop)(w:World)(l:List SV)(A:List Value):Prop:=A.length=l.length/\∀j (h:j<l.length),∃U,A[j]? = some U/\VS St w (l[j]) U
def CVS.append{St:Nat->Prop}{w:World}{x y:List SV}{X Y:List Value}(hx:CVS St w x X)(hy:CVS St w y Y):CVS St w (x++y) (X++Y):=by
 refine⟨by simp[hx.1,hy.1],λj hj=>?_⟩;by_cases h:j<x.length
 ·obtain⟨U,e,k⟩:=hx.2 j h;exact⟨U,by rw[List.getElem?_append_left (by rw[hx.1];exact h)];exact e,by rw[y8 h];exact k⟩
 ·obtain⟨U,e,k⟩:=hy.2 (j-x.length) (by simp at hj;omega);exact⟨U,by rw[List.getElem?_append_right (by rw[hx.1];omega),hx.1];exact e,by rw[List.getElem_append_right (by omega)];exact k⟩
def CVS.one{St:Nat->Prop}{w:World}{v:SV}{V:Value}(h:VS St w v V):CVS St w [v] [V]:=⟨rfl,λj hj=>by
 have:j=0:=by simpa using hj
 subst this;exact⟨V,rfl,h⟩⟩
def Cg0{w:World}{a:Addr}{V:Value}(h:w.cell? a=some V):a.spot=none/\a.block<w.heap.size:=by
 unfold aj5 at h;split at h
 ·rename_i c t e b;refine⟨?_,(o8.1 b).1⟩;cases d:a.spot with
  | none=>rfl
  | some x=>rw[d] at h;simp at h
 ·cases h
def Ag4{a:Addr}(h:a.spot=none)(n:Nat):a.add n=⟨a.block,a.off+n,none⟩:=by
 unfold Addr.add;split
 ·rename_i b;subst b;cases a;simp_all
 ·rfl
def Da1{a:Addr}{m n:Nat}(h:a.spot=none):(a.add m).add n=⟨a.block,a.off+m+n,none⟩:=by rw[Ag4 h,Ag4 rfl]
def TH{H:Type}{enc:TypeId × Value->H}{P:Program}{w:World}{base:Nat}{sp:Nat->Bool}{held:Bool}{f:Nat->Option (List Ty)}{m:Nat}
  (q:∀t c g x,f t=some c->ad7 enc P w base sp held m t g=some x->∃d,Ty.ofL c d/\CVS (· < w.heap.size) w d g) (g:List Value) :
  ∀(n:List Field) (off:Nat) (c:List Ty),C40 P f n off=some c->(∀(i:Nat) (fl:Field),n[i]? = some fl->∃y,ad7 enc P w base sp held m fl.type ((g.drop fl.offset).take (P.cellsOf fl.type))=some y)->
   ∃d,Ty.ofL c d/\CVS (· < w.heap.size) w d ((g.drop off).take c.length)
 | [],off,c,h,_=>by
  simp only[C40,b8] at h;subst h;exact⟨[],rfl,by simp,λj F=>by simp at F⟩
 | x::r,off,c,h,k=>by
  simp only[C40] at h;split at h
  ·rename_i l;simp only[beq_iff_eq] at l;split at h
   ·rename_i a B;split at h
    ·rename_i o;simp only[beq_iff_eq] at o;split at h
     ·rename_i b C;simp only[b8] at h;subst h;obtain⟨y,p⟩:=k 0 x rfl;rw[l,o] at p;obtain⟨G,u,v⟩:=q _ _ _ _ B p;obtain⟨I,z,A⟩:=TH q g r _ b C (λi fl D=>k (i+1) fl (by simpa using D));refine⟨G++I,Ty.ofL_append u z,?_⟩;have:=v.append A;have e:(g.drop off).take (a++b).length=(g.drop off).take a.length++(g.drop (off+a.length)).take b.length:=by
       rw[w9,ai2,ah5]
      rw[e];exact this
     ·cases h
    ·cases h
   ·cases h
  ·cases h
def Ag5{H:Type}{enc:TypeId × Value->H}{P:Program}{w:World}{base:Nat}{sp:Nat->Bool}{held:Bool}{e m:Nat}{a:List Ty}(c:List Value)
  (g:∀c x,ad7 enc P w base sp held m e c=some x->∃b,Ty.ofL a b/\CVS (· < w.heap.size) w b c) (f:P.cellsOf e=a.length) :
  ∀(n k:Nat),(∀i,k<=i->i<k+n->∃y,ad7 enc P w base sp held m e ((c.drop (i*P.cellsOf e)).take (P.cellsOf e))=some y)->
   ∃b,Ty.ofL (w8 n a).flatten b/\CVS (· < w.heap.size) w b ((c.drop (k*a.length)).take (n*a.length))
 | 0,k,_=>⟨[],by simp[Ty.ofL],by simp,λj r=>by simp at r⟩
 | n+1,k,hall=>by
  obtain⟨y,t⟩:=hall k (j7 _) (by omega);obtain⟨u,h,d⟩:=g _ _ t;obtain⟨v,l,o⟩:=Ag5 c g f n (k+1) (λi p q=>hall i (by omega) (by omega));rw[f] at d;refine⟨u++v,?_,?_⟩
  ·rw[List.replicate_succ,List.flatten_cons];exact Ty.ofL_append h l
  ·have:=d.append o;have e:(c.drop (k*a.length)).take ((n+1)*a.length)=(c.drop (k*a.length)).take a.length++(c.drop ((k+1)*a.length)).take (n*a.length):=by
    rw[show(n+1)*a.length=a.length+n*a.length by rw[Nat.add_mul,Nat.one_mul,ai6],ai2,ah5,show k*a.length+a.length=(k+1)*a.length by rw[Nat.add_mul,Nat.one_mul]]
   rw[e];exact this
def HA{H:Type}{enc:TypeId × Value->H}{P:Program}{w:World}{base:Nat}{sp:Nat->Bool}{held:Bool}:∀(n t:Nat) (q:List Ty) (m:Nat) (C:List Value) (x:DataW H × List MemPlace),Fk P n t=some q->
  ad7 enc P w base sp held m t C=some x->∃p,Ty.ofL q p/\CVS (· < w.heap.size) w p C
 | 0,t,q,m,C,x,h,_=>by simp[Fk] at h
 | n+1,t,q,m,C,x,h,hd=>by
  simp only[Fk] at h;split at h
  ·rename_i B;simp only[b8] at h;subst h;obtain⟨b,rfl,_⟩:=DataW.trod_bool B hd;exact⟨[.bool b],by simp[Ty.ofL,Ty.of],CVS.one (.bool b)⟩
  ·rename_i k B;simp only[b8] at h;subst h;obtain⟨b,rfl,_,S⟩:=DataW.trod_int B hd;simp only[Lit.wf,j0,decide_eq_true_eq] at S;exact⟨[.int k b],by simp[Ty.ofL,Ty.of,S],CVS.one (.int k b)⟩
  ·rename_i B;simp only[b8] at h;subst h;obtain⟨b,rfl,_,S⟩:=DataW.trod_string B hd;exact⟨[.str b.data.toList],by simpa[Ty.ofL,Ty.of] using S,CVS.one (.str b)⟩
  ·rename_i e B;split at h
   ·rename_i a V;split at h
    ·rename_i F;simp only[j0,beq_iff_eq,decide_eq_true_eq] at F;simp only[b8] at h;subst h;rcases DataW.trod_slice B hd with⟨rfl,_⟩|⟨g,len,cap,T,a1,Q,_,rfl,_,hb,hl,hm,G,D,_,_⟩
     ·exact⟨[.sl true false a.length []],by simp[Ty.ofL,Ty.of],CVS.one (.nil _ _)⟩
     ·have v:∀i,i<len->∃M d,w.cells? base (g.add (i*a.length)) a.length=some d/\Ty.ofL a M/\CVS (· < w.heap.size) w M d:=λi f=>by
       have u:=D i f;rw[b9 (by omega),F.1,Option.bind_eq_some_iff] at u;obtain⟨d,o,K⟩:=u;obtain⟨M,h4,h5⟩:=HA n e a Q d _ V K;exact⟨M,d,o,h4,h5⟩
      by_cases h0:len=0
      ·subst h0;exact⟨[.sl false false a.length []],by simp[Ty.ofL,Ty.of],CVS.one (.emp _ _ _ _ (by simp) hm)⟩
      ·let c:List (List SV):=(ah8 len).attach.map λi=>ad2 (v i.1 (ah7.1 i.2))
       have N:c.length=len:=by simp[c]
       have l:∀i (f:i<c.length),∃d,w.cells? base (g.add (i*a.length)) a.length=some d/\Ty.ofL a (c[i])/\CVS (· < w.heap.size) w (c[i]) d:=λi f=>by
        have z:i<len:=by omega
        have e:c[i]=ad2 (v i z):=by simp[c]
        rw[e];exact ae2 (v i z)
       have A:g.spot=none/\g.block<w.heap.size:=by
        obtain⟨d,u,o,K⟩:=l 0 (by omega);obtain⟨_,Y,J⟩:=ag2 u;have:=J 0 F.2;rw[b9 (by omega)] at this;simp only[ai8,Addr.add,if_true] at this;exact Cg0 this
       have D:∀i (f:i<c.length),(c[i]).length=a.length:=λi f=>by
        obtain⟨d,u,o,K⟩:=l i f;exact Ty.ofL_len o
       have y:∀i (f:i<c.length) j (I:j<(c[i]).length),∃U,w.cell? ⟨g.block,g.off+i*a.length+j,none⟩=some U/\VS (· < w.heap.size) w (c[i][j]) U:=λi f j I=>by
        obtain⟨d,u,o,K⟩:=l i f;obtain⟨_,Y,J⟩:=ag2 u;have X:j<a.length:=by rw[<-D i f];exact I
        obtain⟨U,L,R⟩:=K.2 j I;refine⟨U,?_,R⟩;rw[<-L,<-J j X,Da1 A.1]
       refine⟨[.sl false false a.length c],?_,CVS.one ?_⟩
       ·simp only[Ty.ofL,Ty.of];refine⟨_,[],rfl,.inr ⟨c,rfl,by omega,λM a0=>?_⟩,rfl⟩;obtain⟨i,f,rfl⟩:=List.getElem_of_mem a0;obtain⟨d,u,o,K⟩:=l i f;exact o
       ·have e:g=⟨g.block,g.off,none⟩:=by cases g;simp_all
        rw[e];refine .sl false c g.block g.off len cap a.length (λi j=>(w.cell? ⟨g.block,g.off+i*a.length+j,none⟩).getD undef) N.symm hl hm (by simp) A.2 D (λi f j I=>?_) (λi f j I=>?_)
        ·obtain⟨U,L,R⟩:=y i f j I;rw[L];rfl
        ·obtain⟨U,L,R⟩:=y i f j I;rw[L];exact R
    ·cases h
   ·cases h
  ·rename_i fs B;split at h
   ·rename_i r hr;split at h
    ·rename_i F;simp only[beq_iff_eq] at F;simp only[b8] at h;subst h;obtain⟨xs,Q,_,_,G,O,W⟩:=DataW.trod_struct B hd;obtain⟨p,u,o⟩:=TH (λt q C x=>HA n t q Q C x) C fs.toList 0 r hr (λi fl f=>by
      have z:fs[i]? = some fl:=by simpa using f
      have:=W i fl z;have Z:i<xs.length:=by rw[O];exact(o8.1 z).1
      rw[b9 Z] at this;exact⟨_,this⟩)
     refine⟨p,u,?_⟩;rw[ae7,ad8 (by omega)] at o;exact o
    ·cases h
   ·cases h
  ·rename_i k e B;split at h
   ·rename_i a V;split at h
    ·rename_i F;simp only[j0,beq_iff_eq] at F;simp only[b8] at h;subst h;obtain⟨xs,Q,_,_,G,O,W⟩:=DataW.trod_array B hd;obtain⟨p,u,o⟩:=Ag5 C (λC x=>HA n e a Q C x V) F.1 k 0 (λi _ f=>by
      have:=W i (by omega);rw[b9 (by omega)] at this;exact⟨_,this⟩)
     refine⟨p,u,?_⟩;rw[ai8,ae7,ad8 (by omega)] at o;exact o
    ·cases h
   ·cases h
  ·cases h
def On(P:Program)(t:Nat):Bool:=match P.underlying t with
 | some (.struct _)=>true
 | some (.array _ _)=>true
 | _=>false
def Sv(P:Program)(t:Nat)(v:PV):Prop:=∃a l,Fk P 20 t=some a/\Ty.ofL a l/\((On P t=true/\v = .agg (l.map .s))\/(On P t=false/\∃x,l=[x]/\v = .s x))
def Md(P:Program):List Nat->List PV->Prop
 | [],l=>l=[]
 | t::r,l=>∃v q,l=v::q/\Sv P t v/\Md P r q
def Sv.nms{P:Program}{t:Nat}{v:PV}(h:Sv P t v):v.nms=[]:=by
 obtain⟨tys,l,_,_,h⟩:=h;rcases h with⟨_,rfl⟩|⟨_,x,_,rfl⟩
 ·simp only[PV.nms];rw[v8];intro c hc;obtain⟨j,hj,hc⟩:=C1.1 hc;simp[PV.nms] at hc
 ·rfl
def Md.nms{P:Program}:∀{ts:List Nat} {l:List PV},Md P ts l->C9 l=[]
 | [],l,h=>by simp only[Md] at h;subst h;rfl
 | t::r,l,h=>by
  simp only[Md] at h;obtain⟨v,q,rfl,h1,h2⟩:=h;simp[C9,h1.nms,h2.nms]
section
variable {H : Type} {enc : TypeId × Value -> H} {P : Program} {w : World}
def Dh8{v:Value}{r:Reach}{b:Nat}{t:Nat}(e:On P t=false)(Pa:aa7 P w r b t v):∀a,v = .agg a->False:=by
 rintro a rfl;simp only[aa7,Cell.okWide] at Pa;unfold On at e;split at Pa
 ·grind
 ·grind
 ·revert Pa
  cases c:P.underlying t with
  | none=>simp[Cell.ok,c]
  | some d=>cases d<;>simp[Cell.ok,c]
def Cx4{Γ:Ctx}{sh:Nat->Option Shp}{sp:Nat->Bool}{held:Bool}{r:Reach}{b y t:Nat}{v:Value}{d:DataW H}{F:List MemPlace}(hΓ:∀g,g<w.heap.size->Γ.St g)(i:(Fk P 20 t).isSome=true)(Pa:aa7 P w r b t v)(A:DataW.Trod enc P w y sp held t v d F) :
  ∃u,Sv P t u/\VP Γ sh w u v:=by
 obtain⟨c,p⟩:=p4.1 i;obtain⟨m,D⟩:=A;obtain⟨a,q,f⟩:=HA 20 t c m _ _ p D;have lift:∀{x:SV} {V:Value},VS (· < w.heap.size) w x V->VS Γ.St w x V:=λh=>h.mono (λ_ _=>rfl) hΓ
 cases n:On P t with
 | true=>
  refine⟨.agg (a.map .s),⟨c,a,p,q,.inl ⟨n,rfl⟩⟩,?_⟩;have:∃l,v = .agg l:=by
   unfold On at n;simp only[aa7] at Pa;grind
  obtain⟨l,rfl⟩:=this;simp only[Value.cells] at f;refine VP.mk_agg (by simpa using f.1) λj B=>?_
  have o:j<a.length:=by simpa using B
  obtain⟨U,e,k⟩:=f.2 j o;exact⟨U,by simpa using e,by rw[j9];exact .s _ _ (lift k)⟩
 | false=>
  have z:v.cells = #[v]:=by
   have:=Dh8 n Pa;cases v with
   | agg l=>exact(this l rfl).elim
   | _=>rfl
  rw[z] at f;have C:a.length=1:=by have:=f.1;simpa using this.symm
  obtain⟨x,rfl⟩:∃x,a=[x]:=by
   match a,C with
   | [x],_=>exact⟨x,rfl⟩
  obtain⟨U,e,k⟩:=f.2 0 (by simp);simp only[ad4,b8] at e;subst e;exact⟨.s x,⟨c,[x],p,q,.inr ⟨n,x,rfl,rfl⟩⟩,.s _ _ (lift k)⟩
def SL{Γ:Ctx}{sh:Nat->Option Shp}{sp:Nat->Bool}{held:Bool}{r:Reach}{b x:Nat}(hΓ:∀g,g<w.heap.size->Γ.St g):∀(f:List Nat) (i:List Value) (ds:List (DataW H)) (n:List MemPlace),(∀t∈f,(Fk P 20 t).isSome=true)->(∀(j:Nat) t v,f[j]? = some t->i[j]? = some v->aa7 P w r b t v)->ac3 enc P w x sp held f i ds n->
  ∃a,Md P f a/\i.length=a.length/\ds.length=f.length/\∀j (h:j<a.length),∃U,i[j]? = some U/\VP Γ sh w (a[j]) U
 | [],i,ds,n,_,_,h=>by
  obtain⟨rfl,rfl,_⟩:=trodAll_nil h;exact⟨[],rfl,rfl,rfl,λj l=>by simp at l⟩
 | t::f,i,ds,n,c,Pa,h=>by
  obtain⟨v,o,d,m,p,q,rfl,rfl,rfl,C,D⟩:=trodAll_cons h;obtain⟨u,I,J⟩:=Cx4 (Γ:=Γ) (sh:=sh) hΓ (c t (by simp)) (Pa 0 t v rfl rfl) C;obtain⟨a,y,z,A,B⟩:=SL (Γ:=Γ) (sh:=sh) hΓ f o m q (λt F=>c t (by simp[F])) (λj t v l G=>Pa (j+1) t v (by simpa using l) (by simpa using G)) D;refine⟨u::a,⟨u,a,rfl,I,y⟩,by simp[z],by simp[A],λj l=>?_⟩;cases j with
  | zero=>exact⟨v,rfl,J⟩
  | succ j=>
   obtain⟨U,e,k⟩:=B j (by simpa using l);grind
def JV(g:laidOutB P=true){w':World}{ts:List Nat}{vs:List Value}{ds:List (DataW H)}{ps:List MemPlace}:∀{ts:List Nat} {vs:List Value} {ds:List (DataW H)} {ps:List MemPlace},(∀t∈ts,P.readableRec t=true/\t<P.types.size)->ac3 enc P w 0 (λ_=>true) true ts vs ds ps->(∀x∈ps,w.sameAt w' x)->∀sp:Nat->Bool,(∀x∈ps,sp x.block=true)->
  ac3 enc P w' 0 sp true ts vs ds ps
 | [],vs,ds,ps,_,h,_,sp,_=>by
  obtain⟨rfl,rfl,rfl⟩:=trodAll_nil h;exact trodAll_mk0
 | t::ts,vs,ds,ps,e,h,i,sp,b=>by
  obtain⟨v,f,d,c,p,q,rfl,rfl,rfl,j,k⟩:=trodAll_cons h;refine⟨p,q,WideElems.Trod_stays g (e t (by simp)).1 (e t (by simp)).2 j (λx a=>i x (by simp[a])) (λx a=>b x (by simp[a])),JV g (w':=w') (ts:=ts) (vs:=f) (ds:=c) (ps:=q) (λt l=>e t (by simp[l])) k (λx a=>i x (by simp[a])) sp (λx a=>b x (by simp[a])),rfl⟩
def OX{f:Func}{s:ChangeSpec}{c fresh d k:Bool}{W m:World}{args:Array Value}{v:Value}{ds n:List (DataW H)}{a pa pv:List MemPlace}
  (u:ai9 enc P f.params.toList s.vars c W args.toList ds n a)
  (i:∀(b:Nat) (sp:Nat->Bool) (B:Bool),ac3 enc P m b sp B f.resultTypes.toList (v.resultList f.resultTypes.size) (s.fn H (ds++n)).results [])
  (e:∀sp:Nat->Bool,(∀p∈a,sp p.block=true)->ac3 enc P m 0 sp true f.params.toList args.toList (s.fn H (ds++n)).args pa)
  (g:∀sp:Nat->Bool,(∀p∈a,sp p.block=true)->DataW.TrodVars enc P m sp s.vars (s.fn H (ds++n)).vars pv)
  (l:a=pa++pv) (z:Below W.heap.size W m)
  (y:∀(j:Nat) (t:TypeId) (r:Value),f.resultTypes[j]? = some t->(v.resultList f.resultTypes.size)[j]? = some r->aa7 P m .any 0 t r) :
  s.post enc P f c fresh d k W args v m:=by
 have h:∀p∈a,(λb=>decide (b<W.heap.size)) p.block=true:=λp o=>by simpa using u.lt p o
 refine⟨ds,n,a,[],pa,pv,u,i _ _ _,e _ h,g _ h,z.frame _,λ_=>?_⟩;have x:=u.lt;obtain⟨_,_,_,_,_,D,C⟩:=u;refine⟨y,_,_,([]++pa)++pv,⟨[]++pa,pv,trodAll_append (e _ (λ_ _=>rfl)) (i _ _ _),g _ (λ_ _=>rfl),rfl,?_,?_⟩,?_⟩
 ·intro b off o;have q:MemPlace.cell b off∈a:=by rw[l];simpa using o
  rw[z.frozen (x _ q)];exact D b off q
 ·intro A;have:=C A;rw[l] at this;simpa using this
 ·intro p o _;rw[l];simpa using o
end
def Bp2{P:Program}{f:Nat}{a:Array Value}{w:World}{R:Value->World->Prop}(b:(callFunc f a).run P w = .ok (.enter f a) w)(h:U5 P ((callFunc f a).run P w) R):Calls P f a w λe w'=>∃V,e = .returned V/\R V w':=by
 rw[b] at h;have:=h none 1 { op:=.move (.const undef),dst:=some 0,guard:=none,type:=0,after:=#[],pos:=default } { tmps:=#[undef],defers:=[] } (λg w'=>∃V,g.tmps[0]? = some V/\R V w') (λ_ _ _=>False) (λV w' k=>⟨V,by simp[af5],k⟩);rw[ab9] at this;have j:CallsIn ab1 0 P f a w _:=this.2;refine(callsIn_wide.1 j).mono λe w' d=>?_
 cases e with
 | returned v=>
  obtain⟨V,i,l⟩:=d;simp[af5] at i;grind
 | panicked c=>exact d.elim
 | outgrown=>obtain⟨_,_,h⟩:=d;exact h.elim
def noY:Yh Unit:=λ_ _=>none
def Cp4{H:Type}{enc:TypeId × Value->H}{C:Cfg}{f R:Nat}{fn:Func}{c:Code}{s:ChangeSpec}{apart fresh handsOn again:Bool}(hX:XOK C)(hO:Pe C)(hm:C.P.follows .mixedOrders=true)(hl:laidOutB C.P=true)(I:C.P.funcs[f]? = some fn)(hb:fn.body=some c)(r:(fn.name == "runtime.NumGoroutine")=false)
  (Q:∀t∈fn.params.toList,(C.P.readableRec t=true/\t<C.P.types.size)/\(Fk C.P 20 t).isSome=true) (n:fn.resultTypes = #[R]) (a:C.P.underlying R=some .bool) (i:s.vars=[])
  (y:∀ds:List (DataW H),ds.length=fn.params.toList.length->s.fn H ds = { results:=[.lit (.bool true)],args:=ds })
  (G:∀args,Md C.P fn.params.toList args->∃d D,evC C d Unit noY f args [] ()=some (.s (.bool true),D,()))
  (W:World) (Z:GOK C (· < W.heap.size) W) (base:Nat) (args:Array Value) (ds S:List (DataW H)) (l:List MemPlace)
  (Pa:∀(j:Nat) t v,fn.params[j]? = some t->args[j]? = some v->aa7 C.P W .any base t v)
  (O:ai9 enc C.P fn.params.toList s.vars apart W args.toList ds S l) :
  Calls C.P f args W λe F=>∃v,e = .returned v/\s.post enc C.P fn apart fresh handsOn again W args v F:=by
 have o:=O;obtain⟨p,q,hA,hV,rfl,a0,a1⟩:=O;rw[i] at hV;obtain⟨rfl,rfl⟩:=trodVars_none hV;let Γ:Ctx:={ St:=(· < W.heap.size),nm:=λ_=>none,yv:=.nilFunc,yv1:=rfl }
 obtain⟨B,N,T,X,Y⟩:=SL (Γ:=Γ) (sh:=A5 []) (λ_ h=>h) fn.params.toList args.toList ds p (λt L=>(Q t L).2) (λj t v J M=>Pa j t v (by simpa using J) (by simpa using M)) hA;obtain⟨d,D,P⟩:=G B N;have hS:=Le hX hO hm d Unit I0 noY .nilFunc Cj9 Ck0 f B [] () _ D () P Γ noΦ W args rfl (Ml (λ_=>rfl) (λ_ h=>h)) Z (λ_ h=>h) (λb g h=>by cases h)
  ⟨by rw[<-ac6];exact T,λj J=>by obtain⟨U,e,k⟩:=Y j J;exact⟨U,by simpa using e,k⟩⟩ (by rw[N.nms];simp)
 refine(Bp2 (Py I hb r) hS).mono ?_;rintro e F ⟨V,rfl,Γ',Φ',z,hH,M,_⟩;have hV:=M.inv_bool;subst hV;have m:Below W.heap.size W F:=⟨z.os,z.tape,z.output,z.size,λk hk=>z.frame k hk (λb=>by simp[Γ]) (λx=>x)⟩
 simp only[x8] at o;refine⟨_,rfl,?_⟩;have u:=y ds X;have K:=o.lt;refine OX (pa:=p) (pv:=[]) o (λb sp P=>?_) (λsp A=>?_) (λsp _=>?_) (by simp) m ?_
 ·rw[x8,u,n];exact trodAll_cons_mk (shut_bool a _) trodAll_mk0
 ·rw[x8,u];exact JV hl (w:=W) (ts:=fn.params.toList) (vs:=args.toList) (ds:=ds) (ps:=p) (λt L=>(Q t L).1) hA (λx hx=>m.same (K x hx)) sp A
 ·rw[x8,u,i];rfl
 ·exact ok_one n rfl (okWide_bool_mk a _)
end
section
open Go
def B4(P:Program)(G:GT)(g:Nat)(pf:List PV->Tr):Prop:=
 ∀args ret c,M9 (pf args)=some (ret,c)->∀C:Cfg,C.P=P->C.G=G->∀a w d,(∀b,a.nm b=none)->HR a [] w->GOK C a.St w->CR a (A5 []) w args d->
  U5 P ((callFunc g d).run P w) (Eu C I0 a [] w noΦ ret c ())
def Rg{C₀:Cfg}{g:Nat}{pf:List PV->Tr}(y:XOK C₀)(x:Pe C₀)(B:C₀.P.follows .mixedOrders=true)
  (h:∀args ret c,M9 (pf args)=some (ret,c)->C9 args=[]/\∃d,evC C₀ d Unit noY g args [] ()=some (ret,c,())):B4 C₀.P C₀.G g pf:=by
 intro args ret c o C F f p w t n v u A;obtain⟨m,d,k⟩:=h args ret c o;have e:GOK C₀ p.St w:=u.congr f.symm;refine(Le y x B d Unit I0 noY p.yv Cj9 Ck0 g args [] () ret c () k p noΦ w t rfl v e (λ_ h=>h) (λb g h=>by rw[n] at h;cases h) A (by rw[m];simp)).mono ?_;rintro V w' ⟨q,r,a,i,D,hvn,l,j⟩;exact⟨q,r,⟨a.os,a.tape,a.output,a.size,a.sub,a.stnew,a.own,a.foot,a.frame,a.yv,a.len,λb z=>by simp at z⟩,i,D,hvn,l,j⟩
def Tr.snap:Tr->Tr
 | .ret v H=>cond (v.snap H).nms.isEmpty (.ret (v.snap H) []) .fail
 | .need c t=>.need c t.snap
 | .split c a b=>.split c a.snap b.snap
 | .fail=>.fail
def Tr.snap_res:∀{t:Tr} {v:PV} {H:List Blk},M9 t.snap=some (v,H)->∃v' H',M9 t=some (v',H')/\v=v'.snap H'/\H=[]/\v.nms=[]
 | .ret v' H',v,H,h=>by
  simp only[Tr.snap] at h;cases he:(v'.snap H').nms.isEmpty with
  | false=>rw[he] at h;cases h
  | true=>
   rw[he] at h;simp only[cond_true,M9,Io,b8,v7] at h;obtain⟨rfl,rfl⟩:=h;exact⟨v',H',rfl,rfl,rfl,aa6.1 he⟩
 | .need c t,v,H,h=>by
  cases c with
  | true=>exact Tr.snap_res (t:=t) h
  | false=>cases h
 | .split c a b,v,H,h=>by
  cases c with
  | true=>exact Tr.snap_res (t:=a) h
  | false=>exact Tr.snap_res (t:=b) h
 | .fail,_,_,h=>by cases h
def B4.snap{P:Program}{G:GT}{g:Nat}{pf:List PV->Tr}(h:B4 P G g pf):B4 P G g (λargs=>(pf args).snap):=by
 intro args ret Hc hpf C hP hGe Γ w Vs hnm hH hG hc;obtain⟨ret',Hc',hpf',rfl,rfl,hnr⟩:=Tr.snap_res hpf;refine(h args ret' Hc' hpf' C hP hGe Γ w Vs hnm hH hG hc).mono ?_;rintro V w' ⟨Γ1,Φ1,hs,hH1,hv,hvn,hi1,hd1⟩;let Γ2:Ctx:={ Γ1.all with nm:=λ_=>none }
 have hlt:∀g,Γ2.St g->g<w'.heap.size:=λg hg=>by
  rcases hg with hg|⟨b,hb⟩
  ·exact hH1.stlt g hg
  ·exact(hH1.lt b g hb).2.1
 refine⟨Γ2,Φ1,⟨hs.os,hs.tape,hs.output,hs.size,λg hg=>.inl (hs.sub g hg),λg hg=>?_,λb g h=>by simp[Γ2] at h,hs.foot,hs.frame,hs.yv,j7 _,λb hb=>by simp at hb⟩,
  Ml (λ_=>rfl) hlt,?_,by rw[hnr];simp,hi1,λb g h=>by simp[Γ2] at h⟩
 ·rcases hg with hg|⟨b,hb⟩
  ·exact hs.stnew g hg
  ·rcases hs.own b g hb with⟨h',_⟩|h'
   all_goals grind
 ·exact VP.mono (Γ:=Γ1.all) (Γ':=Γ2) (w:=w') (w':=w') (sh:=A5 Hc') (ok:=λ_=>False) ⟨λ_ _=>rfl,λ_ h=>h,λ_ h=>h.elim,λ_ h=>h.elim,λ_ _ h=>h.elim,rfl⟩ (hv.snap hH1) (by rw[hnr];simp)
def Aw5:List (Nat × (List PV->Tr))->Nat->Option (List PV->Tr)
 | [],_=>none
 | (g,a)::r,n=>cond (p9 n g) (some a) (Aw5 r n)
def N3(P:Program)(G:GT):List (Nat × (List PV->Tr))->Prop
 | []=>True
 | (g,a)::r=>B4 P G g a/\N3 P G r
def N3.x1{C:Cfg}{l:List (Nat × (List PV->Tr))}(hl:C.X=Aw5 l)(h:N3 C.P C.G l):D62 C:=by
 intro g pf args ret Hc hg hpf Γ w Vs hnm hH hG hc;rw[hl] at hg;have key:∀l:List (Nat × (List PV->Tr)),N3 C.P C.G l->Aw5 l g=some pf->B4 C.P C.G g pf:=by
  intro l
  induction l with
  | nil=>intro _ h;cases h
  | cons e r ih=>
   intro h1 h2;obtain⟨n,q⟩:=e;simp only[Aw5] at h2;cases hb:p9 g n with
   | true=>
    rw[hb] at h2;simp only[cond_true,b8] at h2;have:=p5 hb;subst this;subst h2;exact h1.1
   | false=>
    rw[hb] at h2;exact ih h1.2 h2
 exact key l h hg args ret Hc hpf C rfl rfl Γ w Vs hnm hH hG hc
def LH{C a:Cfg}(h:C.P=a.P):Mv C=Mv a:=by
 funext s
 unfold Mv;split
 ·simp only[Qc,Cfg.sh,h]
 ·rfl
 ·rfl
def Stp.congr{C C':Cfg}(h:C.P=C'.P){Γ Γ':Ctx}{H H':List Blk}{w w':World}{Φ Φ':Nat->Prop}(s:Stp C Γ H w Φ Γ' H' w' Φ'):Stp C' Γ H w Φ Γ' H' w' Φ':=
 ⟨s.os,s.tape,s.output,s.size,s.sub,s.stnew,s.own,s.foot,s.frame,s.yv,s.len,λb hb hf=>s.keep b hb (by rw[LH h];exact hf)⟩
def DW(P:Program)(G:GT)(g:Nat)(i:List PV->List Blk->Tr):Prop:=
 ∀C:Cfg,C.P=P->C.G=G->∀(Z:Type) (I:Z->(Nat->Prop)->(Nat->Prop)->World->Prop) (j:Yh Z) (h:Value),HI I->A15 P I j h->
  ∀args H s ret e,M9 (i args H)=some (ret,e)->∀a d w f,a.yv=h->HR a H w->GOK C a.St w->I s a.St d w->(∀b g,a.nm b=some g->¬d g)->CR a (A5 H) w args f->(∀c∈C9 args,c<H.length)->
   U5 P ((callFunc g f).run P w) (Eu C I a H w d ret e s)
def Br7(P:Program)(G:GT)(g:Nat)(j:List PV->List Blk->Option (Bool × List (List PV))):Prop:=
 ∀C:Cfg,C.P=P->C.G=G->∀(Z:Type) (I:Z->(Nat->Prop)->(Nat->Prop)->World->Prop) (h:Yh Z) (i:Value),HI I->A15 P I h i->
  ∀args H L s f,j args H=some (true,L)->H.all RM=true->Ej h L s=some f->∀a d w e,a.yv=i->HR a H w->GOK C a.St w->I s a.St d w->(∀b g,a.nm b=some g->¬d g)->CR a (A5 H) w args e->(∀c∈C9 args,c<H.length)->
   U5 P ((callFunc g e).run P w) (Eu C I a H w d (.tup []) (H.map La) f)
def Co8{C o:Cfg}{Z:Type}{I:Z->(Nat->Prop)->(Nat->Prop)->World->Prop}{S:Ctx}{H B:List Blk}{w w':World}{Φ:Nat->Prop}{s':Z}{V:Value}(hP:o.P=C.P)(hb:H.all RM=true)(hH:HR S H w)(h:Eu o I S H w Φ (.tup []) B s' V w'):Eu C I S H w Φ (.tup []) (H.map La) s' V w':=by
 obtain⟨n,T,l,G,k2,k3,k4,k5⟩:=h;have z:∀b g,(if b<H.length then n.nm b else none)=some g->b<H.length/\n.nm b=some g:=λb g h=>by grind
 have p:(H.map La).length=H.length:=y5 _;refine⟨{ n with nm:=λb=>if b<H.length then n.nm b else none },T,⟨l.os,l.tape,l.output,l.size,l.sub,l.stnew,λb g v=>l.own b g (z b g v).2,l.foot,l.frame,l.yv,by rw[p];exact j7 _,λb f hf=>?_⟩,
  ⟨λb U g K M=>G.inj b U g (z b g K).2 (z U g M).2,λb g v=>?_,G.stlt,λb f c Y=>?_,λb f=>?_⟩,?_,by simp[PV.nms,C9],k4,λb g v=>k5 b g (z b g v).2⟩
 ·obtain⟨m1,Q,R⟩:=l.keep b f (by rw[LH hP];exact hf);refine⟨by simp only;rw[if_pos f];exact m1,?_,R⟩;simp only[A5,af8];cases H[b]? with
  | none=>rfl
  | some x=>exact congrArg some (QK x)
 ·obtain⟨q1,q2⟩:=z b g v;have:=G.lt b g q2;grind
 ·rw[j9,QJ] at Y;simp at Y
 ·rw[p] at f;rw[j9];have k:=j8.1 hb _ (j5 f);have X:=hH.blk b f;cases r:H[b] with
  | box cells=>
   rw[r] at X;obtain⟨g,a0,e,K,M,W,_⟩:=X;obtain⟨m1,Q,R⟩:=l.keep b f (by simp only[A5,b9 f,r];exact trivial);have y:b<B.length:=j4 f l.len;have u:=G.blk b y;have i:(B[b]).shp = .box:=by
    simp only[A5,b9 f,b9 y,ae0,b8] at Q;rw[Q,r];rfl
   cases F:B[b] with
   | box D=>
    rw[F] at u;obtain⟨J,m,e',L,t,a1,a2⟩:=u;have N:J=g:=by grind
    subst N;have q:=R J K;simp only[World.shape?,M,t,b8,v7] at q;refine⟨J,m,e',by simp only;rw[if_pos f];exact L,t,by rw[q.2,W];simp,λj O=>?_⟩;have P:j<m.size:=by rw[q.2,W];simpa using O
    exact⟨m[j],aa8 P,by rw[j9];exact .bad _⟩
   | arr a b c d=>rw[F] at i;cases i
   | iter a b=>rw[F] at i;cases i
   | dead=>rw[F] at i;cases i
  | arr a b c d=>rw[r] at k;cases k
  | iter a b=>rw[r] at k;cases k
  | dead=>rw[r] at k;cases k
 ·obtain⟨A,rfl,hA,a3⟩:=k2.inv_tup;exact VP.mk_tup hA λj O=>by simp at O
def Au6{C₀:Cfg}{g:Nat}{m:List PV->List Blk->Option (Bool × List (List PV))}(t:XOK C₀)(q:Pe C₀)(z:C₀.P.follows .mixedOrders=true)
  (h:∀args H L,m args H=some (true,L)->∀(Z:Type) (e:Yh Z) (s c:Z),Ej e L s=some c->∃d f,evC C₀ d Z e g args H s=some (.tup [],f,c)):Br7 C₀.P C₀.G g m:=by
 intro C r o Z I e F p D args H L s c j u b G J w n k l x y a v A;obtain⟨d,f,i⟩:=h args H L j Z e s c b;exact(Le t q z d Z I e F p D g args H s _ f c i G J w n k l (x.congr o.symm) y a v A).mono λV w' B=>Co8 r.symm u l B
def DM{a:Type}:List (Nat × a)->Nat->Option a
 | [],_=>none
 | (g,b)::r,n=>cond (p9 n g) (some b) (DM r n)
def OA{b:Type}:∀{l:List (Nat × b)} {g:Nat} {a:b},DM l g=some a->(g,a)∈l
 | [],_,_,h=>by cases h
 | (n,q)::r,g,a,h=>by
  simp only[DM] at h;cases c:p9 g n with
  | true=>
   simp_all
  | false=>
   rw[c] at h;exact ae8 _ (OA h)
def Pn(P:Program)(G:GT):List (Nat × (List PV->List Blk->Tr))->Prop
 | []=>True
 | (g,a)::r=>DW P G g a/\Pn P G r
def Pf(P:Program)(G:GT):List (Nat × (List PV->List Blk->Option (Bool × List (List PV))))->Prop
 | []=>True
 | (g,a)::r=>Br7 P G g a/\Pf P G r
def Pn.mem{P:Program}{G:GT}:∀{l:List (Nat × (List PV->List Blk->Tr))} {g:Nat} {pf:List PV->List Blk->Tr},Pn P G l->(g,pf)∈l->DW P G g pf
 | [],_,_,_,hm=>by simp at hm
 | (n,q)::r,g,pf,h,hm=>by
  rcases x6.1 hm with e|hm
  ·cases e;exact h.1
  ·exact Pn.mem h.2 hm
def Pf.mem{P:Program}{G:GT}:∀{l:List (Nat × (List PV->List Blk->Option (Bool × List (List PV))))} {g:Nat} {pf:List PV->List Blk->Option (Bool × List (List PV))},Pf P G l->(g,pf)∈l->Br7 P G g pf
 | [],_,_,_,hm=>by simp at hm
 | (n,q)::r,g,pf,h,hm=>by
  rcases x6.1 hm with e|hm
  ·cases e;exact h.1
  ·exact Pf.mem h.2 hm
def Pn.ok{C:Cfg}{l:List (Nat × (List PV->List Blk->Tr))}(hl:C.Y=DM l)(h:Pn C.P C.G l):Cl C (clY C):=by
 intro Z I yh yv hI hy g args H s ret Hc s' hcl Γ Φ w Vs hyv hH hg hi hd hc hn;simp only[clY,hl] at hcl;split at hcl
 ·rename_i pf hpf;split at hcl
  ·rename_i r' h' hr;simp only[b8,v7] at hcl;obtain⟨rfl,rfl,rfl⟩:=hcl;exact h.mem (OA hpf) C rfl rfl Z I yh yv hI hy args H s _ _ hr Γ Φ w Vs hyv hH hg hi hd hc hn
  grind
 ·cases hcl
def Pf.ok{C:Cfg}{l:List (Nat × (List PV->List Blk->Option (Bool × List (List PV))))}(hl:C.S=DM l)(h:Pf C.P C.G l):Cl C (clS C):=by
 intro Z I yh yv hI hy g args H s ret Hc s' hcl Γ Φ w Vs hyv hH hg hi hd hc hn;simp only[clS,hl] at hcl;split at hcl
 ·rename_i pf hpf;split at hcl
  ·rename_i hb;split at hcl
   ·rename_i L hL;split at hcl
    ·rename_i s2 hr;simp only[b8,v7] at hcl;obtain⟨rfl,rfl,rfl⟩:=hcl;exact h.mem (OA hpf) C rfl rfl Z I yh yv hI hy args H L s _ hL hb hr Γ Φ w Vs hyv hH hg hi hd hc hn
    grind
   grind
  grind
 ·cases hcl
def Wd{C:Cfg}{lx:List (Nat × (List PV->Tr))}{ly:List (Nat × (List PV->List Blk->Tr))}{ls:List (Nat × (List PV->List Blk->Option (Bool × List (List PV))))}(a:C.X=Aw5 lx)(b:C.Y=DM ly)(c:C.S=DM ls)(x:N3 C.P C.G lx)(y:Pn C.P C.G ly)(s:Pf C.P C.G ls):XOK C:=
 ⟨N3.x1 a x,Pn.ok b y,Pf.ok c s⟩
def N3.ok{C:Cfg}{l:List (Nat × (List PV->Tr))}(hl:C.X=Aw5 l)(h:N3 C.P C.G l)(h2:C.Y=DM []:=by rfl)(h3:C.S=DM []:=by rfl):XOK C:=
 Wd hl h2 h3 h trivial trivial
def okL:List Nat->Nat->Bool
 | [],_=>false
 | a::r,n=>p9 n a||okL r n
def Bb2(C:Cfg)(l:List Nat):Bool:=l.all λf=>match C.P.funcs[f]? with
 | some fn=>match fn.body with
  | some c=>Cp3 C c && !(fn.name == "runtime.NumGoroutine")
  | none=>true
 | none=>true
def J2{C:Cfg}{l:List Nat}(d:C.okf=okL l)(h:Bb2 C l=true):Pe C:=by
 intro f fn c b g e;have key:∀l:List Nat,okL l f=true->f∈l:=by
  intro l
  induction l with
  | nil=>intro h;cases h
  | cons a r j=>
   intro h;simp only[okL,aa2] at h;rcases h with h|h
   all_goals simp_all
 have i:f∈l:=key l (by rw[<-d];exact b);simp only[Bb2,j8] at h;grind
def cd:List Nat->Code->Code
 | [],c=>c
 | 0::p,.seq a _=>cd p a
 | 1::p,.seq _ b=>cd p b
 | 0::p,.cond _ a _=>cd p a
 | 1::p,.cond _ _ b=>cd p b
 | 0::p,.block _ a=>cd p a
 | 0::p,.loop a=>cd p a
 | 0::p,.scope a=>cd p a
 | 0::p,.rangeFunc _ _ a _=>cd p a
 | 1::p,.rangeFunc _ _ _ b=>cd p b
 | _,_=>.skip
def G7:List Nat->Code->Code->Code
 | [],b,_=>b
 | 0::p,b,.seq x y=>.seq (G7 p b x) y
 | 1::p,b,.seq x y=>.seq x (G7 p b y)
 | 0::p,b,.cond c x y=>.cond c (G7 p b x) y
 | 1::p,b,.cond c x y=>.cond c x (G7 p b y)
 | 0::p,b,.block id x=>.block id (G7 p b x)
 | 0::p,b,.loop x=>.loop (G7 p b x)
 | 0::p,b,.scope x=>.scope (G7 p b x)
 | 0::p,b,.rangeFunc g a x y=>.rangeFunc g a (G7 p b x) y
 | 1::p,b,.rangeFunc g a x y=>.rangeFunc g a x (G7 p b y)
 | _,_,c=>c
def C7(f:Func):Code:=f.body.getD .skip
section
variable {Z R : Type}
def bd(C:Cfg)(a:G4)(d:Yh Z)(c:Code):St Z->(Out->St Z->Option R)->Option R:=λb k=>A9 C a d c b k
def E1(C:Cfg)(c:G4)(d:Yh Z)(b:Code)(k:Out->St Z->Option R):Out->St Z->Option R:=λo a=>match o with
 | .normal=>A9 C c d b a k
 | o=>k o a
def E2(id:Nat)(k:Out->St Z->Option R):Out->St Z->Option R:=λo a=>match o with
 | .exit j=>if j=id then k .normal a else k (.exit j) a
 | o=>k o a
def F4(C:Cfg)(fn:Func):Out->St Z->Option (PV × List Blk × Z):=λo a=>match o with
 | .normal=>FZ C a.sl a.hp fn.results.toList λb=>some (Cu b,a.hp,a.s)
 | .ret=>FZ C a.sl a.hp fn.results.toList λb=>some (Cu b,a.hp,a.s)
 | _=>none
def lpK(L:Nat)(ds:Option (List Nat))(a:St Z->(Out->St Z->Option R)->Option R)(n:Nat)(k:Out->St Z->Option R):Out->St Z->Option R:=λo b=>match o with
 | .normal=>D0 L ds a n (Mx ds (Ab L b)) k
 | o=>k o (Mx ds b)
end
def Dx9{C:Cfg}{d f:Nat}{fn:Func}{Z:Type}{e:Yh Z}{args:List PV}{H:List Blk}{s:Z}(h:C.P.funcs[f]? = some fn)(g:C.okf f=true)(a:fn.body=some (C7 fn)) :
  evC C (d+1) Z e f args H s=A9 C (evC C d) e (C7 fn) { sl:=args++w8 (fn.ntmps-args.length) (.tup []),hp:=H,s:=s } (F4 C fn):=by
 simp only[evC,g,h];split
 ·rename_i c b;rw[b] at a;simp only[b8] at a;rw[<-a];rfl
 ·rename_i b;rw[b] at a;cases a
def evE{C:Cfg}{d f:Nat}{fn:Func}{Z:Type}{a:Yh Z}{args:List PV}{H:List Blk}{s:Z}(h:(C.P.funcs[f]?,C.okf f,fn.body)=(some fn,true,some (C7 fn))) :
  evC C (d+1) Z a f args H s=A9 C (evC C d) a (C7 fn) { sl:=args++w8 (fn.ntmps-args.length) (.tup []),hp:=H,s:=s } (F4 C fn):=by
 simp only[v7] at h;exact Dx9 h.1 h.2.1 h.2.2
def Kg:List Nat->List Blk->List Blk
 | [],H=>H
 | i::r,H=>Kg r (H.set i .dead)
def A53(a:List Nat)(ret:PV)(H:List Blk):Bool:=a.all λi=>!(ret.nms.contains i)&&(Kg a H).all λb=>!(b.nms.contains i)
def EE:∀(b:List Nat) (H:List Blk),(Kg b H).length=H.length/\∀i (h:i<(Kg b H).length) (c:i<H.length),(i∈b/\(Kg b H)[i] = .dead)\/(i∉b/\(Kg b H)[i]=H[i])
 | [],H=>⟨rfl,λi h c=>.inr ⟨by simp,rfl⟩⟩
 | a::r,H=>by
  obtain⟨d,e⟩:=EE r (H.set a .dead);simp only[Kg];grind
def Eu.dead{C:Cfg}{Γ:Ctx}{w w':World}{ret:PV}{Hc:List Blk}{V:Value}{idx:List Nat}(h:Eu C I0 Γ [] w noΦ ret Hc () V w')(hok:A53 idx ret Hc=true):Eu C I0 Γ [] w noΦ ret (Kg idx Hc) () V w':=by
 obtain⟨Γ1,Φ1,hs,hH1,hv,hvn,hi1,hd1⟩:=h;obtain⟨hl,hsp⟩:=EE idx Hc;simp only[A53,j8,j0,ab4,List.contains_iff_mem,<-Bool.not_eq_true] at hok;let Γ2:Ctx:={ Γ1 with nm:=λb=>if b∈idx then none else Γ1.nm b }
 have hnm:∀b g,Γ2.nm b=some g->b∉idx/\Γ1.nm b=some g:=λb g h=>by
  simp only[Γ2] at h;split at h
  ·cases h
  ·exact⟨‹_›,h⟩
 have M:Az Γ1 (A5 Hc) w' Γ2 (A5 (Kg idx Hc)) w' (·∉idx):=⟨λ_ _=>rfl,λ_ h=>h,λb hb=>by simp only[Γ2];rw[if_neg hb],λb hb=>by
  simp only[A5];by_cases hlt:b<Hc.length
  ·rcases hsp b (by omega) hlt with⟨q,_⟩|⟨_,q⟩
   ·exact absurd q hb
   ·rw[b9 (by omega),b9 hlt,q]
  ·rw[ac1 (by omega),ac1 (by omega)],λ_ _ _ _=>rfl,rfl⟩
 refine⟨Γ2,Φ1,⟨hs.os,hs.tape,hs.output,hs.size,hs.sub,hs.stnew,λb g h=>hs.own b g (hnm b g h).2,hs.foot,hs.frame,hs.yv,Nat.zero_le _,λb hb=>by simp at hb⟩,
  ⟨λb b' g h1 h2=>hH1.inj b b' g (hnm b g h1).2 (hnm b' g h2).2,λb g h=>by have:=hH1.lt b g (hnm b g h).2;rw[hl];exact this,hH1.stlt,λb hb c hc=>?_,λb hb=>?_⟩,
  hv.mono M (λb hb hi=>by have:=(hok b hi).1;exact this hb),λc hc=>by rw[hl];exact hvn c hc,hi1,λb g h=>hd1 b g (hnm b g h).2⟩
 ·have hlt:b<Hc.length:=by omega
  rcases hsp b hb hlt with⟨_,q⟩|⟨_,q⟩
  ·rw[q] at hc;simp[Blk.nms] at hc
  ·rw[q] at hc;rw[hl];exact hH1.nms b hlt c hc
 ·have hlt:b<Hc.length:=by omega
  rcases hsp b hb hlt with⟨_,q⟩|⟨q0,q⟩
  ·rw[q];trivial
  ·rw[q];refine(hH1.blk b hlt).mono M (M.nm b q0) (λ_ _=>rfl) (λc hc hi=>?_);have:=(hok c hi).2 _ (j5 hb);rw[q] at this;exact this hc
def Dc{C₀:Cfg}{g:Nat}{pf:List PV->Tr}(y:XOK C₀)(u:Pe C₀)(B:C₀.P.follows .mixedOrders=true)
  (h:∀args ret i,M9 (pf args)=some (ret,i)->C9 args=[]/\∃d e c,evC C₀ d Unit noY g args [] ()=some (ret,e,())/\A53 c ret e=true/\Kg c e=i):B4 C₀.P C₀.G g pf:=by
 intro args ret i f C v j D w o m t q z;obtain⟨l,d,e,c,k,A,rfl⟩:=h args ret i f;have p:=Rg (C₀:=C₀) (g:=g) (pf:=λa=>match M9 (pf a) with|some _=>(match evC C₀ d Unit noY g a [] () with|some (r,H,_)=>cond (C9 a).isEmpty (.ret r H) .fail|none=>.fail)|none=>.fail) y u B (λa r H b=>by
  split at b
  ·split at b
   ·rename_i G H' _ F;cases n:(C9 a).isEmpty with
    | true=>
     rw[n] at b;simp only[cond_true,M9,Io,b8,v7] at b;grind
    | false=>rw[n] at b;cases b
   ·cases b
  ·cases b)
 refine(p args ret e ?_ C v j D w o m t q z).mono λV w' x=>x.dead A
 dsimp only;rw[f];dsimp only;rw[k];dsimp only;rw[l];rfl
def Ae3{C₀:Cfg}{g:Nat}{pf:List PV->Tr}(y:XOK C₀)(v:Pe C₀)(A:C₀.P.follows .mixedOrders=true)
  (h:∀args ret f,M9 (pf args)=some (ret,f)->C9 args=[]/\f=[]/\ret.nms=[]/\∃d b e,evC C₀ d Unit noY g args [] ()=some (b,e,())/\b.snap e=ret):B4 C₀.P C₀.G g pf:=by
 intro args ret f n C x i B w p l u t z;obtain⟨k,rfl,m,d,b,e,j,rfl⟩:=h args ret f n;have q:=Rg (C₀:=C₀) (g:=g) (pf:=λa=>match evC C₀ d Unit noY g a [] () with|some (r,H,_)=>cond (C9 a).isEmpty (.ret r H) .fail|none=>.fail) y v A (λa r H c=>by
  split at c
  ·rename_i F H' _ D;cases o:(C9 a).isEmpty with
   | true=>
    rw[o] at c;simp only[cond_true,M9,Io,b8,v7] at c;grind
   | false=>rw[o] at c;cases c
  ·cases c)
 refine q.snap args (b.snap e) [] ?_ C x i B w p l u t z;dsimp only;rw[j];dsimp only;rw[k];simp only[List.isEmpty_nil,cond_true,Tr.snap,m];rfl
section
variable {Z R : Type} {C : Cfg} {Y : G4} {L : Yh Z} {c a b : Code} {Q : St Z} {k : Out -> St Z -> Option R} {id : Nat}
def A0{b:Bool}{x y d e:Option R}(f:x=d)(g:y=e):cond b x y=cond b d e:=by rw[f,g]
end
def Cx5{α:Type}(z:α)(f:Nat->α->α):Nat->α
 | 0=>z
 | n+1=>f n (Cx5 z f n)
def A2{b:Type}:List (Nat × b)->Nat->Option b
 | [],_=>none
 | (a,l)::r,n=>cond (p9 n a) (some l) (A2 r n)
def bds(n:Nat):List PV:=w8 n .bad
def tps(n:Nat):List PV:=w8 n (.tup [])
def gp:List (Nat × PV)->Nat->List PV
 | [],n=>bds n
 | (m,v)::r,n=>bds m++v::gp r n
abbrev LL:=List (List SV)
abbrev By:=List UInt8
def A1(n:Int):Int:=p6 .i64 n
def D25(n:Int):Int:=p6 .u64 n
def DR(n:Int):Int:=p6 .u32 n
def Em(n:Int):Int:=p6 .u16 n
def wu8(n:Int):Int:=p6 .u8 n
def A19(k:IntKind)(a b:Int):Int:=k.wrap (aa1 k.bits a &&& aa1 k.bits b).toNat
def bOr(k:IntKind)(a b:Int):Int:=k.wrap (aa1 k.bits a ||| aa1 k.bits b).toNat
def Ss(k:IntKind)(a b:Int):Int:=k.wrap (a*2 ^ min b.toNat k.bits)
def Pc(k:IntKind)(a b:Int):Int:=a.fdiv (2 ^ min b.toNat k.bits)
def inR(n:Int)(m:Nat):Bool:=decide (0<=n)&&decide (n<m)
def Ma:TI:=⟨true,false,[.int .i64]⟩
def Pd:TI:=⟨true,false,[.str]⟩
def okE(t:TI)(l:LL)(i o:Nat):Bool:=decide (i<l.length)&&okS t (l.getD i []) o
def gC(l:LL)(i j:Nat):SV:=(l.getD i []).getD j .nilp
def gE(l:LL)(i j:Nat):Int:=(gC l i j).gI
def gX(l:LL)(i j:Nat):By:=(gC l i j).gS
def bAt(s:By)(n:Int):Int:=((s.getD n.toNat 0).toNat:Int)
def J0(l h:Int)(n:Nat):Bool:=decide (0<=l)&&decide (l<=h)&&decide (h<=n)
def cut{a:Type}(s:List a)(l h:Int):List a:=(s.take h.toNat).drop l.toNat
def Ea2:Code->Bool | .rangeFunc _ _ _ _=>true|_=>false
def rgX:Code->Operand | .rangeFunc x _ _ _=>x|_=>.tmp 0
def rgP:Code->Array Tmp | .rangeFunc _ p _ _=>p|_=>#[]
def YB:∀(p:List Nat),cd p .skip = .skip
 | []=>rfl
 | 0::_=>rfl
 | 1::_=>rfl
 | (_+2)::_=>rfl
def Hq:∀(p q:List Nat) (c:Code),cd (p++q) c=cd q (cd p c)
 | [],q,c=>rfl
 | i::p,q,c=>by
  rw[ad3]
  match i,c with
  | 0,.seq a b=>exact Hq p q a
  | 1,.seq a b=>exact Hq p q b
  | 0,.cond _ a b=>exact Hq p q a
  | 1,.cond _ a b=>exact Hq p q b
  | 0,.block _ a=>exact Hq p q a
  | 0,.loop a=>exact Hq p q a
  | 0,.scope a=>exact Hq p q a
  | 0,.rangeFunc _ _ a b=>exact Hq p q a
  | 1,.rangeFunc _ _ a b=>exact Hq p q b
  | 0,.skip|0,.region _ _ _|0,.exit _|0,.label _|0,.goto _|0,.ret|0,.refuse _=>exact(YB q).symm
  | 1,.skip|1,.region _ _ _|1,.exit _|1,.scope _|1,.label _|1,.goto _|1,.ret|1,.refuse _|1,.block _ _|1,.loop _=>exact(YB q).symm
  | _+2,.skip|_+2,.region _ _ _|_+2,.exit _|_+2,.scope _|_+2,.label _|_+2,.goto _|_+2,.ret|_+2,.refuse _|_+2,.block _ _|_+2,.loop _|_+2,.seq _ _|_+2,.cond _ _ _|_+2,.rangeFunc _ _ _ _=>exact(YB q).symm
section
variable {Z R : Type} {C : Cfg} {L : G4} {Y : Yh Z} {B : Code} {Q : St Z} {k : Out -> St Z -> Option R}
def D70(p:List Nat)(h:Ea2 (cd p B)=true):A9 C L Y (cd p B) Q k=Vh C L (opnd C Q.sl (rgX (cd p B))) Q (λa=>Km (rgP (cd p B)) a (bd C L Y (cd (p++[0]) B)) (bd C L Y (cd (p++[1]) B))) (λa=>Bk (rgP (cd p B)) a (bd C L Y (cd (p++[0]) B)) (bd C L Y (cd (p++[1]) B))) k:=by rw[Hq,Hq];cases b:cd p B<;>rw[b] at h<;>first|rfl|cases h
def Ba8{c:Bool}{x y:Option R}(h:x=y):need c x=cond c y none:=by rw[h];rfl
end
abbrev pS(l:List UInt8):PV:=.s (.str l)
abbrev pB(b:Bool):PV:=.s (.bool b)
abbrev pI(n:Int):PV:=.s (.int .i64 n)
abbrev p8(n:Int):PV:=.s (.int .u8 n)
abbrev p16(n:Int):PV:=.s (.int .u16 n)
abbrev p32(n:Int):PV:=.s (.int .u32 n)
abbrev p64(n:Int):PV:=.s (.int .u64 n)
abbrev vl{a b:Type}(e:a)(f:a->b):b:=f e
def A4{a R:Type}{e:a}{f g:a->Option R}(h:∀x,f x=g x):vl e f=vl e g:=h e
def E6(m n:Nat):Bool:=decide (m+n<4611686018427387904)
def fx1{A R:Type}{f g:A->R}(b:∀a,f a=g a):f=g:=funext b
def fx2{A B R:Type}{f g:A->B->R}(c:∀a b,f a b=g a b):f=g:=funext λa=>fx1 (c a)
def fx3{A B C R:Type}{f g:A->B->C->R}(d:∀a b c,f a b c=g a b c):f=g:=funext λa=>fx2 (d a)
def fx4{A B C D R:Type}{f g:A->B->C->D->R}(e:∀a b c d,f a b c d=g a b c d):f=g:=funext λa=>fx3 (e a)
def fx5{A B C D E R:Type}{f g:A->B->C->D->E->R}(h:∀a b c d e,f a b c d e=g a b c d e):f=g:=funext λa=>fx4 (h a)
def fx6{A B C D E H R:Type}{f g:A->B->C->D->E->H->R}(i:∀a b c d e h,f a b c d e h=g a b c d e h):f=g:=funext λa=>fx5 (i a)
def fx7{A B C D E H I R:Type}{f g:A->B->C->D->E->H->I->R}(j:∀a b c d e h i,f a b c d e h i=g a b c d e h i):f=g:=funext λa=>fx6 (j a)
def fx8{A B C D E H I J R:Type}{f g:A->B->C->D->E->H->I->J->R}(k:∀a b c d e h i j,f a b c d e h i j=g a b c d e h i j):f=g:=funext λa=>fx7 (k a)
def fx9{A B C D E H I J K R:Type}{f g:A->B->C->D->E->H->I->J->K->R}(l:∀a b c d e h i j k,f a b c d e h i j k=g a b c d e h i j k):f=g:=funext λa=>fx8 (l a)
def Dd4{A B C D E H I J K L R:Type}{f g:A->B->C->D->E->H->I->J->K->L->R}(m:∀a b c d e h i j k l,f a b c d e h i j k l=g a b c d e h i j k l):f=g:=funext λa=>fx9 (m a)
def D81{α a:Type}(z:α)(f:a->List a->α->α):List a->α
 | []=>z
 | x::xs=>f x xs (D81 z f xs)
def Sq(n:Nat):PV->PV
 | .s (.sl z t k a)=>if n=0 then .s (.sl z t k a) else if k=n then .s (.sl z t k a) else .s (.sl z t (cond z n k) a)
 | v=>v
def Qb:List Nat->List PV->List PV
 | n::r,v::l=>Sq n v::Qb r l
 | _,l=>l
def Dy0(a:List Nat):PV->PV
 | .agg l=>.agg (Qb a l)
 | v=>Sq (a.headD 0) v
def C2:List (List Nat)->List PV->List PV
 | s::r,v::l=>Dy0 s v::C2 r l
 | _,l=>l
section
variable {L : Ctx} {sh : Nat -> Option Shp} {w : World}
def GH{n:Nat}{v:PV}{V:Value}(h:VP L sh w v V):VP L sh w (Sq n v) V:=by
 unfold Sq;split
 ·rename_i z t k a;split
  ·exact h
  ·split
   ·exact h
   ·cases z with
    | false=>exact h
    | true=>
     have b:=h.inv_s;cases b with
     | nil=>exact .s _ _ (.nil _ _)
 ·exact h
def Xb:∀(a:List Nat) (l:List PV),(Qb a l).length=l.length
 | [],_=>rfl
 | _::_,[]=>rfl
 | n::r,v::l=>by simp[Qb,Xb r l]
def LG:∀(a:List Nat) (l:List PV) (j:Nat) (h:j<l.length) (b:j<(Qb a l).length),∃n,(Qb a l)[j]=Sq n l[j]
 | [],l,j,h,b=>⟨0,by
  have e:Qb [] l=l:=by cases l<;>rfl
  simp only[e];unfold Sq;split
  ·rename_i c;rw[c];simp
  ·rfl⟩
 | n::r,v::l,0,h,b=>⟨n,rfl⟩
 | n::r,v::l,j+1,h,b=>by
  obtain⟨m,e⟩:=LG r l j (by simpa using h) (by simpa[Qb] using b);exact⟨m,by simpa[Qb] using e⟩
def Dd0{b:List Nat}{v:PV}{V:Value}(h:VP L sh w v V):VP L sh w (Dy0 b v) V:=by
 unfold Dy0;split
 ·rename_i l;obtain⟨A,rfl,hA,f⟩:=h.inv_agg;refine VP.mk_agg (by rw[Xb];exact hA) λj c=>?_
  have a:j<l.length:=by rw[Xb] at c;exact c
  obtain⟨U,e,k⟩:=f j a;obtain⟨m,d⟩:=LG b l j a c;exact⟨U,e,by rw[d];exact GH k⟩
 ·exact GH h
def Aj9:∀(a:List (List Nat)) (l:List PV),(C2 a l).length=l.length
 | [],_=>rfl
 | _::_,[]=>rfl
 | n::r,v::l=>by simp[C2,Aj9 r l]
def Dd1:∀(a:List (List Nat)) (l:List PV) (V:Array Value),CR L sh w l V->CR L sh w (C2 a l) V:=by
 intro a l V h;refine⟨by rw[Aj9];exact h.1,?_⟩;have key:∀(a:List (List Nat)) (l:List PV) (b:Nat->Option Value),(∀j (h:j<l.length),∃U,b j=some U/\VP L sh w (l[j]) U)->∀j (h:j<(C2 a l).length),∃U,b j=some U/\VP L sh w ((C2 a l)[j]) U:=by
  intro a
  induction a with
  | nil=>intro l b d j c;exact d j (by cases l<;>exact c)
  | cons s r f=>
   intro l b d j c;cases l with
   | nil=>simp[C2] at c
   | cons v l=>
    cases j with
    | zero=>
     obtain⟨U,e,k⟩:=d 0 (by simp);exact⟨U,e,Dd0 k⟩
    | succ j=>
     have:=f l (λj=>b (j+1)) (λj h=>d (j+1) (by simpa using h)) j (by simpa[C2] using c);simpa[C2] using this
 exact key a l (λj=>V[j]?) h.2
end
def B4.fix{P:Program}{G:GT}{g:Nat}{pf:List PV->Tr}(szs:List (List Nat))(h:B4 P G g pf):B4 P G g (λargs=>pf (C2 szs args)):=
 λargs ret Hc hpf C hP hGe Γ w Vs hnm hH hG hc=>h (C2 szs args) ret Hc hpf C hP hGe Γ w Vs hnm hH hG (Dd1 szs args Vs hc)
def J6{v:PV}{H:List Blk}{ret:PV}{a:List Blk}(h:M9 (.ret v H)=some (ret,a)):ret=v/\a=H:=by simp only[M9,Io,b8,v7] at h;grind
def C4{c:Bool}{t:Tr}{ret:PV}{a:List Blk}(h:M9 (.need c t)=some (ret,a)):c=true/\M9 t=some (ret,a):=by
 cases c with
 | true=>exact⟨rfl,h⟩
 | false=>cases h
def C35{c:Bool}{a b:Tr}{ret:PV}{d:List Blk}(h:M9 (.split c a b)=some (ret,d)):(c=true/\M9 a=some (ret,d))\/(c=false/\M9 b=some (ret,d)):=by
 cases c with
 | true=>exact .inl ⟨rfl,h⟩
 | false=>exact .inr ⟨rfl,h⟩
def Dt8:∃n:Nat,100000000000000000000<=n:=⟨_,j7 _⟩
noncomputable def LF:Nat:=ad2 Dt8
def C5:100000000000000000000<=LF:=ae2 Dt8
attribute [irreducible] LF
def B43(b:UInt8):Mu (E4 b)=b:=by simp[Mu,E4,SV.gI]
def Z6(l:List UInt8):(l.map E4).map Mu=l:=by
 rw[List.map_map];have:Mu ∘ E4=id:=by funext b;exact B43 b
 rw[this,List.map_id]
def B67(b:UInt8):Pb (E4 b)=true:=by have:=b.toNat_lt;simp only[Pb,E4,j0,decide_eq_true_eq];omega
def Y7(l:List UInt8):(l.map E4).all Pb=true:=by rw[ai5];simp[Function.comp_def,B67]
def D24(n:Nat):p6 .u8 (n:Int)=((n % 256:Nat):Int):=by simp[p6,ac7,ab6]
def B14(n:Nat):p6 .u16 (n:Int)=((n % 65536:Nat):Int):=by simp[p6,ac7,ab6]
def Dp9(n:Nat):p6 .u32 (n:Int)=((n % 4294967296:Nat):Int):=by simp[p6,ac7,ab6]
def Dq0(n:Nat):p6 .u64 (n:Int)=((n % 18446744073709551616:Nat):Int):=by simp[p6,ac7,ab6]
def Dp8(n:Int)(a:-9223372036854775808<=n)(b:n<9223372036854775808):p6 .i64 n=n:=by simp[p6,ac7,ab6];split<;>omega
def Cq6(n m:Nat):Int.fdiv (n:Int) (m:Int)=((n / m:Nat):Int):=by rw[Int.fdiv_eq_ediv_of_nonneg _ (by omega)];rfl
def M8(n m:Nat):Int.tdiv (n:Int) (m:Int)=((n / m:Nat):Int):=by rw[Int.tdiv_eq_ediv_of_nonneg (by omega)];rfl
def Db(n m:Nat):Int.tmod (n:Int) (m:Int)=((n % m:Nat):Int):=by rw[Int.tmod_eq_emod_of_nonneg (by omega)];rfl
def Dx1(w a b:Nat)(c:a<2 ^ w)(d:b<2 ^ w):(aa1 w (a:Int) ||| aa1 w (b:Int)).toNat=a ||| b:=by simp[ae4,x3 c,x3 d]
def Du9(w a b:Nat)(c:a<2 ^ w)(d:b<2 ^ w):(aa1 w (a:Int) &&& aa1 w (b:Int)).toNat=a &&& b:=by simp[ae4,x3 c,x3 d]
def Dz5(a b i:Nat)(h:a<2 ^ i):a ||| (b*2 ^ i)=a+b*2 ^ i:=by rw[Nat.mul_comm b,Nat.or_comm,ai6];exact(Nat.two_pow_add_eq_or_of_lt h b).symm
def Bo9(n:Nat):E4 (aa0 n)=[SV.int .u8 ((n % 256:Nat):Int)]:=by simp[E4]
end
section
open Go Go.ChangeShapes Go.RowKit Go.Sort Go.WideShapes
def Tf{P:Program}{f:Nat}{fn:Func}{d:Array Value}{w:World}{R:Value->World->Prop}(m:P.funcs[f]? = some fn)(j:fn.body.isSome=true)(p:(fn.name == "runtime.NumGoroutine")=false)
  (h:Calls P f d w λe w'=>∃V,e = .returned V/\R V w'):U5 P ((callFunc f d).run P w) R:=by
 obtain⟨c,j⟩:=p4.1 j;intro q n o a next Q b
 have g:(callFunc f d).run P w = .ok (.enter f d) w:=by
  have k:¬ fn.name = "runtime.NumGoroutine":=by simpa using p
  simp[callFunc,m,j,k,ad0]
 rw[g];simp only[ab9];refine⟨λh=>(by simp[I4,ab1] at h),?_⟩;have key:CallsIn ab1 (n-1) P f d w λe w'=>∃V,e = .returned V/\R V w':=callsIn_wide.2 h
 have i:CallsIn (I4 q) (n-1) P f d w λe w'=>∃V,e = .returned V/\R V w':=key
 refine i.mono ?_;rintro e w' ⟨V,rfl,l⟩;exact b V w' l
def Cp5{C:Cfg}{d:Ctx}{w w':World}{ret:PV}{V:Value}(a:∀b,d.nm b=none)(f:HR d [] w)(c:Below w.heap.size w w')(j:VP d (A5 []) w' ret V)(i:ret.nms=[]):Eu C I0 d [] w noΦ ret [] () V w':=by
 refine⟨d,noΦ,⟨c.os,c.tape,c.output,c.size,λ_ h=>h,λ_ h=>.inl h,λb g h=>(by rw[a] at h;cases h),λ_ h=>h.elim,λg e _ _=>c.block g e,rfl,j7 _,λb h=>(by simp at h)⟩,
  ⟨λb k g h=>(by rw[a] at h;cases h),λb g h=>(by rw[a] at h;cases h),λg e=>j4 (f.stlt g e) c.size,λb h=>(by simp at h),λb h=>(by simp at h)⟩,j,by rw[i];simp,λ_ h=>h,λb g h=>(by rw[a] at h;cases h)⟩
def Pu(w:World)(n:Nat):Below w.heap.size w (w.drewN n):=⟨rfl,rfl,rfl,j7 _,λ_ _=>rfl⟩
def KA(w:World)(os:Array Obj):Below w.heap.size w (grow w os):=by refine⟨rfl,rfl,rfl,by simp[grow],λk a=>?_⟩;simp only[grow];grind
def A21(w:World)(s:ByteArray)(pos:Nat):Below w.heap.size w (w.iter s pos):=(Below.refl _ w).alloc (j7 _) _
section
variable {Γ : Ctx} {sh : Nat -> Option Shp} {w : World}
def CR.arr1{a:PV}{A:Array Value}(h:CR Γ sh w [a] A):∃U,A = #[U]/\VP Γ sh w a U:=by obtain⟨U,e,k⟩:=h.2 0 (by simp);refine⟨U,?_,k⟩;have hs:A.size=1:=h.1;grind
def CR.arr2{a b:PV}{A:Array Value}(h:CR Γ sh w [a,b] A):∃U V,A = #[U,V]/\VP Γ sh w a U/\VP Γ sh w b V:=by obtain⟨U,e,k⟩:=h.2 0 (by simp);obtain⟨V,e',k'⟩:=h.2 1 (by simp);refine⟨U,V,?_,k,k'⟩;have hs:A.size=2:=h.1;grind
def CR.arr3{a b c:PV}{A:Array Value}(h:CR Γ sh w [a,b,c] A):∃U V W,A = #[U,V,W]/\VP Γ sh w a U/\VP Γ sh w b V/\VP Γ sh w c W:=by obtain⟨U,e,k⟩:=h.2 0 (by simp);obtain⟨V,e',k'⟩:=h.2 1 (by simp);obtain⟨W,e'',k''⟩:=h.2 2 (by simp);refine⟨U,V,W,?_,k,k',k''⟩;have hs:A.size=3:=h.1;grind
def VP.mk_str(l:List UInt8):VP Γ sh w (.s (.str l)) (.string ⟨l.toArray⟩):=by have:=VP.s (Γ:=Γ) (sh:=sh) (w:=w) _ _ (VS.str (St:=Γ.St) (w:=w) ⟨l.toArray⟩);omega
def VP.mk_int(k:IntKind)(n:Int):VP Γ sh w (.s (.int k n)) (.int k n):=.s _ _ (.int k n)
def VP.mk_bool(b:Bool):VP Γ sh w (.s (.bool b)) (.bool b):=.s _ _ (.bool b)
def VP.mk_tup3{a b c:PV}{U V W:Value}(h:VP Γ sh w a U)(k:VP Γ sh w b V)(l:VP Γ sh w c W):VP Γ sh w (.tup [a,b,c]) (.tuple #[U,V,W]):=
 VP.mk_tup rfl λj hj=>by grind
end
def J3{P:Program}{G:GT}{g:Nat}{fn:Func}{k:List PV->Tr}(q:P.funcs[g]? = some fn)(d:fn.body.isSome=true)(t:(fn.name == "runtime.NumGoroutine")=false)
  (h:∀args ret b,M9 (k args)=some (ret,b)->b=[]/\ret.nms=[]/\∀C:Cfg,C.P=P->C.G=G->∀a w c,GOK C a.St w->(∀g,a.St g->g<w.heap.size)->CR a (A5 []) w args c->
   Calls P g c w λe w'=>∃V,e = .returned V/\Below w.heap.size w w'/\VP a (A5 []) w' ret V):B4 P G g k:=by
 intro args ret b i C n m a w c f j r o;obtain⟨rfl,u,l⟩:=h args ret b i;exact Tf q d t ((l C n m a w c r j.stlt o).mono λe w' ⟨V,p,d,v⟩=>⟨V,p,Cp5 f j d v u⟩)
def PV.stab(szs:List Nat)(H:List Blk):PV->PV
 | .tup l=>.tup (Qb szs (N1 H l))
 | v=>Sq (szs.headD 0) (v.snap H)
def VP.stab{Γ:Ctx}{H:List Blk}{w:World}(szs:List Nat)(hH:HR Γ H w){v:PV}{V:Value}(h:VP Γ (A5 H) w v V):VP Γ.all (A5 H) w (v.stab szs H) V:=by
 by_cases ht:∃l,v = .tup l
 ·obtain⟨l,rfl⟩:=ht;obtain⟨A,rfl,hA,hc⟩:=h.inv_tup;simp only[PV.stab];have hl:(Qb szs (N1 H l)).length=l.length:=by rw[Xb,Iw,y5]
  refine VP.mk_tup (by rw[hl];exact hA) λj hj=>?_
  obtain⟨U,e,k⟩:=hc j (by omega);refine⟨U,e,?_⟩;have hj':j<(N1 H l).length:=by rw[Iw,y5];omega
  obtain⟨n,en⟩:=LG szs (N1 H l) j hj' hj;rw[en];have e2:(N1 H l)[j]=(l[j]'(by omega)).snap H:=by
   simp only[Iw,j9]
  rw[e2];exact GH (k.snap hH)
 ·have e:v.stab szs H=Sq (szs.headD 0) (v.snap H):=by
   cases v with
   | tup l=>exact absurd ⟨l,rfl⟩ ht
   | _=>rfl
  rw[e];exact GH (h.snap hH)
def J4(n:List Nat){C₀:Cfg}{g:Nat}{pf:List PV->Tr}(M:XOK C₀)(K:Pe C₀)(P:C₀.P.follows .mixedOrders=true)
  (h:∀args ret p,M9 (pf args)=some (ret,p)->C9 args=[]/\p=[]/\ret.nms=[]/\∃d c k,evC C₀ d Unit noY g args [] ()=some (c,k,())/\c.stab n k=ret):B4 C₀.P C₀.G g pf:=by
 intro args ret p A C L t Γ w F z J I N;obtain⟨y,rfl,m,d,c,k,u,rfl⟩:=h args ret p A;have G:=Rg (C₀:=C₀) (g:=g) (pf:=λa=>match evC C₀ d Unit noY g a [] () with|some (r,H,_)=>cond (C9 a).isEmpty (.ret r H) .fail|none=>.fail) M K P (λa r H j=>by
  split at j
  ·rename_i S H' _ R;cases D:(C9 a).isEmpty with
   | true=>
    rw[D] at j;simp only[cond_true,M9,Io,b8,v7] at j;grind
   | false=>rw[D] at j;cases j
  ·cases j)
 refine(G args c k (by dsimp only;rw[u];dsimp only;rw[y];rfl) C L t Γ w F z J I N).mono ?_;rintro V w' ⟨o,B,e,i,Q,hvn,v,O⟩;let Γ2:Ctx:={ o.all with nm:=λ_=>none }
 have x:∀g,Γ2.St g->g<w'.heap.size:=λg f=>by
  rcases f with f|⟨b,l⟩
  ·exact i.stlt g f
  ·exact(i.lt b g l).2.1
 refine⟨Γ2,B,⟨e.os,e.tape,e.output,e.size,λg f=>.inl (e.sub g f),λg f=>?_,λb g h=>by simp[Γ2] at h,e.foot,e.frame,e.yv,j7 _,λb l=>by simp at l⟩,
  Ml (λ_=>rfl) x,?_,by rw[m];simp,v,λb g h=>by simp[Γ2] at h⟩
 ·rcases f with f|⟨b,l⟩
  ·exact e.stnew g f
  ·rcases e.own b g l with⟨q,_⟩|q
   ·simp at q
   ·exact .inr q
 ·exact VP.mono (Γ:=o.all) (Γ':=Γ2) (w:=w') (w':=w') (sh:=A5 k) (ok:=λ_=>False) ⟨λ_ _=>rfl,λ_ h=>h,λ_ h=>h.elim,λ_ h=>h.elim,λ_ _ h=>h.elim,rfl⟩ (Q.stab n i) (by rw[m];simp)
def Tr.Good(szs:List Nat)(args:List PV)(e:Option (PV × List Blk × Unit)):Tr->Prop
 | .ret v H=>C9 args=[]/\H=[]/\v.nms=[]/\∃r H0,e=some (r,H0,())/\r.stab szs H0=v
 | .need c t=>c=true->Good szs args e t
 | .split c a b=>(c=true->Good szs args e a)/\(c=false->Good szs args e b)
 | .fail=>True
def Tr.Good.res{szs:List Nat}{args:List PV}{e:Option (PV × List Blk × Unit)}{ret:PV}{Hc:List Blk}:∀{t:Tr},t.Good szs args e->M9 t=some (ret,Hc)->C9 args=[]/\Hc=[]/\ret.nms=[]/\∃r H0,e=some (r,H0,())/\r.stab szs H0=ret
 | .ret v H,h,hr=>by
  obtain⟨rfl,rfl⟩:=J6 hr;exact h
 | .need c t,h,hr=>by
  obtain⟨h0,hr⟩:=C4 hr;exact res (h h0) hr
 | .split c a b,h,hr=>by
  rcases C35 hr with⟨h0,hr⟩|⟨h0,hr⟩
  ·exact res (h.1 h0) hr
  ·exact res (h.2 h0) hr
def xf(b:List Nat)(a:Cfg){g:Nat}(d:List PV->Tr){e:List (List Nat)}{l:List (Nat × (List PV->Tr))}{c:List Nat}(m:a.X=Aw5 l)(q:N3 a.P a.G l)(o:a.okf=okL c)(k:Bb2 a c=true)(n:a.P.follows .mixedOrders=true)
  (h:∀args,(d args).Good b args (evC a 1 Unit noY g args [] ())) (i:a.Y=DM []:=by rfl) (j:a.S=DM []:=by rfl):B4 a.P a.G g (λargs=>d (C2 e args)):=
 B4.fix e (J4 b (N3.ok m q i j) (J2 o k) n λargs ret y p=>by
  obtain⟨t,u,v,r,f,w,x⟩:=(h args).res p;exact⟨t,u,v,1,r,f,w,x⟩)
end
section
open Go
def A83(n:Nat)(ret:PV)(H:List Blk):Bool:=ret.nms.all (ai7 · n)&&H.all λb=>b.nms.all (ai7 · n)
def Eu.head{C:Cfg}{Z:Type}{I:Z->(Nat->Prop)->(Nat->Prop)->World->Prop}{Γ:Ctx}{H Hc T:List Blk}{w w':World}{Φ:Nat->Prop}{s':Z}{ret:PV}{V:Value}
  (h:Eu C I Γ H w Φ ret (Hc++T) s' V w') (hl:H.length<=Hc.length) (hok:A83 Hc.length ret Hc=true):Eu C I Γ H w Φ ret Hc s' V w':=by
 obtain⟨Γ1,Φ1,hs,hH1,hv,hvn,hi1,hd1⟩:=h;simp only[A83,j0,j8,Nat.blt_eq] at hok;let Γ2:Ctx:={ Γ1 with nm:=λb=>if b<Hc.length then Γ1.nm b else none }
 have hnm:∀b g,Γ2.nm b=some g->b<Hc.length/\Γ1.nm b=some g:=λb g h=>by grind
 have get:∀b (h:b<Hc.length) (h':b<(Hc++T).length),(Hc++T)[b]=Hc[b]:=λb h h'=>y8 h
 have shp:∀b,b<Hc.length->A5 Hc b=A5 (Hc++T) b:=λb hb=>by
  simp only[A5];grind
 have M:Az Γ1 (A5 (Hc++T)) w' Γ2 (A5 Hc) w' (· < Hc.length):=⟨λ_ _=>rfl,λ_ h=>h,λb hb=>by simp only[Γ2];rw[if_pos hb],λb hb=>shp b hb,λ_ _ _ _=>rfl,rfl⟩
 refine⟨Γ2,Φ1,⟨hs.os,hs.tape,hs.output,hs.size,hs.sub,hs.stnew,λb g h=>hs.own b g (hnm b g h).2,hs.foot,hs.frame,hs.yv,hl,λb hb hf=>?_⟩,
  ⟨λb b' g h1 h2=>hH1.inj b b' g (hnm b g h1).2 (hnm b' g h2).2,λb g h=>by have:=hH1.lt b g (hnm b g h).2;exact⟨(hnm b g h).1,this.2⟩,hH1.stlt,λb hb c hc=>hok.2 _ (j5 hb) c hc,λb hb=>?_⟩,
  hv.mono M (λb hb=>hok.1 b hb),λc hc=>hok.1 c hc,hi1,λb g h=>hd1 b g (hnm b g h).2⟩
 ·obtain⟨m1,m2,m3⟩:=hs.keep b hb hf;have hb2:b<Hc.length:=j4 hb hl;exact⟨by simp only[Γ2];rw[if_pos hb2];exact m1,by rw[shp b hb2];exact m2,m3⟩
 ·have hb':b<(Hc++T).length:=by rw[w9];omega
  have:=hH1.blk b hb';rw[get b hb hb'] at this;exact this.mono M (M.nm b hb) (λ_ _=>rfl) (λc hc=>hok.2 _ (j5 hb) c hc)
def Gs{C₀:Cfg}{g:Nat}{m:List PV->List Blk->Tr}(v:XOK C₀)(t:Pe C₀)(D:C₀.P.follows .mixedOrders=true)
  (h:∀args H ret a,M9 (m args H)=some (ret,a)->o5 H.length a.length=true/\A83 a.length ret a=true/\∀(Z:Type) (e:Yh Z) (s:Z),∃d b,evC C₀ d Z e g args H s=some (ret,b,s)/\b.take a.length=a):DW C₀.P C₀.G g m:=by
 intro C u p Z I e R r L args H s ret a i S T w n j q z A y x F;obtain⟨B,f,o⟩:=h args H ret a i;obtain⟨d,b,c,K⟩:=o Z e s;rw[<-List.take_append_drop a.length b,K] at c;refine(Le v t D d Z I e R r L g args H s ret (a++b.drop a.length) s c S T w n j q (z.congr p.symm) A y x F).mono ?_;rintro V w' G;obtain⟨k,l,J,M,N,O,P,Q⟩:=G.head (ac2 B) f;exact⟨k,l,J.congr u.symm,M,N,O,P,Q⟩
def Hk:List Int:=(ah8 32).map λi=>((if i % 2=0 then Lib.accLo (i / 2) else Lib.accHi (i / 2):Nat):Int)
def GX:GT:=⟨λg=>cond (p9 g 1) (some (.u8,Lib.firstTab)) (cond (p9 g 2) (some (.u8,Hk)) (cond (p9 g 3) (some (.u64,Lib.pow10Tab)) (cond (p9 g 5) (some (.u8,Lib.deBruijn64tab.map λn:Nat=>(n:Int))) none))),λg=>p9 g 0⟩
def D78:List (Nat × Nat × Nat × Nat)->Nat->Nat->Nat × Nat
 | [],_,_=>(0,0)
 | (t,j,e,k)::r,b,a=>cond (p9 t b&&p9 j a) (e,k) (D78 r b a)
def Dv3:List (Nat × Nat)->Nat->Option Nat
 | [],_=>none
 | (a,b)::r,i=>cond (p9 a i) (some b) (Dv3 r i)
noncomputable def B8(g:Nat)(f:List Nat)(d:Nat->Option (List Nat))(X:List (Nat × (List PV->Tr)))(b:Nat->Option (List Nat):=λ_=>none)(h:List Nat:=[])(a:Nat->Option (List Nat):=λ_=>none)(c:Option (List Nat):=none)(Y:List (Nat × (List PV->List Blk->Tr)):=[])(S:List (Nat × (List PV->List Blk->Option (Bool × List (List PV)))):=[])(e:List Nat:=[])(nt:List (Nat × Nat × Nat × Nat):=[])(rw:List (Nat × Nat):=[]):Cfg:=
 { P:=Tryz.prog,G:=GX,X:=Aw5 X,lend:=okL e,okf:=okL f,lf:=g,keep:=d,keepR:=b,xp:=okL h,keepE:=a,keepT:=c,Y:=DM Y,S:=DM S,nilT:=D78 nt,rowR:=Dv3 rw }
def follows:Tryz.prog.follows .mixedOrders=true:=by kernel_rfl
def Cd0{n:Nat}:G2 n=true↔n<=68719476736:=by simp[G2]
def F8{n:Nat}(h:n<=68719476736):G2 n=true:=Cd0.2 h
def B9{a b:Int}(h:a<b):ltI a b=true:=by rw[Nf];simpa using h
def E7{a b:Int}(h:b<=a):ltI a b=false:=by rw[Nf];simpa using h
def Ng{a b:Int}:ltI a b=true↔a<b:=by rw[Nf];simp
def Qm{a b:Int}:ltI a b=false↔b<=a:=by rw[Nf];simp
def D1{n:Int}(a:-9223372036854775808<=n)(b:n<9223372036854775808):A1 n=n:=Dp8 n a b
def Ad8{n:Int}(a:0<=n)(b:n<18446744073709551616):D25 n=n:=by obtain⟨m,rfl⟩:=y9 a;unfold D25;rw[Dq0,x3 (by omega)]
def B16{n:Int}(a:0<=n)(b:n<4294967296):DR n=n:=by obtain⟨m,rfl⟩:=y9 a;unfold DR;rw[Dp9,x3 (by omega)]
def B15{n:Int}(a:0<=n)(b:n<65536):Em n=n:=by obtain⟨m,rfl⟩:=y9 a;unfold Em;rw[B14,x3 (by omega)]
def Ad9{n:Int}(a:0<=n)(b:n<256):wu8 n=n:=by obtain⟨m,rfl⟩:=y9 a;unfold wu8;rw[D24,x3 (by omega)]
def A8{a b:Int}(h:a<b:=by omega):ltI a b=true:=B9 h
def A6{a b:Int}(h:b<=a:=by omega):ltI a b=false:=E7 h
def A7{n:Int}(h:-9223372036854775808<=n:=by omega)(g:n<9223372036854775808:=by omega):A1 n=n:=D1 h g
def Ok{n:Int}(h:0<=n:=by omega)(g:n<4294967296:=by omega):DR n=n:=B16 h g
def Ks{n:Int}(h:0<=n:=by omega)(g:n<65536:=by omega):Em n=n:=B15 h g
def N2{n:Int}(h:0<=n:=by omega)(g:n<256:=by omega):wu8 n=n:=Ad9 h g
def R2{d:Sort _}{c:Prop}[Decidable c]{a b:d}(h:c:=by omega):(if c then a else b)=a:=if_pos h
def G0{d:Sort _}{c:Prop}[Decidable c]{a b:d}(h:¬c:=by omega):(if c then a else b)=b:=if_neg h
def Ax7(n:Nat):Em (n:Int)=((n % 65536:Nat):Int):=B14 n
def Sm(k:IntKind)(a m:Nat)(h:m<=k.bits):Pc k (a:Int) (m:Int)=((a / 2 ^ m:Nat):Int):=by
 unfold Pc;rw[Int.toNat_natCast,Nat.min_eq_left h];have:(2:Int) ^ m=((2 ^ m:Nat):Int):=by simp
 rw[this,Cq6]
def C42{n:Nat}(h:n<256):[SV.int .u8 (n:Int)]=E4 (aa0 n):=by rw[Bo9,x3 h]
def Ay{l h:Int}{n:Nat}(a:0<=l)(b:l<=h)(c:h<=n):J0 l h n=true:=by simp[J0,a,b,c]
def K8{i:Int}{n:Nat}(a:0<=i)(b:i<n):inR i n=true:=by simp[inR,a,b]
def I3{l h:Int}{n:Nat}(a:0<=l:=by omega)(b:l<=h:=by omega)(c:h<=n:=by omega):J0 l h n=true:=Ay a b c
def F1{i:Int}{n:Nat}(a:0<=i:=by omega)(b:i<n:=by omega):inR i n=true:=K8 a b
end
section
open Go Go.Proofs
def HB(r:Option (PV × List Blk × Unit)):Bool:=match r with
 | some (.s (.bool true),_,_)=>true
 | _=>false
def Aa2{r:Option (PV × List Blk × Unit)}(h:HB r=true):∃H,r=some (.s (.bool true),H,()):=by
 unfold HB at h;split at h
 ·exact⟨_,rfl⟩
 ·cases h
def Br3{C₀:Cfg}{g d:Nat}(f:XOK C₀)(c:Pe C₀)(i:C₀.P.follows .mixedOrders=true)(h:HB (evC C₀ d Unit noY g [] [] ())=true):B4 C₀.P C₀.G g (λargs=>match args with|[]=>.ret (.s (.bool true)) []|_=>.fail):=
 Ae3 f c i λargs ret j b=>by
  cases args with
  | nil=>
   obtain⟨rfl,rfl⟩:=J6 b;obtain⟨H,e⟩:=Aa2 h;exact⟨rfl,rfl,rfl,d,_,H,e,rfl⟩
  | cons a r=>cases b
def WT{P:Program}{t:Nat}{v:PV}{f:Ty}(h:Sv P t v)(e:Fk P 20 t=some [f])(i:On P t=false):∃x,v = .s x/\f.of x:=by
 obtain⟨j,l,b,c,a⟩:=h;rw[e] at b;simp only[b8] at b;subst b;rcases a with⟨a,_⟩|⟨_,x,rfl,rfl⟩
 ·rw[i] at a;cases a
 ·simp only[Ty.ofL] at c;obtain⟨v,q,d,g,rfl⟩:=c;simp only[List.cons.injEq,and_true] at d;subst d;exact⟨_,rfl,g⟩
def Da5{P:Program}{t:Nat}{v:PV}{k:IntKind}(h:Sv P t v)(e:Fk P 20 t=some [.int k])(c:On P t=false):∃n,v = .s (.int k n)/\k.min<=n/\n<=k.max:=by obtain⟨x,rfl,n,rfl,a,b⟩:=WT h e c;exact⟨n,rfl,a,b⟩
def Da6{P:Program}{t:Nat}{v:PV}(h:Sv P t v)(e:Fk P 20 t=some [.str])(b:On P t=false):∃l,v = .s (.str l)/\l.length<=maxLen:=by obtain⟨x,rfl,l,rfl,a⟩:=WT h e b;exact⟨l,rfl,a⟩
def Cn4{P:Program}{t:Nat}{v:PV}(h:Sv P t v)(e:Fk P 20 t=some [.bool])(a:On P t=false):∃b,v = .s (.bool b):=by obtain⟨x,rfl,b,rfl⟩:=WT h e a;exact⟨b,rfl⟩
end
section
open Go
def D5(l:List By):LL:=l.map λs=>[SV.str s]
def D2(l:List Nat):LL:=l.map λn=>[SV.int .u16 (Int.ofNat n)]
def M7(c:UInt8):By->By->List By
 | a,[]=>[a]
 | a,b::r=>if b=c then a::M7 c [] r else M7 c (a++[b]) r
def pcs(c:UInt8)(s:By):List By:=M7 c [] s
def Jy(c:UInt8):∀(s a:By),(M7 c a s).length=s.count c+1
 | [],a=>rfl
 | b::r,a=>by
  simp only[M7,List.count_cons];by_cases h:b=c
  ·simp[h,Jy c r]
  ·simp[h,Jy c r]
def Zj(c:UInt8):∀(s a:By),c∉s->M7 c a s=[a++s]
 | [],a,_=>by simp[M7]
 | b::r,a,h=>by
  simp only[x6,not_or] at h;simp only[M7];rw[if_neg (λe=>h.1 e.symm),Zj c r _ h.2];simp
def FO(c:UInt8):∀(p a s:By),c∉p->M7 c a (p++c::s)=(a++p)::M7 c [] s
 | [],a,s,_=>by simp[M7]
 | b::r,a,s,h=>by
  simp only[x6,not_or] at h;simp only[ad3,M7];rw[if_neg (λe=>h.1 e.symm),FO c r _ s h.2];simp
def Bn6(c:UInt8)(s a:By):M7 c a s≠[]:=by intro h;have:=Jy c s a;rw[h] at this;simp at this
def Qy(c:UInt8):∀(s a:By),c∉a->∀x∈M7 c a s,c∉x/\x.length<=a.length+s.length
 | [],a,h,x,d=>by
  simp only[M7,List.mem_singleton] at d;subst d;exact⟨h,by simp⟩
 | b::r,a,h,x,d=>by
  simp only[M7] at d;split at d
  ·rcases x6.1 d with rfl|d
   ·exact⟨h,by simp⟩
   ·have:=Qy c r [] (by simp) x d;refine⟨this.1,?_⟩;have:=this.2;simp at this ⊢;omega
  ·rename_i e;have:=Qy c r (a++[b]) (by simp[h,Ne.symm e]) x d;refine⟨this.1,?_⟩;have:=this.2;simp at this ⊢;omega
def Y3(b:UInt8):UInt8:=if 65<=b/\b<=90 then b+32 else b
def B6(s:By):By:=s.map Y3
def dig(b:UInt8):Nat:=
 if 48<=b.toNat/\b.toNat<=57 then b.toNat-48 else if 97<=b.toNat/\b.toNat<=102 then b.toNat-87 else if 65<=b.toNat/\b.toNat<=70 then b.toNat-55 else 99
def X3:Nat:=1099511627776
def F0(base:Nat):Nat->By->Option Nat
 | n,[]=>some n
 | n,b::r=>if dig b<base then F0 base (min (n*base+dig b) X3) r else none
def Z4(s:By):Bool:=s.getD 0 0==48&&(s.getD 1 0==120||s.getD 1 0==88)
def Ah(s:By):Option Nat:=
 if s=[] then none else if Z4 s then F0 16 0 (s.drop 2) else if 1<s.length/\s.getD 0 0=48 then F0 8 0 (s.drop 1) else F0 10 0 s
def C8(s:By):List By:=if 1<(pcs 46 s).length/\(pcs 46 s).getLastD []=[] then (pcs 46 s).dropLast else pcs 46 s
def Dh(s:By):By:=(C8 s).getLastD []
def E9(s:By):Bool:=if Z4 (Dh s) then (F0 16 0 ((Dh s).drop 2)).isSome else !(Dh s).isEmpty&&(F0 10 0 (Dh s)).isSome
def Vf(free:Nat):Nat->List By->Option Nat
 | _,[]=>none
 | v,p::r=>match Ah p with
  | none=>none
  | some n=>match r with
   | []=>if n<2 ^ free then some (v*2 ^ free+n) else none
   | r=>if n<=255 then Vf free (v*256+n) r else none
def pnB(s:By):Option Nat:=if 4<(C8 s).length then none else Vf (8*(5-(C8 s).length)) 0 (C8 s)
def oct(s:By):Option Nat:=match F0 10 0 s with
 | some n=>if n<=255/\y7 n=s then some n else none
 | none=>none
def MN:Nat->List By->Option Nat
 | v,[]=>some v
 | v,p::r=>match oct p with
  | some n=>MN (v*256+n) r
  | none=>none
def v4B(s:By):Option Nat:=if (pcs 46 s).length=4 then MN 0 (pcs 46 s) else none
def V4(v:Nat):By:=y7 (v / 16777216)++46::(y7 (v / 65536 % 256)++46::(y7 (v / 256 % 256)++46::y7 (v % 256)))
def An:Nat->By->Option Nat
 | n,[]=>some n
 | n,b::r=>if dig b<16 then An (n*16+dig b) r else none
def grp(s:By):Option Nat:=if s=[]\/4<s.length then none else An 0 s
def De(last:Bool):List By->Option (List Nat)
 | []=>some []
 | x::r=>match grp x with
  | some v=>(De last r).map (v::·)
  | none=>match v4B x with
   | some v=>if last=true/\r=[] then some [v / 65536,v % 65536] else none
   | none=>none
def P6(s:By)(last:Bool):Option (List Nat):=if s=[] then some [] else De last (pcs 58 s)
def v6B(s:By):Option (List Nat):=
 match P6 (af1 s [58,58]).1 (!(af1 s [58,58]).2.2),P6 (af1 s [58,58]).2.1 true with
 | some x,some y=>if (af1 s [58,58]).2.2 then (if x.length+y.length<=7 then some (x++w8 (8-x.length-y.length) 0++y) else none)
   else if x.length+y.length=8 then some (x++y) else none
 | _,_=>none
def Nv(l:List Nat):Nat:=(l.takeWhile (· == 0)).length
def zGo:List Nat->Nat->Nat->Nat->Nat × Nat
 | [],_,z,m=>(z,m)
 | x::r,i,z,m=>if m<Nv (x::r) then zGo r (i+1) i (Nv (x::r)) else zGo r (i+1) z m
def Lh(n:Nat):UInt8:=if n<10 then aa0 (48+n) else aa0 (87+n)
def P9(v:Nat):By:=if h:v<16 then [Lh v] else P9 (v / 16)++[Lh (v % 16)]
 termination_by v
 decreasing_by omega
def K7(l:List Nat):By:=ah4 (l.map P9) [58]
def Ao(a:List Nat):By:=if (zGo a 0 0 0).2<2 then K7 a else K7 (a.take (zGo a 0 0 0).1)++58::58::K7 (a.drop ((zGo a 0 0 0).1+(zGo a 0 0 0).2))
def W8(n:Nat):Bool:=o5 n 1114111&&(ai7 n 55296||ai7 57343 n)
def AY(d k:Nat):Nat:=if h:455<d then AY (d / 35) (k+36) else k+36*d / (d+38)
 termination_by d
 decreasing_by omega
def R5(delta count:Nat)(first:Bool):Nat:=
 let d:=if first then delta / 700 else delta / 2
 AY (d+d / count) 0
def thr(k a:Nat):Nat:=max 1 (min 26 (36*(k+1)-a))
def X8(k a:Nat):1<=thr k a/\thr k a<=26:=by unfold thr;omega
def Bc(d:Nat):UInt8:=if d<26 then aa0 (97+d) else aa0 (22+d)
def Oz(b:UInt8):Option Nat:=
 if 97<=b.toNat/\b.toNat<=122 then some (b.toNat-97) else if 65<=b.toNat/\b.toNat<=90 then some (b.toNat-65) else if 48<=b.toNat/\b.toNat<=57 then some (b.toNat-22) else none
def Q6(q k a:Nat):By:=
 if h:q<thr k a then [Bc q] else Bc (thr k a+(q-thr k a) % (36-thr k a))::Q6 ((q-thr k a) / (36-thr k a)) (k+1) a
 termination_by q
 decreasing_by
  have:=X8 k a;exact Nat.lt_of_le_of_lt (Nat.div_le_self _ _) (by omega)
structure TO where
 delta:Nat
 bias:Nat
 done:Nat
 out:By
def I5(n a:Nat):List Nat->TO->TO
 | [],s=>s
 | p::r,s=>if p<n then I5 n a r { s with delta:=s.delta+1 }
  else if p=n then I5 n a r { delta:=0,bias:=R5 s.delta (s.done+1) (s.done==a),done:=s.done+1,out:=s.out++Q6 s.delta 0 s.bias }
  else I5 n a r s
def I2(n:Nat):List Nat->Nat->Nat
 | [],m=>m
 | p::r,m=>I2 n r (if n<=p then min m p else m)
def T0(b:List Nat)(a:Nat):Nat->Nat->TO->TO
 | 0,_,s=>s
 | f+1,n,s=>if s.done<b.length then
   let m:=I2 n b 1114112;let c:=I5 m a b { s with delta:=s.delta+(m-n)*(s.done+1) }
   T0 b a f (m+1) { c with delta:=c.delta+1 }
  else s
def J1(a:List Nat):By:=(a.filter (· < 128)).map aa0
def Du(a:List Nat):By × Nat:=
 if 256<a.length then ([],3) else if !(a.all W8) then ([],2)
 else ((T0 a (J1 a).length 256 128 { delta:=0,bias:=72,done:=(J1 a).length,out:=if (J1 a).isEmpty then [] else J1 a++[45] }).out,0)
def E0(a:Nat):By->Nat->Nat->Nat->Nat × By × Nat
 | [],i,w,k=>(0,[],4)
 | b::r,i,w,k=>match Oz b with
  | none=>(0,[],4)
  | some x=>if X3<i+x*w then (0,[],19) else if x<thr k a then (i+x*w,r,0)
   else if X3<w*(36-thr k a) then (0,[],19) else E0 a r (i+x*w) (w*(36-thr k a)) (k+1)
def Rs(a:Nat):∀(s:By) (i w k:Nat),(E0 a s i w k).2.2=0->(E0 a s i w k).2.1.length<s.length
 | [],i,w,k,h=>by simp[E0] at h
 | b::r,i,w,k,h=>by
  unfold E0 at h ⊢;cases d:Oz b with
  | none=>simp[d] at h
  | some x=>
   simp only[d] at h ⊢;split at h
   ·simp at h
   ·rename_i e;rw[if_neg e];split at h
    ·rename_i c;rw[if_pos c];simp
    ·rename_i c;rw[if_neg c];split at h
     ·simp at h
     ·rename_i f;rw[if_neg f];have:=Rs a r _ _ _ h;simp only[ad5];omega
def W7(l:List Nat)(i n:Nat):List Nat:=l.take i++n::l.drop i
def I1(s:By)(b:List Nat)(n i a:Nat)(first:Bool):List Nat × Nat:=
 if e:s=[] then (b,0) else
  let q:=E0 a s i 1 0
  if d:q.2.2=0 then
   let count:=b.length+1;let c:=n+q.1 / count
   if W8 c then (if 256<count then ([],3) else I1 q.2.1 (W7 b (q.1 % count) c) c (q.1 % count+1) (R5 (q.1-i) count first) false)
   else ([],2)
  else ([],q.2.2)
 termination_by s.length
 decreasing_by exact Rs a s i 1 0 d
def H5:By->Nat
 | []=>0
 | b::r=>if 45∈r then H5 r+1 else 0
def O5(s:By):List Nat × Nat:=
 if 1024<s.length then ([],3) else if s.any (λb=>o5 128 b.toNat) then ([],4)
 else if 256<H5 s then ([],3)
 else I1 (if H5 s=0 then s else s.drop (H5 s+1)) ((s.take (H5 s)).map (·.toNat)) 128 0 72 true
def W9:Nat->By->Option (List Nat)
 | 0,_=>some []
 | f+1,l=>if l=[] then some [] else if (ae6 l).1=65533/\(ae6 l).2=1 then none else (W9 f (l.drop (ae6 l).2)).map ((ae6 l).1::·)
def Df(s:By):Option (List Nat):=W9 s.length s
def Er(s:By):Bool:=
 (O5 s).2==0&&!((O5 s).1.any λp=>o5 65 p&&o5 p 90)&&((O5 s).1.any λp=>o5 128 p)&&(Du (O5 s).1).2==0&&(Du (O5 s).1).1==s
def L5(b:UInt8):Bool:=(o5 97 b.toNat&&o5 b.toNat 122)||(o5 48 b.toNat&&o5 b.toNat 57)||b==45||b==95
def xnB:By:=[120,110,45,45]
def K6(s:By):Bool:=
 !s.isEmpty&&o5 s.length 63&&s.getD 0 0 !=45&&s.getD (s.length-1) 0 !=45&&s.all L5&&(!(xnB.isPrefixOf s)||Er (s.drop 4))
def I7(s:By):By × Nat:=match Df s with
 | none=>([],4)
 | some p=>if 256<p.length then ([],3)
  else if p.length<s.length then (match Df (B6 s) with
   | none=>([],14)
   | some q=>if (Du q).2=0 then (if K6 (xnB++(Du q).1) then (xnB++(Du q).1,0) else ([],14)) else ([],14))
  else if K6 (B6 s) then (B6 s,0) else ([],14)
def R8:By->Option By
 | []=>some []
 | b::r=>if b=37 then (match r with
   | x::y::a=>if dig x<16/\dig y<16 then (R8 a).map (aa0 (16*dig x+dig y)::·) else none
   | _=>none)
  else (R8 r).map (b::·)
structure B5 where
 kind:Nat
 name:By
 v4:Nat
 v6:List Nat
 deriving DecidableEq
def z8:List Nat:=[0,0,0,0,0,0,0,0]
def L8:B5:=⟨0,[],0,z8⟩
def F6:List By->List By × Nat
 | []=>([],0)
 | x::r=>if (I7 x).2=0 then ((I7 x).1::(F6 r).1,(F6 r).2) else ([],(I7 x).2)
def G9(s:By):By:=if s.getLast? = some 46 then s.dropLast else s
def C3(s:By):B5 × Nat:=
 if 1024<s.length then (L8,3)
 else if s.head? = some 91 then (if s.getLast? = some 93/\2<=s.length then (match v6B ((s.take (s.length-1)).drop 1) with
   | some a=>(⟨3,[],0,a⟩,0)
   | none=>(L8,14)) else (L8,14))
 else match R8 s with
  | none=>(L8,14)
  | some t=>if E9 (G9 t) then (match pnB (G9 t) with
    | some v=>(⟨2,[],v,z8⟩,0)
    | none=>(L8,14))
   else if (F6 (pcs 46 (G9 t))).2=0 then (
    let name:=ah4 (F6 (pcs 46 (G9 t))).1 [46]
    if 253<name.length then (L8,3) else if E9 name then (L8,14) else (⟨1,name,0,z8⟩,0))
   else (L8,(F6 (pcs 46 (G9 t))).2)
def V0(s:By):Bool:=o5 s.length 253&&!(E9 s)&&(pcs 46 s).all K6
def K4(h:B5):Bool:=
 if h.kind=1 then V0 h.name&&h.v4==0&&h.v6==z8 else if h.kind=2 then h.name.isEmpty&&h.v6==z8 else if h.kind=3 then h.name.isEmpty&&h.v4==0 else false
def S8(h:B5):By:=if K4 h then (if h.kind=1 then h.name else if h.kind=2 then V4 h.v4 else 91::(Ao h.v6++[93])) else []
def Cq(a b:By):Bool:=V0 a&&V0 b&&(a==b||(46::a).isSuffixOf b)
def A3(n:Nat):Bool:=decide (n<=1000000000)
def TB{n:Nat}:A3 n=true↔n<=1000000000:=by simp[A3]
def isS:List SV->Bool|[.str _]=>true|_=>false
def elS(a:List SV):By:=(a.getD 0 .nilp).gS
def N8(o:Option Nat):Nat:=o.getD 0
def u8n(c:Int):UInt8:=aa0 c.toNat
def Ac7(s p:By):By:=if p.isSuffixOf s then s.take (s.length-p.length) else s
def Hu(s p:By):By:=if p.isPrefixOf s then s.drop p.length else s
def ltN(v:Int)(n:Nat):Bool:=match v with
 | .ofNat m=>o5 (m+1) n
 | .negSucc _=>false
def E3{v:Int}{n:Nat}:ltN v n=true↔0<=v/\v<(n:Int):=by
 cases v with
 | ofNat m=>
  simp only[ltN,ah9,Int.ofNat_eq_natCast];omega
 | negSucc m=>
  refine⟨λh=>(by cases h),λh=>?_⟩;have:=Int.negSucc_lt_zero m;omega
def Je(b:Nat):List PV->Tr
 | [.s (.int .i64 n)]=>.need (ltN n b) (.ret (.s (.str (y7 (p7 n)))) [])
 | _=>.fail
def Me(b:Nat)(args:List PV):Tr:=Je b (C2 [[0]] args)
def gvs(s:By)(last:Bool):List Nat:=(P6 s last).getD []
def v6c(i:Nat)(s:By):Nat:=((v6B s).getD z8).getD i 0
def n8(a b c d e f g h:Int):List Nat:=[a.toNat,b.toNat,c.toNat,d.toNat,e.toNat,f.toNat,g.toNat,h.toNat]
def ok8(a b c d e f g h:Int):Bool:=[a,b,c,d,e,f,g,h].all λx=>ltN x 65536
def Xr:List SV->Bool|[.int .u16 n]=>ltN n 65536|_=>false
def elN(a:List SV):Nat:=(a.getD 0 .nilp).gI.toNat
def KX(s:By):Int:=af2 s [58,58]
def ptI(n:Int):Bool:=match n with | .ofNat m=>W8 m | .negSucc _=>false
def E5(b:UInt8):Int:=match Oz b with|some n=>n|none=>-1
def L9(k b:Int):Int:=max 1 (min 26 (k+36-b))
def Ou:List SV->Bool|[.int .i64 _]=>true|_=>false
def elI(a:List SV):Int:=(a.getD 0 .nilp).gI
def Y2(l:List Int):By × Nat:=if 256<l.length then ([],3) else if l.all ptI then Du (l.map p7) else ([],2)
def V2(b:Int):By->Int->Int->Int->Int × By × Int
 | [],i,w,k=>(4,[],i)
 | c::r,i,w,k=>if E5 c<0 then (4,c::r,i) else if 1099511627776<i+E5 c*w then (19,r,i+E5 c*w)
  else if E5 c<L9 k b then (0,r,i+E5 c*w) else if 1099511627776<w*(36-L9 k b) then (19,r,i+E5 c*w)
  else V2 b r (i+E5 c*w) (w*(36-L9 k b)) (k+36)
def MK(b:Int)(s:By)(i:Int):Int:=(V2 b s i 1 0).1
def MM(b:Int)(s:By)(i:Int):By:=(V2 b s i 1 0).2.1
def Ve(b:Int)(s:By)(i:Int):Int:=(V2 b s i 1 0).2.2
def Na(l:List (List SV))(i:Nat)(n:Int):List (List SV):=l.take i++[SV.int .i64 n]::l.drop i
structure DS where
 rest:By
 n:Int
 i:Int
 b:Int
 st:Bool
 l:List (List SV)
def F7(s:DS):Int × DS:=
 if MK s.b s.rest s.i=0 then
  let c:Int:=s.l.length+1;let x:=Ve s.b s.rest s.i;let d:DS:={ rest:=MM s.b s.rest s.i,n:=s.n+Int.tdiv x c,i:=Int.tmod x c,b:=R5 (x-s.i).toNat c.toNat (!s.st),st:=true,l:=s.l }
  if ptI d.n then (if 256<c then (3,d) else (0,{ d with i:=d.i+1,l:=Na s.l d.i.toNat d.n })) else (2,d)
 else (MK s.b s.rest s.i,{ s with rest:=MM s.b s.rest s.i,i:=Ve s.b s.rest s.i })
def L2(c:UInt8):By->Int
 | []=>-1
 | b::r=>if L2 c r<0 then (if b=c then 0 else -1) else L2 c r+1
def Ni(l:List Nat):List (List SV):=l.map λx:Nat=>[SV.int .i64 (x:Int)]
def Sr(s:By):List Nat:=(Df s).getD []
def Fz(b:UInt8):Int:=if dig b<16 then dig b else -1
def Gg(s:By):By:=(R8 s).getD []
def R1(s:By):B5 × Nat:=if s.getLast? = some 93/\2<=s.length then (match v6B ((s.take (s.length-1)).drop 1) with
 | some a=>(⟨3,[],0,a⟩,0)
 | none=>(L8,14)) else (L8,14)
def mkH(b:Int)(c:By)(v4:Int)(a:List Nat):B5:=⟨if ltN b 4 then b.toNat else 0,c,v4.toNat,a⟩
def Fs(n:Int)(l:List By):Bool:=l.all λs=>!(ltI n (s.length:Int))
def Cs6(s:By):Bool:=([91]:By).isPrefixOf s
end
section
open Go Go.Proofs
set_option maxRecDepth 100000
section
def Tj:List PV->Tr
 | [.s (.str s),.s (.str p),.s (.int .i64 v),.s (.int .i64 n)]=>.need (A3 (a8 s)) (.need ((a8 p)==1) (.need (v==(0:Int)) (.need (n==((-1):Int)) (.ret (.vw 0 0 (a8 (pcs (j6 p 0 0) s))) [.arr false 9 1 (D5 (pcs (j6 p 0 0) s))]))))
 | _=>.fail
def AA(args:List PV):Tr:=Tj (C2 [[0],[0],[0],[0]] args)
def Tv:List PV->Tr
 | [.s (.str s),.s (.str p)]=>.need (A3 (a8 s)) (.need ((a8 p)==1) (.ret (.vw 0 0 (a8 (pcs (j6 p 0 0) s))) [.arr false 9 1 (D5 (pcs (j6 p 0 0) s))]))
 | _=>.fail
def PY(args:List PV):Tr:=Tv (C2 [[0],[0]] args)
def UN:List PV->Tr
 | [.s (.str s),.s (.str p)]=>.need (A3 (a8 s)) (.ret (.s (.bool (ac4 p s))) [])
 | _=>.fail
def UM(args:List PV):Tr:=UN (C2 [[0],[0]] args)
def UD:List PV->Tr
 | [.s (.str s),.s (.str p)]=>.need (A3 (a8 s)) (.ret (.s (.bool (ac4 p s))) [])
 | _=>.fail
def HV(args:List PV):Tr:=UD (C2 [[0],[0]] args)
def UQ:List PV->Tr
 | [.s (.str s),.s (.str p)]=>.need (A3 (a8 s)) (.ret (.s (.bool (ah0 p s))) [])
 | _=>.fail
def Az5(args:List PV):Tr:=UQ (C2 [[0],[0]] args)
def UE:List PV->Tr
 | [.s (.str s),.s (.str p)]=>.need (A3 (a8 s)) (.ret (.s (.bool (ah0 p s))) [])
 | _=>.fail
def Ck8(args:List PV):Tr:=UE (C2 [[0],[0]] args)
def IF:List PV->Tr
 | [.s (.str s),.s (.str p)]=>.need (A3 (a8 s)) (.ret (.s (.str (Ac7 s p))) [])
 | _=>.fail
def Bs4(args:List PV):Tr:=IF (C2 [[0],[0]] args)
def JN:List PV->Tr
 | [.s (.str s),.s (.str p)]=>.need (A3 (a8 s)) (.ret (.s (.str (Ac7 s p))) [])
 | _=>.fail
def Bu2(args:List PV):Tr:=JN (C2 [[0],[0]] args)
def IA:List PV->Tr
 | [.s (.str s),.s (.str p)]=>.need (A3 (a8 s)) (.ret (.tup [.s (.str (Hu s p)),.s (.bool (ac4 p s))]) [])
 | _=>.fail
def Bs1(args:List PV):Tr:=IA (C2 [[0],[0]] args)
def TQ:List PV->Tr
 | [.s (.str s),.s (.str p)]=>.need (A3 (a8 s)) (.ret (.tup [.s (.str (Hu s p)),.s (.bool (ac4 p s))]) [])
 | _=>.fail
def Ay8(args:List PV):Tr:=TQ (C2 [[0],[0]] args)
def WB:List PV->Tr
 | [.s (.str s),.s (.str p)]=>.need (A3 (a8 s)) (.ret (.s (.int .i64 (af2 s p))) [])
 | _=>.fail
def JH(args:List PV):Tr:=WB (C2 [[0],[0]] args)
def VZ:List PV->Tr
 | [.s (.str s),.s (.str p)]=>.need ((a8 p)==1) (.ret (.s (.int .i64 (↑(List.count (j6 p 0 0) s):Int))) [])
 | _=>.fail
def A06(args:List PV):Tr:=VZ (C2 [[0],[0]] args)
def HP:List PV->Tr
 | [.s (.str s),.s (.int .i64 n)]=>.fail
 | _=>.fail
def Kt(args:List PV):Tr:=HP (C2 [[0],[0]] args)
def Zz:List PV->Tr
 | [.s (.str s),.s (.str p),.s (.int .i64 v),.s (.int .i64 n)]=>.need (A3 (a8 s)) (.need ((a8 p)==1) (.need (v==(0:Int)) (.need (n==((-1):Int)) (.ret (.s (.sl false false 1 (D5 (pcs (j6 p 0 0) s)))) []))))
 | _=>.fail
def Af2(args:List PV):Tr:=Zz (C2 [[0],[0],[0],[0]] args)
def AS:List PV->Tr
 | [.s (.str s),.s (.str p)]=>.need (A3 (a8 s)) (.need ((a8 p)==1) (.ret (.s (.sl false false 1 (D5 (pcs (j6 p 0 0) s)))) []))
 | _=>.fail
def Wi(args:List PV):Tr:=AS (C2 [[0],[0]] args)
def UJ:List PV->Tr
 | [.s (.int .i64 n)]=>.need (ltN n 4294967296) (.ret (.s (.str (y7 (p7 n)))) [])
 | _=>.fail
def Az3(args:List PV):Tr:=UJ (C2 [[0]] args)
def UL:List PV->Tr
 | [.s (.str s)]=>.need (A3 (a8 s)) (.ret (.s (.str (B6 s))) [])
 | _=>.fail
def Az4(args:List PV):Tr:=UL (C2 [[0]] args)
def UB:List PV->Tr
 | [.s (.str s)]=>.need (A3 (a8 s)) (.ret (.s (.bool (Z4 s))) [])
 | _=>.fail
def Az0(args:List PV):Tr:=UB (C2 [[0]] args)
def TT:List PV->Tr
 | [.s (.str s),.s (.int .i64 base)]=>.need (A3 (a8 s)) (.need (ltN base 17) (.ret (.tup [.s (.int .i64 (↑(N8 (F0 (p7 base) 0 s)):Int)),.s (.bool (o0 (F0 (p7 base) 0 s)))]) []))
 | _=>.fail
def TS(args:List PV):Tr:=TT (C2 [[0],[0]] args)
def Az6:List PV->Tr
 | [.s (.str s)]=>.need (A3 (a8 s)) (.ret (.tup [.s (.int .i64 (↑(N8 (Ah s)):Int)),.s (.bool (o0 (Ah s)))]) [])
 | _=>.fail
def Cl1(args:List PV):Tr:=Az6 (C2 [[0]] args)
def IJ:List PV->Tr
 | [.s (.str s)]=>.need (A3 (a8 s)) (.ret (.s (.sl false false 1 (D5 (C8 s)))) [])
 | _=>.fail
def UV(args:List PV):Tr:=IJ (C2 [[0]] args)
def Tk:List PV->Tr
 | [.s (.str s)]=>.need (A3 (a8 s)) (.ret (.s (.bool (E9 s))) [])
 | _=>.fail
def Ri(args:List PV):Tr:=Tk (C2 [[0]] args)
def UZ:List PV->Tr
 | [.s (.str s)]=>.need (A3 (a8 s)) (.ret (.tup [.s (.int .u32 (↑(N8 (pnB s)):Int)),.s (.bool (o0 (pnB s)))]) [])
 | _=>.fail
def Cl3(args:List PV):Tr:=UZ (C2 [[0]] args)
def A11:List PV->Tr
 | [.s (.str s)]=>.need (A3 (a8 s)) (.ret (.tup [.s (.int .u32 (↑(N8 (v4B s)):Int)),.s (.bool (o0 (v4B s)))]) [])
 | _=>.fail
def Du1(args:List PV):Tr:=A11 (C2 [[0]] args)
def A10:List PV->Tr
 | [.s (.int .u32 v)]=>.need (ltN v 4294967296) (.ret (.s (.str (V4 (p7 v)))) [])
 | _=>.fail
def Du0(args:List PV):Tr:=A10 (C2 [[0]] args)
def Tl:List PV->Tr
 | [.s (.str s)]=>.need (A3 (a8 s)) (.ret (.s (.bool ((not (x5 s))&&(o0 (F0 10 0 s))))) [])
 | _=>.fail
def PT(args:List PV):Tr:=Tl (C2 [[0]] args)
def VI:List PV->Tr
 | [.s (.str s)]=>.need (A3 (a8 s)) (.ret (.s (.str (B6 s))) [])
 | _=>.fail
def A03(args:List PV):Tr:=VI (C2 [[0]] args)
def AN:List PV->Tr
 | [.s (.str s),.s (.int .u8 c)]=>.need (A3 (a8 s)) (.need (inR c 256) (.ret (.s (.sl false false 1 (D5 (pcs (u8n c) s)))) []))
 | _=>.fail
def Ku(args:List PV):Tr:=AN (C2 [[0],[0]] args)
def Ay9:List PV->Tr
 | [.s (.int .i64 n)]=>.need (ltN n 4294967296) (.ret (.s (.str (y7 (p7 n)))) [])
 | _=>.fail
def Zy(args:List PV):Tr:=Ay9 (C2 [[0]] args)
def VD:List PV->Tr
 | [.s (.int .u8 b)]=>.need (inR b 256) (.ret (.s (.int .i64 (↑(dig (u8n b)):Int))) [])
 | _=>.fail
def Cl5(args:List PV):Tr:=VD (C2 [[0]] args)
def VK:List PV->Tr
 | [.s (.str s)]=>.need (A3 (a8 s)) (.ret (.tup [.s (.int .i64 (↑(N8 (Ah s)):Int)),.s (.bool (o0 (Ah s)))]) [])
 | _=>.fail
def A04(args:List PV):Tr:=VK (C2 [[0]] args)
def AL:List PV->Tr
 | [.s (.str s)]=>.need (A3 (a8 s)) (.ret (.s (.sl false false 1 (D5 (C8 s)))) [])
 | _=>.fail
def IV(args:List PV):Tr:=AL (C2 [[0]] args)
def Pk:List PV->Tr
 | [.s (.str s)]=>.need (A3 (a8 s)) (.ret (.s (.bool (E9 s))) [])
 | _=>.fail
def Tp(args:List PV):Tr:=Pk (C2 [[0]] args)
def IX:List PV->Tr
 | [.s (.str s)]=>.need (A3 (a8 s)) (.ret (.tup [.s (.int .u32 (↑(N8 (pnB s)):Int)),.s (.bool (o0 (pnB s)))]) [])
 | _=>.fail
def Bt5(args:List PV):Tr:=IX (C2 [[0]] args)
def VC:List PV->Tr
 | [.s (.str s)]=>.need (A3 (a8 s)) (.ret (.tup [.s (.int .i64 (↑(N8 (oct s)):Int)),.s (.bool (o0 (oct s)))]) [])
 | _=>.fail
def Cl4(args:List PV):Tr:=VC (C2 [[0]] args)
def VV:List PV->Tr
 | [.s (.str s)]=>.need (A3 (a8 s)) (.ret (.tup [.s (.int .u32 (↑(N8 (v4B s)):Int)),.s (.bool (o0 (v4B s)))]) [])
 | _=>.fail
def Cl9(args:List PV):Tr:=VV (C2 [[0]] args)
def VU:List PV->Tr
 | [.s (.int .u32 v)]=>.need (ltN v 4294967296) (.ret (.s (.str (V4 (p7 v)))) [])
 | _=>.fail
def Cl8(args:List PV):Tr:=VU (C2 [[0]] args)
def TX:List PV->Tr
 | [.s (.str s)]=>.need (A3 (a8 s)) (.ret (.tup [.s (.int .u16 (↑(N8 (grp s)):Int)),.s (.bool (o0 (grp s)))]) [])
 | _=>.fail
def Ck4(args:List PV):Tr:=TX (C2 [[0]] args)
def HT:List PV->Tr
 | [.s (.str s),.s (.bool last)]=>.need (A3 (a8 s)) (.ret (.tup [.s (.sl (x5 (gvs s last)) (x5 (gvs s last)) 1 (D2 (gvs s last))),.s (.bool (o0 (P6 s last)))]) [])
 | _=>.fail
def Br8(args:List PV):Tr:=HT (C2 [[0],[0]] args)
def A14:List PV->Tr
 | [.s (.str s)]=>.need (A3 (a8 s)) (.ret (.tup [.agg [.s (.int .u16 (↑(v6c 0 s):Int)),.s (.int .u16 (↑(v6c 1 s):Int)),.s (.int .u16 (↑(v6c 2 s):Int)),.s (.int .u16 (↑(v6c 3 s):Int)),.s (.int .u16 (↑(v6c 4 s):Int)),.s (.int .u16 (↑(v6c 5 s):Int)),.s (.int .u16 (↑(v6c 6 s):Int)),.s (.int .u16 (↑(v6c 7 s):Int))],.s (.bool (o0 (v6B s)))]) [])
 | _=>.fail
def Du4(args:List PV):Tr:=A14 (C2 [[0]] args)
def JS:List PV->Tr
 | [.agg [.s (.int .u16 a),.s (.int .u16 b),.s (.int .u16 c),.s (.int .u16 d),.s (.int .u16 e),.s (.int .u16 f),.s (.int .u16 g),.s (.int .u16 h)]]=>.need (ok8 a b c d e f g h) (.ret (.tup [.s (.int .i64 (↑((zGo (n8 a b c d e f g h) 0 0 0)).1:Int)),.s (.int .i64 (↑((zGo (n8 a b c d e f g h) 0 0 0)).2:Int))]) [])
 | _=>.fail
def Bu3(args:List PV):Tr:=JS (C2 [[0,0,0,0,0,0,0,0]] args)
def Cm4:List PV->Tr
 | [.s (.int .u64 x)]=>.need (x==(16:Int)) (.ret (.s (.int .i64 (4:Int))) [])
 | _=>.fail
def Dw3(args:List PV):Tr:=Cm4 (C2 [[0]] args)
def HX:List PV->Tr
 | [.s (.int .i64 x)]=>.need (x==(16:Int)) (.ret (.s (.bool true)) [])
 | _=>.fail
def UI(args:List PV):Tr:=HX (C2 [[0]] args)
def HQ:List PV->Tr
 | [.s (.sl c a 0 ds),.s (.int .u64 v),.s (.int .i64 b),.s (.bool neg),.s (.bool app)]=>.need (ltN v 65536) (.need (b==(16:Int)) (.need (not neg) (.need (not app) (.ret (.tup [.s (.sl true true 1 List.nil),.s (.str (P9 (p7 v)))]) []))))
 | _=>.fail
def TV(args:List PV):Tr:=HQ (C2 [[0],[0],[0],[0],[0]] args)
def HW:List PV->Tr
 | [.s (.int .u64 v),.s (.int .i64 b)]=>.need (ltN v 65536) (.need (b==(16:Int)) (.ret (.s (.str (P9 (p7 v)))) []))
 | _=>.fail
def UH(args:List PV):Tr:=HW (C2 [[0],[0]] args)
def TW:List PV->Tr
 | [.s (.int .u64 v),.s (.int .i64 b)]=>.need (ltN v 65536) (.need (b==(16:Int)) (.ret (.s (.str (P9 (p7 v)))) []))
 | _=>.fail
def Ck3(args:List PV):Tr:=TW (C2 [[0],[0]] args)
def JK:List PV->Tr
 | [.s (.sl b a 1 l),.s (.str p)]=>.need (af7 l isS) (.need (A3 (a8 (ah4 (ab7 elS l) p))) (.need (A3 (a8 l)) (.ret (.s (.str (ah4 (ab7 elS l) p))) [])))
 | _=>.fail
def WE(args:List PV):Tr:=JK (C2 [[1],[0]] args)
def WA:List PV->Tr
 | [.s (.str s),.s (.str p)]=>.need (A3 (a8 s)) (.ret (.tup [.s (.str ((af1 s p)).1),.s (.str (((af1 s p)).2).1),.s (.bool (((af1 s p)).2).2)]) [])
 | _=>.fail
def A07(args:List PV):Tr:=WA (C2 [[0],[0]] args)
def A13:List PV->Tr
 | [.s (.sl b a 1 l)]=>.need (af7 l Xr) (.need (o5 (a8 l) 8) (.ret (.s (.str (K7 (ab7 elN l)))) []))
 | _=>.fail
def Du3(args:List PV):Tr:=A13 (C2 [[1]] args)
def A12:List PV->Tr
 | [.agg [.s (.int .u16 a),.s (.int .u16 b),.s (.int .u16 c),.s (.int .u16 d),.s (.int .u16 e),.s (.int .u16 f),.s (.int .u16 g),.s (.int .u16 h)]]=>.need (ok8 a b c d e f g h) (.ret (.s (.str (Ao (n8 a b c d e f g h)))) [])
 | _=>.fail
def Du2(args:List PV):Tr:=A12 (C2 [[0,0,0,0,0,0,0,0]] args)
def VF:List PV->Tr
 | [.s (.str s)]=>.need (A3 (a8 s)) (.ret (.tup [.s (.int .u16 (↑(N8 (grp s)):Int)),.s (.bool (o0 (grp s)))]) [])
 | _=>.fail
def Cl6(args:List PV):Tr:=VF (C2 [[0]] args)
def IN:List PV->Tr
 | [.s (.str s),.s (.bool last)]=>.need (A3 (a8 s)) (.ret (.tup [.s (.sl (x5 (gvs s last)) (x5 (gvs s last)) 1 (D2 (gvs s last))),.s (.bool (o0 (P6 s last)))]) [])
 | _=>.fail
def Bs8(args:List PV):Tr:=IN (C2 [[0],[0]] args)
def Tm:List PV->Tr
 | [.s (.str s)]=>.need (A3 (a8 s)) (.ret (.s (.int .i64 (KX s))) [])
 | _=>.fail
def PU(args:List PV):Tr:=Tm (C2 [[0]] args)
def VX:List PV->Tr
 | [.s (.str s)]=>.need (A3 (a8 s)) (.ret (.tup [.agg [.s (.int .u16 (↑(v6c 0 s):Int)),.s (.int .u16 (↑(v6c 1 s):Int)),.s (.int .u16 (↑(v6c 2 s):Int)),.s (.int .u16 (↑(v6c 3 s):Int)),.s (.int .u16 (↑(v6c 4 s):Int)),.s (.int .u16 (↑(v6c 5 s):Int)),.s (.int .u16 (↑(v6c 6 s):Int)),.s (.int .u16 (↑(v6c 7 s):Int))],.s (.bool (o0 (v6B s)))]) [])
 | _=>.fail
def Cm1(args:List PV):Tr:=VX (C2 [[0]] args)
def IQ:List PV->Tr
 | [.s (.int .u16 v)]=>.need (ltN v 65536) (.ret (.s (.str (P9 (p7 v)))) [])
 | _=>.fail
def Bt1(args:List PV):Tr:=IQ (C2 [[0]] args)
def VW:List PV->Tr
 | [.agg [.s (.int .u16 a),.s (.int .u16 b),.s (.int .u16 c),.s (.int .u16 d),.s (.int .u16 e),.s (.int .u16 f),.s (.int .u16 g),.s (.int .u16 h)]]=>.need (ok8 a b c d e f g h) (.ret (.s (.str (Ao (n8 a b c d e f g h)))) [])
 | _=>.fail
def Cm0(args:List PV):Tr:=VW (C2 [[0,0,0,0,0,0,0,0]] args)
def AG:List PV->Tr
 | [.s (.int .i64 n)]=>.ret (.s (.bool (ptI n))) []
 | _=>.fail
def Pj(args:List PV):Tr:=AG (C2 [[0]] args)
def AF:List PV->Tr
 | [.s (.int .i64 d),.s (.int .i64 c),.s (.bool f)]=>.need (ltN d 1152921504606846976) (.need (ltN c 1000000) (.need (ltI (0:Int) c) (.ret (.s (.int .i64 (↑(R5 (p7 d) (p7 c) f):Int))) [])))
 | _=>.fail
def Pi(args:List PV):Tr:=AF (C2 [[0],[0],[0]] args)
def UX:List PV->Tr
 | [.s (.int .i64 d)]=>.need (ltN d 36) (.ret (.s (.int .u8 (↑(aj4 (Bc (p7 d))):Int))) [])
 | _=>.fail
def Az7(args:List PV):Tr:=UX (C2 [[0]] args)
def VB:List PV->Tr
 | [.s (.int .u8 b)]=>.need (inR b 256) (.ret (.s (.int .i64 (E5 (u8n b)))) [])
 | _=>.fail
def Az9(args:List PV):Tr:=VB (C2 [[0]] args)
def VA:List PV->Tr
 | [.s (.int .i64 b)]=>.ret (.fnr (ab5 253) [] [.ptr 1 0 0,.ptr 0 0 0]) [.box [.s (.int .i64 b)],.box [.s (.int .i64 (0:Int))]]
 | _=>.fail
def IK(args:List PV):Tr:=VA (C2 [[0]] args)
def Rj:List PV->List Blk->Tr
 | [.ptr 0 0 0,.ptr 1 0 0],[.box [.s (.int .i64 k)],.box [.s (.int .i64 b)]]=>.need (ltN k 1000000000000) (.need (ltN b 1000000) (.ret (.s (.int .i64 (L9 k b))) [.box [.s (.int .i64 (Int.add k (36:Int)))],.box [.s (.int .i64 b)]]))
 | _,_=>.fail
def UU:List PV->List Blk->Tr
 | [.fl 0,.s (.int .i64 q),.s (.int .i64 b)],[.arr z 5 1 l]=>.need (ltN q 1152921504606846976) (.need (ltN b 1000000) (.need (o5 (a8 l) 100000) (.ret (.fl 0) [.arr z 5 1 (List.append l (ab7 E4 (Q6 (p7 q) 0 (p7 b))))])))
 | _,_=>.fail
def UY:List PV->Tr
 | [.s (.sl b a 1 p)]=>.need (af7 p Ou) (.ret (.tup [.s (.str ((Y2 (ab7 elI p))).1),.s (.int .i64 (↑((Y2 (ab7 elI p))).2:Int))]) [])
 | _=>.fail
def Az8(args:List PV):Tr:=UY (C2 [[1]] args)
def WD:List PV->List Blk->Tr
 | [.fl 0,.s (.int .i64 i),.fl 1],[.arr z 3 1 l,.arr false 3 1 [[.int .i64 n]]]=>.need (ltN i (Nat.add (a8 l) 1)) (.need (o5 (a8 l) 100000) (.ret (.fl 0) [.arr z 3 1 (Na l (p7 i) n),.arr false 3 1 [[.int .i64 n]]]))
 | _,_=>.fail
def TU:List PV->List Blk->Tr
 | [.ptr 0 0 0],[.box [.s (.str a),.fl 1,.s (.int .i64 n),.s (.int .i64 i),.s (.int .i64 b),.s (.bool c)],.arr z 3 1 l]=>.need (A3 (a8 a)) (.need (ltN b 1000000) (.need (ltN i 1099511627777) (.ret (.s (.int .i64 (MK b a i))) [.box [.s (.str (MM b a i)),.fl 1,.s (.int .i64 n),.s (.int .i64 (Ve b a i)),.s (.int .i64 b),.s (.bool c)],.arr z 3 1 l])))
 | _,_=>.fail
def GB:List PV->List Blk->Tr
 | [.ptr 0 0 0],[.box [.s (.str a),.fl 1,.s (.int .i64 n),.s (.int .i64 i),.s (.int .i64 b),.s (.bool c)],.arr z 3 1 l]=>.need (A3 (a8 a)) (.need (ltN b 1000000) (.need (ltN i 1099511627777) (.need (ltN n 1152921504606846976) (.need (o5 (a8 l) 100000) (.ret (.s (.int .i64 ((F7 (DS.mk a n i b c l))).1)) [.box [.s (.str (DS.rest ((F7 (DS.mk a n i b c l))).2)),.fl 1,.s (.int .i64 (DS.n ((F7 (DS.mk a n i b c l))).2)),.s (.int .i64 (DS.i ((F7 (DS.mk a n i b c l))).2)),.s (.int .i64 (DS.b ((F7 (DS.mk a n i b c l))).2)),.s (.bool (DS.st ((F7 (DS.mk a n i b c l))).2))],.arr z 3 1 (DS.l ((F7 (DS.mk a n i b c l))).2)])))))
 | _,_=>.fail
def AC:List PV->Tr
 | [.s (.str s),.s (.int .u8 c)]=>.need (A3 (a8 s)) (.need (inR c 256) (.ret (.s (.int .i64 (L2 (u8n c) s))) []))
 | _=>.fail
def Af4(args:List PV):Tr:=AC (C2 [[0],[0]] args)
def HZ:List PV->Tr
 | [.s (.str s),.s (.int .u8 c)]=>.need (A3 (a8 s)) (.need (inR c 256) (.ret (.s (.int .i64 (L2 (u8n c) s))) []))
 | _=>.fail
def GC(args:List PV):Tr:=HZ (C2 [[0],[0]] args)
def UW:List PV->Tr
 | [.s (.str s)]=>.need (A3 (a8 s)) (.ret (.tup [.s (.sl (x5 ((O5 s)).1) (x5 ((O5 s)).1) 1 (Ni ((O5 s)).1)),.s (.int .i64 (↑((O5 s)).2:Int))]) [])
 | _=>.fail
def Cl2(args:List PV):Tr:=UW (C2 [[0]] args)
def Af0:List PV->Tr
 | [.s (.str t)]=>.fail
 | _=>.fail
def Wf(args:List PV):Tr:=Af0 (C2 [[0]] args)
def ID:List PV->Tr
 | [.s (.str t),.s (.str p),.s (.int .i64 n)]=>.ret (.fnr (ab5 177) [] [.ptr 1 0 0,.ptr 0 0 0,.ptr 2 0 0]) [.box [.s (.str t)],.box [.s (.str p)],.box [.s (.int .i64 n)]]
 | _=>.fail
def UP(args:List PV):Tr:=ID (C2 [[0],[0],[0]] args)
def WF:List PV->Tr
 | [.s (.str t),.s (.str p)]=>.ret (.fnr (ab5 177) [] [.ptr 1 0 0,.ptr 0 0 0,.ptr 2 0 0]) [.box [.s (.str t)],.box [.s (.str p)],.box [.s (.int .i64 (0:Int))]]
 | _=>.fail
def A08(args:List PV):Tr:=WF (C2 [[0],[0]] args)
def GD:List PV->List Blk->Option (Bool × List (List PV))
 | [.yd,.ptr 0 0 0,.ptr 1 0 0,.ptr 2 0 0],[.box [.s (.str p)],.box [.s (.str t)],.box [.s (.int .i64 n)]]=>some (((A3 (a8 t))&&(((a8 p)==1)&&(n==(0:Int)))),ab7 (λ(x:By)=>([.s (.str x)]:List PV)) (pcs (j6 p 0 0) t))
 | _,_=>none
def AM:List PV->Tr
 | [.s (.int .i64 n)]=>.ret (.s (.bool (ptI n))) []
 | _=>.fail
def Wg(args:List PV):Tr:=AM (C2 [[0]] args)
def AH:List PV->Tr
 | [.s (.int .i64 d),.s (.int .i64 c),.s (.bool f)]=>.need (ltN d 1152921504606846976) (.need (ltN c 1000000) (.need (ltI (0:Int) c) (.ret (.s (.int .i64 (↑(R5 (p7 d) (p7 c) f):Int))) [])))
 | _=>.fail
def IL(args:List PV):Tr:=AH (C2 [[0],[0],[0]] args)
def VO:List PV->Tr
 | [.s (.int .i64 k),.s (.int .i64 b)]=>.need (ltN k 10000000000) (.need (ltN b 1000000) (.ret (.s (.int .i64 (L9 (Int.mul (36:Int) k) b))) []))
 | _=>.fail
def A05(args:List PV):Tr:=VO (C2 [[0],[0]] args)
def IM:List PV->Tr
 | [.s (.int .i64 d)]=>.need (ltN d 36) (.ret (.s (.int .u8 (↑(aj4 (Bc (p7 d))):Int))) [])
 | _=>.fail
def Bs7(args:List PV):Tr:=IM (C2 [[0]] args)
def VY:List PV->Tr
 | [.s (.int .u8 b)]=>.need (inR b 256) (.ret (.s (.int .i64 (E5 (u8n b)))) [])
 | _=>.fail
def Cm2(args:List PV):Tr:=VY (C2 [[0]] args)
def VE:List PV->Tr
 | [.s (.sl b a 1 p)]=>.need (af7 p Ou) (.ret (.tup [.s (.str ((Y2 (ab7 elI p))).1),.s (.int .i64 (↑((Y2 (ab7 elI p))).2:Int))]) [])
 | _=>.fail
def A00(args:List PV):Tr:=VE (C2 [[1]] args)
def IW:List PV->Tr
 | [.s (.str s)]=>.need (A3 (a8 s)) (.ret (.tup [.s (.sl (x5 ((O5 s)).1) (x5 ((O5 s)).1) 1 (Ni ((O5 s)).1)),.s (.int .i64 (↑((O5 s)).2:Int))]) [])
 | _=>.fail
def Bt4(args:List PV):Tr:=IW (C2 [[0]] args)
def IB:List PV->Tr
 | [.s (.str s)]=>.need (A3 (a8 s)) (.ret (.s (.bool (Er s))) [])
 | _=>.fail
def Bs2(args:List PV):Tr:=IB (C2 [[0]] args)
def US:List PV->Tr
 | [.s (.str s)]=>.need (A3 (a8 s)) (.ret (.s (.bool (K6 s))) [])
 | _=>.fail
def UR(args:List PV):Tr:=US (C2 [[0]] args)
def AV:List PV->Tr
 | [.s (.str s)]=>.need (A3 (a8 s)) (.ret (.s (.bool (o0 (Df s)))) [])
 | _=>.fail
def Ag3(args:List PV):Tr:=AV (C2 [[0]] args)
def AT:List PV->Tr
 | [.s (.str s)]=>.need (A3 (a8 s)) (.ret (.s (.int .i64 (↑(Lib.runeCountL s):Int))) [])
 | _=>.fail
def Ag1(args:List PV):Tr:=AT (C2 [[0]] args)
def UK:List PV->Tr
 | [.s (.str s)]=>.need (A3 (a8 s)) (.ret (.tup [.s (.str ((I7 s)).1),.s (.int .i64 (↑((I7 s)).2:Int))]) [])
 | _=>.fail
def Cl0(args:List PV):Tr:=UK (C2 [[0]] args)
def VM:List PV->Tr
 | [.s (.str s)]=>.need (A3 (a8 s)) (.ret (.tup [.s (.sl (x5 (Sr s)) (x5 (Sr s)) 1 (Ni (Sr s))),.s (.bool (o0 (Df s)))]) [])
 | _=>.fail
def Cl7(args:List PV):Tr:=VM (C2 [[0]] args)
def IY:List PV->Tr
 | [.s (.str s)]=>.need (A3 (a8 s)) (.ret (.s (.bool (Er s))) [])
 | _=>.fail
def Bt6(args:List PV):Tr:=IY (C2 [[0]] args)
def IU:List PV->Tr
 | [.s (.str s)]=>.need (A3 (a8 s)) (.ret (.s (.bool (K6 s))) [])
 | _=>.fail
def VJ(args:List PV):Tr:=IU (C2 [[0]] args)
def IT:List PV->Tr
 | [.s (.str s)]=>.need (A3 (a8 s)) (.ret (.tup [.s (.str ((I7 s)).1),.s (.int .i64 (↑((I7 s)).2:Int))]) [])
 | _=>.fail
def Bt3(args:List PV):Tr:=IT (C2 [[0]] args)
def UA:List PV->Tr
 | [.s (.int .u8 b)]=>.need (inR b 256) (.ret (.s (.int .i64 (Fz (u8n b)))) [])
 | _=>.fail
def Ck7(args:List PV):Tr:=UA (C2 [[0]] args)
def TZ:List PV->Tr
 | [.s (.str s)]=>.need (A3 (a8 s)) (.ret (.tup [.s (.str (Gg s)),.s (.bool (o0 (R8 s)))]) [])
 | _=>.fail
def Ck6(args:List PV):Tr:=TZ (C2 [[0]] args)
def HU:List PV->Tr
 | [.s (.str s)]=>.need (A3 (a8 s)) (.need (Cs6 s) (.ret (.tup [.agg [.s (.int .i64 (↑(B5.kind ((R1 s)).1):Int)),.s (.str (B5.name ((R1 s)).1)),.s (.int .u32 (↑(B5.v4 ((R1 s)).1):Int)),.s (.int .u16 (↑(j6 (B5.v6 ((R1 s)).1) 0 0):Int)),.s (.int .u16 (↑(j6 (B5.v6 ((R1 s)).1) 1 0):Int)),.s (.int .u16 (↑(j6 (B5.v6 ((R1 s)).1) 2 0):Int)),.s (.int .u16 (↑(j6 (B5.v6 ((R1 s)).1) 3 0):Int)),.s (.int .u16 (↑(j6 (B5.v6 ((R1 s)).1) 4 0):Int)),.s (.int .u16 (↑(j6 (B5.v6 ((R1 s)).1) 5 0):Int)),.s (.int .u16 (↑(j6 (B5.v6 ((R1 s)).1) 6 0):Int)),.s (.int .u16 (↑(j6 (B5.v6 ((R1 s)).1) 7 0):Int))],.s (.int .i64 (↑((R1 s)).2:Int))]) []))
 | _=>.fail
def Br9(args:List PV):Tr:=HU (C2 [[0]] args)
def AB:List PV->Tr
 | [.s (.str s)]=>.need (A3 (a8 s)) (.ret (.tup [.agg [.s (.int .i64 (↑(B5.kind ((C3 s)).1):Int)),.s (.str (B5.name ((C3 s)).1)),.s (.int .u32 (↑(B5.v4 ((C3 s)).1):Int)),.s (.int .u16 (↑(j6 (B5.v6 ((C3 s)).1) 0 0):Int)),.s (.int .u16 (↑(j6 (B5.v6 ((C3 s)).1) 1 0):Int)),.s (.int .u16 (↑(j6 (B5.v6 ((C3 s)).1) 2 0):Int)),.s (.int .u16 (↑(j6 (B5.v6 ((C3 s)).1) 3 0):Int)),.s (.int .u16 (↑(j6 (B5.v6 ((C3 s)).1) 4 0):Int)),.s (.int .u16 (↑(j6 (B5.v6 ((C3 s)).1) 5 0):Int)),.s (.int .u16 (↑(j6 (B5.v6 ((C3 s)).1) 6 0):Int)),.s (.int .u16 (↑(j6 (B5.v6 ((C3 s)).1) 7 0):Int))],.s (.int .i64 (↑((C3 s)).2:Int))]) [])
 | _=>.fail
def Af3(args:List PV):Tr:=AB (C2 [[0]] args)
def Az2:List PV->Tr
 | [.s (.str s)]=>.need (A3 (a8 s)) (.ret (.s (.bool (V0 s))) [])
 | _=>.fail
def Ck9(args:List PV):Tr:=Az2 (C2 [[0]] args)
def UG:List PV->Tr
 | [.agg [.s (.int .i64 j),.s (.str i),.s (.int .u32 v4),.s (.int .u16 a),.s (.int .u16 b),.s (.int .u16 c),.s (.int .u16 d),.s (.int .u16 e),.s (.int .u16 f),.s (.int .u16 g),.s (.int .u16 h)]]=>.need (A3 (a8 i)) (.need (ltN v4 4294967296) (.need (ok8 a b c d e f g h) (.ret (.s (.bool (K4 (mkH j i v4 (n8 a b c d e f g h))))) [])))
 | _=>.fail
def UF(args:List PV):Tr:=UG (C2 [[0,0,0,0,0,0,0,0,0,0,0]] args)
def UC:List PV->Tr
 | [.agg [.s (.int .i64 j),.s (.str i),.s (.int .u32 v4),.s (.int .u16 a),.s (.int .u16 b),.s (.int .u16 c),.s (.int .u16 d),.s (.int .u16 e),.s (.int .u16 f),.s (.int .u16 g),.s (.int .u16 h)]]=>.need (A3 (a8 i)) (.need (ltN v4 4294967296) (.need (ok8 a b c d e f g h) (.ret (.s (.str (S8 (mkH j i v4 (n8 a b c d e f g h))))) [])))
 | _=>.fail
def Az1(args:List PV):Tr:=UC (C2 [[0,0,0,0,0,0,0,0,0,0,0]] args)
def TY:List PV->Tr
 | [.s (.str p),.s (.str s)]=>.need (A3 (a8 p)) (.need (A3 (a8 s)) (.ret (.s (.bool (Cq p s))) []))
 | _=>.fail
def Ck5(args:List PV):Tr:=TY (C2 [[0],[0]] args)
def A02:List PV->Tr
 | [.s (.int .u8 b)]=>.need (inR b 256) (.ret (.s (.int .i64 (Fz (u8n b)))) [])
 | _=>.fail
def Dt9(args:List PV):Tr:=A02 (C2 [[0]] args)
def IP:List PV->Tr
 | [.s (.str s)]=>.need (A3 (a8 s)) (.ret (.tup [.s (.str (Gg s)),.s (.bool (o0 (R8 s)))]) [])
 | _=>.fail
def Bt0(args:List PV):Tr:=IP (C2 [[0]] args)
def To:List PV->Tr
 | [.s (.str s)]=>.need (A3 (a8 s)) (.ret (.tup [.agg [.s (.int .i64 (↑(B5.kind ((C3 s)).1):Int)),.s (.str (B5.name ((C3 s)).1)),.s (.int .u32 (↑(B5.v4 ((C3 s)).1):Int)),.s (.int .u16 (↑(j6 (B5.v6 ((C3 s)).1) 0 0):Int)),.s (.int .u16 (↑(j6 (B5.v6 ((C3 s)).1) 1 0):Int)),.s (.int .u16 (↑(j6 (B5.v6 ((C3 s)).1) 2 0):Int)),.s (.int .u16 (↑(j6 (B5.v6 ((C3 s)).1) 3 0):Int)),.s (.int .u16 (↑(j6 (B5.v6 ((C3 s)).1) 4 0):Int)),.s (.int .u16 (↑(j6 (B5.v6 ((C3 s)).1) 5 0):Int)),.s (.int .u16 (↑(j6 (B5.v6 ((C3 s)).1) 6 0):Int)),.s (.int .u16 (↑(j6 (B5.v6 ((C3 s)).1) 7 0):Int))],.s (.int .i64 (↑((C3 s)).2:Int))]) [])
 | _=>.fail
def PW(args:List PV):Tr:=To (C2 [[0]] args)
def VH:List PV->Tr
 | [.s (.str s)]=>.need (A3 (a8 s)) (.ret (.s (.bool (V0 s))) [])
 | _=>.fail
def A01(args:List PV):Tr:=VH (C2 [[0]] args)
def IS:List PV->Tr
 | [.agg [.s (.int .i64 j),.s (.str i),.s (.int .u32 v4),.s (.int .u16 a),.s (.int .u16 b),.s (.int .u16 c),.s (.int .u16 d),.s (.int .u16 e),.s (.int .u16 f),.s (.int .u16 g),.s (.int .u16 h)]]=>.need (A3 (a8 i)) (.need (ltN v4 4294967296) (.need (ok8 a b c d e f g h) (.ret (.s (.bool (K4 (mkH j i v4 (n8 a b c d e f g h))))) [])))
 | _=>.fail
def VG(args:List PV):Tr:=IS (C2 [[0,0,0,0,0,0,0,0,0,0,0]] args)
def IR:List PV->Tr
 | [.agg [.s (.int .i64 j),.s (.str i),.s (.int .u32 v4),.s (.int .u16 a),.s (.int .u16 b),.s (.int .u16 c),.s (.int .u16 d),.s (.int .u16 e),.s (.int .u16 f),.s (.int .u16 g),.s (.int .u16 h)]]=>.need (A3 (a8 i)) (.need (ltN v4 4294967296) (.need (ok8 a b c d e f g h) (.ret (.s (.str (S8 (mkH j i v4 (n8 a b c d e f g h))))) [])))
 | _=>.fail
def Bt2(args:List PV):Tr:=IR (C2 [[0,0,0,0,0,0,0,0,0,0,0]] args)
def IO:List PV->Tr
 | [.s (.str p),.s (.str s)]=>.need (A3 (a8 p)) (.need (A3 (a8 s)) (.ret (.s (.bool (Cq p s))) []))
 | _=>.fail
def Bs9(args:List PV):Tr:=IO (C2 [[0],[0]] args)
def AD:List PV->Tr
 | [.s (.int .i64 n),.s (.sl b a 1 l)]=>.need (af7 l isS) (.need (A3 (a8 l)) (.ret (.s (.bool (Fs n (ab7 elS l)))) []))
 | _=>.fail
def Af5(args:List PV):Tr:=AD (C2 [[0],[1]] args)
end
section
variable {Z R : Type} (Y : Nat) (W : G4) (Q : Yh Z) (s : Z) (k : Out -> St Z -> Option R)
noncomputable def XH(Y:Nat):Cfg:=B8 Y [140] (A2 []) [] (A2 [(1,[6]),(0,[3,0,0])]) [] (A2 []) (some [6]) [] [] []
def Ct7{R:Type}(Y:Nat)(d b:By)(a:Int)(c:By->By->Int->Option R):Option R:=c d b a
def Ct8(d:Nat)(a sep1 sepSave2):evC (XH Y) (d+1) Z Q 140 [pS a,pS sep1,pI sepSave2] [] s=Ct7 Y a sep1 sepSave2 (λa c b=>some (.fnr (ab5 177) [] [.ptr 1 0 0,.ptr 0 0 0,.ptr 2 0 0],[.box [pS a],.box [pS c],.box [pI b]],s)):=by refine(evE (fn:=Tryz.f140) (by kernel_rfl)).trans ?_;generalize evC (XH Y) d=W;unfold Ct7;kernel_rfl
noncomputable def A43(Y:Nat):Cfg:=B8 Y [103] (A2 []) [(140,UP)] (A2 [(1,[4]),(0,[0,0])]) [] (A2 []) (some [4]) [] [] []
def D06{R:Type}(Y:Nat)(c a:By)(b:By->By->Option R):Option R:=b c a
def Dn4(d:Nat)(a sep1):evC (A43 Y) (d+1) Z Q 103 [pS a,pS sep1] [] s=D06 Y a sep1 (λa b=>some (.fnr (ab5 177) [] [.ptr 1 0 0,.ptr 0 0 0,.ptr 2 0 0],[.box [pS a],.box [pS b],.box [pI (0:Int)]],s)):=by refine(evE (fn:=Tryz.f103) (by kernel_rfl)).trans ?_;generalize evC (A43 Y) d=W;unfold D06;kernel_rfl
noncomputable abbrev QG:Code:=C7 ai0
noncomputable def Pw(Y:Nat):Cfg:=B8 Y [65] (A2 []) [(102,Ri),(103,A08),(104,UR)] (A2 [(7,[2]),(6,[2]),(5,[2,13]),(4,[2,0]),(3,[2,9]),(2,[2]),(1,[0,1,7]),(0,[0,1])]) [102,104] (A2 [(0,[2]),(1,[2])]) (some [2]) [] [(177,GD)] []
def GN{R:Type}(Y:Nat)(a:By)(xs:List By)(self:Unit->Option R)(c:Unit->Option R)(b:Unit->Option R):Option R:=cond (A3 a.length) (cond (not (K6 a)) (b ()) (self ())) none
def LQ{R:Type}(Y:Nat)(L:List By)(b:Unit->Option R)(c:Unit->Option R):Option R:=D81 (α:=Unit->Option R) (λ_=>b ()) (λa xs self _=>GN Y a xs self  b c) L ()
def Al3{R:Type}(Y:Nat)(a:By)(xs:List By)(b:Unit->Option R)(c:Unit->Option R):LQ Y (a::xs)  b c=GN Y a xs (λ_=>LQ Y xs  b c)  b c:=rfl
def B62(L:List By):Bk #[13] (gp [(2,.ptr 0 0 0),(9,.fnr (ab5 177) [] [.bad,.bad,.bad])] 4) (bd (Pw Y) W Q (cd [1,1,0,1,0,0] QG)) (bd (Pw Y) W Q (cd [1,1,0,1,0,1] QG)) (L.map (λ(a:By)=>([pS a]:List PV))) [.box [pB false],.dead,.dead,.dead] s (rgK (gp [(2,.ptr 0 0 0),(9,.fnr (ab5 177) [] [.bad,.bad,.bad])] 4) (λH=>Bq H [2,1,3] [.box [.bad],.box [.bad],.box [.bad]]) k) =
 LQ Y L  (λ_=>k .normal ⟨gp [(2,.ptr 0 0 0),(9,.fnr (ab5 177) [] [.bad,.bad,.bad])] 4,[.box [pB false],.box [.bad],.box [.bad],.box [.bad]],s⟩) (λ_=>k .ret ⟨gp [(2,.ptr 0 0 0),(9,.fnr (ab5 177) [] [.bad,.bad,.bad])] 4,[.box [pB false],.box [.bad],.box [.bad],.box [.bad]],s⟩):=by
 induction L with
 | nil=>rfl
 | cons a xs b=>rw[Al3];unfold GN;exact(ah3 (by kernel_rfl) (A0 (A0 rfl b) rfl))
def YL{R:Type}(Y:Nat)(a:By)(b:Unit->Option R)(c:Unit->Option R):Option R:=cond ((A3 a.length)&&((1==1)&&((0:Int)==0))) (LQ Y (pcs (j6 ([46]:List UInt8) 0 0) a)  b c) none
abbrev Al2(b:Code):Prop:=∀(k:Out->St Z->Option R) s0,A9 (Pw Y) W Q b ⟨gp [(2,.ptr 0 0 0),(9,.fnr (ab5 177) [] [.ptr 2 0 0,.ptr 1 0 0,.ptr 3 0 0])] 4,[.box [pB false],.box [pS s0],.box [pS ([46]:List UInt8)],.box [pI (0:Int)]],s⟩ k=YL Y s0 (λ_=>k .normal ⟨gp [(2,.ptr 0 0 0),(9,.fnr (ab5 177) [] [.bad,.bad,.bad])] 4,[.box [pB false],.box [.bad],.box [.bad],.box [.bad]],s⟩) (λ_=>k .ret ⟨gp [(2,.ptr 0 0 0),(9,.fnr (ab5 177) [] [.bad,.bad,.bad])] 4,[.box [pB false],.box [.bad],.box [.bad],.box [.bad]],s⟩)
def B61:Al2 (R:=R) Y W Q s (cd [1,1,0,1,0] QG):=by intro k a;unfold YL;exact((D70 [1,1,0,1,0] (by kernel_rfl)).trans (by kernel_rfl)).trans (Ba8 (B62 Y W Q s k (pcs (j6 ([46]:List UInt8) 0 0) a) ))
def hvn{R:Type}(Y:Nat)(a:By)(b:Unit->Option R)(c:Bool->Bool->Option R):Option R:=cond (ltI 253 (a.length:Int)) (b ()) (cond (A3 a.length) (cond (E9 a) (b ()) (YL Y a (λ_=>c true true) (λ_=>c false false))) none)
def Dy1(a:Code)(c:Al2 (R:=PV × List Blk × Z) Y W Q s a)(b:By):A9 (Pw Y) W Q (cd [] (G7 [1,1,0,1,0] a QG)) ⟨[pS b]++tps 16,[],s⟩ (F4 (Pw Y) ai0)=hvn Y b (λ_=>some (pB false,[.box [pB false]],s)) (λe d=>some (pB e,[.box [pB d],.box [.bad],.box [.bad],.box [.bad]],s)):=by unfold hvn;exact(ah3 (by kernel_rfl) (A0 rfl (A0 (A0 rfl ((c (E2 0 (E1 (Pw Y) W Q (cd [1,1,1] QG) (F4 (Pw Y) ai0))) b).trans (by kernel_rfl))) rfl)))
def Dy2(d:Nat)(name0):evC (Pw Y) (d+1) Z Q 65 [pS name0] [] s=hvn Y name0 (λ_=>some (pB false,[.box [pB false]],s)) (λb a=>some (pB b,[.box [pB a],.box [.bad],.box [.bad],.box [.bad]],s)):=
 (evE (fn:=ai0) (by kernel_rfl)).trans (ah3 (by kernel_rfl) (Dy1 Y (evC (Pw Y) d) Q s (cd [1,1,0,1,0] QG) (B61 Y (evC (Pw Y) d) Q s) name0))
noncomputable abbrev Wm:Code:=C7 ag8
noncomputable def Bg(Y:Nat):Cfg:=B8 Y [177] (A2 [(5,[0,0,0,0]),(1,[0,1])]) [(178,Wf),(179,JH)] (A2 [(10,[]),(9,[0,0,0,0]),(8,[0,0,0,0,3,34]),(7,[0,0,0,0,3,0]),(6,[0,0,0,0,3,25]),(5,[0,0,0,0,3]),(4,[0,1]),(3,[0,1,3,18]),(2,[0,1,3]),(1,[0,1,11]),(0,[0,0,0,0,7])]) [179] (A2 [(2,[0,1]),(3,[0,0,0,0]),(0,[]),(1,[0,1])]) (some []) [] [] []
def NZ{Z R:Type}(Q:Yh Z)(Y n:Nat)(d a:By)(c:Int)(s:Z)(b:By->By->Int->Z->Option R):Option R:=match n with|0=>none|n+1=>cond (ltI 0 (a.length:Int)) none (b d a c s)
def Av8(n:Nat)(b c:By)(a:Int)(s:Z):D0 3 ((Bg Y).keep 1) (bd (Bg Y) W Q (cd [0,1,0,0,0,0] Wm)) n ⟨gp [(0,.yd),(1,.ptr 1 0 0)] 49,[.box [pS b],.box [pS c],.box [pI a]],s⟩ k =
 NZ Q Y n b c a s (λb c a s=>k (.exit 0) ⟨gp [] 52,[.box [pS b],.box [pS c],.box [pI a]],s⟩):=by
 induction n generalizing b c a s with
 | zero=>rfl
 | succ n d=>rw[NZ];kernel_rfl
def U9{Z R:Type}(Q:Yh Z)(Y n:Nat)(c a:By)(g:Int)(s:Z)(i:By->By->Int->Z->Option R)(j:By->By->Int->Z->Option R):Option R:=match n with
 | 0=>none
 | n+1=>
  cond (A3 a.length)
   (cond (ltI (af2 a c) (0:Int))
   (i c a g s)
   (vl (A1 ((af2 a c)+g)) λe=>
    cond (J0 0 e a.length)
    (ydK (Q [pS (cut a 0 e)] s) λd b=>
     (cond (not d)
     (j c a g b)
     (vl (A1 ((af2 a c)+(c.length:Int))) λf=>
      cond (J0 f (a.length:Int) a.length)
      (vl (cut a f (a.length:Int)) λh=>
       U9 Q Y n c h g b i j)
      none)))
    none))
   none
def Av9(n:Nat)(b c:By)(a:Int)(s:Z):D0 3 ((Bg Y).keep 5) (bd (Bg Y) W Q (cd [1,0,0,0] Wm)) n ⟨gp [(0,.yd),(0,.ptr 0 0 0),(0,.ptr 1 0 0),(0,.ptr 2 0 0)] 48,[.box [pS b],.box [pS c],.box [pI a]],s⟩ k =
 U9 Q Y n b c a s (λb c a s=>k (.exit 2) ⟨gp [(0,.yd),(1,.ptr 1 0 0)] 49,[.box [pS b],.box [pS c],.box [pI a]],s⟩) (λb c a s=>k .ret ⟨gp [] 52,[.box [pS b],.box [pS c],.box [pI a]],s⟩):=by
 induction n generalizing b c a s with
 | zero=>rfl
 | succ n d=>rw[U9];simp only[<-d];kernel_rfl
def Av7{Z R:Type}(Q:Yh Z)(Y:Nat)(p t:By)(n:Int)(s:Z)(j:By->By->Int->Z->Option R):Option R:=
 cond ((p.length:Int)==0)
 (NZ Q Y Y p t n s (λm o l q=>j m o l q))
 (U9 Q Y Y p t n s (λr a c e=>ydK (Q [pS a] e) λi b=>
  (j r a c b)) (λf g d h=>j f g d h))
def C23(d:Nat)(p t n s):evC (Bg Y) (d+1) Z Q 177 [.yd,.ptr 0 0 0,.ptr 1 0 0,.ptr 2 0 0] [.box [pS p],.box [pS t],.box [pI n]] s=Av7 Q Y p t n s (λb c a s=>some (.tup [],[.box [pS b],.box [pS c],.box [pI a]],s)):=by refine(evE (fn:=ag8) (by kernel_rfl)).trans ?_;generalize evC (Bg Y) d=W;unfold Av7;exact(ah3 (by kernel_rfl) (A0 ((Av8 Y W Q (E2 0 (E1 (Bg Y) W Q (cd [0,1,0,1] Wm) (E1 (Bg Y) W Q (cd [1] Wm) (F4 (Bg Y) ag8)))) Y p t n s).trans (by kernel_rfl)) ((Av9 Y W Q (E2 2 (E1 (Bg Y) W Q (cd [1,1] Wm) (F4 (Bg Y) ag8))) Y p t n s).trans (by kernel_rfl))))
end
end
end Go.Proofs.YtfkhfkjcidamaaaGreatDoor.E
