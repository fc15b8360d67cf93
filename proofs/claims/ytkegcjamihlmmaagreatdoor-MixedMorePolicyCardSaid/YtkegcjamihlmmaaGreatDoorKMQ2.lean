/-
  Parts of the proof, merged by a program of the prover's own; no condition.
-/
import Derived.Test.YtkegcjamihlmmaaGreatDoorKMQ1
import Derived.Deep.Draws
import Derived.JoinedCond
import Derived.KernelRfl
import Derived.LaidMore
import Derived.LaidSub
import Derived.Laws.RangeString
import Derived.Lay
import Derived.Lib.IndexMore
import Derived.Lib.ItoaNum
import Derived.Lib.Join
import Derived.Lib.LaidTab
import Derived.Lib.LaidU8
import Derived.Lib.RuneCount
import Derived.Lib.TrailingZeros
import Derived.Lib.ValidU
import Derived.OpenShut
import Derived.ProofKit
import Derived.RangeFuncLeaves
import Derived.RangeFuncRecord
import Derived.Shelf.Vars
import Derived.Sort.Grow
import Derived.Sort.QuietThIn
import Derived.Test.YtkegcjamihlmmaaGreatDoorChecked
import Derived.Test.YtkegcjamihlmmaaGreatDoorProg
import Derived.Test.YtkegcjamihlmmaaGreatDoorRows
import Derived.WalkKit
open List renaming length->a8,getElem?_eq_getElem->b8,getElem_mem->j8,getD_eq_getElem?_getD->j9,getD->o6,all_eq_true->o7,getElem_map->o8,eq_nil_iff_forall_not_mem->x5,getElem?_eq_none->x7,replicate->x8,length_append->x9,length_map->y5,mem_append->y7,isEmpty->y8,mem_cons->y9,append_nil->aa1,getElem_append_left->aa7,getElem?_map->ab7,isEmpty_iff->ac1,map->ac3,getElem?_take->ac8,isPrefixOf->ad8,nil_append->ad9,range->ae4,getElem?_eq_some_iff->ae5,cons_append->af2,getElem?_cons_zero->af3,length_cons->af4,length_eq_zero_iff->af5,length_take->af6,prefix_iff_eq_take->af7,suffix_iff_eq_drop->af8,take_of_length_le->ag0,map_append->ag3,length_singleton->ag7,drop_zero->ah2,mem_cons_of_mem->ah3,filterMap_cons->ah8,getElem?_range->ah9,all->ai7,ext_getElem?->ai8,map_nil->ai9,any_eq_true->aj8,isSuffixOf->ak4,nodup_cons->ak5,drop_drop->ak9,mapM_cons->al0,mem_range->al1,take_add->al5,all_map->al7,map_map->al8
open Option.some renaming injEq->b9,inj->p9
open Bool renaming and_eq_true->j2,or_eq_true->aa0,not_eq_true'->ab6,eq_iff_iff->ag2,false_eq_true->ai1,not_eq_true->aj7,false_or->al4
open Option renaming bind_some->j4,bind_none->j7,isSome->p4,isSome_iff_exists->w9,map_some->ac5,isNone_iff_eq_none->ae7,getD_some->ak0
open Go.Proofs.Tryz renaming prog->j5,checked->aj3
open Nat renaming lt_of_lt_of_le->j6,eq_of_beq_eq_true->k9,le_refl->o5,ble->p5,le_trans->w6,beq->w8,mod_eq_of_lt->x6,le_of_ble_eq_true->ab5,zero_add->ae2,le_of_not_lt->af9,lt_irrefl->ai0,zero_mul->aj0,add_mul->ak1,one_mul->ak2,ble_eq->al2,add_comm->al9,blt->am0
open Array renaming getElem?_eq_some_iff->o0,replicate->z7,getD_eq_getD_getElem?->aa2,getElem?_eq_getElem->aa3,getElem?_eq_none->ab1,length_toList->ae0,getElem?_replicate->af0,mem_of_getElem?->ag5,toList_map->aj6
open Go.World renaming putObj_heap_other->o9,laidAll->ac4,cell?->ae9,putObj_heap_same->ag1,alloc_heap_new->ah5,cells?_some->aj4,shape?->aj5
open Go.Region renaming wanted->p6,ready->p7,Mode->ab0,noSelect->ab3,binds->ad4
open Go.Deferred renaming ofValue->v7
open Prod.mk renaming injEq->v8
open Go.IntKind renaming wrap->x3,signed->ad0,bits->ae1
open Int renaming toNat->x4,eq_ofNat_of_zero_le->aa8
open Decidable renaming byContradiction->aa4
open UInt8 renaming ofNat->aa5,le_iff_toNat_le->ad5,toNat->am5
open Go.Lib renaming decDigits->aa6,tabData->ac9,VarReads->ad1,deBruijn64tab->ae8,acceptData->ah0,decodeL->ah1,cut->ah6,firstTab->ai5,pow10Tab->ai6,join->ak8
open Go.Result renaming andThen->aa9
open BitVec renaming ofInt->ab2,ofInt_natCast->ag8
open Go.Oper renaming semAt_eq->ab4,quietAtIn->ab8,uponIn->ab9,uponIn_enter->ad3,wpIn->ah7,quietUponIn->aj9
open Go.Act renaming put_comm->ac0,put->ai2
open Go.Value renaming okWide->ac2,int->ad6
open Go.DataW renaming trod->ac6,TrodAll->ad7,Whole->am2
open Go.Fence renaming wide->ac7
open Go.Lib.laidMet renaming reads->ad2
open Go.Sem renaming run_bind->ae3,run_pure->aj2
open Go.MakeChecks renaming laidMetH_plain->ae6
open Classical renaming choose->af1,choose_spec->ag6
open Go.Result.ok renaming injEq->ag4
open Go.Code renaming region->ag9,rangeFunc->ak6
open Or renaming inl->ah4
open Go.CallsIn renaming mono->ai3
open Go.Instr renaming loadAt->ai4,sureAddr->ak7
open Go.RoundIn renaming mono->aj1
open Go.Ending renaming returned->ak3
open Go.StepsIn renaming trans->al6
open Go.RowsIn renaming mono->am4
namespace Go.Proofs.YtkegcjamihlmmaaGreatDoor.E
set_option linter.all false
section
open Go
section
variable {σ R : Type} {r : R} {C : Cfg} {I : σ -> (Nat -> Prop) -> (Nat -> Prop) -> World -> Prop} {Γ : Ctx} {L : Nat -> Prop} {st : St σ} {a : Act} {w : World} {cl : F6} {yh : Yh σ} {yv : Value} {o : Oper}
structure Ask (C:Cfg) (I:σ->(Nat->Prop)->(Nat->Prop)->World->Prop) (cl:F6) (yh:Yh σ) (yv:Value):Prop where
 hI:HI I
 hC:Ch C cl
 hX:XOK C
 hy:A37 C.P I yh yv
theorem Bt9{g b:Nat}{args:List PV}{c:SV->List (List SV)->Bool × List (List SV)}{x:SV}(h:Dc0 C g args=some (c,b,x)):C.Z g=some c/\args=[.fl b,.s x]:=by
 unfold Dc0 at h;split at h
 ·rename_i d;simp only[b9,v8] at h;obtain⟨rfl,rfl,rfl⟩:=h;exact⟨d,rfl⟩
 ·cases h
theorem SI.like'{tmps:Array Value}(hI:HI I)(S:SI C I Γ L st tmps w){w':World}(h:O0 w w'):SI C I Γ L st tmps w'/\Stp C Γ st.hp w L Γ st.hp w' L:=
 S.wide hI (St':=Γ.St) h.1.1 h.1.2 (λ_ h=>h) (λ_ h=>.inl h) (λg hg=>j6 (S.hr.stlt g hg) h.1.2) h.2.1 h.2.2.1 h.2.2.2
theorem Aj9{g b e sz:Nat}{v:Bool}{Q:SV->List (List SV)->Bool × List (List SV)}{x:SV}{d:List (List SV)}{T l:Array Value}{k:PV->St σ->Option R}(hI:HI I)(Y:Dw6 C.P g Q)(S:SI C I Γ L st l w)(y:st.hp[b]? = some (.arr v e sz d))(D:CR Γ (A5 st.hp) w [.fl b,.s x] T)(hp:(Q x d).1=true)
  (J:k (.tup []) { sl:=st.sl,hp:=st.hp.set b (.arr v e sz (Q x d).2),s:=st.s } = some r):R4 C.P ((callFunc g T).run C.P w) (Ag5 C I Γ L st l w k r):=by
 obtain⟨U,e1,h1⟩:=D.2 0 (by simp);obtain⟨X,e2,h2⟩:=D.2 1 (by simp);have hV:T = #[U,X]:=by
  have hs:T.size=2:=D.1;grind
 subst hV;have hx:VS Γ.St w x X:=h2.inv_s;obtain⟨z1,z2⟩:=Y Γ.St w x X d hx hp;have O:∀{s:Shp},A5 st.hp b=some s->s = .arr v e sz d.length:=λh=>by
  simp only[A5,y,ac5,Blk.shp,b9] at h;exact h.symm
 have a0:VP Γ (A5 st.hp) w (.fl b) U:=h1;cases a0 with
 | flv _ B f h=>
  have:=O h;simp only[Shp.arr.injEq] at this;obtain⟨rfl,rfl,rfl,W⟩:=this;have W:=af5.1 W.symm;refine(z1 W).mono ?_;rintro V w' ⟨rfl,hn,hl⟩;have N:st.hp.set b (.arr true B f (Q x d).2)=st.hp:=by
   rw[hn];rw[W] at y;apply ai8;grind
  rw[N] at J;obtain⟨S1,a3⟩:=S.like' hI hl;exact⟨_,_,Γ,L,J,a3,S1,Cy,by simp[PV.nms,C8]⟩
 | fl _ m v' B f n cap h hv p F hm hs=>
  have:=O h;simp only[Shp.arr.injEq] at this;obtain⟨rfl,rfl,rfl,rfl⟩:=this;have M:¬(v'=true/\d=[]):=by rintro⟨Z,q2⟩;exact hv Z (by rw[q2];rfl)
  obtain⟨g',z,H,hh,t,q,G⟩:=S.hr.arr' y M;obtain rfl:m=g':=by rw[p] at H;exact p9 H
  have a1:z.size=cap*f:=by
   simp only[aj5,hh,b9,v8,true_and] at hs;exact hs
  refine(z2 m z B f cap hh a1 F hm (S.hr.lt b m p).2.2 S.hr.stlt q G).mono ?_;rintro V w' ⟨rfl,i,w1,A,Z,q2,q3,q4,q5,q6,q7,q8,q9,a5⟩;have j:(Blk.arr v' B f (Q x d).2).shp=(Blk.arr v' B f d).shp:=by simp only[Blk.shp,i]
  have u:w1.shape? m=w.shape? m:=by simp only[aj5,Z,hh,q2]
  have K:w.heap.size<=w1.heap.size:=by omega
  have P:=UD (C:=C) S.hr y p j q3 u K q5 q6 q7;have a2:=A00 S.hr y p j q3 u K (.inr ⟨λY=>M ⟨Y.1,by
    have:=congrArg a8 Y.2;rw[i] at this;exact af5.1 this⟩,m,A,p,Z,by rw[i,q2];exact t,q8,q9⟩) (by simp[Blk.nms])
  have S1:=S.step hI (P.lift L) (λk J=>q3 k (λek=>S.dis b m p (ek▸J))) a2 (S.sr.mono (Jj S.hr y p j q3 u) (λc D=>⟨trivial,by simpa using S.sr.nms c D⟩));obtain⟨S2,a4⟩:=S1.like' hI a5;exact⟨_,_,Γ,L,J,(P.lift L).trans a4,S2,Cy,by simp[PV.nms,C8]⟩
theorem EO{g:Nat}{args:List PV}{B i:Array Value}{k:PV->St σ->Option R}(A:Ask C I cl yh yv)(y:Γ.yv=yv)(h:Wz C cl yh g args st k=some r)(S:SI C I Γ L st i w)(p:CR Γ (A5 st.hp) w args B)(P:∀c∈C8 args,c<st.hp.length) :
  R4 C.P ((callFunc g B).run C.P w) (Ag5 C I Γ L st i w k r):=by
 unfold Wz at h;split at h
 ·rename_i z K;split at h
  ·rename_i j;obtain⟨ret,l,d,h⟩:=Bn h;have d:M3 (z (N5 st.hp args))=some (ret,l):=by
    cases H:C.xp g with
    | true=>rw[H] at d;exact(Cb d).1
    | false=>rw[H] at d;exact d
   obtain⟨m,n⟩:=C3 h;exact Aj8 A.hI A.hX S p K d (ac1.1 j) (by simpa only[aa0,ab6,j2] using m) n
  ·cases h
 ·split at h
  ·rename_i z b x N;obtain⟨D,rfl⟩:=Bt9 N;split at h
   ·rename_i v e V J O;obtain⟨m,n⟩:=C3 h;exact Aj9 A.hI (A.hX.z g z D) S O p m n
   ·cases h
  dsimp only at h;split at h
  ·rename_i G;split at h
   ·rename_i q;have key:CR Γ (A5 st.hp) w (cond (C.lend g) args (N5 st.hp args)) B/\∀c∈C8 (cond (C.lend g) args (N5 st.hp args)),c<st.hp.length:=by
     cases F:C.lend g with
     | true=>exact⟨p,P⟩
     | false=>
      rw[F] at G;have Q:Qz args=false:=by simpa using G
      obtain⟨T,U⟩:=p.snap_plain Q;grind
    split at h
    ·rename_i z M;obtain⟨ret,l,d,h⟩:=Bn h;refine EP (s':=st.s) A.hI A.hX.y A.hy y S key.1 key.2 q ?_ h;simp only[clY,M];rw[show M3 (z _ (T4 st.hp _))=some (ret,l) from d]
    ·split at h
     ·rename_i ret l s' f;exact EP A.hI A.hC A.hy y S key.1 key.2 q f h
     ·cases h
   ·cases h
  ·split at h
   ·rename_i j;split at h
    ·rename_i ret l u f;split at h
     ·rename_i t;obtain⟨m,n⟩:=C3 h;exact Aj6 A.hI A.hC S p (ac1.1 j) f t m n
     ·cases h
    ·cases h
   ·cases h
theorem CR.append{sh:Nat->Option Shp}{x y:List PV}{X Y:Array Value}(hx:CR Γ sh w x X)(hy:CR Γ sh w y Y):CR Γ sh w (x++y) (X++Y):=by
 refine⟨by rw[Array.size_append,x9,hx.1,hy.1],λj hj=>?_⟩;rw[x9] at hj;by_cases h:j<x.length
 ·obtain⟨U,e,k⟩:=hx.2 j h;grind
 ·obtain⟨U,e,k⟩:=hy.2 (j-x.length) (by omega);refine⟨U,by rw[Array.getElem?_append_right (by rw[hx.1];omega),hx.1];exact e,?_⟩;grind
theorem P2(x y:List PV):C8 (x++y)=C8 x++C8 y:=by
 induction x with
 | nil=>rfl
 | cons a x b=>simp[C8,b]
theorem VP.inv_fn'{sh:Nat->Option Shp}{V:Value}{f:Fn}{x y:List SV}(h:VP Γ sh w (.s (.fn f x y)) V):∃A B,V = .func f A B/\CR Γ sh w (x.map .s) A/\CR Γ sh w (y.map .s) B:=by
 have hs:=h.inv_s;cases hs with
 | fn _ _ _ A B As Bs hf hA hB ha hb hx hy=>
  refine⟨A,B,rfl,⟨by simpa using hA,λj hj=>?_⟩,⟨by simpa using hB,λj hj=>?_⟩⟩
  ·have hj':j<x.length:=by simpa using hj
   exact⟨As j,ha j hj',by rw[o8];exact .s _ _ (hx j hj')⟩
  ·have hj':j<y.length:=by simpa using hj
   exact⟨Bs j,hb j hj',by rw[o8];exact .s _ _ (hy j hj')⟩
theorem VP.inv_fnr'{sh:Nat->Option Shp}{V:Value}{f:Fn}{x y:List PV}(h:VP Γ sh w (.fnr f x y) V):∃A B,V = .func f A B/\CR Γ sh w x A/\CR Γ sh w y B:=by
 cases h with
 | fnr _ _ _ A B As Bs hf hA hB ha hb hx hy=>exact⟨A,B,rfl,⟨hA,λj hj=>⟨As j,ha j hj,hx j hj⟩⟩,⟨hB,λj hj=>⟨Bs j,hb j hj,hy j hj⟩⟩⟩
theorem TX{sh:Nat->Option Shp}:∀{args:List PV} {Vs:List Value},Kw args=true->args.length=Vs.length->(∀j (h:j<args.length),∃U,Vs[j]? = some U/\VP Γ sh w (args[j]) U)->∀j (h:j<args.length),∃U,Vs[j]? = some U/\VP Γ (λ_=>none) w (args[j]) U
 | [],Vs,_,_,_=>λj h=>by simp at h
 | v::r,[],_,n,_=>by simp at n
 | v::r,U::z,c,n,y=>by
  have t:VP Γ sh w v U:=by
   obtain⟨q,e,k⟩:=y 0 (by simp);grind
  have B:∀j (h:j<r.length),∃U,z[j]? = some U/\VP Γ sh w (r[j]) U:=λj d=>by
   obtain⟨q,e,k⟩:=y (j+1) (by simpa using d);grind
  have key:Kw r=true/\VP Γ (λ_=>none) w v U:=by
   unfold Kw at c;split at c
   ·grind
   ·rename_i m;cases m;exact⟨c,.s _ _ t.inv_s⟩
   ·rename_i l G m;cases m;simp only[j2,w9] at c;obtain⟨⟨g,p⟩,c⟩:=c;refine⟨c,?_⟩;obtain⟨A,rfl,hA,i⟩:=t.inv_agg;refine VP.mk_agg hA λj d=>?_
    obtain⟨U,e,k⟩:=i j d;refine⟨U,e,?_⟩;have:(l[j]).nms=[]:=by
     have:∀(l:List PV) g,Td l=some g->∀v∈l,v.nms=[]:=by
      intro l
      induction l with
      | nil=>intro _ _ v f;simp at f
      | cons x l F=>
       intro g h v f;simp only[Td] at h;split at h
       ·rename_i a b u D;rcases y9.1 f with rfl|f
        ·unfold PV.sv? at u;split at u
         ·rfl
         ·rfl
         grind
        grind
       grind
     exact this l g p _ (j8 d)
    exact k.mono (Γ':=Γ) (ok:=λ_=>False) ⟨λ_ _=>rfl,λ_ h=>h,λ_ h=>h.elim,λ_ h=>h.elim,λ_ _ h=>h.elim,rfl⟩ (by rw[this];simp)
   grind
  intro j d;cases j with
  | zero=>exact⟨U,rfl,by simpa using key.2⟩
  | succ j=>
   obtain⟨q,e,k⟩:=TX key.1 (by simpa using n) B j (by simpa using d);grind
theorem Aj7{f:PV}{D:Value}{args:List PV}{Vs n:Array Value}{k:PV->St σ->Option R}(A:Ask C I cl yh yv)(u:Γ.yv=yv)(h:EQ C cl yh f args st k=some r)(S:SI C I Γ L st n w)(K:VP Γ (A5 st.hp) w f D)(p:∀c∈f.nms,c<st.hp.length)
  (i:CR Γ (A5 st.hp) w args Vs) (Y:∀c∈C8 args,c<st.hp.length) :
  R4 C.P ((do let d <-v7 D Vs;invoke d.target d.args).run C.P w) (Ag5 C I Γ L st n w k r):=by
 unfold EQ at h;split at h
 ·rename_i g first v;obtain⟨F,B,rfl,G,H⟩:=K.inv_fn';have:=EO A u h S ((G.append i).append H) (λc i=>by
   rw[P2,P2,MZ,MZ] at i;simp only[ad9,aa1] at i;exact Y c i)
  simpa[v7,invoke] using this
 ·rename_i g first v;obtain⟨F,B,rfl,G,H⟩:=K.inv_fnr';have:=EO A u h S ((G.append i).append H) (λc i=>by
   rw[P2,P2] at i;simp only[y7] at i;simp only[PV.nms,y7] at p;rcases i with(i|i)|i
   ·exact p c (.inl i)
   ·exact Y c i
   ·exact p c (.inr i))
  simpa[v7,invoke] using this
 ·split at h
  ·rename_i z;unfold ydK at h;split at h
   ·rename_i b s' P;have J:D=yv:=by
     cases K;exact u
    subst J;refine(A.hy args st.s b s' P z Γ L w Vs S.inv S.hr.stlt ⟨i.1,?_⟩).mono ?_
    ·intro j N;obtain⟨U,e,q⟩:=TX (Vs:=Vs.toList) z (by simpa using i.1.symm) (λj N=>by obtain⟨U,e,k⟩:=i.2 j N;exact⟨U,by simpa using e,k⟩) j N;exact⟨U,by simpa using e,q⟩
    ·rintro V w' ⟨rfl,St',W,hi,Q,Z,q3,T,q5,q6,q7,q8,q9⟩;have t:=A.hI.foot _ _ _ _ S.inv;have m:∀b g,Γ.nm b=some g->w'.heap[g]? = w.heap[g]?:=λb g l=>T g (S.hr.lt b g l).2.1 (S.dis b g l)
     have y:∀g,Γ.St g->w'.heap[g]? = w.heap[g]?:=λg l=>T g (S.hr.stlt g l) (λx=>(t g x).2 l)
     let Γ2:Ctx:={ Γ with St:=St' }
     have M:Ax Γ (A5 st.hp) w Γ2 (A5 st.hp) w' (λ_=>True):=⟨y,Q,λ_ _=>rfl,λ_ _=>rfl,λb g _ l=>F5 (m b g l),rfl⟩
     have O:HR Γ2 st.hp w':=by
      refine⟨S.hr.inj,λb g l=>?_,q9,S.hr.nms,λb X=>(S.hr.blk b X).mono M rfl (λg l=>m b g l) (λ_ _=>trivial)⟩;have:=S.hr.lt b g l;refine⟨this.1,by omega,λh=>?_⟩;rcases Z g h with h|h
      ·exact this.2.2 h
      ·omega
     refine⟨_,_,Γ2,W,h,⟨q6,q7,q8,q5,Q,Z,λb g l=>.inl ⟨(S.hr.lt b g l).1,l⟩,q3,λg l _ x=>T g l x,rfl,o5 _,λb X _=>⟨rfl,rfl,λg l=>F5 (m b g l)⟩⟩,
      ⟨O,S.sr.mono M (λc i=>⟨trivial,S.sr.nms c i⟩),S.g.mono y Q,hi,λb g l x=>?_⟩,.bool _,by simp[PV.nms]⟩
     rcases q3 g x with h|h
     ·exact S.dis b g l h
     ·have:=(S.hr.lt b g l).2.1;omega
   ·cases h
  ·cases h
 ·cases h
def Nxt(C:Cfg)(I:σ->(Nat->Prop)->(Nat->Prop)->World->Prop)(Γ:Ctx)(L:Nat->Prop)(H:List Blk)(w:World)(ds:List Deferred)(k:St σ->Option R)(r:R)(next:Act->World->Prop):Prop:=
 ∀b d w' Γ' c,k b=some r->Stp C Γ H w L Γ' b.hp w' c->SI C I Γ' c b d.tmps w'->d.defers=ds->next d w'
theorem put_defers(a:Act)(d:Option Tmp)(v:Value):(a.put d v).defers=a.defers:=by cases d<;>rfl
theorem Bd5{ro:Option Nat}{n:Nat}{k:St σ->Option R}{next:Act->World->Prop}{Q:Exit->Act->World->Prop}(A:Ask C I cl yh yv)(u:Γ.yv=yv)(h:opK C cl yh o st k=some r)(S:SI C I Γ L st a.tmps w)(hN:Nxt C I Γ L st.hp w a.defers k r next) :
  o.wpIn (G9 ro) n C.P a w next Q:=by
 refine⟨λ_ _=>trivial,?_⟩;have t:∀c,o.op≠.defer c:=λc e=>by simp[opK,e] at h
 rw[ab4 _ _ _ t];by_cases i:CI o.op=true
 ·obtain⟨c,g⟩:∃c,o.op = .call c:=by
   unfold CI at i;split at i
   ·exact⟨_,‹_›⟩
   ·cases i
  have p:=h;simp only[opK,g] at p;split at p
  ·rename_i b D;rw[g] at i;simp[CI,D] at i
  ·rename_i f H;obtain⟨F,q⟩:=S.list c.args;have:=Aj7 A u p S (S.opnd f).1 (S.opnd f).2 F q;have G:execOp a.eval o=(do let d <-v7 (a.eval f) (c.args.map a.eval);invoke d.target d.args):=by simp only[execOp,g,resolve,H]
   rw[G];refine this ro n o a next Q ?_
   rintro V w' ⟨v,m,Γ',x,J,K,l,M,N⟩;exact hN _ (a.put o.dst V) w' Γ' x J K ⟨l.hr,l.sr.put (ds:=a.defers) o M N,l.g,l.inv,l.dis⟩ (put_defers _ _ _)
  ·cases p
 ·obtain⟨V,w',Γ',m,y,j,z,B⟩:=Ap8 A.hI (by simpa using i) h S;have q:=hN m (a.put o.dst V) w' Γ' L y B z (put_defers _ _ _);rcases j with j|⟨rfl,j⟩
  ·rw[j];exact q
  ·rw[j];exact q
theorem SR.set{Γ:Ctx}{H:List Blk}{sl:List PV}{tmps:Array Value}(h:SR Γ H w sl tmps)(g:Nat){v:PV}(hv:∀V,tmps[g]? = some V->VP Γ (A5 H) w v V)(hn:∀c∈v.nms,c<H.length):SR Γ H w (sl.set g v) tmps:=by
 refine⟨by simpa using h.size,λc hc=>?_,λi hi=>?_⟩
 ·obtain⟨j,hj,hc⟩:=C0.1 hc;rw[List.getElem_set] at hc;split at hc
  ·grind
  ·exact h.nms c (C0.2 ⟨j,by simpa using hj,hc⟩)
 ·have hi':i<sl.length:=by simpa using hi
  obtain⟨U,e1,e2⟩:=h.slot i hi';grind
theorem Aa2{F:Option Nat}{n:Nat}{Q:Exit->Act->World->Prop}{all:Array Oper}(A:Ask C I cl yh yv):∀(c:List Oper) {Γ:Ctx} {L:Nat->Prop} {st:St σ} {a:Act} {w:World} {k:St σ->Option R},Γ.yv=yv->Ft C cl yh all c st k=some r->SI C I Γ L st a.tmps w->
  Nxt C I Γ L st.hp w a.defers k r (λt w'=>Q .normal t w')->wpListIn (G9 F) n C.P all Q c a w
 | [],Γ,L,st,a,w,k,hyv,h,S,hN=>hN st a w Γ L h (Stp.refl S.hr) S rfl
 | o::c,Γ,L,st,a,w,k,hyv,h,S,hN=>by
  have run:∀{st:St σ},SI C I Γ L st a.tmps w->Nxt C I Γ L st.hp w a.defers k r (λt w'=>Q .normal t w')->opK C cl yh o st (λl=>Ft C cl yh all c l k)=some r->o.wpIn (G9 F) n C.P a w (wpListIn (G9 F) n C.P all Q c) Q:=λS hN h=>
   Bd5 A hyv h S λl t w' Γ' Φ' W N X Y=>Aa2 A c (N.yv.trans hyv) W X λJ P w2 K M k1 k2 k3 k4=>hN J P w2 K M k1 (N.trans k2) k3 (k4.trans Y)
  have skip:∀{st:St σ},SI C I Γ L st a.tmps w->Nxt C I Γ L st.hp w a.defers k r (λt w'=>Q .normal t w')->Ft C cl yh all c { st with sl:=Cg o.dst (.tup []) st.sl } k=some r->wpListIn (G9 F) n C.P all Q c (a.put o.dst undef) w:=fun {st} S hN h=>
   Aa2 A c (st:={ st with sl:=Cg o.dst (.tup []) st.sl }) hyv h (S.put (o:=o) Cy (by simp[PV.nms,C8])) (by rw[put_defers];exact hN)
  simp only[wpListIn];simp only[Ft] at h;split at h
  ·rename_i u;have hw:p6 o (yielded all a.tmps)=true:=by simp[p6,u]
   grind
  ·rename_i j m u;split at h
   ·rename_i g x;have z:∀b,a.tmps[g]? = some (.bool b)->yielded all a.tmps j=some b:=λb e=>by simp[yielded,x,e]
    have y:(∀b,a.tmps[g]?≠some (.bool b))->yielded all a.tmps j=none:=λa1=>by
     simp only[yielded,x,j4]
    have d:∀v,st.sl.getD g (.tup [])=v->∀V,a.tmps[g]? = some V->VP Γ (A5 st.hp) w v V:=λv hv V hV=>by
     have p:g<st.sl.length:=by rw[<-S.sr.size];exact(o0.1 hV).1
     obtain⟨U,G,T⟩:=S.sr.slot g p;grind
    split at h
    ·rename_i b D;have p:g<st.sl.length:=aa4 λa0=>by grind
     obtain⟨U,G,T⟩:=S.sr.slot g p;have Z:=(d _ D U G).inv_bool;subst Z;have f:yielded all a.tmps j=some b:=z b G;have O:SI C I Γ L { st with sl:=st.sl.set g (.s (.bool b)) } a.tmps w:=⟨S.hr,S.sr.set g (d _ D) (by simp[PV.nms]),S.g,S.inv,S.dis⟩
     have q:(if (b==m)=true then opK C cl yh o { st with sl:=st.sl.set g (.s (.bool b)) } (λl=>Ft C cl yh all c l k) else Ft C cl yh all c { st with sl:=Cg o.dst (.tup []) (st.sl.set g (.s (.bool b))) } k)=some r:=by
      cases b<;>exact h
     by_cases i:b=m
     ·rw[if_pos (by simpa using i)] at q;rw[if_pos (by simp[p6,u,f,i])];grind
     ·rw[if_neg (by simpa using i)] at q;rw[if_neg (by simp[p6,u,f,i])];exact⟨λ_ _=>trivial,skip O hN q⟩
    ·rename_i D;have f:yielded all a.tmps j=none:=y λb H=>by
      obtain⟨B,e,_⟩:=(d _ D _ H).inv_tup;cases e
     rw[if_neg (by simp[p6,u,f])];exact⟨λ_ _=>trivial,skip S hN h⟩
    grind
   ·cases h
end
section quiet
variable {F : Fence} {n : Nat} {P : Program} {Y : Array Oper} {L : ab0} {K : World -> Prop}
theorem Bt0{c:Code}{Q:Exit->Act->World->Prop}{a:Act}{w:World}(J:Nat->Act->World->Prop)(N:Nat)(u:J N a w)
  (round:∀m a w,J m a w->c.wpIn F n P (Exit.then (λq w'=>∃D,D<m/\J D q w') Q) a w):(Code.loop c).wpIn F n P Q a w:=by
 intro b k y C z B;have key:∀j a w,J j a w->∃e q w',Q e q w'/\ArrivesIn (Machine.fenced P F) P (lone (b.atR a (.code c::.inLoop c::k)) y w) b k y e q w':=by
  intro j
  induction j using Nat.strongRecOn with
  | _ j H=>
   intro a w G;obtain⟨e,f,g,i,d⟩:=round j a w G b (.inLoop c::k) y C z B;cases e with
   | normal=>
    obtain⟨m,A,o⟩:=i;obtain⟨t,r,v,p,h⟩:=H m A f g o;exact⟨t,r,v,p,.of_steps (al6 d (.one (fenced_calm z B rfl) stepR_inLoop)) h⟩
   | exit id=>exact⟨_,f,g,i,.pass (x:=.inLoop c) rfl (λ_ _=>.inl (by simp)) d⟩
   | goto l=>exact⟨_,f,g,i,.pass (x:=.inLoop c) rfl (λ_ _=>.inl (by simp)) d⟩
   | ret=>exact⟨_,f,g,i,.pass (x:=.inLoop c) rfl (λ_ _=>.inl (by simp)) d⟩
   | panic I=>exact⟨_,f,g,i,.pass (x:=.inLoop c) rfl (λ_ _=>.inl (by simp)) d⟩
   | outgrown=>exact⟨_,f,g,i,.pass (x:=.inLoop c) rfl (λ_ _=>.inl (by simp)) d⟩
 obtain⟨e,q,w',i,d⟩:=key N a w u;exact⟨e,q,w',i,.of_steps (.one (fenced_calm z B rfl) stepR_loop) d⟩
theorem Cd{b:Frame}{a:Act}{k:List Item}{d:List Frame}{w:World}{c:Code}:step P (lone (b.atR a (.code (.scope c)::k)) d w) = .next (lone (b.atR a (.code c::.inScope c::k)) d w):=
 step_lone_go (by simp[stepG,stepG.exec,Frame.atR])
theorem QJ{b:Frame}{a:Act}{k:List Item}{d:List Frame}{w:World}{c:Code}:step P (lone (b.atR a (.inScope c::k)) d w) = .next (lone (b.atR a k) d w):=
 step_lone_go (by simp[stepG,stepG.exec,Frame.atR])
theorem Az8{c:Code}{Q:Exit->Act->World->Prop}{a:Act}{w:World}(h:c.wpIn F n P (λe a w=>(∀l,e≠.goto l)/\Q e a w) a w):(Code.scope c).wpIn F n P Q a w:=by
 intro b k u t o q;have i:(lone (b.atR a (.code (.scope c)::k)) u w).fenced P F:=fenced_calm o q rfl;obtain⟨e,f,g,⟨z,j⟩,d⟩:=h b (.inScope c::k) u t o q;cases e with
 | normal=>exact⟨.normal,f,g,j,.head i Cd (al6 d (.one (fenced_calm o q rfl) QJ))⟩
 | exit id=>
  have v:exitTo id (.inScope c::k)=exitTo id k:=by simp[exitTo]
  exact⟨.exit id,f,g,j,λA p=>.head i Cd (d.1 A (by rw[v];exact p)),
   λr p=>let⟨m,x,y⟩:=d.2 r (by rw[v];exact p);⟨m,x,.head i Cd y⟩⟩
 | goto l=>exact absurd rfl (z l)
 | ret=>exact⟨_,f,g,j,.of_steps (.one i Cd) d⟩
 | panic B=>exact⟨_,f,g,j,.of_steps (.one i Cd) d⟩
 | outgrown=>exact⟨_,f,g,j,.of_steps (.one i Cd) d⟩
end quiet
section
variable {Q R : Type} {r : R} {C : Cfg} {I : Q -> (Nat -> Prop) -> (Nat -> Prop) -> World -> Prop} {Γ : Ctx} {Y : Nat -> Prop} {L : St Q} {a : Act} {w : World} {J : F6} {W : Yh Q} {U : Value} {o : Oper}
theorem SI.like(hI:HI I)(S:SI C I Γ Y L a.tmps w){w':World}(h:O0 w w'):SI C I Γ Y L a.tmps w'/\Stp C Γ L.hp w Y Γ L.hp w' Y:=
 S.like' hI h
def RN:PV->Value
 | .s (.bool b)=>.bool b
 | .s (.int k n)=>.int k n
 | .s (.str l)=>.string ⟨l.toArray⟩
 | _=>undef
def De4:PV->Value
 | .tup l=>.tuple (l.map RN).toArray
 | v=>RN v
theorem Ak6{Γ:Ctx}{sh:Nat->Option Shp}{w:World}{v:PV}{V:Value}(h:VP Γ sh w v V)(b:v.det1=true):V=RN v:=by
 cases h with
 | s x V c=>
  cases c<;>simp[PV.det1,SV.det] at b<;>simp[RN]
 | _=>simp[PV.det1] at b
theorem De5{Γ:Ctx}{sh:Nat->Option Shp}{w:World}{v:PV}{V:Value}(h:VP Γ sh w v V)(b:v.det=true):V=De4 v:=by
 cases h with
 | s x V i=>exact Ak6 (sh:=sh) (.s x V i) b
 | tup l A k hA f g=>
  simp only[PV.det,o7] at b;simp only[De4]
  congr 1
  apply Array.ext
  ·simp[hA]
  ·intro j d m;have c:j<l.length:=by rw[<-hA];exact d
   have e:=f j c;rw[aa3 d] at e;simp only[b9] at e;simp only[List.getElem_toArray,o8];rw[e];exact Ak6 (g j c) (b _ (j8 c))
 | _=>simp[PV.det] at b
theorem YW{Γ:Ctx}{sh:Nat->Option Shp}{w:World}{v:PV}(b:v.det1=true):VP Γ sh w v (RN v)/\v.nms=[]:=by
 cases v with
 | s x=>
  cases x<;>simp[PV.det1,SV.det] at b
  ·exact⟨.s _ _ (.bool _),rfl⟩
  ·exact⟨.s _ _ (.int _ _),rfl⟩
  ·rename_i l;have:=VS.str (St:=Γ.St) (w:=w) (⟨l.toArray⟩:ByteArray);simp only at this;exact⟨.s _ _ this,rfl⟩
 | _=>simp[PV.det1] at b
theorem Dz6{Γ:Ctx}{sh:Nat->Option Shp}{w:World}{v:PV}(b:v.det=true):VP Γ sh w v (De4 v)/\v.nms=[]:=by
 cases v with
 | s x=>exact YW (v:=.s x) b
 | tup l=>
  simp only[PV.det,o7] at b;refine⟨VP.mk_tup (by simp) λj e=>⟨RN (l[j]),by simp[e],(YW (b _ (j8 e))).1⟩,?_⟩;simp only[PV.nms];rw[x5];intro c d;obtain⟨j,e,d⟩:=C0.1 d;rw[(YW (Γ:=Γ) (sh:=sh) (w:=w) (b _ (j8 e))).2] at d;simp at d
 | _=>simp[PV.det] at b
theorem Dz7{v:PV}(b:v.det=true)(f:Nat->Nat):v.rn f=v:=by
 cases v with
 | s x=>rfl
 | tup l=>
  simp only[PV.det,o7] at b;simp only[PV.rn]
  congr 1
  induction l with
  | nil=>rfl
  | cons a r d=>
   simp only[rnL];have c:=b a (by simp);have:a.rn f=a:=by cases a<;>simp[PV.det1] at c<;>rfl
   grind
 | _=>simp[PV.det] at b
theorem Bf{P:Program}{g:Nat}{Vs:Array Value}{w:World}(h:CQ P g=true):(callFunc g Vs).run P w = .ok (.enter g Vs) w:=by
 unfold CQ at h;split at h
 ·rename_i fn e;simp only[j2,ab6,w9] at h;obtain⟨⟨c,d⟩,f⟩:=h
  have b:¬ fn.name = "runtime.NumGoroutine":=by simpa using f
  simp[callFunc,e,d,b,aa9]
 ·cases h
theorem AK{P:Program}{ro:Option Nat}{n f:Nat}{d:Array Value}{w:World}{R:Value->World->Prop}(b:(callFunc f d).run P w = .ok (.enter f d) w)(h:R4 P ((callFunc f d).run P w) R):CallsIn (G9 ro) (n-1) P f d w λe w'=>∃V,e = .returned V/\R V w':=by
 rw[b] at h;have:=h ro n { op:=.move (.const undef),dst:=some 0,guard:=none,type:=0,after:=#[],pos:=default } { tmps:=#[undef],defers:=[] } (λi w'=>∃V,i.tmps[0]? = some V/\R V w') (λ_ _ _=>False) (λV w' k=>⟨V,by simp[ai2],k⟩);rw[ad3] at this;refine this.2.mono λe w' g=>?_
 cases e with
 | returned v=>
  obtain⟨V,j,l⟩:=g;simp[ai2] at j;grind
 | panicked c=>exact g.elim
 | outgrown=>obtain⟨_,_,h⟩:=g;exact h.elim
theorem Cb5{ro:Option Nat}{n:Nat}{k:St Q->Option R}(X:HI I)(Z:XOK C)(u:Sm C o.op=true)(h:opK C J W o L k=some r)(S:SI C I Γ Y L a.tmps w) :
  ∃V v,k v=some r/\(∀w',O0 w w'->o.quietAtIn (G9 ro) n C.P a (O0 w') w' V)/\SI C I Γ Y v (a.put o.dst V).tmps w/\Stp C Γ L.hp w noΦ Γ v.hp w noΦ:=by
 obtain⟨c,q⟩:∃c,o.op = .call c:=by
  unfold Sm at u;grind
 rw[q] at u;simp only[Sm] at u;split at u
 ·rename_i g j;simp only[j2,w9] at u;obtain⟨⟨M,pf,m⟩,l⟩:=u;simp only[opK,q,j,opnd,EQ,Wz,m,M,cond_true,ai9,ad9,aa1] at h;split at h
  ·rename_i G;obtain⟨ret,Hc,t,h⟩:=Bn h;obtain⟨t,f,rfl⟩:=Cb t;obtain⟨h1,N⟩:=C3 h;simp only[ai9,aa1,Dz7 f] at N;have O:=Dz6 (Γ:=Γ) (sh:=A5 L.hp) (w:=w) f;refine⟨De4 ret,_,N,λw' K=>?_,S.put O.1 (by rw[O.2];simp),Stp.refl S.hr⟩;obtain⟨A,_⟩:=S.like X K;obtain⟨hc,hn⟩:=A.list c.args;have B:=hc.snap A.hr;let Γc:Ctx:={ Γ.all with nm:=λ_=>none }
   have D:CR Γc (A5 []) w' (N5 L.hp (c.args.toList.map (opnd C L.sl))) (c.args.map a.eval):=B.bare (ac1.1 G) (λ_ h=>h) rfl;have p:=Z.x g pf _ ret [] m t Γc w' _ (λ_=>rfl) (Mr (λ_=>rfl) (A39 A)) (A.g.mono (λ_ _=>rfl) (λ_ h=>ah4 h)) D;have i:=AK (ro:=ro) (n:=n) (Bf l) p;have F:a.eval (.func g) = .func (.func g) #[] #[]:=rfl;have he:execOp a.eval o=(do let d <-v7 (a.eval (.func g)) (c.args.map a.eval);invoke d.target d.args):=by simp only[execOp,q,resolve,j]
   unfold ab8;rw[he,F];have y:(do let d <-v7 (Value.func (.func g) #[] #[]) (c.args.map a.eval);invoke d.target d.args:Sem Next).run C.P w' = .ok (.enter g (c.args.map a.eval)) w':=by
    have:=Bf (P:=C.P) (Vs:=c.args.map a.eval) (w:=w') l;simpa[v7,invoke] using this
   rw[y];refine⟨rfl,λh=>(by simp[G9,ac7] at h),i.mono ?_⟩;rintro e a0 ⟨V,rfl,Γ1,Φ1,z,T,H,_⟩;have:=De5 H f;subst this;exact⟨rfl,⟨λg hg=>z.frame g hg (λb=>by simp[Γc]) (λx=>x),z.size⟩,z.os,z.tape,z.output⟩
  ·cases h
 ·cases u
def Out.exit':Out->Exit
 | .normal=>.normal
 | .exit id=>.exit id
 | .ret=>.ret
end
theorem XQ{a b:Nat}(h:a<=b):p5 a b=true:=by rw[al2];exact h
theorem BT{a b:Nat}(h:p5 a b=true):a<=b:=by rw[al2] at h;exact h
theorem O0.refl(w:World):O0 w w:=⟨⟨λ_ _=>rfl,o5 _⟩,rfl,rfl,rfl⟩
theorem O0.trans{a b c:World}(h:O0 a b)(k:O0 b c):O0 a c:=
 ⟨⟨λg hg=>(k.1.1 g (j6 hg h.1.2)).trans (h.1.1 g hg),w6 h.1.2 k.1.2⟩,k.2.1.trans h.2.1,k.2.2.1.trans h.2.2.1,k.2.2.2.trans h.2.2.2⟩
def Tf(D:Nat->Prop)(w w':World):Prop:=((∀g,g<w.heap.size->¬D g->w'.heap[g]? = w.heap[g]?)/\w.heap.size<=w'.heap.size)/\w'.os=w.os/\w'.tape=w.tape/\w'.output=w.output
theorem O0.x{D:Nat->Prop}{a b:World}(h:O0 a b):Tf D a b:=⟨⟨λg hg _=>h.1.1 g hg,h.1.2⟩,h.2⟩
theorem Tf.trans{D:Nat->Prop}{a b c:World}(h:Tf D a b)(k:Tf D b c):Tf D a c:=
 ⟨⟨λg hg hd=>(k.1.1 g (j6 hg h.1.2) hd).trans (h.1.1 g hg hd),w6 h.1.2 k.1.2⟩,k.2.1.trans h.2.1,k.2.2.1.trans h.2.2.1,k.2.2.2.trans h.2.2.2⟩
def RQ(D:Nat->Prop)(q:Nat)(a b:World):Prop:=(q=1->O0 a b)/\(q=2->Tf D a b)
theorem RQ.of{D:Nat->Prop}{q:Nat}{a b:World}(h:O0 a b):RQ D q a b:=⟨λ_=>h,λ_=>h.x⟩
theorem RQ.trans{D:Nat->Prop}{q:Nat}{a b c:World}(h:RQ D q a b)(k:RQ D q b c):RQ D q a c:=⟨λe=>(h.1 e).trans (k.1 e),λe=>(h.2 e).trans (k.2 e)⟩
def qK(k:Nat)(f:Bool):Nat:=cond (w8 k 1) (cond f 2 1) 0
section
variable {F : Fence} {n : Nat} {P : Program} {L : Array Oper} {Y : ab0} {D : Nat -> Prop} {far : Nat -> Bool}
def QF:Exit->Act->World->Prop:=λ_ _ _=>False
theorem Dr9{o:Oper}{a:Act}{w:World}{N:Act->World->Prop}{Q:Exit->Act->World->Prop}(h:o.wpIn F n P a w N QF):o.wpIn F n P a w N Q:=by
 unfold ah7 at *;refine⟨h.1,?_⟩;have h:=h.2;generalize (o.semAt F.round a.eval).run P w=r at *;cases r with
 | ok x w'=>
  cases x<;>simp only[ab9] at h ⊢
  case value=>exact h
  case skip=>exact h
  case defer=>exact h
  case enter=>exact⟨h.1,ai3 h.2 λe d b=>by
   cases e with
   | returned u=>exact b
   | panicked c=>exact b.elim
   | outgrown=>obtain⟨_,_,h⟩:=b;exact h.elim⟩
  case row=>exact h
  case round=>exact⟨h.1,aj1 h.2 λe d b=>by
   cases e with
   | returned u=>exact b
   | panicked c=>exact b.elim
   | outgrown=>obtain⟨_,_,h⟩:=b;exact h.elim⟩
 | halt x w'=>
  cases x<;>simp only[ab9] at h ⊢
  case panic=>exact h.elim
theorem Cl4{i:Nat}{a:Act}{w:World}{N:Act->World->Prop}{Q:Exit->Act->World->Prop}(h:wpOpIn F n P L QF i N a w):wpOpIn F n P L Q i N a w:=by
 unfold wpOpIn at *;split
 ·grind
 ·rename_i o b;simp only[b] at h;split
  ·rename_i c;simp only[c,if_true] at h;exact Dr9 h
  grind
def YQ(F:Fence)(n:Nat)(P:Program)(L:Array Oper)(D:Nat->Prop)(q:Nat)(b:World)(o:Oper)(v:Value)(a:Act):Prop:=
 o.askedIn F P a (λw=>RQ D q b w)/\
 ((p6 o (yielded L a.tmps)=true/\∀w,RQ D q b w->o.quietAtIn F n P a (O0 w) w v)\/
  (p6 o (yielded L a.tmps)=false/\v=undef))
theorem YQ.step{q:Nat}{w0 w1:World}{o:Oper}{v:Value}{a:Act}(h:YQ F n P L D q w0 o v a)(hl:RQ D q w0 w1):YQ F n P L D q w1 o v a:=
 ⟨λw hw=>h.1 w (hl.trans hw),h.2.imp (λh=>⟨h.1,λw hw=>h.2 w (hl.trans hw)⟩) (λh=>h)⟩
theorem YQ.of_same{q:Nat}{w0:World}{o:Oper}{v:Value}{a a':Act}(hy:YQ F n P L D q w0 o v a)(he:execOp a'.eval o=execOp a.eval o)
  (hw:p6 o (yielded L a'.tmps)=p6 o (yielded L a.tmps)) (hb:∀w,o.about P w a'.eval=o.about P w a.eval):YQ F n P L D q w0 o v a':=by
 unfold YQ ab8 Oper.askedIn at *;rw[he,hw];exact⟨λw hc f hf=>hy.1 w hc f (by rw[<-hb w];exact hf),hy.2⟩
theorem YQ.wpOpIn{q:Nat}{w0 w:World}{i:Nat}{o:Oper}{v:Value}{a:Act}(hi:L[i]? = some o)(hnd:∀c,o.op≠.defer c)(hy:YQ F n P L D q w0 o v a)(hw:RQ D q w0 w){K:Act->World->Prop}(h:∀w',O0 w w'->K (a.put o.dst v) w'):wpOpIn F n P L QF i K a w:=by
 unfold Go.wpOpIn;simp only[hi];rcases hy.2 with⟨hwt,hv⟩|⟨hwt,rfl⟩
 ·simp only[hwt,if_true];have h3:=hv w hw;unfold ab8 at h3;unfold ah7;refine⟨hy.1 w hw,?_⟩;rw[ab4 _ _ _ hnd];generalize (execOp a.eval o).run P w=r at *;cases r with
  | ok x w'=>
   cases x<;>simp only[aj9] at h3<;>simp only[ab9]
   case value u=>
    obtain⟨e1,e2⟩:=h3;rw[e1,e2];exact h _ (O0.refl w)
   case skip=>
    obtain⟨e1,e2⟩:=h3;rw[e1,<-e2];exact h _ (O0.refl w)
   case enter f args=>
    obtain⟨e1,hd,hc⟩:=h3;rw[e1];exact⟨hd,hc.mono λe w'' ⟨he,hw''⟩=>by subst he;exact h _ hw''⟩
  | halt x w'=>simp only[aj9] at h3
 ·simp only[hwt,ai1,if_false];exact⟨hy.1 w hw,h _ (O0.refl w)⟩
theorem Az9{q:Nat}{A:World}{j:Nat}{i k:Oper}{v:Value}(Q:L[j]? = some k)(H:i.apart L k=true)
  (J:∀C b,i.op≠.select C b) (M:∀C b,k.op≠.select C b) (y:∀c,k.op≠.defer c) {K:Act->World->Prop} {a:Act} {w:World}
  (o:YQ F n P L D q A i v a) (h:wpOpIn F n P L QF j K (a.put i.dst v) w) :
  wpOpIn F n P L QF j (λO w'=>YQ F n P L D q A i v O/\K (O.put i.dst v) w') a w:=by
 obtain⟨B,p,G⟩:=Oper.apart_spec H;have g:∀(a:Act),YQ F n P L D q A i v a->∀u,YQ F n P L D q A i v (a.put k.dst u):=λa o u=>
  o.of_same (execOp_put i J a k.dst u G) (wanted_put i a k.dst u G) (λw=>about_put i w a k.dst u G)
 unfold wpOpIn at *;simp only[Q] at *;rw[wanted_put k a i.dst v B,about_put k w a i.dst v B] at h;split
 ·rename_i N;simp only[N,if_true] at h;unfold ah7 at *;rw[about_put k w a i.dst v B] at h;refine⟨h.1,?_⟩;have h:=h.2;rw[ab4 _ _ _ y,execOp_put k M a i.dst v B] at h;rw[ab4 _ _ _ y];have I:∀d w',(execOp a.eval k).run P w≠.ok (.defer d) w'\/True:=λ_ _=>.inr trivial
  generalize R:(execOp a.eval k).run P w=r at *;cases r with
  | ok x w'=>
   cases x<;>simp only[ab9] at h ⊢
   case value u=>exact⟨g a o u,by rw[<-ac0 a v u p];exact h⟩
   case skip=>exact⟨g a o _,by rw[<-ac0 a v undef p];exact h⟩
   case defer d=>
    have t:∀d,YQ F n P L D q A i v { a with defers:=d::a.defers }:=λd=>o.of_same rfl rfl (λ_=>rfl)
    refine⟨g _ (t d) _,?_⟩;rw[<-ac0 _ v undef p,<-Act.put_defers];exact h
   case enter f args=>
    refine⟨h.1,ai3 h.2 λe z m=>?_⟩;cases e with
    | returned u=>exact⟨g a o u,by rw[<-ac0 a v u p];exact m⟩
    | panicked c=>exact m
    | outgrown=>exact m
   case row row args=>exact⟨h.1,am4 h.2 λu z m=>⟨g a o u,by rw[<-ac0 a v u p];exact m⟩⟩
   case round l f tmps assign body=>
    refine⟨h.1,aj1 h.2 λe z m=>?_⟩;cases e with
    | returned u=>exact⟨g a o u,by rw[<-ac0 a v u p];exact m⟩
    | panicked c=>exact m
    | outgrown=>exact m
  | halt x w'=>
   cases x<;>simp only[ab9] at h ⊢
   case panic u=>exact h
 ·rename_i N;simp only[N] at h;exact⟨h.1,g a o _,by rw[<-ac0 a v undef p];exact h.2⟩
def wpR(F:Fence)(n:Nat)(P:Program)(Y:ab0)(L:Array Oper)(D:Nat->Prop)(d c:Nat->Bool)(b:Act->World->Prop):Nat->Array Bool->Act->World->Prop
 | 0,listed,a,w=>p7 Y L listed=[]/\b a w
 | f+1,listed,a,w=>(p7 Y L listed=[]->b a w)/\
  ∀i∈p7 Y L listed,wpOpIn F n P L QF i (λe w'=>(d i=false->O0 w w')/\(c i=true->Tf D w w')/\∀w1,O0 w' w1->wpR F n P Y L D d c b f (listed.setIfInBounds i true) e w1) a w
theorem Oq{wr d:Nat->Bool}{Q:Exit->Act->World->Prop}{Qn:Act->World->Prop}(b:∀a w,Qn a w->Q .normal a w):∀(f:Nat) (listed:Array Bool) (a:Act) (w:World),wpR F n P Y L D wr d Qn f listed a w->wpAnyIn F n P Y L Q f listed a w
 | 0,_,_,_,h=>⟨h.1,b _ _ h.2⟩
 | f+1,_,_,_,h=>⟨λe=>b _ _ (h.1 e),λi g=>Cl4 (wpOpIn_mono (λc w' h=>Oq b f _ c w' (h.2.2 w' (O0.refl w'))) (h.2 i g))⟩
def DC(Y:ab0)(L:Array Oper)(listed:Array Bool):Prop:=∀j o,L[j]? = some o->listed.getD j false=true->∀e∈o.after,ad4 Y e=true->listed.getD e.on false=true
theorem Am2{listed:Array Bool}{i j:Nat}(h:(listed.setIfInBounds i true).getD j false=true):j=i\/listed.getD j false=true:=by by_cases a:i=j;all_goals simp_all
theorem DC.set{listed:Array Bool}{i:Nat}(h:DC Y L listed)(hi:i∈p7 Y L listed):DC Y L (listed.setIfInBounds i true):=by
 intro j o ho hj e he hb;refine getD_set_true ?_;rcases Am2 hj with rfl|hj
 ·obtain⟨_,o',ho',hall⟩:=mem_ready.1 hi;grind
 ·exact h j o ho hj e he hb
def OX(Y:ab0)(L:Array Oper):Nat->Nat->Nat->Bool
 | 0,_,_=>false
 | f+1,j,i=>match L[j]? with
  | some o=>(o.after.toList.any λe=>ad4 Y e&&w8 e.on i)||(o.after.toList.any λe=>ad4 Y e&&OX Y L f e.on i)
  | none=>false
theorem GI{listed:Array Bool}{i:Nat}(d:DC Y L listed)(k:listed.getD i false=false):∀f j,OX Y L f j i=true->listed.getD j false=false/\j∉p7 Y L listed
 | 0,j,h=>by cases h
 | f+1,j,h=>by
  simp only[OX] at h;split at h
  ·rename_i o m;have key:∃e∈o.after,ad4 Y e=true/\listed.getD e.on false=false:=by
    rw[aa0,aj8,aj8] at h;rcases h with⟨e,b,a⟩|⟨e,b,a⟩
    ·rw[j2] at a;have:=k9 a.2;grind
    ·rw[j2] at a;exact⟨e,by simpa using b,a.1,(GI d k f e.on a.2).1⟩
   obtain⟨e,b,a,g⟩:=key;refine⟨?_,λq=>?_⟩
   ·cases l:listed.getD j false with
    | false=>rfl
    | true=>rw[d j o m l e b a] at g;cases g
   ·obtain⟨_,r,p,c⟩:=mem_ready.1 q;grind
  ·cases h
theorem AH{listed:Array Bool}{i:Nat}(h:i∈p7 Y L listed):listed.getD i false=false:=by have a:=(mem_ready.1 h).1;grind
theorem Cl5{X K:Nat->Bool}{Qn:Act->World->Prop}{q:Nat}{i:Nat}{G:Oper}{v:Value}(N:L[i]? = some G)(y:∀(j:Nat) (o:Oper) J b,L[j]? = some o->o.op≠.select J b)(B:∀(j:Nat) (o:Oper) c,L[j]? = some o->o.op≠.defer c) :
  ∀(f:Nat) (listed:Array Bool) (a:Act) (V:World),
   (∀j A,L[j]? = some A->j≠i->listed.getD j true=false->(∀e∈A.after,ad4 Y e=true->e.on≠i)->G.apart L A=true)->
   (∀j,j≠i->listed.getD j true=false->X j=true->(q=1\/(q=2/\K j=false))->OX Y L L.size j i=true)->DC Y L listed->
   i∈p7 Y L listed->YQ F n P L D q V G v a->
   (∀w,O0 V w->wpR F n P Y L D X K Qn f (listed.setIfInBounds i true) (a.put G.dst v) w)->∀w,O0 V w->wpR F n P Y L D X K Qn (f+1) listed a w:=by
 intro f
 induction f with
 | zero=>
  intro listed a V _ _ _ C W H w z;refine⟨λh=>(by rw[h] at C;cases C),λj I=>?_⟩;by_cases d:j=i
  ·subst d;exact W.wpOpIn N (λc=>B j G c N) (.of z) λw' p=>⟨λ_=>p,λ_=>p.x,λw1 M=>H w1 (z.trans (p.trans M))⟩
  ·have:=ready_mono I d;rw[(H w z).1] at this;cases this
 | succ f ih=>
  intro listed a V l U hd C W H w z;refine⟨λh=>(by rw[h] at C;cases C),λj I=>?_⟩;by_cases d:j=i
  ·subst d;exact W.wpOpIn N (λc=>B j G c N) (.of z) λw' p=>⟨λ_=>p,λ_=>p.x,λw1 M=>H w1 (z.trans (p.trans M))⟩
  ·have M:=(H w z).2 j (ready_mono I d);obtain⟨x,A,t,a4⟩:=mem_ready.1 I;have O:=AH C;have R:∀e∈A.after,ad4 Y e=true->e.on≠i:=λe he hb heq=>by grind
   have h2:=Az9 t (l j A t d x R) (λJ b=>y i G J b N) (λJ b=>y j A J b t) (λc=>B j A c t) (W.step (w1:=w) (.of z)) M;have m:∀{k:Nat},k≠i->(listed.setIfInBounds j true).getD k true=false->listed.getD k true=false:=fun {k} g u=>by
    by_cases a5:j=k;all_goals simp_all
   refine wpOpIn_mono (λa' w' h3=>?_) h2;obtain⟨a3,p,Q,hR⟩:=h3;refine⟨p,Q,λw1 a0=>?_⟩;have Z:RQ D q w w':=by
    cases T:X j with
    | false=>exact .of (p T)
    | true=>
     have r:(q=1\/(q=2/\K j=false))->False:=λS=>(GI hd O L.size j (U j d x T S)).2 I
     refine⟨λS=>(r (.inl S)).elim,λS=>?_⟩;cases hf:K j with
     | true=>exact Q hf
     | false=>exact(r (.inr ⟨S,hf⟩)).elim
   refine ih (listed.setIfInBounds j true) a' w' (λk ok hk g u r=>l k ok hk g (m g u) r) (λk g u a2=>U k g (m g u) a2) (hd.set I) (ready_mono C (Ne.symm d)) (a3.step Z) (λw2 a1=>?_) w1 a0;rw[Array.setIfInBounds_comm _ _ d];exact hR w2 a1
def N9(F:Fence)(n:Nat)(P:Program)(L:Array Oper)(D:Nat->Prop)(far:Nat->Bool)(kind:Nat->Nat)(E:Act->World->Prop):List Nat->Act->World->Prop
 | [],a,c=>E a c
 | i::b,a,c=>(kind i<=1->∃o v,L[i]? = some o/\YQ F n P L D (qK (kind i) (far i)) c o v a/\N9 F n P L D far kind E b (a.put o.dst v) c)/\
  (2<=kind i->∀w,O0 c w->wpOpIn F n P L QF i (λd w'=>(kind i=2->O0 w w')/\(far i=true->Tf D w w')/\N9 F n P L D far kind E b d w') a w)
def By5(Y:ab0)(L:Array Oper)(far:Nat->Bool)(kind:Nat->Nat)(i:Nat)(listed:Array Bool):Bool:=
 (p7 Y L listed).contains i&&(Region.free Y L listed i&&(w8 (kind i) 0||(ae4 L.size).all λj=>w8 j i||(listed.getD j true||(!(p5 3 (kind j))||((far i&&far j)||OX Y L L.size j i)))))
def LJ(Y:ab0)(L:Array Oper)(far:Nat->Bool)(kind:Nat->Nat)(a:Array Bool->Bool):List Nat->Array Bool->Bool
 | [],listed=>a listed
 | i::r,listed=>cond (p5 (kind i) 1) (By5 Y L far kind i listed) ((p7 Y L listed)==[i])&&LJ Y L far kind a r (listed.setIfInBounds i true)
def YU(Y:ab0)(L:Array Oper)(far:Nat->Bool)(kind:Nat->Nat):List Nat->Array Bool->Bool:=LJ Y L far kind λlisted=>(p7 Y L listed).isEmpty
theorem Ct7{kind:Nat->Nat}{z:Act->World->Prop}(K:ab3 L=true)(x:∀(j:Nat) (o:Oper) c,L[j]? = some o->o.op≠.defer c)(I:∀j,L.size<=j->kind j<=1){i b:Nat}{listed:Array Bool}{a:Act}{m:World}{o:Oper}{v:Value}
  (A:By5 Y L far kind i listed=true) (B:DC Y L listed) (C:L[i]? = some o) (N:YQ F n P L D (qK (kind i) (far i)) m o v a)
  (h:DC Y L (listed.setIfInBounds i true)->∀w,O0 m w->wpR F n P Y L D (λj=>p5 3 (kind j)) far z b (listed.setIfInBounds i true) (a.put o.dst v) w):∀w,O0 m w->wpR F n P Y L D (λj=>p5 3 (kind j)) far z (b+1) listed a w:=by
 intro w M;simp only[By5,j2] at A;obtain⟨J,G,e⟩:=A;have g:i∈p7 Y L listed:=by simpa using J
 refine Cl5 (q:=qK (kind i) (far i)) C (Region.noSelect_spec K) x b listed a m (Region.free_spec C G) (λj t y k d=>?_) B g N (h (B.set g)) w M;have f:kind i=1:=by
  cases l:w8 (kind i) 1 with
  | true=>exact k9 l
  | false=>simp[qK,l] at d
 have p:(far i&&far j)=false:=by
  rw[f] at d;cases r:far i with
  | false=>rfl
  | true=>
   rcases d with d|⟨_,d⟩
   ·rw[r] at d;cases d
   ·rw[d];rfl
 rw[f] at e;simp only[show w8 1 0=false from rfl,al4,o7,al1] at e;have u:j<L.size:=aa4 λH=>by
  have:=I j (by omega);have O:=BT k;omega
 have:=e j u;rw[show w8 j i=false by cases l:w8 j i with|false=>rfl|true=>exact absurd (k9 l) t,y,k,p] at this;simpa using this
theorem Ry{kind:Nat->Nat}{Qn E:Act->World->Prop}{fin:Array Bool->Bool}{m:Nat}(C:ab3 L=true)(k:∀(j:Nat) (o:Oper) c,L[j]? = some o->o.op≠.defer c)(B:∀j,L.size<=j->kind j<=1)
  (d:∀listed a f,fin listed=true->DC Y L listed->E a f->∀w,O0 f w->wpR F n P Y L D (λj=>p5 3 (kind j)) far Qn m listed a w) :
  ∀(b:List Nat) (listed:Array Bool) (a:Act) (f:World),LJ Y L far kind fin b listed=true->DC Y L listed->N9 F n P L D far kind E b a f->∀w,O0 f w->wpR F n P Y L D (λj=>p5 3 (kind j)) far Qn (m+b.length) listed a w
 | [],listed,a,f,r,t,h,w,u=>d listed a f r t h w u
 | i::b,listed,a,f,r,t,h,w,u=>by
  simp only[LJ,j2] at r;obtain⟨e,q⟩:=r;simp only[N9] at h;show wpR F n P Y L D _ _ Qn (m+b.length+1) listed a w;by_cases g:kind i<=1
  ·rw[show p5 (kind i) 1=true from XQ g,cond_true] at e;obtain⟨o,v,M,N,J⟩:=h.1 g;exact Ct7 C k B e t M N (λy w1 l=>Ry C k B d b _ _ f q y J w1 l) w u
  ·rw[show p5 (kind i) 1=false by cases K:p5 (kind i) 1 with|false=>rfl|true=>exact absurd (BT K) g,cond_false] at e;have H:p7 Y L listed=[i]:=by simpa using e
   refine⟨λG=>(by rw[H] at G;cases G),λj z=>?_⟩;have A:j=i:=by rw[H] at z;simpa using z
   subst A;refine wpOpIn_mono (λI w' x=>?_) (h.2 (by omega) w u);refine⟨λp=>x.1 ?_,x.2.1,λw1 l=>Ry C k B d b _ I w' q (t.set z) x.2.2 w1 l⟩;have:¬ 3<=kind j:=λh=>by dsimp only at p;rw[XQ h] at p;cases p
   omega
def AN(F:Fence)(n:Nat)(P:Program)(L:Array Oper)(D:Nat->Prop)(far:Nat->Bool)(kind:Nat->Nat)(E:Act->World->Prop)(e:Nat)(post:List Nat):List Nat->Act->World->Prop
 | [],a,c=>∀w,O0 c w->wpOpIn F n P L QF e (λd w'=>O0 w w'/\N9 F n P L D far kind E post d w') a w
 | i::b,a,c=>N9 F n P L D far kind (AN F n P L D far kind E e post b) [i] a c/\
  (2<=kind i->∀w,O0 c w->wpOpIn F n P L QF e (λd w'=>O0 w w'/\N9 F n P L D far kind E ((i::b)++post) d w') a w)
def Rx(Y:ab0)(L:Array Oper)(far:Nat->Bool)(kind:Nat->Nat)(a:Nat)(post:List Nat):List Nat->Array Bool->Bool
 | [],listed=>(p7 Y L listed==[a])&&YU Y L far kind post (listed.setIfInBounds a true)
 | i::r,listed=>cond (p5 (kind i) 1) (By5 Y L far kind i listed)
   ((p7 Y L listed).contains i&&((p7 Y L listed).all (λj=>w8 j i||w8 j a)&&YU Y L far kind ((i::r)++post) (listed.setIfInBounds a true)))&&Rx Y L far kind a post r (listed.setIfInBounds i true)
theorem Cs1{kind:Nat->Nat}{y:Act->World->Prop}{J:Nat}{post:List Nat}(R:ab3 L=true)(t:∀(j:Nat) (o:Oper) c,L[j]? = some o->o.op≠.defer c)(Q:∀j,L.size<=j->kind j<=1) :
  ∀(k:List Nat) (listed:Array Bool) (a:Act) (l:World),Rx Y L far kind J post k listed=true->DC Y L listed->AN F n P L D far kind (λa l=>∀w,O0 l w->y a w) J post k a l->∀w,O0 l w->wpR F n P Y L D (λj=>p5 3 (kind j)) far y (post.length+1+k.length) listed a w:=by
 have p:∀(listed:Array Bool) (a:Act) (l:World),(p7 Y L listed).isEmpty=true->DC Y L listed->(∀w,O0 l w->y a w)->∀w,O0 l w->wpR F n P Y L D (λj=>p5 3 (kind j)) far y 0 listed a w:=
  λlisted a l h _ W w u=>⟨by simpa using h,W w u⟩
 intro k
 induction k with
 | nil=>
  intro listed a l A G h w u;simp only[Rx,j2] at A;obtain⟨b,m⟩:=A;have S:p7 Y L listed=[J]:=by simpa using b
  show wpR F n P Y L D _ _ y (post.length+1) listed a w;refine⟨λH=>(by rw[S] at H;cases H),λj q=>?_⟩;have g:j=J:=by rw[S] at q;simpa using q
  subst g;refine wpOpIn_mono (λz w' f=>⟨λ_=>f.1,λ_=>f.1.x,λw1 d=>?_⟩) (h w u);have:=Ry R t Q p post _ z w' m (G.set q) f.2 w1 d;rwa [ae2] at this
 | cons i e T=>
  intro listed a l A G h w u;simp only[Rx,j2] at A;obtain⟨b,m⟩:=A;simp only[AN] at h;obtain⟨M,V⟩:=h;simp only[N9] at M;show wpR F n P Y L D _ _ y (post.length+1+e.length+1) listed a w;by_cases r:kind i<=1
  ·rw[show p5 (kind i) 1=true from XQ r,cond_true] at b;obtain⟨o,v,I,X,U⟩:=M.1 r;exact Ct7 R t Q b G I X (λN w1 d=>T _ _ l m N U w1 d) w u
  ·rw[show p5 (kind i) 1=false by cases C:p5 (kind i) 1 with|false=>rfl|true=>exact absurd (BT C) r,cond_false] at b;simp only[j2,o7,aa0] at b;obtain⟨O,B,K⟩:=b;have I:i∈p7 Y L listed:=by simpa using O
   refine⟨λH=>(by rw[H] at I;cases I),λj q=>?_⟩;rcases B j q with C|C
   ·have g:=k9 C;subst g;refine wpOpIn_mono (λz w' f=>?_) (M.2 (by omega) w u);refine⟨λx=>f.1 ?_,f.2.1,λw1 d=>T _ z w' m (G.set q) f.2.2 w1 d⟩;have:¬ 3<=kind j:=λh=>by dsimp only at x;rw[XQ h] at x;cases x
    omega
   ·have g:=k9 C;subst g;refine wpOpIn_mono (λz w' f=>⟨λ_=>f.1,λ_=>f.1.x,λw1 d=>?_⟩) (V (by omega) w u);have:=Ry R t Q p ((i::e)++post) _ z w' K (G.set q) f.2 w1 d;rw[ae2] at this;rw[show post.length+1+e.length=((i::e)++post).length by rw[x9,af4];omega];exact this
def QL(d:Option Tmp)(a b:Act):Prop:=∀t,d≠some t->b.tmps[t]? = a.tmps[t]?
theorem Bq(a:Act)(d:Option Tmp)(v:Value):QL d a (a.put d v):=λt b=>by
 cases d with
 | none=>rfl
 | some d=>
  have:d≠t:=λe=>b (by rw[e])
  simp[ai2,this]
theorem Bs9{o:Oper}{a:Act}{w:World}{N:Act->World->Prop}(h:o.wpIn F n P a w N QF):o.wpIn F n P a w (λf w'=>QL o.dst a f/\N f w') QF:=by
 unfold ah7 at *;refine⟨h.1,?_⟩;have h:=h.2;generalize (o.semAt F.round a.eval).run P w=r at *;cases r with
 | ok x w'=>
  cases x<;>simp only[ab9] at h ⊢
  case value=>exact⟨Bq _ _ _,h⟩
  case skip=>exact⟨Bq _ _ _,h⟩
  case defer=>
   refine⟨λt g=>?_,h⟩;exact Bq { a with defers:=_ } o.dst undef t g
  case enter=>exact⟨h.1,ai3 h.2 λe d b=>by
   cases e with
   | returned u=>exact⟨Bq _ _ _,b⟩
   | panicked c=>exact b.elim
   | outgrown=>obtain⟨_,_,h⟩:=b;exact h.elim⟩
  case row=>exact⟨h.1,am4 h.2 λu d b=>⟨Bq _ _ _,b⟩⟩
  case round=>exact⟨h.1,aj1 h.2 λe d b=>by
   cases e with
   | returned u=>exact⟨Bq _ _ _,b⟩
   | panicked c=>exact b.elim
   | outgrown=>obtain⟨_,_,h⟩:=b;exact h.elim⟩
 | halt x w'=>
  cases x<;>simp only[ab9] at h ⊢
  omega
theorem Af4{i:Nat}{o:Oper}(d:L[i]? = some o){a:Act}{w:World}{N:Act->World->Prop}(h:wpOpIn F n P L QF i N a w):wpOpIn F n P L QF i (λc w'=>QL o.dst a c/\N c w') a w:=by
 unfold wpOpIn at *;simp only[d] at h ⊢;split
 ·rename_i b;simp only[b,if_true] at h;exact Bs9 h
 ·rename_i b;simp only[b] at h;exact⟨h.1,Bq _ _ _,h.2⟩
theorem ER{kind:Nat->Nat}{E:Act->World->Prop}{i:Nat}{o:Oper}(j:L[i]? = some o){a:Act}{k:World}(h:N9 F n P L D far kind (λc w'=>QL o.dst a c->E c w') [i] a k):N9 F n P L D far kind E [i] a k:=by
 simp only[N9] at h ⊢;refine⟨λg=>?_,λg w l=>?_⟩
 ·obtain⟨m,v,b,d,f⟩:=h.1 g;obtain rfl:=p9 (j.symm.trans b);exact⟨_,v,b,d,f (Bq _ _ _)⟩
 ·exact wpOpIn_mono (λc w' ⟨b,d,e,f⟩=>⟨d,e,f b⟩) (Af4 j (h.2 g w l))
theorem AL{id:Nat}{Q:Exit->Act->World->Prop}{kind:Nat->Nat}{ord:List Nat}{a:Act}{w:World}(k:P.follows .mixedOrders=true)(p:ab3 L=true)(f:∀(j:Nat) (o:Oper) c,L[j]? = some o->o.op≠.defer c)(i:∀j,L.size<=j->kind j<=1)
  (b:ord.length=L.size) (g:YU .any L far kind ord (z7 L.size false)=true) (h:N9 F n P L D far kind (λa d=>∀w,O0 d w->Q .normal a w) ord a w):(ag9 id L true).wpIn F n P Q a w:=by
 refine wpIn_region_any k ?_;rw[<-b,<-ae2 ord.length];refine Oq (λ_ _ h=>h) _ _ _ _ (Ry (Qn:=λa w=>Q .normal a w) (m:=0) (fin:=λlisted=>(p7 .any L listed).isEmpty) (E:=λa d=>∀w,O0 d w->Q .normal a w) p f i (λlisted a d h _ l w q=>⟨by simpa using h,l w q⟩) ord _ a w (by rw[ae2,b];exact g) (λj o r e=>?_) h _ (O0.refl w));simp only[aa2,af0] at e;split at e<;>cases e
end
section
variable {X R : Type} {r : R} {C : Cfg} {I : X -> (Nat -> Prop) -> (Nat -> Prop) -> World -> Prop} {Γ : Ctx} {Φ : Nat -> Prop} {st : St X} {a : Act} {w : World} {O : F6} {Z : Yh X} {N : Value} {o : Oper}
theorem Bn9{P:Program}{m:Sem Next}{w w1 b:World}{x y:Next}(h:m.run P w = .ok x w1)(k:m.run P w = .ok y b):x=y/\w1=b:=by grind
theorem Ui(w:World)(x:Obj):O0 w (w.alloc x):=⟨⟨λg b=>I8 (w':=w.alloc x) (o:=x) rfl b,by rw[show(w.alloc x).heap=w.heap.push x from rfl];simp⟩,rfl,rfl,rfl⟩
theorem QT{Γ:Ctx}{e:Nat}{ev:Operand->Value}(b:(C.ti e).ok=true)(c:o.op = .alloc e):∃z:Value,(execOp ev o).run C.P w = .ok (.value (.pointer (some ⟨w.heap.size,0,none⟩))) (w.alloc (.cells z.cells e))/\(∀(Γ:Ctx) sh w,CR Γ sh w ((C.ti e).ks.map Bp) z.cells)/\∃i,C.P.info? e=some i/\i.zero=some z:=by
 obtain⟨i,z,d,f,_,_⟩:=Ov (Γ:=Γ) (sh:=λ_=>none) (w:=w) b;refine⟨z,?_,λΓ' sh w'=>?_,i,d,f⟩
 ·simp only[execOp,c];simp[Instr.alloc,zeroValue,typeInfo,d,f,newVar,newRow]
 ·obtain⟨k,l,g,j,_,h⟩:=Ov (Γ:=Γ') (sh:=sh) (w:=w') b;grind
theorem D18{M:Option Nat}{n:Nat}{k:St X->Option R}{next:Act->World->Prop}{Q:Exit->Act->World->Prop}(A:Ask C I O Z N)(a0:Γ.yv=N)(y:By4 C o.op=true)(h:opK C O Z o st k=some r)(S:SI C I Γ Φ st a.tmps w)(hN:Nxt C I Γ Φ st.hp w a.defers k r (λa' w'=>O0 w w'->next a' w')) :
  o.wpIn (G9 M) n C.P a w next Q:=by
 refine⟨λ_ _=>trivial,?_⟩;have L:∀c,o.op≠.defer c:=λc e=>by simp[opK,e] at h
 rw[ab4 _ _ _ L];unfold By4 at y;have add:CI o.op=false->(∃F x,(execOp a.eval o).run C.P w = .ok (.value F) (w.alloc x))->o.uponIn (G9 M) n C.P a next Q ((execOp a.eval o).run C.P w):=λu ⟨F,x,J⟩=>by
  obtain⟨V,w',Γ',l,G,q,h3,h4⟩:=Ap8 A.hI u h S;have U:=hN l (a.put o.dst V) w' Γ' Φ G h4 h3 (put_defers _ _ _);rcases q with q|⟨rfl,q⟩
  ·obtain⟨_,rfl⟩:=Bn9 q J;rw[q];exact U (Ui w x)
  grind
 split at y
 ·rename_i t len parts b;refine add (by rw[b];rfl) ?_;simp only[opK,b] at h;obtain⟨p1,p2⟩:=S.parts parts.toList;obtain⟨v,H',hk,hv,F,x,j⟩:=Jn (ps:=parts.map λ(i,x)=>(i,a.eval x)) (sl:=st.sl) (tmps:=a.tmps) S.hr h (by rw[aj6];exact p1);refine⟨F,x,?_⟩;simp only[execOp,b];simp[j]
 ·rename_i e b;refine add (by rw[b];rfl) ?_;by_cases B:(C.ti e).ok=true
  ·obtain⟨z,hr,_⟩:=QT (Γ:=Γ) (ev:=a.eval) (w:=w) B b;exact⟨_,_,hr⟩
  ·simp[opK,b,GJ,B] at h
 ·rename_i c b;split at y
  ·rename_i g m;simp only[j2,w9] at y;obtain⟨⟨pf,p⟩,T⟩:=y;simp only[opK,b,m,opnd,EQ,Wz,p,ai9,ad9,aa1] at h;split at h
   ·rename_i K;obtain⟨ret,Y,f,h⟩:=Bn h;have f:M3 (pf (N5 st.hp (c.args.toList.map (opnd C st.sl))))=some (ret,Y):=by
     cases W:C.xp g with
     | true=>rw[W] at f;exact(Cb f).1
     | false=>rw[W] at f;exact f
    obtain⟨G,q⟩:=C3 h;obtain⟨hc,U⟩:=S.list c.args;have key:=LI (k:=λv l=>k { l with sl:=Cg o.dst v l.sl }) A.hI A.hX S hc p f (ac1.1 K) (by simpa only[aa0,ab6,j2] using G) q;have H:execOp a.eval o=(do let d <-v7 (a.eval (.func g)) (c.args.map a.eval);invoke d.target d.args):=by simp only[execOp,b,resolve,m]
    have j:(execOp a.eval o).run C.P w=(callFunc g (c.args.map a.eval)).run C.P w:=by
     rw[H];have e:a.eval (.func g) = .func (.func g) #[] #[]:=rfl;rw[e];simp[v7,invoke]
    rw[j];refine key M n o a next Q ?_
    rintro V w' ⟨⟨v,l,Γ',P,k1,k2,D,k4,k5⟩,J⟩;exact hN _ (a.put o.dst V) w' Γ' P k1 k2 ⟨D.hr,D.sr.put (ds:=a.defers) o k4 k5,D.g,D.inv,D.dis⟩ (put_defers _ _ _) J
   ·cases h
  ·cases y
 ·cases y
theorem MK(C:Cfg)(op:Op):(Dw C op=0/\((∃x,op = .move x\/op = .assign x\/∃i,op = .extract x i)\/(∃t x d c e,op = .slice t x d c e)\/(∃t x f,op = .fieldAddr t x f)\/(∃t x i,op = .indexAddr t x i)\/∃b t x y q,op = .binOp b t x y q))\/(Dw C op=1/\NP C op=true)\/(Dw C op=2/\By4 C op=true)\/Dw C op=3:=by unfold Dw;grind
theorem Dz3{k:St X->Option R}(v:(∃x,o.op = .move x\/o.op = .assign x\/∃i,o.op = .extract x i)\/(∃t x j g l,o.op = .slice t x j g l)\/(∃t x f,o.op = .fieldAddr t x f)\/(∃t x i,o.op = .indexAddr t x i)\/∃b t x y q,o.op = .binOp b t x y q)(h:opK C O Z o st k=some r)(S:SI C I Γ Φ st a.tmps w) :
  ∃V d,k d=some r/\(∀w':World,(execOp a.eval o).run C.P w' = .ok (.value V) w')/\SI C I Γ Φ d (a.put o.dst V).tmps w/\Stp C Γ st.hp w noΦ Γ d.hp w noΦ:=by
 rcases v with⟨x,c⟩|⟨t,x,j,g,l,c⟩|⟨t,x,f,c⟩|⟨t,x,i,c⟩|⟨b,t,x,y,q,c⟩
 ·obtain⟨V,d,m,n,p,u⟩:=Sj (a:=a) (show P7 C o.op=true by rcases c with h|h|⟨_,h⟩<;>rw[h]<;>rfl) h S;refine⟨V,d,m,λw'=>?_,p,u⟩;have e:=n w (Ext.refl w);rcases c with c|c|⟨i,c⟩<;>simp only[execOp,c] at e ⊢
  ·cases e;rfl
  ·cases e;rfl
  ·unfold Instr.extract at e ⊢;split at e
   ·split at e
    ·cases e;simp_all
    ·cases e
   ·cases e
 ·exact Ax7 (a:=a) c h S
 ·exact Al7 (a:=a) c h S
 ·exact An7 (a:=a) c h S
 ·exact B56 (a:=a) c h S
theorem Ed{ro:Option Nat}{n:Nat}{all:Array Oper}{E:Act->World->Prop}{D:Nat->Prop}{far:Nat->Bool}(A:Ask C I O Z N):∀(c:List Nat) {Γ:Ctx} {Φ:Nat->Prop} {st:St X} {a:Act} {w:World} {k:St X->Option R},(∀i∈c,i<all.size/\far i=false)->Γ.yv=N->
  Ft C O Z all (c.filterMap (all[·]?)) st k=some r->SI C I Γ Φ st a.tmps w->Nxt C I Γ Φ st.hp w a.defers k r E->N9 (G9 ro) n C.P all D far (M9 C all) E c a w
 | [],Γ,Φ,st,a,w,k,f,hyv,h,S,hN=>hN st a w Γ Φ h (Stp.refl S.hr) S rfl
 | i::c,Γ,Φ,st,a,w,k,f,hyv,h,S,hN=>by
  have a6:=(f i (by simp)).1;have L:=(f i (by simp)).2;obtain⟨o,ho⟩:∃o,all[i]? = some o:=⟨all[i],aa3 a6⟩
  have y:∀j∈c,j<all.size/\far j=false:=λj hj=>f j (by simp[hj])
  rw[ah8,ho] at h;have a9:M9 C all i=Dw C o.op:=by simp only[M9,ho]
  have b0:∀{w1:World},O0 w w1->Nxt C I Γ Φ st.hp w a.defers k r E->SI C I Γ Φ st a.tmps w1/\Nxt C I Γ Φ st.hp w1 a.defers k r E:=fun {w1} p hN=>by
   obtain⟨S1,J⟩:=S.like A.hI p;exact⟨S1,λd a' w' Γ' Φ' F l G H=>hN d a' w' Γ' Φ' F (J.trans l) G H⟩
  have run:∀{st:St X},p6 o (yielded all a.tmps)=true->SI C I Γ Φ st a.tmps w->Nxt C I Γ Φ st.hp w a.defers k r E->opK C O Z o st (λd=>Ft C O Z all (c.filterMap (all[·]?)) d k)=some r->N9 (G9 ro) n C.P all D far (M9 C all) E (i::c) a w:=fun {st} q S hN h=>by
   have a0:Dw C o.op<=1->∃V d,Ft C O Z all (c.filterMap (all[·]?)) d k=some r/\YQ (G9 ro) n C.P all D (qK (Dw C o.op) (far i)) w o V a/\SI C I Γ Φ d (a.put o.dst V).tmps w/\Stp C Γ st.hp w Φ Γ d.hp w Φ:=λW=>by
    rcases MK C o.op with⟨P,hb⟩|⟨P,hq⟩|⟨P,_⟩|P
    ·obtain⟨V,d,F,l,G,H⟩:=Dz3 (a:=a) hb h S;refine⟨V,d,F,⟨λ_ _ _ _=>trivial,.inl ⟨q,λw' _=>?_⟩⟩,G,H.lift Φ⟩;unfold ab8;rw[l w'];exact⟨rfl,rfl⟩
    ·rw[P];simp only[NP,aa0] at hq;rcases hq with hq|hq
     ·obtain⟨V,d,F,l,G,H⟩:=Sj (a:=a) hq h S;refine⟨V,d,F,⟨λ_ _ _ _=>trivial,.inl ⟨q,λw' Y=>?_⟩⟩,G,H.lift Φ⟩;unfold ab8;rw[l w' (Y.1 (by rw[L];rfl)).1.1];exact⟨rfl,rfl⟩
     ·obtain⟨V,d,F,l,G,H⟩:=Cb5 (ro:=ro) (n:=n) (a:=a) A.hI A.hX hq h S;exact⟨V,d,F,⟨λ_ _ _ _=>trivial,.inl ⟨q,λw' Y=>l w' (Y.1 (by rw[L];rfl))⟩⟩,G,H.lift Φ⟩
    all_goals omega
   simp only[N9];rw[a9];refine⟨λW=>?_,λa7 w1 p=>?_⟩
   ·obtain⟨V,d,F,l,G,H⟩:=a0 W;exact⟨o,V,ho,l,Ed A c y hyv F G λt T w2 u x k1 k2 k3 k4=>hN t T w2 u x k1 (H.trans k2) k3 (k4.trans (put_defers _ _ _))⟩
   ·obtain⟨S1,J⟩:=S.like A.hI p;unfold wpOpIn;simp only[ho,q,if_true];rcases MK C o.op with⟨P,_⟩|⟨P,_⟩|⟨P,hx⟩|P
    ·omega
    ·omega
    ·exact D18 A hyv hx h S1 λd a' w' Γ' Φ' F l G H hl=>⟨λ_=>hl,λe=>(by rw[L] at e;cases e),Ed A c y (l.yv.trans hyv) F G λt T w2 u x k1 k2 k3 k4=>hN t T w2 u x k1 (J.trans (l.trans k2)) k3 (k4.trans H)⟩
    ·exact Bd5 A hyv h S1 λd a' w' Γ' Φ' F l G H=>⟨λe=>by omega,λe=>(by rw[L] at e;cases e),Ed A c y (l.yv.trans hyv) F G λt T w2 u x k1 k2 k3 k4=>hN t T w2 u x k1 (J.trans (l.trans k2)) k3 (k4.trans H)⟩
  have skip:∀{st:St X},p6 o (yielded all a.tmps)=false->SI C I Γ Φ st a.tmps w->Nxt C I Γ Φ st.hp w a.defers k r E->Ft C O Z all (c.filterMap (all[·]?)) { st with sl:=Cg o.dst (.tup []) st.sl } k=some r->N9 (G9 ro) n C.P all D far (M9 C all) E (i::c) a w:=fun {st} q S hN h=>by
   simp only[N9];have go:∀{w1:World},O0 w w1->N9 (G9 ro) n C.P all D far (M9 C all) E c (a.put o.dst undef) w1:=fun {w1} p=>by
    obtain⟨S1,J⟩:=S.like A.hI p;exact Ed A c (st:={ st with sl:=Cg o.dst (.tup []) st.sl }) y hyv h (S1.put (o:=o) Cy (by simp[PV.nms,C8])) λt T w2 u x k1 k2 k3 k4=>hN t T w2 u x k1 (J.trans k2) k3 (k4.trans (put_defers _ _ _))
   refine⟨λW=>⟨o,undef,ho,⟨λ_ _ _ _=>trivial,.inr ⟨q,rfl⟩⟩,go (O0.refl w)⟩,λa7 w1 p=>?_⟩;unfold wpOpIn;simp only[ho,q,ai1,if_false];exact⟨λ_ _=>trivial,λ_=>O0.refl w1,λ_=>(O0.refl w1).x,go p⟩
  simp only[Ft] at h;split at h
  ·rename_i hg;exact run (by simp[p6,hg]) S hN h
  ·rename_i j Q hg;split at h
   ·rename_i g a1;have a4:∀b,a.tmps[g]? = some (.bool b)->yielded all a.tmps j=some b:=λb e=>by simp[yielded,a1,e]
    have a3:(∀b,a.tmps[g]?≠some (.bool b))->yielded all a.tmps j=none:=λb2=>by
     simp only[yielded,a1,j4]
    have m:∀v,st.sl.getD g (.tup [])=v->∀V,a.tmps[g]? = some V->VP Γ (A5 st.hp) w v V:=λv hv V hV=>by
     have f:g<st.sl.length:=by rw[<-S.sr.size];exact(o0.1 hV).1
     obtain⟨U,e1,e2⟩:=S.sr.slot g f;grind
    split at h
    ·rename_i b hb;have f:g<st.sl.length:=aa4 λb1=>by grind
     obtain⟨U,e1,e2⟩:=S.sr.slot g f;have hU:=(m _ hb U e1).inv_bool;subst hU;have z:yielded all a.tmps j=some b:=a4 b e1;have S':SI C I Γ Φ { st with sl:=st.sl.set g (.s (.bool b)) } a.tmps w:=⟨S.hr,S.sr.set g (m _ hb) (by simp[PV.nms]),S.g,S.inv,S.dis⟩
     have M:(if (b==Q)=true then opK C O Z o { st with sl:=st.sl.set g (.s (.bool b)) } (λd=>Ft C O Z all (c.filterMap (all[·]?)) d k) else Ft C O Z all (c.filterMap (all[·]?)) { st with sl:=Cg o.dst (.tup []) (st.sl.set g (.s (.bool b))) } k)=some r:=by
      cases b<;>exact h
     by_cases K:b=Q
     ·rw[if_pos (by simpa using K)] at M;exact run (by simp[p6,hg,z,K]) S' hN M
     ·rw[if_neg (by simpa using K)] at M;exact skip (by simp[p6,hg,z,K]) S' hN M
    ·rename_i hb;have z:yielded all a.tmps j=none:=a3 λb a5=>by
      obtain⟨B,e,_⟩:=(m _ hb _ a5).inv_tup;cases e
     exact skip (by simp[p6,hg,z]) S hN h
    grind
   ·cases h
def Ea2:Op->Bool
 | .defer _=>false
 | _=>true
def Ey:Option (List Nat × List Nat)->Nat->Bool
 | none,_=>false
 | some f,i=>okN f.1 i
def C05(C:Cfg)(c:Option (List Nat × List Nat))(b:Array Oper):Bool:=
 ab3 b&&(b.toList.all (λo=>Ea2 o.op)&&(w8 (Yu C b.toList).length b.size&&((Yu C b.toList).all (λi=>p5 (i+1) b.size)&&YU .any b (Ey c) (M9 C b) (Yu C b.toList) (z7 b.size false))))
def Bp7(o:Oper):List Nat:=o.op.operands.toList.filterMap λx=>match x with | .tmp t=>some t|_=>none
def Ip(b:Array Oper)(f:Nat)(c:List Nat):Bool:=match b[f]? with
 | some e=>(match e.dst with|some _=>true|none=>false)&&c.all λi=>match b[i]? with
  | some o=>(match o.dst with|some d=>!(Bp7 e).contains d&&!(e.dst==some d)|none=>true)
  | none=>false
 | none=>false
def Bh5(C:Cfg)(d:Option (List Nat × List Nat))(b:Array Oper)(c:Nat):Bool:=
 ab3 b&&(b.toList.all (λo=>Ea2 o.op)&&(w8 (Ks C b++(Iq C b c++c::Es C b c)).length b.size&&((Ks C b++(Iq C b c++c::Es C b c)).all (λi=>p5 (i+1) b.size) &&
  (Ip b c (Iq C b c)&&(w8 (M9 C b c) 2&&LJ .any b (Ey d) (M9 C b) (Rx .any b (Ey d) (M9 C b) c (Es C b c) (Iq C b c)) (Ks C b) (z7 b.size false))))))
def Bh4(C:Cfg)(id:Nat)(b:Array Oper):Bool:=match C.rowR id with
 | none=>C05 C (C.farR id) b
 | some i=>p5 b.size i||Bh5 C (C.farR id) b i
def V4(C:Cfg)(rf:Bool):Code->Bool
 | .region id c d=>!d||Bh4 C id c
 | .seq a b=>V4 C rf a&&V4 C rf b
 | .cond _ a b=>V4 C rf a&&V4 C rf b
 | .block _ a=>V4 C rf a
 | .loop a=>V4 C rf a
 | .scope a=>V4 C rf a
 | .rangeFunc _ _ a b=>rf&&V4 C false a&&V4 C false b
 | _=>true
def Cs2(C:Cfg)(c:Code):Bool:=V4 C true c
def DX(Γ:Ctx)(w:World)(c:Option (List Nat × List Nat)):Nat->Prop:=λg=>w.heap.size<=g\/∃f b,c=some f/\okN f.2 b=true/\Γ.nm b=some g
theorem PK{P:Program}{t g o:Nat}{d:TypeDesc}{i:TypeInfo}{w l:World}{V:Value}(u:P.underlying t=some d)(F:P.info? t=some i)(k:0<i.size)(D:l.heap[g]? = w.heap[g]?)(B:∀j,j<i.size->∃U,w.cell? ⟨g,o+j,none⟩=some U)
  (h:(loadVar t ⟨g,o,none⟩).run P w = .ok V w):(loadVar t ⟨g,o,none⟩).run P l = .ok V l:=by
 let b:Nat->Value:=λj=>(w.cell? ⟨g,o+j,none⟩).getD undef
 have c:∀j,j<i.size->w.cell? ⟨g,o+j,none⟩=some (b j):=λj G=>by obtain⟨U,e⟩:=B j G;simp[b,e]
 have run:∀W:World,(∀j,W.cell? ⟨g,j,none⟩=w.cell? ⟨g,j,none⟩)->(loadVar t ⟨g,o,none⟩).run P W = .ok (if Ig d=true then .agg ((ae4 i.size).map b).toArray else b 0) W:=λW q=>by
  by_cases m:Ig d=true
  ·have f:=run_loadCells_list (P:=P) W ⟨g,o,none⟩ ((ae4 i.size).map b) (λj v x=>by
    rw[M4,q];simp only[ab7,Option.map_eq_some_iff] at x;obtain⟨a,y,z⟩:=x;obtain⟨A,p⟩:=ae5.1 y;simp at A p;subst p z;exact c j (by omega))
   simp only[y5,List.length_range] at f;simp[loadVar,Hk u,m,sizeOf,typeInfo,F,f]
  ·have n:=c 0 k;rw[Nat.add_zero] at n;simp only[aj7] at m;simp[loadVar,Hk u,m,q,n]
 rw[run w λ_=>rfl] at h;rw[run l λj=>by simp only[ae9,D]];simp only[ag4,and_true] at h ⊢;exact h
section
variable {Y : Ctx} {L : List Blk} {W : World} {J : Nat -> Prop}
theorem B72{f:List Nat × List Nat}{b g:Nat}{cells:List PV}(l:HR Y L W)(q:Stp C Y L W J Γ st.hp w Φ)(d:D09 C (L.getD b .dead)=true)(p:okN f.2 b=false)(j:Γ.nm b=some g):¬DX Y W (some f) g:=by
 have h:b<L.length:=aa4 λk=>by
  rw[j9,x7 (by omega)] at d;cases d
 have i:Kn C (A5 L b):=by
  rw[j9,b8 h,ak0] at d;unfold A5;rw[b8 h];cases m:L[b] with
  | box c=>simp[Blk.shp,Kn]
  | arr v t u n=>rw[m] at d;exact d
  | _=>rw[m] at d;cases d
 have e:=(q.keep b h i).1;rw[e] at j;rintro(k|⟨f',b',rfl',hb',hg'⟩)
 ·have:=(l.lt b g j).2.1;omega
 ·cases rfl';have:=l.inj b b' g j hg';subst this;rw[p] at hb';cases hb'
theorem Ct4{f:List Nat × List Nat}{t:Nat}{x:Operand}{V:Value}{w2:World}{k:St X->Option R}(D:o.op = .load t x)(l:EV C f L st.hp st.sl o=true)(h:opK C O Z o st k=some r)(S:SI C I Γ Φ st a.tmps w)(hF:HR Y L W)(hs:Stp C Y L W J Γ st.hp w Φ)
  (hl:Tf (DX Y W (some f)) w w2) (hr:(execOp a.eval o).run C.P w = .ok (.value V) w):(execOp a.eval o).run C.P w2 = .ok (.value V) w2:=by
 unfold EV at l;rw[D] at l;simp only at l;split at l
 ·rename_i b i off hx;simp only[j2,ab6] at l;obtain⟨_,h1,h2,h3⟩:=l;have p:=(S.opnd x).1;rw[hx] at p;obtain⟨g,q,u,hA,Q,K⟩:∃g q,Γ.nm b=some g/\a.eval x = .pointer (some ⟨g,q,none⟩)/\(C.ti t).ok=true/\∀j,j<(C.ti t).ks.length->∃U,w.cell? ⟨g,q+j,none⟩=some U:=by
   rw[j9] at h2;cases B:st.hp[b]? with
   | none=>rw[B] at h2;cases h2
   | some y=>
    rw[B] at h2;cases y with
    | box cells=>
     obtain⟨g,u,hc,_⟩:=S.hr.box (C:=C) B;simp only[opK,D,hx,Yi,B] at h;split at h
     ·rename_i M;subst M;obtain⟨m,_⟩:=C3 h;have P:=Bd4 m;refine⟨g,off,u,?_,by simp only[okP,j2] at m;exact m.1,λj hj=>?_⟩
      ·generalize a.eval x=A at p;cases p with
       | ptrA _ _ _ g' v e sz n T c=>simp[A5,B,Blk.shp] at T
       | ptrB _ _ g' T c=>rw[u] at c;cases c;rfl
      ·obtain⟨U,e,_⟩:=hc (off+j) (P j hj);exact⟨U,by simpa using e⟩
     ·cases h
    | arr v e sz H=>
     simp only[opK,D,hx,Yi,B] at h;have a1:∀q,(¬(v=true/\H=[]))->q+(C.ti t).ks.length<=H.length*sz->(∀g,Γ.nm b=some g->a.eval x = .pointer (some ⟨g,q,none⟩))->(C.ti t).ok=true->∃g q,Γ.nm b=some g/\a.eval x = .pointer (some ⟨g,q,none⟩)/\(C.ti t).ok=true/\∀j,j<(C.ti t).ks.length->∃U,w.cell? ⟨g,q+j,none⟩=some U:=λq a5 hq hA Q=>by
      obtain⟨g,a0,u,hh,a3,_⟩:=S.hr.arr' B a5;refine⟨g,q,u,hA g u,Q,λj hj=>?_⟩;have P:q+j<a0.size:=by omega
      exact⟨a0[q+j],by simp[ae9,hh,P]⟩
     have hA:∀g,Γ.nm b=some g->a.eval x = .pointer (some ⟨g,i*sz+off,none⟩):=λg u=>by
      generalize a.eval x=A at p;cases p with
      | ptrA _ _ _ g' v' e' a7 n T c=>
       obtain⟨rfl,rfl,rfl,rfl⟩:=S8 B T;rw[u] at c;cases c;rfl
      | ptrB _ _ g' T c=>simp[A5,B,Blk.shp] at T
     split at h
     ·rename_i a6;obtain⟨m,_⟩:=C3 h;simp only[j2,decide_eq_true_eq] at m;refine a1 _ (by rintro⟨_,rfl⟩;simp at m) ?_ hA (by have:=m.2;simp only[okS,j2] at this;exact this.1.1);have:(i+1)*sz<=H.length*sz:=Nat.mul_le_mul_right sz m.1;rw[ak1,ak2] at this;omega
     ·split at h
      ·rename_i M;obtain⟨rfl,rfl⟩:=M;obtain⟨m,_⟩:=C3 h;simp only[j2,decide_eq_true_eq] at m;have F:(C.ti t).ok=true:=by have:=m.2;simp only[okS,j2] at this;exact this.1.1
       obtain⟨_,_,_,_,_,_,a3,_,G,_,_,a2⟩:=Eu F;refine a1 _ (by rintro⟨_,rfl⟩;have:=m.1;rw[List.length_nil,aj0] at this;omega) (by omega) hA F
      ·cases h
    | _=>cases h2
  have a4:=B72 (f:=f) (cells:=[]) hF hs h1 h3 u;have hh:w2.heap[g]? = w.heap[g]?:=hl.1.1 g (S.hr.lt b g u).2.1 a4;simp only[execOp,D,hA,ai4,ak7,ae3,aj2,aa9] at hr ⊢;cases hv:(loadVar t ⟨g,q,none⟩).run C.P w with
  | halt e w'=>rw[hv] at hr;simp at hr
  | ok V' w'=>
   rw[hv] at hr;simp only[ag4,Next.value.injEq] at hr;obtain⟨rfl,rfl⟩:=hr;obtain⟨i,d,z,hi,hd,_,a3,_,G,_,_,a2⟩:=Eu Q;rw[PK hd hi G hh (λj hj=>K j (by omega)) hv]
 ·cases l
theorem B73{f:List Nat × List Nat}{t:Nat}{x y:Operand}{k:St X->Option R}(p:o.op = .store t x y)(d:EV C f L st.hp st.sl o=true)(h:opK C O Z o st k=some r)(S:SI C I Γ Φ st a.tmps w)(hs:Stp C Y L W J Γ st.hp w Φ) :
  ∃w',(execOp a.eval o).run C.P w = .ok .skip w'/\Tf (DX Y W (some f)) w w':=by
 unfold EV at d;rw[p] at d;simp only at d;split at d
 ·rename_i b off hx;simp only[j2,aa0] at d;obtain⟨_,z,B⟩:=d;obtain⟨cells,T⟩:∃cells,st.hp[b]? = some (.box cells):=by
   rw[j9] at z;cases he:st.hp[b]? with
   | none=>rw[he] at z;cases z
   | some y=>
    rw[he] at z;cases y with
    | box c=>exact⟨c,rfl⟩
    | _=>cases z
  obtain⟨g,a7,e,hg,hh,F,_,_⟩:=S.hr.box' T;have hA:a.eval x = .pointer (some ⟨g,off,none⟩):=by
   have Q:=(S.opnd x).1;rw[hx] at Q;generalize a.eval x=A at Q;cases Q with
   | ptrA _ _ _ H v e sz n h' m=>simp[A5,T,Blk.shp] at h'
   | ptrB _ _ H h' m=>rw[hg] at m;cases m;rfl
  simp only[opK,p,hx,Wj,T,if_true] at h;split at h
  ·rename_i hc;obtain⟨a5,i,G⟩:=hc;obtain⟨h4,_⟩:=C3 h;simp only[decide_eq_true_eq] at h4;obtain⟨i0,hi,a4,a6⟩:=N1 a5;have hv:=(S.opnd y).1;have a3:(opnd C st.sl y).cells≠[]:=by intro e;rw[e] at i;simp at i;omega
   have q:=hv.cells' a3;have D:(opnd C st.sl y).cells.length=(a.eval y).cells.toList.length:=by simpa using q.1.symm
   have a0:∀j (h:j<(opnd C st.sl y).cells.length),∃U,(a.eval y).cells.toList[j]? = some U/\VP Γ (A5 st.hp) w ((opnd C st.sl y).cells[j]) U:=λj hj=>by
    obtain⟨U,e,k⟩:=q.2 j hj;grind
   have K:=Bw9 D G a0;have M:(a.eval y).cells.size=i0.size:=by rw[q.1,i,a4]
   obtain⟨w',r1,r2,r3,r4,r5,r6,r7,r8⟩:=L0 (P:=C.P) (o:=off) hh (vs:=(a.eval y).cells.toList) (by rw[<-D,i,F];exact h4) K;have l:=Gr hi M r1;refine⟨w',?_,⟨λH m a2=>r3 H λe=>a2 ?_,by omega⟩,r5,r6,r7⟩
   ·simp only[execOp,p,hA];simp only[ae3] at l ⊢;cases hq:(Instr.storeAt t (.pointer (some ⟨g,off,none⟩)) (a.eval y)).run C.P w with
    | halt e w'=>rw[hq] at l;simp[aa9] at l
    | ok u w2=>
     rw[hq] at l;simp only[aa9,aj2,ag4,true_and] at l;rw[l];rfl
   ·subst e;rcases hs.own b _ hg with⟨a9,V⟩|a1
    ·rcases B with B|B
     ·exact .inr ⟨f,b,rfl,B,V⟩
     ·have:=BT B;omega
    ·exact .inl a1
  ·cases h
 ·cases d
theorem NF{ro:Option Nat}{n:Nat}{all:Array Oper}{E:Act->World->Prop}{f:List Nat × List Nat}(A:Ask C I O Z N)(hF:HR Y L W):∀(d:List Nat) {Γ:Ctx} {Φ:Nat->Prop} {st:St X} {a:Act} {w:World} {k:St X->Option R},(∀i∈d,i<all.size)->Γ.yv=N->
  Yt C O Z all f L d st k=some r->SI C I Γ Φ st a.tmps w->Stp C Y L W J Γ st.hp w Φ->Nxt C I Γ Φ st.hp w a.defers k r E->N9 (G9 ro) n C.P all (DX Y W (some f)) (Ey (some f)) (M9 C all) E d a w
 | [],Γ,Φ,st,a,w,k,hlt,hyv,h,S,hs,hN=>hN st a w Γ Φ h (Stp.refl S.hr) S rfl
 | i::d,Γ,Φ,st,a,w,k,hlt,hyv,h,S,hs,hN=>by
  have q:=hlt i (by simp);obtain⟨o,u⟩:∃o,all[i]? = some o:=⟨all[i],aa3 q⟩
  simp only[Yt] at h;obtain⟨hc,h⟩:=C3 h;have next:Nxt C I Γ Φ st.hp w a.defers (λg=>Yt C O Z all f L d g k) r (N9 (G9 ro) n C.P all (DX Y W (some f)) (Ey (some f)) (M9 C all) E d):=λg a' w' Γ' B k1 k2 k3 k4=>
   NF A hF d (λj F=>hlt j (by simp[F])) (k2.yv.trans hyv) k1 k3 (hs.trans k2) λa0 a2 w2 Γ2 Φ2 q1 q2 q3 q4=>hN a0 a2 w2 Γ2 Φ2 q1 (k2.trans q2) q3 (q4.trans k4)
  cases p:Ey (some f) i with
  | false=>
   have:=Ed (ro:=ro) (n:=n) (D:=DX Y W (some f)) (far:=Ey (some f)) A [i] (λj F=>by simp at F;subst F;exact⟨q,p⟩) hyv h S next
   simp only[N9] at this ⊢;exact this
  | true=>
   have b:EV C f L st.hp st.sl o=true:=by
    have e:okN f.1 i=true:=p;rw[u] at hc;simpa[e] using hc
   have hg:o.guard=none:=by
    unfold EV at b;split at b
    ·split at b
     ·simp only[j2,ae7] at b;exact b.1
     ·cases b
    ·split at b
     ·simp only[j2,ae7] at b;exact b.1
     ·cases b
    ·cases b
   have z:p6 o (yielded all a.tmps)=true:=by simp[p6,hg]
   have h:opK C O Z o st (λg=>Yt C O Z all f L d g k)=some r:=by
    rw[ah8,u] at h;simp only[List.filterMap_nil,Ft,hg] at h;exact h
   simp only[N9,p];have M:M9 C all i=Dw C o.op:=by simp only[M9,u]
   rw[M];have m:(∃t x,o.op = .load t x)\/∃t x y,o.op = .store t x y:=by
    unfold EV at b;split at b
    ·rename_i t x e;exact .inl ⟨t,x,e⟩
    ·rename_i t x y e;exact .inr ⟨t,x,y,e⟩
    ·cases b
   rcases m with⟨t,x,l⟩|⟨t,x,y,l⟩
   ·have H:Dw C o.op=1:=by rw[l];rfl
    rw[H];refine⟨λ_=>?_,λK=>by omega⟩;obtain⟨V,g,h1,h2,h3,h4⟩:=Sj (a:=a) (show P7 C o.op=true by rw[l];rfl) h S;refine⟨o,V,u,⟨λ_ _ _ _=>trivial,.inl ⟨z,λw' T=>?_⟩⟩,next g (a.put o.dst V) w Γ Φ h1 (h4.lift Φ) h3 (put_defers _ _ _)⟩;unfold ab8;rw[Ct4 l b h S hF hs (T.2 rfl) (h2 w (Ext.refl w))];exact⟨rfl,rfl⟩
   ·have H:Dw C o.op=3:=by rw[l];rfl
    rw[H];refine⟨λK=>by omega,λ_ w1 U=>?_⟩;obtain⟨S1,v⟩:=S.like A.hI U;obtain⟨w2,hr,hx⟩:=B73 l b h S1 (hs.trans v);have P:=Bd5 (ro:=ro) (n:=n) (Q:=QF) A hyv h S1 λg a' w' Γ' B q1 q2 q3 q4=>next g a' w' Γ' B q1 (v.trans q2) q3 q4
    unfold wpOpIn;simp only[u,z,if_true];unfold ah7 at P ⊢;refine⟨P.1,?_⟩;have G:=P.2;rw[ab4 _ _ _ (λc e=>by rw[l] at e;cases e),hr] at G ⊢;simp only[ab9] at G ⊢;exact⟨λe=>by omega,λ_=>hx,G⟩
theorem Ik{m:Option Nat}{n:Nat}{all:Array Oper}{E:Act->World->Prop}{e:Option (List Nat × List Nat)}(A:Ask C I O Z N)(g:HR Y L W)(b:List Nat){Γ:Ctx}{Φ:Nat->Prop}{st:St X}{a:Act}{w:World}{k:St X->Option R}(c:∀i∈b,i<all.size)(d:Γ.yv=N)
  (h:Lu C O Z all e L b st k=some r) (S:SI C I Γ Φ st a.tmps w) (l:Stp C Y L W J Γ st.hp w Φ) (hN:Nxt C I Γ Φ st.hp w a.defers k r E):N9 (G9 m) n C.P all (DX Y W e) (Ey e) (M9 C all) E b a w:=by
 cases e with
 | none=>exact Ed A b (λi j=>⟨c i j,rfl⟩) d h S hN
 | some f=>exact NF A g b c d h S l hN
end
theorem Ce5{T:Option Nat}{n id:Nat}{b:Array Oper}{Q:Exit->Act->World->Prop}{k:St X->Option R}(A:Ask C I O Z N)(H:C.P.follows .mixedOrders=true){f:Option (List Nat × List Nat)}(d:C05 C f b=true)(p:Γ.yv=N)(h:Lu C O Z b f st.hp (Yu C b.toList) st k=some r)(S:SI C I Γ Φ st a.tmps w)
  (hN:Nxt C I Γ Φ st.hp w a.defers k r (λg w'=>Q .normal g w')):(ag9 id b true).wpIn (G9 T) n C.P Q a w:=by
 simp only[C05,j2] at d;obtain⟨y,u,z,v,B⟩:=d;rw[o7] at u v;refine AL (D:=DX Γ w f) (far:=Ey f) (kind:=M9 C b) (ord:=Yu C b.toList) H y (λj o c J e=>?_) (λj G=>?_) (k9 z) B (Ik A S.hr _ (λi F=>BT (v i F)) p h S (Stp.refl S.hr) λq g w' Γ' t K L M P w1 m=>?_)
 case refine_3=>
  obtain⟨x,l⟩:=M.like A.hI m;exact hN q g w1 Γ' t K (L.trans l) x P
 ·have:=u o (by simpa using ag5 J);rw[e] at this;cases this
 ·simp only[M9,ab1 G];exact o5 _
def Trn.B(C:Cfg)(V:Value)(x:Obj)(g:Nat):Trn->Prop
 | .row v=>∀(St:Nat->Prop) (w1:World),St g->w1.heap[g]? = some x->VS St w1 v V
 | .var e=>(C.ti e).ok=true/\(∀n el,C.sh e≠.array n el)/\V = .pointer (some ⟨g,0,none⟩)/\∃z:Value,x = .cells z.cells e/\∀(Γ:Ctx) sh w,CR Γ sh w ((C.ti e).ks.map Bp) z.cells
def Ag6(C:Cfg)(o:Oper)(b:Operand->Value)(t:Trn):Prop:=∀w:World,∃V x,(execOp b o).run C.P w = .ok (.value V) (w.alloc x)/\t.B C V x w.heap.size
def C25(op:Op):Prop:=(∃t len b,op = .buildSlice t len b)\/∃e,op = .alloc e
theorem Cz3{St St':Nat->Prop}{w w':World}{v:SV}{U:Value}(c:v.plain=true)(h:VS St w v U):VS St' w' v U:=by
 cases h with
 | bool b=>exact .bool b
 | int k n=>exact .int k n
 | str s=>exact .str s
 | nilp=>exact .nilp
 | nilm=>exact .nilm
 | nilf=>exact .nilf
 | _=>simp[SV.plain] at c
theorem Bl5{k:Trn->Option R}(S:SI C I Γ Φ st a.tmps w)(h:Bl4 C o st.sl k=some r):o.guard=none/\C25 o.op/\∃t,k t=some r/\Ag6 C o a.eval t:=by
 unfold Bl4 at h;split at h
 ·rename_i e H c;refine⟨H,.inr ⟨_,c⟩,?_⟩;split at h
  ·cases h
  ·rename_i q;obtain⟨b,h⟩:=C3 h;refine⟨_,h,λw1=>?_⟩;obtain⟨z,T,g,_⟩:=QT (Γ:=Γ) (ev:=a.eval) (w:=w1) b c;exact⟨_,_,T,b,q,rfl,z,rfl,g⟩
 ·rename_i t len parts H c;refine⟨H,.inl ⟨_,_,_,c⟩,?_⟩;split at h
  ·rename_i e q;split at h
   ·rename_i b;simp only[j2,decide_eq_true_eq] at b;obtain⟨⟨b,d⟩,Y⟩:=b;split at h
    ·rename_i out W;split at h
     ·rename_i vs L;obtain⟨K,h⟩:=C3 h;refine⟨_,h,?_⟩;obtain⟨hp,_⟩:=S.parts parts.toList;obtain⟨i,z,l,hz,u,F⟩:=Ov (Γ:=Γ) (sh:=A5 st.hp) (w:=w) b;obtain⟨_,_,_,a0⟩:=N1 b;have J:0<(C.ti e).ks.length:=by rename_i T g;omega
      have V:=B05 F (by simpa using J) len;rw[y5] at V;obtain⟨B,Q,D,e3⟩:=Ib (place':=λj=>some (j*i.size,i.size)) (λj off size m h0=>by rw[u];exact m) W V hp;obtain⟨f1,f2⟩:=Ce (As:=B.toList) L (by simpa using D.1.symm) (λj m=>by
       obtain⟨U,e,k⟩:=D.2 j m;exact⟨U,by simpa using e,k⟩)
      have y:B.size=len*(C.ti e).ks.length:=by
       have n:∀{place:Nat->Option (Nat × Nat)} {A:List (Nat × PV)} {cells out:List PV},Jq place cells A=some out->out.length=cells.length:=by
        intro place A
        induction A with
        | nil=>intro cells out h;simp only[Jq,b9] at h;rw[h]
        | cons p A ih=>
         intro cells out h;obtain⟨i,v⟩:=p;simp only[Jq] at h;split at h
         ·split at h
          ·rw[ih h,D8]
          grind
         grind
       rw[D.1,n W,Jr,y5]
      have f:vs.length=len*(C.ti e).ks.length:=by rw[f1,ae0,y]
      intro M;have hr:=Iw (P:=C.P) M len (parts.map λ(i,x)=>(i,a.eval x)) B (K5 q) l hz (by rw[u];exact d) (by rw[u] at Q ⊢;rw[aj6];exact Q);refine⟨.slice (some ⟨M.heap.size,0,none⟩) len len,.cells B e,by simp only[execOp,c];simp[hr],λSt w1 G hx=>?_⟩;refine .sl true _ M.heap.size 0 len len _ (λi j=>(B[i*(C.ti e).ks.length+j]?).getD undef) (by rw[Ab]) (o5 _) (by simp only[maxLen];omega) (λ_=>rfl) G (λi l=>(Gx _ _ _ f i l).1) (λi l j m=>?_) (λi l j m=>?_)
      ·obtain⟨g,_⟩:=(Gx _ _ _ f i l).2 j m;have:i*(C.ti e).ks.length+j<B.size:=by rw[y,<-f];exact g
       simp[ae9,hx,this]
      ·obtain⟨g,e4⟩:=(Gx _ _ _ f i l).2 j m;obtain⟨U,e5,k5⟩:=f2 _ g;rw[e4];have e6:(B[i*(C.ti e).ks.length+j]?).getD undef=U:=by grind
       rw[e6];exact Cz3 (o7.1 K _ (j8 g)) k5
     grind
    grind
   ·cases h
  ·cases h
 ·cases h
theorem A38{d:Option Tmp}{a b:Act}(h:QL d a b){c:Oper}(f:∀t,d=some t->t∉Bp7 c):∀x∈c.op.operands,b.eval x=a.eval x:=by
 intro x g;cases x with
 | tmp t=>
  have:d≠some t:=λe=>f t e (List.mem_filterMap.2 ⟨.tmp t,by simpa using g,rfl⟩)
  have e:=h t this;simp only[Act.eval,aa2,e]
 | _=>rfl
theorem Dn7{m:Option Nat}{n:Nat}{all:Array Oper}{g:Nat}{d:Oper}{t:Trn}(l:all[g]? = some d)(k:d.guard=none)(f:C25 d.op)(b:Ag6 C d a.eval t){K:Act->World->Prop}
  (h:∀V x,t.B C V x w.heap.size->K (a.put d.dst V) (w.alloc x)):wpOpIn (G9 m) n C.P all QF g K a w:=by
 unfold wpOpIn;simp only[l];rw[if_pos (by simp[p6,k])];refine⟨λ_ _=>trivial,?_⟩;rw[ab4 _ _ _ (λc e=>by rcases f with⟨_,_,_,h⟩|⟨_,h⟩<;>rw[h] at e<;>cases e)];obtain⟨V,x,i,j⟩:=b w;rw[i];exact h V x j
structure Ag4 (C:Cfg) (d:Option Tmp) (t:Trn) (g:Nat) (x:Obj) (Γ:Ctx) (Φ:Nat->Prop) (a:Act) (w:World):Prop where
 at':w.heap[g]? = some x
 st:¬ Γ.St g
 nm:∀b,Γ.nm b≠some g
 fo:¬ Φ g
 ex:∃V,t.B C V x g
 val:∀V,(∃t,d=some t/\a.tmps[t]? = some V)->t.B C V x g
theorem Aw8(S:SI C I Γ Φ st a.tmps w)(d:Option Tmp):SI C I Γ Φ { st with sl:=Cg d .bad st.sl } a.tmps w:=by
 cases d with
 | none=>exact S
 | some t=>exact⟨S.hr,S.sr.set t (λV _=>.bad V) (by simp[PV.nms]),S.g,S.inv,S.dis⟩
theorem B30(S:SI C I Γ Φ st a.tmps w){d:Option Tmp}{v:PV}(h:∀V,(∃t,d=some t/\a.tmps[t]? = some V)->VP Γ (A5 st.hp) w v V)(b:∀c∈v.nms,c<st.hp.length):SI C I Γ Φ { st with sl:=Cg d v st.sl } a.tmps w:=by
 cases d with
 | none=>exact S
 | some t=>exact⟨S.hr,S.sr.set t (λV hV=>h V ⟨t,rfl,hV⟩) b,S.g,S.inv,S.dis⟩
theorem Ag4.step{Γ':Ctx}{Φ':Nat->Prop}{H':List Blk}{a':Act}{w':World}{d4 d:Option Tmp}{t:Trn}{g:Nat}{x:Obj}(h:Ag4 C d4 t g x Γ Φ a w)(hs:Stp C Γ st.hp w Φ Γ' H' w' Φ')(hag:QL d a a')(hne:d4≠none->d≠d4):Ag4 C d4 t g x Γ' Φ' a' w':=by
 have hlt:g<w.heap.size:=(o0.1 h.at').1;refine⟨by rw[hs.frame g hlt h.nm h.fo];exact h.at',λe=>?_,λb e=>?_,λe=>?_,h.ex,?_⟩
 ·rcases hs.stnew g e with e|e
  ·exact h.st e
  ·omega
 ·rcases hs.own b g e with⟨_,e⟩|e
  ·exact h.nm b e
  ·omega
 ·rcases hs.foot g e with e|e
  ·exact h.fo e
  ·omega
 ·rintro V ⟨t,ht,hV⟩;have:d≠some t:=λe=>hne (by rw[ht];simp) (by rw[e,ht])
  rw[hag t this] at hV;exact h.val V ⟨t,ht,hV⟩
theorem KJ{H:List Blk}(x:Blk)(g:Nat):Ax Γ (A5 H) w (Γ.upd H.length g) (A5 (H++[x])) w (· < H.length):=
 ⟨λ_ _=>rfl,λ_ h=>h,λb c=>by simp only[Ctx.upd];rw[if_neg (by omega)],λb c=>Q0 c,λ_ _ _ _=>rfl,rfl⟩
theorem Stp.adopt{Γ0:Ctx}{H0 H:List Blk}{w0:World}{Φ0:Nat->Prop}{g:Nat}(x:Blk)(hs:Stp C Γ0 H0 w0 Φ0 Γ H w Φ)(hg:w0.heap.size<=g):Stp C Γ0 H0 w0 Φ0 (Γ.upd H.length g) (H++[x]) w Φ:=by
 have hl:=hs.len;refine⟨hs.os,hs.tape,hs.output,hs.size,hs.sub,hs.stnew,λb g' h=>?_,hs.foot,hs.frame,hs.yv,by simp;omega,λb hb hf=>?_⟩
 ·simp only[Ctx.upd] at h;split at h
  ·grind
  ·exact hs.own b g' h
 ·obtain⟨p1,p2,p3⟩:=hs.keep b hb hf;exact⟨by simp only[Ctx.upd];rw[if_neg (by omega)];exact p1,by rw[Q0 (by omega)];exact p2,p3⟩
theorem SI.adopt(S:SI C I Γ Φ st a.tmps w){x:Blk}{g:Nat}(hlt:g<w.heap.size)(h1:¬ Γ.St g)(h2:∀b,Γ.nm b≠some g)(h3:¬ Φ g)(hb:BR (Γ.upd st.hp.length g) (A5 (st.hp++[x])) w st.hp.length x)(hn:∀c∈x.nms,c<st.hp.length+1) :
  SI C I (Γ.upd st.hp.length g) Φ { st with hp:=st.hp++[x] } a.tmps w:=by
 have M:Ax Γ (A5 st.hp) w (Γ.upd st.hp.length g) (A5 (st.hp++[x])) w (· < st.hp.length):=KJ x g;refine⟨⟨λb b' g' k1 k2=>?_,λb g' h=>?_,S.hr.stlt,λb hb' c hc=>?_,λb hb'=>?_⟩,SR.grow M S.sr,S.g,S.inv,λb g' h=>?_⟩
 ·simp only[Ctx.upd] at k1 k2;split at k1<;>split at k2
  ·omega
  ·rw[<-k1] at k2;exact absurd k2 (h2 b')
  ·rw[<-k2] at k1;exact absurd k1 (h2 b)
  ·exact S.hr.inj b b' g' k1 k2
 ·simp only[Ctx.upd] at h;split at h
  ·simp only[b9] at h;subst h;exact⟨by simp;omega,hlt,h1⟩
  ·have:=S.hr.lt b g' h;exact⟨by simp;omega,this.2⟩
 ·rw[x9,ag7] at hb' ⊢;by_cases e:b=st.hp.length
  ·subst e;simp at hc;exact hn c hc
  ·have hb2:b<st.hp.length:=by omega
   rw[aa7 hb2] at hc;have:=S.hr.nms b hb2 c hc;omega
 ·rw[x9,ag7] at hb';by_cases e:b=st.hp.length
  ·subst e;simpa using hb
  ·have hb2:b<st.hp.length:=by omega
   rw[aa7 hb2];exact(S.hr.blk b hb2).mono M (M.nm b hb2) (λ_ _=>rfl) (λc hc=>S.hr.nms b hb2 c hc)
 ·simp only[Ctx.upd] at h;split at h
  ·simp only[b9] at h;subst h;exact h3
  ·exact S.dis b g' h
theorem Br2{k:St X->Option R}{d:Option Tmp}{t:Trn}{g:Nat}{x:Obj}(J:HI I)(S:SI C I Γ Φ st a.tmps w)(h:To C d t st k=some r)(f:Ag4 C d t g x Γ Φ a w) :
  ∃m Γ',k m=some r/\SI C I Γ' Φ m a.tmps w/\∀{q:Ctx} {G:List Blk} {F:World} {u:Nat->Prop},Stp C q G F u Γ st.hp w Φ->F.heap.size<=g->Stp C q G F u Γ' m.hp w Φ:=by
 have p:g<w.heap.size:=(o0.1 f.at').1;cases t with
 | row v=>
  have L:=S.wideSt J (St':=λy=>Γ.St y\/y=g) (λ_ h=>.inl h) (λy i=>by rcases i with i|rfl;exact λe=>(J.foot _ _ _ _ S.inv y e).2 i;exact f.fo) (λb y K=>by
   rintro(i|rfl)
   ·exact(S.hr.lt b y K).2.2 i
   ·exact f.nm b K) (λy i=>by rcases i with i|rfl;exact S.hr.stlt y i;exact p)
  exact⟨_,_,h,B30 L (λV hV=>.s _ _ (f.val V hV _ _ (.inr rfl) f.at')) (by simp[PV.nms]),λl B=>⟨l.os,l.tape,l.output,l.size,λy i=>.inl (l.sub y i),λy i=>by rcases i with i|rfl;exact l.stnew y i;exact .inr B,l.own,l.foot,l.frame,l.yv,l.len,l.keep⟩⟩
 | var e=>
  obtain⟨_,D,a0,_,z,rfl,hz⟩:=f.ex;simp only[To,GJ,D,if_true] at h;have n:=hz Γ (A5 st.hp) w;obtain⟨T,Q,W,Y,e4,e5,e6,H⟩:=Z4 (C:=C) (C.nilT e) ((C.ti e).ks.map Bp) 0 st.hp z.cells.toList S.hr (by simpa using n.1.symm) (λj A=>by
   obtain⟨U,e,k⟩:=n.2 j A;exact⟨U,by simpa using e,k⟩) (by rw[AM];simp)
  rw[Q] at h;have M:SI C I Γ Φ { st with hp:=st.hp++T } a.tmps w:=⟨W,SR.grow e4 S.sr,S.g,S.inv,S.dis⟩
  have P:=M.adopt (x:=.box (H7 (C.nilT e) ((C.ti e).ks.map Bp) 0 st.hp).1) p f.st f.nm f.fo ⟨g,z.cells,e,by simp[Ctx.upd],f.at',by simpa using e5.symm,λj A=>by
   obtain⟨U,f1,f2⟩:=e6 j A;exact⟨U,by simpa using f1,f2.mono (KJ _ g) λc n=>H c (C0.2 ⟨j,A,n⟩)⟩⟩ (λc n=>by have:=H c n;simp only at this ⊢;omega)
  exact⟨_,_,h,B30 P (λV hV=>by
   obtain⟨_,_,rfl,_⟩:=f.val V hV;exact .ptrB _ 0 g K3 (by simp[Ctx.upd])) (by simp[PV.nms]),λl B=>Stp.adopt _ (l.trans (Y.lift Φ)) B⟩
theorem QW{all:Array Oper}{e:Nat}{c:Oper}{i:Nat}{b:List Nat}(f:all[e]? = some c)(d:Ip all e (i::b)=true):∃o,all[i]? = some o/\(∀t,o.dst=some t->t∉Bp7 c)/\(c.dst≠none->o.dst≠c.dst)/\Ip all e b=true:=by unfold Ip at d ⊢;grind
section
variable {W : Ctx} {Y : List Blk} {Q : World} {J : Nat -> Prop} {L : Option (List Nat × List Nat)}
theorem NH{ro:Option Nat}{n:Nat}{all:Array Oper}{E:Act->World->Prop}{V:Nat}{m:Oper}{t:Trn}{post:List Nat}{p:Ctx}{M:List Blk}{G:World}{q:Nat->Prop}{ds:List Deferred}{g:Nat}{x:Obj}{k:St X->Option R}(A:Ask C I O Z N)(y:HR W Y Q)(U:all[V]? = some m)(b:∀i∈post,i<all.size)(T:G.heap.size<=g)(l:Q.heap.size<=g)(hN:Nxt C I p q M G ds k r E):∀(d:List Nat) {Γ:Ctx} {Φ:Nat->Prop} {st:St X} {a:Act} {w:World},(∀i∈d,i<all.size)->Ip all V d=true->Γ.yv=N->
  Pf C O Z all L Y m.dst d st (λe=>To C m.dst t e λF=>Lu C O Z all L Y post F k)=some r->SI C I Γ Φ st a.tmps w->Ag4 C m.dst t g x Γ Φ a w->Stp C p M G q Γ st.hp w Φ->Stp C W Y Q J Γ st.hp w Φ->a.defers=ds->N9 (G9 ro) n C.P all (DX W Q L) (Ey L) (M9 C all) E (d++post) a w
 | [],Γ,Φ,st,a,w,hlt,hap,hyv,h,S,hah,hs,hsF,hd=>by
  simp only[Pf] at h;obtain⟨D,Γ',h',S',c⟩:=Br2 A.hI S h hah;have c:=@c;have P:=c hs T;have h2:=c hsF l;exact Ik A y post b (P.yv.trans (hs.yv.symm.trans hyv)) h' S' h2 λe a2 w2 H K q1 q2 q3 q4=>hN e a2 w2 H K q1 (P.trans q2) q3 (q4.trans hd)
 | i::rest,Γ,Φ,st,a,w,hlt,hap,hyv,h,S,hah,hs,hsF,hd=>by
  obtain⟨o,hi,a0,B,f⟩:=QW U hap;simp only[Pf] at h;exact ER (E:=N9 (G9 ro) n C.P all (DX W Q L) (Ey L) (M9 C all) E (rest++post)) hi (Ik A y [i] (λj u=>hlt j (by simp at u;simp[u])) hyv h S hsF λD a' w' Γ' Φ' k1 v k3 k4 z=>
   NH A y U b T l hN rest (λj u=>hlt j (by simp[u])) f (v.yv.trans hyv) k1 (Aw8 k3 m.dst) (hah.step v z B) (hs.trans v) (hsF.trans v) (k4.trans hd))
theorem Bd7{U:Option Nat}{n:Nat}{all:Array Oper}{E:Act->World->Prop}{F:Nat}{m:Oper}{t:Trn}{post:List Nat}(A:Ask C I O Z N)(hF:HR W Y Q)(ho:all[F]? = some m)(hg:m.guard=none)(H:C25 m.op)(z:∀i∈post,i<all.size):∀(c:List Nat) {Γ:Ctx} {Φ:Nat->Prop} {st:St X} {a:Act} {w:World} {k:St X->Option R},(∀i∈c,i<all.size)->Ip all F c=true->Γ.yv=N->
  Pf C O Z all L Y m.dst c { st with sl:=Cg m.dst .bad st.sl } (λq=>To C m.dst t q λD=>Lu C O Z all L Y post D k)=some r->SI C I Γ Φ st a.tmps w->Stp C W Y Q J Γ st.hp w Φ->Ag6 C m a.eval t->Nxt C I Γ Φ st.hp w a.defers k r E->AN (G9 U) n C.P all (DX W Q L) (Ey L) (M9 C all) E F post c a w:=by
 have early:∀(c:List Nat) {Γ:Ctx} {Φ:Nat->Prop} {st:St X} {a:Act} {w:World} {k:St X->Option R},(∀i∈c,i<all.size)->Ip all F c=true->Γ.yv=N->
   Pf C O Z all L Y m.dst c { st with sl:=Cg m.dst .bad st.sl } (λq=>To C m.dst t q λD=>Lu C O Z all L Y post D k)=some r->SI C I Γ Φ st a.tmps w->Stp C W Y Q J Γ st.hp w Φ->Ag6 C m a.eval t->Nxt C I Γ Φ st.hp w a.defers k r E->
   ∀w1,O0 w w1->wpOpIn (G9 U) n C.P all QF F (λa' w'=>O0 w1 w'/\N9 (G9 U) n C.P all (DX W Q L) (Ey L) (M9 C all) E (c++post) a' w') a w1:=by
  intro c Γ Φ st a w k g p l h S f d hN w1 B;refine Dn7 ho hg H d λV x hV=>⟨Ui w1 x,?_⟩
  obtain⟨P,K⟩:=S.like A.hI B;obtain⟨S2,M⟩:=P.like A.hI (Ui w1 x);refine NH (a:=a.put m.dst V) A hF ho z B.1.2 (w6 f.size B.1.2) hN c g p l h (S2.put (o:=m) (v:=.bad) (V:=V) (.bad V) (by simp[PV.nms])) ⟨I7 rfl,λe=>ai0 _ (P.hr.stlt _ e),λb e=>ai0 _ (P.hr.lt b _ e).2.1,λe=>ai0 _ (A.hI.foot _ _ _ _ P.inv _ e).1,⟨V,hV⟩,?_⟩ (K.trans M) (f.trans (K.trans M)) (put_defers _ _ _);rintro V' ⟨t,ht,u⟩;have e:V'=V:=by
   rw[ht] at u;simp only[ai2] at u;have:=(o0.1 u).1;simp at this;simpa[this] using u.symm
  rw[e];exact hV
 intro c
 induction c with
 | nil=>
  intro Γ Φ st a w k g p l h S f d hN;exact early [] g p l h S f d hN
 | cons i y ih=>
  intro Γ Φ st a w k g p l h S f d hN;refine⟨?_,λ_=>early (i::y) g p l h S f d hN⟩;obtain⟨o,hi,a1,a3,G⟩:=QW ho p;have S0:=Aw8 S m.dst;simp only[Pf] at h;exact ER (E:=AN (G9 U) n C.P all (DX W Q L) (Ey L) (M9 C all) E F post y) hi (Ik A hF [i] (λj T=>g j (by simp at T;simp[T])) l h S0 f λa4 a' w' Γ' Φ' k1 k2 k3 k4 a0=>
   ih (λj T=>g j (by simp[T])) G (k2.yv.trans l) k1 k3 (f.trans k2) (by
    have e:=execOp_congr (ρ:=a'.eval) (ρ':=a.eval) m (λcs b e=>by rcases H with⟨_,_,_,h⟩|⟨_,h⟩<;>rw[h] at e<;>cases e) (A38 a0 a1);unfold Ag6 at d ⊢;rw[e];exact d) λq a2 w2 Γ2 Φ2 q1 q2 q3 q4=>hN q a2 w2 Γ2 Φ2 q1 (k2.trans q2) q3 (q4.trans k4))
end
theorem Bh6{L:Option Nat}{n id d:Nat}{b:Array Oper}{D:Oper}{Q:Exit->Act->World->Prop}{k:St X->Option R}(A:Ask C I O Z N)(hm:C.P.follows .mixedOrders=true){g:Option (List Nat × List Nat)}(y:Bh5 C g b d=true)(B:Γ.yv=N)(F:b[d]? = some D)
  (h:(Lu C O Z b g st.hp (Ks C b) st λl=>Bl4 C D l.sl λt=>
    Pf C O Z b g st.hp D.dst (Iq C b d) { l with sl:=Cg D.dst .bad l.sl } λp=>To C D.dst t p λM=>
     Lu C O Z b g st.hp (Es C b d) M k)=some r) (S:SI C I Γ Φ st a.tmps w)
  (hN:Nxt C I Γ Φ st.hp w a.defers k r (λa' w'=>Q .normal a' w')):(ag9 id b true).wpIn (G9 L) n C.P Q a w:=by
 simp only[Bh5,j2] at y;obtain⟨V,W,h3,Y,h5,h6,h7⟩:=y;rw[o7] at W Y;have x:∀(j:Nat) (o:Oper) c,b[j]? = some o->o.op≠.defer c:=λj o c F e=>by
  have:=W o (by simpa using ag5 F);rw[e] at this;cases this
 have hk:∀j,b.size<=j->M9 C b j<=1:=λj f=>by
  simp only[M9,ab1 f];exact o5 _
 have m:∀j,j∈Ks C b\/j∈Iq C b d\/j∈Es C b d->j<b.size:=λj f=>BT (Y j (by
  rcases f with f|f|f<;>simp[f]))
 have hC:N9 (G9 L) n C.P b (DX Γ w g) (Ey g) (M9 C b) (AN (G9 L) n C.P b (DX Γ w g) (Ey g) (M9 C b) (λa P=>∀w,O0 P w->Q .normal a w) d (Es C b d) (Iq C b d)) (Ks C b) a w:=
  Ik A S.hr _ (λi q=>m i (.inl q)) B h S (Stp.refl S.hr) λl a1 w1 Γ1 Φ1 k1 K k3 k4=>by
   obtain⟨hg,G,v,hv,z⟩:=Bl5 k3 k1;exact Bd7 A S.hr F hg G (λi q=>m i (.inr (.inr q))) _ (λi q=>m i (.inr (.inl q))) h5 (K.yv.trans B) hv k3 K z λp a2 w2 T U q1 q2 q3 q4 w3 J=>by
    obtain⟨S3,H⟩:=q3.like A.hI J;exact hN p a2 w3 T U q1 (K.trans (q2.trans H)) S3 (q4.trans k4)
 refine wpIn_region_any hm ?_;have u:=k9 h3;have e:b.size=(Es C b d).length+1+(Iq C b d).length+(Ks C b).length:=by
  rw[<-u];simp only[x9,af4];omega
 rw[e];refine Oq (wr:=λj=>p5 3 (M9 C b j)) (Qn:=λa w=>Q .normal a w) (λ_ _ h=>h) _ _ _ _ (Ry (fin:=Rx .any b (Ey g) (M9 C b) d (Es C b d) (Iq C b d)) V x hk
  (λlisted a P hf hd hM w hw=>Cs1 V x hk _ listed a P hf hd hM w hw) (Ks C b) (z7 ((Es C b d).length+1+(Iq C b d).length+(Ks C b).length) false) a w (by rw[<-e];exact h7) (λj o F f=>?_) hC _ ⟨⟨λ_ _=>rfl,o5 _⟩,rfl,rfl,rfl⟩)
 simp only[aa2,af0] at f;split at f<;>cases f
theorem Dm5{l:Option Nat}{n id:Nat}{c:Array Oper}{Q:Exit->Act->World->Prop}{k:St X->Option R}(A:Ask C I O Z N)(f:C.P.follows .mixedOrders=true)(b:Bh4 C id c=true)(d:Γ.yv=N)(h:Bh3 C O Z id c true st k=some r)(S:SI C I Γ Φ st a.tmps w)
  (hN:Nxt C I Γ Φ st.hp w a.defers k r (λj w'=>Q .normal j w')):(ag9 id c true).wpIn (G9 l) n C.P Q a w:=by
 unfold Bh3 at h;unfold Bh4 at b;split at h
 ·rename_i e;rw[e] at b;exact Ce5 A f b d h S hN
 ·rename_i i e;rw[e] at b;split at h
  ·rename_i o _ g;refine Bh6 A f ?_ d g h S hN;rw[aa0] at b;rcases b with b|b
   ·have:=(o0.1 g).1;have:=ab5 b;omega
   ·exact b
  ·cases h
end
def Ctx.cut(Γ:Ctx)(L:Nat):Ctx:={ Γ with St:=λg=>Γ.St g\/∃b,L<=b/\Γ.nm b=some g,nm:=λb=>if b<L then Γ.nm b else none }
def mkD(D:Nat):Deferred:={ target:=.collected D,args:=#[] }
section
variable {σ R : Type} {r : R} {C : Cfg} {I : σ -> (Nat -> Prop) -> (Nat -> Prop) -> World -> Prop} {Γ Γ' : Ctx} {Φ Φ' : Nat -> Prop} {st : St σ} {a : Act} {w w' : World} {L : F6} {Y : Yh σ} {yv : Value} {o : Oper} {H H' : List Blk} {tmps : Array Value}
def Off(Γ:Ctx)(Φ:Nat->Prop)(w:World)(g:Nat):Prop:=g<w.heap.size/\¬ Γ.St g/\(∀b,Γ.nm b≠some g)/\¬ Φ g
theorem Off.step{g:Nat}(h:Off Γ Φ w g)(s:Stp C Γ H w Φ Γ' H' w' Φ'):Off Γ' Φ' w' g/\w'.heap[g]? = w.heap[g]?:=by
 obtain⟨h1,h2,h3,h4⟩:=h;refine⟨⟨j6 h1 s.size,λq=>?_,λb q=>?_,λq=>?_⟩,s.frame g h1 h3 h4⟩
 ·rcases s.stnew g q with q|q
  ·exact h2 q
  ·omega
 ·rcases s.own b g q with⟨_,q⟩|q
  ·exact h3 b q
  ·omega
 ·rcases s.foot g q with q|q
  ·exact h4 q
  ·omega
def Mk(n0:Nat)(Γ:Ctx)(Φ:Nat->Prop)(w:World)(ds:List Deferred):Prop:=n0<=w.heap.size/\∃b:List Nat,ds=b.map mkD/\b.Nodup/\∀D∈b,n0<=D/\Off Γ Φ w D/\w.heap[D]? = some (.deferred (some []))
theorem Mk.nil{n0:Nat}(h:n0<=w.heap.size):Mk n0 Γ Φ w []:=⟨h,[],rfl,List.nodup_nil,by simp⟩
theorem Mk.step{n0:Nat}{ds:List Deferred}(h:Mk n0 Γ Φ w ds)(s:Stp C Γ H w Φ Γ' H' w' Φ'):Mk n0 Γ' Φ' w' ds:=by obtain⟨h0,Ds,h1,h2,h3⟩:=h;refine⟨w6 h0 s.size,Ds,h1,h2,λD hD=>?_⟩;obtain⟨k1,k2,k3⟩:=h3 D hD;obtain⟨q1,q2⟩:=k2.step s;exact⟨k1,q1,q2.trans k3⟩
structure Wp (Γ:Ctx) (Φ:Nat->Prop) (w w':World):Prop where
 same:∀g,Γ.St g\/(∃b,Γ.nm b=some g)\/Φ g->w'.heap[g]? = w.heap[g]?
 size:w.heap.size<=w'.heap.size
 os:w'.os=w.os
 tape:w'.tape=w.tape
 output:w'.output=w.output
theorem Wp.mono(h:Wp Γ Φ w w'):Ax Γ (A5 H) w Γ (A5 H) w' (λ_=>True):=
 ⟨λg hg=>h.same g (.inl hg),λ_ h=>h,λ_ _=>rfl,λ_ _=>rfl,λb g _ hg=>F5 (h.same g (.inr (.inl ⟨b,hg⟩))),rfl⟩
theorem SI.offW(hI:HI I)(S:SI C I Γ Φ st tmps w)(h:Wp Γ Φ w w'):SI C I Γ Φ st tmps w':=by
 have hf:=hI.foot _ _ _ _ S.inv;refine⟨⟨S.hr.inj,λb g hb=>?_,λg hg=>j6 (S.hr.stlt g hg) h.size,S.hr.nms,λb hb=>(S.hr.blk b hb).mono h.mono rfl (λg hg=>h.same g (.inr (.inl ⟨b,hg⟩))) (λ_ _=>trivial)⟩,
  S.sr.mono h.mono (λc hc=>⟨trivial,S.sr.nms c hc⟩),S.g.mono (λg hg=>h.same g (.inl hg)) (λ_ h=>h),
  hI.mono _ _ _ _ _ _ S.inv (λ_ h=>h) (λg hg hp=>(hf g hp).2 hg) (λg hg=>j6 (S.hr.stlt g hg) h.size) (λg hg=>h.same g (hg.elim .inl (λq=>.inr (.inr q)))) h.size h.os h.tape h.output,S.dis⟩
 obtain⟨q1,q2,q3⟩:=S.hr.lt b g hb;exact⟨q1,j6 q2 h.size,q3⟩
structure Pg (C:Cfg) (Γ:Ctx) (H:List Blk) (w:World) (Φ:Nat->Prop) (Γ':Ctx) (H':List Blk) (w':World) (Φ':Nat->Prop):Prop where
 os:w'.os=w.os
 tape:w'.tape=w.tape
 output:w'.output=w.output
 size:w.heap.size<=w'.heap.size
 sub:∀g,Γ.St g->Γ'.St g
 own:∀b g,Γ'.nm b=some g->(b<H.length/\Γ.nm b=some g)\/w.heap.size<=g
 foot:∀g,Φ' g->Φ g\/w.heap.size<=g
 yv:Γ'.yv=Γ.yv
 len:H.length<=H'.length
 keep:∀b,b<H.length->Kn C (A5 H b)->Γ'.nm b=Γ.nm b/\A5 H' b=A5 H b/\∀g,Γ.nm b=some g->w'.shape? g=w.shape? g
theorem Stp.pg(h:Stp C Γ H w Φ Γ' H' w' Φ'):Pg C Γ H w Φ Γ' H' w' Φ':=⟨h.os,h.tape,h.output,h.size,h.sub,h.own,h.foot,h.yv,h.len,h.keep⟩
theorem Pg.trans{Γ'':Ctx}{H'':List Blk}{w'':World}{Φ'':Nat->Prop}(h:Pg C Γ H w Φ Γ' H' w' Φ')(k:Pg C Γ' H' w' Φ' Γ'' H'' w'' Φ''):Pg C Γ H w Φ Γ'' H'' w'' Φ'':=by
 have h1:=h.size;refine⟨k.os.trans h.os,k.tape.trans h.tape,k.output.trans h.output,w6 h.size k.size,λg hg=>k.sub g (h.sub g hg),λb g hb=>?_,λg hg=>?_,k.yv.trans h.yv,w6 h.len k.len,λb hb hf=>?_⟩
 ·rcases k.own b g hb with⟨_,q⟩|q
  ·exact h.own b g q
  ·exact .inr (by omega)
 ·rcases k.foot g hg with q|q
  ·exact h.foot g q
  ·exact .inr (by omega)
 ·obtain⟨k1,k2,k3⟩:=h.keep b hb hf;have h2:=h.len;obtain⟨m1,m2,m3⟩:=k.keep b (by omega) (by rw[k2];exact hf);exact⟨m1.trans k1,m2.trans k2,λg hg=>(m3 g (k1.trans hg)).trans (k3 g hg)⟩
theorem Pg.off(hH:HR Γ H w)(h:Wp Γ Φ w w'):Pg C Γ H w Φ Γ H w' Φ:=
 ⟨h.os,h.tape,h.output,h.size,λ_ h=>h,λb g hb=>.inl ⟨(hH.lt b g hb).1,hb⟩,λ_ h=>.inl h,rfl,o5 _,λb hb _=>⟨rfl,rfl,λg hg=>F5 (h.same g (.inr (.inl ⟨b,hg⟩)))⟩⟩
theorem Pg.wideSt{St':Nat->Prop}(hH:HR Γ H w)(hs:∀g,Γ.St g->St' g):Pg C Γ H w Φ { Γ with St:=St' } H w Φ:=
 ⟨rfl,rfl,rfl,o5 _,hs,λb g hb=>.inl ⟨(hH.lt b g hb).1,hb⟩,λ_ h=>.inl h,rfl,o5 _,λ_ _ _=>⟨rfl,rfl,λ_ _=>rfl⟩⟩
theorem Wp.put{l:Nat}{ob:Obj}(h:Off Γ Φ w l):Wp Γ Φ w (w.putObj l ob):=by
 refine⟨λg hg=>o9 ?_,by simp,rfl,rfl,rfl⟩;rintro rfl;rcases hg with q|⟨b,q⟩|q
 ·exact h.2.1 q
 ·exact h.2.2.1 b q
 ·exact h.2.2.2 q
theorem Off.put{g l:Nat}{ob:Obj}(h:Off Γ Φ w g):Off Γ Φ (w.putObj l ob) g:=⟨by simpa using h.1,h.2⟩
theorem Mk.put{n0 l:Nat}{ob:Obj}{rr:Loop}{ds:List Deferred}(h:Mk n0 Γ Φ w ds)(hl:w.heap[l]? = some (.loop rr)):Mk n0 Γ Φ (w.putObj l ob) ds:=by obtain⟨h0,Ds,h1,h2,h3⟩:=h;refine⟨by simpa using h0,Ds,h1,h2,λD hD=>?_⟩;obtain⟨k1,k2,k3⟩:=h3 D hD;refine⟨k1,k2.put,(o9 ?_).trans k3⟩;rintro rfl;rw[k3] at hl;cases hl
def Dc4(C:Cfg)(I:σ->(Nat->Prop)->(Nat->Prop)->World->Prop)(n0:Nat)(Γ:Ctx)(Φ:Nat->Prop)(H:List Blk)(w:World)(k:Out->St σ->Option R)(r:R)(Q:Exit->Act->World->Prop):Prop:=
 ∀o b c w' Γ' Φ',k o b=some r->Stp C Γ H w Φ Γ' b.hp w' Φ'->SI C I Γ' Φ' b c.tmps w'->Mk n0 Γ' Φ' w' c.defers->Q o.exit' c w'
def WP(C:Cfg)(I:σ->(Nat->Prop)->(Nat->Prop)->World->Prop)(L:F6)(Y:Yh σ)(yv:Value)(c:Code):Prop:=
 ∀{R:Type} {r:R} {b:Option Nat} {n n0:Nat} {Γ:Ctx} {Φ:Nat->Prop} {st:St σ} {a:Act} {w:World} {k:Out->St σ->Option R} {Q:Exit->Act->World->Prop},
  Γ.yv=yv->B3 C L Y c st k=some r->SI C I Γ Φ st a.tmps w->Mk n0 Γ Φ w a.defers->Dc4 C I n0 Γ Φ st.hp w k r Q->c.wpIn (G9 b) n C.P Q a w
def Nv(fn:FuncId)(tmps:Array Value)(d:Array Tmp)(c b:Code)(D:Nat)(s:LoopState)(p:Option Code):Loop:={ state:=s,pending:=p,fn:=fn,tmps:=tmps,params:=d,assign:=c,body:=b,defers:=D }
def jmp:Out->Code
 | .normal=>.skip
 | .exit id=>.exit id
 | .ret=>.ret
def Dp7:Option Out->LoopState
 | none=>.ready
 | some _=>.done
structure RIb (C:Cfg) (I:σ->(Nat->Prop)->(Nat->Prop)->World->Prop) (Γ0:Ctx) (H0:List Blk) (w0:World) (Φ0:Nat->Prop) (sl0:List PV) (tmps:Array Value) (l D:Nat) (rc:LoopState->Option Code->Loop) (x:List Blk × Option Out × σ) (St Φ:Nat->Prop) (w:World) (Γb:Ctx) (Φb:Nat->Prop):Prop where
 si:SI C I Γb Φb { sl:=sl0,hp:=x.1,s:=x.2.2 } tmps w
 pg:Pg C Γ0 H0 w0 Φ0 Γb x.1 w Φb
 st:∀g,Γb.St g->St g
 ph:∀g,Φ g↔Φb g\/(∃b,Γb.nm b=some g)\/g=l\/g=D
 ft:∀g,Φ g->g<w.heap.size/\¬St g
 ol:Off Γb Φb w l
 od:Off Γb Φb w D
 hl:w.heap[l]? = some (.loop (rc (Dp7 x.2.1) (x.2.1.map jmp)))
 hd:w.heap[D]? = some (.deferred (some []))
def RI(C:Cfg)(I:σ->(Nat->Prop)->(Nat->Prop)->World->Prop)(c:Ctx)(g:List Blk)(i:World)(e:Nat->Prop)(b:List PV)(tmps:Array Value)(l D:Nat)(h:LoopState->Option Code->Loop):(List Blk × Option Out × σ)->(Nat->Prop)->(Nat->Prop)->World->Prop:=
 λx St Φ w=>∃d f,RIb C I c g i e b tmps l D h x St Φ w d f
theorem D85{k:Ctx}{n:List Blk}{F:World}{m:Nat->Prop}{j:List PV}{l D:Nat}{B:LoopState->Option Code->Loop}(p:HI I):HI (RI C I k n F m j tmps l D B):=by
 refine⟨λx St Φ w ⟨c,d,r⟩=>r.ft,λx St Φ w St' w' ⟨c,d,r⟩ y t u f i v z A=>?_⟩;have inΦ:∀{g},d g\/(∃b,c.nm b=some g)\/g=l\/g=D->Φ g:=fun {g} h=>(r.ph g).2 h
 have O:Wp c d w w':=⟨λg e=>by
  rcases e with q|q|q
  ·exact f g (.inl (r.st g q))
  ·exact f g (.inr (inΦ (.inr (.inl q))))
  ·exact f g (.inr (inΦ (.inl q))),i,v,z,A⟩
 have up:∀{g},Off c d w g->Off c d w' g:=λh=>⟨j6 h.1 i,h.2⟩
 exact⟨c,d,r.si.offW p O,r.pg.trans (Pg.off r.si.hr O),λg e=>y g (r.st g e),r.ph,λg e=>⟨j6 (r.ft g e).1 i,λq=>t g q e⟩,up r.ol,up r.od,
  (f l (.inr (inΦ (.inr (.inr (.inl rfl)))))).trans r.hl,(f D (.inr (inΦ (.inr (.inr (.inr rfl)))))).trans r.hd⟩
end
section
variable {Y R : Type} {r : R} {C : Cfg} {I : Y -> (Nat -> Prop) -> (Nat -> Prop) -> World -> Prop} {L Γ' : Ctx} {J W : Nat -> Prop} {Q : St Y} {a : Act} {w w' : World} {U : F6} {O : Yh Y} {K : Value} {H H' : List Blk} {Z : Array Value}
theorem RD(x:Blk):(Ld x).nms=[]:=by
 cases x with
 | box cells=>
  simp only[Ld,Blk.nms];rw[x5];intro c b;obtain⟨j,d,b⟩:=C0.1 b;simp[PV.nms] at b
 | _=>rfl
theorem RE(x:Blk):(Ld x).shp=x.shp:=by cases x<;>rfl
theorem Cr6{sh u:Nat->Option Shp}{b y:Nat}{x:Blk}(h:BR L sh w b x)(k:Γ'.nm y=L.nm b)(t:∀g,L.St g->w'.heap[g]? = w.heap[g]?)(n:∀g,L.St g->Γ'.St g)(c:∀g,L.nm b=some g->w'.heap[g]? = w.heap[g]?):BR Γ' u w' y (Ld x):=by
 cases x with
 | arr v e M A=>
  rcases h with h|⟨F,g,f,d,l,m,q,D⟩
  ·exact .inl h
  ·refine .inr ⟨F,g,f,by rw[k];exact d,by rw[c g d];exact l,m,q,λi h j B=>?_⟩;obtain⟨V,o,z⟩:=D i h j B;exact⟨V,o,z.mono t n⟩
 | box cells=>
  obtain⟨g,f,e,d,l,m,q⟩:=h;refine⟨g,f,e,by rw[k];exact d,by rw[c g d];exact l,by simpa using m,λj h=>?_⟩;obtain⟨V,o,_⟩:=q j (by simpa using h);exact⟨V,o,by rw[o8];exact .bad V⟩
 | iter s p=>
  obtain⟨g,G,d,l,m⟩:=h;exact⟨g,G,by rw[k];exact d,by rw[c g d];exact l,m⟩
 | dead=>trivial
end
section
variable {J R : Type} {r : R} {C : Cfg} {I : J -> (Nat -> Prop) -> (Nat -> Prop) -> World -> Prop} {Y : Ctx} {W : Nat -> Prop} {Q : St J} {a : Act} {w : World} {O : F6} {K : Yh J} {Z : Value} {o : Oper} {H : List Blk}
theorem Ak2(d:HR Y H w){L:Nat}(e:L<=H.length):Ax Y (A5 H) w (Y.cut L) (A5 (H.take L)) w (· < L):=
 ⟨λ_ _=>rfl,λ_ h=>.inl h,λb c=>by simp only[Ctx.cut];rw[if_pos c],λb c=>by simp only[A5,ac8];rw[if_pos c],λ_ _ _ _=>rfl,rfl⟩
theorem Cs6(d:HR Y H w){L:Nat}(v:L<=H.length)(j:Ca5 L (H.take L)=true):HR (Y.cut L) (H.take L) w:=by
 have f:=SP j;have t:(H.take L).length=L:=by rw[af6];omega
 have key:∀b g,(Y.cut L).nm b=some g->b<L/\Y.nm b=some g:=λb g h=>by
  simp only[Ctx.cut] at h;grind
 refine⟨λb k g n l=>d.inj b k g (key b g n).2 (key k g l).2,λb g h=>?_,λg i=>?_,λb p c q=>?_,λb p=>?_⟩
 ·obtain⟨n,l⟩:=key b g h;have:=d.lt b g l;refine⟨by omega,this.2.1,?_⟩;rintro(u|⟨k,u,h4⟩)
  ·grind
  ·have:=d.inj b k g l h4;omega
 ·rcases i with i|⟨b,_,i⟩
  ·exact d.stlt g i
  ·exact(d.lt b g i).2.1
 ·grind
 ·have m:b<L:=by omega
  have e:(H.take L)[b]=H[b]'(by omega):=List.getElem_take;rw[e];have M:=Ak2 d v;exact(d.blk b (by omega)).mono M (M.nm b m) (λ_ _=>rfl) (λc q=>f _ (j8 p) c (by rw[e];exact q))
theorem B24(M:HR Y H w){L b:Nat}(S:¬b<L){v:PV}{V:Value}(y:v = .fl b\/∃i n,v = .vw b i n)(h:VP Y (A5 H) w v V):VP (Y.cut L) (A5 (H.take L)) w (v.snap H) V/\(v.snap H).nms=[]:=by
 rcases y with rfl|⟨i,n,rfl⟩
 ·cases h with
  | flv _ e p h=>
   obtain⟨x,j,t⟩:∃x,H[b]? = some x/\x.shp = .arr true e p 0:=by simpa[A5] using h
   cases x<;>simp[Blk.shp] at t
   rename_i k z q c;obtain⟨rfl,rfl,rfl,A⟩:=t;subst A;simp only[PV.snap,j];exact⟨.s _ _ (.nil _ _),rfl⟩
  | fl _ g v e p n cap h y u d B t=>
   obtain⟨x,j,f⟩:∃x,H[b]? = some x/\x.shp = .arr v e p n:=by simpa[A5] using h
   cases x<;>simp[Blk.shp] at f
   rename_i k z q c;obtain⟨rfl,rfl,rfl,rfl⟩:=f;have l:¬(k=true/\c=[]):=by rintro⟨F,G⟩;exact y F (by rw[G];rfl)
   have D:(k&&c.isEmpty)=false:=by cases k<;>simp_all
   simp only[PV.snap,j,D];have:=Ac4 (i:=0) (n:=c.length) (a:=⟨g,0,none⟩) (cap:=cap) M j l u (by omega) (λ_=>by simp) d B (St':=(Y.cut L).St) (λ_ h=>ah4 h) (.inr ⟨b,by omega,u⟩);simp only[ah2,List.take_length] at this;exact⟨.s _ _ this,rfl⟩
 ·cases h with
  | vwv _ e p _ h=>
   obtain⟨x,j,t⟩:∃x,H[b]? = some x/\x.shp = .arr true e p 0:=by simpa[A5] using h
   cases x<;>simp[Blk.shp] at t
   rename_i k z q c;obtain⟨rfl,rfl,rfl,A⟩:=t;subst A;simp only[PV.snap,j,List.drop_nil,List.take_nil];exact⟨.s _ _ (.nil _ _),rfl⟩
  | vw _ _ _ g a cap v e p m h y u N P d B=>
   obtain⟨x,j,f⟩:∃x,H[b]? = some x/\x.shp = .arr v e p m:=by simpa[A5] using h
   cases x<;>simp[Blk.shp] at f
   rename_i k z q c;obtain⟨rfl,rfl,rfl,rfl⟩:=f;have l:¬(k=true/\c=[]):=by rintro⟨F,G⟩;exact y F (by rw[G];rfl)
   have D:(k&&c.isEmpty)=false:=by cases k<;>simp_all
   simp only[PV.snap,j,D];exact⟨.s _ _ (Ac4 M j l u P N d B (λ_ h=>ah4 h) (.inr ⟨b,by omega,u⟩)),rfl⟩
theorem ZT(f:HR Y H w){L:Nat}(g:L<=H.length){v:PV}{V:Value}(h:VP Y (A5 H) w v V):VP (Y.cut L) (A5 (H.take L)) w (v.low H L) V/\∀c∈(v.low H L).nms,c<L:=by
 have M:=Ak2 f g;have d:(∀c∈v.nms,c<L)->VP (Y.cut L) (A5 (H.take L)) w v V:=λj=>h.mono M j
 unfold PV.low;split
 ·rename_i b;split
  ·rename_i e;exact⟨d (by simpa[PV.nms] using e),by simpa[PV.nms] using e⟩
  ·rename_i e;obtain⟨k,l⟩:=B24 f e (.inl rfl) h;grind
 ·rename_i b i n;split
  ·rename_i e;exact⟨d (by simpa[PV.nms] using e),by simpa[PV.nms] using e⟩
  ·rename_i e;obtain⟨k,l⟩:=B24 f e (.inr ⟨i,n,rfl⟩) h;grind
 ·exact⟨d (by simp[PV.nms]),by simp[PV.nms]⟩
 ·exact⟨d (by simp[PV.nms]),by simp[PV.nms]⟩
 ·exact⟨d (by simp[PV.nms]),by simp[PV.nms]⟩
 ·split
  ·rename_i e;exact⟨d (by simpa[PV.nms] using e),by simpa[PV.nms] using e⟩
  ·exact⟨.bad _,by simp[PV.nms]⟩
 ·split
  ·rename_i e;exact⟨d (by simpa[PV.nms] using e),by simpa[PV.nms] using e⟩
  ·exact⟨.bad _,by simp[PV.nms]⟩
 ·split
  ·grind
  ·exact⟨.bad _,by simp[PV.nms]⟩
def Sub(Y Γ':Ctx):Prop:=(∀g,Γ'.St g->Y.St g\/∃b,Y.nm b=some g)/\∀b g,Γ'.nm b=some g->Y.nm b=some g
theorem Mk.sub{n0:Nat}{Γ':Ctx}{ds:List Deferred}(h:Mk n0 Y W w ds)(s:Sub Y Γ'):Mk n0 Γ' W w ds:=by
 obtain⟨h0,Ds,h1,h2,h3⟩:=h;refine⟨h0,Ds,h1,h2,λD hD=>?_⟩;obtain⟨k1,k2,k3⟩:=h3 D hD;refine⟨k1,⟨k2.1,λq=>?_,λb q=>k2.2.2.1 b (s.2 b D q),k2.2.2.2⟩,k3⟩;rcases s.1 D q with q|⟨b,q⟩
 ·exact k2.2.1 q
 ·exact k2.2.2.1 b q
theorem AF{v:List Blk}{p:Ctx}{F:World}{t:Nat->Prop}{L:Nat}(G:HI I)(S:SI C I Y W Q a.tmps w)(h:Stp C p v F t Y Q.hp w W)(y:v.length<=L)(x:L<=Q.hp.length):∃ Γ',SI C I Γ' W (Z8 L Q) a.tmps w/\Stp C p v F t Γ' (Z8 L Q).hp w W/\Sub Y Γ':=by
 unfold Z8;split
 ·rename_i n;have m:(Q.hp.take L).length=L:=by rw[af6];omega
  have N:=Cs6 S.hr x n;have l:∀b g,(Y.cut L).nm b=some g->Y.nm b=some g:=λb g h=>by
   simp only[Ctx.cut] at h;all_goals grind
  have f:∀g,(Y.cut L).St g->Y.St g\/(F.heap.size<=g/\¬W g):=λg d=>by
   rcases d with d|⟨b,M,d⟩
   ·grind
   ·refine .inr ⟨?_,S.dis b g d⟩;rcases h.own b g d with⟨q,_⟩|q
    all_goals omega
  have A:=G.foot _ _ _ _ S.inv;refine⟨Y.cut L,⟨N,⟨by simpa using S.sr.size,λc u=>?_,λi T=>?_⟩,S.g.mono (λ_ _=>rfl) (λ_ h=>ah4 h),?_,λb g d=>S.dis b g (l b g d)⟩,
   ⟨h.os,h.tape,h.output,h.size,λg d=>ah4 (h.sub g d),λg d=>?_,λb g d=>h.own b g (l b g d),h.foot,h.frame,h.yv,by rw[m];exact y,λb M P=>?_⟩,λg d=>d.elim .inl (λ⟨b,_,q⟩=>.inr ⟨b,q⟩),l⟩
  ·obtain⟨j,V,u⟩:=C0.1 u;have D:j<Q.sl.length:=by simpa using V
   obtain⟨U,e,k⟩:=S.sr.slot j D;rw[o8] at u;have:=(ZT S.hr x k).2 c u;grind
  ·have B:i<Q.sl.length:=by simpa using T
   obtain⟨U,e,k⟩:=S.sr.slot i B;exact⟨U,e,by rw[o8];exact(ZT S.hr x k).1⟩
  ·refine G.mono _ _ _ _ _ _ S.inv (λ_ h=>ah4 h) (λg d hp=>?_) (λg d=>N.stlt g d) (λ_ _=>rfl) (o5 _) rfl rfl rfl;all_goals grind
  ·rcases f g d with q|q
   ·exact h.stnew g q
   omega
  ·obtain⟨X,k2,k3⟩:=h.keep b M P;have z:b<L:=by omega
   refine⟨by simp only[Ctx.cut];rw[if_pos z];exact X,?_,k3⟩;rw[<-k2];simp only[A5,ac8];grind
 ·exact⟨Y,S,h,λ_ h=>.inl h,λ_ _ h=>h⟩
theorem Az0{d:List Blk}{b:Ctx}{e:World}{c:Nat->Prop}(f:HI I)(S:SI C I Y W Q a.tmps w)(h:Stp C b d e c Y Q.hp w W):∃ Γ',SI C I Γ' W (Z8 d.length Q) a.tmps w/\Stp C b d e c Γ' (Z8 d.length Q).hp w W/\Sub Y Γ':=
 AF f S h (o5 _) h.len
theorem Yl:∀(g:List Nat) (l:List PV),(Gf g l).length=l.length/\∀i (h:i<(Gf g l).length) (b:i<l.length),(Gf g l)[i]=l[i]\/(Gf g l)[i] = .bad
 | g,[]=>by
  have e:Gf g []=[]:=by unfold Gf;rfl
  grind
 | [],v::l=>by
  obtain⟨c,d⟩:=Yl [] l;refine⟨by simp[Gf,c],λi h b=>?_⟩;cases i with
  | zero=>exact .inr rfl
  | succ i=>
   have:=d i (by simpa[Gf] using h) (by simpa using b);simpa[Gf] using this
 | 0::g,v::l=>by
  obtain⟨c,d⟩:=Yl g l;refine⟨by simp[Gf,c],λi h b=>?_⟩;cases i with
  | zero=>exact .inl rfl
  | succ i=>
   have:=d i (by simpa[Gf] using h) (by simpa using b);simpa[Gf] using this
 | (n+1)::g,v::l=>by
  obtain⟨c,d⟩:=Yl (n::g) l;refine⟨by simp[Gf,c],λi h b=>?_⟩;cases i with
  | zero=>exact .inr rfl
  | succ i=>
   have:=d i (by simpa[Gf] using h) (by simpa using b);simpa[Gf] using this
theorem B06{sl:List PV}{b:Array Value}(g:List Nat)(h:SR Y H w sl b):SR Y H w (Gf g sl) b:=by
 obtain⟨l,m⟩:=Yl g sl;refine⟨by rw[l];exact h.size,λc d=>?_,λi n=>?_⟩
 ·obtain⟨j,p,d⟩:=C0.1 d;have k:j<sl.length:=by rw[<-l];exact p
  rcases m j p k with e|e
  ·rw[e] at d;exact h.nms c (C0.2 ⟨j,k,d⟩)
  ·rw[e] at d;simp[PV.nms] at d
 ·have f:i<sl.length:=by rw[<-l];exact n
  obtain⟨V,q,t⟩:=h.slot i f;refine⟨V,q,?_⟩;rcases m i n f with e|e
  ·grind
  ·rw[e];exact .bad V
theorem Ha(ds:Option (List Nat))(Q:St J):(Nf ds Q).hp=Q.hp:=by cases ds<;>rfl
theorem Gz(S:SI C I Y W Q a.tmps w)(ds:Option (List Nat)):SI C I Y W (Nf ds Q) a.tmps w:=by
 cases ds with
 | none=>exact S
 | some g=>exact⟨S.hr,B06 g S.sr,S.g,S.inv,S.dis⟩
theorem HY:∀(l:List Nat) (m:Nat),m<=Bq9 l m
 | [],m=>o5 _
 | b::r,m=>by
  simp only[Bq9];cases h:p5 m b with
  | true=>exact w6 (Nat.le_succ_of_le (ab5 h)) (HY r (b+1))
  | false=>exact HY r m
theorem B33:∀(l:List Blk) (m:Nat),m<=Cj7 l m
 | [],m=>o5 _
 | b::r,m=>w6 (HY _ _) (B33 r _)
theorem Th{d:List Blk}{b:Ctx}{f:World}{c:Nat->Prop}(i:HI I)(S:SI C I Y W Q a.tmps w)(h:Stp C b d f c Y Q.hp w W)(ds:Option (List Nat)){L:Nat}(j:d.length<=L):∃ Γ',SI C I Γ' W (Xq ds L Q) a.tmps w/\Stp C b d f c Γ' (Xq ds L Q).hp w W:=by
 cases ds with
 | none=>exact⟨Y,S,h⟩
 | some g=>
  have e:SI C I Y W ({ sl:=Gf g Q.sl,hp:=Q.hp,s:=Q.s }:St J) a.tmps w:=⟨S.hr,B06 g S.sr,S.g,S.inv,S.dis⟩
  simp only[Xq,Ea9,C58];cases k:p5 (Cj7 Q.hp (Bq9 (C8 (Gf g Q.sl)) L)+1) Q.hp.length with
  | false=>exact⟨Y,e,h⟩
  | true=>
   have:=ab5 k;obtain⟨Γ',l,m,_⟩:=AF (L:=Cj7 Q.hp (Bq9 (C8 (Gf g Q.sl)) L)) i e h (w6 j (w6 (HY _ _) (B33 _ _))) (by show Cj7 Q.hp _<=Q.hp.length;omega);grind
theorem C62{d:Array Value}(y:HI I)(S:SI C I Y W Q d w){L:Nat}(t:L<=Q.hp.length):∃ Γ',SI C I Γ' W (Z8 L Q) d w/\(∀g,Y.St g->Γ'.St g)/\(∀g,Γ'.St g->Y.St g\/∃b,L<=b/\Y.nm b=some g)/\
  (∀b g,Γ'.nm b=some g->Y.nm b=some g)/\Γ'.yv=Y.yv/\(∀b,b<L->Γ'.nm b=Y.nm b/\A5 (Z8 L Q).hp b=A5 Q.hp b)/\L<=(Z8 L Q).hp.length:=by
 unfold Z8;split
 ·rename_i n;have m:(Q.hp.take L).length=L:=by rw[af6];omega
  have B:=Cs6 S.hr t n;have p:∀b g,(Y.cut L).nm b=some g->Y.nm b=some g:=λb g h=>by
   simp only[Ctx.cut] at h;grind
  have f:=y.foot _ _ _ _ S.inv;refine⟨Y.cut L,⟨B,⟨by simpa using S.sr.size,λc u=>?_,λi D=>?_⟩,S.g.mono (λ_ _=>rfl) (λ_ h=>ah4 h),?_,λb g l=>S.dis b g (p b g l)⟩,
   λ_ h=>ah4 h,λ_ h=>h,p,rfl,λb z=>⟨by simp only[Ctx.cut];rw[if_pos z],?_⟩,by rw[m];exact o5 _⟩
  ·obtain⟨j,F,u⟩:=C0.1 u;have x:j<Q.sl.length:=by simpa using F
   obtain⟨U,e,k⟩:=S.sr.slot j x;rw[o8] at u;have:=(ZT S.hr t k).2 c u;show c<(Q.hp.take L).length;omega
  ·have v:i<Q.sl.length:=by simpa using D
   obtain⟨U,e,k⟩:=S.sr.slot i v;exact⟨U,e,by rw[o8];exact(ZT S.hr t k).1⟩
  ·refine y.mono _ _ _ _ _ _ S.inv (λ_ h=>ah4 h) (λg l A=>?_) (λg l=>B.stlt g l) (λ_ _=>rfl) (o5 _) rfl rfl rfl;rcases l with q|⟨b,_,q⟩
   ·exact(f g A).2 q
   ·exact S.dis b g q A
  ·simp only[A5,ac8];rw[if_pos z]
 ·exact⟨Y,S,λ_ h=>h,λ_ h=>.inl h,λ_ _ h=>h,rfl,λ_ _=>⟨rfl,rfl⟩,t⟩
end
section
variable {K R : Type} {r : R} {C : Cfg} {I : K -> (Nat -> Prop) -> (Nat -> Prop) -> World -> Prop} {Γ Γ' : Ctx} {Z O : Nat -> Prop} {L : St K} {a : Act} {w w' : World} {Y : F6} {J : Yh K} {W : Value} {H H' : List Blk} {tmps : Array Value}
theorem C55{sh b:Nat->Option Shp}{v:PV}{V:Value}(h:v.sv?.isSome=true)(c:VP Γ sh w v V)(d:∀g,Γ.St g->Γ'.St g):VP Γ' b w v V/\v.nms=[]:=by
 cases v<;>simp[PV.sv?] at h
 ·exact⟨.s _ _ (c.inv_s.mono (λ_ _=>rfl) d),rfl⟩
 ·rw[c.inv_nsl];exact⟨.nsl,rfl⟩
theorem Ae3:∀{l:List PV} {c:List SV},Td l=some c->∀v∈l,v.sv?.isSome=true
 | [],_,_,v,b=>by simp at b
 | x::l,c,h,v,b=>by
  simp only[Td] at h;split at h
  ·rename_i p q d e;rcases y9.1 b with rfl|b
   ·rw[d];rfl
   ·exact Ae3 e v b
  ·cases h
theorem TY{sh sh':Nat->Option Shp}(n:∀g,Γ.St g->Γ'.St g):∀{args:List PV},Kw args=true->∀v∈args,v.nms=[]/\∀V,VP Γ sh w v V->VP Γ' sh' w v V
 | [],_,v,f=>by simp at f
 | x::r,h,v,f=>by
  have key:(x.nms=[]/\∀V,VP Γ sh w x V->VP Γ' sh' w x V)/\Kw r=true:=by
   unfold Kw at h;split at h
   ·rename_i d;cases d
   ·rename_i d;cases d;exact⟨⟨rfl,λV hV=>(C55 (Γ:=Γ) (Γ':=Γ') rfl hV n).1⟩,h⟩
   ·rename_i l p d;cases d;simp only[j2,w9] at h;obtain⟨⟨q,i⟩,h⟩:=h;refine⟨⟨?_,λV hV=>?_⟩,h⟩
    ·simp only[PV.nms];rw[x5];intro c b;obtain⟨j,m,b⟩:=C0.1 b;have o:=Ae3 i _ (j8 m);generalize l[j]=u at o b;cases u<;>simp[PV.sv?] at o<;>simp[PV.nms] at b
    ·obtain⟨A,rfl,hA,b⟩:=hV.inv_agg;refine VP.mk_agg hA λj m=>?_
     obtain⟨U,e,k⟩:=b j m;exact⟨U,e,(C55 (Ae3 i _ (j8 m)) k n).1⟩
   ·cases h
  rcases y9.1 f with rfl|f
  ·exact key.1
  ·exact TY n key.2 v f
theorem Zv:∀(c:List Nat) (b:List PV) (d:List Value) {sl:List PV} {tmps:Array Value},SR Γ H w sl tmps->b.length=d.length->(∀j (h:j<b.length),∃U,d[j]? = some U/\VP Γ (A5 H) w (b[j]) U)->(∀v∈b,v.nms=[])->
  SR Γ H w (Mc sl c b) ((c.zip d).foldl (λt (p:Nat × Value)=>t.setIfInBounds p.1 p.2) tmps)
 | [],b,d,sl,tmps,h,_,_,_=>by cases b<;>exact h
 | t::c,[],[],sl,tmps,h,_,_,_=>h
 | t::c,[],_::_,_,_,_,f,_,_=>by simp at f
 | t::c,_::_,[],_,_,_,f,_,_=>by simp at f
 | t::c,v::b,V::d,sl,tmps,h,f,g,i=>by
  have l:VP Γ (A5 H) w v V:=by
   obtain⟨U,e,k⟩:=g 0 (by simp);simp only[af3,b9] at e;subst e;exact k
  have m:=h.put (ds:=[]) ({ op:=.move (.const undef),dst:=some t,guard:=none,type:=0,after:=#[],pos:=default }:Oper) l (by rw[i v (by simp)];simp);have n:SR Γ H w (sl.set t v) (tmps.setIfInBounds t V):=m;exact Zv c b d n (by simpa using f) (λj o=>by
   obtain⟨U,e,k⟩:=g (j+1) (by simpa using o);exact⟨U,by simpa using e,by simpa using k⟩) (λv q=>i v (by simp[q]))
theorem Cv8(o:Out):((Ee o).map jmp).isNone=(Ee o).isNone:=by cases o<;>rfl
theorem D86{Γ0:Ctx}{H0:List Blk}{w0:World}{Φ0:Nat->Prop}{S:List PV}{l D fn:Nat}{ps:Array Tmp}{aq body:Code}(hI:HI I)(d2:Γ0.yv=W)(e4:WP C I Y J W aq)(e5:WP C I Y J W body)
  (a7:∀c∈C8 S,c<H0.length/\Kn C (A5 H0 c)) :
  A37 C.P (RI C I Γ0 H0 w0 Φ0 S tmps l D (Nv fn tmps ps aq body D)) (Kr ps S (λL k=>B3 C Y J aq L k) (λL k=>B3 C Y J body L k)) (.func (.yield l) #[] #[]):=by
 intro args x b x' a3 f4 Γ Z w Vs ⟨Γb,V,r⟩ f1 hc;obtain⟨H,d3,s1⟩:=x;unfold Kr at a3;cases d3 with
 | some o=>simp at a3
 | none=>
 dsimp only at a3;split at a3
 case isFalse=>cases a3
 rename_i f3;have c8:(do let d <-v7 (.func (.yield l) #[] #[]) Vs;invoke d.target d.args:Sem Next).run C.P w=(Instr.yield l Vs).run C.P w:=by simp[v7,invoke]
 have f5:Vs.size=(Nv fn tmps ps aq body D .ready none).params.size:=by rw[hc.1,f3];rfl
 have b1:=r.hd;have b3:w.heap[l]? = some (.loop (Nv fn tmps ps aq body D .ready none)):=r.hl;intro ro n o a next Q b4
 rw[c8,run_yield b3 f5,Oper.uponIn_round];refine⟨λh=>(by simp[G9,ac7] at h),roundIn_of_wpIn trivial ?_⟩;have inΦ:∀{g},V g\/(∃b,Γb.nm b=some g)\/g=l\/g=D->Z g:=fun {g} h=>(r.ph g).2 h
 have B:∀{g},Z g->¬ Γ.St g:=fun {g} h=>(r.ft g h).2
 let ΓB:Ctx:={ Γb with St:=Γ.St }
 have SB:SI C I ΓB V { sl:=S,hp:=H,s:=s1 } tmps w:=r.si.wideSt hI r.st (λg f hp=>B (inΦ (.inl hp)) f) (λb g f hs=>B (inΦ (.inr (.inl ⟨b,f⟩))) hs) f1;have a4:=TY (Γ:=Γ) (Γ':=ΓB) (sh:=λ_=>none) (sh':=A5 H) (w:=w) (λ_ h=>h) f4;have e1:=Zv ps.toList args Vs.toList SB.sr (by rw[ae0];exact hc.1.symm) (λj hj=>by
  obtain⟨U,e,k⟩:=hc.2 j hj;exact⟨U,by simpa using e,(a4 _ (j8 hj)).2 U k⟩) (λv hv=>(a4 v hv).1)
 have b2:(ps.zip Vs).foldl (λtmps (t,a)=>tmps.setIfInBounds t a) tmps=(ps.toList.zip Vs.toList).foldl (λt (p:Nat × Value)=>t.setIfInBounds p.1 p.2) tmps:=by
  rw[<-Array.foldl_toList,Array.toList_zip]
 have SA:SI C I ΓB V { sl:=Mc S ps.toList args,hp:=H,s:=s1 } ((ps.zip Vs).foldl (λtmps (t,a)=>tmps.setIfInBounds t a) tmps) w:=⟨SB.hr,by rw[b2];exact e1,SB.g,SB.inv,SB.dis⟩
 have a9:ΓB.yv=W:=r.pg.yv.trans d2;have f9:Off ΓB V w l:=⟨r.ol.1,B (inΦ (.inr (.inr (.inl rfl)))),r.ol.2.2⟩
 have f8:Off ΓB V w D:=⟨r.od.1,B (inΦ (.inr (.inr (.inr rfl)))),r.od.2.2⟩
 have e8:=hI.foot _ _ _ _ SA.inv;refine e4 (n0:=0) (a:={ tmps:=(ps.zip Vs).foldl (λtmps (t,a)=>tmps.setIfInBounds t a) tmps,defers:=[] }) a9 a3 SA (Mk.nil (Nat.zero_le _)) ?_;intro o1 g0 a1 w1 Γ1 Φ1 h1 i S1 f2;cases o1 with
 | exit id=>cases h1
 | ret=>cases h1
 | normal=>
 dsimp only at h1;obtain⟨b6,d7⟩:=f9.step i;obtain⟨f6,d5⟩:=f8.step i;have c6:w1.heap[l]? = some (.loop (Nv fn tmps ps aq body D .ready none)):=d7.trans b3;show ∃w₂,(Instr.beginRound l).run C.P w1 = .ok () w₂/\body.wpIn (G9 (some l)) (n-1) C.P (roundPost C.P l _) a1 w₂;refine⟨_,run_beginRound c6 rfl,?_⟩;have O1:Wp Γ1 Φ1 w1 (w1.putObj l (.loop { Nv fn tmps ps aq body D .ready none with state:=.busy })):=Wp.put b6;have S2:=S1.offW hI O1;refine e5 (i.yv.trans a9) h1 S2 (f2.put c6) ?_;intro o2 m a2 w3 T u h2 A S3 _;simp only[b9,v8] at h2;obtain⟨rfl,rfl⟩:=h2;obtain⟨b7,d8⟩:=(Off.put (ob:=.loop { Nv fn tmps ps aq body D .ready none with state:=.busy }) (l:=l) b6).step A;obtain⟨f7,d6⟩:=(Off.put (ob:=.loop { Nv fn tmps ps aq body D .ready none with state:=.busy }) (l:=l) f6).step A;have e9:w3.heap[l]? = some (.loop { Nv fn tmps ps aq body D .ready none with state:=.busy }):=d8.trans (ag1 b6.1);have X:=run_endRound (P:=C.P) ((Ee o2).map jmp) e9;have c1:D≠l:=by
  rintro rfl;rw[b3] at b1;cases b1
 obtain⟨F,N⟩:∃F,w3.putObj l (.loop { { Nv fn tmps ps aq body D .ready none with state:=.busy } with state:=if ((Ee o2).map jmp).isNone then .ready else .done,pending:=(Ee o2).map jmp })=F:=⟨_,rfl⟩
 rw[N] at X;have O3:Wp T u w3 F:=by rw[<-N];exact Wp.put b7
 have c0:Off T u F l:=by rw[<-N];exact b7.put
 have b5:Off T u F D:=by rw[<-N];exact f7.put
 have S4:=S3.offW hI O3;have c7:H.length<=m.hp.length:=w6 i.len A.len;obtain⟨z,S5,t1,t2,t3,t4,t5,t6⟩:=C62 hI S4 c7;have d9:(Z8 H.length m).s=m.s:=by unfold Z8;split<;>rfl
 have y:Pg C ΓB H w V T m.hp F u:=i.pg.trans ((Pg.off S1.hr O1).trans (A.pg.trans (Pg.off S3.hr O3)));have P1:Pg C Γ0 H0 w0 Φ0 T m.hp F u:=r.pg.trans ((Pg.wideSt r.si.hr r.st).trans y);have c9:=i.st SA.hr (λg f=>(e8 g f).2);have d0:=A.st S2.hr (λg f=>(hI.foot _ _ _ _ S2.inv g f).2);have d1:∀g,ΓB.St g->F.heap[g]? = w.heap[g]?:=λg f=>by
  have q1:=i.sub g f;have q2:=A.sub g q1;rw[O3.same g (.inl q2),d0 g q1,O1.same g (.inl q1),c9 g f]
 have a6:=r.pg.len;have G:∀c,c<H0.length/\Kn C (A5 H0 c)->z.nm c=ΓB.nm c/\A5 (Z8 H.length m).hp c=A5 H c/\∀g,ΓB.nm c=some g->F.shape? g=w.shape? g:=λc ⟨c2,c3⟩=>by
  obtain⟨_,k2,_⟩:=r.pg.keep c c2 c3;have c4:c<H.length:=j6 c2 a6;obtain⟨m1,m2,m3⟩:=y.keep c c4 (by rw[k2];exact c3);obtain⟨n1,n2⟩:=t5 c c4;exact⟨n1.trans m1,n2.trans m2,m3⟩
 have M:Ax ΓB (A5 H) w z (A5 (Z8 H.length m).hp) F (λc=>c<H0.length/\Kn C (A5 H0 c)):=
  ⟨d1,λg f=>t1 g (y.sub g f),λb hb=>(G b hb).1,λb hb=>(G b hb).2.1,λb g hb f=>(G b hb).2.2 g f,t4.trans y.yv⟩
 have SF:SI C I z u { sl:=S,hp:=(Z8 H.length m).hp,s:=m.s } tmps F:=
  ⟨S5.hr,SB.sr.mono M (λc hc=>⟨a7 c hc,j6 (a7 c hc).1 (w6 a6 t6)⟩),S5.g,by have:=S5.inv;rw[d9] at this;exact this,S5.dis⟩
 have PF:Pg C Γ0 H0 w0 Φ0 z (Z8 H.length m).hp F u:=⟨P1.os,P1.tape,P1.output,P1.size,λg f=>t1 g (P1.sub g f),λb g hb=>P1.own b g (t3 b g hb),P1.foot,t4.trans P1.yv,w6 a6 t6,λb hb hf=>by
  obtain⟨k1,k2,k3⟩:=P1.keep b hb hf;obtain⟨n1,n2⟩:=t5 b (j6 hb a6);exact⟨n1.trans k1,n2.trans k2,k3⟩⟩
 have a0:∀{g},Off T u F g->Off z u F g:=fun {g} h=>⟨h.1,λq=>by
  rcases t2 g q with q|⟨b,_,q⟩
  ·exact h.2.1 q
  ·exact h.2.2.1 b q,λb q=>h.2.2.1 b (t3 b g q),h.2.2.2⟩
 have f0:F.heap[l]? = some (.loop (Nv fn tmps ps aq body D (Dp7 (Ee o2)) ((Ee o2).map jmp))):=by
  rw[<-N,ag1 b7.1];cases o2<;>rfl
 have e6:F.heap[D]? = some (.deferred (some [])):=by
  rw[<-N,o9 c1,d6,o9 c1,d5];exact b1
 have e7:=hI.foot _ _ _ _ SF.inv;have RB:RIb C I Γ0 H0 w0 Φ0 S tmps l D (Nv fn tmps ps aq body D) ((Z8 H.length m).hp,Ee o2,m.s) z.St (λg=>u g\/(∃b,z.nm b=some g)\/g=l\/g=D) F z u:=by
  refine⟨SF,PF,λ_ h=>h,λ_=>Iff.rfl,λg f=>?_,a0 c0,a0 b5,f0,e6⟩;rcases f with q|⟨b,q⟩|rfl|rfl
  ·exact e7 g q
  ·have:=SF.hr.lt b g q;exact⟨this.2.1,this.2.2⟩
  ·exact⟨c0.1,(a0 c0).2.1⟩
  ·exact⟨b5.1,(a0 b5).2.1⟩
 have a5:=i.size;have e2:∀{g},(w1.putObj l (.loop { Nv fn tmps ps aq body D .ready none with state:=.busy })).heap.size<=g->w.heap.size<=g:=fun {g} q=>w6 (w6 a5 O1.size) q
 have e3:∀{g},g<w.heap.size->g<(w1.putObj l (.loop { Nv fn tmps ps aq body D .ready none with state:=.busy })).heap.size:=fun {g} q=>j6 q (w6 a5 O1.size)
 have b0:next (a.put o.dst (.bool ((Ee o2).map jmp).isNone)) F:=by
  refine b4 _ _ ⟨by rw[Cv8],z.St,_,⟨z,u,RB⟩,λg f=>t1 g (y.sub g f),λg f=>?_,λg f=>?_,λg f hp=>?_,y.size,y.os,y.tape,y.output,SF.hr.stlt⟩
  ·have d4:T.St g->Γ.St g\/w.heap.size<=g:=λq=>by
    rcases A.stnew g q with q|q
    ·exact i.stnew g q
    ·exact .inr (e2 q)
   rcases t2 g f with q|⟨b,hb,q⟩
   ·exact d4 q
   ·rcases A.own b g q with⟨_,q⟩|q
    ·rcases i.own b g q with⟨q',_⟩|q
     ·simp only at q';omega
     ·exact .inr q
    ·exact .inr (e2 q)
  ·rcases f with q|⟨b,q⟩|rfl|rfl
   ·rcases y.foot g q with q|q
    ·exact .inl (inΦ (.inl q))
    ·exact .inr q
   ·rcases y.own b g (t3 b g q) with⟨_,q⟩|q
    ·exact .inl (inΦ (.inr (.inl ⟨b,q⟩)))
    ·exact .inr q
   ·exact .inl (inΦ (.inr (.inr (.inl rfl))))
   ·exact .inl (inΦ (.inr (.inr (.inr rfl))))
  ·have c5:g≠l:=λe=>hp (inΦ (.inr (.inr (.inl e))))
   have n1:∀b,ΓB.nm b≠some g:=λb q=>hp (inΦ (.inr (.inl ⟨b,q⟩)))
   have p1:¬V g:=λq=>hp (inΦ (.inl q))
   have n2:∀b,Γ1.nm b≠some g:=λb q=>by
    rcases i.own b g q with⟨_,q⟩|q
    ·exact n1 b q
    ·omega
   have p2:¬ Φ1 g:=λq=>by
    rcases i.foot g q with q|q
    ·exact p1 q
    ·omega
   rw[<-N,o9 c5,A.frame g (e3 f) n2 p2,o9 c5,i.frame g f n1 p1]
 cases o2 with
 | normal=>exact⟨_,_,X,b0⟩
 | exit id=>exact⟨_,_,X,b0⟩
 | ret=>exact⟨_,_,X,b0⟩
end
section
variable {Y R S : Type} (C : Cfg) (g : R -> Option S)
theorem F4(c:Bool)(k:Option R):(need c k).bind g=need c (k.bind g):=by cases c<;>rfl
theorem D7(b:Bool)(k:Bool->Option R):(Ku b k).bind g=Ku b λt=>(k t).bind g:=by cases b<;>rfl
theorem G7(b:Bool)(x y:Option R):(cond b x y).bind g=cond b (x.bind g) (y.bind g):=by cases b<;>rfl
theorem J5(p:Prop)[Decidable p](x y:Option R):(if p then x else y).bind g=if p then x.bind g else y.bind g:=by split<;>rfl
theorem E9:∀(t:Tr) (k:PV->List Blk->Option R),(Iv t k).bind g=Iv t λv H=>(k v H).bind g
 | .ret v H,k=>rfl
 | .need c t,k=>by cases c;rfl;exact E9 t k
 | .split c a b,k=>by cases c;exact E9 b k;exact E9 a k
 | .fail,_=>rfl
theorem RF(op:BinOp)(t:Nat)(x y:PV)(H:List Blk)(k:PV->Option R):(B55 C op t x y H k).bind g=B55 C op t x y H λv=>(k v).bind g:=by unfold B55;((try dsimp only);(repeat' (first|rfl|split|(simp only[F4,D7,G7,J5,E9,j7,j4]))))
theorem Az1(op:UnOp)(x:PV)(k:PV->Option R):(unK op x k).bind g=unK op x λv=>(k v).bind g:=by unfold unK;((try dsimp only);(repeat' (first|rfl|split|(simp only[F4,D7,G7,J5,E9,j7,j4]))))
theorem MQ(t:TI)(a:PV)(H:List Blk)(k:PV->Option R):(Yi t a H k).bind g=Yi t a H λv=>(k v).bind g:=by unfold Yi;((try dsimp only);(repeat' (first|rfl|split|(simp only[F4,D7,G7,J5,E9,j7,j4]))))
theorem GE(t:TI)(a v:PV)(H:List Blk)(k:List Blk->Option R):(Wj t a v H k).bind g=Wj t a v H λv=>(k v).bind g:=by unfold Wj;((try dsimp only);(repeat' (first|rfl|split|(simp only[F4,D7,G7,J5,E9,j7,j4]))))
theorem Pb(t:Nat)(x i:PV)(H:List Blk)(k:PV->Option R):(Dv C t x i H k).bind g=Dv C t x i H λv=>(k v).bind g:=by unfold Dv;((try dsimp only);(repeat' (first|rfl|split|(simp only[F4,D7,G7,J5,E9,j7,j4]))))
theorem EZ(t:Nat)(x i:PV)(k:PV->Option R):(DB C t x i k).bind g=DB C t x i λv=>(k v).bind g:=by unfold DB;((try dsimp only);(repeat' (first|rfl|split|(simp only[F4,D7,G7,J5,E9,j7,j4]))))
theorem Ax6(t:Nat)(x:PV)(b a c:Option PV)(H:List Blk)(k:PV->Option R):(EB C t x b a c H k).bind g=EB C t x b a c H λv=>(k v).bind g:=by unfold EB;((try dsimp only);(repeat' (first|rfl|split|(simp only[F4,D7,G7,J5,E9,j7,j4]))))
theorem ON(b n:Nat)(c a d:Option PV)(k:PV->Option R):(Hm b n c a d k).bind g=Hm b n c a d λv=>(k v).bind g:=by unfold Hm;((try dsimp only);(repeat' (first|rfl|split|(simp only[F4,D7,G7,J5,E9,j7,j4]))))
theorem XN(t:Nat)(sl:List PV)(s x:PV)(H:List Blk)(k:PV->List PV->List Blk->Option R):(Rv C t sl s x H k).bind g=Rv C t sl s x H λv a b=>(k v a b).bind g:=by unfold Rv;((try dsimp only);(repeat' (first|rfl|split|(simp only[F4,D7,G7,J5,E9,j7,j4]))))
theorem A73(t:Nat)(d x:PV)(H:List Blk)(k:PV->List Blk->Option R):(RL C t d x H k).bind g=RL C t d x H λv a=>(k v a).bind g:=by unfold RL;((try dsimp only);(repeat' (first|rfl|split|(simp only[F4,D7,G7,J5,E9,j7,j4]))))
theorem A72(b a:Nat)(x:PV)(H:List Blk)(k:PV->Option R):(RK C b a x H k).bind g=RK C b a x H λv=>(k v).bind g:=by unfold RK;((try dsimp only);(repeat' (first|rfl|split|(simp only[F4,D7,G7,J5,E9,j7,j4]))))
theorem Aj4(b a:Nat)(x:PV)(k:PV->Option R):(BY C b a x k).bind g=BY C b a x λv=>(k v).bind g:=by unfold BY;((try dsimp only);(repeat' (first|rfl|split|(simp only[F4,D7,G7,J5,E9,j7,j4]))))
theorem Ca0(x:PV)(t:Nat)(H:List Blk)(k:PV->Option R):(B99 C x t H k).bind g=B99 C x t H λv=>(k v).bind g:=by unfold B99;((try dsimp only);(repeat' (first|rfl|split|(simp only[F4,D7,G7,J5,E9,j7,j4]))))
theorem EM(t:Nat)(parts:List (Nat × PV))(k:PV->Option R):(BX C t parts k).bind g=BX C t parts λv=>(k v).bind g:=by unfold BX;((try dsimp only);(repeat' (first|rfl|split|(simp only[F4,D7,G7,J5,E9,j7,j4]))))
theorem Le(t len:Nat)(parts:List (Nat × PV))(H:List Blk)(k:PV->List Blk->Option R):(Br C t len parts H k).bind g=Br C t len parts H λv a=>(k v a).bind g:=by unfold Br;((try dsimp only);(repeat' (first|rfl|split|(simp only[F4,D7,G7,J5,E9,j7,j4]))))
theorem Pe(t:Nat)(l c:PV)(H:List Blk)(k:PV->List Blk->Option R):(Ea C t l c H k).bind g=Ea C t l c H λv a=>(k v a).bind g:=by unfold Ea;((try dsimp only);(repeat' (first|rfl|split|(simp only[F4,D7,G7,J5,E9,j7,j4]))))
theorem Yn(a:Bool)(l:List PV)(k:PV->Option R):(Nn a l k).bind g=Nn a l λv=>(k v).bind g:=by unfold Nn;((try dsimp only);(repeat' (first|rfl|split|(simp only[F4,D7,G7,J5,E9,j7,j4]))))
theorem Pa(t:Nat)(x:PV)(f:Nat)(k:PV->Option R):(Dt C t x f k).bind g=Dt C t x f λv=>(k v).bind g:=by unfold Dt;((try dsimp only);(repeat' (first|rfl|split|(simp only[F4,D7,G7,J5,E9,j7,j4]))))
theorem EW(t:Nat)(x:PV)(f:Nat)(k:PV->Option R):(CT C t x f k).bind g=CT C t x f λv=>(k v).bind g:=by unfold CT;((try dsimp only);(repeat' (first|rfl|split|(simp only[F4,D7,G7,J5,E9,j7,j4]))))
theorem PD(b:Builtin)(c:List Nat)(args:List PV)(a:St Y)(k:PV->St Y->Option R):(Lf C b c args a k).bind g=Lf C b c args a λv s=>(k v s).bind g:=by
 unfold Lf;split
 ·rw[Ca0]
 ·split
  ·rw[XN]
  ·rfl
 ·rw[A73]
 ·rw[Yn]
 ·rw[Yn]
 ·rfl
theorem BW(e:Nat)(cells:List PV)(H:List Blk)(k:PV->List Blk->Option R):(GJ C e cells H k).bind g=GJ C e cells H λv a=>(k v a).bind g:=by unfold GJ;((try dsimp only);(repeat' (first|rfl|split|(simp only[F4,D7,G7,J5,E9,j7,j4]))))
theorem LG(a:F6)(c:Yh Y)(f:Nat)(args:List PV)(b:St Y)(k:PV->St Y->Option R):(Wz C a c f args b k).bind g=Wz C a c f args b λv s=>(k v s).bind g:=by
 unfold Wz;split
 ·split
  ·rw[E9]
   congr 1;funext v H;rw[F4]
  ·rfl
 ·((try dsimp only);(repeat' (first|rfl|split|(simp only[F4,D7,G7,J5,E9,j7,j4]))))
theorem Db9(x:Option (Bool × Y))(k:Bool->Y->Option R):(ydK x k).bind g=ydK x λb s=>(k b s).bind g:=by unfold ydK;((try dsimp only);(repeat' (first|rfl|split|(simp only[F4,D7,G7,J5,E9,j7,j4]))))
theorem A68(a:F6)(c:Yh Y)(f:PV)(args:List PV)(b:St Y)(k:PV->St Y->Option R):(EQ C a c f args b k).bind g=EQ C a c f args b λv s=>(k v s).bind g:=by
 unfold EQ;split
 ·rw[LG]
 ·rw[LG]
 ·split
  ·rw[Db9]
  ·rfl
 ·rfl
theorem Ap7(a:F6)(c:Yh Y)(o:Oper)(b:St Y)(k:St Y->Option R):(opK C a c o b k).bind g=opK C a c o b λs=>(k s).bind g:=by
 unfold opK;dsimp only;split<;>(first|rfl|(simp only[BW,EM,Le,MQ,GE,RF,Az1,Pe,Pa,EW,Pb,EZ];done)|skip)
 all_goals ((try dsimp only);(repeat' (first|rfl|split|(simp only[F4,D7,G7,J5,E9,j7,j4]))));all_goals (first|rfl|skip);all_goals (simp only[PD,A68,BW,EM,Le,MQ,GE,RF,Az1,Pe,Pa,EW,Pb,EZ,Aj4,A72,Ax6,ON,F4,D7])
theorem Sk(e:F6)(f:Yh Y)(all:Array Oper):∀(l:List Oper) (d:St Y) (k:St Y->Option R),(Ft C e f all l d k).bind g=Ft C e f all l d λs=>(k s).bind g
 | [],d,k=>rfl
 | o::a,d,k=>by
  simp only[Ft];have c:=Sk e f all a;split
  ·rw[Ap7];congr 1;funext s;exact c s k
  ·split
   ·split
    ·rw[D7];congr 1;funext b;split
     ·rw[Ap7];congr 1;funext s;exact c s k
     ·exact c _ k
    ·exact c _ k
    ·rfl
   ·rfl
theorem Cf9(o:Oper)(sl:List PV)(k:Trn->Option R):(Bl4 C o sl k).bind g=Bl4 C o sl λv=>(k v).bind g:=by
 unfold Bl4
 repeat' (first|rfl|split|rw[F4])
theorem Br1(d:Option Nat)(t:Trn)(a:St Y)(k:St Y->Option R):(To C d t a k).bind g=To C d t a λs=>(k s).bind g:=by
 unfold To;split
 ·rfl
 ·exact BW C g _ _ _ _
theorem NE(d:F6)(f:Yh Y)(all:Array Oper)(e:List Nat × List Nat)(c:List Blk):∀(l:List Nat) (b:St Y) (k:St Y->Option R),(Yt C d f all e c l b k).bind g=Yt C d f all e c l b λs=>(k s).bind g
 | [],b,k=>rfl
 | i::a,b,k=>by
  simp only[Yt];rw[F4,Sk]
  congr 2;funext s
  exact NE d f all e c a _ k
theorem Nq(a:F6)(c:Yh Y)(all:Array Oper)(e:Option (List Nat × List Nat))(d:List Blk)(l:List Nat)(b:St Y)(k:St Y->Option R):(Lu C a c all e d l b k).bind g=Lu C a c all e d l b λs=>(k s).bind g:=by
 cases e with
 | none=>exact Sk C g a c all _ b k
 | some f=>exact NE C g a c all f d l b k
theorem NG(e:F6)(h:Yh Y)(all:Array Oper)(f:Option (List Nat × List Nat))(c:List Blk)(d:Option Nat):∀(l:List Nat) (b:St Y) (k:St Y->Option R),(Pf C e h all f c d l b k).bind g=Pf C e h all f c d l b λs=>(k s).bind g
 | [],b,k=>rfl
 | i::a,b,k=>by
  simp only[Pf];rw[Nq]
  congr 1;funext s
  exact NG e h all f c d a _ k
theorem Ce4(b:F6)(c:Yh Y)(id:Nat)(a:Array Oper)(d:Bool)(e:St Y)(k:St Y->Option R):(Bh3 C b c id a d e k).bind g=Bh3 C b c id a d e λs=>(k s).bind g:=by
 unfold Bh3;split
 ·split
  ·exact Nq C g b c a _ _ _ e k
  ·exact Sk C g b c a _ e k
 ·split
  ·rw[Nq];congr 1;funext s;rw[Cf9];congr 1;funext v;rw[NG];congr 1;funext s2;rw[Br1];congr 1;funext s3;exact Nq C g b c a _ _ _ _ k
  ·rfl
theorem MR(L:Nat)(ds:Option (List Nat))(b:St Y->(Out->St Y->Option R)->Option R)(a:St Y->(Out->St Y->Option S)->Option S)(d:∀c k,(b c k).bind g=a c λo s=>(k o s).bind g):∀(n:Nat) (c:St Y) (k:Out->St Y->Option R),(D0 L ds b n c k).bind g=D0 L ds a n c λo s=>(k o s).bind g
 | 0,c,k=>rfl
 | n+1,c,k=>by
  simp only[D0];rw[d]
  congr 1;funext o s
  cases o with
  | normal=>exact MR L ds b a d n _ k
  | exit id=>rfl
  | ret=>rfl
theorem Zm{ps:Array Tmp}{sl0:List PV}{aq bd:St Y->(Out->St Y->Option R)->Option R}{as' bd':St Y->(Out->St Y->Option S)->Option S}(b:∀a k,(aq a k).bind g=as' a λo s=>(k o s).bind g)(c:∀a k,(bd a k).bind g=bd' a λo s=>(k o s).bind g) :
  ∀(L:List (List PV)) (H:List Blk) (s:Y) (k:Option Out->List Blk->Y->Option R),(Bi ps sl0 aq bd L H s k).bind g=Bi ps sl0 as' bd' L H s λp H s=>(k p H s).bind g
 | [],H,s,k=>rfl
 | x::xs,H,s,k=>by
  simp only[Bi];split
  ·rw[b]
   congr 1;funext o st1
   cases o with
   | normal=>
    dsimp only;rw[c]
    congr 1;funext o2 st2
    cases o2 with
    | normal=>exact Zm b c xs _ _ k
    | exit id=>rfl
    | ret=>rfl
   | exit id=>rfl
   | ret=>rfl
  ·rfl
theorem Ar4(b:F6)(f:PV)(c:St Y)(d:List PV->Yh (List Blk × Option Out × Y)){sR:List PV->List (List PV)->List Blk->Y->(Option Out->List Blk->Y->Option R)->Option R}{sR':List PV->List (List PV)->List Blk->Y->(Option Out->List Blk->Y->Option S)->Option S}
  (e:∀a L H s k,(sR a L H s k).bind g=sR' a L H s λp H s=>(k p H s).bind g) (k:Out->St Y->Option R):(Vr C b f c d sR k).bind g=Vr C b f c d sR' λo s=>(k o s).bind g:=by
 unfold Vr;split
 ·split
  ·unfold Bg3;split
   ·split
    ·rw[F4,e];rfl
    ·rfl
   ·rfl
  ·unfold Yz;((try dsimp only);(repeat' (first|rfl|split|(simp only[F4,D7,G7,J5,E9,j7,j4]))))
 ·rfl
end
theorem EU{q:Type}(C:Cfg)(h:F6)(n:Yh q):∀(c:Code) {R S:Type} (g:R->Option S) (e:St q) (k:Out->St q->Option R),(B3 C h n c e k).bind g=B3 C h n c e λo s=>(k o s).bind g:=by
 intro c
 induction c with
 | skip=>intros;rfl
 | label l=>intros;rfl
 | region id r d=>intro R S g e k;simp only[B3];rw[Ce4]
 | seq a b i m=>
  intro R S g e k;simp only[B3];rw[i]
  congr 1;funext o s
  cases o with
  | normal=>exact m g s k
  | exit id=>rfl
  | ret=>rfl
 | cond c a b i m=>
  intro R S g e k;simp only[B3];split
  ·rw[D7];congr 1;funext t;rw[G7,i,m]
  ·rfl
 | block id a p=>
  intro R S g e k;simp only[B3];rw[p]
  congr 1;funext o s
  cases o with
  | normal=>rfl
  | exit j=>dsimp only;split<;>rfl
  | ret=>rfl
 | loop a p=>
  intro R S g e k;simp only[B3];exact MR g _ _ _ _ (λe k=>p g e k) _ _ _
 | scope a p=>intro R S g e k;simp only[B3];rw[p]
 | exit id=>intros;rfl
 | ret=>intros;rfl
 | rangeFunc f ps a b i m=>
  intro R S g e k;simp only[B3];exact Ar4 C g h (opnd C e.sl f) e _ (sR:=λsl0=>Bi ps sl0 (λe k=>B3 C h n a e k) (λe k=>B3 C h n b e k)) (sR':=λsl0=>Bi ps sl0 (λe k=>B3 C h n a e k) (λe k=>B3 C h n b e k))
   (λsl0 L H s k=>Zm (ps:=ps) (sl0:=sl0) g (aq:=λe k=>B3 C h n a e k) (bd:=λe k=>B3 C h n b e k) (as':=λe k=>B3 C h n a e k) (bd':=λe k=>B3 C h n b e k) (λe k=>i g e k) (λe k=>m g e k) L H s k) k
 | _=>intros;rfl
theorem LV{e R:Type}{C:Cfg}{a:F6}{d:Yh e}{c:Code}{b:St e}{k:Out->St e->Option R}{r:R}(h:B3 C a d c b k=some r):∃o s,B3 C a d c b (λo s=>some (o,s))=some (o,s)/\k o s=some r:=by
 have:=EU C a d c (λp:Out × St e=>k p.1 p.2) b (λo s=>some (o,s));simp only[j4] at this;rw[<-this] at h;cases f:B3 C a d c b (λo s=>some (o,s)) with
 | none=>rw[f] at h;cases h
 | some p=>rw[f] at h;exact⟨p.1,p.2,rfl,h⟩
theorem RU{a R:Type}{C:Cfg}{b:F6}{e:Yh a}{c:Code}{d:St a}{k:Out->St a->Option R}{o:Out}{s:St a}(h:B3 C b e c d (λo s=>some (o,s))=some (o,s)):B3 C b e c d k=k o s:=by have:=EU C b e c (λp:Out × St a=>k p.1 p.2) d (λo s=>some (o,s));rw[h] at this;exact this.symm
def Ctx.hide(Γ:Ctx)(ns:List Nat):Ctx:={ Γ with nm:=λb=>if b∈ns then none else Γ.nm b }
def Ctx.reyv(Γ:Ctx)(y:Value)(hy:y.oneCell'=true):Ctx:={ Γ with yv:=y,yv1:=hy }
section
variable {X R : Type} {r : R} {C : Cfg} {I : X -> (Nat -> Prop) -> (Nat -> Prop) -> World -> Prop} {Γ Γ' : Ctx} {Z T : Nat -> Prop} {Y : St X} {a : Act} {w w' : World} {W : F6} {J : Yh X} {K : Value} {H H' : List Blk} {N : Array Value}
theorem Ou:∀{l:List PV},yfL l=true->∀v∈l,v.yf=true
 | [],_,v,b=>by simp at b
 | x::r,h,v,b=>by
  simp only[yfL,j2] at h;rcases y9.1 b with rfl|b
  ·exact h.1
  ·exact Ou h.2 v b
theorem VP.reyv{sh:Nat->Option Shp}{y:Value}{hy:y.oneCell'=true}{v:PV}{V:Value}(h:VP Γ sh w v V):v.yf=true->VP (Γ.reyv y hy) sh w v V:=by
 induction h with
 | s v V h=>intro _;exact .s v V h
 | nsl=>intro _;exact .nsl
 | flv b e sz h=>intro _;exact .flv b e sz h
 | fl b g v e sz n cap h hv hg hcap hm hs=>intro _;exact .fl b g v e sz n cap h hv hg hcap hm hs
 | vwv b e sz i h=>intro _;exact .vwv b e sz i h
 | vw b i n g a cap v e sz m h hv hg ha hi hcap hm=>intro _;exact .vw b i n g a cap v e sz m h hv hg ha hi hcap hm
 | ptrA b i off g v e sz n h hg=>intro _;exact .ptrA b i off g v e sz n h hg
 | ptrB b off g h hg=>intro _;exact .ptrB b off g h hg
 | fnr g x y A B As Bs hf hA hB ha hb hx hy ihx ihy=>
  intro hc;simp only[PV.yf,j2] at hc;exact .fnr g x y A B As Bs hf hA hB ha hb (λj h=>ihx j h (Ou hc.1 _ (j8 h))) (λj h=>ihy j h (Ou hc.2 _ (j8 h)))
 | it b g h hg=>intro _;exact .it b g h hg
 | yd=>intro h;simp[PV.yf] at h
 | agg l A As hA ha hl ih=>
  intro hc;simp only[PV.yf] at hc;exact .agg l A As hA ha (λj h=>ih j h (Ou hc _ (j8 h)))
 | tup l A As hA ha hl ih=>
  intro hc;simp only[PV.yf] at hc;exact .tup l A As hA ha (λj h=>ih j h (Ou hc _ (j8 h)))
 | bad V=>intro _;exact .bad V
mutual
theorem PV.yf_rn(f:Nat->Nat):∀v:PV,(v.rn f).yf=v.yf
 | .s _=>rfl
 | .nsl=>rfl
 | .fl b=>rfl
 | .vw b _ _=>rfl
 | .ptr b _ _=>rfl
 | .fnr _ x y=>by simp only[PV.rn,PV.yf,EJ f x,EJ f y]
 | .it b=>rfl
 | .yd=>rfl
 | .agg l=>by simp only[PV.rn,PV.yf,EJ f l]
 | .tup l=>by simp only[PV.rn,PV.yf,EJ f l]
 | .bad=>rfl
theorem EJ(f:Nat->Nat):∀l:List PV,yfL (rnL f l)=yfL l
 | []=>rfl
 | v::r=>by simp only[rnL,yfL,PV.yf_rn f v,EJ f r]
end
theorem Blk.yf_rn(f:Nat->Nat)(x:Blk):(x.rn f).yf=x.yf:=by cases x<;>simp[Blk.rn,Blk.yf,EJ]
theorem BR.reyv{sh:Nat->Option Shp}{b:Nat}{x:Blk}{y:Value}{hy:y.oneCell'=true}(h:BR Γ sh w b x)(hx:x.yf=true):BR (Γ.reyv y hy) sh w b x:=by
 cases x with
 | arr v e sz els=>exact h
 | box cells=>
  simp only[Blk.yf] at hx;obtain⟨g,cur,e,h1,h2,h3,h4⟩:=h;refine⟨g,cur,e,h1,h2,h3,λj h=>?_⟩;obtain⟨V,e1,e2⟩:=h4 j h;exact⟨V,e1,e2.reyv (Ou hx _ (j8 h))⟩
 | iter s p=>exact h
 | dead=>exact h
theorem HR.reyv{y:Value}{hy:y.oneCell'=true}(h:HR Γ H w)(hx:∀b (h:b<H.length),(H[b]).yf=true):HR (Γ.reyv y hy) H w:=
 ⟨h.inj,h.lt,h.stlt,h.nms,λb hb=>(h.blk b hb).reyv (hx b hb)⟩
theorem MS:∀(H:List Blk) (n:Nat),∀b (h:b<H.length),(n+b)∈Bz C H n\/Ez C H[b]=true
 | [],n,b,h=>by simp at h
 | x::r,n,0,_=>by
  cases c:Ez C x with
  | true=>exact .inr c
  | false=>exact .inl (by simp[Bz,c])
 | x::r,n,b+1,h=>by
  have:=MS r (n+1) b (by simpa using h);rw[show n+1+b=n+(b+1) by omega] at this;rcases this with q|q
  ·refine .inl ?_;simp only[Bz];cases Ez C x with
   | true=>exact q
   | false=>exact ah3 _ q
  ·exact .inr (by simpa using q)
theorem SH{d:List Nat}(c:∀b,b∉d->A5 H' b=A5 H b):Ax Γ (A5 H) w (Γ.hide d) (A5 H') w (·∉d):=
 ⟨λ_ _=>rfl,λ_ h=>h,λb e=>by simp only[Ctx.hide];rw[if_neg e],c,λ_ _ _ _=>rfl,rfl⟩
theorem De2{f:List Nat}(o:HR Γ H w)(v:f.Nodup)(u:∀b∈f,b<H.length):(O7 f H).length=H.length/\(∀b,b∉f->A5 (O7 f H) b=A5 H b)/\(∀b,b∈f->A5 (O7 f H) b=some .dead)/\HR (Γ.hide f) (O7 f H) w:=by
 obtain⟨i,x,q⟩:=Qp (Γ:=Γ) (sh:=A5 H) (w:=w) f H;obtain⟨A,t⟩:=Kd f (x8 f.length .dead) (T1 f H) v (by simp) (λb d=>by rw[i];exact u b d);have k:(O7 f H).length=H.length:=by rw[O7,A,i]
 have j:∀b,b∉f->(O7 f H)[b]? = (T1 f H)[b]?:=λb d=>by rw[O7,t,if_neg d]
 have l:∀b,b∈f->(O7 f H)[b]? = some .dead:=λb d=>by
  rw[O7,t,if_pos d,List.getElem?_replicate,if_pos (List.idxOf_lt_length_of_mem d)]
 have p:∀b,b∉f->A5 (O7 f H) b=A5 H b:=λb d=>by
  rw[<-x b];simp only[A5,j b d]
 have M:=SH (Γ:=Γ) (H:=H) (w:=w) p;have m:∀b g,(Γ.hide f).nm b=some g->b∉f/\Γ.nm b=some g:=λb g h=>by
  simp only[Ctx.hide] at h;split at h
  ·cases h
  ·exact⟨‹_›,h⟩
 refine⟨k,p,λb d=>by simp only[A5,l b d];rfl,⟨λb B g D F=>o.inj b B g (m b g D).2 (m B g F).2,λb g h=>?_,o.stlt,λb d c n=>?_,λb d=>?_⟩⟩
 ·obtain⟨y,z,G⟩:=o.lt b g (m b g h).2;exact⟨by rw[k];exact y,z,G⟩
 ·rw[k] at d ⊢;by_cases h:b∈f
  ·have:=l b h;rw[b8 (by rw[k];exact d)] at this;simp only[b9] at this;rw[this] at n;simp[Blk.nms] at n
  ·have e:=j b h;rw[b8 (by rw[k];exact d),b8 (by rw[i];exact d)] at e;simp only[b9] at e;rw[e] at n;exact o.nms b d c ((q b (by rw[i];exact d) d).1 c n).2
 ·rw[k] at d;by_cases h:b∈f
  ·have:=l b h;rw[b8 (by rw[k];exact d)] at this;simp only[b9] at this;rw[this];trivial
  ·have e:=j b h;rw[b8 (by rw[k];exact d),b8 (by rw[i];exact d)] at e;simp only[b9] at e;rw[e];obtain⟨y,z⟩:=q b (by rw[i];exact d) d;exact(z b (o.blk b d)).mono M (M.nm b h) (λ_ _=>rfl) (λc n=>(y c n).1)
theorem BS{b:Obj}{g:Nat}(h:g<w.heap.size):(w.alloc b).heap[g]? = w.heap[g]?:=by show(w.heap.push b)[g]? = w.heap[g]?;rw[Array.getElem?_push];rw[if_neg (by omega)]
theorem Tl{v:PV}{V:Value}{sh:Nat->Option Shp}{f:Nat}{first b:List PV}(h:Sn v=some (f,first,b))(i:VP Γ sh w v V):∃A B,V = .func (.func f) A B/\CR Γ sh w first A/\CR Γ sh w b B/\∀c∈C8 (first++b),c∈v.nms:=by
 have g:∀(l:List SV),C8 (l.map PV.s)=[]:=λl=>by
  rw[x5];intro c d;obtain⟨j,k,d⟩:=C0.1 d;simp[PV.nms] at d
 unfold Sn at h;split at h
 ·simp only[b9,v8] at h;obtain⟨rfl,rfl,rfl⟩:=h;obtain⟨A,B,rfl,hA,e⟩:=i.inv_fn';exact⟨A,B,rfl,hA,e,λc d=>by rw[P2,g,g] at d;simp at d⟩
 ·simp only[b9,v8] at h;obtain⟨rfl,rfl,rfl⟩:=h;obtain⟨A,B,rfl,hA,e⟩:=i.inv_fnr';exact⟨A,B,rfl,hA,e,λc d=>by rw[P2] at d;simpa[PV.nms] using d⟩
 ·cases h
theorem VP.ndead{sh:Nat->Option Shp}{v:PV}{V:Value}(h:VP Γ sh w v V):∀c∈v.nms,sh c≠some .dead:=by
 induction h with
 | s v V h=>intro c hc;simp[PV.nms] at hc
 | nsl=>intro c hc;simp[PV.nms] at hc
 | flv b e sz h=>intro c hc;simp[PV.nms] at hc;subst hc;rw[h];simp
 | fl b g v e sz n cap h hv hg hcap hm hs=>intro c hc;simp[PV.nms] at hc;subst hc;rw[h];simp
 | vwv b e sz i h=>intro c hc;simp[PV.nms] at hc;subst hc;rw[h];simp
 | vw b i n g a cap v e sz m h hv hg ha hi hcap hm=>intro c hc;simp[PV.nms] at hc;subst hc;rw[h];simp
 | ptrA b i off g v e sz n h hg=>intro c hc;simp[PV.nms] at hc;subst hc;rw[h];simp
 | ptrB b off g h hg=>intro c hc;simp[PV.nms] at hc;subst hc;rw[h];simp
 | fnr g x y A B As Bs hf hA hB ha hb hx hy ihx ihy=>
  intro c hc;simp only[PV.nms,y7] at hc;rcases hc with hc|hc
  ·obtain⟨j,hj,hc⟩:=C0.1 hc;exact ihx j hj c hc
  ·obtain⟨j,hj,hc⟩:=C0.1 hc;exact ihy j hj c hc
 | it b g h hg=>intro c hc;simp[PV.nms] at hc;subst hc;rw[h];simp
 | yd=>intro c hc;simp[PV.nms] at hc
 | agg l A As hA ha hl ih=>intro c hc;simp only[PV.nms] at hc;obtain⟨j,hj,hc⟩:=C0.1 hc;exact ih j hj c hc
 | tup l A As hA ha hl ih=>intro c hc;simp only[PV.nms] at hc;obtain⟨j,hj,hc⟩:=C0.1 hc;exact ih j hj c hc
 | bad V=>intro c hc;simp[PV.nms] at hc
theorem BR.ndead{sh:Nat->Option Shp}{b:Nat}{x:Blk}(h:BR Γ sh w b x):∀c∈x.nms,sh c≠some .dead:=by
 cases x with
 | box cells=>
  intro c hc;simp only[Blk.nms] at hc;obtain⟨j,hj,hc⟩:=C0.1 hc;obtain⟨g,cur,e,h1,h2,h3,h4⟩:=h;obtain⟨V,_,e2⟩:=h4 j hj;exact e2.ndead c hc
 | arr v e sz els=>intro c hc;simp[Blk.nms] at hc
 | iter s p=>intro c hc;simp[Blk.nms] at hc
 | dead=>intro c hc;simp[Blk.nms] at hc
theorem NR{n n0:Nat}{g:Operand}{ps:Array Tmp}{aq body:Code}{k:Out->St X->Option R}{Q:Exit->Act->World->Prop}{f8:F6}{f:Nat}{first a0:List PV}{m:List Nat}(A:Ask C I W J K)(h8:Ch C f8)(k8:Γ.yv=K)(i5:WP C I W J K aq)(i7:WP C I W J K body)
  (k6:Sn (opnd C Y.sl g)=some (f,first,a0)) (f5:m.Nodup) (c1:∀c∈C8 (first++a0),c∈m) (a4:∀b∈m,b<Y.hp.length)
  (h:Yz C f8 f first a0 m Y (λl1=>Kr ps l1 (λY k=>B3 C W J aq Y k) (λY k=>B3 C W J body Y k)) k=some r) (S:SI C I Γ Z Y a.tmps w) (hM:Mk n0 Γ Z w a.defers) (hP:Dc4 C I n0 Γ Z Y.hp w k r Q) :
  (ak6 g ps aq body).wpIn (G9 none) n C.P Q a w:=by
 have hv:=(S.opnd g).1;have hvn:=(S.opnd g).2;obtain⟨FA,FB,h9,i9,j0,l6⟩:=Tl k6 hv;unfold Yz at h;split at h
 case isFalse=>cases h
 rename_i b6;simp only[j2,o7] at b6;obtain⟨⟨⟨j1,f6⟩,k7⟩,d6⟩:=b6;split at h
 case h_2=>cases h
 rename_i ret Hc H1 a2 s' f0;refine wpIn_rangeFunc (λfn _=>?_);obtain⟨F,b0⟩:∃F,(w.alloc (.deferred (some []))).alloc (.loop (Nv fn a.tmps ps aq body w.heap.size .ready none))=F:=⟨_,rfl⟩
 have l3:F.heap.size=w.heap.size+2:=by rw[<-b0];simp
 have a5:∀g,g<w.heap.size->F.heap[g]? = w.heap[g]?:=λg G=>by
  rw[<-b0,BS (by simp;omega),BS G]
 have k5:F.heap[w.heap.size+1]? = some (.loop (Nv fn a.tmps ps aq body w.heap.size .ready none)):=by
  rw[<-b0];have:=ah5 (w.alloc (.deferred (some []))) (.loop (Nv fn a.tmps ps aq body w.heap.size .ready none));rwa [World.size_alloc] at this
 have j3:F.heap[w.heap.size]? = some (.deferred (some [])):=by
  rw[<-b0,BS (by simp)];exact ah5 w _
 have ho:F.os=w.os/\F.tape=w.tape/\F.output=w.output:=by rw[<-b0];exact⟨rfl,rfl,rfl⟩
 obtain⟨S1,l7⟩:=S.wide A.hI (St':=Γ.St) a5 (by omega) (λ_ h=>h) (λ_ h=>.inl h) (λg G=>by have:=S.hr.stlt g G;omega) ho.1 ho.2.1 ho.2.2;have S1:SI C I Γ Z Y a.tmps F:=S1;have k0:=A.hI.foot _ _ _ _ S.inv;have e3:∀{g},w.heap.size<=g->g<F.heap.size->Off Γ Z F g:=fun {g} h1 h2=>⟨h2,λq=>by have:=S.hr.stlt g q;omega,λb q=>by have:=(S.hr.lt b g q).2.1;omega,λq=>by have:=(k0 g q).1;omega⟩
 have d3:Off Γ Z F (w.heap.size+1):=e3 (by omega) (by omega);have d2:Off Γ Z F w.heap.size:=e3 (by omega) (by omega);obtain⟨dl,c3,f9,e5⟩:=De2 S1.hr f5 a4;have c9:=Nj (Γ:=Γ) (sh:=A5 Y.hp) (w:=F) (m++Bz C Y.hp 0) Y.sl;have f2:=SH (Γ:=Γ) (H:=Y.hp) (H':=O7 m Y.hp) (w:=F) c3;have a1:∀c∈C8 (L6 (m++Bz C Y.hp 0) Y.sl),c∉m/\c<Y.hp.length/\Ez C (Y.hp.getD c .dead)=true:=λc u=>by
  obtain⟨B,q2⟩:=c9.2.1 c u;have q3:=S.sr.nms c q2;simp only[y7,not_or] at B;refine⟨B.1,q3,?_⟩;have e:Y.hp.getD c .dead=Y.hp[c]:=by rw[j9,b8 q3];rfl
  rw[e];rcases MS (C:=C) Y.hp 0 c q3 with q|q
  ·rw[ae2] at q;exact absurd q B.2
  ·exact q
 have g2:SR (Γ.hide m) (O7 m Y.hp) F (L6 (m++Bz C Y.hp 0) Y.sl) a.tmps:=by
  have h0:SR Γ Y.hp F (L6 (m++Bz C Y.hp 0) Y.sl) a.tmps:=⟨by rw[c9.1];exact S1.sr.size,λc u=>(a1 c u).2.1,λi hi=>by
   have c0:i<Y.sl.length:=by rw[<-c9.1];exact hi
   obtain⟨V,e1,e2⟩:=S1.sr.slot i c0;exact⟨V,e1,c9.2.2 i hi c0 V e2⟩⟩
  exact h0.mono f2 (λc u=>⟨(a1 c u).1,by rw[dl];exact(a1 c u).2.1⟩)
 have M:∀{b g},(Γ.hide m).nm b=some g->b∉m/\Γ.nm b=some g:=fun {b g} h=>by
  simp only[Ctx.hide] at h;split at h
  ·cases h
  ·exact⟨‹_›,h⟩
 have SS:SI C I (Γ.hide m) Z { sl:=L6 (m++Bz C Y.hp 0) Y.sl,hp:=O7 m Y.hp,s:=Y.s } a.tmps F:=⟨e5,g2,S1.g,S1.inv,λb g p=>S1.dis b g (M p).2⟩
 have g6:∀c∈C8 (L6 (m++Bz C Y.hp 0) Y.sl),c<(O7 m Y.hp).length/\Kn C (A5 (O7 m Y.hp) c):=λc u=>by
  obtain⟨B,q2,q3⟩:=a1 c u;exact⟨by rw[dl];exact q2,by rw[c3 c B];exact(LW q2).1 q3⟩
 have d9:∀{g},Off Γ Z F g->Off (Γ.hide m) Z F g:=fun {g} h=>⟨h.1,h.2.1,λb q=>h.2.2.1 b (M q).2,h.2.2.2⟩
 let Φc:Nat->Prop:=λg=>Z g\/(∃b,(Γ.hide m).nm b=some g)\/g=w.heap.size+1\/g=w.heap.size
 have h7:RI C I (Γ.hide m) (O7 m Y.hp) F Z (L6 (m++Bz C Y.hp 0) Y.sl) a.tmps (w.heap.size+1) w.heap.size (Nv fn a.tmps ps aq body w.heap.size) (O7 m Y.hp,none,Y.s) Γ.St Φc F:=by
  refine⟨Γ.hide m,Z,SS,Stp.pg (Stp.refl e5),λ_ h=>h,λ_=>Iff.rfl,λg G=>?_,d9 d3,d9 d2,k5,j3⟩;rcases G with q|⟨b,q⟩|rfl|rfl
  ·have:=A.hI.foot _ _ _ _ S1.inv g q;exact this
  ·have:=e5.lt b g q;exact⟨this.2.1,this.2.2⟩
  ·exact⟨d3.1,d3.2.1⟩
  ·exact⟨d2.1,d2.2.1⟩
 have i0:=Bz9 S1.hr f5 a4 j1;have a3:=λb (h:b∈m)=>Ie h
 have f4:(T4 Y.hp m).length=m.length:=by simp[T4]
 let y:Value:=.func (.yield (w.heap.size+1)) #[] #[];have b1:y.oneCell'=true:=rfl;have g1:HR ((Γ.lent m).reyv y b1) (T4 Y.hp m) F:=i0.reyv (λb p=>by
  have i6:b<m.length:=by rw[<-f4];exact p
  simp only[T4,o8,Blk.yf_rn];exact k7 _ (j8 i6))
 have e4:∀{l:List PV} {V:Array Value},CR Γ (A5 Y.hp) w l V->yfL l=true->(∀c∈C8 l,c∈m)->CR ((Γ.lent m).reyv y b1) (A5 (T4 Y.hp m)) F (rnL (I1 m) l) V:=fun {l V} u hy hn=>by
  have g4:CR Γ (A5 Y.hp) F l V:=u.mono (Γ':=Γ) (H':=Y.hp) (EG S.hr a5 (λ_ h=>h)) (λ_ _=>trivial);rw[DU];refine⟨by rw[y5];exact g4.1,λj hj=>?_⟩;have f3:j<l.length:=by simpa using hj
  obtain⟨U,e,q⟩:=g4.2 j f3;refine⟨U,e,?_⟩;rw[o8];refine VP.reyv (VP.rn (Γ:=Γ) (Γ':=Γ.lent m) rfl q (.inr λ_ h=>h) (λc u=>?_)) (by rw[PV.yf_rn];exact Ou hy _ (j8 f3));have c7:=hn c (C0.2 ⟨j,f3,u⟩);obtain⟨B,q2⟩:=a3 c c7;exact⟨Yg c7,by rw[Qs a4 B,q2]⟩
 have l2:∀(x z:List PV),yfL (x++z)=(yfL x&&yfL z):=λx z=>by
  induction x with
  | nil=>simp[yfL]
  | cons v x ih=>simp[yfL,ih,Bool.and_assoc]
 rw[l2,j2] at f6;have e9:CR ((Γ.lent m).reyv y b1) (A5 (T4 Y.hp m)) F (rnL (I1 m) first++.yd::rnL (I1 m) a0) (FA++#[y]++FB):=by
  have h1:=e4 i9 f6.1 (λc u=>c1 c (by rw[P2];simp[u]));have h2:=e4 j0 f6.2 (λc u=>c1 c (by rw[P2];simp[u]));have h3:CR ((Γ.lent m).reyv y b1) (A5 (T4 Y.hp m)) F [.yd] #[y]:=CR.one .yd;have:=(h1.append h3).append h2;simpa using this
 have e8:∀c∈C8 (rnL (I1 m) first++.yd::rnL (I1 m) a0),c<(T4 Y.hp m).length:=λc u=>by
  have:c∈(C8 (first++a0)).map (I1 m):=by
   rw[P2] at u;simp only[C8,PV.nms,ad9,Jt,y7] at u;rw[P2,ag3,y7];exact u
  obtain⟨d,hd,rfl⟩:=List.mem_map.1 this;rw[f4];exact(a3 d (c1 d hd)).1
 have a7:∀{i g},(Γ.lent m).nm i=some g->∃hi:i<m.length,Γ.nm m[i]=some g:=fun {i g} h=>by
  simp only[Ctx.lent] at h;cases hi:m[i]? with
  | none=>rw[hi] at h;simp at h
  | some b=>
   obtain⟨h1,h2⟩:=ae5.1 hi;rw[hi] at h;exact⟨h1,by rw[h2];exact h⟩
 have c5:=h8 _ _ _ y (D85 A.hI) (D86 (fn:=fn) (ps:=ps) (aq:=aq) (body:=body) (l:=w.heap.size+1) (D:=w.heap.size) (tmps:=a.tmps) (w0:=F) (Φ0:=Z) (Γ0:=Γ.hide m) A.hI k8 i5 i7 g6) f _ _ _ ret Hc _ f0 ((Γ.lent m).reyv y b1) Φc F (FA++#[y]++FB) rfl g1 S1.g h7 (λi g hi=>by
  obtain⟨k4,c8⟩:=a7 hi;rintro(q|⟨b,q⟩|rfl|rfl)
  ·exact S1.dis _ g c8 q
  ·obtain⟨B,q2⟩:=M q;have:=S1.hr.inj _ _ g c8 q2;exact B (this▸j8 k4)
  ·exact d3.2.2.1 _ c8
  ·exact d2.2.2.1 _ c8) e9 e8
 have c6:=AK (ro:=none) (n:=n) (Bf d6) c5;refine⟨w.heap.size+1,[mkD w.heap.size],F,{ target:=.fn (.func f) FB,args:=FA++#[y] },F,f,FA++#[y]++FB,F,?_,?_,λ_ _=>trivial,?_,λh=>by simp[G9,ac7] at h,c6.mono ?_⟩
 ·rw[<-b0];exact run_enterLoop_outer _ _ _ _ _
 ·simp[resolve,h9,v7];rfl
 ·show(callFunc f (FA++#[y]++FB)).run C.P F=_;exact Bf d6
 rintro e W2 ⟨V,rfl,Γ1,Φ1,hs,b4,l8,l5,⟨Γb,Φb,r1⟩,b7⟩;have g7:=r1.hl;have d5:=run_endLoop (P:=C.P) g7 (by cases a2<;>simp[Nv,Dp7]);obtain⟨w4,d1⟩:∃w4,W2.putObj (w.heap.size+1) (.loop { Nv fn a.tmps ps aq body w.heap.size (Dp7 a2) (a2.map jmp) with state:=.exhausted })=w4:=⟨_,rfl⟩
 rw[d1] at d5;have O:Wp Γb Φb W2 w4:=by rw[<-d1];exact Wp.put r1.ol
 have c2:w4.heap.size=W2.heap.size:=by rw[<-d1];simp
 have h4:∀g,g≠w.heap.size+1->w4.heap[g]? = W2.heap[g]?:=λg G=>by rw[<-d1];exact o9 G
 have inΦ:∀{g},Φb g\/(∃b,Γb.nm b=some g)\/g=w.heap.size+1\/g=w.heap.size->Φ1 g:=fun {g} h=>(r1.ph g).2 h
 have S5:=(r1.si.offW A.hI O).wideSt A.hI (St':=Γ1.St) r1.st (λg G hp=>(r1.ft g (inΦ (.inl hp))).2 G) (λb g p G=>(r1.ft g (inΦ (.inr (.inl ⟨b,p⟩)))).2 G) (λg G=>by rw[c2];exact b4.stlt g G);have d0:Y.hp.length<=H1.length:=by have:=r1.pg.len;rw[dl] at this;exact this
 have d4:m.length<=Hc.length:=by have:=hs.len;rw[y5] at this;exact this
 obtain⟨l0,h6⟩:=Kd m (m.map λb=>cond (Ez C (Y.hp.getD b .dead)) (Ld (Hc.getD (I1 m b) .dead)) .dead) H1 f5 (by simp) (λb p=>j6 (a4 b p) d0);generalize e7:Aj3 C m Y.hp Hc H1=H2 at h;have a6:H2.length=H1.length:=by rw[<-e7];exact l0
 have e6:∀b (p:b∈m),H2[b]? = some (cond (Ez C (Y.hp.getD b .dead)) (Ld (Hc.getD (I1 m b) .dead)) .dead):=λb p=>by
  rw[<-e7];simp only[Aj3];rw[h6,if_pos p,ab7];have e:m.idxOf b=I1 m b:=rfl;rw[e,b8 (a3 b p).1,(a3 b p).2];rfl
 have b3:∀b,b∉m->H2[b]? = H1[b]?:=λb p=>by
  rw[<-e7];simp only[Aj3];rw[h6,if_neg p]
 let Γf:Ctx:={ St:=Γ1.St,nm:=λb=>if b∈m then (if Ez C (Y.hp.getD b .dead)=true then Γ1.nm (I1 m b) else none) else Γb.nm b,yv:=Γ.yv,yv1:=Γ.yv1 }
 have b2:∀{b},b∈m->Ez C (Y.hp.getD b .dead)=true->Γf.nm b=Γ1.nm (I1 m b):=fun {b} h1 h2=>by simp only[Γf];rw[if_pos h1,if_pos h2]
 have g0:∀{b},b∈m->¬Ez C (Y.hp.getD b .dead)=true->Γf.nm b=none:=fun {b} h1 h2=>by simp only[Γf];rw[if_pos h1,if_neg h2]
 have a9:∀{b},b∉m->Γf.nm b=Γb.nm b:=fun {b} h1=>by simp only[Γf];rw[if_neg h1]
 have L:∀{b g},Γf.nm b=some g->(b∈m/\Γ1.nm (I1 m b)=some g)\/(b∉m/\Γb.nm b=some g):=fun {b g} h=>by
  by_cases p:b∈m
  ·by_cases hf:Ez C (Y.hp.getD b .dead)=true
   ·rw[b2 p hf] at h;exact .inl ⟨p,h⟩
   ·rw[g0 p hf] at h;cases h
  ·rw[a9 p] at h;exact .inr ⟨p,h⟩
 have g9:∀c,c∈m->A5 H1 c=some .dead:=λc u=>by
  obtain⟨_,k2,_⟩:=r1.pg.keep c (by rw[dl];exact a4 c u) (by rw[f9 c u];trivial);rw[k2];exact f9 c u
 have d8:∀b,b∉m->A5 H2 b=A5 H1 b:=λb p=>by simp only[A5,b3 b p]
 have Mf:Ax { Γb with St:=Γ1.St } (A5 H1) w4 Γf (A5 H2) w4 (·∉m):=⟨λ_ _=>rfl,λ_ h=>h,λb p=>a9 p,d8,λ_ _ _ _=>rfl,(r1.pg.yv:Γb.yv=Γ.yv).symm⟩
 have i3:HR Γf H2 w4:=by
  refine⟨λb b' g h1 h2=>?_,λb g p=>?_,λg G=>by rw[c2];exact b4.stlt g G,λb p c u=>?_,λb p=>?_⟩
  ·rcases L h1 with⟨p1,B⟩|⟨p1,B⟩<;>rcases L h2 with⟨p2,q2⟩|⟨p2,q2⟩
   ·have:=b4.inj _ _ g B q2;have e1:=(a3 b p1).2;have e2:=(a3 b' p2).2;rw[<-e1,<-e2];simp only[this]
   ·exact absurd (inΦ (.inr (.inl ⟨b',q2⟩))) (b7 _ g B)
   ·exact absurd (inΦ (.inr (.inl ⟨b,B⟩))) (b7 _ g q2)
   ·exact r1.si.hr.inj b b' g B q2
  ·rcases L p with⟨p1,B⟩|⟨p1,B⟩
   ·have:=b4.lt _ g B;exact⟨by rw[a6];exact j6 (a4 b p1) d0,by rw[c2];exact this.2.1,this.2.2⟩
   ·have:=S5.hr.lt b g B;exact⟨by rw[a6];exact this.1,this.2⟩
  ·by_cases t:b∈m
   ·have e:=e6 b t;rw[b8 p] at e;simp only[b9] at e;rw[e] at u;cases hf:Ez C (Y.hp.getD b .dead) with
    | true=>rw[hf,cond_true,RD] at u;simp at u
    | false=>rw[hf] at u;simp[Blk.nms] at u
   ·have e:=b3 b t;have b5:b<H1.length:=by rw[<-a6];exact p
    rw[b8 p,b8 b5] at e;simp only[b9] at e;rw[e] at u;rw[a6];exact S5.hr.nms b b5 c u
  ·by_cases t:b∈m
   ·have e:=e6 b t;rw[b8 p] at e;simp only[b9] at e;rw[e];cases hf:Ez C (Y.hp.getD b .dead) with
    | true=>
     rw[cond_true];have hi:I1 m b<Hc.length:=j6 (a3 b t).1 d4;rw[Xr hi];refine Cr6 (b4.blk _ hi) (b2 t hf) (λg G=>h4 g ?_) (λ_ h=>h) (λg G=>h4 g ?_)
     ·rintro rfl;exact(r1.ft _ (inΦ (.inr (.inr (.inl rfl))))).2 G
     ·rintro rfl;exact b7 _ _ G (inΦ (.inr (.inr (.inl rfl))))
    | false=>trivial
   ·have e:=b3 b t;have b5:b<H1.length:=by rw[<-a6];exact p
    rw[b8 p,b8 b5] at e;simp only[b9] at e;rw[e];have hB:=S5.hr.blk b b5;exact hB.mono Mf (a9 t) (λ_ _=>rfl) (λc u c7=>hB.ndead c u (g9 c c7))
 have g3:SR Γf H2 w4 (L6 (m++Bz C Y.hp 0) Y.sl) a.tmps:=S5.sr.mono Mf (λc u=>⟨(a1 c u).1,by rw[a6];exact j6 (a1 c u).2.1 d0⟩);have SF:SI C I Γf Φb { sl:=L6 (m++Bz C Y.hp 0) Y.sl,hp:=H2,s:=s' } a.tmps w4:=⟨i3,g3,S5.g,S5.inv,λb g p=>by
  rcases L p with⟨_,B⟩|⟨_,B⟩
  ·exact λq=>b7 _ g B (inΦ (.inl q))
  ·exact S5.dis b g B⟩
 have l4:=hs.size;have f7:Stp C Γ Y.hp w Z Γf H2 w4 Φb:=by
  refine⟨O.os.trans (hs.os.trans ho.1),O.tape.trans (hs.tape.trans ho.2.1),O.output.trans (hs.output.trans ho.2.2),by omega,λg G=>hs.sub g G,λg G=>?_,λb g p=>?_,λg G=>?_,λg G hn hp=>?_,rfl,by rw[a6];exact d0,λb p hf=>?_⟩
  ·rcases hs.stnew g G with q|q
   ·exact .inl q
   ·exact .inr (by omega)
  ·rcases L p with⟨p1,B⟩|⟨p1,B⟩
   ·rcases hs.own _ g B with⟨_,q⟩|q
    ·obtain⟨i1,i2⟩:=a7 q;rw[(a3 b p1).2] at i2;exact .inl ⟨a4 b p1,i2⟩
    ·exact .inr (by omega)
   ·rcases r1.pg.own b g B with⟨q,q'⟩|q
    ·exact .inl ⟨by rw[<-dl];exact q,(M q').2⟩
    ·exact .inr (by omega)
  ·rcases r1.pg.foot g G with q|q
   ·exact .inl q
   ·exact .inr (by omega)
  ·have np:¬ Φc g:=by
    rintro(q|⟨b,q⟩|q|q)
    ·exact hp q
    ·exact hn b (M q).2
    ·omega
    ·omega
   rw[h4 g (by omega),hs.frame g (by omega) (λb q=>by obtain⟨_,i2⟩:=a7 q;exact hn _ i2) np,a5 g G]
  ·by_cases t:b∈m
   ·have g5:=(LW (C:=C) (H:=Y.hp) p).2 hf;obtain⟨B,q2⟩:=a3 b t;have hi:I1 m b<(T4 Y.hp m).length:=by rw[f4];exact B
    have h5:A5 (T4 Y.hp m) (I1 m b)=A5 Y.hp b:=by rw[Qs a4 B,q2]
    obtain⟨k1,k2,k3⟩:=hs.keep _ hi (by show Kn C (A5 (T4 Y.hp m) _);rw[h5];exact hf);have k2:A5 Hc (I1 m b)=A5 (T4 Y.hp m) (I1 m b):=k2;have d7:((Γ.lent m).reyv y b1).nm (I1 m b)=Γ.nm b:=Yg t;refine⟨(b2 t g5).trans (k1.trans d7),?_,λg G=>?_⟩
    ·have c0:I1 m b<Hc.length:=j6 B d4;simp only[A5,e6 b t,g5,cond_true,ac5,RE,Xr c0];show some (Hc[I1 m b]).shp=A5 Y.hp b;rw[<-h5,<-k2];simp only[A5,b8 c0,ac5]
    ·have e1:=k3 g (d7.trans G);have f1:=S.hr.lt b g G;rw[F5 (h4 g (by omega)),e1,F5 (a5 g f1.2.1)]
   ·obtain⟨k1,k2,k3⟩:=r1.pg.keep b (by rw[dl];exact p) (by rw[c3 b t];exact hf);have hh:(Γ.hide m).nm b=Γ.nm b:=by simp only[Ctx.hide];rw[if_neg t]
    refine⟨(a9 t).trans (k1.trans hh),by rw[d8 b t,k2,c3 b t],λg G=>?_⟩;have f1:=S.hr.lt b g G;rw[F5 (h4 g (by omega)),k3 g (hh.trans G),F5 (a5 g f1.2.1)]
 have i4:Mk n0 Γf Φb w4 (mkD w.heap.size::a.defers):=by
  obtain⟨m0,Ds,m1,m2,m3⟩:=hM;refine⟨by omega,w.heap.size::Ds,by rw[m1];rfl,ak5.2 ⟨λg8=>?_,m2⟩,λD hD=>?_⟩
  ·have:=(m3 _ g8).2.1.1;omega
  ·rcases y9.1 hD with rfl|hD
   ·refine⟨m0,⟨by omega,(r1.ft _ (inΦ (.inr (.inr (.inr rfl))))).2,λb q=>?_,r1.od.2.2.2⟩,by rw[h4 _ (by omega)];exact r1.hd⟩;rcases L q with⟨_,B⟩|⟨_,B⟩
    ·exact b7 _ _ B (inΦ (.inr (.inr (.inr rfl))))
    ·exact r1.od.2.2.1 b B
   ·obtain⟨k1,k2,k3⟩:=m3 D hD;obtain⟨B,q2⟩:=k2.step f7;exact⟨k1,B,q2.trans k3⟩
 have c4:=hP (a2.getD .normal) { sl:=L6 (m++Bz C Y.hp 0) Y.sl,hp:=H2,s:=s' } { a with defers:=mkD w.heap.size::a.defers } w4 Γf Φb h f7 SF i4;refine⟨a2.map jmp,w4,d5,?_⟩;cases a2 with
 | none=>exact c4
 | some o=>
  cases o with
  | normal=>exact wpIn_skip c4
  | exit id=>exact wpIn_exit c4
  | ret=>exact wpIn_ret c4
theorem FO{n:Array Tmp}{d:List PV}{g c:Code}:∀(L:List (List PV)) (H:List Blk) (s:X) {k:Option Out->List Blk->X->Option R},Bi n d (λY k=>B3 C W J g Y k) (λY k=>B3 C W J c Y k) L H s k=some r->
  ∃H' b f,Ej (Kr n d (λY k=>B3 C W J g Y k) (λY k=>B3 C W J c Y k)) L (H,none,s)=some (H',b,f)/\k b H' f=some r
 | [],H,s,k,h=>⟨H,none,s,rfl,h⟩
 | x::xs,H,s,k,h=>by
  simp only[Bi] at h;split at h
  case isFalse=>cases h
  rename_i v;obtain⟨o,y,p,i⟩:=LV h;cases o with
  | exit id=>cases i
  | ret=>cases i
  | normal=>
  obtain⟨m,e,q,j⟩:=LV i;have l:Kr n d (λY k=>B3 C W J g Y k) (λY k=>B3 C W J c Y k) x (H,none,s)=some ((Ee m).isNone,((Z8 H.length e).hp,Ee m,e.s)):=by
   simp only[Kr];rw[if_pos v,RU p];dsimp only;rw[RU q]
  cases m with
  | normal=>
   obtain⟨H',b,f,t,u⟩:=FO xs _ _ j;refine⟨H',b,f,?_,u⟩;simp only[Ej,l];exact t
  | exit id=>exact⟨_,_,_,by simp only[Ej,l];rfl,j⟩
  | ret=>exact⟨_,_,_,by simp only[Ej,l];rfl,j⟩
theorem Ce0{n n0:Nat}{g:Operand}{G:Array Tmp}{q i:Code}{k:Out->St X->Option R}{Q:Exit->Act->World->Prop}(A:Ask C I W J K)(z:Γ.yv=K)(t:WP C I W J K q)(u:WP C I W J K i)
  (h:Vr C W (opnd C Y.sl g) Y (λp=>Kr G p (λY k=>B3 C W J q Y k) (λY k=>B3 C W J i Y k)) (λp=>Bi G p (λY k=>B3 C W J q Y k) (λY k=>B3 C W J i Y k)) k=some r) (S:SI C I Γ Z Y a.tmps w) (P:Mk n0 Γ Z w a.defers) (U:Dc4 C I n0 Γ Z Y.hp w k r Q) :
  (ak6 g G q i).wpIn (G9 none) n C.P Q a w:=by
 have hvn:=(S.opnd g).2;have hv:=(S.opnd g).1;unfold Vr at h;split at h
 case h_2=>cases h
 rename_i f first d o;obtain⟨FA,FB,a0,a1,a2,O⟩:=Tl o hv;have y:=FN Y.hp (C8 (first++d));have m:=TG Y.hp (C8 (first++d));have v:∀b∈Dg Y.hp (C8 (first++d)),b<Y.hp.length:=TF Y.hp (C8 (first++d)) (· < Y.hp.length) (λb D c F=>by
  have e:Y.hp.getD b .dead=Y.hp[b]:=by rw[j9,b8 D];rfl
  rw[e] at F;exact S.hr.nms b D c F) (λc F=>hvn c (O c F))
 generalize Dg Y.hp (C8 (first++d))=l at *;split at h
 ·rename_i pf hS;unfold Bg3 at h;split at h
  case isFalse=>cases h
  rename_i j;rw[j2] at j;split at h
  case h_2=>cases h
  rename_i cL L hL;obtain⟨rfl,h⟩:=C3 h;obtain⟨H',B,s',V,h2⟩:=FO L _ _ h;refine NR A A.hX.s z t u o y m v ?_ S P U;unfold Yz;rw[if_pos j.1];have M:(l.map λb=>(Y.hp.getD b .dead).rn (I1 l)).all MJ=true:=by
   rw[al7,o7];intro b D;have:=o7.1 j.2 b D;simp only[Function.comp];generalize Y.hp.getD b .dead=x at this;cases x<;>simp_all [MJ,Blk.rn]
  have e:clS C (List Blk × Option Out × X) (Kr G (L6 (l++Bz C Y.hp 0) Y.sl) (λY k=>B3 C W J q Y k) (λY k=>B3 C W J i Y k)) f (rnL (I1 l) first++PV.yd::rnL (I1 l) d) (l.map λb=>(Y.hp.getD b .dead).rn (I1 l)) (O7 l Y.hp,none,Y.s)=some (.tup [],(l.map λb=>(Y.hp.getD b .dead).rn (I1 l)).map Ld,(H',B,s')):=by
   simp only[clS,hS];rw[if_pos M,hL];simp only[V]
  rw[e];exact h2
 ·exact NR A A.hC z t u o y m v h S P U
end
section
variable {J R : Type} {r : R} {C : Cfg} {I : J -> (Nat -> Prop) -> (Nat -> Prop) -> World -> Prop} {Y : Ctx} {W : Nat -> Prop} {L : St J} {a : Act} {w : World} {Z : F6} {U : Yh J} {K : Value} {o : Oper} {H : List Blk}
theorem B71(A:Ask C I Z U K)(hm:C.P.follows .mixedOrders=true):∀(c:Code) {ro:Option Nat} {n n0:Nat} {rf:Bool} {R:Type} {r:R} {Y:Ctx} {W:Nat->Prop} {L:St J} {a:Act} {w:World} {k:Out->St J->Option R} {Q:Exit->Act->World->Prop},
  (rf=true->ro=none)->V4 C rf c=true->Y.yv=K->B3 C Z U c L k=some r->SI C I Y W L a.tmps w->Mk n0 Y W w a.defers->Dc4 C I n0 Y W L.hp w k r Q->c.wpIn (G9 ro) n C.P Q a w:=by
 intro c
 induction c with
 | skip=>intro ro n n0 rf R r Y W L a w k Q p b f h S B u;exact wpIn_skip (u .normal L a w Y W h (Stp.refl S.hr) S B)
 | label l=>intro ro n n0 rf R r Y W L a w k Q p b f h S B u;exact wpIn_label (u .normal L a w Y W h (Stp.refl S.hr) S B)
 | region id T d=>
  intro ro n n0 rf R r Y W L a w k Q p b f h S B u;cases d with
  | false=>
   have h:Ft C Z U T T.toList L (λq=>k .normal (Xq (C.keepR id) L.hp.length q))=some r:=by
    simp only[B3,Bh3] at h;split at h
    ·exact h
    ·cases h
   refine wpIn_region_list (Aa2 A T.toList f h S ?_);intro q G w' Γ' i v z D F;obtain⟨N,V,M⟩:=Th A.hI D z (C.keepR id) (o5 _);exact u .normal _ G w' N i v M V (by rw[F];exact B.step M)
  | true=>
   simp only[V4,Bool.not_true,al4] at b;refine Dm5 A hm b f h S ?_;intro q G w' Γ' i v z D F;obtain⟨N,V,M⟩:=Th A.hI D z (C.keepR id) (o5 _);exact u .normal _ G w' N i v M V (by rw[F];exact B.step M)
 | seq x y O P=>
  intro ro n n0 rf R r Y W L a w k Q p b f h S B u;simp only[V4,j2] at b;refine wpIn_seq (O p b.1 f h S B ?_);intro o q G w' Γ' i v z D F;cases o with
  | normal=>exact P p b.2 (z.yv.trans f) v D F λo2 a3 a2 w2 N Φ2 k1 k2 k3 k4=>u o2 a3 a2 w2 N Φ2 k1 (z.trans k2) k3 k4
  | exit id=>exact u (.exit id) q G w' Γ' i v z D F
  | ret=>exact u .ret q G w' Γ' i v z D F
 | cond c x y O P=>
  intro ro n n0 rf R r Y W L a w k Q p b f h S B u;simp only[V4,j2] at b;simp only[B3] at h;split at h
  ·rename_i t hc;have hv:=(S.opnd c).1;rw[hc] at hv;have hb:=hv.inv_bool;cases t with
   | true=>exact wpIn_cond hb (O p b.1 f h S B u)
   | false=>exact wpIn_cond hb (P p b.2 f h S B u)
  ·cases h
 | block id x ih=>
  intro ro n n0 rf R r Y W L a w k Q p b f h S B u;refine wpIn_block (ih p b f h S B ?_);intro o q G w' Γ' i v z D F;cases o with
  | normal=>exact u .normal q G w' Γ' i v z D F
  | exit j=>
   simp only[Out.exit',Exit.inBlock];dsimp only at v;split at v
   ·rename_i e;rw[if_pos e];exact u .normal q G w' Γ' i v z D F
   ·rename_i e;rw[if_neg e];exact u (.exit j) q G w' Γ' i v z D F
  | ret=>exact u .ret q G w' Γ' i v z D F
 | loop x ih=>
  intro ro n n0 rf R r Y W L a w k Q p b f h S B u;simp only[B3] at h;refine Bt0 (λm G w'=>∃q Γ' i,D0 L.hp.length (C.keep (Am1 x)) (λL k=>B3 C Z U x L k) m q k=some r/\Stp C Y L.hp w W Γ' q.hp w' i/\SI C I Γ' i q G.tmps w'/\Mk n0 Γ' i w' G.defers) C.lf ⟨_,Y,W,h,by rw[Ha];exact Stp.refl S.hr,Gz S _,B⟩ ?_;rintro m a1 w1 ⟨a4,Γ1,Φ1,v,z,D,F⟩;cases m with
  | zero=>simp[D0] at v
  | succ m=>
   simp only[D0] at v;refine ih p b (z.yv.trans f) v D F ?_;intro o q G w' Γ' i k1 k2 k3 k4;cases o with
   | normal=>
    obtain⟨N,V,M,X⟩:=Az0 A.hI k3 (z.trans k2);have a0:=Mk.sub k4 X;exact⟨m,Nat.lt_succ_self m,_,N,i,k1,by rw[Ha];exact M,Gz V _,a0⟩
   | exit j=>exact u (.exit j) _ G w' Γ' i k1 (by rw[Ha];exact z.trans k2) (Gz k3 _) k4
   | ret=>exact u .ret _ G w' Γ' i k1 (by rw[Ha];exact z.trans k2) (Gz k3 _) k4
 | exit id=>intro ro n n0 rf R r Y W L a w k Q p b f h S B u;exact wpIn_exit (u (.exit id) _ a w Y W h (by rw[Ha];exact Stp.refl S.hr) (Gz S _) B)
 | ret=>intro ro n n0 rf R r Y W L a w k Q p b f h S B u;exact wpIn_ret (u .ret _ a w Y W h (by rw[Ha];exact Stp.refl S.hr) (Gz S _) B)
 | scope x ih=>
  intro ro n n0 rf R r Y W L a w k Q p b f h S B u;refine Az8 (ih (Q:=λe a w=>(∀l,e≠.goto l)/\Q e a w) p b f h S B ?_);intro o q G w' Γ' i v z D F;exact⟨λl=>by cases o<;>simp[Out.exit'],u o q G w' Γ' i v z D F⟩
 | rangeFunc g ps x y O P=>
  intro ro n n0 rf R r Y W L a w k Q p b f h S B u;simp only[V4,j2] at b;obtain⟨⟨rfl,hx⟩,hy⟩:=b;obtain rfl:=p rfl;simp only[B3] at h;exact Ce0 A f (fun {R r ro n n0 Y W L a w k Q} v z D F h5=>O (rf:=false) (λh=>by cases h) hx v z D F h5) (fun {R r ro n n0 Y W L a w k Q} v z D F h5=>P (rf:=false) (λh=>by cases h) hy v z D F h5) h S B u
 | _=>intro ro n n0 rf R r Y W L a w k Q p b f h S B u;simp[B3] at h
end
section
variable {J R : Type} {r : R} {C : Cfg} {I : J -> (Nat -> Prop) -> (Nat -> Prop) -> World -> Prop} {L : Ctx} {Y : Nat -> Prop} {W : St J} {a : Act} {w : World} {O : F6} {K : Yh J} {Z : Value} {o : Oper} {H : List Blk}
def DR(b:Array Value):ResultVar->Sem Value
 | .tmp t=>pure (b.getD t undef)
 | .cell a t=>do loadVar t (<-asAddr (b.getD a undef))
theorem Bi3(fn:Func)(b:Array Value):results fn b=(fn.results.toList.mapM (DR b) >>= λl=>pure (if h:l.length=1 then l[0] else .tuple l.toArray)):=by
 unfold results;have:∀(c:Array ResultVar),(c.mapM (DR b) >>= λd=>(pure (if h:d.size=1 then d[0] else .tuple d):Sem Value))=(c.toList.mapM (DR b) >>= λl=>pure (if h:l.length=1 then l[0] else .tuple l.toArray)):=by
  intro c;rw[Array.mapM_eq_mapM_toList,map_eq_pure_bind,bind_assoc]
  congr 1
 exact this fn.results
theorem RY(S:SR L H w W.sl a.tmps)(t:Nat):VP L (A5 H) w (W.sl.getD t (.tup [])) (a.tmps.getD t undef)/\∀c∈(W.sl.getD t (.tup [])).nms,c<H.length:=by
 by_cases h:t<W.sl.length
 ·obtain⟨V,e,k⟩:=S.slot t h;have g:∀c∈(W.sl[t]).nms,c<H.length:=λc f=>S.nms c (C0.2 ⟨t,h,f⟩)
  simp_all
 ·have b:W.sl.getD t (.tup []) = .tup []:=by rw[j9,x7 (af9 h)];rfl
  have d:a.tmps.getD t undef=undef:=by rw[aa2,ab1 (by rw[S.size];exact af9 h)];rfl
  rw[b,d];exact⟨Cy,by simp[PV.nms,C8]⟩
def LR(L:Ctx)(sh:Nat->Option Shp)(w:World):List PV->List Value->Prop
 | [],[]=>True
 | v::r,V::q=>VP L sh w v V/\LR L sh w r q
 | _,_=>False
theorem LR.len{sh:Nat->Option Shp}:∀{l:List PV} {A:List Value},LR L sh w l A->A.length=l.length
 | [],[],_=>rfl
 | v::r,V::q,h=>by simp[LR.len h.2]
 | [],_::_,h=>h.elim
 | _::_,[],h=>h.elim
theorem LR.CR{sh:Nat->Option Shp}:∀{l:List PV} {A:List Value},LR L sh w l A->∀j (h:j<l.length),∃U,A[j]? = some U/\VP L sh w (l[j]) U
 | [],[],_,j,h=>by simp at h
 | v::r,V::q,h,0,_=>⟨V,rfl,h.1⟩
 | v::r,V::q,h,j+1,hj=>by
  obtain⟨U,e,k⟩:=LR.CR h.2 j (by simpa using hj);grind
 | [],_::_,h,_,_=>h.elim
 | _::_,[],h,_,_=>h.elim
theorem Di6{t:TypeId}{A V:Value}{w':World}(h:(ai4 t A).run C.P w' = .ok V w'):(do loadVar t (<-asAddr A):Sem Value).run C.P w' = .ok V w':=by
 simp only[ai4] at h;unfold ak7 at h;split at h
 ·exact h
 simp_all
theorem Vt(j:HR L H w)(S:SR L H w W.sl a.tmps):∀(n:List ResultVar) {k:List PV->Option R},GL C W.sl H n k=some r->
  ∃e d,k e=some r/\(n.mapM (DR a.tmps)).run C.P w = .ok d w/\LR L (A5 H) w e d/\∀c∈C8 e,c<H.length
 | [],k,h=>⟨[],[],h,by simp,trivial,by simp[C8]⟩
 | .tmp t::b,k,h=>by
  simp only[GL] at h;obtain⟨e,d,g,m,i,q⟩:=Vt j S b h;obtain⟨f,p⟩:=RY S t;refine⟨_,a.tmps.getD t undef::d,g,?_,⟨f,i⟩,λc l=>?_⟩
  ·rw[al0];simp only[DR,ae3,aj2,aa9,m]
  ·simp only[C8,y7] at l;grind
 | .cell x t::b,k,h=>by
  simp only[GL] at h;obtain⟨f,p⟩:=RY S x;obtain⟨v,u,A,V,z,y⟩:=FE j h f;obtain⟨e,d,g,m,i,q⟩:=Vt j S b u;refine⟨_,V::d,g,?_,⟨z,i⟩,λc l=>?_⟩
  ·rw[al0];have:=Di6 (y w (Ext.refl w));rw[show DR a.tmps (.cell x t)=(do loadVar t (<-asAddr (a.tmps.getD x undef)):Sem Value) from rfl];rw[ae3,this];simp_all
  ·simp only[C8,y7] at l;grind
theorem Ap9{b:List PV}{c:Nat}(h:c∈(Cq b).nms):c∈C8 b:=by
 unfold Cq at h;split at h
 ·simp[C8,h]
 ·exact h
theorem Dk4{f:List PV}{b:List Value}(h:LR L (A5 H) w f b):VP L (A5 H) w (Cq f) (if h:b.length=1 then b[0] else .tuple b.toArray):=by
 have c:=h.len;unfold Cq;split
 ·rename_i v;cases b with
  | nil=>simp at c
  | cons V q=>
   cases q with
   | nil=>exact h.1
   | cons _ _=>simp at c
 ·rename_i d;have:b.length≠1:=by
   intro e;rw[e] at c
   match f,c with
   | [v],_=>exact d v rfl
  rw[dif_neg this];refine VP.mk_tup (by simpa using c) λj g=>?_
  obtain⟨U,e,k⟩:=h.CR j g;grind
def Ow(C:Cfg):Prop:=∀ f fn c,C.okf f=true->C.P.funcs[f]? = some fn->fn.body=some c->Cs2 C c=true/\(fn.name == "runtime.NumGoroutine")=false
theorem Qf{f:Nat}{fn:Func}{c:Code}{d:Array Value}(g:C.P.funcs[f]? = some fn)(e:fn.body=some c)(h:(fn.name == "runtime.NumGoroutine")=false):(callFunc f d).run C.P w = .ok (.enter f d) w:=by
 have b:¬ fn.name = "runtime.NumGoroutine":=by simpa using h
 simp[callFunc,g,e,b,aa9]
theorem Dd2{args:List PV}{d:Array Value}{n:Nat}(e:CR L (A5 H) w args d)(i:∀c∈C8 args,c<H.length) :
  SR L H w (args++x8 (n-args.length) (.tup [])) (d++z7 (n-d.size) undef):=by
 have h:CR L (A5 H) w (x8 (n-args.length) (.tup [])) (z7 (n-d.size) undef):=⟨by simp[e.1],λj f=>by
  simp only[List.length_replicate] at f;refine⟨undef,by rw[e.1];simp[f],?_⟩;simp only[List.getElem_replicate];exact Cy⟩
 have g:=e.append h;refine⟨g.1,λc b=>?_,g.2⟩;rw[P2,y7] at b;rcases b with b|b
 ·exact i c b
 ·obtain⟨j,f,b⟩:=C0.1 b;simp[PV.nms,C8] at b
theorem Stp.put{Γ0 Γ':Ctx}{H0 H':List Blk}{w0 w':World}{Φ0 Φ':Nat->Prop}{D:Nat}{ob:Obj}(h:Stp C Γ0 H0 w0 Φ0 Γ' H' w' Φ')(hD:w0.heap.size<=D)(hO:Off Γ' Φ' w' D):Stp C Γ0 H0 w0 Φ0 Γ' H' (w'.putObj D ob) Φ':=by
 refine⟨h.os,h.tape,h.output,by rw[World.putObj_size];exact h.size,h.sub,h.stnew,h.own,h.foot,λg hg hn hp=>?_,h.yv,h.len,λb hb hf=>?_⟩
 ·rw[o9 (by omega)];exact h.frame g hg hn hp
 ·obtain⟨k1,k2,k3⟩:=h.keep b hb hf;refine⟨k1,k2,λg hg=>?_⟩;rw[<-k3 g hg];refine F5 (o9 ?_);rintro rfl;exact hO.2.2.1 b (k1.trans hg)
theorem Bz8{F:Fence}{n:Nat}{fn:Func}{l:Ending->World->Prop}{f Γ':Ctx}{k:List Blk}{j:World}{g c:Nat->Prop}{d:St J}{b:Array Value}(q:HI I)
  (t:∀w',SI C I Γ' c d b w'->Stp C f k j g Γ' d.hp w' c->∃V,(results fn b).run C.P w' = .ok V w'/\l (.returned V) w') :
  ∀(e:List Nat) (w:World),e.Nodup->(∀D∈e,j.heap.size<=D/\Off Γ' c w D/\w.heap[D]? = some (.deferred (some [])))->SI C I Γ' c d b w->Stp C f k j g Γ' d.hp w c->LeavesInM F n C.P fn b l (e.map mkD) .returning w
 | [],w,_,_,S,h=>t w S h
 | D::e,w,y,p,S,h=>by
  obtain⟨u,m,v⟩:=p D (by simp);refine⟨by simp,.inl ⟨D,w.putObj D (.deferred none),rfl,run_takeDeferred v,?_⟩⟩;have i:=ak5.1 y;refine Bz8 q t e _ i.2 (λE x=>?_) (S.offW q (Wp.put m)) (h.put u m);obtain⟨z,A,B⟩:=p E (by simp[x]);refine⟨z,A.put,(o9 ?_).trans B⟩;grind
theorem Li(hX:XOK C)(hO:Ow C)(hm:C.P.follows .mixedOrders=true):∀d,Ch C (evC C d)
 | 0=>λJ I K Z D hy g args H s ret j k h=>by simp[evC] at h
 | d+1=>λJ I K Z D hy g args H s ret j k h L Y w u S hH hg hi A G hn=>by
  have ih:=Li hX hO hm d;simp only[evC] at h;split at h
  ·rename_i fn P M;split at h
   ·rename_i c F;obtain⟨m,p⟩:=hO g fn c P M F;intro ro n o a next Q N
    rw[Qf M F p];simp only[ad3];refine⟨λh=>(by simp[G9,ac7] at h),?_⟩;have key:CallsIn ac7 (n-1) C.P g u w λe i=>∃V,e = .returned V/\Ev C I L H w Y ret j k V i:=by
     refine callsIn_of_wp_marks M F trivial ?_;have S0:SI C I L Y { sl:=args++x8 (fn.ntmps-args.length) (.tup []),hp:=H,s:=s } (u++z7 (fn.ntmps-u.size) undef) w:=⟨hH,Dd2 G hn,hg,hi,A⟩
     refine B71 (ro:=none) (rf:=true) (n:=n-1) (n0:=w.heap.size) (a:={ tmps:=u++z7 (fn.ntmps-u.size) undef,defers:=[] }) ⟨D,ih,hX,hy⟩ hm c (λ_=>rfl) m S h S0 (Mk.nil (o5 _)) ?_;intro o f y w' Γ' t T U q ⟨_,Ds,k4,k5,k6⟩
     suffices z:∀w',SI C I Γ' t f y.tmps w'->Stp C L H w Y Γ' f.hp w' t->GL C f.sl f.hp fn.results.toList (λv=>some (Cq v,f.hp,f.s))=some (ret,j,k)->∃V,(results fn y.tmps).run C.P w' = .ok V w'/\∃x,ak3 V = .returned x/\Ev C I L H w Y ret j k x w' by
      have l:GL C f.sl f.hp fn.results.toList (λv=>some (Cq v,f.hp,f.s))=some (ret,j,k)->LeavesInM (G9 none) (n-1) C.P fn y.tmps (λe i=>∃V,e = .returned V/\Ev C I L H w Y ret j k V i) y.defers .returning w':=λh=>by
       rw[k4];exact Bz8 D (λw' a b=>z w' a b h) Ds w' k5 k6 q U
      cases o with
      | normal=>exact l T
      | ret=>exact l T
      | exit id=>cases T
     intro w' q U;have z:∀(h:GL C f.sl f.hp fn.results.toList (λv=>some (Cq v,f.hp,f.s))=some (ret,j,k)),∃V,(results fn y.tmps).run C.P w' = .ok V w'/\∃x,ak3 V = .returned x/\Ev C I L H w Y ret j k x w':=λh=>by
      obtain⟨v,Us,X,h2,h3,h4⟩:=Vt q.hr q.sr _ h;simp only[b9,v8] at X;obtain⟨rfl,rfl,rfl⟩:=X;refine⟨_,?_,_,rfl,Γ',t,U,q.hr,Dk4 h3,λc G=>h4 c (Ap9 G),q.inv,q.dis⟩;rw[Bi3,ae3,h2];rfl
     omega
    have B:CallsIn (G9 ro) (n-1) C.P g u w λe i=>∃V,e = .returned V/\Ev C I L H w Y ret j k V i:=key
    refine B.mono ?_;grind
   ·cases h
  ·cases h
end
end
section
open Go Go.ChangeShapes Go.RowKit Go.WideShapes
inductive Ty where
 | bool
 | int (k:IntKind)
 | str
 | slice (e:List Ty)
 deriving Inhabited
def C66(P:Program)(f:Nat->Option (List Ty)):List Field->Nat->Option (List Ty)
 | [],_=>some []
 | x::r,off=>if x.offset==off then match f x.type with
   | some a=>if P.cellsOf x.type==a.length then match C66 P f r (off+a.length) with
    | some b=>some (a++b)
    | none=>none else none
   | none=>none else none
def Fm(P:Program):Nat->Nat->Option (List Ty)
 | 0,_=>none
 | d+1,t=>match P.underlying t with
  | some .bool=>some [.bool]
  | some (.int k)=>some [.int k]
  | some .string=>some [.str]
  | some (.slice e)=>match Fm P d e with
   | some a=>if P.cellsOf e==a.length&&decide (0<a.length) then some [.slice a] else none
   | none=>none
  | some (.struct b)=>match C66 P (Fm P d) b.toList 0 with
   | some r=>if P.cellsOf t==r.length then some r else none
   | none=>none
  | some (.array n e)=>match Fm P d e with
   | some a=>if P.cellsOf e==a.length&&P.cellsOf t==n*a.length then some (x8 n a).flatten else none
   | none=>none
  | _=>none
mutual
def Ty.of:Ty->SV->Prop
 | .bool,v=>∃b,v = .bool b
 | .int k,v=>∃n,v = .int k n/\k.min<=n/\n<=k.max
 | .str,v=>∃l,v = .str l/\l.length<=maxLen
 | .slice e,v=>v = .sl true false e.length []\/∃els,v = .sl false false e.length els/\els.length<=maxLen/\∀el∈els,Ty.ofL e el
def Ty.ofL:List Ty->List SV->Prop
 | [],l=>l=[]
 | t::r,l=>∃v q,l=v::q/\t.of v/\Ty.ofL r q
end
theorem Ty.ofL_len:∀{ts:List Ty} {l:List SV},Ty.ofL ts l->l.length=ts.length
 | [],l,h=>by simp only[Ty.ofL] at h;subst h;rfl
 | t::r,l,h=>by
  simp only[Ty.ofL] at h;obtain⟨v,q,rfl,_,hq⟩:=h;simp[Ty.ofL_len hq]
theorem Ty.ofL_append:∀{a b:List Ty} {x y:List SV},Ty.ofL a x->Ty.ofL b y->Ty.ofL (a++b) (x++y)
 | [],b,x,y,h,k=>by simp only[Ty.ofL] at h;subst h;exact k
 | t::r,b,x,y,h,k=>by
  simp only[Ty.ofL] at h;obtain⟨v,q,rfl,hv,hq⟩:=h;simp only[af2,Ty.ofL];exact⟨v,q++y,rfl,hv,Ty.ofL_append hq k⟩
def CVS(St:Nat->Prop)(w:World)(l:List SV)(A:List Value):Prop:=A.length=l.length/\∀j (h:j<l.length),∃U,A[j]? = some U/\VS St w (l[j]) U
theorem CVS.append{St:Nat->Prop}{w:World}{x y:List SV}{X Y:List Value}(hx:CVS St w x X)(hy:CVS St w y Y):CVS St w (x++y) (X++Y):=by
 refine⟨by simp[hx.1,hy.1],λj hj=>?_⟩;by_cases h:j<x.length
 ·obtain⟨U,e,k⟩:=hx.2 j h;exact⟨U,by rw[List.getElem?_append_left (by rw[hx.1];exact h)];exact e,by rw[aa7 h];exact k⟩
 ·obtain⟨U,e,k⟩:=hy.2 (j-x.length) (by simp at hj;omega);exact⟨U,by rw[List.getElem?_append_right (by rw[hx.1];omega),hx.1];exact e,by rw[List.getElem_append_right (by omega)];exact k⟩
theorem CVS.one{St:Nat->Prop}{w:World}{v:SV}{V:Value}(h:VS St w v V):CVS St w [v] [V]:=⟨rfl,λj hj=>by
 have:j=0:=by simpa using hj
 subst this;exact⟨V,rfl,h⟩⟩
theorem Ci9{w:World}{a:Addr}{V:Value}(h:w.cell? a=some V):a.spot=none/\a.block<w.heap.size:=by
 unfold ae9 at h;split at h
 ·rename_i c t e b;refine⟨?_,(o0.1 b).1⟩;cases d:a.spot with
  | none=>rfl
  | some x=>rw[d] at h;simp at h
 ·cases h
theorem Ai3{a:Addr}(h:a.spot=none)(n:Nat):a.add n=⟨a.block,a.off+n,none⟩:=by
 unfold Addr.add;split
 ·rename_i b;subst b;cases a;simp_all
 ·rfl
theorem Dc7{a:Addr}{m n:Nat}(h:a.spot=none):(a.add m).add n=⟨a.block,a.off+m+n,none⟩:=by rw[Ai3 h,Ai3 rfl]
theorem UB{H:Type}{enc:TypeId × Value->H}{P:Program}{w:World}{base:Nat}{sp:Nat->Bool}{held:Bool}{f:Nat->Option (List Ty)}{m:Nat}
  (q:∀t c g x,f t=some c->ac6 enc P w base sp held m t g=some x->∃d,Ty.ofL c d/\CVS (· < w.heap.size) w d g) (g:List Value) :
  ∀(n:List Field) (off:Nat) (c:List Ty),C66 P f n off=some c->(∀(i:Nat) (fl:Field),n[i]? = some fl->∃y,ac6 enc P w base sp held m fl.type ((g.drop fl.offset).take (P.cellsOf fl.type))=some y)->
   ∃d,Ty.ofL c d/\CVS (· < w.heap.size) w d ((g.drop off).take c.length)
 | [],off,c,h,_=>by
  simp only[C66,b9] at h;subst h;exact⟨[],rfl,by simp,λj F=>by simp at F⟩
 | x::r,off,c,h,k=>by
  simp only[C66] at h;split at h
  ·rename_i l;simp only[beq_iff_eq] at l;split at h
   ·rename_i a B;split at h
    ·rename_i o;simp only[beq_iff_eq] at o;split at h
     ·rename_i b C;simp only[b9] at h;subst h;obtain⟨y,p⟩:=k 0 x rfl;rw[l,o] at p;obtain⟨G,u,v⟩:=q _ _ _ _ B p;obtain⟨I,z,A⟩:=UB q g r _ b C (λi fl D=>k (i+1) fl (by simpa using D));refine⟨G++I,Ty.ofL_append u z,?_⟩;have:=v.append A;have e:(g.drop off).take (a++b).length=(g.drop off).take a.length++(g.drop (off+a.length)).take b.length:=by
       rw[x9,al5,ak9]
      rw[e];exact this
     ·cases h
    ·cases h
   ·cases h
  ·cases h
theorem Ai4{H:Type}{enc:TypeId × Value->H}{P:Program}{w:World}{base:Nat}{sp:Nat->Bool}{held:Bool}{e m:Nat}{a:List Ty}(c:List Value)
  (g:∀c x,ac6 enc P w base sp held m e c=some x->∃b,Ty.ofL a b/\CVS (· < w.heap.size) w b c) (f:P.cellsOf e=a.length) :
  ∀(n k:Nat),(∀i,k<=i->i<k+n->∃y,ac6 enc P w base sp held m e ((c.drop (i*P.cellsOf e)).take (P.cellsOf e))=some y)->
   ∃b,Ty.ofL (x8 n a).flatten b/\CVS (· < w.heap.size) w b ((c.drop (k*a.length)).take (n*a.length))
 | 0,k,_=>⟨[],by simp[Ty.ofL],by simp,λj r=>by simp at r⟩
 | n+1,k,hall=>by
  obtain⟨y,t⟩:=hall k (o5 _) (by omega);obtain⟨u,h,d⟩:=g _ _ t;obtain⟨v,l,o⟩:=Ai4 c g f n (k+1) (λi p q=>hall i (by omega) (by omega));rw[f] at d;refine⟨u++v,?_,?_⟩
  ·rw[List.replicate_succ,List.flatten_cons];exact Ty.ofL_append h l
  ·have:=d.append o;have e:(c.drop (k*a.length)).take ((n+1)*a.length)=(c.drop (k*a.length)).take a.length++(c.drop ((k+1)*a.length)).take (n*a.length):=by
    rw[show(n+1)*a.length=a.length+n*a.length by rw[ak1,ak2,al9],al5,ak9,show k*a.length+a.length=(k+1)*a.length by rw[ak1,ak2]]
   rw[e];exact this
theorem HP{H:Type}{enc:TypeId × Value->H}{P:Program}{w:World}{base:Nat}{sp:Nat->Bool}{held:Bool}:∀(n t:Nat) (q:List Ty) (m:Nat) (C:List Value) (x:DataW H × List MemPlace),Fm P n t=some q->
  ac6 enc P w base sp held m t C=some x->∃p,Ty.ofL q p/\CVS (· < w.heap.size) w p C
 | 0,t,q,m,C,x,h,_=>by simp[Fm] at h
 | n+1,t,q,m,C,x,h,hd=>by
  simp only[Fm] at h;split at h
  ·rename_i B;simp only[b9] at h;subst h;obtain⟨b,rfl,_⟩:=DataW.trod_bool B hd;exact⟨[.bool b],by simp[Ty.ofL,Ty.of],CVS.one (.bool b)⟩
  ·rename_i k B;simp only[b9] at h;subst h;obtain⟨b,rfl,_,S⟩:=DataW.trod_int B hd;simp only[Lit.wf,j2,decide_eq_true_eq] at S;exact⟨[.int k b],by simp[Ty.ofL,Ty.of,S],CVS.one (.int k b)⟩
  ·rename_i B;simp only[b9] at h;subst h;obtain⟨b,rfl,_,S⟩:=DataW.trod_string B hd;exact⟨[.str b.data.toList],by simpa[Ty.ofL,Ty.of] using S,CVS.one (.str b)⟩
  ·rename_i e B;split at h
   ·rename_i a V;split at h
    ·rename_i F;simp only[j2,beq_iff_eq,decide_eq_true_eq] at F;simp only[b9] at h;subst h;rcases DataW.trod_slice B hd with⟨rfl,_⟩|⟨g,len,cap,T,a1,Q,_,rfl,_,hb,hl,hm,G,D,_,_⟩
     ·exact⟨[.sl true false a.length []],by simp[Ty.ofL,Ty.of],CVS.one (.nil _ _)⟩
     ·have v:∀i,i<len->∃M d,w.cells? base (g.add (i*a.length)) a.length=some d/\Ty.ofL a M/\CVS (· < w.heap.size) w M d:=λi f=>by
       have u:=D i f;rw[b8 (by omega),F.1,Option.bind_eq_some_iff] at u;obtain⟨d,o,K⟩:=u;obtain⟨M,h4,h5⟩:=HP n e a Q d _ V K;exact⟨M,d,o,h4,h5⟩
      by_cases h0:len=0
      ·subst h0;exact⟨[.sl false false a.length []],by simp[Ty.ofL,Ty.of],CVS.one (.emp _ _ _ _ (by simp) hm)⟩
      ·let c:List (List SV):=(ae4 len).attach.map λi=>af1 (v i.1 (al1.1 i.2))
       have N:c.length=len:=by simp[c]
       have l:∀i (f:i<c.length),∃d,w.cells? base (g.add (i*a.length)) a.length=some d/\Ty.ofL a (c[i])/\CVS (· < w.heap.size) w (c[i]) d:=λi f=>by
        have z:i<len:=by omega
        have e:c[i]=af1 (v i z):=by simp[c]
        rw[e];exact ag6 (v i z)
       have A:g.spot=none/\g.block<w.heap.size:=by
        obtain⟨d,u,o,K⟩:=l 0 (by omega);obtain⟨_,Y,J⟩:=aj4 u;have:=J 0 F.2;rw[b8 (by omega)] at this;simp only[aj0,Addr.add,if_true] at this;exact Ci9 this
       have D:∀i (f:i<c.length),(c[i]).length=a.length:=λi f=>by
        obtain⟨d,u,o,K⟩:=l i f;exact Ty.ofL_len o
       have y:∀i (f:i<c.length) j (I:j<(c[i]).length),∃U,w.cell? ⟨g.block,g.off+i*a.length+j,none⟩=some U/\VS (· < w.heap.size) w (c[i][j]) U:=λi f j I=>by
        obtain⟨d,u,o,K⟩:=l i f;obtain⟨_,Y,J⟩:=aj4 u;have X:j<a.length:=by rw[<-D i f];exact I
        obtain⟨U,L,R⟩:=K.2 j I;refine⟨U,?_,R⟩;rw[<-L,<-J j X,Dc7 A.1]
       refine⟨[.sl false false a.length c],?_,CVS.one ?_⟩
       ·simp only[Ty.ofL,Ty.of];refine⟨_,[],rfl,.inr ⟨c,rfl,by omega,λM a0=>?_⟩,rfl⟩;obtain⟨i,f,rfl⟩:=List.getElem_of_mem a0;obtain⟨d,u,o,K⟩:=l i f;exact o
       ·have e:g=⟨g.block,g.off,none⟩:=by cases g;simp_all
        rw[e];refine .sl false c g.block g.off len cap a.length (λi j=>(w.cell? ⟨g.block,g.off+i*a.length+j,none⟩).getD undef) N.symm hl hm (by simp) A.2 D (λi f j I=>?_) (λi f j I=>?_)
        ·obtain⟨U,L,R⟩:=y i f j I;rw[L];rfl
        ·obtain⟨U,L,R⟩:=y i f j I;rw[L];exact R
    ·cases h
   ·cases h
  ·rename_i fs B;split at h
   ·rename_i r hr;split at h
    ·rename_i F;simp only[beq_iff_eq] at F;simp only[b9] at h;subst h;obtain⟨xs,Q,_,_,G,O,W⟩:=DataW.trod_struct B hd;obtain⟨p,u,o⟩:=UB (λt q C x=>HP n t q Q C x) C fs.toList 0 r hr (λi fl f=>by
      have z:fs[i]? = some fl:=by simpa using f
      have:=W i fl z;have Z:i<xs.length:=by rw[O];exact(o0.1 z).1
      rw[b8 Z] at this;exact⟨_,this⟩)
     refine⟨p,u,?_⟩;rw[ah2,ag0 (by omega)] at o;exact o
    ·cases h
   ·cases h
  ·rename_i k e B;split at h
   ·rename_i a V;split at h
    ·rename_i F;simp only[j2,beq_iff_eq] at F;simp only[b9] at h;subst h;obtain⟨xs,Q,_,_,G,O,W⟩:=DataW.trod_array B hd;obtain⟨p,u,o⟩:=Ai4 C (λC x=>HP n e a Q C x V) F.1 k 0 (λi _ f=>by
      have:=W i (by omega);rw[b8 (by omega)] at this;exact⟨_,this⟩)
     refine⟨p,u,?_⟩;rw[aj0,ah2,ag0 (by omega)] at o;exact o
    ·cases h
   ·cases h
  ·cases h
def Ox(P:Program)(t:Nat):Bool:=match P.underlying t with
 | some (.struct _)=>true
 | some (.array _ _)=>true
 | _=>false
def Te(P:Program)(t:Nat)(v:PV):Prop:=∃a l,Fm P 20 t=some a/\Ty.ofL a l/\((Ox P t=true/\v = .agg (l.map .s))\/(Ox P t=false/\∃x,l=[x]/\v = .s x))
def Ml(P:Program):List Nat->List PV->Prop
 | [],l=>l=[]
 | t::r,l=>∃v q,l=v::q/\Te P t v/\Ml P r q
theorem Te.nms{P:Program}{t:Nat}{v:PV}(h:Te P t v):v.nms=[]:=by
 obtain⟨tys,l,_,_,h⟩:=h;rcases h with⟨_,rfl⟩|⟨_,x,_,rfl⟩
 ·simp only[PV.nms];rw[x5];intro c hc;obtain⟨j,hj,hc⟩:=C0.1 hc;simp[PV.nms] at hc
 ·rfl
theorem Ml.nms{P:Program}:∀{ts:List Nat} {l:List PV},Ml P ts l->C8 l=[]
 | [],l,h=>by simp only[Ml] at h;subst h;rfl
 | t::r,l,h=>by
  simp only[Ml] at h;obtain⟨v,q,rfl,h1,h2⟩:=h;simp[C8,h1.nms,h2.nms]
section
variable {H : Type} {enc : TypeId × Value -> H} {P : Program} {w : World}
theorem Dk1{v:Value}{r:Reach}{b:Nat}{t:Nat}(e:Ox P t=false)(Pj:ac2 P w r b t v):∀a,v = .agg a->False:=by
 rintro a rfl;simp only[ac2,Cell.okWide] at Pj;unfold Ox at e;split at Pj
 ·grind
 ·grind
 ·revert Pj
  cases c:P.underlying t with
  | none=>simp[Cell.ok,c]
  | some d=>cases d<;>simp[Cell.ok,c]
theorem C03{Γ:Ctx}{sh:Nat->Option Shp}{sp:Nat->Bool}{held:Bool}{r:Reach}{b y t:Nat}{v:Value}{d:DataW H}{F:List MemPlace}(hΓ:∀g,g<w.heap.size->Γ.St g)(i:(Fm P 20 t).isSome=true)(Pj:ac2 P w r b t v)(A:DataW.Trod enc P w y sp held t v d F) :
  ∃u,Te P t u/\VP Γ sh w u v:=by
 obtain⟨c,p⟩:=w9.1 i;obtain⟨m,D⟩:=A;obtain⟨a,q,f⟩:=HP 20 t c m _ _ p D;have lift:∀{x:SV} {V:Value},VS (· < w.heap.size) w x V->VS Γ.St w x V:=λh=>h.mono (λ_ _=>rfl) hΓ
 cases n:Ox P t with
 | true=>
  refine⟨.agg (a.map .s),⟨c,a,p,q,.inl ⟨n,rfl⟩⟩,?_⟩;have:∃l,v = .agg l:=by
   unfold Ox at n;simp only[ac2] at Pj;grind
  obtain⟨l,rfl⟩:=this;simp only[Value.cells] at f;refine VP.mk_agg (by simpa using f.1) λj B=>?_
  have o:j<a.length:=by simpa using B
  obtain⟨U,e,k⟩:=f.2 j o;exact⟨U,by simpa using e,by rw[o8];exact .s _ _ (lift k)⟩
 | false=>
  have z:v.cells = #[v]:=by
   have:=Dk1 n Pj;cases v with
   | agg l=>exact(this l rfl).elim
   | _=>rfl
  rw[z] at f;have C:a.length=1:=by have:=f.1;simpa using this.symm
  obtain⟨x,rfl⟩:∃x,a=[x]:=by
   match a,C with
   | [x],_=>exact⟨x,rfl⟩
  obtain⟨U,e,k⟩:=f.2 0 (by simp);simp only[af3,b9] at e;subst e;exact⟨.s x,⟨c,[x],p,q,.inr ⟨n,x,rfl,rfl⟩⟩,.s _ _ (lift k)⟩
theorem TH{Γ:Ctx}{sh:Nat->Option Shp}{sp:Nat->Bool}{held:Bool}{r:Reach}{b x:Nat}(hΓ:∀g,g<w.heap.size->Γ.St g):∀(f:List Nat) (i:List Value) (ds:List (DataW H)) (n:List MemPlace),(∀t∈f,(Fm P 20 t).isSome=true)->(∀(j:Nat) t v,f[j]? = some t->i[j]? = some v->ac2 P w r b t v)->ad7 enc P w x sp held f i ds n->
  ∃a,Ml P f a/\i.length=a.length/\ds.length=f.length/\∀j (h:j<a.length),∃U,i[j]? = some U/\VP Γ sh w (a[j]) U
 | [],i,ds,n,_,_,h=>by
  obtain⟨rfl,rfl,_⟩:=trodAll_nil h;exact⟨[],rfl,rfl,rfl,λj l=>by simp at l⟩
 | t::f,i,ds,n,c,Pj,h=>by
  obtain⟨v,o,d,m,p,q,rfl,rfl,rfl,C,D⟩:=trodAll_cons h;obtain⟨u,I,J⟩:=C03 (Γ:=Γ) (sh:=sh) hΓ (c t (by simp)) (Pj 0 t v rfl rfl) C;obtain⟨a,y,z,A,B⟩:=TH (Γ:=Γ) (sh:=sh) hΓ f o m q (λt F=>c t (by simp[F])) (λj t v l G=>Pj (j+1) t v (by simpa using l) (by simpa using G)) D;refine⟨u::a,⟨u,a,rfl,I,y⟩,by simp[z],by simp[A],λj l=>?_⟩;cases j with
  | zero=>exact⟨v,rfl,J⟩
  | succ j=>
   obtain⟨U,e,k⟩:=B j (by simpa using l);grind
theorem KK(g:laidOutB P=true){w':World}{ts:List Nat}{vs:List Value}{ds:List (DataW H)}{ps:List MemPlace}:∀{ts:List Nat} {vs:List Value} {ds:List (DataW H)} {ps:List MemPlace},(∀t∈ts,P.readableRec t=true/\t<P.types.size)->ad7 enc P w 0 (λ_=>true) true ts vs ds ps->(∀x∈ps,w.sameAt w' x)->∀sp:Nat->Bool,(∀x∈ps,sp x.block=true)->
  ad7 enc P w' 0 sp true ts vs ds ps
 | [],vs,ds,ps,_,h,_,sp,_=>by
  obtain⟨rfl,rfl,rfl⟩:=trodAll_nil h;exact trodAll_mk0
 | t::ts,vs,ds,ps,e,h,i,sp,b=>by
  obtain⟨v,f,d,c,p,q,rfl,rfl,rfl,j,k⟩:=trodAll_cons h;refine⟨p,q,WideElems.Trod_stays g (e t (by simp)).1 (e t (by simp)).2 j (λx a=>i x (by simp[a])) (λx a=>b x (by simp[a])),KK g (w':=w') (ts:=ts) (vs:=f) (ds:=c) (ps:=q) (λt l=>e t (by simp[l])) k (λx a=>i x (by simp[a])) sp (λx a=>b x (by simp[a])),rfl⟩
theorem PP{f:Func}{s:ChangeSpec}{c fresh d k:Bool}{W m:World}{args:Array Value}{v:Value}{ds n:List (DataW H)}{a pa pv:List MemPlace}
  (u:am2 enc P f.params.toList s.vars c W args.toList ds n a)
  (i:∀(b:Nat) (sp:Nat->Bool) (B:Bool),ad7 enc P m b sp B f.resultTypes.toList (v.resultList f.resultTypes.size) (s.fn H (ds++n)).results [])
  (e:∀sp:Nat->Bool,(∀p∈a,sp p.block=true)->ad7 enc P m 0 sp true f.params.toList args.toList (s.fn H (ds++n)).args pa)
  (g:∀sp:Nat->Bool,(∀p∈a,sp p.block=true)->DataW.TrodVars enc P m sp s.vars (s.fn H (ds++n)).vars pv)
  (l:a=pa++pv) (z:Below W.heap.size W m)
  (y:∀(j:Nat) (t:TypeId) (r:Value),f.resultTypes[j]? = some t->(v.resultList f.resultTypes.size)[j]? = some r->ac2 P m .any 0 t r) :
  s.post enc P f c fresh d k W args v m:=by
 have h:∀p∈a,(λb=>decide (b<W.heap.size)) p.block=true:=λp o=>by simpa using u.lt p o
 refine⟨ds,n,a,[],pa,pv,u,i _ _ _,e _ h,g _ h,z.frame _,λ_=>?_⟩;have x:=u.lt;obtain⟨_,_,_,_,_,D,C⟩:=u;refine⟨y,_,_,([]++pa)++pv,⟨[]++pa,pv,trodAll_append (e _ (λ_ _=>rfl)) (i _ _ _),g _ (λ_ _=>rfl),rfl,?_,?_⟩,?_⟩
 ·intro b off o;have q:MemPlace.cell b off∈a:=by rw[l];simpa using o
  rw[z.frozen (x _ q)];exact D b off q
 ·intro A;have:=C A;rw[l] at this;simpa using this
 ·intro p o _;rw[l];simpa using o
end
theorem Br6{P:Program}{f:Nat}{a:Array Value}{w:World}{R:Value->World->Prop}(b:(callFunc f a).run P w = .ok (.enter f a) w)(h:R4 P ((callFunc f a).run P w) R):Calls P f a w λe w'=>∃V,e = .returned V/\R V w':=by
 rw[b] at h;have:=h none 1 { op:=.move (.const undef),dst:=some 0,guard:=none,type:=0,after:=#[],pos:=default } { tmps:=#[undef],defers:=[] } (λg w'=>∃V,g.tmps[0]? = some V/\R V w') (λ_ _ _=>False) (λV w' k=>⟨V,by simp[ai2],k⟩);rw[ad3] at this;have j:CallsIn ac7 0 P f a w _:=this.2;refine(callsIn_wide.1 j).mono λe w' d=>?_
 cases e with
 | returned v=>
  obtain⟨V,i,l⟩:=d;simp[ai2] at i;grind
 | panicked c=>exact d.elim
 | outgrown=>obtain⟨_,_,h⟩:=d;exact h.elim
def noY:Yh Unit:=λ_ _=>none
theorem Cs3{H:Type}{enc:TypeId × Value->H}{C:Cfg}{f R:Nat}{fn:Func}{c:Code}{s:ChangeSpec}{apart fresh handsOn again:Bool}(hX:XOK C)(hO:Ow C)(hm:C.P.follows .mixedOrders=true)(hl:laidOutB C.P=true)(I:C.P.funcs[f]? = some fn)(hb:fn.body=some c)(r:(fn.name == "runtime.NumGoroutine")=false)
  (Q:∀t∈fn.params.toList,(C.P.readableRec t=true/\t<C.P.types.size)/\(Fm C.P 20 t).isSome=true) (n:fn.resultTypes = #[R]) (a:C.P.underlying R=some .bool) (i:s.vars=[])
  (y:∀ds:List (DataW H),ds.length=fn.params.toList.length->s.fn H ds = { results:=[.lit (.bool true)],args:=ds })
  (G:∀args,Ml C.P fn.params.toList args->∃d D,evC C d Unit noY f args [] ()=some (.s (.bool true),D,()))
  (W:World) (Z:GOK C (· < W.heap.size) W) (base:Nat) (args:Array Value) (ds S:List (DataW H)) (l:List MemPlace)
  (Pj:∀(j:Nat) t v,fn.params[j]? = some t->args[j]? = some v->ac2 C.P W .any base t v)
  (O:am2 enc C.P fn.params.toList s.vars apart W args.toList ds S l) :
  Calls C.P f args W λe F=>∃v,e = .returned v/\s.post enc C.P fn apart fresh handsOn again W args v F:=by
 have o:=O;obtain⟨p,q,hA,hV,rfl,a0,a1⟩:=O;rw[i] at hV;obtain⟨rfl,rfl⟩:=trodVars_none hV;let Γ:Ctx:={ St:=(· < W.heap.size),nm:=λ_=>none,yv:=.nilFunc,yv1:=rfl }
 obtain⟨B,N,T,X,Y⟩:=TH (Γ:=Γ) (sh:=A5 []) (λ_ h=>h) fn.params.toList args.toList ds p (λt L=>(Q t L).2) (λj t v J M=>Pj j t v (by simpa using J) (by simpa using M)) hA;obtain⟨d,D,P⟩:=G B N;have hS:=Li hX hO hm d Unit I0 noY .nilFunc Cm8 Cm9 f B [] () _ D () P Γ noΦ W args rfl (Mr (λ_=>rfl) (λ_ h=>h)) Z (λ_ h=>h) (λb g h=>by cases h)
  ⟨by rw[<-ae0];exact T,λj J=>by obtain⟨U,e,k⟩:=Y j J;exact⟨U,by simpa using e,k⟩⟩ (by rw[N.nms];simp)
 refine(Br6 (Qf I hb r) hS).mono ?_;rintro e F ⟨V,rfl,Γ',Φ',z,hH,M,_⟩;have hV:=M.inv_bool;subst hV;have m:Below W.heap.size W F:=⟨z.os,z.tape,z.output,z.size,λk hk=>z.frame k hk (λb=>by simp[Γ]) (λx=>x)⟩
 simp only[aa1] at o;refine⟨_,rfl,?_⟩;have u:=y ds X;have K:=o.lt;refine PP (pa:=p) (pv:=[]) o (λb sp P=>?_) (λsp A=>?_) (λsp _=>?_) (by simp) m ?_
 ·rw[aa1,u,n];exact trodAll_cons_mk (shut_bool a _) trodAll_mk0
 ·rw[aa1,u];exact KK hl (w:=W) (ts:=fn.params.toList) (vs:=args.toList) (ds:=ds) (ps:=p) (λt L=>(Q t L).1) hA (λx hx=>m.same (K x hx)) sp A
 ·rw[aa1,u,i];rfl
 ·exact ok_one n rfl (okWide_bool_mk a _)
end
section
open Go
def B4(P:Program)(G:GT)(g:Nat)(pf:List PV->Tr):Prop:=
 ∀args ret c,M3 (pf args)=some (ret,c)->∀C:Cfg,C.P=P->C.G=G->∀a w d,(∀b,a.nm b=none)->HR a [] w->GOK C a.St w->CR a (A5 []) w args d->
  R4 P ((callFunc g d).run P w) (Ev C I0 a [] w noΦ ret c ())
theorem Rn{C₀:Cfg}{g:Nat}{pf:List PV->Tr}(y:XOK C₀)(x:Ow C₀)(B:C₀.P.follows .mixedOrders=true)
  (h:∀args ret c,M3 (pf args)=some (ret,c)->C8 args=[]/\∃d,evC C₀ d Unit noY g args [] ()=some (ret,c,())):B4 C₀.P C₀.G g pf:=by
 intro args ret c o C F f p w t n v u A;obtain⟨m,d,k⟩:=h args ret c o;have e:GOK C₀ p.St w:=u.congr f.symm;refine(Li y x B d Unit I0 noY p.yv Cm8 Cm9 g args [] () ret c () k p noΦ w t rfl v e (λ_ h=>h) (λb g h=>by rw[n] at h;cases h) A (by rw[m];simp)).mono ?_;rintro V w' ⟨q,r,a,i,D,hvn,l,j⟩;exact⟨q,r,⟨a.os,a.tape,a.output,a.size,a.sub,a.stnew,a.own,a.foot,a.frame,a.yv,a.len,λb z=>by simp at z⟩,i,D,hvn,l,j⟩
def Tr.snap:Tr->Tr
 | .ret v H=>cond (v.snap H).nms.isEmpty (.ret (v.snap H) []) .fail
 | .need c t=>.need c t.snap
 | .split c a b=>.split c a.snap b.snap
 | .fail=>.fail
theorem Tr.snap_res:∀{t:Tr} {v:PV} {H:List Blk},M3 t.snap=some (v,H)->∃v' H',M3 t=some (v',H')/\v=v'.snap H'/\H=[]/\v.nms=[]
 | .ret v' H',v,H,h=>by
  simp only[Tr.snap] at h;cases he:(v'.snap H').nms.isEmpty with
  | false=>rw[he] at h;cases h
  | true=>
   rw[he] at h;simp only[cond_true,M3,Iv,b9,v8] at h;obtain⟨rfl,rfl⟩:=h;exact⟨v',H',rfl,rfl,rfl,ac1.1 he⟩
 | .need c t,v,H,h=>by
  cases c with
  | true=>exact Tr.snap_res (t:=t) h
  | false=>cases h
 | .split c a b,v,H,h=>by
  cases c with
  | true=>exact Tr.snap_res (t:=a) h
  | false=>exact Tr.snap_res (t:=b) h
 | .fail,_,_,h=>by cases h
theorem B4.snap{P:Program}{G:GT}{g:Nat}{pf:List PV->Tr}(h:B4 P G g pf):B4 P G g (λargs=>(pf args).snap):=by
 intro args ret Hc hpf C hP hGe Γ w Vs hnm hH hG hc;obtain⟨ret',Hc',hpf',rfl,rfl,hnr⟩:=Tr.snap_res hpf;refine(h args ret' Hc' hpf' C hP hGe Γ w Vs hnm hH hG hc).mono ?_;rintro V w' ⟨Γ1,Φ1,hs,hH1,hv,hvn,hi1,hd1⟩;let Γ2:Ctx:={ Γ1.all with nm:=λ_=>none }
 have hlt:∀g,Γ2.St g->g<w'.heap.size:=λg hg=>by
  rcases hg with hg|⟨b,hb⟩
  ·exact hH1.stlt g hg
  ·exact(hH1.lt b g hb).2.1
 refine⟨Γ2,Φ1,⟨hs.os,hs.tape,hs.output,hs.size,λg hg=>.inl (hs.sub g hg),λg hg=>?_,λb g h=>by simp[Γ2] at h,hs.foot,hs.frame,hs.yv,o5 _,λb hb=>by simp at hb⟩,
  Mr (λ_=>rfl) hlt,?_,by rw[hnr];simp,hi1,λb g h=>by simp[Γ2] at h⟩
 ·rcases hg with hg|⟨b,hb⟩
  ·exact hs.stnew g hg
  ·rcases hs.own b g hb with⟨h',_⟩|h'
   all_goals grind
 ·exact VP.mono (Γ:=Γ1.all) (Γ':=Γ2) (w:=w') (w':=w') (sh:=A5 Hc') (ok:=λ_=>False) ⟨λ_ _=>rfl,λ_ h=>h,λ_ h=>h.elim,λ_ h=>h.elim,λ_ _ h=>h.elim,rfl⟩ (hv.snap hH1) (by rw[hnr];simp)
def Ay8:List (Nat × (List PV->Tr))->Nat->Option (List PV->Tr)
 | [],_=>none
 | (g,a)::r,n=>cond (w8 n g) (some a) (Ay8 r n)
def N7(P:Program)(G:GT):List (Nat × (List PV->Tr))->Prop
 | []=>True
 | (g,a)::r=>B4 P G g a/\N7 P G r
theorem N7.x1{C:Cfg}{l:List (Nat × (List PV->Tr))}(hl:C.X=Ay8 l)(h:N7 C.P C.G l):D87 C:=by
 intro g pf args ret Hc hg hpf Γ w Vs hnm hH hG hc;rw[hl] at hg;have key:∀l:List (Nat × (List PV->Tr)),N7 C.P C.G l->Ay8 l g=some pf->B4 C.P C.G g pf:=by
  intro l
  induction l with
  | nil=>intro _ h;cases h
  | cons e r ih=>
   intro h1 h2;obtain⟨n,q⟩:=e;simp only[Ay8] at h2;cases hb:w8 g n with
   | true=>
    rw[hb] at h2;simp only[cond_true,b9] at h2;have:=k9 hb;subst this;subst h2;exact h1.1
   | false=>
    rw[hb] at h2;exact ih h1.2 h2
 exact key l h hg args ret Hc hpf C rfl rfl Γ w Vs hnm hH hG hc
theorem LY{C a:Cfg}(h:C.P=a.P):Kn C=Kn a:=by
 funext s
 unfold Kn;split
 ·simp only[Nc,Cfg.sh,h]
 ·rfl
 ·rfl
theorem Stp.congr{C C':Cfg}(h:C.P=C'.P){Γ Γ':Ctx}{H H':List Blk}{w w':World}{Φ Φ':Nat->Prop}(s:Stp C Γ H w Φ Γ' H' w' Φ'):Stp C' Γ H w Φ Γ' H' w' Φ':=
 ⟨s.os,s.tape,s.output,s.size,s.sub,s.stnew,s.own,s.foot,s.frame,s.yv,s.len,λb hb hf=>s.keep b hb (by rw[LY h];exact hf)⟩
def EK(P:Program)(G:GT)(g:Nat)(j:List PV->List Blk->Tr):Prop:=
 ∀C:Cfg,C.P=P->C.G=G->∀(i:Type) (I:i->(Nat->Prop)->(Nat->Prop)->World->Prop) (k:Yh i) (h:Value),HI I->A37 P I k h->
  ∀args H s ret e,M3 (j args H)=some (ret,e)->∀a d w f,a.yv=h->HR a H w->GOK C a.St w->I s a.St d w->(∀b g,a.nm b=some g->¬d g)->CR a (A5 H) w args f->(∀c∈C8 args,c<H.length)->
   R4 P ((callFunc g f).run P w) (Ev C I a H w d ret e s)
def Bu3(P:Program)(G:GT)(g:Nat)(k:List PV->List Blk->Option (Bool × List (List PV))):Prop:=
 ∀C:Cfg,C.P=P->C.G=G->∀(j:Type) (I:j->(Nat->Prop)->(Nat->Prop)->World->Prop) (h:Yh j) (i:Value),HI I->A37 P I h i->
  ∀args H L s f,k args H=some (true,L)->H.all MJ=true->Ej h L s=some f->∀a d w e,a.yv=i->HR a H w->GOK C a.St w->I s a.St d w->(∀b g,a.nm b=some g->¬d g)->CR a (A5 H) w args e->(∀c∈C8 args,c<H.length)->
   R4 P ((callFunc g e).run P w) (Ev C I a H w d (.tup []) (H.map Ld) f)
theorem Cr7{C o:Cfg}{σ:Type}{I:σ->(Nat->Prop)->(Nat->Prop)->World->Prop}{S:Ctx}{H B:List Blk}{w w':World}{Φ:Nat->Prop}{s':σ}{V:Value}(hP:o.P=C.P)(hb:H.all MJ=true)(hH:HR S H w)(h:Ev o I S H w Φ (.tup []) B s' V w'):Ev C I S H w Φ (.tup []) (H.map Ld) s' V w':=by
 obtain⟨n,T,l,G,k2,k3,k4,k5⟩:=h;have z:∀b g,(if b<H.length then n.nm b else none)=some g->b<H.length/\n.nm b=some g:=λb g h=>by grind
 have p:(H.map Ld).length=H.length:=y5 _;refine⟨{ n with nm:=λb=>if b<H.length then n.nm b else none },T,⟨l.os,l.tape,l.output,l.size,l.sub,l.stnew,λb g v=>l.own b g (z b g v).2,l.foot,l.frame,l.yv,by rw[p];exact o5 _,λb f hf=>?_⟩,
  ⟨λb U g K M=>G.inj b U g (z b g K).2 (z U g M).2,λb g v=>?_,G.stlt,λb f c Y=>?_,λb f=>?_⟩,?_,by simp[PV.nms,C8],k4,λb g v=>k5 b g (z b g v).2⟩
 ·obtain⟨Z,Q,R⟩:=l.keep b f (by rw[LY hP];exact hf);refine⟨by simp only;rw[if_pos f];exact Z,?_,R⟩;simp only[A5,ab7];cases H[b]? with
  | none=>rfl
  | some x=>exact congrArg some (RE x)
 ·obtain⟨q1,q2⟩:=z b g v;have:=G.lt b g q2;grind
 ·rw[o8,RD] at Y;simp at Y
 ·rw[p] at f;rw[o8];have k:=o7.1 hb _ (j8 f);have X:=hH.blk b f;cases r:H[b] with
  | box cells=>
   rw[r] at X;obtain⟨g,a0,e,K,M,W,_⟩:=X;obtain⟨Z,Q,R⟩:=l.keep b f (by simp only[A5,b8 f,r];exact trivial);have y:b<B.length:=j6 f l.len;have u:=G.blk b y;have i:(B[b]).shp = .box:=by
    simp only[A5,b8 f,b8 y,ac5,b9] at Q;rw[Q,r];rfl
   cases F:B[b] with
   | box D=>
    rw[F] at u;obtain⟨J,m,e',L,t,a1,a2⟩:=u;have N:J=g:=by grind
    subst N;have q:=R J K;simp only[aj5,M,t,b9,v8] at q;refine⟨J,m,e',by simp only;rw[if_pos f];exact L,t,by rw[q.2,W];simp,λj O=>?_⟩;have P:j<m.size:=by rw[q.2,W];simpa using O
    exact⟨m[j],aa3 P,by rw[o8];exact .bad _⟩
   | arr a b c d=>rw[F] at i;cases i
   | iter a b=>rw[F] at i;cases i
   | dead=>rw[F] at i;cases i
  | arr a b c d=>rw[r] at k;cases k
  | iter a b=>rw[r] at k;cases k
  | dead=>rw[r] at k;cases k
 ·obtain⟨A,rfl,hA,a3⟩:=k2.inv_tup;exact VP.mk_tup hA λj O=>by simp at O
theorem Aw9{C₀:Cfg}{g:Nat}{n:List PV->List Blk->Option (Bool × List (List PV))}(u:XOK C₀)(r:Ow C₀)(A:C₀.P.follows .mixedOrders=true)
  (h:∀args H L,n args H=some (true,L)->∀(a:Type) (f:Yh a) (s e:a),Ej f L s=some e->∃d i,evC C₀ d a f g args H s=some (.tup [],i,e)):Bu3 C₀.P C₀.G g n:=by
 intro C t p a I f G q F args H L s e k v c J K w o l m y z b x B;obtain⟨d,i,j⟩:=h args H L k a f s e c;exact(Li u r A d a I f G q F g args H s _ i e j J K w o l m (y.congr p.symm) z b x B).mono λV w' D=>Cr7 t.symm v m D
def Rf{a:Type}:List (Nat × a)->Nat->Option a
 | [],_=>none
 | (g,b)::r,n=>cond (w8 n g) (some b) (Rf r n)
theorem OR{b:Type}:∀{l:List (Nat × b)} {g:Nat} {a:b},Rf l g=some a->(g,a)∈l
 | [],_,_,h=>by cases h
 | (n,q)::r,g,a,h=>by
  simp only[Rf] at h;cases c:w8 g n with
  | true=>
   simp_all
  | false=>
   rw[c] at h;exact ah3 _ (OR h)
def Pt(P:Program)(G:GT):List (Nat × (List PV->List Blk->Tr))->Prop
 | []=>True
 | (g,a)::r=>EK P G g a/\Pt P G r
def Pm(P:Program)(G:GT):List (Nat × (List PV->List Blk->Option (Bool × List (List PV))))->Prop
 | []=>True
 | (g,a)::r=>Bu3 P G g a/\Pm P G r
theorem Pt.mem{P:Program}{G:GT}:∀{l:List (Nat × (List PV->List Blk->Tr))} {g:Nat} {pf:List PV->List Blk->Tr},Pt P G l->(g,pf)∈l->EK P G g pf
 | [],_,_,_,hm=>by simp at hm
 | (n,q)::r,g,pf,h,hm=>by
  rcases y9.1 hm with e|hm
  ·cases e;exact h.1
  ·exact Pt.mem h.2 hm
theorem Pm.mem{P:Program}{G:GT}:∀{l:List (Nat × (List PV->List Blk->Option (Bool × List (List PV))))} {g:Nat} {pf:List PV->List Blk->Option (Bool × List (List PV))},Pm P G l->(g,pf)∈l->Bu3 P G g pf
 | [],_,_,_,hm=>by simp at hm
 | (n,q)::r,g,pf,h,hm=>by
  rcases y9.1 hm with e|hm
  ·cases e;exact h.1
  ·exact Pm.mem h.2 hm
theorem Pt.ok{C:Cfg}{l:List (Nat × (List PV->List Blk->Tr))}(hl:C.Y=Rf l)(h:Pt C.P C.G l):Ch C (clY C):=by
 intro σ I yh yv hI hy g args H s ret Hc s' hcl Γ Φ w Vs hyv hH hg hi hd hc hn;simp only[clY,hl] at hcl;split at hcl
 ·rename_i pf hpf;split at hcl
  ·rename_i r' h' hr;simp only[b9,v8] at hcl;obtain⟨rfl,rfl,rfl⟩:=hcl;exact h.mem (OR hpf) C rfl rfl σ I yh yv hI hy args H s _ _ hr Γ Φ w Vs hyv hH hg hi hd hc hn
  grind
 ·cases hcl
theorem Pm.ok{C:Cfg}{l:List (Nat × (List PV->List Blk->Option (Bool × List (List PV))))}(hl:C.S=Rf l)(h:Pm C.P C.G l):Ch C (clS C):=by
 intro σ I yh yv hI hy g args H s ret Hc s' hcl Γ Φ w Vs hyv hH hg hi hd hc hn;simp only[clS,hl] at hcl;split at hcl
 ·rename_i pf hpf;split at hcl
  ·rename_i hb;split at hcl
   ·rename_i L hL;split at hcl
    ·rename_i s2 hr;simp only[b9,v8] at hcl;obtain⟨rfl,rfl,rfl⟩:=hcl;exact h.mem (OR hpf) C rfl rfl σ I yh yv hI hy args H L s _ hL hb hr Γ Φ w Vs hyv hH hg hi hd hc hn
    grind
   grind
  grind
 ·cases hcl
theorem Wo{C:Cfg}{lx:List (Nat × (List PV->Tr))}{ly:List (Nat × (List PV->List Blk->Tr))}{ls:List (Nat × (List PV->List Blk->Option (Bool × List (List PV))))}(a:C.X=Ay8 lx)(b:C.Y=Rf ly)(c:C.S=Rf ls)(x:N7 C.P C.G lx)(y:Pt C.P C.G ly)(s:Pm C.P C.G ls)(d:C.Z=Rf []:=by rfl):XOK C:=
 ⟨N7.x1 a x,Pt.ok b y,Pm.ok c s,λg e h=>by rw[d] at h;cases h⟩
theorem N7.ok{C:Cfg}{l:List (Nat × (List PV->Tr))}(hl:C.X=Ay8 l)(h:N7 C.P C.G l)(h2:C.Y=Rf []:=by rfl)(h3:C.S=Rf []:=by rfl)(h4:C.Z=Rf []:=by rfl):XOK C:=
 Wo hl h2 h3 h trivial trivial h4
def okL:List Nat->Nat->Bool
 | [],_=>false
 | a::r,n=>w8 n a||okL r n
def Bd3(C:Cfg)(l:List Nat):Bool:=l.all λf=>match C.P.funcs[f]? with
 | some fn=>match fn.body with
  | some c=>Cs2 C c && !(fn.name == "runtime.NumGoroutine")
  | none=>true
 | none=>true
theorem J1{C:Cfg}{l:List Nat}(d:C.okf=okL l)(h:Bd3 C l=true):Ow C:=by
 intro f fn c b g e;have key:∀l:List Nat,okL l f=true->f∈l:=by
  intro l
  induction l with
  | nil=>intro h;cases h
  | cons a r j=>
   intro h;simp only[okL,aa0] at h;rcases h with h|h
   all_goals simp_all
 have i:f∈l:=key l (by rw[<-d];exact b);simp only[Bd3,o7] at h;grind
def cd:List Nat->Code->Code
 | [],c=>c
 | 0::p,.seq a _=>cd p a
 | 1::p,.seq _ b=>cd p b
 | 0::p,.cond _ a _=>cd p a
 | 1::p,.cond _ _ b=>cd p b
 | 0::p,.block _ a=>cd p a
 | 0::p,.loop a=>cd p a
 | 0::p,.scope a=>cd p a
 | 0::p,.rangeFunc _ _ a _=>cd p a
 | 1::p,.rangeFunc _ _ _ b=>cd p b
 | _,_=>.skip
def G6:List Nat->Code->Code->Code
 | [],b,_=>b
 | 0::p,b,.seq x y=>.seq (G6 p b x) y
 | 1::p,b,.seq x y=>.seq x (G6 p b y)
 | 0::p,b,.cond c x y=>.cond c (G6 p b x) y
 | 1::p,b,.cond c x y=>.cond c x (G6 p b y)
 | 0::p,b,.block id x=>.block id (G6 p b x)
 | 0::p,b,.loop x=>.loop (G6 p b x)
 | 0::p,b,.scope x=>.scope (G6 p b x)
 | 0::p,b,.rangeFunc g a x y=>.rangeFunc g a (G6 p b x) y
 | 1::p,b,.rangeFunc g a x y=>.rangeFunc g a x (G6 p b y)
 | _,_,c=>c
def C6(f:Func):Code:=f.body.getD .skip
section
variable {Y R : Type}
def bd(C:Cfg)(a:F6)(d:Yh Y)(c:Code):St Y->(Out->St Y->Option R)->Option R:=λb k=>B3 C a d c b k
def E0(C:Cfg)(c:F6)(d:Yh Y)(b:Code)(k:Out->St Y->Option R):Out->St Y->Option R:=λo a=>match o with
 | .normal=>B3 C c d b a k
 | o=>k o a
def E1(id:Nat)(k:Out->St Y->Option R):Out->St Y->Option R:=λo a=>match o with
 | .exit j=>if j=id then k .normal a else k (.exit j) a
 | o=>k o a
def F3(C:Cfg)(fn:Func):Out->St Y->Option (PV × List Blk × Y):=λo a=>match o with
 | .normal=>GL C a.sl a.hp fn.results.toList λb=>some (Cq b,a.hp,a.s)
 | .ret=>GL C a.sl a.hp fn.results.toList λb=>some (Cq b,a.hp,a.s)
 | _=>none
def lpK(L:Nat)(ds:Option (List Nat))(a:St Y->(Out->St Y->Option R)->Option R)(n:Nat)(k:Out->St Y->Option R):Out->St Y->Option R:=λo b=>match o with
 | .normal=>D0 L ds a n (Nf ds (Z8 L b)) k
 | o=>k o (Nf ds b)
end
theorem D01{C:Cfg}{d f:Nat}{fn:Func}{e:Type}{g:Yh e}{args:List PV}{H:List Blk}{s:e}(i:C.P.funcs[f]? = some fn)(h:C.okf f=true)(a:fn.body=some (C6 fn)) :
  evC C (d+1) e g f args H s=B3 C (evC C d) g (C6 fn) { sl:=args++x8 (fn.ntmps-args.length) (.tup []),hp:=H,s:=s } (F3 C fn):=by
 simp only[evC,h,i];split
 ·rename_i c b;rw[b] at a;simp only[b9] at a;rw[<-a];rfl
 ·rename_i b;rw[b] at a;cases a
theorem evE{C:Cfg}{d f:Nat}{fn:Func}{a:Type}{b:Yh a}{args:List PV}{H:List Blk}{s:a}(h:(C.P.funcs[f]?,C.okf f,fn.body)=(some fn,true,some (C6 fn))) :
  evC C (d+1) a b f args H s=B3 C (evC C d) b (C6 fn) { sl:=args++x8 (fn.ntmps-args.length) (.tup []),hp:=H,s:=s } (F3 C fn):=by
 simp only[v8] at h;exact D01 h.1 h.2.1 h.2.2
def Kl:List Nat->List Blk->List Blk
 | [],H=>H
 | i::r,H=>Kl r (H.set i .dead)
def A74(a:List Nat)(ret:PV)(H:List Blk):Bool:=a.all λi=>!(ret.nms.contains i)&&(Kl a H).all λb=>!(b.nms.contains i)
theorem ES:∀(b:List Nat) (H:List Blk),(Kl b H).length=H.length/\∀i (h:i<(Kl b H).length) (c:i<H.length),(i∈b/\(Kl b H)[i] = .dead)\/(i∉b/\(Kl b H)[i]=H[i])
 | [],H=>⟨rfl,λi h c=>.inr ⟨by simp,rfl⟩⟩
 | a::r,H=>by
  obtain⟨d,e⟩:=ES r (H.set a .dead);simp only[Kl];grind
theorem Ev.dead{C:Cfg}{Γ:Ctx}{w w':World}{ret:PV}{Hc:List Blk}{V:Value}{idx:List Nat}(h:Ev C I0 Γ [] w noΦ ret Hc () V w')(hok:A74 idx ret Hc=true):Ev C I0 Γ [] w noΦ ret (Kl idx Hc) () V w':=by
 obtain⟨Γ1,Φ1,hs,hH1,hv,hvn,hi1,hd1⟩:=h;obtain⟨hl,hsp⟩:=ES idx Hc;simp only[A74,o7,j2,ab6,List.contains_iff_mem,<-aj7] at hok;let Γ2:Ctx:={ Γ1 with nm:=λb=>if b∈idx then none else Γ1.nm b }
 have hnm:∀b g,Γ2.nm b=some g->b∉idx/\Γ1.nm b=some g:=λb g h=>by
  simp only[Γ2] at h;split at h
  ·cases h
  ·exact⟨‹_›,h⟩
 have M:Ax Γ1 (A5 Hc) w' Γ2 (A5 (Kl idx Hc)) w' (·∉idx):=⟨λ_ _=>rfl,λ_ h=>h,λb hb=>by simp only[Γ2];rw[if_neg hb],λb hb=>by
  simp only[A5];by_cases hlt:b<Hc.length
  ·rcases hsp b (by omega) hlt with⟨q,_⟩|⟨_,q⟩
   ·exact absurd q hb
   ·rw[b8 (by omega),b8 hlt,q]
  ·rw[x7 (by omega),x7 (by omega)],λ_ _ _ _=>rfl,rfl⟩
 refine⟨Γ2,Φ1,⟨hs.os,hs.tape,hs.output,hs.size,hs.sub,hs.stnew,λb g h=>hs.own b g (hnm b g h).2,hs.foot,hs.frame,hs.yv,Nat.zero_le _,λb hb=>by simp at hb⟩,
  ⟨λb b' g h1 h2=>hH1.inj b b' g (hnm b g h1).2 (hnm b' g h2).2,λb g h=>by have:=hH1.lt b g (hnm b g h).2;rw[hl];exact this,hH1.stlt,λb hb c hc=>?_,λb hb=>?_⟩,
  hv.mono M (λb hb hi=>by have:=(hok b hi).1;exact this hb),λc hc=>by rw[hl];exact hvn c hc,hi1,λb g h=>hd1 b g (hnm b g h).2⟩
 ·have hlt:b<Hc.length:=by omega
  rcases hsp b hb hlt with⟨_,q⟩|⟨_,q⟩
  ·rw[q] at hc;simp[Blk.nms] at hc
  ·rw[q] at hc;rw[hl];exact hH1.nms b hlt c hc
 ·have hlt:b<Hc.length:=by omega
  rcases hsp b hb hlt with⟨_,q⟩|⟨q0,q⟩
  ·rw[q];trivial
  ·rw[q];refine(hH1.blk b hlt).mono M (M.nm b q0) (λ_ _=>rfl) (λc hc hi=>?_);have:=(hok c hi).2 _ (j8 hb);rw[q] at this;exact this hc
theorem Cz{C₀:Cfg}{g:Nat}{pf:List PV->Tr}(y:XOK C₀)(u:Ow C₀)(B:C₀.P.follows .mixedOrders=true)
  (h:∀args ret i,M3 (pf args)=some (ret,i)->C8 args=[]/\∃d e c,evC C₀ d Unit noY g args [] ()=some (ret,e,())/\A74 c ret e=true/\Kl c e=i):B4 C₀.P C₀.G g pf:=by
 intro args ret i f C v j D w o m t q z;obtain⟨l,d,e,c,k,A,rfl⟩:=h args ret i f;have p:=Rn (C₀:=C₀) (g:=g) (pf:=λa=>match M3 (pf a) with|some _=>(match evC C₀ d Unit noY g a [] () with|some (r,H,_)=>cond (C8 a).isEmpty (.ret r H) .fail|none=>.fail)|none=>.fail) y u B (λa r H b=>by
  split at b
  ·split at b
   ·rename_i G H' _ F;cases n:(C8 a).isEmpty with
    | true=>
     rw[n] at b;simp only[cond_true,M3,Iv,b9,v8] at b;grind
    | false=>rw[n] at b;cases b
   ·cases b
  ·cases b)
 refine(p args ret e ?_ C v j D w o m t q z).mono λV w' x=>x.dead A
 dsimp only;rw[f];dsimp only;rw[k];dsimp only;rw[l];rfl
theorem Ag1{C₀:Cfg}{g:Nat}{pf:List PV->Tr}(y:XOK C₀)(v:Ow C₀)(A:C₀.P.follows .mixedOrders=true)
  (h:∀args ret f,M3 (pf args)=some (ret,f)->C8 args=[]/\f=[]/\ret.nms=[]/\∃d b e,evC C₀ d Unit noY g args [] ()=some (b,e,())/\b.snap e=ret):B4 C₀.P C₀.G g pf:=by
 intro args ret f n C x i B w p l u t z;obtain⟨k,rfl,m,d,b,e,j,rfl⟩:=h args ret f n;have q:=Rn (C₀:=C₀) (g:=g) (pf:=λa=>match evC C₀ d Unit noY g a [] () with|some (r,H,_)=>cond (C8 a).isEmpty (.ret r H) .fail|none=>.fail) y v A (λa r H c=>by
  split at c
  ·rename_i F H' _ D;cases o:(C8 a).isEmpty with
   | true=>
    rw[o] at c;simp only[cond_true,M3,Iv,b9,v8] at c;grind
   | false=>rw[o] at c;cases c
  ·cases c)
 refine q.snap args (b.snap e) [] ?_ C x i B w p l u t z;dsimp only;rw[j];dsimp only;rw[k];simp only[List.isEmpty_nil,cond_true,Tr.snap,m];rfl
section
variable {L R : Type} {C : Cfg} {Q : F6} {W : Yh L} {c a b : Code} {Y : St L} {k : Out -> St L -> Option R} {id : Nat}
theorem A0{b:Bool}{x y d e:Option R}(f:x=d)(g:y=e):cond b x y=cond b d e:=by rw[f,g]
end
def C04{α:Type}(z:α)(f:Nat->α->α):Nat->α
 | 0=>z
 | n+1=>f n (C04 z f n)
def A2{b:Type}:List (Nat × b)->Nat->Option b
 | [],_=>none
 | (a,l)::r,n=>cond (w8 n a) (some l) (A2 r n)
def bds(n:Nat):List PV:=x8 n .bad
def tps(n:Nat):List PV:=x8 n (.tup [])
def gp:List (Nat × PV)->Nat->List PV
 | [],n=>bds n
 | (m,v)::r,n=>bds m++v::gp r n
abbrev LL:=List (List SV)
abbrev By:=List UInt8
def A1(n:Int):Int:=x3 .i64 n
def D50(n:Int):Int:=x3 .u64 n
def EH(n:Int):Int:=x3 .u32 n
def Em(n:Int):Int:=x3 .u16 n
def wu8(n:Int):Int:=x3 .u8 n
def A41(k:IntKind)(a b:Int):Int:=k.wrap (ab2 k.bits a &&& ab2 k.bits b).toNat
def bOr(k:IntKind)(a b:Int):Int:=k.wrap (ab2 k.bits a ||| ab2 k.bits b).toNat
def Tc(k:IntKind)(a b:Int):Int:=k.wrap (a*2 ^ min b.toNat k.bits)
def Pl(k:IntKind)(a b:Int):Int:=a.fdiv (2 ^ min b.toNat k.bits)
def inR(n:Int)(m:Nat):Bool:=decide (0<=n)&&decide (n<m)
def Mh:TI:=⟨true,false,[.int .i64]⟩
def Ol:TI:=⟨true,false,[.str]⟩
def okE(t:TI)(l:LL)(i o:Nat):Bool:=decide (i<l.length)&&okS t (l.getD i []) o
def gC(l:LL)(i j:Nat):SV:=(l.getD i []).getD j .nilp
def gE(l:LL)(i j:Nat):Int:=(gC l i j).gI
def gX(l:LL)(i j:Nat):By:=(gC l i j).gS
def bAt(s:By)(n:Int):Int:=((s.getD n.toNat 0).toNat:Int)
def I9(l h:Int)(n:Nat):Bool:=decide (0<=l)&&decide (l<=h)&&decide (h<=n)
def cut{a:Type}(s:List a)(l h:Int):List a:=(s.take h.toNat).drop l.toNat
def Ec5:Code->Bool | .rangeFunc _ _ _ _=>true|_=>false
def rgX:Code->Operand | .rangeFunc x _ _ _=>x|_=>.tmp 0
def rgP:Code->Array Tmp | .rangeFunc _ p _ _=>p|_=>#[]
theorem YV:∀(p:List Nat),cd p .skip = .skip
 | []=>rfl
 | 0::_=>rfl
 | 1::_=>rfl
 | (_+2)::_=>rfl
theorem Ht:∀(p q:List Nat) (c:Code),cd (p++q) c=cd q (cd p c)
 | [],q,c=>rfl
 | i::p,q,c=>by
  rw[af2]
  match i,c with
  | 0,.seq a b=>exact Ht p q a
  | 1,.seq a b=>exact Ht p q b
  | 0,.cond _ a b=>exact Ht p q a
  | 1,.cond _ a b=>exact Ht p q b
  | 0,.block _ a=>exact Ht p q a
  | 0,.loop a=>exact Ht p q a
  | 0,.scope a=>exact Ht p q a
  | 0,.rangeFunc _ _ a b=>exact Ht p q a
  | 1,.rangeFunc _ _ a b=>exact Ht p q b
  | 0,.skip|0,.region _ _ _|0,.exit _|0,.label _|0,.goto _|0,.ret|0,.refuse _=>exact(YV q).symm
  | 1,.skip|1,.region _ _ _|1,.exit _|1,.scope _|1,.label _|1,.goto _|1,.ret|1,.refuse _|1,.block _ _|1,.loop _=>exact(YV q).symm
  | _+2,.skip|_+2,.region _ _ _|_+2,.exit _|_+2,.scope _|_+2,.label _|_+2,.goto _|_+2,.ret|_+2,.refuse _|_+2,.block _ _|_+2,.loop _|_+2,.seq _ _|_+2,.cond _ _ _|_+2,.rangeFunc _ _ _ _=>exact(YV q).symm
section
variable {Q R : Type} {C : Cfg} {L : F6} {Y : Yh Q} {B : Code} {W : St Q} {k : Out -> St Q -> Option R}
theorem D95(p:List Nat)(h:Ec5 (cd p B)=true):B3 C L Y (cd p B) W k=Vr C L (opnd C W.sl (rgX (cd p B))) W (λa=>Kr (rgP (cd p B)) a (bd C L Y (cd (p++[0]) B)) (bd C L Y (cd (p++[1]) B))) (λa=>Bi (rgP (cd p B)) a (bd C L Y (cd (p++[0]) B)) (bd C L Y (cd (p++[1]) B))) k:=by rw[Ht,Ht];cases b:cd p B<;>rw[b] at h<;>first|rfl|cases h
theorem Bc9{c:Bool}{x y:Option R}(h:x=y):need c x=cond c y none:=by rw[h];rfl
end
abbrev pS(l:List UInt8):PV:=.s (.str l)
abbrev pB(b:Bool):PV:=.s (.bool b)
abbrev pI(n:Int):PV:=.s (.int .i64 n)
abbrev p8(n:Int):PV:=.s (.int .u8 n)
abbrev p16(n:Int):PV:=.s (.int .u16 n)
abbrev p32(n:Int):PV:=.s (.int .u32 n)
abbrev p64(n:Int):PV:=.s (.int .u64 n)
abbrev vl{a b:Type}(e:a)(f:a->b):b:=f e
theorem A4{a R:Type}{e:a}{f g:a->Option R}(h:∀x,f x=g x):vl e f=vl e g:=h e
def E8(m n:Nat):Bool:=decide (m+n<4611686018427387904)
theorem fx1{A R:Type}{f g:A->R}(b:∀a,f a=g a):f=g:=funext b
theorem fx2{A B R:Type}{f g:A->B->R}(c:∀a b,f a b=g a b):f=g:=funext λa=>fx1 (c a)
theorem fx3{A B C R:Type}{f g:A->B->C->R}(d:∀a b c,f a b c=g a b c):f=g:=funext λa=>fx2 (d a)
theorem fx4{A B C D R:Type}{f g:A->B->C->D->R}(e:∀a b c d,f a b c d=g a b c d):f=g:=funext λa=>fx3 (e a)
theorem fx5{A B C D E R:Type}{f g:A->B->C->D->E->R}(h:∀a b c d e,f a b c d e=g a b c d e):f=g:=funext λa=>fx4 (h a)
theorem fx6{A B C D E H R:Type}{f g:A->B->C->D->E->H->R}(i:∀a b c d e h,f a b c d e h=g a b c d e h):f=g:=funext λa=>fx5 (i a)
theorem fx7{A B C D E H I R:Type}{f g:A->B->C->D->E->H->I->R}(j:∀a b c d e h i,f a b c d e h i=g a b c d e h i):f=g:=funext λa=>fx6 (j a)
theorem fx8{A B C D E H I J R:Type}{f g:A->B->C->D->E->H->I->J->R}(k:∀a b c d e h i j,f a b c d e h i j=g a b c d e h i j):f=g:=funext λa=>fx7 (k a)
theorem fx9{A B C D E H I J K R:Type}{f g:A->B->C->D->E->H->I->J->K->R}(l:∀a b c d e h i j k,f a b c d e h i j k=g a b c d e h i j k):f=g:=funext λa=>fx8 (l a)
theorem Df7{A B C D E H I J K L R:Type}{f g:A->B->C->D->E->H->I->J->K->L->R}(m:∀a b c d e h i j k l,f a b c d e h i j k l=g a b c d e h i j k l):f=g:=funext λa=>fx9 (m a)
def Ea6{α a:Type}(z:α)(f:a->List a->α->α):List a->α
 | []=>z
 | x::xs=>f x xs (Ea6 z f xs)
def Sz(n:Nat):PV->PV
 | .s (.sl z t k a)=>if n=0 then .s (.sl z t k a) else if k=n then .s (.sl z t k a) else .s (.sl z t (cond z n k) a)
 | v=>v
def Qi:List Nat->List PV->List PV
 | n::r,v::l=>Sz n v::Qi r l
 | _,l=>l
def D02(a:List Nat):PV->PV
 | .agg l=>.agg (Qi a l)
 | v=>Sz (a.headD 0) v
def C1:List (List Nat)->List PV->List PV
 | s::r,v::l=>D02 s v::C1 r l
 | _,l=>l
section
variable {L : Ctx} {sh : Nat -> Option Shp} {w : World}
theorem GV{n:Nat}{v:PV}{V:Value}(h:VP L sh w v V):VP L sh w (Sz n v) V:=by
 unfold Sz;split
 ·rename_i z t k a;split
  ·exact h
  ·split
   ·exact h
   ·cases z with
    | false=>exact h
    | true=>
     have b:=h.inv_s;cases b with
     | nil=>exact .s _ _ (.nil _ _)
 ·exact h
theorem Xn:∀(a:List Nat) (l:List PV),(Qi a l).length=l.length
 | [],_=>rfl
 | _::_,[]=>rfl
 | n::r,v::l=>by simp[Qi,Xn r l]
theorem LX:∀(a:List Nat) (l:List PV) (j:Nat) (h:j<l.length) (b:j<(Qi a l).length),∃n,(Qi a l)[j]=Sz n l[j]
 | [],l,j,h,b=>⟨0,by
  have e:Qi [] l=l:=by cases l<;>rfl
  simp only[e];unfold Sz;split
  ·rename_i c;rw[c];simp
  ·rfl⟩
 | n::r,v::l,0,h,b=>⟨n,rfl⟩
 | n::r,v::l,j+1,h,b=>by
  obtain⟨m,e⟩:=LX r l j (by simpa using h) (by simpa[Qi] using b);exact⟨m,by simpa[Qi] using e⟩
theorem Df3{b:List Nat}{v:PV}{V:Value}(h:VP L sh w v V):VP L sh w (D02 b v) V:=by
 unfold D02;split
 ·rename_i l;obtain⟨A,rfl,hA,f⟩:=h.inv_agg;refine VP.mk_agg (by rw[Xn];exact hA) λj c=>?_
  have a:j<l.length:=by rw[Xn] at c;exact c
  obtain⟨U,e,k⟩:=f j a;obtain⟨m,d⟩:=LX b l j a c;exact⟨U,e,by rw[d];exact GV k⟩
 ·exact GV h
theorem Al9:∀(a:List (List Nat)) (l:List PV),(C1 a l).length=l.length
 | [],_=>rfl
 | _::_,[]=>rfl
 | n::r,v::l=>by simp[C1,Al9 r l]
theorem Df4:∀(a:List (List Nat)) (l:List PV) (V:Array Value),CR L sh w l V->CR L sh w (C1 a l) V:=by
 intro a l V h;refine⟨by rw[Al9];exact h.1,?_⟩;have key:∀(a:List (List Nat)) (l:List PV) (b:Nat->Option Value),(∀j (h:j<l.length),∃U,b j=some U/\VP L sh w (l[j]) U)->∀j (h:j<(C1 a l).length),∃U,b j=some U/\VP L sh w ((C1 a l)[j]) U:=by
  intro a
  induction a with
  | nil=>intro l b d j c;exact d j (by cases l<;>exact c)
  | cons s r f=>
   intro l b d j c;cases l with
   | nil=>simp[C1] at c
   | cons v l=>
    cases j with
    | zero=>
     obtain⟨U,e,k⟩:=d 0 (by simp);exact⟨U,e,Df3 k⟩
    | succ j=>
     have:=f l (λj=>b (j+1)) (λj h=>d (j+1) (by simpa using h)) j (by simpa[C1] using c);simpa[C1] using this
 exact key a l (λj=>V[j]?) h.2
end
theorem B4.fix{P:Program}{G:GT}{g:Nat}{pf:List PV->Tr}(szs:List (List Nat))(h:B4 P G g pf):B4 P G g (λargs=>pf (C1 szs args)):=
 λargs ret Hc hpf C hP hGe Γ w Vs hnm hH hG hc=>h (C1 szs args) ret Hc hpf C hP hGe Γ w Vs hnm hH hG (Df4 szs args Vs hc)
theorem J6{v:PV}{H:List Blk}{ret:PV}{a:List Blk}(h:M3 (.ret v H)=some (ret,a)):ret=v/\a=H:=by simp only[M3,Iv,b9,v8] at h;grind
theorem C7{c:Bool}{t:Tr}{ret:PV}{a:List Blk}(h:M3 (.need c t)=some (ret,a)):c=true/\M3 t=some (ret,a):=by
 cases c with
 | true=>exact⟨rfl,h⟩
 | false=>cases h
theorem C61{c:Bool}{a b:Tr}{ret:PV}{d:List Blk}(h:M3 (.split c a b)=some (ret,d)):(c=true/\M3 a=some (ret,d))\/(c=false/\M3 b=some (ret,d)):=by
 cases c with
 | true=>exact .inl ⟨rfl,h⟩
 | false=>exact .inr ⟨rfl,h⟩
theorem Dv9:∃n:Nat,100000000000000000000<=n:=⟨_,o5 _⟩
noncomputable def LF:Nat:=af1 Dv9
theorem C5:100000000000000000000<=LF:=ag6 Dv9
attribute [irreducible] LF
theorem B70(b:UInt8):Nb (E4 b)=b:=by simp[Nb,E4,SV.gI]
theorem Z3(l:List UInt8):(l.map E4).map Nb=l:=by
 rw[al8];have:Nb ∘ E4=id:=by funext b;exact B70 b
 rw[this,List.map_id]
theorem B94(b:UInt8):Pk (E4 b)=true:=by have:=b.toNat_lt;simp only[Pk,E4,j2,decide_eq_true_eq];omega
theorem Y4(l:List UInt8):(l.map E4).all Pk=true:=by rw[al7];simp[Function.comp_def,B94]
theorem D49(n:Nat):x3 .u8 (n:Int)=((n % 256:Nat):Int):=by simp[x3,ae1,ad0]
theorem B40(n:Nat):x3 .u16 (n:Int)=((n % 65536:Nat):Int):=by simp[x3,ae1,ad0]
theorem Ds1(n:Nat):x3 .u32 (n:Int)=((n % 4294967296:Nat):Int):=by simp[x3,ae1,ad0]
theorem Ds2(n:Nat):x3 .u64 (n:Int)=((n % 18446744073709551616:Nat):Int):=by simp[x3,ae1,ad0]
theorem Ds0(n:Int)(a:-9223372036854775808<=n)(b:n<9223372036854775808):x3 .i64 n=n:=by simp[x3,ae1,ad0];split<;>omega
theorem Ct6(n m:Nat):Int.fdiv (n:Int) (m:Int)=((n / m:Nat):Int):=by rw[Int.fdiv_eq_ediv_of_nonneg _ (by omega)];rfl
theorem N4(n m:Nat):Int.tdiv (n:Int) (m:Int)=((n / m:Nat):Int):=by rw[Int.tdiv_eq_ediv_of_nonneg (by omega)];rfl
theorem Cx(n m:Nat):Int.tmod (n:Int) (m:Int)=((n % m:Nat):Int):=by rw[Int.tmod_eq_emod_of_nonneg (by omega)];rfl
theorem Dz4(w a b:Nat)(c:a<2 ^ w)(d:b<2 ^ w):(ab2 w (a:Int) ||| ab2 w (b:Int)).toNat=a ||| b:=by simp[ag8,x6 c,x6 d]
theorem Dx1(w a b:Nat)(c:a<2 ^ w)(d:b<2 ^ w):(ab2 w (a:Int) &&& ab2 w (b:Int)).toNat=a &&& b:=by simp[ag8,x6 c,x6 d]
theorem D19(a b i:Nat)(h:a<2 ^ i):a ||| (b*2 ^ i)=a+b*2 ^ i:=by rw[Nat.mul_comm b,Nat.or_comm,al9];exact(Nat.two_pow_add_eq_or_of_lt h b).symm
theorem Br3(n:Nat):E4 (aa5 n)=[SV.int .u8 ((n % 256:Nat):Int)]:=by simp[E4]
end
section
open Go Go.ChangeShapes Go.RowKit Go.Sort Go.WideShapes
theorem Tp{P:Program}{f:Nat}{fn:Func}{d:Array Value}{w:World}{R:Value->World->Prop}(m:P.funcs[f]? = some fn)(j:fn.body.isSome=true)(p:(fn.name == "runtime.NumGoroutine")=false)
  (h:Calls P f d w λe w'=>∃V,e = .returned V/\R V w'):R4 P ((callFunc f d).run P w) R:=by
 obtain⟨c,j⟩:=w9.1 j;intro q n o a next Q b
 have g:(callFunc f d).run P w = .ok (.enter f d) w:=by
  have k:¬ fn.name = "runtime.NumGoroutine":=by simpa using p
  simp[callFunc,m,j,k,aa9]
 rw[g];simp only[ad3];refine⟨λh=>(by simp[G9,ac7] at h),?_⟩;have key:CallsIn ac7 (n-1) P f d w λe w'=>∃V,e = .returned V/\R V w':=callsIn_wide.2 h
 have i:CallsIn (G9 q) (n-1) P f d w λe w'=>∃V,e = .returned V/\R V w':=key
 refine i.mono ?_;rintro e w' ⟨V,rfl,l⟩;exact b V w' l
theorem Cs4{C:Cfg}{d:Ctx}{w w':World}{ret:PV}{V:Value}(a:∀b,d.nm b=none)(f:HR d [] w)(c:Below w.heap.size w w')(j:VP d (A5 []) w' ret V)(i:ret.nms=[]):Ev C I0 d [] w noΦ ret [] () V w':=by
 refine⟨d,noΦ,⟨c.os,c.tape,c.output,c.size,λ_ h=>h,λ_ h=>.inl h,λb g h=>(by rw[a] at h;cases h),λ_ h=>h.elim,λg e _ _=>c.block g e,rfl,o5 _,λb h=>(by simp at h)⟩,
  ⟨λb k g h=>(by rw[a] at h;cases h),λb g h=>(by rw[a] at h;cases h),λg e=>j6 (f.stlt g e) c.size,λb h=>(by simp at h),λb h=>(by simp at h)⟩,j,by rw[i];simp,λ_ h=>h,λb g h=>(by rw[a] at h;cases h)⟩
theorem Qa(w:World)(n:Nat):Below w.heap.size w (w.drewN n):=⟨rfl,rfl,rfl,o5 _,λ_ _=>rfl⟩
theorem KP(w:World)(os:Array Obj):Below w.heap.size w (grow w os):=by refine⟨rfl,rfl,rfl,by simp[grow],λk a=>?_⟩;simp only[grow];grind
theorem A43(w:World)(s:ByteArray)(pos:Nat):Below w.heap.size w (w.iter s pos):=(Below.refl _ w).alloc (o5 _) _
section
variable {Γ : Ctx} {sh : Nat -> Option Shp} {w : World}
theorem CR.arr1{a:PV}{A:Array Value}(h:CR Γ sh w [a] A):∃U,A = #[U]/\VP Γ sh w a U:=by obtain⟨U,e,k⟩:=h.2 0 (by simp);refine⟨U,?_,k⟩;have hs:A.size=1:=h.1;grind
theorem CR.arr2{a b:PV}{A:Array Value}(h:CR Γ sh w [a,b] A):∃U V,A = #[U,V]/\VP Γ sh w a U/\VP Γ sh w b V:=by obtain⟨U,e,k⟩:=h.2 0 (by simp);obtain⟨V,e',k'⟩:=h.2 1 (by simp);refine⟨U,V,?_,k,k'⟩;have hs:A.size=2:=h.1;grind
theorem CR.arr3{a b c:PV}{A:Array Value}(h:CR Γ sh w [a,b,c] A):∃U V W,A = #[U,V,W]/\VP Γ sh w a U/\VP Γ sh w b V/\VP Γ sh w c W:=by obtain⟨U,e,k⟩:=h.2 0 (by simp);obtain⟨V,e',k'⟩:=h.2 1 (by simp);obtain⟨W,e'',k''⟩:=h.2 2 (by simp);refine⟨U,V,W,?_,k,k',k''⟩;have hs:A.size=3:=h.1;grind
theorem VP.mk_str(l:List UInt8):VP Γ sh w (.s (.str l)) (.string ⟨l.toArray⟩):=by have:=VP.s (Γ:=Γ) (sh:=sh) (w:=w) _ _ (VS.str (St:=Γ.St) (w:=w) ⟨l.toArray⟩);omega
theorem VP.mk_int(k:IntKind)(n:Int):VP Γ sh w (.s (.int k n)) (.int k n):=.s _ _ (.int k n)
theorem VP.mk_bool(b:Bool):VP Γ sh w (.s (.bool b)) (.bool b):=.s _ _ (.bool b)
theorem VP.mk_tup3{a b c:PV}{U V W:Value}(h:VP Γ sh w a U)(k:VP Γ sh w b V)(l:VP Γ sh w c W):VP Γ sh w (.tup [a,b,c]) (.tuple #[U,V,W]):=
 VP.mk_tup rfl λj hj=>by grind
end
theorem J2{P:Program}{G:GT}{g:Nat}{fn:Func}{k:List PV->Tr}(q:P.funcs[g]? = some fn)(d:fn.body.isSome=true)(t:(fn.name == "runtime.NumGoroutine")=false)
  (h:∀args ret b,M3 (k args)=some (ret,b)->b=[]/\ret.nms=[]/\∀C:Cfg,C.P=P->C.G=G->∀a w c,GOK C a.St w->(∀g,a.St g->g<w.heap.size)->CR a (A5 []) w args c->
   Calls P g c w λe w'=>∃V,e = .returned V/\Below w.heap.size w w'/\VP a (A5 []) w' ret V):B4 P G g k:=by
 intro args ret b i C n m a w c f j r o;obtain⟨rfl,u,l⟩:=h args ret b i;exact Tp q d t ((l C n m a w c r j.stlt o).mono λe w' ⟨V,p,d,v⟩=>⟨V,p,Cs4 f j d v u⟩)
def PV.stab(szs:List Nat)(H:List Blk):PV->PV
 | .tup l=>.tup (Qi szs (N5 H l))
 | v=>Sz (szs.headD 0) (v.snap H)
theorem VP.stab{Γ:Ctx}{H:List Blk}{w:World}(szs:List Nat)(hH:HR Γ H w){v:PV}{V:Value}(h:VP Γ (A5 H) w v V):VP Γ.all (A5 H) w (v.stab szs H) V:=by
 by_cases ht:∃l,v = .tup l
 ·obtain⟨l,rfl⟩:=ht;obtain⟨A,rfl,hA,hc⟩:=h.inv_tup;simp only[PV.stab];have hl:(Qi szs (N5 H l)).length=l.length:=by rw[Xn,Jc,y5]
  refine VP.mk_tup (by rw[hl];exact hA) λj hj=>?_
  obtain⟨U,e,k⟩:=hc j (by omega);refine⟨U,e,?_⟩;have hj':j<(N5 H l).length:=by rw[Jc,y5];omega
  obtain⟨n,en⟩:=LX szs (N5 H l) j hj' hj;rw[en];have e2:(N5 H l)[j]=(l[j]'(by omega)).snap H:=by
   simp only[Jc,o8]
  rw[e2];exact GV (k.snap hH)
 ·have e:v.stab szs H=Sz (szs.headD 0) (v.snap H):=by
   cases v with
   | tup l=>exact absurd ⟨l,rfl⟩ ht
   | _=>rfl
  rw[e];exact GV (h.snap hH)
theorem Bt7(f:List Blk->PV->PV)(Q:∀{Γ:Ctx} {H:List Blk} {w:World},HR Γ H w->∀{v:PV} {V:Value},VP Γ (A5 H) w v V->VP Γ.all (A5 H) w (f H v) V){C₀:Cfg}{g:Nat}{pf:List PV->Tr}(N:XOK C₀)(L:Ow C₀)(R:C₀.P.follows .mixedOrders=true)
  (h:∀args ret p,M3 (pf args)=some (ret,p)->C8 args=[]/\p=[]/\ret.nms=[]/\∃d c l,evC C₀ d Unit noY g args [] ()=some (c,l,())/\f l c=ret):B4 C₀.P C₀.G g pf:=by
 intro args ret p B C M t Γ w G A K J O;obtain⟨z,rfl,n,d,c,l,u,rfl⟩:=h args ret p B;have I:=Rn (C₀:=C₀) (g:=g) (pf:=λa=>match evC C₀ d Unit noY g a [] () with|some (r,H,_)=>cond (C8 a).isEmpty (.ret r H) .fail|none=>.fail) N L R (λa r H k=>by
  split at k
  ·rename_i U H' _ T;cases F:(C8 a).isEmpty with
   | true=>
    rw[F] at k;simp only[cond_true,M3,Iv,b9,v8] at k;grind
   | false=>rw[F] at k;cases k
  ·cases k)
 refine(I args c l (by dsimp only;rw[u];dsimp only;rw[z];rfl) C M t Γ w G A K J O).mono ?_;rintro V w' ⟨o,D,e,j,S,hvn,x,P⟩;let Γ2:Ctx:={ o.all with nm:=λ_=>none }
 have y:∀g,Γ2.St g->g<w'.heap.size:=λg i=>by
  rcases i with i|⟨b,m⟩
  ·exact j.stlt g i
  ·exact(j.lt b g m).2.1
 refine⟨Γ2,D,⟨e.os,e.tape,e.output,e.size,λg i=>.inl (e.sub g i),λg i=>?_,λb g h=>by simp[Γ2] at h,e.foot,e.frame,e.yv,o5 _,λb m=>by simp at m⟩,
  Mr (λ_=>rfl) y,?_,by rw[n];simp,x,λb g h=>by simp[Γ2] at h⟩
 ·rcases i with i|⟨b,m⟩
  ·exact e.stnew g i
  ·rcases e.own b g m with⟨q,_⟩|q
   ·simp at q
   ·exact .inr q
 ·exact VP.mono (Γ:=o.all) (Γ':=Γ2) (w:=w') (w':=w') (sh:=A5 l) (ok:=λ_=>False) ⟨λ_ _=>rfl,λ_ h=>h,λ_ h=>h.elim,λ_ h=>h.elim,λ_ _ h=>h.elim,rfl⟩ (Q j S) (by rw[n];simp)
theorem J3(b:List Nat){C₀:Cfg}{g:Nat}{f:List PV->Tr}(k:XOK C₀)(j:Ow C₀)(l:C₀.P.follows .mixedOrders=true)
  (h:∀args ret e,M3 (f args)=some (ret,e)->C8 args=[]/\e=[]/\ret.nms=[]/\∃d a c,evC C₀ d Unit noY g args [] ()=some (a,c,())/\a.stab b c=ret):B4 C₀.P C₀.G g f:=
 Bt7 (λH v=>v.stab b H) (λi _ _ h=>h.stab b i) k j l h
def Tr.Good(szs:List Nat)(args:List PV)(e:Option (PV × List Blk × Unit)):Tr->Prop
 | .ret v H=>C8 args=[]/\H=[]/\v.nms=[]/\∃r H0,e=some (r,H0,())/\r.stab szs H0=v
 | .need c t=>c=true->Good szs args e t
 | .split c a b=>(c=true->Good szs args e a)/\(c=false->Good szs args e b)
 | .fail=>True
theorem Tr.Good.res{szs:List Nat}{args:List PV}{e:Option (PV × List Blk × Unit)}{ret:PV}{Hc:List Blk}:∀{t:Tr},t.Good szs args e->M3 t=some (ret,Hc)->C8 args=[]/\Hc=[]/\ret.nms=[]/\∃r H0,e=some (r,H0,())/\r.stab szs H0=ret
 | .ret v H,h,hr=>by
  obtain⟨rfl,rfl⟩:=J6 hr;exact h
 | .need c t,h,hr=>by
  obtain⟨h0,hr⟩:=C7 hr;exact res (h h0) hr
 | .split c a b,h,hr=>by
  rcases C61 hr with⟨h0,hr⟩|⟨h0,hr⟩
  ·exact res (h.1 h0) hr
  ·exact res (h.2 h0) hr
theorem xf(b:List Nat)(a:Cfg){g:Nat}(d:List PV->Tr){e:List (List Nat)}{l:List (Nat × (List PV->Tr))}{c:List Nat}(n:a.X=Ay8 l)(t:N7 a.P a.G l)(p:a.okf=okL c)(m:Bd3 a c=true)(o:a.P.follows .mixedOrders=true)
  (h:∀args,(d args).Good b args (evC a 1 Unit noY g args [] ())) (i:a.Y=Rf []:=by rfl) (j:a.S=Rf []:=by rfl) (k:a.Z=Rf []:=by rfl):B4 a.P a.G g (λargs=>d (C1 e args)):=
 B4.fix e (J3 b (N7.ok n t i j k) (J1 p m) o λargs ret z q=>by
  obtain⟨u,v,w,r,f,x,y⟩:=(h args).res q;exact⟨u,v,w,1,r,f,x,y⟩)
end
section
open Go
def Ba4(n:Nat)(ret:PV)(H:List Blk):Bool:=ret.nms.all (am0 · n)&&H.all λb=>b.nms.all (am0 · n)
theorem Ev.head{C:Cfg}{σ:Type}{I:σ->(Nat->Prop)->(Nat->Prop)->World->Prop}{Γ:Ctx}{H Hc T:List Blk}{w w':World}{Φ:Nat->Prop}{s':σ}{ret:PV}{V:Value}
  (h:Ev C I Γ H w Φ ret (Hc++T) s' V w') (hl:H.length<=Hc.length) (hok:Ba4 Hc.length ret Hc=true):Ev C I Γ H w Φ ret Hc s' V w':=by
 obtain⟨Γ1,Φ1,hs,hH1,hv,hvn,hi1,hd1⟩:=h;simp only[Ba4,j2,o7,Nat.blt_eq] at hok;let Γ2:Ctx:={ Γ1 with nm:=λb=>if b<Hc.length then Γ1.nm b else none }
 have hnm:∀b g,Γ2.nm b=some g->b<Hc.length/\Γ1.nm b=some g:=λb g h=>by grind
 have get:∀b (h:b<Hc.length) (h':b<(Hc++T).length),(Hc++T)[b]=Hc[b]:=λb h h'=>aa7 h
 have shp:∀b,b<Hc.length->A5 Hc b=A5 (Hc++T) b:=λb hb=>by
  simp only[A5];grind
 have M:Ax Γ1 (A5 (Hc++T)) w' Γ2 (A5 Hc) w' (· < Hc.length):=⟨λ_ _=>rfl,λ_ h=>h,λb hb=>by simp only[Γ2];rw[if_pos hb],λb hb=>shp b hb,λ_ _ _ _=>rfl,rfl⟩
 refine⟨Γ2,Φ1,⟨hs.os,hs.tape,hs.output,hs.size,hs.sub,hs.stnew,λb g h=>hs.own b g (hnm b g h).2,hs.foot,hs.frame,hs.yv,hl,λb hb hf=>?_⟩,
  ⟨λb b' g h1 h2=>hH1.inj b b' g (hnm b g h1).2 (hnm b' g h2).2,λb g h=>by have:=hH1.lt b g (hnm b g h).2;exact⟨(hnm b g h).1,this.2⟩,hH1.stlt,λb hb c hc=>hok.2 _ (j8 hb) c hc,λb hb=>?_⟩,
  hv.mono M (λb hb=>hok.1 b hb),λc hc=>hok.1 c hc,hi1,λb g h=>hd1 b g (hnm b g h).2⟩
 ·obtain⟨m1,m2,m3⟩:=hs.keep b hb hf;have hb2:b<Hc.length:=j6 hb hl;exact⟨by simp only[Γ2];rw[if_pos hb2];exact m1,by rw[shp b hb2];exact m2,m3⟩
 ·have hb':b<(Hc++T).length:=by rw[x9];omega
  have:=hH1.blk b hb';rw[get b hb hb'] at this;exact this.mono M (M.nm b hb) (λ_ _=>rfl) (λc hc=>hok.2 _ (j8 hb) c hc)
theorem Gv{C₀:Cfg}{g:Nat}{n:List PV->List Blk->Tr}(x:XOK C₀)(u:Ow C₀)(F:C₀.P.follows .mixedOrders=true)
  (h:∀args H ret a,M3 (n args H)=some (ret,a)->p5 H.length a.length=true/\Ba4 a.length ret a=true/\∀(b:Type) (f:Yh b) (s:b),∃d c,evC C₀ d b f g args H s=some (ret,c,s)/\c.take a.length=a):EK C₀.P C₀.G g n:=by
 intro C v q b I f S t M args H s ret a j T U w o k r A B z y G;obtain⟨D,i,p⟩:=h args H ret a j;obtain⟨d,c,e,L⟩:=p b f s;rw[<-List.take_append_drop a.length c,L] at e;refine(Li x u F d b I f S t M g args H s ret (a++c.drop a.length) s e T U w o k r (A.congr q.symm) B z y G).mono ?_;rintro V w' J;obtain⟨l,m,K,N,O,P,Q,R⟩:=J.head (ab5 D) i;exact⟨l,m,K.congr v.symm,N,O,P,Q,R⟩
def Hn:List Int:=(ae4 32).map λi=>((if i % 2=0 then Lib.accLo (i / 2) else Lib.accHi (i / 2):Nat):Int)
def GX:GT:=⟨λg=>cond (w8 g 1) (some (.u8,ai5)) (cond (w8 g 2) (some (.u8,Hn)) (cond (w8 g 3) (some (.u64,ai6)) (cond (w8 g 5) (some (.u8,ae8.map λn:Nat=>(n:Int))) none))),λg=>w8 g 0⟩
def Ea3:List (Nat × Nat × Nat × Nat)->Nat->Nat->Nat × Nat
 | [],_,_=>(0,0)
 | (t,j,e,k)::r,b,a=>cond (w8 t b&&w8 j a) (e,k) (Ea3 r b a)
def Dx5:List (Nat × Nat)->Nat->Option Nat
 | [],_=>none
 | (a,b)::r,i=>cond (w8 a i) (some b) (Dx5 r i)
noncomputable def B8(g:Nat)(f:List Nat)(d:Nat->Option (List Nat))(X:List (Nat × (List PV->Tr)))(b:Nat->Option (List Nat):=λ_=>none)(h:List Nat:=[])(a:Nat->Option (List Nat):=λ_=>none)(c:Option (List Nat):=none)(Y:List (Nat × (List PV->List Blk->Tr)):=[])(S:List (Nat × (List PV->List Blk->Option (Bool × List (List PV)))):=[])(e:List Nat:=[])(nt:List (Nat × Nat × Nat × Nat):=[])(rw:List (Nat × Nat):=[])(Z:List (Nat × (SV->List (List SV)->Bool × List (List SV))):=[])(fr:List (Nat × List Nat × List Nat):=[]):Cfg:=
 { P:=j5,G:=GX,X:=Ay8 X,lend:=okL e,okf:=okL f,lf:=g,keep:=d,keepR:=b,xp:=okL h,keepE:=a,keepT:=c,Y:=Rf Y,S:=Rf S,nilT:=Ea3 nt,rowR:=Dx5 rw,Z:=Rf Z,farR:=A2 fr }
theorem follows:j5.follows .mixedOrders=true:=by kernel_rfl
theorem Cf8{n:Nat}:G2 n=true↔n<=68719476736:=by simp[G2]
theorem F9{n:Nat}(h:n<=68719476736):G2 n=true:=Cf8.2 h
theorem B9{a b:Int}(h:a<b):ltI a b=true:=by rw[Nl];simpa using h
theorem E6{a b:Int}(h:b<=a):ltI a b=false:=by rw[Nl];simpa using h
theorem Nm{a b:Int}:ltI a b=true↔a<b:=by rw[Nl];simp
theorem Qu{a b:Int}:ltI a b=false↔b<=a:=by rw[Nl];simp
theorem D1{n:Int}(a:-9223372036854775808<=n)(b:n<9223372036854775808):A1 n=n:=Ds0 n a b
theorem Af5{n:Int}(a:0<=n)(b:n<18446744073709551616):D50 n=n:=by obtain⟨m,rfl⟩:=aa8 a;unfold D50;rw[Ds2,x6 (by omega)]
theorem B42{n:Int}(a:0<=n)(b:n<4294967296):EH n=n:=by obtain⟨m,rfl⟩:=aa8 a;unfold EH;rw[Ds1,x6 (by omega)]
theorem B41{n:Int}(a:0<=n)(b:n<65536):Em n=n:=by obtain⟨m,rfl⟩:=aa8 a;unfold Em;rw[B40,x6 (by omega)]
theorem Af6{n:Int}(a:0<=n)(b:n<256):wu8 n=n:=by obtain⟨m,rfl⟩:=aa8 a;unfold wu8;rw[D49,x6 (by omega)]
theorem A9{a b:Int}(h:a<b:=by omega):ltI a b=true:=B9 h
theorem A6{a b:Int}(h:b<=a:=by omega):ltI a b=false:=E6 h
theorem A7{n:Int}(h:-9223372036854775808<=n:=by omega)(g:n<9223372036854775808:=by omega):A1 n=n:=D1 h g
theorem Ot{n:Int}(h:0<=n:=by omega)(g:n<4294967296:=by omega):EH n=n:=B42 h g
theorem Kx{n:Int}(h:0<=n:=by omega)(g:n<65536:=by omega):Em n=n:=B41 h g
theorem N6{n:Int}(h:0<=n:=by omega)(g:n<256:=by omega):wu8 n=n:=Af6 h g
theorem R0{d:Sort _}{c:Prop}[Decidable c]{a b:d}(h:c:=by omega):(if c then a else b)=a:=if_pos h
theorem G1{d:Sort _}{c:Prop}[Decidable c]{a b:d}(h:¬c:=by omega):(if c then a else b)=b:=if_neg h
theorem A01(n:Nat):Em (n:Int)=((n % 65536:Nat):Int):=B40 n
theorem Sv(k:IntKind)(a m:Nat)(h:m<=k.bits):Pl k (a:Int) (m:Int)=((a / 2 ^ m:Nat):Int):=by
 unfold Pl;rw[Int.toNat_natCast,Nat.min_eq_left h];have:(2:Int) ^ m=((2 ^ m:Nat):Int):=by simp
 rw[this,Ct6]
theorem C68{n:Nat}(h:n<256):[SV.int .u8 (n:Int)]=E4 (aa5 n):=by rw[Br3,x6 h]
theorem Aw{l h:Int}{n:Nat}(a:0<=l)(b:l<=h)(c:h<=n):I9 l h n=true:=by simp[I9,a,b,c]
theorem K7{i:Int}{n:Nat}(a:0<=i)(b:i<n):inR i n=true:=by simp[inR,a,b]
theorem I4{l h:Int}{n:Nat}(a:0<=l:=by omega)(b:l<=h:=by omega)(c:h<=n:=by omega):I9 l h n=true:=Aw a b c
theorem F2{i:Int}{n:Nat}(a:0<=i:=by omega)(b:i<n:=by omega):inR i n=true:=K7 a b
end
section
open Go Go.Proofs
def HQ(r:Option (PV × List Blk × Unit)):Bool:=match r with
 | some (.s (.bool true),_,_)=>true
 | _=>false
theorem Ac1{r:Option (PV × List Blk × Unit)}(h:HQ r=true):∃H,r=some (.s (.bool true),H,()):=by
 unfold HQ at h;split at h
 ·exact⟨_,rfl⟩
 ·cases h
theorem Bt8{C₀:Cfg}{g d:Nat}(f:XOK C₀)(c:Ow C₀)(i:C₀.P.follows .mixedOrders=true)(h:HQ (evC C₀ d Unit noY g [] [] ())=true):B4 C₀.P C₀.G g (λargs=>match args with|[]=>.ret (.s (.bool true)) []|_=>.fail):=
 Ag1 f c i λargs ret j b=>by
  cases args with
  | nil=>
   obtain⟨rfl,rfl⟩:=J6 b;obtain⟨H,e⟩:=Ac1 h;exact⟨rfl,rfl,rfl,d,_,H,e,rfl⟩
  | cons a r=>cases b
theorem XO{P:Program}{t:Nat}{v:PV}{f:Ty}(h:Te P t v)(e:Fm P 20 t=some [f])(i:Ox P t=false):∃x,v = .s x/\f.of x:=by
 obtain⟨j,l,b,c,a⟩:=h;rw[e] at b;simp only[b9] at b;subst b;rcases a with⟨a,_⟩|⟨_,x,rfl,rfl⟩
 ·rw[i] at a;cases a
 ·simp only[Ty.ofL] at c;obtain⟨v,q,d,g,rfl⟩:=c;simp only[List.cons.injEq,and_true] at d;subst d;exact⟨_,rfl,g⟩
theorem Dd0{P:Program}{t:Nat}{v:PV}{k:IntKind}(h:Te P t v)(e:Fm P 20 t=some [.int k])(c:Ox P t=false):∃n,v = .s (.int k n)/\k.min<=n/\n<=k.max:=by obtain⟨x,rfl,n,rfl,a,b⟩:=XO h e c;exact⟨n,rfl,a,b⟩
theorem Dd1{P:Program}{t:Nat}{v:PV}(h:Te P t v)(e:Fm P 20 t=some [.str])(b:Ox P t=false):∃l,v = .s (.str l)/\l.length<=maxLen:=by obtain⟨x,rfl,l,rfl,a⟩:=XO h e b;exact⟨l,rfl,a⟩
theorem Cq3{P:Program}{t:Nat}{v:PV}(h:Te P t v)(e:Fm P 20 t=some [.bool])(a:Ox P t=false):∃b,v = .s (.bool b):=by obtain⟨x,rfl,b,rfl⟩:=XO h e a;exact⟨b,rfl⟩
end
section
open Go
def D2(l:List By):LL:=l.map λs=>[SV.str s]
def D3(l:List Nat):LL:=l.map λn=>[SV.int .u16 (Int.ofNat n)]
def N3(c:UInt8):By->By->List By
 | a,[]=>[a]
 | a,b::r=>if b=c then a::N3 c [] r else N3 c (a++[b]) r
def pcs(c:UInt8)(s:By):List By:=N3 c [] s
theorem Ke(c:UInt8):∀(s a:By),(N3 c a s).length=s.count c+1
 | [],a=>rfl
 | b::r,a=>by
  simp only[N3,List.count_cons];by_cases h:b=c
  ·simp[h,Ke c r]
  ·simp[h,Ke c r]
theorem AB(c:UInt8):∀(s a:By),c∉s->N3 c a s=[a++s]
 | [],a,_=>by simp[N3]
 | b::r,a,h=>by
  simp only[y9,not_or] at h;simp only[N3];rw[if_neg (λe=>h.1 e.symm),AB c r _ h.2];simp
theorem GC(c:UInt8):∀(p a s:By),c∉p->N3 c a (p++c::s)=(a++p)::N3 c [] s
 | [],a,s,_=>by simp[N3]
 | b::r,a,s,h=>by
  simp only[y9,not_or] at h;simp only[af2,N3];rw[if_neg (λe=>h.1 e.symm),GC c r _ s h.2];simp
theorem Bq0(c:UInt8)(s a:By):N3 c a s≠[]:=by intro h;have:=Ke c s a;rw[h] at this;simp at this
theorem Re(c:UInt8):∀(s a:By),c∉a->∀x∈N3 c a s,c∉x/\x.length<=a.length+s.length
 | [],a,h,x,d=>by
  simp only[N3,List.mem_singleton] at d;subst d;exact⟨h,by simp⟩
 | b::r,a,h,x,d=>by
  simp only[N3] at d;split at d
  ·rcases y9.1 d with rfl|d
   ·exact⟨h,by simp⟩
   ·have:=Re c r [] (by simp) x d;refine⟨this.1,?_⟩;have:=this.2;simp at this ⊢;omega
  ·rename_i e;have:=Re c r (a++[b]) (by simp[h,Ne.symm e]) x d;refine⟨this.1,?_⟩;have:=this.2;simp at this ⊢;omega
def X9(b:UInt8):UInt8:=if 65<=b/\b<=90 then b+32 else b
def B6(s:By):By:=s.map X9
def dig(b:UInt8):Nat:=
 if 48<=b.toNat/\b.toNat<=57 then b.toNat-48 else if 97<=b.toNat/\b.toNat<=102 then b.toNat-87 else if 65<=b.toNat/\b.toNat<=70 then b.toNat-55 else 99
def W8:Nat:=1099511627776
def F1(base:Nat):Nat->By->Option Nat
 | n,[]=>some n
 | n,b::r=>if dig b<base then F1 base (min (n*base+dig b) W8) r else none
def Z1(s:By):Bool:=s.getD 0 0==48&&(s.getD 1 0==120||s.getD 1 0==88)
def Ae(s:By):Option Nat:=
 if s=[] then none else if Z1 s then F1 16 0 (s.drop 2) else if 1<s.length/\s.getD 0 0=48 then F1 8 0 (s.drop 1) else F1 10 0 s
def C9(s:By):List By:=if 1<(pcs 46 s).length/\(pcs 46 s).getLastD []=[] then (pcs 46 s).dropLast else pcs 46 s
def Df(s:By):By:=(C9 s).getLastD []
def F0(s:By):Bool:=if Z1 (Df s) then (F1 16 0 ((Df s).drop 2)).isSome else !(Df s).isEmpty&&(F1 10 0 (Df s)).isSome
def Vp(free:Nat):Nat->List By->Option Nat
 | _,[]=>none
 | v,p::r=>match Ae p with
  | none=>none
  | some n=>match r with
   | []=>if n<2 ^ free then some (v*2 ^ free+n) else none
   | r=>if n<=255 then Vp free (v*256+n) r else none
def pnB(s:By):Option Nat:=if 4<(C9 s).length then none else Vp (8*(5-(C9 s).length)) 0 (C9 s)
def oct(s:By):Option Nat:=match F1 10 0 s with
 | some n=>if n<=255/\aa6 n=s then some n else none
 | none=>none
def ND:Nat->List By->Option Nat
 | v,[]=>some v
 | v,p::r=>match oct p with
  | some n=>ND (v*256+n) r
  | none=>none
def v4B(s:By):Option Nat:=if (pcs 46 s).length=4 then ND 0 (pcs 46 s) else none
def V3(v:Nat):By:=aa6 (v / 16777216)++46::(aa6 (v / 65536 % 256)++46::(aa6 (v / 256 % 256)++46::aa6 (v % 256)))
def Ak:Nat->By->Option Nat
 | n,[]=>some n
 | n,b::r=>if dig b<16 then Ak (n*16+dig b) r else none
def grp(s:By):Option Nat:=if s=[]\/4<s.length then none else Ak 0 s
def Db(last:Bool):List By->Option (List Nat)
 | []=>some []
 | x::r=>match grp x with
  | some v=>(Db last r).map (v::·)
  | none=>match v4B x with
   | some v=>if last=true/\r=[] then some [v / 65536,v % 65536] else none
   | none=>none
def P6(s:By)(last:Bool):Option (List Nat):=if s=[] then some [] else Db last (pcs 58 s)
def v6B(s:By):Option (List Nat):=
 match P6 (ah6 s [58,58]).1 (!(ah6 s [58,58]).2.2),P6 (ah6 s [58,58]).2.1 true with
 | some x,some y=>if (ah6 s [58,58]).2.2 then (if x.length+y.length<=7 then some (x++x8 (8-x.length-y.length) 0++y) else none)
   else if x.length+y.length=8 then some (x++y) else none
 | _,_=>none
def Oc(l:List Nat):Nat:=(l.takeWhile (· == 0)).length
def zGo:List Nat->Nat->Nat->Nat->Nat × Nat
 | [],_,z,m=>(z,m)
 | x::r,i,z,m=>if m<Oc (x::r) then zGo r (i+1) i (Oc (x::r)) else zGo r (i+1) z m
def Lm(n:Nat):UInt8:=if n<10 then aa5 (48+n) else aa5 (87+n)
def P9(v:Nat):By:=if h:v<16 then [Lm v] else P9 (v / 16)++[Lm (v % 16)]
 termination_by v
 decreasing_by omega
def K8(l:List Nat):By:=ak8 (l.map P9) [58]
def Am(a:List Nat):By:=if (zGo a 0 0 0).2<2 then K8 a else K8 (a.take (zGo a 0 0 0).1)++58::58::K8 (a.drop ((zGo a 0 0 0).1+(zGo a 0 0 0).2))
def W4(n:Nat):Bool:=p5 n 1114111&&(am0 n 55296||am0 57343 n)
def BQ(d k:Nat):Nat:=if h:455<d then BQ (d / 35) (k+36) else k+36*d / (d+38)
 termination_by d
 decreasing_by omega
def R5(delta count:Nat)(first:Bool):Nat:=
 let d:=if first then delta / 700 else delta / 2
 BQ (d+d / count) 0
def thr(k a:Nat):Nat:=max 1 (min 26 (36*(k+1)-a))
theorem X4(k a:Nat):1<=thr k a/\thr k a<=26:=by unfold thr;omega
def Ba(d:Nat):UInt8:=if d<26 then aa5 (97+d) else aa5 (22+d)
def Pi(b:UInt8):Option Nat:=
 if 97<=b.toNat/\b.toNat<=122 then some (b.toNat-97) else if 65<=b.toNat/\b.toNat<=90 then some (b.toNat-65) else if 48<=b.toNat/\b.toNat<=57 then some (b.toNat-22) else none
def Q7(q k a:Nat):By:=
 if h:q<thr k a then [Ba q] else Ba (thr k a+(q-thr k a) % (36-thr k a))::Q7 ((q-thr k a) / (36-thr k a)) (k+1) a
 termination_by q
 decreasing_by
  have:=X4 k a;exact Nat.lt_of_le_of_lt (Nat.div_le_self _ _) (by omega)
structure UI where
 delta:Nat
 bias:Nat
 done:Nat
 out:By
def I5(n a:Nat):List Nat->UI->UI
 | [],s=>s
 | p::r,s=>if p<n then I5 n a r { s with delta:=s.delta+1 }
  else if p=n then I5 n a r { delta:=0,bias:=R5 s.delta (s.done+1) (s.done==a),done:=s.done+1,out:=s.out++Q7 s.delta 0 s.bias }
  else I5 n a r s
def I3(n:Nat):List Nat->Nat->Nat
 | [],m=>m
 | p::r,m=>I3 n r (if n<=p then min m p else m)
def T0(b:List Nat)(a:Nat):Nat->Nat->UI->UI
 | 0,_,s=>s
 | f+1,n,s=>if s.done<b.length then
   let m:=I3 n b 1114112;let c:=I5 m a b { s with delta:=s.delta+(m-n)*(s.done+1) }
   T0 b a f (m+1) { c with delta:=c.delta+1 }
  else s
def J0(a:List Nat):By:=(a.filter (· < 128)).map aa5
def Dr(a:List Nat):By × Nat:=
 if 256<a.length then ([],3) else if !(a.all W4) then ([],2)
 else ((T0 a (J0 a).length 256 128 { delta:=0,bias:=72,done:=(J0 a).length,out:=if (J0 a).isEmpty then [] else J0 a++[45] }).out,0)
def D9(a:Nat):By->Nat->Nat->Nat->Nat × By × Nat
 | [],i,w,k=>(0,[],4)
 | b::r,i,w,k=>match Pi b with
  | none=>(0,[],4)
  | some x=>if W8<i+x*w then (0,[],19) else if x<thr k a then (i+x*w,r,0)
   else if W8<w*(36-thr k a) then (0,[],19) else D9 a r (i+x*w) (w*(36-thr k a)) (k+1)
theorem Rz(a:Nat):∀(s:By) (i w k:Nat),(D9 a s i w k).2.2=0->(D9 a s i w k).2.1.length<s.length
 | [],i,w,k,h=>by simp[D9] at h
 | b::r,i,w,k,h=>by
  unfold D9 at h ⊢;cases d:Pi b with
  | none=>simp[d] at h
  | some x=>
   simp only[d] at h ⊢;split at h
   ·simp at h
   ·rename_i e;rw[if_neg e];split at h
    ·rename_i c;rw[if_pos c];simp
    ·rename_i c;rw[if_neg c];split at h
     ·simp at h
     ·rename_i f;rw[if_neg f];have:=Rz a r _ _ _ h;simp only[af4];omega
def W3(l:List Nat)(i n:Nat):List Nat:=l.take i++n::l.drop i
def I2(s:By)(b:List Nat)(n i a:Nat)(first:Bool):List Nat × Nat:=
 if e:s=[] then (b,0) else
  let q:=D9 a s i 1 0
  if d:q.2.2=0 then
   let count:=b.length+1;let c:=n+q.1 / count
   if W4 c then (if 256<count then ([],3) else I2 q.2.1 (W3 b (q.1 % count) c) c (q.1 % count+1) (R5 (q.1-i) count first) false)
   else ([],2)
  else ([],q.2.2)
 termination_by s.length
 decreasing_by exact Rz a s i 1 0 d
def H5:By->Nat
 | []=>0
 | b::r=>if 45∈r then H5 r+1 else 0
def O8(s:By):List Nat × Nat:=
 if 1024<s.length then ([],3) else if s.any (λb=>p5 128 b.toNat) then ([],4)
 else if 256<H5 s then ([],3)
 else I2 (if H5 s=0 then s else s.drop (H5 s+1)) ((s.take (H5 s)).map (·.toNat)) 128 0 72 true
def W5:Nat->By->Option (List Nat)
 | 0,_=>some []
 | f+1,l=>if l=[] then some [] else if (ah1 l).1=65533/\(ah1 l).2=1 then none else (W5 f (l.drop (ah1 l).2)).map ((ah1 l).1::·)
def Dc(s:By):Option (List Nat):=W5 s.length s
def Er(s:By):Bool:=
 (O8 s).2==0&&!((O8 s).1.any λp=>p5 65 p&&p5 p 90)&&((O8 s).1.any λp=>p5 128 p)&&(Dr (O8 s).1).2==0&&(Dr (O8 s).1).1==s
def L7(b:UInt8):Bool:=(p5 97 b.toNat&&p5 b.toNat 122)||(p5 48 b.toNat&&p5 b.toNat 57)||b==45||b==95
def xnB:By:=[120,110,45,45]
def K6(s:By):Bool:=
 !s.isEmpty&&p5 s.length 63&&s.getD 0 0 !=45&&s.getD (s.length-1) 0 !=45&&s.all L7&&(!(xnB.isPrefixOf s)||Er (s.drop 4))
def I6(s:By):By × Nat:=match Dc s with
 | none=>([],4)
 | some p=>if 256<p.length then ([],3)
  else if p.length<s.length then (match Dc (B6 s) with
   | none=>([],14)
   | some q=>if (Dr q).2=0 then (if K6 (xnB++(Dr q).1) then (xnB++(Dr q).1,0) else ([],14)) else ([],14))
  else if K6 (B6 s) then (B6 s,0) else ([],14)
def R8:By->Option By
 | []=>some []
 | b::r=>if b=37 then (match r with
   | x::y::a=>if dig x<16/\dig y<16 then (R8 a).map (aa5 (16*dig x+dig y)::·) else none
   | _=>none)
  else (R8 r).map (b::·)
structure B5 where
 kind:Nat
 name:By
 v4:Nat
 v6:List Nat
 deriving DecidableEq
def z8:List Nat:=[0,0,0,0,0,0,0,0]
def L9:B5:=⟨0,[],0,z8⟩
def F7:List By->List By × Nat
 | []=>([],0)
 | x::r=>if (I6 x).2=0 then ((I6 x).1::(F7 r).1,(F7 r).2) else ([],(I6 x).2)
def G8(s:By):By:=if s.getLast? = some 46 then s.dropLast else s
def C4(s:By):B5 × Nat:=
 if 1024<s.length then (L9,3)
 else if s.head? = some 91 then (if s.getLast? = some 93/\2<=s.length then (match v6B ((s.take (s.length-1)).drop 1) with
   | some a=>(⟨3,[],0,a⟩,0)
   | none=>(L9,14)) else (L9,14))
 else match R8 s with
  | none=>(L9,14)
  | some t=>if F0 (G8 t) then (match pnB (G8 t) with
    | some v=>(⟨2,[],v,z8⟩,0)
    | none=>(L9,14))
   else if (F7 (pcs 46 (G8 t))).2=0 then (
    let name:=ak8 (F7 (pcs 46 (G8 t))).1 [46]
    if 253<name.length then (L9,3) else if F0 name then (L9,14) else (⟨1,name,0,z8⟩,0))
   else (L9,(F7 (pcs 46 (G8 t))).2)
def U9(s:By):Bool:=p5 s.length 253&&!(F0 s)&&(pcs 46 s).all K6
def J7(h:B5):Bool:=
 if h.kind=1 then U9 h.name&&h.v4==0&&h.v6==z8 else if h.kind=2 then h.name.isEmpty&&h.v6==z8 else if h.kind=3 then h.name.isEmpty&&h.v4==0 else false
def P0(h:B5):By:=if J7 h then (if h.kind=1 then h.name else if h.kind=2 then V3 h.v4 else 91::(Am h.v6++[93])) else []
def Cm(a b:By):Bool:=U9 a&&U9 b&&(a==b||(46::a).isSuffixOf b)
def A3(n:Nat):Bool:=decide (n<=1000000000)
theorem TV{n:Nat}:A3 n=true↔n<=1000000000:=by simp[A3]
def isS:List SV->Bool|[.str _]=>true|_=>false
def elS(a:List SV):By:=(a.getD 0 .nilp).gS
def O4(o:Option Nat):Nat:=o.getD 0
def u8n(c:Int):UInt8:=aa5 c.toNat
def Ae5(s p:By):By:=if p.isSuffixOf s then s.take (s.length-p.length) else s
def Hx(s p:By):By:=if p.isPrefixOf s then s.drop p.length else s
def ltN(v:Int)(n:Nat):Bool:=match v with
 | .ofNat m=>p5 (m+1) n
 | .negSucc _=>false
theorem E2{v:Int}{n:Nat}:ltN v n=true↔0<=v/\v<(n:Int):=by
 cases v with
 | ofNat m=>
  simp only[ltN,al2,Int.ofNat_eq_natCast];omega
 | negSucc m=>
  refine⟨λh=>(by cases h),λh=>?_⟩;have:=Int.negSucc_lt_zero m;omega
def R7(n:Int):Bool:=ltN (n+9223372036854775808) 18446744073709551616
theorem Yc{n:Int}:R7 n=true↔-9223372036854775808<=n/\n<9223372036854775808:=by unfold R7;rw[E2];constructor<;>rintro⟨a,b⟩<;>constructor<;>omega
def Jl(b:Nat):List PV->Tr
 | [.s (.int .i64 n)]=>.need (ltN n b) (.ret (.s (.str (aa6 (x4 n)))) [])
 | _=>.fail
def Mm(b:Nat)(args:List PV):Tr:=Jl b (C1 [[0]] args)
def gvs(s:By)(last:Bool):List Nat:=(P6 s last).getD []
def v6c(i:Nat)(s:By):Nat:=((v6B s).getD z8).getD i 0
def n8(a b c d e f g h:Int):List Nat:=[a.toNat,b.toNat,c.toNat,d.toNat,e.toNat,f.toNat,g.toNat,h.toNat]
def ok8(a b c d e f g h:Int):Bool:=[a,b,c,d,e,f,g,h].all λx=>ltN x 65536
def Yf:List SV->Bool|[.int .u16 n]=>ltN n 65536|_=>false
def elN(a:List SV):Nat:=(a.getD 0 .nilp).gI.toNat
def LN(s:By):Int:=Lib.index s [58,58]
def ptI(n:Int):Bool:=match n with | .ofNat m=>W4 m | .negSucc _=>false
def E5(b:UInt8):Int:=match Pi b with|some n=>n|none=>-1
def M0(k b:Int):Int:=max 1 (min 26 (k+36-b))
def Pc:List SV->Bool|[.int .i64 _]=>true|_=>false
def elI(a:List SV):Int:=(a.getD 0 .nilp).gI
def X8(l:List Int):By × Nat:=if 256<l.length then ([],3) else if l.all ptI then Dr (l.map x4) else ([],2)
def V0(b:Int):By->Int->Int->Int->Int × By × Int
 | [],i,w,k=>(4,[],i)
 | c::r,i,w,k=>if E5 c<0 then (4,c::r,i) else if 1099511627776<i+E5 c*w then (19,r,i+E5 c*w)
  else if E5 c<M0 k b then (0,r,i+E5 c*w) else if 1099511627776<w*(36-M0 k b) then (19,r,i+E5 c*w)
  else V0 b r (i+E5 c*w) (w*(36-M0 k b)) (k+36)
def NA(b:Int)(s:By)(i:Int):Int:=(V0 b s i 1 0).1
def NC(b:Int)(s:By)(i:Int):By:=(V0 b s i 1 0).2.1
def Vo(b:Int)(s:By)(i:Int):Int:=(V0 b s i 1 0).2.2
def Ni(l:List (List SV))(i:Nat)(n:Int):List (List SV):=l.take i++[SV.int .i64 n]::l.drop i
structure DS where
 rest:By
 n:Int
 i:Int
 b:Int
 st:Bool
 l:List (List SV)
def F8(s:DS):Int × DS:=
 if NA s.b s.rest s.i=0 then
  let c:Int:=s.l.length+1;let x:=Vo s.b s.rest s.i;let d:DS:={ rest:=NC s.b s.rest s.i,n:=s.n+Int.tdiv x c,i:=Int.tmod x c,b:=R5 (x-s.i).toNat c.toNat (!s.st),st:=true,l:=s.l }
  if ptI d.n then (if 256<c then (3,d) else (0,{ d with i:=d.i+1,l:=Ni s.l d.i.toNat d.n })) else (2,d)
 else (NA s.b s.rest s.i,{ s with rest:=NC s.b s.rest s.i,i:=Vo s.b s.rest s.i })
def L3(c:UInt8):By->Int
 | []=>-1
 | b::r=>if L3 c r<0 then (if b=c then 0 else -1) else L3 c r+1
def No(l:List Nat):List (List SV):=l.map λx:Nat=>[SV.int .i64 (x:Int)]
def Tb(s:By):List Nat:=(Dc s).getD []
def Ga(b:UInt8):Int:=if dig b<16 then dig b else -1
def Gh(s:By):By:=(R8 s).getD []
def Q9(s:By):B5 × Nat:=if s.getLast? = some 93/\2<=s.length then (match v6B ((s.take (s.length-1)).drop 1) with
 | some a=>(⟨3,[],0,a⟩,0)
 | none=>(L9,14)) else (L9,14)
def mkH(b:Int)(c:By)(v4:Int)(a:List Nat):B5:=⟨if ltN b 4 then b.toNat else 0,c,v4.toNat,a⟩
def Fu(n:Int)(l:List By):Bool:=l.all λs=>!(ltI n (s.length:Int))
def Cv5(s:By):Bool:=([91]:By).isPrefixOf s
attribute [simp] B9 E6 D1 Af5 B42 B41 Af6 Aw K7 F9
attribute [simp] vl
@[simp] theorem E7{n:Nat}(h:n<=1000000000):A3 n=true:=TV.2 h
@[simp] theorem Tj{v:Int}{n:Nat}(h:0<=v)(a:v<n):ltN v n=true:=E2.2 ⟨h,a⟩
theorem J9{n:Nat}(h:n<=1000000000:=by omega):A3 n=true:=E7 h
theorem N0{v:Int}{n:Nat}(h:0<=v:=by omega)(g:v<n:=by omega):ltN v n=true:=Tj h g
@[simp] theorem G3{m n:Nat}(h:m+n<4611686018427387904):E8 m n=true:=by simp[E8,h]
abbrev rv(v:PV)(H:List Blk):Option (PV × List Blk × Unit):=some (v,H,())
theorem L4{n:Nat}(h:A3 n=true):n<=1000000000:=TV.1 h
theorem D6(s:By)(i:Nat)(h:i<s.length):s.drop i=s.getD i 0::s.drop (i+1):=by rw[j9,b8 h,ak0,List.getElem_cons_drop]
theorem TZ(s:By)(i:Nat)(h:i<s.length):s.take (i+1)=s.take i++[s.getD i 0]:=by rw[List.take_add_one,j9,b8 h];rfl
theorem MU(s:By)(i:Nat)(h:i<s.length):(B6 (s.take (i+1))).map E4=(B6 (s.take i)).map E4++[E4 (X9 (s.getD i 0))]:=by unfold B6;rw[TZ s i h,ag3,ag3];rfl
theorem K9(b:UInt8):(b.toNat<65/\X9 b=b)\/(90<b.toNat/\X9 b=b)\/(65<=b.toNat/\b.toNat<=90/\((X9 b).toNat=b.toNat+32)):=by
 unfold X9;by_cases a:b.toNat<65
 ·refine .inl ⟨a,if_neg ?_⟩;intro h;have:=ad5.1 h.1;simp at this;omega
 ·by_cases c:90<b.toNat
  ·refine .inr (.inl ⟨c,if_neg ?_⟩);intro h;have:=ad5.1 h.2;simp at this;omega
  ·refine .inr (.inr ⟨by omega,by omega,?_⟩);rw[if_pos (by constructor<;>(rw[ad5];simp;omega)),UInt8.toNat_add];simp;omega
@[simp] theorem D4(s:By)(i:Nat):bAt s (i:Int)=((s.getD i 0).toNat:Int):=by simp[bAt]
@[simp] theorem Ay(s:By):bAt s 0=((s.getD 0 0).toNat:Int):=by simp[bAt]
@[simp] theorem Bx0(s:By):bAt s 1=((s.getD 1 0).toNat:Int):=by simp[bAt]
theorem Fz{c:Type}(s:List c)(a b:Nat):cut s (a:Int) (b:Int)=(s.take b).drop a:=by simp[cut]
@[simp] theorem Q6{b:Type}(s:List b)(a:Int):cut s a (s.length:Int)=s.drop a.toNat:=by simp[cut]
@[simp] theorem L2{a:Type}(s:List a)(b:Int):cut s 0 b=s.take b.toNat:=by simp[cut]
@[simp] theorem E3(l:List By):(D2 l).length=l.length:=by simp[D2]
@[simp] theorem U1(l:List By)(i:Nat):gX (D2 l) i 0=l.getD i []:=by
 unfold gX gC D2;by_cases h:i<l.length
 ·simp[j9,b8 h,SV.gS]
 ·simp[j9,x7 (show l.length<=i by omega),SV.gS]
@[simp] theorem Q2{l:List By}{i:Nat}(h:i<l.length):okE Ol (D2 l) i 0=true:=by unfold okE D2;simp[j9,b8 h,h,Ol,okS,SV.has]
theorem AD(a b:List By):D2 (a++b)=D2 a++D2 b:=by simp[D2]
theorem Kf(b:UInt8):u8n (b.toNat:Int)=b:=by simp[u8n]
theorem Ae8(b:UInt8):inR (b.toNat:Int) 256=true:=by have:=b.toNat_lt;exact F2
theorem Dy0{a b:UInt8}:((a.toNat:Int)==(b.toNat:Int))=(a==b):=by
 rw[ag2];simp only[beq_iff_eq];constructor
 ·intro h;exact UInt8.toNat_inj.1 (by omega)
 ·intro h;rw[h]
theorem S6(a:UInt8)(n:Nat)(h:n<256):((a.toNat:Int)==(n:Int))=(a==aa5 n):=by rw[<-Dy0];simp[x6 h]
theorem Fs(p s:By):p.isPrefixOf s=(decide (p.length<=s.length)&&(s.take p.length==p)):=by
 rw[ag2];simp only[List.isPrefixOf_iff_prefix,j2,decide_eq_true_eq,beq_iff_eq];constructor
 ·intro h;exact⟨h.length_le,(af7.1 h).symm⟩
 ·rintro⟨_,h⟩;exact af7.2 h.symm
theorem Pd(p s:By):p.isSuffixOf s=(decide (p.length<=s.length)&&(s.drop (s.length-p.length)==p)):=by
 rw[ag2];simp only[List.isSuffixOf_iff_suffix,j2,decide_eq_true_eq,beq_iff_eq];constructor
 ·intro h;exact⟨h.length_le,(af8.1 h).symm⟩
 ·rintro⟨_,h⟩;exact af8.2 h.symm
end
section
open Go Go.ChangeAt Go.ChangeShapes Go.Proofs Go.RowKit Go.WideShapes
set_option maxRecDepth 100000
theorem own:ownKnob j5.godebug=none:=by kernel_rfl
theorem Di1:laidOutB j5=true:=by kernel_rfl
noncomputable def gTy(g:Nat):Nat:=match j5.globals[g]? with|some x=>x.type|none=>0
noncomputable def dbT:Nat:=gTy 5
noncomputable def Dl6:Nat:=gTy 3
noncomputable def XK:Nat:=gTy 2
noncomputable def Df2:Nat:=gTy 1
noncomputable def XJ:Nat:=match j5.underlying XK with|some (.array _ e)=>e|_=>0
noncomputable def BP:Array Field:=match j5.underlying XJ with|some (.struct a)=>a|_=>#[]
noncomputable def QR:Field:=match BP.toList with|a::_=>a|_=>default
noncomputable def QS:Field:=match BP.toList with|_::a::_=>a|_=>default
theorem Dy5:BP[0]? = some QR:=by unfold QR BP XJ XK gTy;kernel_rfl
theorem Dy6:BP[1]? = some QS:=by unfold QS BP XJ XK gTy;kernel_rfl
def Fv:List (String × DataW Unit):=[("math/bits.deBruijn32tab", Rows.laid_math_bits_deBruijn32tab), ("math/bits.deBruijn64tab", Rows.laid_math_bits_deBruijn64tab), ("internal/strconv.uint64pow10", Rows.laid_internal_strconv_uint64pow10), ("unicode/utf8.acceptRanges", Rows.laid_unicode_utf8_acceptRanges), ("unicode/utf8.first", Rows.laid_unicode_utf8_first)]
theorem UC{W:World}{n:String}{g:Nat}{a:Array Value}(b:j5.globalNamed n=some g)(h:W.var? j5 n=some a):∃e x,W.heap[g]? = some (.cells a e x):=by
 unfold World.var? at h;rw[b,j4] at h;split at h
 ·rename_i c e x d;simp only[b9] at h;subst h;exact⟨e,x,d⟩
 ·cases h
theorem EC{W:World}{n:String}{g t e m:Nat}{k:IntKind}{f:List Int}(l:j5.globalNamed n=some g)(d:(j5.globals[g]?).map (·.type)=some t)(w:j5.underlying t=some (.array m e))(v:j5.underlying e=some (.int k))(a:j5.cellsOf e=1)(c:j5.cellsOf t=m)
  (h:ad1 j5 W n (ac9 k f)):∃e x,W.heap[g]? = some (.cells (f.map λz=>ad6 k z).toArray e x):=by
 obtain⟨y,A,o,i,p,q,r,j,u⟩:=h;obtain rfl:=p9 (l.symm.trans q);obtain rfl:=p9 (d.symm.trans r);have b:=Lib.cells_of_tab w v a c u;have:o=(f.map λz=>ad6 k z).toArray:=by rw[<-b]
 rw[this] at j;exact UC l j
theorem OS{H:Type}{enc:TypeId × Value->H}{P:Program}{w:World}{base:Nat}{sp:Nat->Bool}{held:Bool}{a:Nat}{t e:TypeId}{n:Nat}{b:List Value}{d:DataW H}{p:List MemPlace}(f:P.underlying t=some (.array n e))
  (h:ac6 enc P w base sp held a t b=some (d,p)):b.length=P.cellsOf t:=by
 cases a with
 | zero=>simp[ac6] at h
 | succ a=>
  simp only[ac6,f] at h;split at h
  ·rename_i c;simpa using c
  ·cases h
theorem B53{W:World}(C : j5.globalNamed "unicode/utf8.acceptRanges" = some 2)(h:ad1 j5 W "unicode/utf8.acceptRanges" ah0) :
  ∃e x,W.heap[2]? = some (.cells (Hn.map λz=>ad6 .u8 z).toArray e x):=by
 obtain⟨M,t,v,w,p,H,a,y,A⟩:=h;obtain rfl:=p9 (C.symm.trans H);have n:(j5.globals[2]?).map (·.type)=some XK:=by unfold XK;kernel_rfl
 obtain rfl:=p9 (n.symm.trans a);have F:j5.underlying XK=some (.array 16 XJ):=by unfold XK XJ;kernel_rfl
 have N:=OS F A;have I:j5.cellsOf XK=32:=by unfold XK;kernel_rfl
 have b:j5.cellsOf XJ=2:=by unfold XJ;kernel_rfl
 have K:∃j,j5.underlying XJ=some (.struct j)/\j.size=2/\∀(i:Nat) (f:Field),j[i]? = some f->j5.underlying f.type=some (.int .u8)/\f.offset=i/\j5.cellsOf f.type=1:=by
  refine⟨BP,by unfold XJ BP;kernel_rfl,by unfold BP;kernel_rfl,λi f m=>?_⟩;have:i<2:=by
   have:=(o0.1 m).1;rwa [show BP.size=2 by unfold BP;kernel_rfl] at this
  match i,this with
  | 0,_=>
   obtain rfl:=p9 (m.symm.trans (show BP[0]? = some QR from Dy5));exact⟨by unfold QR;kernel_rfl,by unfold QR;kernel_rfl,by unfold QR;kernel_rfl⟩
  | 1,_=>
   obtain rfl:=p9 (m.symm.trans (show BP[1]? = some QS from Dy6));exact⟨by unfold QS;kernel_rfl,by unfold QS;kernel_rfl,by unfold QS;kernel_rfl⟩
 obtain⟨j,o,r,u⟩:=K;have l:v.toList=Hn.map λz=>ad6 .u8 z:=by
  have D:(Hn.map λz=>ad6 .u8 z).length=32:=by rw[y5];rfl
  apply ai8;intro q;by_cases J:q<32
  ·obtain⟨k,d,O,c,B⟩:=Lib.array_elem F A (q / 2) (by omega);simp only[ab7,ah9 (show q / 2<16 by omega),ac5,b9] at c;subst c;rw[b] at B;have L:=Lib.ints_of_struct o u (by rw[b,r]) B;have e0:=congrArg (·[q % 2]?) L;simp only[ac8,List.getElem?_drop] at e0;rw[R0,show q / 2*2+q % 2=q by omega] at e0;rw[e0];unfold Hn;have G:∀g:Nat->Value,(ac3 g (ae4 32))[q]? = some (g q):=λg=>by
    rw[ab7,ah9 J];rfl
   rw[al8,G];rcases Nat.mod_two_eq_zero_or_one q with a|a
   ·simp[a]
   ·simp[a]
  ·rw[x7 (by omega),x7 (by omega)]
 have:v=(Hn.map λz=>ad6 .u8 z).toArray:=by rw[<-l]
 rw[this] at y;exact UC C y
theorem A99{C:Cfg}(r:C.G=GX){W:World}(b:laidMet j5 Fv W)(p:W.ShapedOpen j5):GOK C (· < W.heap.size) W:=by
 have lt:∀{g:Nat} {o:Obj},W.heap[g]? = some o->g<W.heap.size:=λh=>(o0.1 h).1
 have I:ad1 j5 W "math/bits.deBruijn64tab" (ac9 .u8 (ae8.map λn:Nat=>(n:Int))):=ad2 b (by rw [show (ac9 .u8 (ae8.map λn:Nat=>(n:Int)):DataW Unit)=Rows.laid_math_bits_deBruijn64tab by kernel_rfl];simp [Fv])
 have J:ad1 j5 W "internal/strconv.uint64pow10" (ac9 .u64 ai6):=ad2 b (by rw [show (ac9 .u64 ai6:DataW Unit)=Rows.laid_internal_strconv_uint64pow10 by kernel_rfl];simp [Fv])
 have K:ad1 j5 W "unicode/utf8.acceptRanges" ah0:=ad2 b (by rw [show ah0=Rows.laid_unicode_utf8_acceptRanges by kernel_rfl];simp [Fv])
 have L:ad1 j5 W "unicode/utf8.first" (ac9 .u8 ai5):=ad2 b (by rw [show (ac9 .u8 ai5:DataW Unit)=Rows.laid_unicode_utf8_first by kernel_rfl];simp [Fv])
 have y:=EC (g:=5) (t:=dbT) (e:=5) (m:=64) (by kernel_rfl) (by unfold dbT;kernel_rfl) (by unfold dbT;kernel_rfl) (by kernel_rfl) (by kernel_rfl) (by unfold dbT;kernel_rfl) I;have A:=EC (g:=3) (t:=Dl6) (e:=134) (m:=20) (by kernel_rfl) (by unfold Dl6;kernel_rfl) (by unfold Dl6;kernel_rfl) (by kernel_rfl) (by kernel_rfl) (by unfold Dl6;kernel_rfl) J;have B:=B53 (by kernel_rfl) K;have D:=EC (g:=1) (t:=Df2) (e:=5) (m:=256) (by kernel_rfl) (by unfold Df2;kernel_rfl) (by unfold Df2;kernel_rfl) (by kernel_rfl) (by kernel_rfl) (by unfold Df2;kernel_rfl) L;have F:=cell_of_shapedOpen_int (k:=.i64) (g:=0) (t:=3) (zero:=#[.int .i64 0]) p (of_decide_eq_true (by kernel_rfl)) (by kernel_rfl) rfl (by kernel_rfl) (by kernel_rfl) (by kernel_rfl);refine⟨λg k w h=>?_,λg h=>?_⟩
 ·rw[r] at h;simp only[GX] at h;have key:∀{q:Nat} {v:IntKind} {a:List Int},(∃e x,W.heap[q]? = some (.cells (a.map λz=>ad6 v z).toArray e x))->g=q->(v,a)=(k,w)->g<W.heap.size/\∃e x,W.heap[g]? = some (.cells (w.map λz=>ad6 k z).toArray e x):=λc G H=>by
   subst G;cases H;obtain⟨e,x,c⟩:=c;exact⟨lt c,e,x,c⟩
  cases d:w8 g 1 with
  | true=>rw[d,cond_true] at h;exact key D (k9 d) (p9 h)
  | false=>
   rw[d,cond_false] at h;cases f:w8 g 2 with
   | true=>rw[f,cond_true] at h;exact key B (k9 f) (p9 h)
   | false=>
    rw[f,cond_false] at h;cases i:w8 g 3 with
    | true=>rw[i,cond_true] at h;exact key A (k9 i) (p9 h)
    | false=>
     rw[i,cond_false] at h;cases j:w8 g 5 with
     | true=>rw[j,cond_true] at h;exact key y (k9 j) (p9 h)
     | false=>rw[j,cond_false] at h;cases h
 ·rw[r] at h;have e:=k9 h;subst e;obtain⟨m,u⟩:=F;refine⟨?_,m,u⟩;apply Classical.byContradiction;intro l;simp[ae9,ab1 (af9 l)] at u
theorem DH(os:Os)(args:Array Value):((ac4 j5 os Fv).forCall (λ_ _=>0) ⟨#[],args,[]⟩).Shaped j5:=
 World.shaped_of_ZipB (by kernel_rfl) (by kernel_rfl)
theorem PJ(os:Os)(args:Array Value):laidMetH j5 Fv ((ac4 j5 os Fv).forCall (λ_ _=>0) ⟨#[],args,[]⟩).memory:=by rw[ae6 _ _ _ (by kernel_rfl)];exact laidMet_laidAll _ (by kernel_rfl) (by kernel_rfl)
theorem Bb2{H:Type}{enc:TypeId × Value->H}{os:Os}(j:os.Started){C:Cfg}(u:C.P=j5)(r:C.G=GX)(Z:XOK C)(W:Ow C){f tb:Nat}{fn:Func}{c:Code}{s:ChangeSpec}{g:List PathCond}{apart fresh handsOn again:Bool}(l:j5.inits.idxOf? f=none)(x:j5.funcs[f]? = some fn)(hb:fn.body=some c)(n:(fn.name == "runtime.NumGoroutine")=false)
  (F:∀t∈fn.params.toList,(j5.readableRec t=true/\t<j5.types.size)/\(Fm j5 20 t).isSome=true) (z:fn.resultTypes = #[tb]) (m:j5.underlying tb=some .bool) (q:s.vars=[])
  (p:∀ds:List (DataW H),ds.length=fn.params.toList.length->s.fn H ds = { results:=[.lit (.bool true)],args:=ds })
  (a:Array Value) (h:Nat) (o:Input.okWideB j5 ((ac4 j5 os Fv).forCall (λ_ _=>0) ⟨#[],a,[]⟩) f ⟨#[],a,[]⟩=true)
  (Ql:s.preB enc j5 fn g apart ((ac4 j5 os Fv).forCall (λ_ _=>0) ⟨#[],a,[]⟩).memory a h=true)
  (J:s.sizedB enc j5 fn apart ((ac4 j5 os Fv).forCall (λ_ _=>0) ⟨#[],a,[]⟩).memory a h=true)
  (D:∀args,Ml j5 fn.params.toList args->∃d T,evC C d Unit noY f args [] ()=some (.s (.bool true),T,())) :
  ReturnsInHanded {} aj3 os f .any (λw args=>(s.pre enc j5 fn g apart w args/\laidMetH j5 Fv w)/\sizedMet enc j5 fn (OpenSpec.ofChange s) apart w args) (s.post enc j5 fn apart fresh handsOn again):=by
 obtain⟨P,G,X,R,a0,lf,Q,M,xp,L,N,Y,S,nt,a1⟩:=C;simp only at u r;subst u;refine returnsInHanded_of_calls (C:=aj3) own j l
  (ChangeSpec.witness_shaped (enc:=enc) (C:=aj3) (os:=os) (X:=λw _=>laidMetH j5 Fv w) false (ac4 j5 os Fv) a h (World.laidAll_os _ _ _) (DH os a) o Ql J (PJ os a)) ?_
 intro w b i _ I _ o Ql A;obtain⟨_,_,_,B,y,_,_,_,_,Pj⟩:=o;have e:B=fn:=p9 (y.symm.trans x);subst e;obtain⟨⟨⟨ds,U,k,hw,hc⟩,O⟩,hz⟩:=Ql;have K:=DataW.Whole.of_heap (w':=w.forCall b i) (by rfl) hw;have V:laidMet j5 Fv (w.forCall b i):=by
  rw[ae6 _ _ _ (by kernel_rfl)] at O;exact laidMet.of_heap (w':=w.forCall b i) (by rfl) O
 refine(Cs3 (apart:=apart) (fresh:=fresh) (handsOn:=handsOn) (again:=again) Z W follows Di1 x hb n F z m q p D (w.forCall b i) (A99 r V I) w.heap.size i.args ds U k Pj K).mono λe W' ⟨v,he,F⟩=>?_
 subst he;exact ChangeSpec.post_blind F
end
section
open Go Go.Proofs
set_option maxRecDepth 100000
section
def Tu:List PV->Tr
 | [.s (.str s),.s (.str p),.s (.int .i64 v),.s (.int .i64 n)]=>.need (A3 (a8 s)) (.need ((a8 p)==1) (.need (v==(0:Int)) (.need (n==((-1):Int)) (.ret (.vw 0 0 (a8 (pcs (o6 p 0 0) s))) [.arr false 9 1 (D2 (pcs (o6 p 0 0) s))]))))
 | _=>.fail
def AS(args:List PV):Tr:=Tu (C1 [[0],[0],[0],[0]] args)
def Uf:List PV->Tr
 | [.s (.str s),.s (.str p)]=>.need (A3 (a8 s)) (.need ((a8 p)==1) (.ret (.vw 0 0 (a8 (pcs (o6 p 0 0) s))) [.arr false 9 1 (D2 (pcs (o6 p 0 0) s))]))
 | _=>.fail
def QQ(args:List PV):Tr:=Uf (C1 [[0],[0]] args)
def VH:List PV->Tr
 | [.s (.str s),.s (.str p)]=>.need (A3 (a8 s)) (.ret (.s (.bool (ad8 p s))) [])
 | _=>.fail
def VG(args:List PV):Tr:=VH (C1 [[0],[0]] args)
def UX:List PV->Tr
 | [.s (.str s),.s (.str p)]=>.need (A3 (a8 s)) (.ret (.s (.bool (ad8 p s))) [])
 | _=>.fail
def IJ(args:List PV):Tr:=UX (C1 [[0],[0]] args)
def VK:List PV->Tr
 | [.s (.str s),.s (.str p)]=>.need (A3 (a8 s)) (.ret (.s (.bool (ak4 p s))) [])
 | _=>.fail
def A17(args:List PV):Tr:=VK (C1 [[0],[0]] args)
def UY:List PV->Tr
 | [.s (.str s),.s (.str p)]=>.need (A3 (a8 s)) (.ret (.s (.bool (ak4 p s))) [])
 | _=>.fail
def Cn7(args:List PV):Tr:=UY (C1 [[0],[0]] args)
def IT:List PV->Tr
 | [.s (.str s),.s (.str p)]=>.need (A3 (a8 s)) (.ret (.s (.str (Ae5 s p))) [])
 | _=>.fail
def Bv0(args:List PV):Tr:=IT (C1 [[0],[0]] args)
def KB:List PV->Tr
 | [.s (.str s),.s (.str p)]=>.need (A3 (a8 s)) (.ret (.s (.str (Ae5 s p))) [])
 | _=>.fail
def Bw7(args:List PV):Tr:=KB (C1 [[0],[0]] args)
def IO:List PV->Tr
 | [.s (.str s),.s (.str p)]=>.need (A3 (a8 s)) (.ret (.tup [.s (.str (Hx s p)),.s (.bool (ad8 p s))]) [])
 | _=>.fail
def Bu7(args:List PV):Tr:=IO (C1 [[0],[0]] args)
def UK:List PV->Tr
 | [.s (.str s),.s (.str p)]=>.need (A3 (a8 s)) (.ret (.tup [.s (.str (Hx s p)),.s (.bool (ad8 p s))]) [])
 | _=>.fail
def A10(args:List PV):Tr:=UK (C1 [[0],[0]] args)
def WX:List PV->Tr
 | [.s (.str s),.s (.str p)]=>.need (A3 (a8 s)) (.ret (.s (.int .i64 (Lib.index s p))) [])
 | _=>.fail
def JV(args:List PV):Tr:=WX (C1 [[0],[0]] args)
def WU:List PV->Tr
 | [.s (.str s),.s (.str p)]=>.need ((a8 p)==1) (.ret (.s (.int .i64 (↑(List.count (o6 p 0 0) s):Int))) [])
 | _=>.fail
def A28(args:List PV):Tr:=WU (C1 [[0],[0]] args)
def IE:List PV->Tr
 | [.s (.str s),.s (.int .i64 n)]=>.fail
 | _=>.fail
def Ky(args:List PV):Tr:=IE (C1 [[0],[0]] args)
def AR:List PV->Tr
 | [.s (.str s),.s (.str p),.s (.int .i64 v),.s (.int .i64 n)]=>.need (A3 (a8 s)) (.need ((a8 p)==1) (.need (v==(0:Int)) (.need (n==((-1):Int)) (.ret (.s (.sl false false 1 (D2 (pcs (o6 p 0 0) s)))) []))))
 | _=>.fail
def Ah0(args:List PV):Tr:=AR (C1 [[0],[0],[0],[0]] args)
def BK:List PV->Tr
 | [.s (.str s),.s (.str p)]=>.need (A3 (a8 s)) (.need ((a8 p)==1) (.ret (.s (.sl false false 1 (D2 (pcs (o6 p 0 0) s)))) []))
 | _=>.fail
def Wt(args:List PV):Tr:=BK (C1 [[0],[0]] args)
def VD:List PV->Tr
 | [.s (.int .i64 n)]=>.need (ltN n 4294967296) (.ret (.s (.str (aa6 (x4 n)))) [])
 | _=>.fail
def A15(args:List PV):Tr:=VD (C1 [[0]] args)
def VF:List PV->Tr
 | [.s (.str s)]=>.need (A3 (a8 s)) (.ret (.s (.str (B6 s))) [])
 | _=>.fail
def A16(args:List PV):Tr:=VF (C1 [[0]] args)
def UV:List PV->Tr
 | [.s (.str s)]=>.need (A3 (a8 s)) (.ret (.s (.bool (Z1 s))) [])
 | _=>.fail
def A12(args:List PV):Tr:=UV (C1 [[0]] args)
def UN:List PV->Tr
 | [.s (.str s),.s (.int .i64 base)]=>.need (A3 (a8 s)) (.need (ltN base 17) (.ret (.tup [.s (.int .i64 (↑(O4 (F1 (x4 base) 0 s)):Int)),.s (.bool (p4 (F1 (x4 base) 0 s)))]) []))
 | _=>.fail
def UM(args:List PV):Tr:=UN (C1 [[0],[0]] args)
def A18:List PV->Tr
 | [.s (.str s)]=>.need (A3 (a8 s)) (.ret (.tup [.s (.int .i64 (↑(O4 (Ae s)):Int)),.s (.bool (p4 (Ae s)))]) [])
 | _=>.fail
def Co0(args:List PV):Tr:=A18 (C1 [[0]] args)
def IX:List PV->Tr
 | [.s (.str s)]=>.need (A3 (a8 s)) (.ret (.s (.sl false false 1 (D2 (C9 s)))) [])
 | _=>.fail
def VT(args:List PV):Tr:=IX (C1 [[0]] args)
def Tv:List PV->Tr
 | [.s (.str s)]=>.need (A3 (a8 s)) (.ret (.s (.bool (F0 s))) [])
 | _=>.fail
def Rp(args:List PV):Tr:=Tv (C1 [[0]] args)
def VX:List PV->Tr
 | [.s (.str s)]=>.need (A3 (a8 s)) (.ret (.tup [.s (.int .u32 (↑(O4 (pnB s)):Int)),.s (.bool (p4 (pnB s)))]) [])
 | _=>.fail
def Co2(args:List PV):Tr:=VX (C1 [[0]] args)
def A33:List PV->Tr
 | [.s (.str s)]=>.need (A3 (a8 s)) (.ret (.tup [.s (.int .u32 (↑(O4 (v4B s)):Int)),.s (.bool (p4 (v4B s)))]) [])
 | _=>.fail
def Dw2(args:List PV):Tr:=A33 (C1 [[0]] args)
def A32:List PV->Tr
 | [.s (.int .u32 v)]=>.need (ltN v 4294967296) (.ret (.s (.str (V3 (x4 v)))) [])
 | _=>.fail
def Dw1(args:List PV):Tr:=A32 (C1 [[0]] args)
def Tw:List PV->Tr
 | [.s (.str s)]=>.need (A3 (a8 s)) (.ret (.s (.bool ((not (y8 s))&&(p4 (F1 10 0 s))))) [])
 | _=>.fail
def QM(args:List PV):Tr:=Tw (C1 [[0]] args)
def WH:List PV->Tr
 | [.s (.str s)]=>.need (A3 (a8 s)) (.ret (.s (.str (B6 s))) [])
 | _=>.fail
def A25(args:List PV):Tr:=WH (C1 [[0]] args)
def BF:List PV->Tr
 | [.s (.str s),.s (.int .u8 c)]=>.need (A3 (a8 s)) (.need (inR c 256) (.ret (.s (.sl false false 1 (D2 (pcs (u8n c) s)))) []))
 | _=>.fail
def Kz(args:List PV):Tr:=BF (C1 [[0],[0]] args)
def A11:List PV->Tr
 | [.s (.int .i64 n)]=>.need (ltN n 4294967296) (.ret (.s (.str (aa6 (x4 n)))) [])
 | _=>.fail
def AQ(args:List PV):Tr:=A11 (C1 [[0]] args)
def WC:List PV->Tr
 | [.s (.int .u8 b)]=>.need (inR b 256) (.ret (.s (.int .i64 (↑(dig (u8n b)):Int))) [])
 | _=>.fail
def Co4(args:List PV):Tr:=WC (C1 [[0]] args)
def WJ:List PV->Tr
 | [.s (.str s)]=>.need (A3 (a8 s)) (.ret (.tup [.s (.int .i64 (↑(O4 (Ae s)):Int)),.s (.bool (p4 (Ae s)))]) [])
 | _=>.fail
def A26(args:List PV):Tr:=WJ (C1 [[0]] args)
def BD:List PV->Tr
 | [.s (.str s)]=>.need (A3 (a8 s)) (.ret (.s (.sl false false 1 (D2 (C9 s)))) [])
 | _=>.fail
def JK(args:List PV):Tr:=BD (C1 [[0]] args)
def Pq:List PV->Tr
 | [.s (.str s)]=>.need (A3 (a8 s)) (.ret (.s (.bool (F0 s))) [])
 | _=>.fail
def Ub(args:List PV):Tr:=Pq (C1 [[0]] args)
def JM:List PV->Tr
 | [.s (.str s)]=>.need (A3 (a8 s)) (.ret (.tup [.s (.int .u32 (↑(O4 (pnB s)):Int)),.s (.bool (p4 (pnB s)))]) [])
 | _=>.fail
def Bw0(args:List PV):Tr:=JM (C1 [[0]] args)
def WB:List PV->Tr
 | [.s (.str s)]=>.need (A3 (a8 s)) (.ret (.tup [.s (.int .i64 (↑(O4 (oct s)):Int)),.s (.bool (p4 (oct s)))]) [])
 | _=>.fail
def Co3(args:List PV):Tr:=WB (C1 [[0]] args)
def WQ:List PV->Tr
 | [.s (.str s)]=>.need (A3 (a8 s)) (.ret (.tup [.s (.int .u32 (↑(O4 (v4B s)):Int)),.s (.bool (p4 (v4B s)))]) [])
 | _=>.fail
def Co8(args:List PV):Tr:=WQ (C1 [[0]] args)
def WO:List PV->Tr
 | [.s (.int .u32 v)]=>.need (ltN v 4294967296) (.ret (.s (.str (V3 (x4 v)))) [])
 | _=>.fail
def Co7(args:List PV):Tr:=WO (C1 [[0]] args)
def UR:List PV->Tr
 | [.s (.str s)]=>.need (A3 (a8 s)) (.ret (.tup [.s (.int .u16 (↑(O4 (grp s)):Int)),.s (.bool (p4 (grp s)))]) [])
 | _=>.fail
def Cn3(args:List PV):Tr:=UR (C1 [[0]] args)
def IH:List PV->Tr
 | [.s (.str s),.s (.bool last)]=>.need (A3 (a8 s)) (.ret (.tup [.s (.sl (y8 (gvs s last)) (y8 (gvs s last)) 1 (D3 (gvs s last))),.s (.bool (p4 (P6 s last)))]) [])
 | _=>.fail
def Bu4(args:List PV):Tr:=IH (C1 [[0],[0]] args)
def A36:List PV->Tr
 | [.s (.str s)]=>.need (A3 (a8 s)) (.ret (.tup [.agg [.s (.int .u16 (↑(v6c 0 s):Int)),.s (.int .u16 (↑(v6c 1 s):Int)),.s (.int .u16 (↑(v6c 2 s):Int)),.s (.int .u16 (↑(v6c 3 s):Int)),.s (.int .u16 (↑(v6c 4 s):Int)),.s (.int .u16 (↑(v6c 5 s):Int)),.s (.int .u16 (↑(v6c 6 s):Int)),.s (.int .u16 (↑(v6c 7 s):Int))],.s (.bool (p4 (v6B s)))]) [])
 | _=>.fail
def Dw5(args:List PV):Tr:=A36 (C1 [[0]] args)
def KH:List PV->Tr
 | [.agg [.s (.int .u16 a),.s (.int .u16 b),.s (.int .u16 c),.s (.int .u16 d),.s (.int .u16 e),.s (.int .u16 f),.s (.int .u16 g),.s (.int .u16 h)]]=>.need (ok8 a b c d e f g h) (.ret (.tup [.s (.int .i64 (↑((zGo (n8 a b c d e f g h) 0 0 0)).1:Int)),.s (.int .i64 (↑((zGo (n8 a b c d e f g h) 0 0 0)).2:Int))]) [])
 | _=>.fail
def Bw8(args:List PV):Tr:=KH (C1 [[0,0,0,0,0,0,0,0]] args)
def Cp3:List PV->Tr
 | [.s (.int .u64 x)]=>.need (x==(16:Int)) (.ret (.s (.int .i64 (4:Int))) [])
 | _=>.fail
def Dy4(args:List PV):Tr:=Cp3 (C1 [[0]] args)
def IL:List PV->Tr
 | [.s (.int .i64 x)]=>.need (x==(16:Int)) (.ret (.s (.bool true)) [])
 | _=>.fail
def VC(args:List PV):Tr:=IL (C1 [[0]] args)
def IF:List PV->Tr
 | [.s (.sl c a 0 ds),.s (.int .u64 v),.s (.int .i64 b),.s (.bool neg),.s (.bool app)]=>.need (ltN v 65536) (.need (b==(16:Int)) (.need (not neg) (.need (not app) (.ret (.tup [.s (.sl true true 1 List.nil),.s (.str (P9 (x4 v)))]) []))))
 | _=>.fail
def UP(args:List PV):Tr:=IF (C1 [[0],[0],[0],[0],[0]] args)
def IK:List PV->Tr
 | [.s (.int .u64 v),.s (.int .i64 b)]=>.need (ltN v 65536) (.need (b==(16:Int)) (.ret (.s (.str (P9 (x4 v)))) []))
 | _=>.fail
def VB(args:List PV):Tr:=IK (C1 [[0],[0]] args)
def UQ:List PV->Tr
 | [.s (.int .u64 v),.s (.int .i64 b)]=>.need (ltN v 65536) (.need (b==(16:Int)) (.ret (.s (.str (P9 (x4 v)))) []))
 | _=>.fail
def Cn2(args:List PV):Tr:=UQ (C1 [[0],[0]] args)
def JY:List PV->Tr
 | [.s (.sl b a 1 l),.s (.str p)]=>.need (ai7 l isS) (.need (A3 (a8 (ak8 (ac3 elS l) p))) (.need (A3 (a8 l)) (.ret (.s (.str (ak8 (ac3 elS l) p))) [])))
 | _=>.fail
def XA(args:List PV):Tr:=JY (C1 [[1],[0]] args)
def WW:List PV->Tr
 | [.s (.str s),.s (.str p)]=>.need (A3 (a8 s)) (.ret (.tup [.s (.str ((ah6 s p)).1),.s (.str (((ah6 s p)).2).1),.s (.bool (((ah6 s p)).2).2)]) [])
 | _=>.fail
def A29(args:List PV):Tr:=WW (C1 [[0],[0]] args)
def A35:List PV->Tr
 | [.s (.sl b a 1 l)]=>.need (ai7 l Yf) (.need (p5 (a8 l) 8) (.ret (.s (.str (K8 (ac3 elN l)))) []))
 | _=>.fail
def Dw4(args:List PV):Tr:=A35 (C1 [[1]] args)
def A34:List PV->Tr
 | [.agg [.s (.int .u16 a),.s (.int .u16 b),.s (.int .u16 c),.s (.int .u16 d),.s (.int .u16 e),.s (.int .u16 f),.s (.int .u16 g),.s (.int .u16 h)]]=>.need (ok8 a b c d e f g h) (.ret (.s (.str (Am (n8 a b c d e f g h)))) [])
 | _=>.fail
def Dw3(args:List PV):Tr:=A34 (C1 [[0,0,0,0,0,0,0,0]] args)
def WE:List PV->Tr
 | [.s (.str s)]=>.need (A3 (a8 s)) (.ret (.tup [.s (.int .u16 (↑(O4 (grp s)):Int)),.s (.bool (p4 (grp s)))]) [])
 | _=>.fail
def Co5(args:List PV):Tr:=WE (C1 [[0]] args)
def JC:List PV->Tr
 | [.s (.str s),.s (.bool last)]=>.need (A3 (a8 s)) (.ret (.tup [.s (.sl (y8 (gvs s last)) (y8 (gvs s last)) 1 (D3 (gvs s last))),.s (.bool (p4 (P6 s last)))]) [])
 | _=>.fail
def Bv4(args:List PV):Tr:=JC (C1 [[0],[0]] args)
def Tx:List PV->Tr
 | [.s (.str s)]=>.need (A3 (a8 s)) (.ret (.s (.int .i64 (LN s))) [])
 | _=>.fail
def QN(args:List PV):Tr:=Tx (C1 [[0]] args)
def WS:List PV->Tr
 | [.s (.str s)]=>.need (A3 (a8 s)) (.ret (.tup [.agg [.s (.int .u16 (↑(v6c 0 s):Int)),.s (.int .u16 (↑(v6c 1 s):Int)),.s (.int .u16 (↑(v6c 2 s):Int)),.s (.int .u16 (↑(v6c 3 s):Int)),.s (.int .u16 (↑(v6c 4 s):Int)),.s (.int .u16 (↑(v6c 5 s):Int)),.s (.int .u16 (↑(v6c 6 s):Int)),.s (.int .u16 (↑(v6c 7 s):Int))],.s (.bool (p4 (v6B s)))]) [])
 | _=>.fail
def Cp0(args:List PV):Tr:=WS (C1 [[0]] args)
def JF:List PV->Tr
 | [.s (.int .u16 v)]=>.need (ltN v 65536) (.ret (.s (.str (P9 (x4 v)))) [])
 | _=>.fail
def Bv7(args:List PV):Tr:=JF (C1 [[0]] args)
def WR:List PV->Tr
 | [.agg [.s (.int .u16 a),.s (.int .u16 b),.s (.int .u16 c),.s (.int .u16 d),.s (.int .u16 e),.s (.int .u16 f),.s (.int .u16 g),.s (.int .u16 h)]]=>.need (ok8 a b c d e f g h) (.ret (.s (.str (Am (n8 a b c d e f g h)))) [])
 | _=>.fail
def Co9(args:List PV):Tr:=WR (C1 [[0,0,0,0,0,0,0,0]] args)
def AY:List PV->Tr
 | [.s (.int .i64 n)]=>.ret (.s (.bool (ptI n))) []
 | _=>.fail
def Pp(args:List PV):Tr:=AY (C1 [[0]] args)
def AX:List PV->Tr
 | [.s (.int .i64 d),.s (.int .i64 c),.s (.bool f)]=>.need (ltN d 1152921504606846976) (.need (ltN c 1000000) (.need (ltI (0:Int) c) (.ret (.s (.int .i64 (↑(R5 (x4 d) (x4 c) f):Int))) [])))
 | _=>.fail
def Po(args:List PV):Tr:=AX (C1 [[0],[0],[0]] args)
def VV:List PV->Tr
 | [.s (.int .i64 d)]=>.need (ltN d 36) (.ret (.s (.int .u8 (↑(am5 (Ba (x4 d))):Int))) [])
 | _=>.fail
def A19(args:List PV):Tr:=VV (C1 [[0]] args)
def VZ:List PV->Tr
 | [.s (.int .u8 b)]=>.need (inR b 256) (.ret (.s (.int .i64 (E5 (u8n b)))) [])
 | _=>.fail
def A21(args:List PV):Tr:=VZ (C1 [[0]] args)
def VY:List PV->Tr
 | [.s (.int .i64 b)]=>.ret (.fnr (Fn.func 176) [] [.ptr 1 0 0,.ptr 0 0 0]) [.box [.s (.int .i64 b)],.box [.s (.int .i64 (0:Int))]]
 | _=>.fail
def IY(args:List PV):Tr:=VY (C1 [[0]] args)
def Rq:List PV->List Blk->Tr
 | [.ptr 0 0 0,.ptr 1 0 0],[.box [.s (.int .i64 k)],.box [.s (.int .i64 b)]]=>.need (ltN k 1000000000000) (.need (ltN b 1000000) (.ret (.s (.int .i64 (M0 k b))) [.box [.s (.int .i64 (Int.add k (36:Int)))],.box [.s (.int .i64 b)]]))
 | _,_=>.fail
def VR:List PV->List Blk->Tr
 | [.fl 0,.s (.int .i64 q),.s (.int .i64 b)],[.arr z 5 1 l]=>.need (ltN q 1152921504606846976) (.need (ltN b 1000000) (.need (p5 (a8 l) 100000) (.ret (.fl 0) [.arr z 5 1 (List.append l (ac3 E4 (Q7 (x4 q) 0 (x4 b))))])))
 | _,_=>.fail
def VW:List PV->Tr
 | [.s (.sl b a 1 p)]=>.need (ai7 p Pc) (.ret (.tup [.s (.str ((X8 (ac3 elI p))).1),.s (.int .i64 (↑((X8 (ac3 elI p))).2:Int))]) [])
 | _=>.fail
def A20(args:List PV):Tr:=VW (C1 [[1]] args)
def WZ:List PV->List Blk->Tr
 | [.fl 0,.s (.int .i64 i),.fl 1],[.arr z 3 1 l,.arr false 3 1 [[.int .i64 n]]]=>.need (ltN i (Nat.add (a8 l) 1)) (.need (p5 (a8 l) 100000) (.ret (.fl 0) [.arr z 3 1 (Ni l (x4 i) n),.arr false 3 1 [[.int .i64 n]]]))
 | _,_=>.fail
def UO:List PV->List Blk->Tr
 | [.ptr 0 0 0],[.box [.s (.str a),.fl 1,.s (.int .i64 n),.s (.int .i64 i),.s (.int .i64 b),.s (.bool c)],.arr z 3 1 l]=>.need (A3 (a8 a)) (.need (ltN b 1000000) (.need (ltN i 1099511627777) (.ret (.s (.int .i64 (NA b a i))) [.box [.s (.str (NC b a i)),.fl 1,.s (.int .i64 n),.s (.int .i64 (Vo b a i)),.s (.int .i64 b),.s (.bool c)],.arr z 3 1 l])))
 | _,_=>.fail
def GN:List PV->List Blk->Tr
 | [.ptr 0 0 0],[.box [.s (.str a),.fl 1,.s (.int .i64 n),.s (.int .i64 i),.s (.int .i64 b),.s (.bool c)],.arr z 3 1 l]=>.need (A3 (a8 a)) (.need (ltN b 1000000) (.need (ltN i 1099511627777) (.need (ltN n 1152921504606846976) (.need (p5 (a8 l) 100000) (.ret (.s (.int .i64 ((F8 (DS.mk a n i b c l))).1)) [.box [.s (.str (DS.rest ((F8 (DS.mk a n i b c l))).2)),.fl 1,.s (.int .i64 (DS.n ((F8 (DS.mk a n i b c l))).2)),.s (.int .i64 (DS.i ((F8 (DS.mk a n i b c l))).2)),.s (.int .i64 (DS.b ((F8 (DS.mk a n i b c l))).2)),.s (.bool (DS.st ((F8 (DS.mk a n i b c l))).2))],.arr z 3 1 (DS.l ((F8 (DS.mk a n i b c l))).2)])))))
 | _,_=>.fail
def AU:List PV->Tr
 | [.s (.str s),.s (.int .u8 c)]=>.need (A3 (a8 s)) (.need (inR c 256) (.ret (.s (.int .i64 (L3 (u8n c) s))) []))
 | _=>.fail
def Ah2(args:List PV):Tr:=AU (C1 [[0],[0]] args)
def IN:List PV->Tr
 | [.s (.str s),.s (.int .u8 c)]=>.need (A3 (a8 s)) (.need (inR c 256) (.ret (.s (.int .i64 (L3 (u8n c) s))) []))
 | _=>.fail
def GO(args:List PV):Tr:=IN (C1 [[0],[0]] args)
def VU:List PV->Tr
 | [.s (.str s)]=>.need (A3 (a8 s)) (.ret (.tup [.s (.sl (y8 ((O8 s)).1) (y8 ((O8 s)).1) 1 (No ((O8 s)).1)),.s (.int .i64 (↑((O8 s)).2:Int))]) [])
 | _=>.fail
def Co1(args:List PV):Tr:=VU (C1 [[0]] args)
def Ag8:List PV->Tr
 | [.s (.str t)]=>.fail
 | _=>.fail
def Wq(args:List PV):Tr:=Ag8 (C1 [[0]] args)
def IR:List PV->Tr
 | [.s (.str t),.s (.str p),.s (.int .i64 n)]=>.ret (.fnr (Fn.func 162) [] [.ptr 1 0 0,.ptr 0 0 0,.ptr 2 0 0]) [.box [.s (.str t)],.box [.s (.str p)],.box [.s (.int .i64 n)]]
 | _=>.fail
def VJ(args:List PV):Tr:=IR (C1 [[0],[0],[0]] args)
def XB:List PV->Tr
 | [.s (.str t),.s (.str p)]=>.ret (.fnr (Fn.func 162) [] [.ptr 1 0 0,.ptr 0 0 0,.ptr 2 0 0]) [.box [.s (.str t)],.box [.s (.str p)],.box [.s (.int .i64 (0:Int))]]
 | _=>.fail
def A30(args:List PV):Tr:=XB (C1 [[0],[0]] args)
def GQ:List PV->List Blk->Option (Bool × List (List PV))
 | [.yd,.ptr 0 0 0,.ptr 1 0 0,.ptr 2 0 0],[.box [.s (.str p)],.box [.s (.str t)],.box [.s (.int .i64 n)]]=>some (((A3 (a8 t))&&(((a8 p)==1)&&(n==(0:Int)))),ac3 (λ(x:By)=>([.s (.str x)]:List PV)) (pcs (o6 p 0 0) t))
 | _,_=>none
def BE:List PV->Tr
 | [.s (.int .i64 n)]=>.ret (.s (.bool (ptI n))) []
 | _=>.fail
def Wr(args:List PV):Tr:=BE (C1 [[0]] args)
def AZ:List PV->Tr
 | [.s (.int .i64 d),.s (.int .i64 c),.s (.bool f)]=>.need (ltN d 1152921504606846976) (.need (ltN c 1000000) (.need (ltI (0:Int) c) (.ret (.s (.int .i64 (↑(R5 (x4 d) (x4 c) f):Int))) [])))
 | _=>.fail
def IZ(args:List PV):Tr:=AZ (C1 [[0],[0],[0]] args)
def WL:List PV->Tr
 | [.s (.int .i64 k),.s (.int .i64 b)]=>.need (ltN k 10000000000) (.need (ltN b 1000000) (.ret (.s (.int .i64 (M0 (Int.mul (36:Int) k) b))) []))
 | _=>.fail
def A27(args:List PV):Tr:=WL (C1 [[0],[0]] args)
def JB:List PV->Tr
 | [.s (.int .i64 d)]=>.need (ltN d 36) (.ret (.s (.int .u8 (↑(am5 (Ba (x4 d))):Int))) [])
 | _=>.fail
def Bv3(args:List PV):Tr:=JB (C1 [[0]] args)
def WT:List PV->Tr
 | [.s (.int .u8 b)]=>.need (inR b 256) (.ret (.s (.int .i64 (E5 (u8n b)))) [])
 | _=>.fail
def Cp1(args:List PV):Tr:=WT (C1 [[0]] args)
def WD:List PV->Tr
 | [.s (.sl b a 1 p)]=>.need (ai7 p Pc) (.ret (.tup [.s (.str ((X8 (ac3 elI p))).1),.s (.int .i64 (↑((X8 (ac3 elI p))).2:Int))]) [])
 | _=>.fail
def A22(args:List PV):Tr:=WD (C1 [[1]] args)
def JL:List PV->Tr
 | [.s (.str s)]=>.need (A3 (a8 s)) (.ret (.tup [.s (.sl (y8 ((O8 s)).1) (y8 ((O8 s)).1) 1 (No ((O8 s)).1)),.s (.int .i64 (↑((O8 s)).2:Int))]) [])
 | _=>.fail
def Bv9(args:List PV):Tr:=JL (C1 [[0]] args)
def IP:List PV->Tr
 | [.s (.str s)]=>.need (A3 (a8 s)) (.ret (.s (.bool (Er s))) [])
 | _=>.fail
def Bu8(args:List PV):Tr:=IP (C1 [[0]] args)
def VO:List PV->Tr
 | [.s (.str s)]=>.need (A3 (a8 s)) (.ret (.s (.bool (K6 s))) [])
 | _=>.fail
def VM(args:List PV):Tr:=VO (C1 [[0]] args)
def BN:List PV->Tr
 | [.s (.str s)]=>.need (A3 (a8 s)) (.ret (.s (.bool (p4 (Dc s)))) [])
 | _=>.fail
def Ai2(args:List PV):Tr:=BN (C1 [[0]] args)
def BL:List PV->Tr
 | [.s (.str s)]=>.need (A3 (a8 s)) (.ret (.s (.int .i64 (↑(Lib.runeCountL s):Int))) [])
 | _=>.fail
def Ai0(args:List PV):Tr:=BL (C1 [[0]] args)
def VE:List PV->Tr
 | [.s (.str s)]=>.need (A3 (a8 s)) (.ret (.tup [.s (.str ((I6 s)).1),.s (.int .i64 (↑((I6 s)).2:Int))]) [])
 | _=>.fail
def Cn9(args:List PV):Tr:=VE (C1 [[0]] args)
def WK:List PV->Tr
 | [.s (.str s)]=>.need (A3 (a8 s)) (.ret (.tup [.s (.sl (y8 (Tb s)) (y8 (Tb s)) 1 (No (Tb s))),.s (.bool (p4 (Dc s)))]) [])
 | _=>.fail
def Co6(args:List PV):Tr:=WK (C1 [[0]] args)
def JN:List PV->Tr
 | [.s (.str s)]=>.need (A3 (a8 s)) (.ret (.s (.bool (Er s))) [])
 | _=>.fail
def Bw1(args:List PV):Tr:=JN (C1 [[0]] args)
def JJ:List PV->Tr
 | [.s (.str s)]=>.need (A3 (a8 s)) (.ret (.s (.bool (K6 s))) [])
 | _=>.fail
def WI(args:List PV):Tr:=JJ (C1 [[0]] args)
def JI:List PV->Tr
 | [.s (.str s)]=>.need (A3 (a8 s)) (.ret (.tup [.s (.str ((I6 s)).1),.s (.int .i64 (↑((I6 s)).2:Int))]) [])
 | _=>.fail
def Bv8(args:List PV):Tr:=JI (C1 [[0]] args)
def UU:List PV->Tr
 | [.s (.int .u8 b)]=>.need (inR b 256) (.ret (.s (.int .i64 (Ga (u8n b)))) [])
 | _=>.fail
def Cn6(args:List PV):Tr:=UU (C1 [[0]] args)
def UT:List PV->Tr
 | [.s (.str s)]=>.need (A3 (a8 s)) (.ret (.tup [.s (.str (Gh s)),.s (.bool (p4 (R8 s)))]) [])
 | _=>.fail
def Cn5(args:List PV):Tr:=UT (C1 [[0]] args)
def II:List PV->Tr
 | [.s (.str s)]=>.need (A3 (a8 s)) (.need (Cv5 s) (.ret (.tup [.agg [.s (.int .i64 (↑(B5.kind ((Q9 s)).1):Int)),.s (.str (B5.name ((Q9 s)).1)),.s (.int .u32 (↑(B5.v4 ((Q9 s)).1):Int)),.s (.int .u16 (↑(o6 (B5.v6 ((Q9 s)).1) 0 0):Int)),.s (.int .u16 (↑(o6 (B5.v6 ((Q9 s)).1) 1 0):Int)),.s (.int .u16 (↑(o6 (B5.v6 ((Q9 s)).1) 2 0):Int)),.s (.int .u16 (↑(o6 (B5.v6 ((Q9 s)).1) 3 0):Int)),.s (.int .u16 (↑(o6 (B5.v6 ((Q9 s)).1) 4 0):Int)),.s (.int .u16 (↑(o6 (B5.v6 ((Q9 s)).1) 5 0):Int)),.s (.int .u16 (↑(o6 (B5.v6 ((Q9 s)).1) 6 0):Int)),.s (.int .u16 (↑(o6 (B5.v6 ((Q9 s)).1) 7 0):Int))],.s (.int .i64 (↑((Q9 s)).2:Int))]) []))
 | _=>.fail
def Bu5(args:List PV):Tr:=II (C1 [[0]] args)
def AT:List PV->Tr
 | [.s (.str s)]=>.need (A3 (a8 s)) (.ret (.tup [.agg [.s (.int .i64 (↑(B5.kind ((C4 s)).1):Int)),.s (.str (B5.name ((C4 s)).1)),.s (.int .u32 (↑(B5.v4 ((C4 s)).1):Int)),.s (.int .u16 (↑(o6 (B5.v6 ((C4 s)).1) 0 0):Int)),.s (.int .u16 (↑(o6 (B5.v6 ((C4 s)).1) 1 0):Int)),.s (.int .u16 (↑(o6 (B5.v6 ((C4 s)).1) 2 0):Int)),.s (.int .u16 (↑(o6 (B5.v6 ((C4 s)).1) 3 0):Int)),.s (.int .u16 (↑(o6 (B5.v6 ((C4 s)).1) 4 0):Int)),.s (.int .u16 (↑(o6 (B5.v6 ((C4 s)).1) 5 0):Int)),.s (.int .u16 (↑(o6 (B5.v6 ((C4 s)).1) 6 0):Int)),.s (.int .u16 (↑(o6 (B5.v6 ((C4 s)).1) 7 0):Int))],.s (.int .i64 (↑((C4 s)).2:Int))]) [])
 | _=>.fail
def Ah1(args:List PV):Tr:=AT (C1 [[0]] args)
def A14:List PV->Tr
 | [.s (.str s)]=>.need (A3 (a8 s)) (.ret (.s (.bool (U9 s))) [])
 | _=>.fail
def Cn8(args:List PV):Tr:=A14 (C1 [[0]] args)
def VA:List PV->Tr
 | [.agg [.s (.int .i64 j),.s (.str i),.s (.int .u32 v4),.s (.int .u16 a),.s (.int .u16 b),.s (.int .u16 c),.s (.int .u16 d),.s (.int .u16 e),.s (.int .u16 f),.s (.int .u16 g),.s (.int .u16 h)]]=>.need (A3 (a8 i)) (.need (ltN v4 4294967296) (.need (ok8 a b c d e f g h) (.ret (.s (.bool (J7 (mkH j i v4 (n8 a b c d e f g h))))) [])))
 | _=>.fail
def UZ(args:List PV):Tr:=VA (C1 [[0,0,0,0,0,0,0,0,0,0,0]] args)
def UW:List PV->Tr
 | [.agg [.s (.int .i64 j),.s (.str i),.s (.int .u32 v4),.s (.int .u16 a),.s (.int .u16 b),.s (.int .u16 c),.s (.int .u16 d),.s (.int .u16 e),.s (.int .u16 f),.s (.int .u16 g),.s (.int .u16 h)]]=>.need (A3 (a8 i)) (.need (ltN v4 4294967296) (.need (ok8 a b c d e f g h) (.ret (.s (.str (P0 (mkH j i v4 (n8 a b c d e f g h))))) [])))
 | _=>.fail
def A13(args:List PV):Tr:=UW (C1 [[0,0,0,0,0,0,0,0,0,0,0]] args)
def US:List PV->Tr
 | [.s (.str p),.s (.str s)]=>.need (A3 (a8 p)) (.need (A3 (a8 s)) (.ret (.s (.bool (Cm p s))) []))
 | _=>.fail
def Cn4(args:List PV):Tr:=US (C1 [[0],[0]] args)
def A24:List PV->Tr
 | [.s (.int .u8 b)]=>.need (inR b 256) (.ret (.s (.int .i64 (Ga (u8n b)))) [])
 | _=>.fail
def Dw0(args:List PV):Tr:=A24 (C1 [[0]] args)
def JE:List PV->Tr
 | [.s (.str s)]=>.need (A3 (a8 s)) (.ret (.tup [.s (.str (Gh s)),.s (.bool (p4 (R8 s)))]) [])
 | _=>.fail
def Bv6(args:List PV):Tr:=JE (C1 [[0]] args)
def Ua:List PV->Tr
 | [.s (.str s)]=>.need (A3 (a8 s)) (.ret (.tup [.agg [.s (.int .i64 (↑(B5.kind ((C4 s)).1):Int)),.s (.str (B5.name ((C4 s)).1)),.s (.int .u32 (↑(B5.v4 ((C4 s)).1):Int)),.s (.int .u16 (↑(o6 (B5.v6 ((C4 s)).1) 0 0):Int)),.s (.int .u16 (↑(o6 (B5.v6 ((C4 s)).1) 1 0):Int)),.s (.int .u16 (↑(o6 (B5.v6 ((C4 s)).1) 2 0):Int)),.s (.int .u16 (↑(o6 (B5.v6 ((C4 s)).1) 3 0):Int)),.s (.int .u16 (↑(o6 (B5.v6 ((C4 s)).1) 4 0):Int)),.s (.int .u16 (↑(o6 (B5.v6 ((C4 s)).1) 5 0):Int)),.s (.int .u16 (↑(o6 (B5.v6 ((C4 s)).1) 6 0):Int)),.s (.int .u16 (↑(o6 (B5.v6 ((C4 s)).1) 7 0):Int))],.s (.int .i64 (↑((C4 s)).2:Int))]) [])
 | _=>.fail
def QO(args:List PV):Tr:=Ua (C1 [[0]] args)
def WG:List PV->Tr
 | [.s (.str s)]=>.need (A3 (a8 s)) (.ret (.s (.bool (U9 s))) [])
 | _=>.fail
def A23(args:List PV):Tr:=WG (C1 [[0]] args)
def JH:List PV->Tr
 | [.agg [.s (.int .i64 j),.s (.str i),.s (.int .u32 v4),.s (.int .u16 a),.s (.int .u16 b),.s (.int .u16 c),.s (.int .u16 d),.s (.int .u16 e),.s (.int .u16 f),.s (.int .u16 g),.s (.int .u16 h)]]=>.need (A3 (a8 i)) (.need (ltN v4 4294967296) (.need (ok8 a b c d e f g h) (.ret (.s (.bool (J7 (mkH j i v4 (n8 a b c d e f g h))))) [])))
 | _=>.fail
def GP(args:List PV):Tr:=JH (C1 [[0,0,0,0,0,0,0,0,0,0,0]] args)
def JG:List PV->Tr
 | [.agg [.s (.int .i64 j),.s (.str i),.s (.int .u32 v4),.s (.int .u16 a),.s (.int .u16 b),.s (.int .u16 c),.s (.int .u16 d),.s (.int .u16 e),.s (.int .u16 f),.s (.int .u16 g),.s (.int .u16 h)]]=>.need (A3 (a8 i)) (.need (ltN v4 4294967296) (.need (ok8 a b c d e f g h) (.ret (.s (.str (P0 (mkH j i v4 (n8 a b c d e f g h))))) [])))
 | _=>.fail
def WF(args:List PV):Tr:=JG (C1 [[0,0,0,0,0,0,0,0,0,0,0]] args)
def JD:List PV->Tr
 | [.s (.str p),.s (.str s)]=>.need (A3 (a8 p)) (.need (A3 (a8 s)) (.ret (.s (.bool (Cm p s))) []))
 | _=>.fail
def Bv5(args:List PV):Tr:=JD (C1 [[0],[0]] args)
def AV:List PV->Tr
 | [.s (.int .i64 n),.s (.sl b a 1 l)]=>.need (ai7 l isS) (.need (A3 (a8 l)) (.ret (.s (.bool (Fu n (ac3 elS l)))) []))
 | _=>.fail
def Ah3(args:List PV):Tr:=AV (C1 [[0],[1]] args)
end
end
end Go.Proofs.YtkegcjamihlmmaaGreatDoor.E
