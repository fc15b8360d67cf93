/-
  Parts of the proof, merged by a program of the prover's own; no condition.
-/
import Derived.Test.YteickfjoihhgkaaGreatDoorKCX1
import Derived.Deep.Draws
import Derived.JoinedCond
import Derived.KernelRfl
import Derived.Laws.RangeString
import Derived.Lib.IndexMore
import Derived.Lib.ItoaNum
import Derived.Lib.Join
import Derived.Lib.LaidTab
import Derived.Lib.LaidU8
import Derived.Lib.RuneCount
import Derived.Lib.SlBytesConst
import Derived.Lib.TrailingZeros
import Derived.Lib.ValidU
import Derived.OpenShut
import Derived.ProofKit
import Derived.RangeFuncLeaves
import Derived.RangeFuncNested
import Derived.RangeFuncRecord
import Derived.Sort.Grow
import Derived.Sort.QuietThIn
import Derived.TacticsIn
import Derived.Test.YteickfjoihhgkaaGreatDoorProg
import Derived.WalkKit
open List renaming getElem?_eq_getElem->c9,getElem_mem->j5,getElem_map->j8,all_eq_true->o5,length_map->p4,eq_nil_iff_forall_not_mem->s9,getD_eq_getElem?_getD->v7,length_append->w9,replicate->x3,getElem_append_left->x5,mem_append->x6,mem_cons->y5,append_nil->y8,getElem?_map->aa0,mem_map->aa5,getElem?_append_right->aa9,isEmpty_iff->ab1,getElem?_append_left->ab4,getElem?_eq_some_iff->ab5,getElem_append_right->ab6,getElem?_take->ab9,getElem?_eq_none->ad0,nil_append->ad3,mem_map_of_mem->ad6,drop_zero->ad9,cons_append->ae4,getElem?_cons_zero->ae5,length_cons->ae6,length_eq_zero_iff->ae7,length_take->ae8,take_of_length_le->af1,length_singleton->af4,mem_cons_of_mem->af8,map_nil->ag4,any_eq_true->ag9,getElem_inj->ah0,take_length->ah1,map_append->ah7,mem_filter->ah8,nodup_cons->ah9,drop_drop->ai1,mapM_cons->ai2,mem_range->ai3,range->ai4,drop_nil->ai7,take_add->ai8,take_nil->ai9,all_map->aj3
open Option.some renaming injEq->j0,inj->ad4
open Bool renaming and_eq_true->j4,or_eq_true->y9,not_eq_true'->ac3,false_eq_true->ag1,false_or->ai6
open Option renaming bind_some->j7,bind_none->j9,isSome_iff_exists->v8,map_some->x7
open Nat renaming lt_of_lt_of_le->k9,le_refl->o0,ble->p5,le_trans->s8,eq_of_beq_eq_true->w6,beq->x4,mod_eq_of_lt->x8,le_of_ble_eq_true->aa7,zero_add->ad8,add_sub_cancel_left->ae9,add_mul->af9,lt_irrefl->ag0,le_of_not_lt->ah2,ble_eq->ai5,add_comm->aj4,blt->aj5,zero_mul->aj6
open Go.World renaming putObj_heap_other->o6,putObj_heap_same->ac8,alloc_heap_new->ad2,cells?_some->ag7,shape?->ag8,cell?->ah5
open Array renaming getElem?_eq_some_iff->o7,getD_eq_getD_getElem?->p9,replicate->y7,getElem?_eq_getElem->ab3,getElem?_eq_none->ac2,getElem?_toList->ac9,length_toList->ad5,getElem?_replicate->ae1,toList_map->ae2,mem_of_getElem?->af2
open Go.Region renaming ready->o8,wanted->p7,Mode->aa2,noSelect->aa6,binds->ac7
open Go.Deferred renaming ofValue->o9
open Prod.mk renaming injEq->p6
open Go.IntKind renaming wrap->w8,signed->ac4,bits->ad7
open Decidable renaming byContradiction->x9
open Int renaming eq_ofNat_of_zero_le->aa1
open UInt8 renaming ofNat->aa3
open BitVec renaming ofInt->aa4,ofInt_natCast->af5
open Go.Fence renaming wide->aa8
open Go.Act renaming put_comm->ab0,put->ag2
open Go.Value renaming okWide->ab2
open Go.Lib renaming decDigits->ab7,decodeL->af7,cut->aj2
open Go.Oper renaming semAt_eq->ab8,uponIn->ac1,quietAtIn->ac5,uponIn_enter->ac6,quietUponIn->ah3,wpIn->ah4
open Or renaming inl->ac0
open Go.DataW renaming TrodAll->ad1,trod->af0,Whole->aj7
open Go.Result renaming andThen->ae0
open Classical renaming choose->ae3,choose_spec->af3
open Go.Code renaming region->af6,rangeFunc->ai0
open Go.CallsIn renaming mono->ag3
open Go.RoundIn renaming mono->ag5
open Go.Sem renaming run_bind->ag6
open Go.Ending renaming returned->ah6
open Go.StepsIn renaming trans->aj0
open Go.Instr renaming loadAt->aj1
open Go.RowsIn renaming mono->ak0
set_option maxRecDepth 100000
variable{R:Type}
namespace Go.Proofs.YteickfjoihhgkaaGreatDoor.E
theorem ag{α:Sort _}{a b c:α}(q:a=b)(p:b=c:=by kernel_rfl):a=c:=q.trans p
set_option linter.all false
section
open Go
def J3(a:Option Nat):Fence:={ aa8 with round:=a }
def R5(P:Program)(b:Result Next)(R:Value->World->Prop):Prop:=
 ∀(c:Option Nat) (n:Nat) (o:Oper) (a:Act) (next:Act->World->Prop) (Q:Exit->Act->World->Prop),(∀V w',R V w'->next (a.put o.dst V) w')->o.uponIn (J3 c) n P a next Q b
def R5.mono{P:Program}{res:Result Next}{R R':Value->World->Prop}(h:R5 P res R)(hr:∀V w',R V w'->R' V w'):R5 P res R':=
 λro n o a next Q hn=>h ro n o a next Q λV w' hR=>hn V w' (hr V w' hR)
def Cb{e:Type}(C:Cfg)(I:e->(Nat->Prop)->(Nat->Prop)->World->Prop)(h:Ctx)(H:List Blk)(w:World)(i:Nat->Prop)(ret:PV)(d:List Blk)(f:e)(V:Value)(w':World):Prop:=
 ∃ Γ' a,Stp C h H w i Γ' d w' a/\HR Γ' d w'/\VP Γ' (A3 d) w' ret V/\(∀c∈ret.nms,c<d.length)/\I f Γ'.St a w'/\∀b g,Γ'.nm b=some g->¬a g
def A75{i:Type}(P:Program)(I:i->(Nat->Prop)->(Nat->Prop)->World->Prop)(j:Yh i)(k:Value):Prop:=
 ∀args s b h,j args s=some (b,h)->Lb args=true->∀a e w f,I s a.St e w->(∀g,a.St g->g<w.heap.size)->CR a (λ_=>none) w args f->
  R5 P ((do let d <-o9 k f;invoke d.target d.args).run P w) λV w'=>V = .bool b/\∃St' c,I h St' c w'/\(∀g,a.St g->St' g)/\(∀g,St' g->a.St g\/w.heap.size<=g)/\(∀g,c g->e g\/w.heap.size<=g)/\
   (∀g,g<w.heap.size->¬e g->w'.heap[g]? = w.heap[g]?)/\w.heap.size<=w'.heap.size/\w'.os=w.os/\w'.tape=w.tape/\w'.output=w.output/\∀g,St' g->g<w'.heap.size
def Dc(C:Cfg)(l:G1):Prop:=
 ∀(e:Type) (I:e->(Nat->Prop)->(Nat->Prop)->World->Prop) (j:Yh e) (k:Value),HI I->A75 C.P I j k->
  ∀g args H s ret f i,l e j g args H s=some (ret,f,i)->∀a d w h,a.yv=k->HR a H w->GOK C a.St w->I s a.St d w->(∀b g,a.nm b=some g->¬d g)->CR a (A3 H) w args h->(∀c∈D0 args,c<H.length)->
   R5 C.P ((callFunc g h).run C.P w) (Cb C I a H w d ret f i)
def I0:Unit->(Nat->Prop)->(Nat->Prop)->World->Prop:=λ_ _ a _=>∀g,¬a g
def Ed6(C:Cfg):Prop:=
 ∀g e args ret c,C.X g=some e->M6 (e args)=some (ret,c)->∀a w d,(∀b,a.nm b=none)->HR a [] w->GOK C a.St w->CR a (A3 []) w args d->
  R5 C.P ((callFunc g d).run C.P w) (Cb C I0 a [] w noΦ ret c ())
def clY(C:Cfg):G1:=λ_ _ g args H s=>match C.Y g with
 | some a=>match M6 (a args H) with
  | some (r,h)=>some (r,h,s)
  | none=>none
 | none=>none
def U2{b:Type}(c:Yh b):List (List PV)->b->Option b
 | [],s=>some s
 | x::xs,s=>match c x s with
  | some (true,a)=>U2 c xs a
  | some (false,a)=>some a
  | none=>none
def clS(C:Cfg):G1:=λ_ c g args H s=>match C.S g with
 | some a=>if H.all SK=true then match a args H with
  | some (true,L)=>match U2 c L s with
   | some b=>some (.tup [],H.map Jo,b)
   | none=>none
  | _=>none
  else none
 | none=>none
def O7(w w':World):Prop:=(Ext w w'/\w.heap.size<=w'.heap.size)/\w'.os=w.os/\w'.tape=w.tape/\w'.output=w.output
def Dg3:SV->Value->Value->Array Value
 | .nilp,S,_=>#[S]
 | _,S,X=>#[S,X]
def Aj8(P:Program)(g:Nat)(d:SV->List (List SV)->Bool × List (List SV)):Prop:=
 ∀(St:Nat->Prop) (w:World) (x:SV) (X:Value) (a:List (List SV)),VS St w x X->(d x a).1=true->
  (a=[]->R5 P ((callFunc g (Dg3 x (.slice none 0 0) X)).run P w) λV w'=>V=undef/\(d x a).2=[]/\O7 w w')/\
  ∀f c e l cap,w.heap[f]? = some (.cells c e (0,0))->c.size=cap*l->a.length<=cap->cap<=maxLen->¬St f->(∀g,St g->g<w.heap.size)->
   (∀i (h:i<a.length),(a[i]).length=l)->(∀i (h:i<a.length) j (m:j<(a[i]).length),∃V,c[i*l+j]? = some V/\VS St w (a[i][j]) V)->
   R5 P ((callFunc g (Dg3 x (.slice (some ⟨f,0,none⟩) a.length cap) X)).run P w) λV w'=>V=undef/\(d x a).2.length=a.length/\
    ∃w1 b,w1.heap[f]? = some (.cells b e (0,0))/\b.size=c.size/\(∀k,k≠f->w1.heap[k]? = w.heap[k]?)/\w1.heap.size=w.heap.size/\w1.os=w.os/\w1.tape=w.tape/\w1.output=w.output/\
     (∀i (h:i<(d x a).2.length),((d x a).2[i]).length=l)/\(∀i (h:i<(d x a).2.length) j (m:j<((d x a).2[i]).length),∃V,b[i*l+j]? = some V/\VS St w1 ((d x a).2[i][j]) V)/\O7 w1 w'
structure XOK (C:Cfg):Prop where
 x:Ed6 C
 y:Dc C (clY C)
 s:Dc C (clS C)
 z:∀g pf,C.Z g=some pf->Aj8 C.P g pf
section
variable {Γ : Ctx} {H : List Blk} {w : World} {C : Cfg}
def Ctx.all(Γ:Ctx):Ctx:={ Γ with St:=λg=>Γ.St g\/∃b,Γ.nm b=some g }
def Ad3{St':Nat->Prop}{b e f i n:Nat}{v:Bool}{c:List (List SV)}{a:Addr}{cap g:Nat}(K:HR Γ H w)(M:H[b]? = some (.arr v e f c))(y:¬(v=true/\c=[]))(N:Γ.nm b=some g)(Q:i+n<=c.length)(L:n≠0->a=⟨g,i*f,none⟩)(o:n<=cap)(G:cap<=maxLen)(z:∀g,Γ.St g->St' g)(u:St' g) :
  VS St' w (.sl false false f ((c.drop i).take n)) (.slice (some a) n cap):=by
 by_cases I:n=0
 ·subst I;rw[List.take_zero];exact .emp false f a cap (by simp) G
 ·rw[L I];obtain⟨O,d,B,D,P,J,F⟩:=K.arr' M y;rw[N] at B;cases B;have p:((c.drop i).take n).length=n:=by simp;omega
  have h:∀k (l:k<((c.drop i).take n).length),∃m:i+k<c.length,((c.drop i).take n)[k]=c[i+k]:=λk l=>by grind
  have t:∀k,k<d.size->w.cell? ⟨g,k,none⟩=d[k]?:=λk _=>cell_of_row w g k d e (0,0) D
  refine .sl false _ g (i*f) n cap f (λk j=>d.getD (i*f+k*f+j) undef) p.symm o G (by simp) u (λk l=>?_) (λk l j x=>?_) (λk l j x=>?_)
  ·obtain⟨m,e⟩:=h k l;rw[e];exact J _ m
  ·obtain⟨m,e⟩:=h k l;obtain⟨V,r,A⟩:=F _ m j (by rw[<-e];exact x);have q:d[i*f+k*f+j]? = some V:=by rw[<-r,af9]
   rw[cell_of_row w g _ d _ (0,0) D,q];simp[p9,q]
  ·obtain⟨m,e⟩:=h k l;obtain⟨V,r,A⟩:=F _ m j (by rw[<-e];exact x);have q:d[i*f+k*f+j]? = some V:=by rw[<-r,af9]
   simp only[e,p9,q];exact A.mono (λ_ _=>rfl) z
def VP.toAll{sh:Nat->Option Shp}{v:PV}{V:Value}(h:VP Γ sh w v V):VP Γ.all sh w v V:=
 h.mono (Γ':=Γ.all) (ok:=λ_=>True) ⟨λ_ _=>rfl,λ_ h=>ac0 h,λ_ _=>rfl,λ_ _=>rfl,λ_ _ _ _=>rfl,rfl⟩ (λ_ _=>trivial)
def VP.snap(hH:HR Γ H w){v:PV}{V:Value}(h:VP Γ (A3 H) w v V):VP Γ.all (A3 H) w (v.snap H) V:=by
 generalize hsh:A3 H=sh at h
 induction h with
 | s v V h=>exact(VP.s v V h).toAll
 | nsl=>exact .s _ _ (.nil _ _)
 | flv b e sz h=>
  subst hsh;obtain⟨x,hx,hs⟩:∃x,H[b]? = some x/\x.shp = .arr true e sz 0:=by simpa[A3] using h
  cases x<;>simp[Blk.shp] at hs
  rename_i v' e' sz' els;obtain⟨rfl,rfl,rfl,h4⟩:=hs;subst h4;simp only[PV.snap,hx];exact .s _ _ (.nil _ _)
 | fl b g v e sz n cap h hv hg hcap hm hs=>
  subst hsh;obtain⟨x,hx,hs'⟩:∃x,H[b]? = some x/\x.shp = .arr v e sz n:=by simpa[A3] using h
  cases x<;>simp[Blk.shp] at hs'
  rename_i v' e' sz' els;obtain⟨rfl,rfl,rfl,rfl⟩:=hs';have hne:¬(v'=true/\els=[]):=by rintro⟨q1,q2⟩;exact hv q1 (by rw[q2];rfl)
  have hz:(v'&&els.isEmpty)=false:=by grind
  simp only[PV.snap,hx,hz];have:=Ad3 (i:=0) (n:=els.length) (a:=⟨g,0,none⟩) (cap:=cap) hH hx hne hg (by omega) (λ_=>by simp) hcap hm (St':=Γ.all.St) (λ_ h=>ac0 h) (.inr ⟨b,hg⟩);simp only[ad9,ah1] at this;exact .s _ _ this
 | vwv b e sz i h=>
  subst hsh;obtain⟨x,hx,hs⟩:∃x,H[b]? = some x/\x.shp = .arr true e sz 0:=by simpa[A3] using h
  cases x<;>simp[Blk.shp] at hs
  rename_i v' e' sz' els;obtain⟨rfl,rfl,rfl,h4⟩:=hs;subst h4;simp only[PV.snap,hx,ai7,ai9];exact .s _ _ (.nil _ _)
 | vw b i n g a cap v e sz m h hv hg ha hi hcap hm=>
  subst hsh;obtain⟨x,hx,hs'⟩:∃x,H[b]? = some x/\x.shp = .arr v e sz m:=by simpa[A3] using h
  cases x<;>simp[Blk.shp] at hs'
  rename_i v' e' sz' els;obtain⟨rfl,rfl,rfl,rfl⟩:=hs';have hne:¬(v'=true/\els=[]):=by rintro⟨q1,q2⟩;exact hv q1 (by rw[q2];rfl)
  have hz:(v'&&els.isEmpty)=false:=by grind
  simp only[PV.snap,hx,hz];exact .s _ _ (Ad3 hH hx hne hg hi ha hcap hm (λ_ h=>ac0 h) (.inr ⟨b,hg⟩))
 | ptrA b i off g v e sz n h hg=>exact(VP.ptrA b i off g v e sz n h hg).toAll
 | ptrB b off g h hg=>exact(VP.ptrB b off g h hg).toAll
 | fnr f x y A B As Bs hf hA hB ha hb hx hy ihx ihy=>exact(VP.fnr f x y A B As Bs hf hA hB ha hb hx hy).toAll
 | it b g h hg=>exact(VP.it b g h hg).toAll
 | mpv b g h hg=>exact(VP.mpv b g h hg).toAll
 | yd=>exact .yd
 | agg l A As hA ha hl ih=>
  simp only[PV.snap,Dx];refine .agg _ A As (by simpa using hA) (λj h=>ha j (by simpa using h)) (λj h=>?_);grind
 | tup l A As hA ha hl ih=>exact(VP.tup l A As hA ha hl).toAll
 | bad V=>exact .bad V
def TS{l:List PV}(h:FM l=false):∀v∈l,v.rows=false:=by
 induction l with
 | nil=>simp
 | cons a l b=>
  simp only[FM,Bool.or_eq_false_iff] at h;grind
def VP.snap_plain{sh:Nat->Option Shp}{v:PV}{V:Value}(h:VP Γ sh w v V):v.rows=false->VP Γ sh w (v.snap H) V/\∀c∈(v.snap H).nms,c∈v.nms:=by
 induction h with
 | nsl=>intro _;exact⟨.s _ _ (.nil _ _),by simp[PV.snap,PV.nms]⟩
 | flv b e sz h=>intro hr;simp[PV.rows] at hr
 | fl b g v e sz n cap h hv hg hcap hm hs=>intro hr;simp[PV.rows] at hr
 | vwv b e sz i h=>intro hr;simp[PV.rows] at hr
 | vw b i n g a cap v e sz m h hv hg ha hi hcap hm=>intro hr;simp[PV.rows] at hr
 | agg l A As hA ha hl ih=>
  intro hr;simp only[PV.rows] at hr;have hr':=TS hr;simp only[PV.snap,Dx];refine⟨.agg _ A As (by simpa using hA) (λj h=>ha j (by simpa using h)) (λj h=>?_),λc hc=>?_⟩
  ·grind
  ·simp only[PV.nms] at hc ⊢;obtain⟨j,hj,hc⟩:=C7.1 hc;rw[j8] at hc;exact C7.2 ⟨j,by simpa using hj,(ih j (by simpa using hj) (hr' _ (j5 _))).2 c hc⟩
 | s v V h=>intro _;exact⟨.s v V h,λc hc=>hc⟩
 | ptrA b i off g v e sz n h hg=>intro _;exact⟨.ptrA b i off g v e sz n h hg,λc hc=>hc⟩
 | ptrB b off g h hg=>intro _;exact⟨.ptrB b off g h hg,λc hc=>hc⟩
 | fnr f x y A B As Bs hf hA hB ha hb hx hy ihx ihy=>intro _;exact⟨.fnr f x y A B As Bs hf hA hB ha hb hx hy,λc hc=>hc⟩
 | it b g h hg=>intro _;exact⟨.it b g h hg,λc hc=>hc⟩
 | mpv b g h hg=>intro _;exact⟨.mpv b g h hg,λc hc=>hc⟩
 | yd=>intro _;exact⟨.yd,λc hc=>hc⟩
 | tup l A As hA ha hl ih=>intro _;exact⟨.tup l A As hA ha hl,λc hc=>hc⟩
 | bad V=>intro _;exact⟨.bad V,λc hc=>hc⟩
def CR.snap(hH:HR Γ H w){l:List PV}{A:Array Value}(h:CR Γ (A3 H) w l A):CR Γ.all (A3 H) w (Q3 H l) A:=by rw[Dx];refine⟨by rw[p4];exact h.1,λj hj=>?_⟩;obtain⟨U,e,k⟩:=h.2 j (by simpa using hj);exact⟨U,e,by rw[j8];exact k.snap hH⟩
def CR.snap_plain{l:List PV}{A:Array Value}(h:CR Γ (A3 H) w l A)(hr:FM l=false):CR Γ (A3 H) w (Q3 H l) A/\∀c∈D0 (Q3 H l),c∈D0 l:=by
 have hr':=TS hr;rw[Dx];refine⟨⟨by rw[p4];exact h.1,λj hj=>?_⟩,λc hc=>?_⟩
 ·obtain⟨U,e,k⟩:=h.2 j (by simpa using hj);exact⟨U,e,by rw[j8];exact(k.snap_plain (hr' _ (j5 _))).1⟩
 ·obtain⟨j,hj,hc⟩:=C7.1 hc;rw[j8] at hc;have hj':j<l.length:=by simpa using hj
  obtain⟨U,e,k⟩:=h.2 j hj';exact C7.2 ⟨j,hj',(k.snap_plain (hr' _ (j5 _))).2 c hc⟩
def VP.snapP(hH:HR Γ H w){v:PV}{V:Value}(h:VP Γ (A3 H) w v V):VP Γ.all (A3 H) w (v.snapP H) V:=by
 unfold PV.snapP;split
 ·rename_i b off;split
  ·rename_i cells hb;split
   ·rename_i vs hvs;obtain⟨g,cur,e,hg,hh,hcur,hcells,_⟩:=hH.box' hb;have hV:V = .pointer (some ⟨g,off,none⟩):=by
     cases h with
     | ptrA _ _ _ g' v e sz n h' hg'=>simp[A3,hb,Blk.shp] at h'
     | ptrB _ _ g' h' hg'=>rw[hg] at hg';cases hg';rfl
    subst hV;have hl:(Q3 H cells).length=cells.length:=by rw[Dx,p4]
    obtain⟨f1,f2⟩:=T2 (Γ:=Γ.all) (w:=w) (sh:=A3 H) (As:=cur.toList) hvs (by rw[hl];simpa using hcur.symm) (λj hj=>by
     obtain⟨U,e1,k⟩:=hcells j (by omega);refine⟨U,by simpa using e1,?_⟩;have e2:(Q3 H cells)[j]=(cells[j]'(by omega)).snap H:=by simp only[Dx,j8]
     rw[e2];exact k.snap hH)
    refine .s _ _ ?_;have hvl:vs.length=cells.length:=by rw[f1];simpa using hcur
    have:=VS.sp (St:=Γ.all.St) (w:=w) [vs] 0 off g 0 vs.length (λ_ j=>cur.getD j undef) (.inr ⟨b,hg⟩) (λi hi=>by
      have:i=0:=by simpa using hi
      subst this;rfl) (λi hi j hj=>?_) (λi hi j hj=>?_)
    ·simpa using this
    ·have:i=0:=by simpa using hi
     subst this;have hj':j<cur.size:=by rw[hcur,<-hvl];exact hj
     simp[ah5,hh,hj']
    ·have:i=0:=by simpa using hi
     subst this;have hj1:j<vs.length:=hj;obtain⟨U,e1,k⟩:=f2 j hj1;have e3:cur.getD j undef=U:=by rw[p9,<-ac9,e1];rfl
     rw[e3];exact k
   ·exact h.toAll
  ·exact h.toAll
 ·exact h.snap hH
def VP.snapA(hH:HR Γ H w){v:PV}{V:Value}(h:VP Γ (A3 H) w v V):VP Γ.all (A3 H) w (v.snapA H) V:=by
 unfold PV.snapA;split
 ·rename_i f x y;split
  ·rename_i a b ha hb;cases h with
   | fnr _ _ _ A B As Bs hf hA hB hAs hBs hx hy=>
    obtain⟨p1,p2⟩:=T2 (Γ:=Γ.all) (w:=w) (sh:=A3 H) (As:=A.toList) ha (by simp[hA]) (λj hj=>by
     have hj':j<x.length:=by simpa using hj
     exact⟨As j,by simpa using hAs j hj',by rw[j8];exact(hx j hj').snapP hH⟩)
    obtain⟨q1,q2⟩:=T2 (Γ:=Γ.all) (w:=w) (sh:=A3 H) (As:=B.toList) hb (by simp[hB]) (λj hj=>by
     have hj':j<y.length:=by simpa using hj
     exact⟨Bs j,by simpa using hBs j hj',by rw[j8];exact(hy j hj').snapP hH⟩)
    have ex:a.length=x.length:=by rw[p1];simpa using hA
    have ey:b.length=y.length:=by rw[q1];simpa using hB
    refine .s _ _ (VS.fn f a b A B As Bs hf (by rw[hA,ex]) (by rw[hB,ey]) (λj hj=>hAs j (by omega)) (λj hj=>hBs j (by omega)) (λj hj=>?_) (λj hj=>?_))
    ·obtain⟨U,e,k⟩:=p2 j hj;have:U=As j:=by
      have h1:=hAs j (by omega);rw[ac9,h1] at e;exact(ad4 e).symm
     rw[<-this];exact k
    ·obtain⟨U,e,k⟩:=q2 j hj;have:U=Bs j:=by
      have h1:=hBs j (by omega);rw[ac9,h1] at e;exact(ad4 e).symm
     rw[<-this];exact k
  ·exact h.toAll
 ·exact h.snapP hH
def CR.argX(hH:HR Γ H w){l:List PV}{A:Array Value}(h:CR Γ (A3 H) w l A):CR Γ.all (A3 H) w (argX H l) A:=by
 unfold E.argX;cases (D0 (Q3 H l)).isEmpty with
 | true=>exact h.snap hH
 | false=>
  refine⟨by simpa using h.1,λj hj=>?_⟩;simp only[ab,p4] at hj;obtain⟨U,e,k⟩:=h.2 j hj;exact⟨U,e,by simp only[ab,j8];exact k.snapA hH⟩
def CR.argX_plain{l:List PV}{A:Array Value}(h:CR Γ (A3 H) w l A)(hp:DP H l=true):CR Γ (A3 H) w (E.argX H l) A:=by unfold DP at hp;rw[j4,ac3] at hp;unfold E.argX;rw[hp.1];exact(h.snap_plain hp.2).1
def CR.bare{Γ':Ctx}{sh sh':Nat->Option Shp}{l:List PV}{A:Array Value}(h:CR Γ sh w l A)(hn:D0 l=[])(hst:∀g,Γ.St g->Γ'.St g)(hyv:Γ'.yv=Γ.yv):CR Γ' sh' w l A:=
 ⟨h.1,λj hj=>by
  obtain⟨U,e,k⟩:=h.2 j hj;refine⟨U,e,k.mono (ok:=λ_=>False) ⟨λ_ _=>rfl,hst,λ_ h=>h.elim,λ_ h=>h.elim,λ_ _ h=>h.elim,hyv⟩ (λb hb=>?_)⟩;have:b∈D0 l:=C7.2 ⟨j,hj,hb⟩;rw[hn] at this;simp at this⟩
def EG{St':Nat->Prop}{w':World}(d:HR Γ H w)(a:∀g,g<w.heap.size->w'.heap[g]? = w.heap[g]?)(e:∀g,Γ.St g->St' g):Bg Γ (A3 H) w { Γ with St:=St' } (A3 H) w' (λ_=>True):=
 ⟨λg c=>a g (d.stlt g c),e,λ_ _=>rfl,λ_ _=>rfl,λb g _ c=>F9 (a g (d.lt b g c).2.1),rfl⟩
def Dw6{St':Nat->Prop}{w':World}(c:HR Γ H w)(a:∀g,g<w.heap.size->w'.heap[g]? = w.heap[g]?)(i:w.heap.size<=w'.heap.size)(h:∀g,Γ.St g->St' g)(j:∀g,St' g->Γ.St g\/w.heap.size<=g)(e:∀g,St' g->g<w'.heap.size):HR { Γ with St:=St' } H w':=by refine⟨c.inj,λb g d=>?_,e,c.nms,λb f=>(c.blk b f).mono (EG c a h) rfl (λg d=>a g (c.lt b g d).2.1) (λ_ _=>trivial)⟩;have:=c.lt b g d;grind
def Dc2{St':Nat->Prop}{w':World}{Φ:Nat->Prop}(e:HR Γ H w)(a:∀g,g<w.heap.size->w'.heap[g]? = w.heap[g]?)(d:w.heap.size<=w'.heap.size)(l:∀g,Γ.St g->St' g)(k:∀g,St' g->Γ.St g\/w.heap.size<=g)(f:w'.os=w.os)(i:w'.tape=w.tape)(j:w'.output=w.output) :
  Stp C Γ H w Φ { Γ with St:=St' } H w' Φ:=
 ⟨f,i,j,d,l,k,λb g c=>.inl ⟨(e.lt b g c).1,c⟩,λ_ h=>.inl h,λg c _ _=>a g c,rfl,o0 _,λb m n=>⟨rfl,rfl,λg c=>F9 (a g (e.lt b g c).2.1)⟩⟩
end
section
variable {U R : Type} {r : R} {C : Cfg} {I : U -> (Nat -> Prop) -> (Nat -> Prop) -> World -> Prop} {Q : Ctx} {W : Nat -> Prop} {Y : St U} {J : Array Value} {w : World} {K : G1} {O : Yh U} {Z : Value}
def Ah7(C:Cfg)(I:U->(Nat->Prop)->(Nat->Prop)->World->Prop)(Q:Ctx)(W:Nat->Prop)(Y:St U)(J:Array Value)(w:World)(k:PV->St U->Option R)(r:R)(V:Value)(w':World):Prop:=
 ∃v a Γ' b,k v a=some r/\Stp C Q Y.hp w W Γ' a.hp w' b/\SI C I Γ' b a J w'/\VP Γ' (A3 a.hp) w' v V/\∀c∈v.nms,c<a.hp.length
def Np{a:Ctx}(d:∀b,a.nm b=none)(c:∀g,a.St g->g<w.heap.size):HR a [] w:=
 ⟨λb e g h=>(by rw[d] at h;cases h),λb g h=>(by rw[d] at h;cases h),c,λb h=>by simp at h,λb h=>by simp at h⟩
def SI.wide(hI:HI I)(S:SI C I Q W Y J w){St':Nat->Prop}{w':World}(hold:∀g,g<w.heap.size->w'.heap[g]? = w.heap[g]?)(hsz:w.heap.size<=w'.heap.size)(hs:∀g,Q.St g->St' g)(hn:∀g,St' g->Q.St g\/w.heap.size<=g)(hlt:∀g,St' g->g<w'.heap.size)
  (h1:w'.os=w.os) (h2:w'.tape=w.tape) (h3:w'.output=w.output):SI C I { Q with St:=St' } W Y J w'/\Stp C Q Y.hp w W { Q with St:=St' } Y.hp w' W:=by
 have hstp:=Dc2 (C:=C) (Φ:=W) S.hr hold hsz hs hn h1 h2 h3;refine⟨?_,hstp⟩;have:=S.step hI hstp (λg hg=>hold g (hI.foot _ _ _ _ S.inv g hg).1) (Dw6 S.hr hold hsz hs hn hlt) (S.sr.mono (EG S.hr hold hs) (λc hc=>⟨trivial,S.sr.nms c hc⟩));exact this
def SI.wideSt(hI:HI I)(S:SI C I Q W Y J w){St':Nat->Prop}(hs:∀g,Q.St g->St' g)(hd:∀g,St' g->¬W g)(hn:∀b g,Q.nm b=some g->¬St' g)(hlt:∀g,St' g->g<w.heap.size):SI C I { Q with St:=St' } W Y J w:=by
 have M:Bg Q (A3 Y.hp) w { Q with St:=St' } (A3 Y.hp) w (λ_=>True):=⟨λ_ _=>rfl,hs,λ_ _=>rfl,λ_ _=>rfl,λ_ _ _ _=>rfl,rfl⟩
 refine⟨⟨S.hr.inj,λb g hb=>?_,hlt,S.hr.nms,λb hb=>(S.hr.blk b hb).mono M rfl (λ_ _=>rfl) (λ_ _=>trivial)⟩,
  S.sr.mono M (λc hc=>⟨trivial,S.sr.nms c hc⟩),S.g.mono (λ_ _=>rfl) hs,hI.mono _ _ _ _ _ _ S.inv hs hd hlt (λ_ _=>rfl) (o0 _) rfl rfl rfl,S.dis⟩
 obtain⟨q1,q2,_⟩:=S.hr.lt b g hb;exact⟨q1,q2,hn b g hb⟩
def A77(S:SI C I Q W Y J w):∀g,Q.all.St g->g<w.heap.size:=by
 rintro g (h|⟨b,h⟩)
 ·exact S.hr.stlt g h
 ·exact(S.hr.lt b g h).2.1
def Cq5:HI I0:=⟨λ_ _ W _ h g a=>absurd a (h g),λ_ _ W _ _ _ h _ _ _ _ _ _ _ _=>h⟩
def Cq6{P:Program}{Z:Value}:A75 P I0 (λ_ _=>none) Z:=λ_ _ _ _ h=>by cases h
def EC{ret:PV}{u:List Blk}{k:PV->St U->Option R}{St0:Nat->Prop}{T:Result Next}(hI:HI I)(S:SI C I Q W Y J w)(a5:∀g,Q.St g->St0 g)(a0:(∀g,St0 g->Q.St g)\/(ret.clean=true/\u.all Blk.clean=true))
  (a2:R5 C.P T (Cb C I0 { Q with St:=St0,nm:=λ_=>none } [] w noΦ ret u ()))
  (hk:k (ret.rn (Y.hp.length + ·)) { sl:=Y.sl,hp:=Y.hp++u.map (Blk.rn (Y.hp.length + ·)),s:=Y.s } = some r):R5 C.P T (λV w'=>Ah7 C I Q W Y J w k r V w'/\O7 w w'):=by
 let Γc:Ctx:={ Q with St:=St0,nm:=λ_=>none }
 refine a2.mono ?_;rintro V w' ⟨n,Φ1,l,f,hv,hvn,a8,a7⟩;have e:∀k,k<w.heap.size->w'.heap[k]? = w.heap[k]?:=λk hk=>l.frame k hk (λb=>by simp) (λx=>x)
 generalize hL:Y.hp.length=L at *;have p:∀i g,n.nm i=some g->i<u.length/\w.heap.size<=g/\g<w'.heap.size:=λi g h=>by
  refine⟨(f.lt i g h).1,?_,(f.lt i g h).2.1⟩;rcases l.own i g h with⟨h',_⟩|h'
  ·simp at h'
  ·exact h'
 obtain⟨t,D,m,H,B⟩:∃t:Nat->Prop,(∀g,Q.St g->t g)/\(∀g,t g->Q.St g\/(w.heap.size<=g/\n.St g))/\(∀g,t g->g<w'.heap.size)/\((∀g,n.St g->t g)\/(ret.clean=true/\u.all Blk.clean=true)):=by
  rcases a0 with h|h
  ·refine⟨n.St,λg a=>l.sub g (a5 g a),λg a=>?_,λg a=>f.stlt g a,.inl λ_ h=>h⟩;rcases l.stnew g a with q|q
   ·exact .inl (h g q)
   ·exact .inr ⟨q,a⟩
  ·exact⟨Q.St,λ_ h=>h,λ_ h=>.inl h,λg a=>k9 (S.hr.stlt g a) l.size,.inr h⟩
 let Γ2:Ctx:={ Q with St:=t,nm:=λb=>if b<L then Q.nm b else n.nm (b-L) }
 let o:List Blk:=Y.hp++u.map (Blk.rn (L + ·));have a3:∀i,i<u.length->A3 o (L+i)=A3 u i:=λi hi=>by
  simp only[o,A3];rw[aa9 (by omega),hL,ae9,aa0,Option.map_map]
  congr 1
  funext x
  exact Blk.rn_shp _ x
 have M:Bg Q (A3 Y.hp) w Γ2 (A3 o) w' (· < L):=⟨λg a=>e g (S.hr.stlt g a),D,λb A=>by simp only[Γ2];rw[ac A],λb A=>R0 (by omega),λb g A a=>F9 (e g (S.hr.lt b g a).2.1),rfl⟩
 have y:∀i,i<u.length->Γ2.nm (L+i)=n.nm i:=λi hi=>by simp only[Γ2];rw[ae (by omega),ae9]
 have a4:Γ2.yv=n.yv:=by have:=l.yv;exact this.symm
 have j:o.length=L+u.length:=by simp[o,hL]
 have a6:HR Γ2 o w':=by
  refine⟨λb b' g N P=>?_,λb g h=>?_,H,λb A c z=>?_,λb A=>?_⟩
  ·simp only[Γ2] at N P;split at N<;>split at P
   ·exact S.hr.inj b b' g N P
   ·have:=(S.hr.lt b g N).2.1;have:=(p _ g P).2.1;omega
   ·have:=(S.hr.lt b' g P).2.1;have:=(p _ g N).2.1;omega
   ·have:=f.inj _ _ g N P;omega
  ·rw[j];simp only[Γ2] at h;split at h
   ·have:=S.hr.lt b g h;refine⟨by omega,by have:=l.size;omega,λG=>?_⟩;rcases m g G with q|q
    ·exact this.2.2 q
    ·omega
   ·have:=p _ g h;refine⟨by omega,this.2.2,λG=>?_⟩;rcases m g G with q|q
    ·have:=S.hr.stlt g q;omega
    ·exact(f.lt _ g h).2.2 q.2
  ·rw[j] at A ⊢;by_cases X:b<L
   ·have:o[b]'(by omega)=Y.hp[b]'(by omega):=x5 (by omega);rw[this] at z;have:=S.hr.nms b (by omega) c z;omega
   ·have:o[b]'(by omega)=(u[b-L]'(by omega)).rn (L + ·):=by
     simp only[o];rw[ab6 (by omega),j8];simp[hL]
    rw[this,Blk.rn_nms] at z;obtain⟨d,hd,rfl⟩:=aa5.1 z;have:=f.nms _ (by omega) d hd;omega
  ·rw[j] at A;by_cases X:b<L
   ·have:o[b]'(by omega)=Y.hp[b]'(by omega):=x5 (by omega);rw[this];exact(S.hr.blk b (by omega)).mono M (M.nm b X) (λg a=>e g (S.hr.lt b g a).2.1) (λc v=>by have:=S.hr.nms b (by omega) c v;omega)
   ·have:o[b]'(by omega)=(u[b-L]'(by omega)).rn (L + ·):=by
     simp only[o];rw[ab6 (by omega),j8];simp[hL]
    rw[this];refine(f.blk _ (by omega)).rn a4 (by
     rcases B with h|h
     ·exact .inr h
     ·exact .inl (o5.1 h.2 _ (j5 _))) ?_ (λc v=>?_)
    ·have:=y (b-L) (by omega);rw[show L+(b-L)=b by omega] at this;exact this
    ·have a1:=f.nms _ (by omega) c v;exact⟨y c a1,a3 c a1⟩
 have F:Stp C Q Y.hp w W Γ2 o w' W:=by
  refine⟨l.os,l.tape,l.output,l.size,D,λg a=>(m g a).imp (λh=>h) (λh=>h.1),λb g h=>?_,λ_ h=>.inl h,λg a _ _=>e g a,rfl,by omega,λb A hf=>⟨M.nm b (by omega),M.shp b (by omega),λg a=>M.hs b g (by omega) a⟩⟩;simp only[Γ2] at h;split at h
  ·exact .inl ⟨by omega,h⟩
  ·exact .inr (p _ g h).2.1
 have S':=S.step hI F (λg a=>e g (hI.foot _ _ _ _ S.inv g a).1) a6 (S.sr.mono M (λc v=>by have:=S.sr.nms c v;omega));refine⟨⟨_,_,Γ2,W,hk,F,S',?_,λc v=>?_⟩,⟨e,l.size⟩,l.os,l.tape,l.output⟩
 ·exact hv.rn a4 (by rcases B with h|h;exact .inr h;exact .inl h.1) (λc v=>⟨y c (hvn c v),a3 c (hvn c v)⟩)
 ·rw[PV.rn_nms] at v;obtain⟨d,hd,rfl⟩:=aa5.1 v;have:=hvn d hd;show L+d<o.length;omega
def An0{g:Nat}{args:List PV}{e:Array Value}{ret:PV}{d:List Blk}{k:PV->St U->Option R}(n:HI I)(l:Dc C K)(S:SI C I Q W Y J w)(o:CR Q (A3 Y.hp) w args e)(a:D0 (Q3 Y.hp args)=[])(j:K Unit (λ_ _=>none) g (Q3 Y.hp args) [] ()=some (ret,d,()))
  (c:ret.clean=true) (m:d.all Blk.clean=true) (p:k (ret.rn (Y.hp.length + ·)) { sl:=Y.sl,hp:=Y.hp++d.map (Blk.rn (Y.hp.length + ·)),s:=Y.s } = some r):R5 C.P ((callFunc g e).run C.P w) (Ah7 C I Q W Y J w k r):=by
 have f:=o.snap S.hr;let Γc:Ctx:={ Q.all with nm:=λ_=>none }
 have i:CR Γc (A3 []) w (Q3 Y.hp args) e:=f.bare a (λ_ h=>h) rfl;exact(EC n S (St0:=Q.all.St) (λ_ h=>ac0 h) (.inr ⟨c,m⟩)
  (l Unit I0 _ Q.yv Cq5 Cq6 g _ [] () ret d () j Γc noΦ w e rfl (Np (λ_=>rfl) (A77 S)) (S.g.mono (λ_ _=>rfl) (λ_ h=>ac0 h)) (λ_ h=>h) (λb g h=>by cases h) i (by rw[a];simp)) p).mono λ_ _ h=>h.1
def LA{g:Nat}{args:List PV}{d:Array Value}{j:List PV->Tr}{ret:PV}{c:List Blk}{k:PV->St U->Option R}(m:HI I)(n:XOK C)(S:SI C I Q W Y J w)(o:CR Q (A3 Y.hp) w args d)(p:C.X g=some j)(i:M6 (j (argX Y.hp args))=some (ret,c))
  (f:D0 (argX Y.hp args)=[]) (l:DP Y.hp args=true\/(ret.clean=true/\c.all Blk.clean=true)) (q:k (ret.rn (Y.hp.length + ·)) { sl:=Y.sl,hp:=Y.hp++c.map (Blk.rn (Y.hp.length + ·)),s:=Y.s } = some r):R5 C.P ((callFunc g d).run C.P w) (λV w'=>Ah7 C I Q W Y J w k r V w'/\O7 w w'):=by
 by_cases t:DP Y.hp args=true
 ·have a:=o.argX_plain t;let Γc:Ctx:={ Q with nm:=λ_=>none }
  have b:CR Γc (A3 []) w (argX Y.hp args) d:=a.bare f (λ_ h=>h) rfl;exact EC m S (St0:=Q.St) (λ_ h=>h) (.inl λ_ h=>h) (n.x g j _ ret c p i Γc w d (λ_=>rfl) (Np (λ_=>rfl) S.hr.stlt) S.g b) q
 ·have e:ret.clean=true/\c.all Blk.clean=true:=by rcases l with h|h;exact absurd h t;exact h
  have a:=o.argX S.hr;let Γc:Ctx:={ Q.all with nm:=λ_=>none }
  have b:CR Γc (A3 []) w (argX Y.hp args) d:=a.bare f (λ_ h=>h) rfl;exact EC m S (St0:=Q.all.St) (λ_ h=>ac0 h) (.inr e) (n.x g j _ ret c p i Γc w d (λ_=>rfl) (Np (λ_=>rfl) (A77 S)) (S.g.mono (λ_ _=>rfl) (λ_ h=>ac0 h)) b) q
def An2{g:Nat}{args:List PV}{e:Array Value}{f:List PV->Tr}{ret:PV}{a:List Blk}{k:PV->St U->Option R}(i:HI I)(j:XOK C)(S:SI C I Q W Y J w)(l:CR Q (A3 Y.hp) w args e)(m:C.X g=some f)(d:M6 (f (argX Y.hp args))=some (ret,a))
  (c:D0 (argX Y.hp args)=[]) (b:DP Y.hp args=true\/(ret.clean=true/\a.all Blk.clean=true)) (n:k (ret.rn (Y.hp.length + ·)) { sl:=Y.sl,hp:=Y.hp++a.map (Blk.rn (Y.hp.length + ·)),s:=Y.s } = some r):R5 C.P ((callFunc g e).run C.P w) (Ah7 C I Q W Y J w k r):=
 (LA i j S l m d c b n).mono λ_ _ h=>h.1
end
def Ctx.lent(Γ:Ctx)(ns:List Nat):Ctx:={ Γ with nm:=λi=>(ns[i]?).bind Γ.nm }
def Ctx.back(Γ Γ1:Ctx)(ns:List Nat)(L:Nat)(d:Bool):Ctx:=
 { St:=Γ1.St,nm:=λb=>if b∈ns then Γ1.nm (J1 ns b) else if b<L then Γ.nm b else if d=true then none else Γ1.nm (ns.length+(b-L)),yv:=Γ.yv,yv1:=Γ.yv1 }
section
variable {W R : Type} {r : R} {C : Cfg} {I : W -> (Nat -> Prop) -> (Nat -> Prop) -> World -> Prop} {Q : Ctx} {H : List Blk} {J : Nat -> Prop} {Y : St W} {Z : Array Value} {w : World} {X : G1} {K : Yh W} {O : Value}
def Q6(H:List Blk)(a:List Nat):List Blk:=a.map λb=>(H.getD b .dead).rn (J1 a)
def Tl{a:List Nat}{b:Nat}(h:b∈a):(Q.lent a).nm (J1 a b)=Q.nm b:=by obtain⟨c,d⟩:=Cg h;simp only[Ctx.lent,c9 c,d,j7]
def Ml{a:List Nat}(c:∀b∈a,b<H.length){i:Nat}(d:i<a.length):A3 (Q6 H a) i=A3 H a[i]:=by have:=c _ (j5 d);simp only[A3,Q6,aa0,c9 d,x7,Blk.rn_shp,c9 this];rw[v7,c9 this];rfl
def ZJ{a:List Nat}(p:HR Q H w)(y:a.Nodup)(k:∀b∈a,b<H.length)(x:Fr H a=true):HR (Q.lent a) (Q6 H a) w:=by
 have n:=OW x;have key:∀i g,(Q.lent a).nm i=some g->∃h:i<a.length,Q.nm a[i]=some g:=λi g h=>by
  simp only[Ctx.lent] at h;cases f:a[i]? with
  | none=>rw[f] at h;simp at h
  | some b=>
   obtain⟨u,v⟩:=ab5.1 f;rw[f] at h;exact⟨u,by rw[v];exact h⟩
 have l:∀b (h:b∈a),H.getD b .dead=H[b]'(k b h):=λb h=>by rw[v7,c9 (k b h)];rfl
 refine⟨λi j g u v=>?_,λi g h=>?_,p.stlt,λi f c q=>?_,λi f=>?_⟩
 ·obtain⟨f,t⟩:=key i g u;obtain⟨F,z⟩:=key j g v;have:=p.inj _ _ g t z;exact(ah0 y).1 this
 ·obtain⟨f,t⟩:=key i g h;have:=p.lt _ g t;exact⟨by simpa[Q6] using f,this.2⟩
 ·simp only[Q6,p4] at f ⊢;simp only[Q6,j8,Blk.rn_nms] at q;obtain⟨d,A,rfl⟩:=aa5.1 q;exact(Cg (n _ (j5 f) d A)).1
 ·simp only[Q6,p4] at f;have o:=j5 f;have e:(Q6 H a)[i]'(by simpa[Q6] using f)=(H[a[i]]'(k _ o)).rn (J1 a):=by
   simp only[Q6,j8,l _ o]
  rw[e];refine BR.rn (Γ:=Q) (Γ':=Q.lent a) (b':=i) rfl (p.blk _ (k _ o)) (.inr λ_ h=>h) ?_ (λc q=>?_)
  ·simp only[Ctx.lent,c9 f,j7]
  ·have m:c∈a:=n _ o c (by rw[l _ o];exact q);obtain⟨B,D⟩:=Cg m;exact⟨Tl m,by rw[Ml k B,D]⟩
def ST{L:Nat}{H:List Blk}(h:Ce4 L H=true):∀x∈H,∀c∈x.nms,c<L:=by intro x b c a;simp only[Ce4,o5,af] at h;exact h x b c a
def LQ{b:Nat}(a:b<H.length):Ft C (H.getD b .dead)=true↔Kq C (A3 H b):=by
 have e:H.getD b .dead=H[b]:=by rw[v7,c9 a];rfl
 rw[e];simp only[A3,c9 a,x7];cases H[b]<;>simp[Ft,Kq,Blk.shp]
def EO{g:Nat}{T:List PV}{Vs:Array Value}{ret:PV}{z:List Blk}{s':W}{k:PV->St W->Option R}(hI:HI I)(hC:Dc C X)(hy:A75 C.P I K O)(f8:Q.yv=O)(S:SI C I Q J Y Z w)(m:CR Q (A3 Y.hp) w T Vs)(hn:∀c∈D0 T,c<Y.hp.length)
  (e8:Fr Y.hp (Ee Y.hp (D0 T))=true) (c3:X W K g (rnL (J1 (Ee Y.hp (D0 T))) T) (Q6 Y.hp (Ee Y.hp (D0 T))) Y.s=some (ret,z,s'))
  (hk:k (Jh (U1 ((Ee Y.hp (D0 T)).filter λb=>!Ft C (Y.hp.getD b .dead)) Y.hp) (Ee Y.hp (D0 T)) ret z).1
   { sl:=N1 ((Ee Y.hp (D0 T)).filter λb=>!Ft C (Y.hp.getD b .dead)) Y.sl,hp:=(Jh (U1 ((Ee Y.hp (D0 T)).filter λb=>!Ft C (Y.hp.getD b .dead)) Y.hp) (Ee Y.hp (D0 T)) ret z).2,s:=s' } = some r) :
  R5 C.P ((callFunc g Vs).run C.P w) (Ah7 C I Q J Y Z w k r):=by
 have c8:=FK Y.hp (D0 T);have c0:=TL Y.hp (D0 T);have P:∀b∈Ee Y.hp (D0 T),b<Y.hp.length:=TK Y.hp (D0 T) (· < Y.hp.length) (λb l c m=>by
  have e:Y.hp.getD b .dead=Y.hp[b]:=by rw[v7,c9 l];rfl
  rw[e] at m;exact S.hr.nms b l c m) hn
 generalize Ee Y.hp (D0 T)=a at *;have e6:=ZJ S.hr c8 P e8;have u:=λb (h:b∈a)=>Cg h
 have c2:CR (Q.lent a) (A3 (Q6 Y.hp a)) w (rnL (J1 a) T) Vs:=by
  rw[Oy];refine⟨by rw[p4];exact m.1,λj hj=>?_⟩;have d4:j<T.length:=by simpa using hj
  obtain⟨U,e,q⟩:=m.2 j d4;refine⟨U,e,?_⟩;rw[j8];refine VP.rn (Γ:=Q) (Γ':=Q.lent a) rfl q (.inr λ_ h=>h) (λc m=>?_);have a0:=c0 c (C7.2 ⟨j,d4,m⟩);obtain⟨q1,q2⟩:=u c a0;exact⟨Tl a0,by rw[Ml P q1,q2]⟩
 have c1:∀c∈D0 (rnL (J1 a) T),c<(Q6 Y.hp a).length:=λc m=>by
  rw[Gx] at m;obtain⟨d,hd,rfl⟩:=aa5.1 m;simpa[Q6] using(u d (c0 d hd)).1
 refine(hC W I K O hI hy g _ _ _ ret z s' c3 (Q.lent a) J w Vs f8 e6 S.g S.inv (λi g h=>?_) c2 c1).mono ?_
 ·simp only[Ctx.lent] at h;cases t:a[i]? with
  | none=>rw[t] at h;simp at h
  | some b=>rw[t] at h;exact S.dis b g h
 rintro V w' ⟨Γ1,Φ1,hs,p,hv,hvn,e9,d2⟩;generalize hL:Y.hp.length=L at *;generalize d5:(a.filter λb=>!Ft C (Y.hp.getD b .dead))=ks at *;obtain⟨F,f9,e3⟩:=Rf (Γ:=Q) (sh:=A3 Y.hp) (w:=w) ks Y.hp;have g0:(Q6 Y.hp a).length=a.length:=by simp[Q6]
 have g4:a.length<=z.length:=by have:=hs.len;omega
 simp only[Jh,F,hL] at hk;generalize hf:No a L=f at *;have f1:∀i (h:i<a.length),f i=a[i]:=λi h=>by rw[<-hf];simp only[No,ac h];exact Al h
 have f2:∀i,¬i<a.length->f i=L+(i-a.length):=λi h=>by rw[<-hf];simp only[No,ae h]
 generalize hd:((ret.rn f).nms.all (· < L)&&Ce4 L ((z.take a.length).map (Blk.rn f)))=d at hk;let E:List Blk:=cond d [] ((z.drop a.length).map (Blk.rn f));have c7:((z.take a.length).map (Blk.rn f)).length=a.length:=by simp;omega
 obtain⟨b3,e4⟩:=Kb a ((z.take a.length).map (Blk.rn f)) (U1 ks Y.hp) c8 c7 (λb l=>by rw[F];have:=P b l;omega);have hE:(cond d (Y4 (U1 ks Y.hp) a ((z.take a.length).map (Blk.rn f))) (Y4 (U1 ks Y.hp) a ((z.take a.length).map (Blk.rn f))++(z.drop a.length).map (Blk.rn f)))=Y4 (U1 ks Y.hp) a ((z.take a.length).map (Blk.rn f))++E:=by
  cases d<;>simp[E]
 rw[hE] at hk;generalize b5:Y4 (U1 ks Y.hp) a ((z.take a.length).map (Blk.rn f))++E=H2 at hk;have b6:H2.length=L+E.length:=by rw[<-b5,w9,b3,F,hL]
 have b4:E.length=if d=true then 0 else z.length-a.length:=by cases d<;>simp[E]
 have g1:∀b (l:b∈a),H2[b]? = some ((z[J1 a b]'(by have:=(u b l).1;omega)).rn f):=λb l=>by
  have d1:=P b l;rw[<-b5,ab4 (by rw[b3,F,hL];exact d1),e4,ac l];have t:=(u b l).1;have e:a.idxOf b=J1 a b:=rfl;rw[e,aa0,ab9,ac t,c9 (by omega)];rfl
 have g2:∀b,b<L->b∉a->H2[b]? = (U1 ks Y.hp)[b]?:=λb l o=>by
  rw[<-b5,ab4 (by rw[b3,F,hL];exact l),e4,ae o]
 have g3:∀b,L<=b->(l:b<H2.length)->d=false/\∃h:a.length+(b-L)<z.length,H2[b]? = some ((z[a.length+(b-L)]).rn f):=λb n l=>by
  have v:d=false:=by
   rcases Bool.eq_false_or_eq_true d with h|h
   ·rw[b6,b4,h] at l;simp at l;omega
   ·exact h
  have h':a.length+(b-L)<z.length:=by rw[b6,b4,v] at l;simp at l;omega
  refine⟨v,h',?_⟩;rw[<-b5,aa9 (by rw[b3,F,hL];exact n),b3,F,hL];simp only[E,v,ab,aa0,List.getElem?_drop,c9 h',x7]
 let Γ2:=Q.back Γ1 a L d;have G:∀i,i<z.length->(i<a.length\/d=false)->Γ2.nm (f i)=Γ1.nm i/\A3 H2 (f i)=A3 z i/\f i<H2.length:=λi t D=>by
  by_cases h:i<a.length
  ·rw[f1 i h];have hm:=j5 h;have b8:J1 a a[i]=i:=by
    obtain⟨q1,q2⟩:=u _ hm;exact(ah0 c8).1 q2
   refine⟨by simp only[Γ2,Ctx.back,ac hm,b8],?_,by have:=P _ hm;omega⟩;simp only[A3,g1 _ hm,x7,Blk.rn_shp,b8,c9 t]
  ·have v:d=false:=by rcases D with D|D;exact absurd D h;exact D
   have n:L+(i-a.length)<H2.length:=by rw[b6,b4,v];simp;omega
   have f3:L+(i-a.length)∉a:=λhm=>by have:=P _ hm;omega
   rw[f2 i h];refine⟨?_,?_,n⟩
   ·simp only[Γ2,Ctx.back,ae f3,v];rw[ae (by omega),ae (by simp)]
    congr 1;omega
   ·obtain⟨_,h',e⟩:=g3 _ (by omega) n;have e2:a.length+(L+(i-a.length)-L)=i:=by omega
    simp only[A3,e,x7,Blk.rn_shp,c9 t]
    congr 2
    simp only[e2]
 have b7:∀c∈ret.nms,c<a.length\/d=false:=λc m=>by
  cases c4:d with
  | false=>exact .inr rfl
  | true=>
   rw[c4] at hd;simp only[j4,o5,af] at hd;refine .inl (x9 λh=>?_);have:=hd.1 (f c) (by rw[PV.rn_nms];exact ad6 m);rw[f2 c h] at this;omega
 have b0:∀i (t:i<a.length),∀c∈(z[i]'(by omega)).nms,c<a.length\/d=false:=λi t c m=>by
  cases c4:d with
  | false=>exact .inr rfl
  | true=>
   rw[c4] at hd;simp only[j4] at hd;refine .inl (x9 λh=>?_);have d7:(z[i]'(by omega)).rn f∈(z.take a.length).map (Blk.rn f):=ad6 (by rw[List.mem_take_iff_getElem];exact⟨i,by omega,rfl⟩);have:=ST hd.2 _ d7 (f c) (by rw[Blk.rn_nms];exact ad6 m);rw[f2 c h] at this;omega
 have hΓc:∀i g,(Q.lent a).nm i=some g->∃h:i<a.length,Q.nm a[i]=some g:=λi g h=>by
  simp only[Ctx.lent] at h;cases t:a[i]? with
  | none=>rw[t] at h;simp at h
  | some b=>
   obtain⟨q1,q2⟩:=ab5.1 t;rw[t] at h;exact⟨q1,by rw[q2];exact h⟩
 have c5:=hI.foot _ _ _ _ S.inv;have b9:∀b g,b∉a->Q.nm b=some g->w'.heap[g]? = w.heap[g]?:=λb g l D=>hs.frame g (S.hr.lt b g D).2.1 (λi t=>by
  obtain⟨N,B⟩:=hΓc i g t;have:=S.hr.inj _ _ g B D;exact l (this▸j5 N)) (S.dis b g D)
 have d8:∀g,Q.St g->w'.heap[g]? = w.heap[g]?:=λg D=>hs.frame g (S.hr.stlt g D) (λi t=>by
  obtain⟨N,B⟩:=hΓc i g t;exact(S.hr.lt _ g B).2.2 D) (λhp=>(c5 g hp).2 D)
 have a6:∀i g,Γ1.nm i=some g->(∃h:i<a.length,Q.nm a[i]=some g)\/w.heap.size<=g:=λi g h=>by
  rcases hs.own i g h with⟨_,h⟩|h
  ·exact .inl (hΓc i g h)
  ·exact .inr h
 have d6:∀b,b∈a->b∉ks->Kq C (A3 Y.hp b):=λb l a5=>by
  rw[<-d5] at a5;have d1:=P b l;rw[<-LQ (by omega)];simp only[ah8,not_and,ac3] at a5;simpa using a5 l
 have b1:∀b,b∈a->Kq C (A3 Y.hp b)->Γ2.nm b=Q.nm b/\A3 H2 b=A3 Y.hp b/\∀g,Q.nm b=some g->w'.shape? g=w.shape? g:=λb l c6=>by
  obtain⟨q1,q2⟩:=u b l;have e:=Ml (H:=Y.hp) (λb l=>by have:=P b l;omega) q1;rw[q2] at e;obtain⟨k1,k2,k3⟩:=hs.keep (J1 a b) (by omega) (by rw[e];exact c6);rw[Tl l] at k1 k3;refine⟨by simp only[Γ2,Ctx.back,ac l];exact k1,?_,k3⟩;have e5:A3 z (J1 a b)=some (z[J1 a b]'(by omega)).shp:=by
   simp only[A3];rw[c9 (by omega)];rfl
  rw[<-e,<-k2,e5];simp only[A3,g1 b l,x7,Blk.rn_shp]
 have M:Bg Q (A3 Y.hp) w Γ2 (A3 H2) w' (λc=>c<L/\c∉ks):=by
  have key:∀c,c<L->c∉ks->Γ2.nm c=Q.nm c/\A3 H2 c=A3 Y.hp c/\∀g,Q.nm c=some g->w'.shape? g=w.shape? g:=λc m e7=>by
   by_cases a0:c∈a
   ·exact b1 c a0 (d6 c a0 e7)
   ·refine⟨by simp only[Γ2,Ctx.back,ae a0,ac m],?_,λg D=>F9 (b9 c g a0 D)⟩;rw[<-f9 c];simp only[A3,g2 c m a0]
  exact⟨d8,hs.sub,λc m=>(key c m.1 m.2).1,λc m=>(key c m.1 m.2).2.1,λc g m D=>(key c m.1 m.2).2.2 g D,rfl⟩
 have b2:Γ2.yv=Γ1.yv:=by have:=hs.yv;exact this.symm
 have f4:HR Γ2 H2 w':=by
  refine⟨λb b' g N B=>?_,λb g h=>?_,p.stlt,λb l c a7=>?_,λb l=>?_⟩
  ·simp only[Γ2,Ctx.back] at N B;have a8:∀x y,x∈a->Γ1.nm (J1 a x)=some g->y∉a->Q.nm y=some g->False:=λx y hx e1 f7 e2=>by
    rcases a6 _ g e1 with⟨q1,q2⟩|q
    ·have:=S.hr.inj _ _ g q2 e2;exact f7 (this▸j5 q1)
    ·have:=(S.hr.lt y g e2).2.1;omega
   have a9:∀x i,Q.nm x=some g->¬i<a.length->Γ1.nm i=some g->False:=λx i e1 t e2=>by
    rcases a6 _ g e2 with⟨q1,_⟩|q
    ·exact t q1
    ·have:=(S.hr.lt x g e1).2.1;omega
   split at N
   ·rename_i l;split at B
    ·rename_i a4;have:=p.inj _ _ g N B;rw[<-(u b l).2,<-(u b' a4).2];simp only[this]
    ·rename_i a4;split at B
     ·exact(a8 b b' l N a4 B).elim
     ·split at B
      ·cases B
      ·have:=p.inj _ _ g N B;have:=(u b l).1;omega
   ·rename_i l;split at N
    ·rename_i n;split at B
     ·rename_i a4;exact(a8 b' b a4 B l N).elim
     ·split at B
      ·exact S.hr.inj b b' g N B
      ·split at B
       ·cases B
       ·exact(a9 b _ N (by omega) B).elim
    ·rename_i n;split at N
     ·cases N
     ·split at B
      ·rename_i a4;have:=p.inj _ _ g N B;have:=(u b' a4).1;omega
      ·split at B
       ·exact(a9 b' _ B (by omega) N).elim
       ·have:=p.inj _ _ g N B;omega
  ·simp only[Γ2,Ctx.back] at h ⊢;split at h
   ·rename_i l;have:=p.lt _ g h;have:=P b l;exact⟨by omega,(p.lt _ g h).2.1,(p.lt _ g h).2.2⟩
   ·split at h
    ·rename_i n;have N:=S.hr.lt b g h;refine⟨by omega,by have:=hs.size;omega,λf5=>?_⟩;rcases hs.stnew g f5 with q|q
     ·exact N.2.2 q
     ·omega
    ·rename_i n;split at h
     ·cases h
     ·rename_i v;have N:=p.lt _ g h;refine⟨?_,N.2.1,N.2.2⟩;rw[b6,b4,ae v];omega
  ·by_cases o:b∈a
   ·have e:=g1 b o;rw[c9 l] at e;simp only[j0] at e;rw[e,Blk.rn_nms] at a7;obtain⟨c',A,rfl⟩:=aa5.1 a7;have t:=(u b o).1;exact(G c' (p.nms _ (by omega) c' A) (b0 _ t c' A)).2.2
   ·by_cases n:b<L
    ·have e:=g2 b n o;rw[c9 l,c9 (by rw[F,hL];exact n)] at e;simp only[j0] at e;rw[e] at a7;have:=((e3 b (by rw[F,hL];exact n) (by omega)).1 c a7).2;have:=S.hr.nms b (by omega) c this;omega
    ·obtain⟨v,h',e⟩:=g3 b (by omega) l;rw[c9 l] at e;simp only[j0] at e;rw[e,Blk.rn_nms] at a7;obtain⟨c',A,rfl⟩:=aa5.1 a7;exact(G c' (p.nms _ h' c' A) (.inr v)).2.2
  ·by_cases o:b∈a
   ·have e:=g1 b o;rw[c9 l] at e;simp only[j0] at e;rw[e];have t:=(u b o).1;refine(p.blk _ (by omega)).rn b2 (.inr λ_ h=>h) (by simp only[Γ2,Ctx.back,ac o]) (λc' A=>?_);have:=G c' (p.nms _ (by omega) c' A) (b0 _ t c' A);exact⟨this.1,this.2.1⟩
   ·by_cases n:b<L
    ·have e:=g2 b n o;rw[c9 l,c9 (by rw[F,hL];exact n)] at e;simp only[j0] at e;rw[e];have q:=e3 b (by rw[F,hL];exact n) (by omega);refine(q.2 b (S.hr.blk b (by omega))).mono M (by simp only[Γ2,Ctx.back,ae o,ac n]) (λg D=>b9 b g o D) (λc m=>?_);have:=q.1 c m;exact⟨by have:=S.hr.nms b (by omega) c this.2;omega,this.1⟩
    ·obtain⟨v,h',e⟩:=g3 b (by omega) l;rw[c9 l] at e;simp only[j0] at e;rw[e];refine(p.blk _ h').rn b2 (.inr λ_ h=>h) ?_ (λc' A=>?_)
     ·simp only[Γ2,Ctx.back,ae o,ae n,v];simp
     ·have:=G c' (p.nms _ h' c' A) (.inr v);exact⟨this.1,this.2.1⟩
 have d9:Stp C Q Y.hp w J Γ2 H2 w' Φ1:=by
  refine⟨hs.os,hs.tape,hs.output,hs.size,hs.sub,hs.stnew,λb g h=>?_,hs.foot,λg D f0 hp=>hs.frame g D (λi t=>?_) hp,rfl,by omega,λb l c6=>?_⟩
  ·simp only[Γ2,Ctx.back] at h;split at h
   ·rename_i l;rcases a6 _ g h with⟨q1,q2⟩|q
    ·have hh:a[J1 a b]=b:=(u b l).2;rw[hh] at q2;exact .inl ⟨by have:=P b l;omega,q2⟩
    ·exact .inr q
   ·split at h
    ·exact .inl ⟨by omega,h⟩
    ·split at h
     ·cases h
     ·rcases a6 _ g h with⟨q1,_⟩|q
      ·omega
      ·exact .inr q
  ·obtain⟨_,q2⟩:=hΓc i g t;exact f0 _ q2
  ·by_cases o:b∈a
   ·exact b1 b o c6
   ·have a5:b∉ks:=λh=>o (by rw[<-d5] at h;exact(ah8.1 h).1)
    exact⟨M.nm b ⟨by omega,a5⟩,M.shp b ⟨by omega,a5⟩,λg D=>M.hs b g ⟨by omega,a5⟩ D⟩
 have f6:SR Γ2 H2 w' (N1 ks Y.sl) Z:=by
  obtain⟨d0,a2,a3⟩:=Oc (Γ:=Q) (sh:=A3 Y.hp) (w:=w) ks Y.sl;refine⟨by rw[d0];exact S.sr.size,λc m=>by have:=S.sr.nms c (a2 c m).2;omega,λi t=>?_⟩;have d3:i<Y.sl.length:=by rw[d0] at t;exact t
  obtain⟨U,e,q⟩:=S.sr.slot i d3;refine⟨U,e,(a3 i t d3 U q).mono M λc m=>?_⟩;have hm:=a2 c (C7.2 ⟨i,t,m⟩);exact⟨by have:=S.sr.nms c hm.2;omega,hm.1⟩
 refine⟨_,_,Γ2,Φ1,hk,d9,⟨f4,f6,S.g.mono d8 hs.sub,e9,λb g h=>?_⟩,?_,λc m=>?_⟩
 ·intro hp;simp only[Γ2,Ctx.back] at h;split at h
  ·exact d2 _ g h hp
  ·split at h
   ·rcases hs.foot g hp with q|q
    ·exact S.dis b g h q
    ·have:=(S.hr.lt b g h).2.1;omega
   ·split at h
    ·cases h
    ·exact d2 _ g h hp
 ·exact hv.rn b2 (.inr λ_ h=>h) (λc m=>by
   have:=G c (hvn c m) (b7 c m);exact⟨this.1,this.2.1⟩)
 ·rw[PV.rn_nms] at m;obtain⟨c',A,rfl⟩:=aa5.1 m;exact(G c' (hvn c' A) (b7 c' A)).2.2
end
section
variable {σ R : Type} {r : R} {C : Cfg} {I : σ -> (Nat -> Prop) -> (Nat -> Prop) -> World -> Prop} {Γ : Ctx} {L : Nat -> Prop} {st : St σ} {a : Act} {w : World} {cl : G1} {yh : Yh σ} {yv : Value} {o : Oper}
structure Ask (C:Cfg) (I:σ->(Nat->Prop)->(Nat->Prop)->World->Prop) (cl:G1) (yh:Yh σ) (yv:Value):Prop where
 hI:HI I
 hC:Dc C cl
 hX:XOK C
 hy:A75 C.P I yh yv
def Bu1{g b:Nat}{args:List PV}{d:SV->List (List SV)->Bool × List (List SV)}{x:SV}(h:Dg4 C g args=some (d,b,x)):C.Z g=some d/\(args=[.fl b,.s x]/\x≠.nilp\/args=[.fl b]/\x = .nilp):=by
 unfold Dg4 at h;split at h
 ·rename_i c;split at h
  ·cases h
  ·rename_i e;simp only[j0,p6] at h;obtain⟨rfl,rfl,rfl⟩:=h;exact⟨c,.inl ⟨rfl,e⟩⟩
 ·rename_i c;simp only[j0,p6] at h;obtain⟨rfl,rfl,rfl⟩:=h;exact⟨c,.inr ⟨rfl,rfl⟩⟩
 ·cases h
def SI.like'{tmps:Array Value}(hI:HI I)(S:SI C I Γ L st tmps w){w':World}(h:O7 w w'):SI C I Γ L st tmps w'/\Stp C Γ st.hp w L Γ st.hp w' L:=
 S.wide hI (St':=Γ.St) h.1.1 h.1.2 (λ_ h=>h) (λ_ h=>.inl h) (λg hg=>k9 (S.hr.stlt g hg) h.1.2) h.2.1 h.2.2.1 h.2.2.2
def An3{args:List PV}{g b e sz:Nat}{v:Bool}{Y:SV->List (List SV)->Bool × List (List SV)}{x:SV}{d:List (List SV)}{p m:Array Value}{k:PV->St σ->Option R}(hI:HI I)(hz:Aj8 C.P g Y)(S:SI C I Γ L st m w)(D:st.hp[b]? = some (.arr v e sz d))(u:CR Γ (A3 st.hp) w args p)(t:args=[.fl b,.s x]/\x≠.nilp\/args=[.fl b]/\x = .nilp)(hp:(Y x d).1=true)
  (O:k (.tup []) { sl:=st.sl,hp:=st.hp.set b (.arr v e sz (Y x d).2),s:=st.s } = some r):R5 C.P ((callFunc g p).run C.P w) (Ah7 C I Γ L st m w k r):=by
 obtain⟨U,X,rfl,J,hx⟩:∃U X,p=Dg3 x U X/\VP Γ (A3 st.hp) w (.fl b) U/\VS Γ.St w x X:=by
  rcases t with⟨rfl,l⟩|⟨rfl,rfl⟩
  ·obtain⟨U,e1,J⟩:=u.2 0 (by simp);obtain⟨X,e2,h2⟩:=u.2 1 (by simp);refine⟨U,X,?_,J,h2.inv_s⟩;have hV:p = #[U,X]:=by
    have hs:p.size=2:=u.1;grind
   rw[hV];cases x<;>first|rfl|exact absurd rfl l
  ·obtain⟨U,e1,J⟩:=u.2 0 (by simp);refine⟨U,.pointer none,?_,J,.nilp⟩;have hs:p.size=1:=u.1;show p = #[U];grind
 obtain⟨z1,z2⟩:=hz Γ.St w x X d hx hp;have T:∀{s:Shp},A3 st.hp b=some s->s = .arr v e sz d.length:=λh=>by
  simp only[A3,D,x7,Blk.shp,j0] at h;exact h.symm
 have a0:VP Γ (A3 st.hp) w (.fl b) U:=J;cases a0 with
 | flv _ H f h=>
  have:=T h;simp only[Shp.arr.injEq] at this;obtain⟨rfl,rfl,rfl,Z⟩:=this;have Z:=ae7.1 Z.symm;refine(z1 Z).mono ?_;rintro V w' ⟨rfl,hn,hl⟩;have Q:st.hp.set b (.arr true H f (Y x d).2)=st.hp:=by
   rw[hn];rw[Z] at D;apply List.ext_getElem?;grind
  rw[Q] at O;obtain⟨S1,a3⟩:=S.like' hI hl;exact⟨_,_,Γ,L,O,a3,S1,Au,by simp[PV.nms,D0]⟩
 | fl _ q v' H f n cap h hv y K hm hs=>
  have:=T h;simp only[Shp.arr.injEq] at this;obtain⟨rfl,rfl,rfl,rfl⟩:=this;have l:¬(v'=true/\d=[]):=by rintro⟨q1,q2⟩;exact hv q1 (by rw[q2];rfl)
  obtain⟨g',F,N,hh,A,z,M⟩:=S.hr.arr' D l;obtain rfl:q=g':=by rw[y] at N;exact ad4 N
  have a1:F.size=cap*f:=by
   simp only[ag8,hh,j0,p6,true_and] at hs;exact hs
  refine(z2 q F H f cap hh a1 K hm (S.hr.lt b q y).2.2 S.hr.stlt z M).mono ?_;rintro V w' ⟨rfl,i,w1,G,q1,q2,q3,q4,q5,q6,q7,q8,q9,a5⟩;have j:(Blk.arr v' H f (Y x d).2).shp=(Blk.arr v' H f d).shp:=by simp only[Blk.shp,i]
  have B:w1.shape? q=w.shape? q:=by simp only[ag8,q1,hh,q2]
  have P:w.heap.size<=w1.heap.size:=by omega
  have W:=UG (C:=C) S.hr D y j q3 B P q5 q6 q7;have a2:=A39 S.hr D y j q3 B P (.inr ⟨λhz=>l ⟨hz.1,by
    have:=congrArg List.length hz.2;rw[i] at this;exact ae7.1 this⟩,q,G,y,q1,by rw[i,q2];exact A,q8,q9⟩) (by simp[Blk.nms])
  have S1:=S.step hI (W.lift L) (λk O=>q3 k (λek=>S.dis b q y (ek▸O))) a2 (S.sr.mono (Ff S.hr D y j q3 B) (λc u=>⟨trivial,by simpa using S.sr.nms c u⟩));obtain⟨S2,a4⟩:=S1.like' hI a5;exact⟨_,_,Γ,L,O,(W.lift L).trans a4,S2,Au,by simp[PV.nms,D0]⟩
def EN{g:Nat}{args:List PV}{D i:Array Value}{k:PV->St σ->Option R}(A:Ask C I cl yh yv)(z:Γ.yv=yv)(h:Xs C cl yh g args st k=some r)(S:SI C I Γ L st i w)(q:CR Γ (A3 st.hp) w args D)(Q:∀c∈D0 args,c<st.hp.length) :
  R5 C.P ((callFunc g D).run C.P w) (Ah7 C I Γ L st i w k r):=by
 unfold Xs at h;split at h
 ·rename_i B M;split at h
  ·rename_i l;obtain⟨ret,m,d,h⟩:=Cj h;have d:M6 (B (argX st.hp args))=some (ret,m):=by
    cases J:C.xp g with
    | true=>rw[J] at d;exact(Cv d).1
    | false=>rw[J] at d;exact d
   obtain⟨n,p⟩:=D6 h;exact An2 A.hI A.hX S q M d (ab1.1 l) (by simpa only[y9,j4] using n) p
  ·cases h
 ·split at h
  ·rename_i B b x O;obtain⟨F,j⟩:=Bu1 O;split at h
   ·rename_i v e W K P;obtain⟨n,p⟩:=D6 h;exact An3 A.hI (A.hX.z g B F) S P q j n p
   ·cases h
  dsimp only at h;split at h
  ·rename_i H;split at h
   ·rename_i t;have key:CR Γ (A3 st.hp) w (cond (C.lend g) args (Q3 st.hp args)) D/\∀c∈D0 (cond (C.lend g) args (Q3 st.hp args)),c<st.hp.length:=by
     cases G:C.lend g with
     | true=>exact⟨q,Q⟩
     | false=>
      rw[G] at H;have T:FM args=false:=by simpa using H
      obtain⟨U,V⟩:=q.snap_plain T;grind
    split at h
    ·rename_i B N;obtain⟨ret,m,d,h⟩:=Cj h;refine EO (s':=st.s) A.hI A.hX.y A.hy z S key.1 key.2 t ?_ h;simp only[clY,N];rw[show M6 (B _ (Q6 st.hp _))=some (ret,m) from d]
    ·split at h
     ·rename_i ret m s' f;exact EO A.hI A.hC A.hy z S key.1 key.2 t f h
     ·cases h
   ·cases h
  ·split at h
   ·rename_i l;split at h
    ·rename_i ret m u f;split at h
     ·rename_i y;obtain⟨n,p⟩:=D6 h;exact An0 A.hI A.hC S q (ab1.1 l) f y n p
     ·cases h
    ·cases h
   ·cases h
def CR.append{sh:Nat->Option Shp}{x y:List PV}{X Y:Array Value}(hx:CR Γ sh w x X)(hy:CR Γ sh w y Y):CR Γ sh w (x++y) (X++Y):=by
 refine⟨by rw[Array.size_append,w9,hx.1,hy.1],λj hj=>?_⟩;rw[w9] at hj;by_cases h:j<x.length
 ·obtain⟨U,e,k⟩:=hx.2 j h;grind
 ·obtain⟨U,e,k⟩:=hy.2 (j-x.length) (by omega);refine⟨U,by rw[Array.getElem?_append_right (by rw[hx.1];omega),hx.1];exact e,?_⟩;grind
def Q0(x y:List PV):D0 (x++y)=D0 x++D0 y:=by
 induction x with
 | nil=>rfl
 | cons a x b=>simp[D0,b]
def VP.inv_fn'{sh:Nat->Option Shp}{V:Value}{f:Fn}{x y:List SV}(h:VP Γ sh w (.s (.fn f x y)) V):∃A B,V = .func f A B/\CR Γ sh w (x.map .s) A/\CR Γ sh w (y.map .s) B:=by
 have hs:=h.inv_s;cases hs with
 | fn _ _ _ A B As Bs hf hA hB ha hb hx hy=>
  refine⟨A,B,rfl,⟨by simpa using hA,λj hj=>?_⟩,⟨by simpa using hB,λj hj=>?_⟩⟩
  ·have hj':j<x.length:=by simpa using hj
   exact⟨As j,ha j hj',by rw[j8];exact .s _ _ (hx j hj')⟩
  ·have hj':j<y.length:=by simpa using hj
   exact⟨Bs j,hb j hj',by rw[j8];exact .s _ _ (hy j hj')⟩
def VP.inv_fnr'{sh:Nat->Option Shp}{V:Value}{f:Fn}{x y:List PV}(h:VP Γ sh w (.fnr f x y) V):∃A B,V = .func f A B/\CR Γ sh w x A/\CR Γ sh w y B:=by
 cases h with
 | fnr _ _ _ A B As Bs hf hA hB ha hb hx hy=>exact⟨A,B,rfl,⟨hA,λj hj=>⟨As j,ha j hj,hx j hj⟩⟩,⟨hB,λj hj=>⟨Bs j,hb j hj,hy j hj⟩⟩⟩
def TZ{sh:Nat->Option Shp}:∀{args:List PV} {Vs:List Value},Lb args=true->args.length=Vs.length->(∀j (h:j<args.length),∃U,Vs[j]? = some U/\VP Γ sh w (args[j]) U)->∀j (h:j<args.length),∃U,Vs[j]? = some U/\VP Γ (λ_=>none) w (args[j]) U
 | [],Vs,_,_,_=>λj h=>by simp at h
 | v::r,[],_,n,_=>by simp at n
 | v::r,U::z,c,n,y=>by
  have t:VP Γ sh w v U:=by
   obtain⟨q,e,k⟩:=y 0 (by simp);grind
  have B:∀j (h:j<r.length),∃U,z[j]? = some U/\VP Γ sh w (r[j]) U:=λj d=>by
   obtain⟨q,e,k⟩:=y (j+1) (by simpa using d);grind
  have key:Lb r=true/\VP Γ (λ_=>none) w v U:=by
   unfold Lb at c;split at c
   ·grind
   ·rename_i m;cases m;exact⟨c,.s _ _ t.inv_s⟩
   ·rename_i l G m;cases m;simp only[j4,v8] at c;obtain⟨⟨g,p⟩,c⟩:=c;refine⟨c,?_⟩;obtain⟨A,rfl,hA,i⟩:=t.inv_agg;refine VP.mk_agg hA λj d=>?_
    obtain⟨U,e,k⟩:=i j d;refine⟨U,e,?_⟩;have:(l[j]).nms=[]:=by
     have:∀(l:List PV) g,Lc l=some g->∀v∈l,v.nms=[]:=by
      intro l
      induction l with
      | nil=>intro _ _ v f;simp at f
      | cons x l F=>
       intro g h v f;simp only[Lc] at h;split at h
       ·rename_i a b u D;rcases y5.1 f with rfl|f
        ·unfold PV.sv? at u;split at u
         ·rfl
         ·rfl
         grind
        grind
       grind
     exact this l g p _ (j5 d)
    exact k.mono (Γ':=Γ) (ok:=λ_=>False) ⟨λ_ _=>rfl,λ_ h=>h,λ_ h=>h.elim,λ_ h=>h.elim,λ_ _ h=>h.elim,rfl⟩ (by rw[this];simp)
   grind
  intro j d;cases j with
  | zero=>exact⟨U,rfl,by simpa using key.2⟩
  | succ j=>
   obtain⟨q,e,k⟩:=TZ key.1 (by simpa using n) B j (by simpa using d);grind
def An1{f:PV}{D:Value}{args:List PV}{Vs n:Array Value}{k:PV->St σ->Option R}(A:Ask C I cl yh yv)(u:Γ.yv=yv)(h:EP C cl yh f args st k=some r)(S:SI C I Γ L st n w)(K:VP Γ (A3 st.hp) w f D)(p:∀c∈f.nms,c<st.hp.length)
  (i:CR Γ (A3 st.hp) w args Vs) (Y:∀c∈D0 args,c<st.hp.length) :
  R5 C.P ((do let d <-o9 D Vs;invoke d.target d.args).run C.P w) (Ah7 C I Γ L st n w k r):=by
 unfold EP at h;split at h
 ·rename_i g first v;obtain⟨F,B,rfl,G,H⟩:=K.inv_fn';have:=EN A u h S ((G.append i).append H) (λc i=>by
   rw[Q0,Q0,MW,MW] at i;simp only[ad3,y8] at i;exact Y c i)
  simpa[o9,invoke] using this
 ·rename_i g first v;obtain⟨F,B,rfl,G,H⟩:=K.inv_fnr';have:=EN A u h S ((G.append i).append H) (λc i=>by
   rw[Q0,Q0] at i;simp only[x6] at i;simp only[PV.nms,x6] at p;rcases i with(i|i)|i
   ·exact p c (.inl i)
   ·exact Y c i
   ·exact p c (.inr i))
  simpa[o9,invoke] using this
 ·split at h
  ·rename_i z;unfold ydK at h;split at h
   ·rename_i b s' P;have J:D=yv:=by
     cases K;exact u
    subst J;refine(A.hy args st.s b s' P z Γ L w Vs S.inv S.hr.stlt ⟨i.1,?_⟩).mono ?_
    ·intro j N;obtain⟨U,e,q⟩:=TZ (Vs:=Vs.toList) z (by simpa using i.1.symm) (λj N=>by obtain⟨U,e,k⟩:=i.2 j N;exact⟨U,by simpa using e,k⟩) j N;exact⟨U,by simpa using e,q⟩
    ·rintro V w' ⟨rfl,St',W,hi,Q,Z,q3,T,q5,q6,q7,q8,q9⟩;have t:=A.hI.foot _ _ _ _ S.inv;have m:∀b g,Γ.nm b=some g->w'.heap[g]? = w.heap[g]?:=λb g l=>T g (S.hr.lt b g l).2.1 (S.dis b g l)
     have y:∀g,Γ.St g->w'.heap[g]? = w.heap[g]?:=λg l=>T g (S.hr.stlt g l) (λx=>(t g x).2 l)
     let Γ2:Ctx:={ Γ with St:=St' }
     have M:Bg Γ (A3 st.hp) w Γ2 (A3 st.hp) w' (λ_=>True):=⟨y,Q,λ_ _=>rfl,λ_ _=>rfl,λb g _ l=>F9 (m b g l),rfl⟩
     have O:HR Γ2 st.hp w':=by
      refine⟨S.hr.inj,λb g l=>?_,q9,S.hr.nms,λb X=>(S.hr.blk b X).mono M rfl (λg l=>m b g l) (λ_ _=>trivial)⟩;have:=S.hr.lt b g l;refine⟨this.1,by omega,λh=>?_⟩;rcases Z g h with h|h
      ·exact this.2.2 h
      ·omega
     refine⟨_,_,Γ2,W,h,⟨q6,q7,q8,q5,Q,Z,λb g l=>.inl ⟨(S.hr.lt b g l).1,l⟩,q3,λg l _ x=>T g l x,rfl,o0 _,λb X _=>⟨rfl,rfl,λg l=>F9 (m b g l)⟩⟩,
      ⟨O,S.sr.mono M (λc i=>⟨trivial,S.sr.nms c i⟩),S.g.mono y Q,hi,λb g l x=>?_⟩,.bool _,by simp[PV.nms]⟩
     rcases q3 g x with h|h
     ·exact S.dis b g l h
     ·have:=(S.hr.lt b g l).2.1;omega
   ·cases h
  ·cases h
 ·cases h
def Nxt(C:Cfg)(I:σ->(Nat->Prop)->(Nat->Prop)->World->Prop)(Γ:Ctx)(L:Nat->Prop)(H:List Blk)(w:World)(ds:List Deferred)(k:St σ->Option R)(r:R)(next:Act->World->Prop):Prop:=
 ∀b d w' Γ' c,k b=some r->Stp C Γ H w L Γ' b.hp w' c->SI C I Γ' c b d.tmps w'->d.defers=ds->next d w'
def put_defers(a:Act)(d:Option Tmp)(v:Value):(a.put d v).defers=a.defers:=by cases d<;>rfl
def C35{y:Option Nat}{n:Nat}{k:St σ->Option R}{next:Act->World->Prop}{Q:Exit->Act->World->Prop}(A:Ask C I cl yh yv)(u:Γ.yv=yv)(h:opK C cl yh o st k=some r)(S:SI C I Γ L st a.tmps w)(hN:Nxt C I Γ L st.hp w a.defers k r next) :
  o.wpIn (J3 y) n C.P a w next Q:=by
 refine⟨λ_ _=>trivial,?_⟩;have t:∀c,o.op≠.defer c:=λc e=>by simp[opK,e] at h
 rw[ab8 _ _ _ t];by_cases i:CS o.op=true
 ·obtain⟨c,g⟩:∃c,o.op = .call c:=by
   unfold CS at i;split at i
   ·exact⟨_,‹_›⟩
   ·cases i
  have p:=h;simp only[opK,g] at p;split at p
  ·rename_i b F;rw[g] at i;simp[CS,F] at i
  ·rename_i f J;obtain⟨G,q⟩:=S.list c.args;have:=An1 A u p S (S.opnd f).1 (S.opnd f).2 G q;have H:execOp a.eval o=(do let d <-o9 (a.eval f) (c.args.map a.eval);invoke d.target d.args):=by simp only[execOp,g,resolve,J]
   rw[H];refine this y n o a next Q ?_
   rintro V w' ⟨v,m,Γ',x,K,M,l,N,O⟩;exact hN _ (a.put o.dst V) w' Γ' x K M ⟨l.hr,l.sr.put (ds:=a.defers) o N O,l.g,l.inv,l.dis⟩ (put_defers _ _ _)
  ·cases p
 ·obtain⟨V,w',Γ',m,z,j,B,D⟩:=At2 A.hI (by simpa using i) h S;have q:=hN m (a.put o.dst V) w' Γ' L z D B (put_defers _ _ _);rcases j with j|⟨rfl,j⟩
  ·rw[j];exact q
  ·rw[j];exact q
def SR.set{Γ:Ctx}{H:List Blk}{sl:List PV}{tmps:Array Value}(h:SR Γ H w sl tmps)(g:Nat){v:PV}(hv:∀V,tmps[g]? = some V->VP Γ (A3 H) w v V)(hn:∀c∈v.nms,c<H.length):SR Γ H w (sl.set g v) tmps:=by
 refine⟨by simpa using h.size,λc hc=>?_,λi hi=>?_⟩
 ·obtain⟨j,hj,hc⟩:=C7.1 hc;rw[List.getElem_set] at hc;split at hc
  ·grind
  ·exact h.nms c (C7.2 ⟨j,by simpa using hj,hc⟩)
 ·have hi':i<sl.length:=by simpa using hi
  obtain⟨U,e1,e2⟩:=h.slot i hi';grind
def Aa0{F:Option Nat}{n:Nat}{Q:Exit->Act->World->Prop}{all:Array Oper}(A:Ask C I cl yh yv):∀(c:List Oper) {Γ:Ctx} {L:Nat->Prop} {st:St σ} {a:Act} {w:World} {k:St σ->Option R},Γ.yv=yv->Jm C cl yh all c st k=some r->SI C I Γ L st a.tmps w->
  Nxt C I Γ L st.hp w a.defers k r (λt w'=>Q .normal t w')->wpListIn (J3 F) n C.P all Q c a w
 | [],Γ,L,st,a,w,k,hyv,h,S,hN=>hN st a w Γ L h (Stp.refl S.hr) S rfl
 | o::c,Γ,L,st,a,w,k,hyv,h,S,hN=>by
  have run:∀{st:St σ},SI C I Γ L st a.tmps w->Nxt C I Γ L st.hp w a.defers k r (λt w'=>Q .normal t w')->opK C cl yh o st (λl=>Jm C cl yh all c l k)=some r->o.wpIn (J3 F) n C.P a w (wpListIn (J3 F) n C.P all Q c) Q:=λS hN h=>
   C35 A hyv h S λl t w' Γ' Φ' W N X Y=>Aa0 A c (N.yv.trans hyv) W X λJ P w2 K M k1 k2 k3 k4=>hN J P w2 K M k1 (N.trans k2) k3 (k4.trans Y)
  have skip:∀{st:St σ},SI C I Γ L st a.tmps w->Nxt C I Γ L st.hp w a.defers k r (λt w'=>Q .normal t w')->Jm C cl yh all c { st with sl:=Db o.dst (.tup []) st.sl } k=some r->wpListIn (J3 F) n C.P all Q c (a.put o.dst undef) w:=fun {st} S hN h=>
   Aa0 A c (st:={ st with sl:=Db o.dst (.tup []) st.sl }) hyv h (S.put (o:=o) Au (by simp[PV.nms,D0])) (by rw[put_defers];exact hN)
  simp only[wpListIn];simp only[Jm] at h;split at h
  ·rename_i u;have hw:p7 o (yielded all a.tmps)=true:=by simp[p7,u]
   grind
  ·rename_i j m u;split at h
   ·rename_i g x;have z:∀b,a.tmps[g]? = some (.bool b)->yielded all a.tmps j=some b:=λb e=>by simp[yielded,x,e]
    have y:(∀b,a.tmps[g]?≠some (.bool b))->yielded all a.tmps j=none:=λa1=>by
     simp only[yielded,x,j7]
    have d:∀v,st.sl.getD g (.tup [])=v->∀V,a.tmps[g]? = some V->VP Γ (A3 st.hp) w v V:=λv hv V hV=>by
     have p:g<st.sl.length:=by rw[<-S.sr.size];exact(o7.1 hV).1
     obtain⟨U,G,T⟩:=S.sr.slot g p;grind
    split at h
    ·rename_i b D;have p:g<st.sl.length:=x9 λa0=>by grind
     obtain⟨U,G,T⟩:=S.sr.slot g p;have Z:=(d _ D U G).inv_bool;subst Z;have f:yielded all a.tmps j=some b:=z b G;have O:SI C I Γ L { st with sl:=st.sl.set g (.s (.bool b)) } a.tmps w:=⟨S.hr,S.sr.set g (d _ D) (by simp[PV.nms]),S.g,S.inv,S.dis⟩
     have q:(if (b==m)=true then opK C cl yh o { st with sl:=st.sl.set g (.s (.bool b)) } (λl=>Jm C cl yh all c l k) else Jm C cl yh all c { st with sl:=Db o.dst (.tup []) (st.sl.set g (.s (.bool b))) } k)=some r:=by
      cases b<;>exact h
     by_cases i:b=m
     ·rw[ac (by simpa using i)] at q;rw[ac (by simp[p7,u,f,i])];grind
     ·rw[ae (by simpa using i)] at q;rw[ae (by simp[p7,u,f,i])];exact⟨λ_ _=>trivial,skip O hN q⟩
    ·rename_i D;have f:yielded all a.tmps j=none:=y λb H=>by
      obtain⟨B,e,_⟩:=(d _ D _ H).inv_tup;cases e
     rw[ae (by simp[p7,u,f])];exact⟨λ_ _=>trivial,skip S hN h⟩
    grind
   ·cases h
def Dr7{d:Option Nat}{n:Nat}{Q:Exit->Act->World->Prop}{all:Array Oper}{k:St σ->Option R}(A:Ask C I cl yh yv):∀(l:List Oper),Γ.yv=yv->C45 C cl yh all st k l=some r->SI C I Γ L st a.tmps w->
  Nxt C I Γ L st.hp w a.defers k r (λc w'=>Q .normal c w')->wpListIn (J3 d) n C.P all Q l a w
 | l,b,h,S,hN=>Aa0 A l b h S hN
end
section quiet
variable {F : Fence} {n : Nat} {P : Program} {L : Array Oper} {Y : aa2} {K : World -> Prop}
def Bs8{c:Code}{Q:Exit->Act->World->Prop}{a:Act}{w:World}(J:Nat->Act->World->Prop)(N:Nat)(u:J N a w)
  (round:∀m a w,J m a w->c.wpIn F n P (Exit.then (λq w'=>∃C,C<m/\J C q w') Q) a w):(Code.loop c).wpIn F n P Q a w:=by
 intro b k cs B y A;have key:∀j a w,J j a w->∃e q w',Q e q w'/\ArrivesIn (Machine.fenced P F) P (lone (b.atR a (.code c::.inLoop c::k)) cs w) b k cs e q w':=by
  intro j
  induction j using Nat.strongRecOn with
  | _ j G=>
   intro a w D;obtain⟨e,f,g,i,d⟩:=round j a w D b (.inLoop c::k) cs B y A;cases e with
   | normal=>
    obtain⟨m,z,o⟩:=i;obtain⟨t,r,v,p,h⟩:=G m z f g o;exact⟨t,r,v,p,.of_steps (aj0 d (.one (fenced_calm y A rfl) stepR_inLoop)) h⟩
   | exit id=>exact⟨_,f,g,i,.pass (x:=.inLoop c) rfl (λ_ _=>.inl (by simp)) d⟩
   | goto l=>exact⟨_,f,g,i,.pass (x:=.inLoop c) rfl (λ_ _=>.inl (by simp)) d⟩
   | ret=>exact⟨_,f,g,i,.pass (x:=.inLoop c) rfl (λ_ _=>.inl (by simp)) d⟩
   | panic H=>exact⟨_,f,g,i,.pass (x:=.inLoop c) rfl (λ_ _=>.inl (by simp)) d⟩
   | outgrown=>exact⟨_,f,g,i,.pass (x:=.inLoop c) rfl (λ_ _=>.inl (by simp)) d⟩
 obtain⟨e,q,w',i,d⟩:=key N a w u;exact⟨e,q,w',i,.of_steps (.one (fenced_calm y A rfl) stepR_loop) d⟩
def Cy{b:Frame}{a:Act}{k:List Item}{cs:List Frame}{w:World}{c:Code}:step P (lone (b.atR a (.code (.scope c)::k)) cs w) = .next (lone (b.atR a (.code c::.inScope c::k)) cs w):=
 step_lone_go (by simp[stepG,stepG.exec,Frame.atR])
def PY{b:Frame}{a:Act}{k:List Item}{cs:List Frame}{w:World}{c:Code}:step P (lone (b.atR a (.inScope c::k)) cs w) = .next (lone (b.atR a k) cs w):=
 step_lone_go (by simp[stepG,stepG.exec,Frame.atR])
def A37{c:Code}{Q:Exit->Act->World->Prop}{a:Act}{w:World}(h:c.wpIn F n P (λe a w=>(∀l,e≠.goto l)/\Q e a w) a w):(Code.scope c).wpIn F n P Q a w:=by
 intro b k cs t o q;have i:(lone (b.atR a (.code (.scope c)::k)) cs w).fenced P F:=fenced_calm o q rfl;obtain⟨e,f,g,⟨y,j⟩,d⟩:=h b (.inScope c::k) cs t o q;cases e with
 | normal=>exact⟨.normal,f,g,j,.head i Cy (aj0 d (.one (fenced_calm o q rfl) PY))⟩
 | exit id=>
  have u:exitTo id (.inScope c::k)=exitTo id k:=by simp[exitTo]
  exact⟨.exit id,f,g,j,λz p=>.head i Cy (d.1 z (by rw[u];exact p)),
   λr p=>let⟨m,v,x⟩:=d.2 r (by rw[u];exact p);⟨m,v,.head i Cy x⟩⟩
 | goto l=>exact absurd rfl (y l)
 | ret=>exact⟨_,f,g,j,.of_steps (.one i Cy) d⟩
 | panic A=>exact⟨_,f,g,j,.of_steps (.one i Cy) d⟩
 | outgrown=>exact⟨_,f,g,j,.of_steps (.one i Cy) d⟩
end quiet
section
variable {Q R : Type} {r : R} {C : Cfg} {I : Q -> (Nat -> Prop) -> (Nat -> Prop) -> World -> Prop} {Γ : Ctx} {Y : Nat -> Prop} {L : St Q} {a : Act} {w : World} {J : G1} {W : Yh Q} {U : Value} {o : Oper}
def SI.like(hI:HI I)(S:SI C I Γ Y L a.tmps w){w':World}(h:O7 w w'):SI C I Γ Y L a.tmps w'/\Stp C Γ L.hp w Y Γ L.hp w' Y:=
 S.like' hI h
def RT:PV->Value
 | .s (.bool b)=>.bool b
 | .s (.int k n)=>.int k n
 | .s (.str l)=>.string ⟨l.toArray⟩
 | _=>undef
def Dj1:PV->Value
 | .tup l=>.tuple (l.map RT).toArray
 | v=>RT v
def Ao6{Γ:Ctx}{sh:Nat->Option Shp}{w:World}{v:PV}{V:Value}(h:VP Γ sh w v V)(b:v.det1=true):V=RT v:=by
 cases h with
 | s x V c=>
  cases c<;>simp[PV.det1,SV.det] at b<;>simp[RT]
 | _=>simp[PV.det1] at b
def Dj2{Γ:Ctx}{sh:Nat->Option Shp}{w:World}{v:PV}{V:Value}(h:VP Γ sh w v V)(b:v.det=true):V=Dj1 v:=by
 cases h with
 | s x V i=>exact Ao6 (sh:=sh) (.s x V i) b
 | tup l A k hA f g=>
  simp only[PV.det,o5] at b;simp only[Dj1]
  congr 1
  apply Array.ext
  ·simp[hA]
  ·intro j d m;have c:j<l.length:=by rw[<-hA];exact d
   have e:=f j c;rw[ab3 d] at e;simp only[j0] at e;simp only[List.getElem_toArray,j8];rw[e];exact Ao6 (g j c) (b _ (j5 c))
 | _=>simp[PV.det] at b
def YF{Γ:Ctx}{sh:Nat->Option Shp}{w:World}{v:PV}(b:v.det1=true):VP Γ sh w v (RT v)/\v.nms=[]:=by
 cases v with
 | s x=>
  cases x<;>simp[PV.det1,SV.det] at b
  ·exact⟨.s _ _ (.bool _),rfl⟩
  ·exact⟨.s _ _ (.int _ _),rfl⟩
  ·rename_i l;have:=VS.str (St:=Γ.St) (w:=w) (⟨l.toArray⟩:ByteArray);simp only at this;exact⟨.s _ _ this,rfl⟩
 | _=>simp[PV.det1] at b
def D55{Γ:Ctx}{sh:Nat->Option Shp}{w:World}{v:PV}(b:v.det=true):VP Γ sh w v (Dj1 v)/\v.nms=[]:=by
 cases v with
 | s x=>exact YF (v:=.s x) b
 | tup l=>
  simp only[PV.det,o5] at b;refine⟨VP.mk_tup (by simp) λj e=>⟨RT (l[j]),by simp[e],(YF (b _ (j5 e))).1⟩,?_⟩;simp only[PV.nms];rw[s9];intro c d;obtain⟨j,e,d⟩:=C7.1 d;rw[(YF (Γ:=Γ) (sh:=sh) (w:=w) (b _ (j5 e))).2] at d;simp at d
 | _=>simp[PV.det] at b
def D56{v:PV}(b:v.det=true)(f:Nat->Nat):v.rn f=v:=by
 cases v with
 | s x=>rfl
 | tup l=>
  simp only[PV.det,o5] at b;simp only[PV.rn]
  congr 1
  induction l with
  | nil=>rfl
  | cons a r d=>
   simp only[rnL];have c:=b a (by simp);have:a.rn f=a:=by cases a<;>simp[PV.det1] at c<;>rfl
   grind
 | _=>simp[PV.det] at b
def Bw{P:Program}{g:Nat}{Vs:Array Value}{w:World}(h:CW P g=true):(callFunc g Vs).run P w = .ok (.enter g Vs) w:=by
 unfold CW at h;split at h
 ·rename_i fn e;simp only[j4,ac3,v8] at h;obtain⟨⟨c,d⟩,f⟩:=h
  have b:¬ fn.name = "runtime.NumGoroutine":=by simpa using f
  simp[callFunc,e,d,b,ae0]
 ·cases h
def AH{P:Program}{ro:Option Nat}{n f:Nat}{d:Array Value}{w:World}{R:Value->World->Prop}(b:(callFunc f d).run P w = .ok (.enter f d) w)(h:R5 P ((callFunc f d).run P w) R):CallsIn (J3 ro) (n-1) P f d w λe w'=>∃V,e = .returned V/\R V w':=by
 rw[b] at h;have:=h ro n { op:=.move (.const undef),dst:=some 0,guard:=none,type:=0,after:=#[],pos:=default } { tmps:=#[undef],defers:=[] } (λi w'=>∃V,i.tmps[0]? = some V/\R V w') (λ_ _ _=>False) (λV w' k=>⟨V,by simp[ag2],k⟩);rw[ac6] at this;refine this.2.mono λe w' g=>?_
 cases e with
 | returned v=>
  obtain⟨V,j,l⟩:=g;simp[ag2] at j;grind
 | panicked c=>exact g.elim
 | outgrown=>obtain⟨_,_,h⟩:=g;exact h.elim
def Cf2{ro:Option Nat}{n:Nat}{k:St Q->Option R}(X:HI I)(Z:XOK C)(u:Tv C o.op=true)(h:opK C J W o L k=some r)(S:SI C I Γ Y L a.tmps w) :
  ∃V v,k v=some r/\(∀w',O7 w w'->o.quietAtIn (J3 ro) n C.P a (O7 w') w' V)/\SI C I Γ Y v (a.put o.dst V).tmps w/\Stp C Γ L.hp w noΦ Γ v.hp w noΦ:=by
 obtain⟨c,q⟩:∃c,o.op = .call c:=by
  unfold Tv at u;grind
 rw[q] at u;simp only[Tv] at u;split at u
 ·rename_i g j;simp only[j4,v8] at u;obtain⟨⟨M,pf,m⟩,l⟩:=u;simp only[opK,q,j,opnd,EP,Xs,m,M,aa,ag4,ad3,y8] at h;split at h
  ·rename_i G;obtain⟨ret,Hc,t,h⟩:=Cj h;obtain⟨t,f,rfl⟩:=Cv t;obtain⟨h1,N⟩:=D6 h;simp only[ag4,y8,D56 f] at N;have O:=D55 (Γ:=Γ) (sh:=A3 L.hp) (w:=w) f;refine⟨Dj1 ret,_,N,λw' K=>?_,S.put O.1 (by rw[O.2];simp),Stp.refl S.hr⟩;obtain⟨A,_⟩:=S.like X K;obtain⟨hc,hn⟩:=A.list c.args;have B:=hc.argX A.hr;let Γc:Ctx:={ Γ.all with nm:=λ_=>none }
   have D:CR Γc (A3 []) w' (argX L.hp (c.args.toList.map (opnd C L.sl))) (c.args.map a.eval):=B.bare (ab1.1 G) (λ_ h=>h) rfl;have p:=Z.x g pf _ ret [] m t Γc w' _ (λ_=>rfl) (Np (λ_=>rfl) (A77 A)) (A.g.mono (λ_ _=>rfl) (λ_ h=>ac0 h)) D;have i:=AH (ro:=ro) (n:=n) (Bw l) p;have F:a.eval (.func g) = .func (.func g) #[] #[]:=rfl;have he:execOp a.eval o=(do let d <-o9 (a.eval (.func g)) (c.args.map a.eval);invoke d.target d.args):=by simp only[execOp,q,resolve,j]
   unfold ac5;rw[he,F];have y:(do let d <-o9 (Value.func (.func g) #[] #[]) (c.args.map a.eval);invoke d.target d.args:Sem Next).run C.P w' = .ok (.enter g (c.args.map a.eval)) w':=by
    have:=Bw (P:=C.P) (Vs:=c.args.map a.eval) (w:=w') l;simpa[o9,invoke] using this
   rw[y];refine⟨rfl,λh=>(by simp[J3,aa8] at h),i.mono ?_⟩;rintro e a0 ⟨V,rfl,Γ1,Φ1,z,T,H,_⟩;have:=Dj2 H f;subst this;exact⟨rfl,⟨λg hg=>z.frame g hg (λb=>by simp[Γc]) (λx=>x),z.size⟩,z.os,z.tape,z.output⟩
  ·cases h
 ·cases u
def Out.exit':Out->Exit
 | .normal=>.normal
 | .exit id=>.exit id
 | .ret=>.ret
end
def XS{a b:Nat}(h:a<=b):p5 a b=true:=by rw[ai5];exact h
def KO{a b:Nat}(h:p5 a b=true):a<=b:=by rw[ai5] at h;exact h
def O7.refl(w:World):O7 w w:=⟨⟨λ_ _=>rfl,o0 _⟩,rfl,rfl,rfl⟩
def O7.trans{a b c:World}(h:O7 a b)(k:O7 b c):O7 a c:=
 ⟨⟨λg hg=>(k.1.1 g (k9 hg h.1.2)).trans (h.1.1 g hg),s8 h.1.2 k.1.2⟩,k.2.1.trans h.2.1,k.2.2.1.trans h.2.2.1,k.2.2.2.trans h.2.2.2⟩
def EJ(D:Nat->Prop)(w w':World):Prop:=((∀g,g<w.heap.size->¬D g->w'.heap[g]? = w.heap[g]?)/\w.heap.size<=w'.heap.size)/\w'.os=w.os/\w'.tape=w.tape/\w'.output=w.output
def O7.x{D:Nat->Prop}{a b:World}(h:O7 a b):EJ D a b:=⟨⟨λg hg _=>h.1.1 g hg,h.1.2⟩,h.2⟩
def EJ.trans{D:Nat->Prop}{a b c:World}(h:EJ D a b)(k:EJ D b c):EJ D a c:=
 ⟨⟨λg hg hd=>(k.1.1 g (k9 hg h.1.2) hd).trans (h.1.1 g hg hd),s8 h.1.2 k.1.2⟩,k.2.1.trans h.2.1,k.2.2.1.trans h.2.2.1,k.2.2.2.trans h.2.2.2⟩
def RQ(D:Nat->Prop)(q:Nat)(a b:World):Prop:=(q=1->O7 a b)/\(q=2->EJ D a b)
def RQ.of{D:Nat->Prop}{q:Nat}{a b:World}(h:O7 a b):RQ D q a b:=⟨λ_=>h,λ_=>h.x⟩
def RQ.trans{D:Nat->Prop}{q:Nat}{a b c:World}(h:RQ D q a b)(k:RQ D q b c):RQ D q a c:=⟨λe=>(h.1 e).trans (k.1 e),λe=>(h.2 e).trans (k.2 e)⟩
def qK(k:Nat)(f:Bool):Nat:=cond (x4 k 1) (cond f 2 1) 0
section
variable {F : Fence} {n : Nat} {P : Program} {L : Array Oper} {Y : aa2} {D : Nat -> Prop} {far : Nat -> Bool}
def QF:Exit->Act->World->Prop:=λ_ _ _=>False
def Dw7{o:Oper}{a:Act}{w:World}{N:Act->World->Prop}{Q:Exit->Act->World->Prop}(h:o.wpIn F n P a w N QF):o.wpIn F n P a w N Q:=by
 unfold ah4 at *;refine⟨h.1,?_⟩;have h:=h.2;generalize (o.semAt F.round a.eval).run P w=r at *;cases r with
 | ok x w'=>
  cases x<;>simp only[ac1] at h ⊢
  case value=>exact h
  case skip=>exact h
  case defer=>exact h
  case enter=>exact⟨h.1,ag3 h.2 λe d b=>by
   cases e with
   | returned u=>exact b
   | panicked c=>exact b.elim
   | outgrown=>obtain⟨_,_,h⟩:=b;exact h.elim⟩
  case row=>exact h
  case round=>exact⟨h.1,ag5 h.2 λe d b=>by
   cases e with
   | returned u=>exact b
   | panicked c=>exact b.elim
   | outgrown=>obtain⟨_,_,h⟩:=b;exact h.elim⟩
 | halt x w'=>
  cases x<;>simp only[ac1] at h ⊢
  case panic=>exact h.elim
def Cp2{i:Nat}{a:Act}{w:World}{N:Act->World->Prop}{Q:Exit->Act->World->Prop}(h:wpOpIn F n P L QF i N a w):wpOpIn F n P L Q i N a w:=by
 unfold wpOpIn at *;split
 ·grind
 ·rename_i o b;simp only[b] at h;split
  ·rename_i c;simp only[c,if_true] at h;exact Dw7 h
  grind
def YQ(F:Fence)(n:Nat)(P:Program)(L:Array Oper)(D:Nat->Prop)(q:Nat)(b:World)(o:Oper)(v:Value)(a:Act):Prop:=
 o.askedIn F P a (λw=>RQ D q b w)/\
 ((p7 o (yielded L a.tmps)=true/\∀w,RQ D q b w->o.quietAtIn F n P a (O7 w) w v)\/
  (p7 o (yielded L a.tmps)=false/\v=undef))
def YQ.step{q:Nat}{w0 w1:World}{o:Oper}{v:Value}{a:Act}(h:YQ F n P L D q w0 o v a)(hl:RQ D q w0 w1):YQ F n P L D q w1 o v a:=
 ⟨λw hw=>h.1 w (hl.trans hw),h.2.imp (λh=>⟨h.1,λw hw=>h.2 w (hl.trans hw)⟩) (λh=>h)⟩
def YQ.of_same{q:Nat}{w0:World}{o:Oper}{v:Value}{a a':Act}(hy:YQ F n P L D q w0 o v a)(he:execOp a'.eval o=execOp a.eval o)
  (hw:p7 o (yielded L a'.tmps)=p7 o (yielded L a.tmps)) (hb:∀w,o.about P w a'.eval=o.about P w a.eval):YQ F n P L D q w0 o v a':=by
 unfold YQ ac5 Oper.askedIn at *;rw[he,hw];exact⟨λw hc f hf=>hy.1 w hc f (by rw[<-hb w];exact hf),hy.2⟩
def YQ.wpOpIn{q:Nat}{w0 w:World}{i:Nat}{o:Oper}{v:Value}{a:Act}(hi:L[i]? = some o)(hnd:∀c,o.op≠.defer c)(hy:YQ F n P L D q w0 o v a)(hw:RQ D q w0 w){K:Act->World->Prop}(h:∀w',O7 w w'->K (a.put o.dst v) w'):wpOpIn F n P L QF i K a w:=by
 unfold Go.wpOpIn;simp only[hi];rcases hy.2 with⟨hwt,hv⟩|⟨hwt,rfl⟩
 ·simp only[hwt,if_true];have h3:=hv w hw;unfold ac5 at h3;unfold ah4;refine⟨hy.1 w hw,?_⟩;rw[ab8 _ _ _ hnd];generalize (execOp a.eval o).run P w=r at *;cases r with
  | ok x w'=>
   cases x<;>simp only[ah3] at h3<;>simp only[ac1]
   case value u=>
    obtain⟨e1,e2⟩:=h3;rw[e1,e2];exact h _ (O7.refl w)
   case skip=>
    obtain⟨e1,e2⟩:=h3;rw[e1,<-e2];exact h _ (O7.refl w)
   case enter f args=>
    obtain⟨e1,hd,hc⟩:=h3;rw[e1];exact⟨hd,hc.mono λe w'' ⟨he,hw''⟩=>by subst he;exact h _ hw''⟩
  | halt x w'=>simp only[ah3] at h3
 ·simp only[hwt,ag1,if_false];exact⟨hy.1 w hw,h _ (O7.refl w)⟩
def A38{q:Nat}{A:World}{j:Nat}{i k:Oper}{v:Value}(O:L[j]? = some k)(G:i.apart L k=true)
  (I:∀cs b,i.op≠.select cs b) (J:∀cs b,k.op≠.select cs b) (y:∀c,k.op≠.defer c) {K:Act->World->Prop} {a:Act} {w:World}
  (o:YQ F n P L D q A i v a) (h:wpOpIn F n P L QF j K (a.put i.dst v) w) :
  wpOpIn F n P L QF j (λN w'=>YQ F n P L D q A i v N/\K (N.put i.dst v) w') a w:=by
 obtain⟨B,p,C⟩:=Oper.apart_spec G;have g:∀(a:Act),YQ F n P L D q A i v a->∀u,YQ F n P L D q A i v (a.put k.dst u):=λa o u=>
  o.of_same (execOp_put i I a k.dst u C) (wanted_put i a k.dst u C) (λw=>about_put i w a k.dst u C)
 unfold wpOpIn at *;simp only[O] at *;rw[wanted_put k a i.dst v B,about_put k w a i.dst v B] at h;split
 ·rename_i M;simp only[M,if_true] at h;unfold ah4 at *;rw[about_put k w a i.dst v B] at h;refine⟨h.1,?_⟩;have h:=h.2;rw[ab8 _ _ _ y,execOp_put k J a i.dst v B] at h;rw[ab8 _ _ _ y];have H:∀d w',(execOp a.eval k).run P w≠.ok (.defer d) w'\/True:=λ_ _=>.inr trivial
  generalize Q:(execOp a.eval k).run P w=r at *;cases r with
  | ok x w'=>
   cases x<;>simp only[ac1] at h ⊢
   case value u=>exact⟨g a o u,by rw[<-ab0 a v u p];exact h⟩
   case skip=>exact⟨g a o _,by rw[<-ab0 a v undef p];exact h⟩
   case defer d=>
    have t:∀d,YQ F n P L D q A i v { a with defers:=d::a.defers }:=λd=>o.of_same rfl rfl (λ_=>rfl)
    refine⟨g _ (t d) _,?_⟩;rw[<-ab0 _ v undef p,<-Act.put_defers];exact h
   case enter f args=>
    refine⟨h.1,ag3 h.2 λe z m=>?_⟩;cases e with
    | returned u=>exact⟨g a o u,by rw[<-ab0 a v u p];exact m⟩
    | panicked c=>exact m
    | outgrown=>exact m
   case row row args=>exact⟨h.1,ak0 h.2 λu z m=>⟨g a o u,by rw[<-ab0 a v u p];exact m⟩⟩
   case round l f tmps assign body=>
    refine⟨h.1,ag5 h.2 λe z m=>?_⟩;cases e with
    | returned u=>exact⟨g a o u,by rw[<-ab0 a v u p];exact m⟩
    | panicked c=>exact m
    | outgrown=>exact m
  | halt x w'=>
   cases x<;>simp only[ac1] at h ⊢
   case panic u=>exact h
 ·rename_i M;simp only[M] at h;exact⟨h.1,g a o _,by rw[<-ab0 a v undef p];exact h.2⟩
def wpR(F:Fence)(n:Nat)(P:Program)(Y:aa2)(L:Array Oper)(D:Nat->Prop)(wr c:Nat->Bool)(b:Act->World->Prop):Nat->Array Bool->Act->World->Prop
 | 0,listed,a,w=>o8 Y L listed=[]/\b a w
 | f+1,listed,a,w=>(o8 Y L listed=[]->b a w)/\
  ∀i∈o8 Y L listed,wpOpIn F n P L QF i (λd w'=>(wr i=false->O7 w w')/\(c i=true->EJ D w w')/\∀w1,O7 w' w1->wpR F n P Y L D wr c b f (listed.setIfInBounds i true) d w1) a w
def Pr{wr d:Nat->Bool}{Q:Exit->Act->World->Prop}{Qn:Act->World->Prop}(b:∀a w,Qn a w->Q .normal a w):∀(f:Nat) (listed:Array Bool) (a:Act) (w:World),wpR F n P Y L D wr d Qn f listed a w->wpAnyIn F n P Y L Q f listed a w
 | 0,_,_,_,h=>⟨h.1,b _ _ h.2⟩
 | f+1,_,_,_,h=>⟨λe=>b _ _ (h.1 e),λi g=>Cp2 (wpOpIn_mono (λc w' h=>Pr b f _ c w' (h.2.2 w' (O7.refl w'))) (h.2 i g))⟩
def DC(Y:aa2)(L:Array Oper)(listed:Array Bool):Prop:=∀j o,L[j]? = some o->listed.getD j false=true->∀e∈o.after,ac7 Y e=true->listed.getD e.on false=true
def Aq1{listed:Array Bool}{i j:Nat}(h:(listed.setIfInBounds i true).getD j false=true):j=i\/listed.getD j false=true:=by by_cases a:i=j;all_goals simp_all
def DC.set{listed:Array Bool}{i:Nat}(h:DC Y L listed)(hi:i∈o8 Y L listed):DC Y L (listed.setIfInBounds i true):=by
 intro j o ho hj e he hb;refine getD_set_true ?_;rcases Aq1 hj with rfl|hj
 ·obtain⟨_,o',ho',hall⟩:=mem_ready.1 hi;grind
 ·exact h j o ho hj e he hb
def ON(Y:aa2)(L:Array Oper):Nat->Nat->Nat->Bool
 | 0,_,_=>false
 | f+1,j,i=>match L[j]? with
  | some o=>(o.after.toList.any λe=>ac7 Y e&&x4 e.on i)||(o.after.toList.any λe=>ac7 Y e&&ON Y L f e.on i)
  | none=>false
def GG{listed:Array Bool}{i:Nat}(d:DC Y L listed)(k:listed.getD i false=false):∀f j,ON Y L f j i=true->listed.getD j false=false/\j∉o8 Y L listed
 | 0,j,h=>by cases h
 | f+1,j,h=>by
  simp only[ON] at h;split at h
  ·rename_i o m;have key:∃e∈o.after,ac7 Y e=true/\listed.getD e.on false=false:=by
    rw[y9,ag9,ag9] at h;rcases h with⟨e,b,a⟩|⟨e,b,a⟩
    ·rw[j4] at a;have:=w6 a.2;grind
    ·rw[j4] at a;exact⟨e,by simpa using b,a.1,(GG d k f e.on a.2).1⟩
   obtain⟨e,b,a,g⟩:=key;refine⟨?_,λq=>?_⟩
   ·cases l:listed.getD j false with
    | false=>rfl
    | true=>rw[d j o m l e b a] at g;cases g
   ·obtain⟨_,o',p,c⟩:=mem_ready.1 q;grind
  ·cases h
def AF{listed:Array Bool}{i:Nat}(h:i∈o8 Y L listed):listed.getD i false=false:=by have a:=(mem_ready.1 h).1;grind
def Cp3{wr J:Nat->Bool}{Qn:Act->World->Prop}{q:Nat}{i:Nat}{G:Oper}{v:Value}(M:L[i]? = some G)(y:∀(j:Nat) (o:Oper) cs b,L[j]? = some o->o.op≠.select cs b)(B:∀(j:Nat) (o:Oper) c,L[j]? = some o->o.op≠.defer c) :
  ∀(f:Nat) (listed:Array Bool) (a:Act) (U:World),
   (∀j A,L[j]? = some A->j≠i->listed.getD j true=false->(∀e∈A.after,ac7 Y e=true->e.on≠i)->G.apart L A=true)->
   (∀j,j≠i->listed.getD j true=false->wr j=true->(q=1\/(q=2/\J j=false))->ON Y L L.size j i=true)->DC Y L listed->
   i∈o8 Y L listed->YQ F n P L D q U G v a->
   (∀w,O7 U w->wpR F n P Y L D wr J Qn f (listed.setIfInBounds i true) (a.put G.dst v) w)->∀w,O7 U w->wpR F n P Y L D wr J Qn (f+1) listed a w:=by
 intro f
 induction f with
 | zero=>
  intro listed a U _ _ _ C V H w z;refine⟨λh=>(by rw[h] at C;cases C),λj I=>?_⟩;by_cases d:j=i
  ·subst d;exact V.wpOpIn M (λc=>B j G c M) (.of z) λw' p=>⟨λ_=>p,λ_=>p.x,λw1 K=>H w1 (z.trans (p.trans K))⟩
  ·have:=ready_mono I d;rw[(H w z).1] at this;cases this
 | succ f ih=>
  intro listed a U l T hd C V H w z;refine⟨λh=>(by rw[h] at C;cases C),λj I=>?_⟩;by_cases d:j=i
  ·subst d;exact V.wpOpIn M (λc=>B j G c M) (.of z) λw' p=>⟨λ_=>p,λ_=>p.x,λw1 K=>H w1 (z.trans (p.trans K))⟩
  ·have K:=(H w z).2 j (ready_mono I d);obtain⟨x,A,t,a2⟩:=mem_ready.1 I;have N:=AF C;have Q:∀e∈A.after,ac7 Y e=true->e.on≠i:=λe he hb heq=>by grind
   have h2:=A38 t (l j A t d x Q) (λcs b=>y i G cs b M) (λcs b=>y j A cs b t) (λc=>B j A c t) (V.step (w1:=w) (.of z)) K;have m:∀{k:Nat},k≠i->(listed.setIfInBounds j true).getD k true=false->listed.getD k true=false:=fun {k} g u=>by
    by_cases a3:j=k;all_goals simp_all
   refine wpOpIn_mono (λa' w' h3=>?_) h2;obtain⟨a1,p,O,hR⟩:=h3;refine⟨p,O,λw1 X=>?_⟩;have W:RQ D q w w':=by
    cases S:wr j with
    | false=>exact .of (p S)
    | true=>
     have r:(q=1\/(q=2/\J j=false))->False:=λR=>(GG hd N L.size j (T j d x S R)).2 I
     refine⟨λR=>(r (.inl R)).elim,λR=>?_⟩;cases hf:J j with
     | true=>exact O hf
     | false=>exact(r (.inr ⟨R,hf⟩)).elim
   refine ih (listed.setIfInBounds j true) a' w' (λk ok hk g u r=>l k ok hk g (m g u) r) (λk g u a0=>T k g (m g u) a0) (hd.set I) (ready_mono C (Ne.symm d)) (a1.step W) (λw2 Z=>?_) w1 X;rw[Array.setIfInBounds_comm _ _ d];exact hR w2 Z
def T3(F:Fence)(n:Nat)(P:Program)(L:Array Oper)(D:Nat->Prop)(far:Nat->Bool)(kind:Nat->Nat)(E:Act->World->Prop):List Nat->Act->World->Prop
 | [],a,c=>E a c
 | i::b,a,c=>(kind i<=1->∃o v,L[i]? = some o/\YQ F n P L D (qK (kind i) (far i)) c o v a/\T3 F n P L D far kind E b (a.put o.dst v) c)/\
  (2<=kind i->∀w,O7 c w->wpOpIn F n P L QF i (λd w'=>(kind i=2->O7 w w')/\(far i=true->EJ D w w')/\T3 F n P L D far kind E b d w') a w)
def B20(Y:aa2)(L:Array Oper)(far:Nat->Bool)(kind:Nat->Nat)(i:Nat)(listed:Array Bool):Bool:=
 (o8 Y L listed).contains i&&(Region.free Y L listed i&&(x4 (kind i) 0||(ai4 L.size).all λj=>x4 j i||(listed.getD j true||(!(p5 3 (kind j))||((far i&&far j)||ON Y L L.size j i)))))
def LB(Y:aa2)(L:Array Oper)(far:Nat->Bool)(kind:Nat->Nat)(a:Array Bool->Bool):List Nat->Array Bool->Bool
 | [],listed=>a listed
 | i::r,listed=>cond (p5 (kind i) 1) (B20 Y L far kind i listed) ((o8 Y L listed)==[i])&&LB Y L far kind a r (listed.setIfInBounds i true)
def XV(Y:aa2)(L:Array Oper)(far:Nat->Bool)(kind:Nat->Nat):List Nat->Array Bool->Bool:=LB Y L far kind λlisted=>(o8 Y L listed).isEmpty
def Cz2{kind:Nat->Nat}{z:Act->World->Prop}(K:aa6 L=true)(x:∀(j:Nat) (o:Oper) c,L[j]? = some o->o.op≠.defer c)(I:∀j,L.size<=j->kind j<=1){i b:Nat}{listed:Array Bool}{a:Act}{m:World}{o:Oper}{v:Value}
  (A:B20 Y L far kind i listed=true) (B:DC Y L listed) (C:L[i]? = some o) (N:YQ F n P L D (qK (kind i) (far i)) m o v a)
  (h:DC Y L (listed.setIfInBounds i true)->∀w,O7 m w->wpR F n P Y L D (λj=>p5 3 (kind j)) far z b (listed.setIfInBounds i true) (a.put o.dst v) w):∀w,O7 m w->wpR F n P Y L D (λj=>p5 3 (kind j)) far z (b+1) listed a w:=by
 intro w M;simp only[B20,j4] at A;obtain⟨J,G,e⟩:=A;have g:i∈o8 Y L listed:=by simpa using J
 refine Cp3 (q:=qK (kind i) (far i)) C (Region.noSelect_spec K) x b listed a m (Region.free_spec C G) (λj t y k d=>?_) B g N (h (B.set g)) w M;have f:kind i=1:=by
  cases l:x4 (kind i) 1 with
  | true=>exact w6 l
  | false=>simp[qK,l] at d
 have p:(far i&&far j)=false:=by
  rw[f] at d;cases r:far i with
  | false=>rfl
  | true=>
   rcases d with d|⟨_,d⟩
   ·rw[r] at d;cases d
   ·rw[d];rfl
 rw[f] at e;simp only[show x4 1 0=false from rfl,ai6,o5,ai3] at e;have u:j<L.size:=x9 λH=>by
  have:=I j (by omega);have O:=KO k;omega
 have:=e j u;rw[show x4 j i=false by cases l:x4 j i with|false=>rfl|true=>exact absurd (w6 l) t,y,k,p] at this;simpa using this
def Sy{kind:Nat->Nat}{Qn E:Act->World->Prop}{fin:Array Bool->Bool}{m:Nat}(C:aa6 L=true)(k:∀(j:Nat) (o:Oper) c,L[j]? = some o->o.op≠.defer c)(B:∀j,L.size<=j->kind j<=1)
  (d:∀listed a f,fin listed=true->DC Y L listed->E a f->∀w,O7 f w->wpR F n P Y L D (λj=>p5 3 (kind j)) far Qn m listed a w) :
  ∀(b:List Nat) (listed:Array Bool) (a:Act) (f:World),LB Y L far kind fin b listed=true->DC Y L listed->T3 F n P L D far kind E b a f->∀w,O7 f w->wpR F n P Y L D (λj=>p5 3 (kind j)) far Qn (m+b.length) listed a w
 | [],listed,a,f,r,t,h,w,u=>d listed a f r t h w u
 | i::b,listed,a,f,r,t,h,w,u=>by
  simp only[LB,j4] at r;obtain⟨e,q⟩:=r;simp only[T3] at h;show wpR F n P Y L D _ _ Qn (m+b.length+1) listed a w;by_cases g:kind i<=1
  ·rw[show p5 (kind i) 1=true from XS g,aa] at e;obtain⟨o,v,M,N,J⟩:=h.1 g;exact Cz2 C k B e t M N (λy w1 l=>Sy C k B d b _ _ f q y J w1 l) w u
  ·rw[show p5 (kind i) 1=false by cases K:p5 (kind i) 1 with|false=>rfl|true=>exact absurd (KO K) g,ab] at e;have H:o8 Y L listed=[i]:=by simpa using e
   refine⟨λG=>(by rw[H] at G;cases G),λj z=>?_⟩;have A:j=i:=by rw[H] at z;simpa using z
   subst A;refine wpOpIn_mono (λI w' x=>?_) (h.2 (by omega) w u);refine⟨λp=>x.1 ?_,x.2.1,λw1 l=>Sy C k B d b _ I w' q (t.set z) x.2.2 w1 l⟩;have:¬ 3<=kind j:=λh=>by dsimp only at p;rw[XS h] at p;cases p
   omega
def AL(F:Fence)(n:Nat)(P:Program)(L:Array Oper)(D:Nat->Prop)(far:Nat->Bool)(kind:Nat->Nat)(E:Act->World->Prop)(e:Nat)(post:List Nat):List Nat->Act->World->Prop
 | [],a,c=>∀w,O7 c w->wpOpIn F n P L QF e (λd w'=>O7 w w'/\T3 F n P L D far kind E post d w') a w
 | i::b,a,c=>T3 F n P L D far kind (AL F n P L D far kind E e post b) [i] a c/\
  (2<=kind i->∀w,O7 c w->wpOpIn F n P L QF e (λd w'=>O7 w w'/\T3 F n P L D far kind E ((i::b)++post) d w') a w)
def Sx(Y:aa2)(L:Array Oper)(far:Nat->Bool)(kind:Nat->Nat)(a:Nat)(post:List Nat):List Nat->Array Bool->Bool
 | [],listed=>(o8 Y L listed==[a])&&XV Y L far kind post (listed.setIfInBounds a true)
 | i::r,listed=>cond (p5 (kind i) 1) (B20 Y L far kind i listed)
   ((o8 Y L listed).contains i&&((o8 Y L listed).all (λj=>x4 j i||x4 j a)&&XV Y L far kind ((i::r)++post) (listed.setIfInBounds a true)))&&Sx Y L far kind a post r (listed.setIfInBounds i true)
def Cx7{kind:Nat->Nat}{y:Act->World->Prop}{J:Nat}{post:List Nat}(R:aa6 L=true)(t:∀(j:Nat) (o:Oper) c,L[j]? = some o->o.op≠.defer c)(Q:∀j,L.size<=j->kind j<=1) :
  ∀(k:List Nat) (listed:Array Bool) (a:Act) (l:World),Sx Y L far kind J post k listed=true->DC Y L listed->AL F n P L D far kind (λa l=>∀w,O7 l w->y a w) J post k a l->∀w,O7 l w->wpR F n P Y L D (λj=>p5 3 (kind j)) far y (post.length+1+k.length) listed a w:=by
 have p:∀(listed:Array Bool) (a:Act) (l:World),(o8 Y L listed).isEmpty=true->DC Y L listed->(∀w,O7 l w->y a w)->∀w,O7 l w->wpR F n P Y L D (λj=>p5 3 (kind j)) far y 0 listed a w:=
  λlisted a l h _ W w u=>⟨by simpa using h,W w u⟩
 intro k
 induction k with
 | nil=>
  intro listed a l A G h w u;simp only[Sx,j4] at A;obtain⟨b,m⟩:=A;have S:o8 Y L listed=[J]:=by simpa using b
  show wpR F n P Y L D _ _ y (post.length+1) listed a w;refine⟨λH=>(by rw[S] at H;cases H),λj q=>?_⟩;have g:j=J:=by rw[S] at q;simpa using q
  subst g;refine wpOpIn_mono (λz w' f=>⟨λ_=>f.1,λ_=>f.1.x,λw1 d=>?_⟩) (h w u);have:=Sy R t Q p post _ z w' m (G.set q) f.2 w1 d;rwa [ad8] at this
 | cons i e T=>
  intro listed a l A G h w u;simp only[Sx,j4] at A;obtain⟨b,m⟩:=A;simp only[AL] at h;obtain⟨M,V⟩:=h;simp only[T3] at M;show wpR F n P Y L D _ _ y (post.length+1+e.length+1) listed a w;by_cases r:kind i<=1
  ·rw[show p5 (kind i) 1=true from XS r,aa] at b;obtain⟨o,v,I,X,U⟩:=M.1 r;exact Cz2 R t Q b G I X (λN w1 d=>T _ _ l m N U w1 d) w u
  ·rw[show p5 (kind i) 1=false by cases C:p5 (kind i) 1 with|false=>rfl|true=>exact absurd (KO C) r,ab] at b;simp only[j4,o5,y9] at b;obtain⟨O,B,K⟩:=b;have I:i∈o8 Y L listed:=by simpa using O
   refine⟨λH=>(by rw[H] at I;cases I),λj q=>?_⟩;rcases B j q with C|C
   ·have g:=w6 C;subst g;refine wpOpIn_mono (λz w' f=>?_) (M.2 (by omega) w u);refine⟨λx=>f.1 ?_,f.2.1,λw1 d=>T _ z w' m (G.set q) f.2.2 w1 d⟩;have:¬ 3<=kind j:=λh=>by dsimp only at x;rw[XS h] at x;cases x
    omega
   ·have g:=w6 C;subst g;refine wpOpIn_mono (λz w' f=>⟨λ_=>f.1,λ_=>f.1.x,λw1 d=>?_⟩) (V (by omega) w u);have:=Sy R t Q p ((i::e)++post) _ z w' K (G.set q) f.2 w1 d;rw[ad8] at this;rw[show post.length+1+e.length=((i::e)++post).length by rw[w9,ae6];omega];exact this
def QB(d:Option Tmp)(a b:Act):Prop:=∀t,d≠some t->b.tmps[t]? = a.tmps[t]?
def Cl(a:Act)(d:Option Tmp)(v:Value):QB d a (a.put d v):=λt b=>by
 cases d with
 | none=>rfl
 | some d=>
  have:d≠t:=λe=>b (by rw[e])
  simp[ag2,this]
def Bs7{o:Oper}{a:Act}{w:World}{N:Act->World->Prop}(h:o.wpIn F n P a w N QF):o.wpIn F n P a w (λf w'=>QB o.dst a f/\N f w') QF:=by
 unfold ah4 at *;refine⟨h.1,?_⟩;have h:=h.2;generalize (o.semAt F.round a.eval).run P w=r at *;cases r with
 | ok x w'=>
  cases x<;>simp only[ac1] at h ⊢
  case value=>exact⟨Cl _ _ _,h⟩
  case skip=>exact⟨Cl _ _ _,h⟩
  case defer=>
   refine⟨λt g=>?_,h⟩;exact Cl { a with defers:=_ } o.dst undef t g
  case enter=>exact⟨h.1,ag3 h.2 λe d b=>by
   cases e with
   | returned u=>exact⟨Cl _ _ _,b⟩
   | panicked c=>exact b.elim
   | outgrown=>obtain⟨_,_,h⟩:=b;exact h.elim⟩
  case row=>exact⟨h.1,ak0 h.2 λu d b=>⟨Cl _ _ _,b⟩⟩
  case round=>exact⟨h.1,ag5 h.2 λe d b=>by
   cases e with
   | returned u=>exact⟨Cl _ _ _,b⟩
   | panicked c=>exact b.elim
   | outgrown=>obtain⟨_,_,h⟩:=b;exact h.elim⟩
 | halt x w'=>
  cases x<;>simp only[ac1] at h ⊢
  omega
def Ag7{i:Nat}{o:Oper}(d:L[i]? = some o){a:Act}{w:World}{N:Act->World->Prop}(h:wpOpIn F n P L QF i N a w):wpOpIn F n P L QF i (λc w'=>QB o.dst a c/\N c w') a w:=by
 unfold wpOpIn at *;simp only[d] at h ⊢;split
 ·rename_i b;simp only[b,if_true] at h;exact Bs7 h
 ·rename_i b;simp only[b] at h;exact⟨h.1,Cl _ _ _,h.2⟩
def EQ{kind:Nat->Nat}{E:Act->World->Prop}{i:Nat}{o:Oper}(j:L[i]? = some o){a:Act}{k:World}(h:T3 F n P L D far kind (λc w'=>QB o.dst a c->E c w') [i] a k):T3 F n P L D far kind E [i] a k:=by
 simp only[T3] at h ⊢;refine⟨λg=>?_,λg w l=>?_⟩
 ·obtain⟨o',v,b,d,f⟩:=h.1 g;obtain rfl:=ad4 (j.symm.trans b);exact⟨_,v,b,d,f (Cl _ _ _)⟩
 ·exact wpOpIn_mono (λc w' ⟨b,d,e,f⟩=>⟨d,e,f b⟩) (Ag7 j (h.2 g w l))
def AJ{id:Nat}{Q:Exit->Act->World->Prop}{kind:Nat->Nat}{ord:List Nat}{a:Act}{w:World}(k:P.follows .mixedOrders=true)(p:aa6 L=true)(f:∀(j:Nat) (o:Oper) c,L[j]? = some o->o.op≠.defer c)(i:∀j,L.size<=j->kind j<=1)
  (b:ord.length=L.size) (g:XV .any L far kind ord (y7 L.size false)=true) (h:T3 F n P L D far kind (λa d=>∀w,O7 d w->Q .normal a w) ord a w):(af6 id L true).wpIn F n P Q a w:=by
 refine wpIn_region_any k ?_;rw[<-b,<-ad8 ord.length];refine Pr (λ_ _ h=>h) _ _ _ _ (Sy (Qn:=λa w=>Q .normal a w) (m:=0) (fin:=λlisted=>(o8 .any L listed).isEmpty) (E:=λa d=>∀w,O7 d w->Q .normal a w) p f i (λlisted a d h _ l w q=>⟨by simpa using h,l w q⟩) ord _ a w (by rw[ad8,b];exact g) (λj o r e=>?_) h _ (O7.refl w));simp only[p9,ae1] at e;split at e<;>cases e
end
section
variable {X R : Type} {r : R} {C : Cfg} {I : X -> (Nat -> Prop) -> (Nat -> Prop) -> World -> Prop} {Γ : Ctx} {Φ : Nat -> Prop} {st : St X} {a : Act} {w : World} {O : G1} {Z : Yh X} {N : Value} {o : Oper}
def Bo1{P:Program}{m:Sem Next}{w w1 b:World}{x y:Next}(h:m.run P w = .ok x w1)(k:m.run P w = .ok y b):x=y/\w1=b:=by grind
def Vv(w:World)(x:Obj):O7 w (w.alloc x):=⟨⟨λg b=>I3 (w':=w.alloc x) (o:=x) rfl b,by rw[show(w.alloc x).heap=w.heap.push x from rfl];simp⟩,rfl,rfl,rfl⟩
def QO{Γ:Ctx}{e:Nat}{ev:Operand->Value}(b:(C.ti e).ok=true)(c:o.op = .alloc e):∃z:Value,(execOp ev o).run C.P w = .ok (.value (.pointer (some ⟨w.heap.size,0,none⟩))) (w.alloc (.cells z.cells e))/\(∀(Γ:Ctx) sh w,CR Γ sh w ((C.ti e).ks.map Y5) z.cells)/\∃i,C.P.info? e=some i/\i.zero=some z:=by
 obtain⟨i,z,d,f,_,_⟩:=Hk (Γ:=Γ) (sh:=λ_=>none) (w:=w) b;refine⟨z,?_,λΓ' sh w'=>?_,i,d,f⟩
 ·simp only[execOp,c];simp[Instr.alloc,zeroValue,typeInfo,d,f,newVar,newRow]
 ·obtain⟨k,l,g,j,_,h⟩:=Hk (Γ:=Γ') (sh:=sh) (w:=w') b;grind
def D70{P:Option Nat}{n:Nat}{k:St X->Option R}{next:Act->World->Prop}{Q:Exit->Act->World->Prop}(A:Ask C I O Z N)(a0:Γ.yv=N)(B:B19 C o.op=true)(h:opK C O Z o st k=some r)(S:SI C I Γ Φ st a.tmps w)(hN:Nxt C I Γ Φ st.hp w a.defers k r (λa' w'=>O7 w w'->next a' w')) :
  o.wpIn (J3 P) n C.P a w next Q:=by
 refine⟨λ_ _=>trivial,?_⟩;have M:∀c,o.op≠.defer c:=λc e=>by simp[opK,e] at h
 rw[ab8 _ _ _ M];unfold B19 at B;have add:CS o.op=false->(∃m x,(execOp a.eval o).run C.P w = .ok (.value m) (w.alloc x))->o.uponIn (J3 P) n C.P a next Q ((execOp a.eval o).run C.P w):=λy ⟨m,x,K⟩=>by
  obtain⟨V,w',Γ',l,H,u,h3,h4⟩:=At2 A.hI y h S;have Y:=hN l (a.put o.dst V) w' Γ' Φ H h4 h3 (put_defers _ _ _);rcases u with u|⟨rfl,u⟩
  ·obtain⟨_,rfl⟩:=Bo1 u K;rw[u];exact Y (Vv w x)
  grind
 split at B
 ·rename_i t len parts b;refine add (by rw[b];rfl) ?_;simp only[opK,b] at h;obtain⟨p1,p2⟩:=S.parts parts.toList;cases F:C.stab t with
  | true=>
   simp only[F,aa] at h;obtain⟨v,W,hv,m,x,f⟩:=Lj (ps:=parts.map λ(i,x)=>(i,a.eval x)) (sl:=st.sl) (tmps:=a.tmps) S.hr h (by rw[ae2];exact p1);refine⟨m,x,?_⟩;simp only[execOp,b];simp[f]
  | false=>
  simp only[F,ab] at h;obtain⟨v,H',W,hv,m,x,f⟩:=Jp (ps:=parts.map λ(i,x)=>(i,a.eval x)) (sl:=st.sl) (tmps:=a.tmps) S.hr h (by rw[ae2];exact p1);refine⟨m,x,?_⟩;simp only[execOp,b];simp[f]
 ·rename_i e b;refine add (by rw[b];rfl) ?_;by_cases D:(C.ti e).ok=true
  ·obtain⟨z,hr,_⟩:=QO (Γ:=Γ) (ev:=a.eval) (w:=w) D b;exact⟨_,_,hr⟩
  ·simp[opK,b,GI,D] at h
 ·rename_i t b;refine add (by rw[b];rfl) ?_;simp only[opK,b] at h;obtain⟨v,H',W,hv,m,x,f⟩:=Rk (sl:=st.sl) (tmps:=a.tmps) S.hr h;refine⟨m,x,?_⟩;simp only[execOp,b];simp[f]
 ·rename_i c b;split at B
  ·rename_i g p;simp only[j4,v8] at B;obtain⟨⟨pf,q⟩,U⟩:=B;simp only[opK,b,p,opnd,EP,Xs,q,ag4,ad3,y8] at h;split at h
   ·rename_i L;obtain⟨ret,Hc,j,h⟩:=Cj h;have j:M6 (pf (argX st.hp (c.args.toList.map (opnd C st.sl))))=some (ret,Hc):=by
     cases hx:C.xp g with
     | true=>rw[hx] at j;exact(Cv j).1
     | false=>rw[hx] at j;exact j
    obtain⟨H,u⟩:=D6 h;obtain⟨hc,Y⟩:=S.list c.args;have key:=LA (k:=λv l=>k { l with sl:=Db o.dst v l.sl }) A.hI A.hX S hc q j (ab1.1 L) (by simpa only[y9,j4] using H) u;have J:execOp a.eval o=(do let d <-o9 (a.eval (.func g)) (c.args.map a.eval);invoke d.target d.args):=by simp only[execOp,b,resolve,p]
    have f:(execOp a.eval o).run C.P w=(callFunc g (c.args.map a.eval)).run C.P w:=by
     rw[J];have e:a.eval (.func g) = .func (.func g) #[] #[]:=rfl;rw[e];simp[o9,invoke]
    rw[f];refine key P n o a next Q ?_
    rintro V w' ⟨⟨v,l,Γ',T,k1,k2,G,k4,k5⟩,K⟩;exact hN _ (a.put o.dst V) w' Γ' T k1 k2 ⟨G.hr,G.sr.put (ds:=a.defers) o k4 k5,G.g,G.inv,G.dis⟩ (put_defers _ _ _) K
   ·cases h
  ·cases B
 ·cases B
def MH(C:Cfg)(op:Op):(Ku C op=0/\((∃x,op = .move x\/op = .assign x\/(∃y z,op = .pick x y z)\/∃i,op = .extract x i)\/(∃x,op = .nilCheck x)\/(∃t x d c e,op = .slice t x d c e)\/(∃t x f,op = .fieldAddr t x f)\/(∃t x i,op = .indexAddr t x i)\/(∃t p,op = .build t p)\/∃b t x y q,op = .binOp b t x y q))\/(Ku C op=1/\NJ C op=true)\/(Ku C op=2/\B19 C op=true)\/Ku C op=3:=by unfold Ku;grind
def D47{k:St X->Option R}(J:(∃x,o.op = .move x\/o.op = .assign x\/(∃y z,o.op = .pick x y z)\/∃i,o.op = .extract x i)\/(∃x,o.op = .nilCheck x)\/(∃t x m j n,o.op = .slice t x m j n)\/(∃t x f,o.op = .fieldAddr t x f)\/(∃t x i,o.op = .indexAddr t x i)\/(∃t p,o.op = .build t p)\/∃b t x y q,o.op = .binOp b t x y q)(h:opK C O Z o st k=some r)(S:SI C I Γ Φ st a.tmps w) :
  ∃V d,k d=some r/\(∀w':World,(execOp a.eval o).run C.P w' = .ok (.value V) w')/\SI C I Γ Φ d (a.put o.dst V).tmps w/\Stp C Γ st.hp w noΦ Γ d.hp w noΦ:=by
 rcases J with⟨x,c⟩|⟨x,c⟩|⟨t,x,m,j,n,c⟩|⟨t,x,f,c⟩|⟨t,x,i,c⟩|⟨t,p,c⟩|⟨b,t,x,y,q,c⟩
 ·obtain⟨V,d,D,F,G,H⟩:=DN (a:=a) (show P7 C o.op=true by rcases c with h|h|⟨_,_,h⟩|⟨_,h⟩<;>rw[h]<;>rfl) h S;refine⟨V,d,D,λw'=>?_,G,H⟩;have e:=F w (Ext.refl w);rcases c with c|c|⟨y,z,c⟩|⟨i,c⟩<;>simp only[execOp,c] at e ⊢
  ·cases e;rfl
  ·cases e;rfl
  ·generalize a.eval x=v at e ⊢;cases v<;>simp[asBool] at e ⊢
   exact e
  ·unfold Instr.extract at e ⊢;split at e
   ·split at e
    ·cases e;simp_all
    ·cases e
   ·cases e
 ·simp only[opK,c] at h;split at h
  ·rename_i l;have g:=(S.opnd x).1;refine⟨a.eval x,_,h,λw'=>?_,S.put g (S.opnd x).2,Stp.refl S.hr⟩;simp only[execOp,c];unfold Bd9 at l;split at l
   ·rename_i c;rw[c] at g;obtain⟨u,e⟩:=g.inv_ptr;simp_all
   ·rename_i c;rw[c] at g;obtain⟨u,e⟩:=g.inv_sp;simp_all
   ·rename_i c;rw[c] at g;obtain⟨A,B,e⟩:=g.inv_fn;simp_all
   ·rename_i c;rw[c] at g;obtain⟨A,B,e⟩:=g.inv_fnr;simp_all
   grind
  ·cases h
 ·exact A14 (a:=a) c h S
 ·exact Ap6 (a:=a) c h S
 ·exact Ar4 (a:=a) c h S
 ·exact Al6 (a:=a) c h S
 ·exact B95 (a:=a) c h S
def Dh1(C:Cfg)(I:X->(Nat->Prop)->(Nat->Prop)->World->Prop)(Γ:Ctx)(Φ:Nat->Prop)(H:List Blk)(w:World)(ds:List Deferred)(k:St X->Option R)(r:R)(q:Prop)(next:Act->World->Prop):Prop:=
 ∀b d w' Γ' c,k b=some r->Stp C Γ H w Φ Γ' b.hp w' c->SI C I Γ' c b d.tmps w'->d.defers=ds->(q->∀g,Γ'.St g->Γ.St g)->next d w'
def Nxt.q{H:List Blk}{ds:List Deferred}{k:St X->Option R}{q:Prop}{next:Act->World->Prop}(h:Nxt C I Γ Φ H w ds k r next):Dh1 C I Γ Φ H w ds k r q next:=λst' a' w' Γ' Φ' h1 h2 h3 h4 _=>h st' a' w' Γ' Φ' h1 h2 h3 h4
def Ir{ro:Option Nat}{n:Nat}{all:Array Oper}{E:Act->World->Prop}{D:Nat->Prop}{l:Nat->Bool}(A:Ask C I O Z N):∀(c:List Nat) {Γ:Ctx} {Φ:Nat->Prop} {st:St X} {a:Act} {w:World} {k:St X->Option R},(∀i∈c,i<all.size/\l i=false)->Γ.yv=N->
  Jm C O Z all (c.filterMap (all[·]?)) st k=some r->SI C I Γ Φ st a.tmps w->Dh1 C I Γ Φ st.hp w a.defers k r (∀j∈c,O5 C all j<=1) E->T3 (J3 ro) n C.P all D l (O5 C all) E c a w
 | [],Γ,Φ,st,a,w,k,f,hyv,h,S,hN=>hN st a w Γ Φ h (Stp.refl S.hr) S rfl (λ_ _ h=>h)
 | i::c,Γ,Φ,st,a,w,k,f,hyv,h,S,hN=>by
  have a9:=(f i (by simp)).1;have M:=(f i (by simp)).2;obtain⟨o,ho⟩:∃o,all[i]? = some o:=⟨all[i],ab3 a9⟩
  have x:∀j∈c,j<all.size/\l j=false:=λj hj=>f j (by simp[hj])
  rw[List.filterMap_cons,ho] at h;have a1:O5 C all i=Ku C o.op:=by simp only[O5,ho]
  have run:∀{st:St X},p7 o (yielded all a.tmps)=true->SI C I Γ Φ st a.tmps w->Dh1 C I Γ Φ st.hp w a.defers k r (∀j∈i::c,O5 C all j<=1) E->opK C O Z o st (λd=>Jm C O Z all (c.filterMap (all[·]?)) d k)=some r->T3 (J3 ro) n C.P all D l (O5 C all) E (i::c) a w:=fun {st} p S hN h=>by
   have a4:Ku C o.op<=1->∃V d,Jm C O Z all (c.filterMap (all[·]?)) d k=some r/\YQ (J3 ro) n C.P all D (qK (Ku C o.op) (l i)) w o V a/\SI C I Γ Φ d (a.put o.dst V).tmps w/\Stp C Γ st.hp w Φ Γ d.hp w Φ:=λa0=>by
    rcases MH C o.op with⟨T,hb⟩|⟨T,y⟩|⟨T,_⟩|T
    ·obtain⟨V,d,G,F,H,J⟩:=D47 (a:=a) hb h S;refine⟨V,d,G,⟨λ_ _ _ _=>trivial,.inl ⟨p,λw' _=>?_⟩⟩,H,J.lift Φ⟩;unfold ac5;rw[F w'];exact⟨rfl,rfl⟩
    ·rw[T];simp only[NJ,y9] at y;rcases y with y|y
     ·obtain⟨V,d,G,F,H,J⟩:=DN (a:=a) y h S;refine⟨V,d,G,⟨λ_ _ _ _=>trivial,.inl ⟨p,λw' a3=>?_⟩⟩,H,J.lift Φ⟩;unfold ac5;rw[F w' (a3.1 (by rw[M];rfl)).1.1];exact⟨rfl,rfl⟩
     ·obtain⟨V,d,G,F,H,J⟩:=Cf2 (ro:=ro) (n:=n) (a:=a) A.hI A.hX y h S;exact⟨V,d,G,⟨λ_ _ _ _=>trivial,.inl ⟨p,λw' a3=>F w' (a3.1 (by rw[M];rfl))⟩⟩,H,J.lift Φ⟩
    all_goals omega
   simp only[T3];rw[a1];refine⟨λa0=>?_,λb0 w1 K=>?_⟩
   ·obtain⟨V,d,G,F,H,J⟩:=a4 a0;exact⟨o,V,ho,F,Ir A c x hyv G H λq Y w2 t u k1 k2 k3 k4 k5=>hN q Y w2 t u k1 (J.trans k2) k3 (k4.trans (put_defers _ _ _)) λy=>k5 λj hj=>y j (by simp[hj])⟩
   ·obtain⟨S1,P⟩:=S.like A.hI K;unfold wpOpIn;simp only[ho,p,if_true];rcases MH C o.op with⟨T,_⟩|⟨T,_⟩|⟨T,hx⟩|T
    ·omega
    ·omega
    ·exact D70 A hyv hx h S1 λd a' w' Γ' Φ' G F H J hl=>⟨λ_=>hl,λe=>(by rw[M] at e;cases e),Ir A c x (F.yv.trans hyv) G H λq Y w2 t u k1 k2 k3 k4 _=>hN q Y w2 t u k1 (P.trans (F.trans k2)) k3 (k4.trans J) λy=>absurd (y i (by simp)) (by rw[a1];omega)⟩
    ·exact C35 A hyv h S1 λd a' w' Γ' Φ' G F H J=>⟨λe=>by omega,λe=>(by rw[M] at e;cases e),Ir A c x (F.yv.trans hyv) G H λq Y w2 t u k1 k2 k3 k4 _=>hN q Y w2 t u k1 (P.trans (F.trans k2)) k3 (k4.trans J) λy=>absurd (y i (by simp)) (by rw[a1];omega)⟩
  have skip:∀{st:St X},p7 o (yielded all a.tmps)=false->SI C I Γ Φ st a.tmps w->Dh1 C I Γ Φ st.hp w a.defers k r (∀j∈i::c,O5 C all j<=1) E->Jm C O Z all (c.filterMap (all[·]?)) { st with sl:=Db o.dst (.tup []) st.sl } k=some r->T3 (J3 ro) n C.P all D l (O5 C all) E (i::c) a w:=fun {st} p S hN h=>by
   simp only[T3];have go:∀{w1:World},O7 w w1->T3 (J3 ro) n C.P all D l (O5 C all) E c (a.put o.dst undef) w1:=fun {w1} K=>by
    obtain⟨S1,P⟩:=S.like A.hI K;exact Ir A c (st:={ st with sl:=Db o.dst (.tup []) st.sl }) x hyv h (S1.put (o:=o) Au (by simp[PV.nms,D0])) λq Y w2 t u k1 k2 k3 k4 k5=>hN q Y w2 t u k1 (P.trans k2) k3 (k4.trans (put_defers _ _ _)) λy=>k5 λj hj=>y j (by simp[hj])
   refine⟨λa0=>⟨o,undef,ho,⟨λ_ _ _ _=>trivial,.inr ⟨p,rfl⟩⟩,go (O7.refl w)⟩,λb0 w1 K=>?_⟩;unfold wpOpIn;simp only[ho,p,ag1,if_false];exact⟨λ_ _=>trivial,λ_=>O7.refl w1,λ_=>(O7.refl w1).x,go K⟩
  simp only[Jm] at h;split at h
  ·rename_i hg;exact run (by simp[p7,hg]) S hN h
  ·rename_i j W hg;split at h
   ·rename_i g a5;have a7:∀b,a.tmps[g]? = some (.bool b)->yielded all a.tmps j=some b:=λb e=>by simp[yielded,a5,e]
    have a6:(∀b,a.tmps[g]?≠some (.bool b))->yielded all a.tmps j=none:=λb2=>by
     simp only[yielded,a5,j7]
    have m:∀v,st.sl.getD g (.tup [])=v->∀V,a.tmps[g]? = some V->VP Γ (A3 st.hp) w v V:=λv hv V hV=>by
     have f:g<st.sl.length:=by rw[<-S.sr.size];exact(o7.1 hV).1
     obtain⟨U,e1,e2⟩:=S.sr.slot g f;grind
    split at h
    ·rename_i b hb;have f:g<st.sl.length:=x9 λb1=>by grind
     obtain⟨U,e1,e2⟩:=S.sr.slot g f;have hU:=(m _ hb U e1).inv_bool;subst hU;have z:yielded all a.tmps j=some b:=a7 b e1;have S':SI C I Γ Φ { st with sl:=st.sl.set g (.s (.bool b)) } a.tmps w:=⟨S.hr,S.sr.set g (m _ hb) (by simp[PV.nms]),S.g,S.inv,S.dis⟩
     have Q:(if (b==W)=true then opK C O Z o { st with sl:=st.sl.set g (.s (.bool b)) } (λd=>Jm C O Z all (c.filterMap (all[·]?)) d k) else Jm C O Z all (c.filterMap (all[·]?)) { st with sl:=Db o.dst (.tup []) (st.sl.set g (.s (.bool b))) } k)=some r:=by
      cases b<;>exact h
     by_cases L:b=W
     ·rw[ac (by simpa using L)] at Q;exact run (by simp[p7,hg,z,L]) S' hN Q
     ·rw[ae (by simpa using L)] at Q;exact skip (by simp[p7,hg,z,L]) S' hN Q
    ·rename_i hb;have z:yielded all a.tmps j=none:=a6 λb a8=>by
      obtain⟨B,e,_⟩:=(m _ hb _ a8).inv_tup;cases e
     exact skip (by simp[p7,hg,z]) S hN h
    grind
   ·cases h
def Ef2:Op->Bool
 | .defer _=>false
 | _=>true
def Ma:Option (List Nat × List Nat)->Nat->Bool:=λ_ _=>false
def C46(C:Cfg)(c:Option (List Nat × List Nat))(b:Array Oper):Bool:=
 aa6 b&&(b.toList.all (λo=>Ef2 o.op)&&(x4 (Yy C b.toList).length b.size&&((Yy C b.toList).all (λi=>p5 (i+1) b.size)&&XV .any b (Ma c) (O5 C b) (Yy C b.toList) (y7 b.size false))))
def Bp5(o:Oper):List Nat:=o.op.operands.toList.filterMap λx=>match x with | .tmp t=>some t|_=>none
def Iv(b:Array Oper)(f:Nat)(c:List Nat):Bool:=match b[f]? with
 | some e=>(match e.dst with|some _=>true|none=>false)&&c.all λi=>match b[i]? with
  | some o=>(match o.dst with|some d=>!(Bp5 e).contains d&&!(e.dst==some d)|none=>true)
  | none=>false
 | none=>false
def Bh9(C:Cfg)(d:Option (List Nat × List Nat))(b:Array Oper)(c:Nat):Bool:=
 aa6 b&&(b.toList.all (λo=>Ef2 o.op)&&(x4 (Kz C b++(Iw C b c++c::Fm C b c)).length b.size&&((Kz C b++(Iw C b c++c::Fm C b c)).all (λi=>p5 (i+1) b.size) &&
  (Iv b c (Iw C b c)&&(x4 (O5 C b c) 2&&LB .any b (Ma d) (O5 C b) (Sx .any b (Ma d) (O5 C b) c (Fm C b c) (Iw C b c)) (Kz C b) (y7 b.size false))))))
def Bh8(C:Cfg)(id:Nat)(b:Array Oper):Bool:=match C.rowR id with
 | none=>C46 C (C.farR id) b
 | some i=>p5 b.size i||Bh9 C (C.farR id) b i
def X6(C:Cfg)(c:Bool):Code->Bool
 | .region id e d=>!d||Bh8 C id e
 | .seq a b=>X6 C c a&&X6 C c b
 | .cond _ a b=>X6 C c a&&X6 C c b
 | .block _ a=>X6 C c a
 | .loop a=>X6 C c a
 | .scope a=>X6 C c a
 | .rangeFunc _ _ a b=>X6 C c a&&X6 C c b
 | _=>true
def Cy1(C:Cfg)(c:Code):Bool:=X6 C true c
def DX(Γ:Ctx)(w:World)(c:Option (List Nat × List Nat)):Nat->Prop:=λg=>w.heap.size<=g\/∃f b,c=some f/\okN f.2 b=true/\Γ.nm b=some g
section
variable {L : Ctx} {Y : List Blk} {Q : World} {W : Nat -> Prop}
def Iq{l:Option Nat}{n:Nat}{all:Array Oper}{E:Act->World->Prop}{c:Option (List Nat × List Nat)}(A:Ask C I O Z N)(m:HR L Y Q)(b:List Nat){p:Bool}{Γ:Ctx}{Φ:Nat->Prop}{st:St X}{a:Act}{w:World}{k:St X->Option R}(d:∀i∈b,i<all.size)(e:Γ.yv=N)(j:p=true->∀g,Γ.St g->L.St g)
  (h:Mr C O Z all c Y p b st k=some r) (S:SI C I Γ Φ st a.tmps w) (q:Stp C L Y Q W Γ st.hp w Φ) (hN:Nxt C I Γ Φ st.hp w a.defers k r E):T3 (J3 l) n C.P all (DX L Q c) (Ma c) (O5 C all) E b a w:=by
 exact Ir A b (λi f=>⟨d i f,rfl⟩) e h S hN.q
end
def Ci4{T:Option Nat}{n id:Nat}{b:Array Oper}{Q:Exit->Act->World->Prop}{k:St X->Option R}(A:Ask C I O Z N)(H:C.P.follows .mixedOrders=true){f:Option (List Nat × List Nat)}(d:C46 C f b=true)(p:Γ.yv=N)(h:Mr C O Z b f st.hp true (Yy C b.toList) st k=some r)(S:SI C I Γ Φ st a.tmps w)
  (hN:Nxt C I Γ Φ st.hp w a.defers k r (λg w'=>Q .normal g w')):(af6 id b true).wpIn (J3 T) n C.P Q a w:=by
 simp only[C46,j4] at d;obtain⟨y,u,z,v,B⟩:=d;rw[o5] at u v;refine AJ (D:=DX Γ w f) (far:=Ma f) (kind:=O5 C b) (ord:=Yy C b.toList) H y (λj o c J e=>?_) (λj G=>?_) (w6 z) B (Iq A S.hr _ (λi F=>KO (v i F)) p (λ_ _ h=>h) h S (Stp.refl S.hr) λq g w' Γ' t K L M P w1 m=>?_)
 case refine_3=>
  obtain⟨x,l⟩:=M.like A.hI m;exact hN q g w1 Γ' t K (L.trans l) x P
 ·have:=u o (by simpa using af2 J);rw[e] at this;cases this
 ·simp only[O5,ac2 G];exact o0 _
def Bas(b:Nat->Prop)(c:World)(St:Nat->Prop)(w:World):Prop:=∀q,b q->St q/\w.heap[q]? = c.heap[q]?
def Trn.B(C:Cfg)(Sb:Nat->Prop)(wb:World)(V:Value)(x:Obj)(g:Nat):Trn->Prop
 | .row v=>∀(St:Nat->Prop) (w1:World),Bas Sb wb St w1->St g->w1.heap[g]? = some x->VS St w1 v V
 | .var e=>(C.ti e).ok=true/\(∀n el,C.sh e≠.array n el)/\V = .pointer (some ⟨g,0,none⟩)/\∃z:Value,x = .cells z.cells e/\∀(Γ:Ctx) sh w,CR Γ sh w ((C.ti e).ks.map Y5) z.cells
def Ah8(C:Cfg)(b:Nat->Prop)(d:World)(o:Oper)(c:Operand->Value)(t:Trn):Prop:=∀w:World,∃V x,(execOp c o).run C.P w = .ok (.value V) (w.alloc x)/\t.B C b d V x w.heap.size
def C66(op:Op):Prop:=(∃t len b,op = .buildSlice t len b)\/∃e,op = .alloc e
def Bl7{k:Trn->Option R}(S:SI C I Γ Φ st a.tmps w)(h:Bl6 C o st.sl k=some r):o.guard=none/\C66 o.op/\∃t,k t=some r/\Ah8 C Γ.St w o a.eval t:=by
 unfold Bl6 at h;split at h
 ·rename_i e l c;refine⟨l,.inr ⟨_,c⟩,?_⟩;split at h
  ·cases h
  ·rename_i u;obtain⟨b,h⟩:=D6 h;refine⟨_,h,λw1=>?_⟩;obtain⟨z,T,A,_⟩:=QO (Γ:=Γ) (ev:=a.eval) (w:=w1) b c;exact⟨_,_,T,b,u,rfl,z,rfl,A⟩
 ·rename_i t len parts l c;refine⟨l,.inl ⟨_,_,_,c⟩,?_⟩;split at h
  ·rename_i e u;split at h
   ·rename_i b;simp only[j4,af] at b;obtain⟨⟨b,d⟩,a0⟩:=b;split at h
    ·rename_i out Y;split at h
     ·rename_i vs L;refine⟨_,h,?_⟩;obtain⟨hp,_⟩:=S.parts parts.toList;obtain⟨i,z,m,hz,y,H⟩:=Hk (Γ:=Γ) (sh:=A3 st.hp) (w:=w) b;obtain⟨_,_,_,a1⟩:=N2 b;have K:0<(C.ti e).ks.length:=by rename_i T A;omega
      have W:=ZP H (by simpa using K) len;rw[p4] at W;obtain⟨B,Q,G,e3⟩:=En (place':=λj=>some (j*i.size,i.size)) (λj off size n h0=>by rw[y];exact n) Y W hp;obtain⟨f1,f2⟩:=T2 (As:=B.toList) L (by simpa using G.1.symm) (λj n=>by
       obtain⟨U,e,k⟩:=G.2 j n;exact⟨U,by simpa using e,k⟩)
      have D:B.size=len*(C.ti e).ks.length:=by
       have q:∀{place:Nat->Option (Nat × Nat)} {F:List (Nat × PV)} {cells out:List PV},Ed place cells F=some out->out.length=cells.length:=by
        intro place F
        induction F with
        | nil=>intro cells out h;simp only[Ed,j0] at h;rw[h]
        | cons p F ih=>
         intro cells out h;obtain⟨i,v⟩:=p;simp only[Ed] at h;split at h
         ·split at h
          ·rw[ih h,E5]
          grind
         grind
       rw[G.1,q Y,Fu,p4]
      have f:vs.length=len*(C.ti e).ks.length:=by rw[f1,ad5,D]
      intro M;have hr:=Ck (P:=C.P) M len (parts.map λ(i,x)=>(i,a.eval x)) B (L1 u) m hz (by rw[y];exact d) (by rw[y] at Q ⊢;rw[ae2];exact Q);refine⟨.slice (some ⟨M.heap.size,0,none⟩) len len,.cells B e,by simp only[execOp,c];simp[hr],λSt w1 V J hx=>?_⟩;refine .sl true _ M.heap.size 0 len len _ (λi j=>(B[i*(C.ti e).ks.length+j]?).getD undef) (by rw[X5]) (o0 _) (by simp only[maxLen];omega) (λ_=>rfl) J (λi m=>(Co _ _ _ f i m).1) (λi m j n=>?_) (λi m j n=>?_)
      ·obtain⟨A,_⟩:=(Co _ _ _ f i m).2 j n;have:i*(C.ti e).ks.length+j<B.size:=by rw[D,<-f];exact A
       simp[ah5,hx,this]
      ·obtain⟨A,e4⟩:=(Co _ _ _ f i m).2 j n;obtain⟨U,e5,k5⟩:=f2 _ A;rw[e4];have e6:(B[i*(C.ti e).ks.length+j]?).getD undef=U:=by grind
       rw[e6];exact k5.mono (λg l=>(V g l).2) (λg l=>(V g l).1)
     grind
    grind
   ·cases h
  ·cases h
 ·cases h
def A76{d:Option Tmp}{a b:Act}(h:QB d a b){c:Oper}(f:∀t,d=some t->t∉Bp5 c):∀x∈c.op.operands,b.eval x=a.eval x:=by
 intro x g;cases x with
 | tmp t=>
  have:d≠some t:=λe=>f t e (List.mem_filterMap.2 ⟨.tmp t,by simpa using g,rfl⟩)
  have e:=h t this;simp only[Act.eval,p9,e]
 | _=>rfl
def Dt0{q:Option Nat}{n:Nat}{all:Array Oper}{i:Nat}{d:Oper}{t:Trn}{g:Nat->Prop}{j:World}(p:all[i]? = some d)(m:d.guard=none)(f:C66 d.op)(b:Ah8 C g j d a.eval t){K:Act->World->Prop}
  (h:∀V x,t.B C g j V x w.heap.size->K (a.put d.dst V) (w.alloc x)):wpOpIn (J3 q) n C.P all QF i K a w:=by
 unfold wpOpIn;simp only[p];rw[ac (by simp[p7,m])];refine⟨λ_ _=>trivial,?_⟩;rw[ab8 _ _ _ (λc e=>by rcases f with⟨_,_,_,h⟩|⟨_,h⟩<;>rw[h] at e<;>cases e)];obtain⟨V,x,k,l⟩:=b w;rw[k];exact h V x l
structure Ah6 (C:Cfg) (Sb:Nat->Prop) (wb:World) (d:Option Tmp) (t:Trn) (g:Nat) (x:Obj) (Γ:Ctx) (Φ:Nat->Prop) (a:Act) (w:World):Prop where
 at':w.heap[g]? = some x
 st:¬ Γ.St g
 nm:∀b,Γ.nm b≠some g
 fo:¬ Φ g
 ex:∃V,t.B C Sb wb V x g
 val:∀V,(∃t,d=some t/\a.tmps[t]? = some V)->t.B C Sb wb V x g
 base:Bas Sb wb Γ.St w
def A06(S:SI C I Γ Φ st a.tmps w)(d:Option Tmp):SI C I Γ Φ { st with sl:=Db d .bad st.sl } a.tmps w:=by
 cases d with
 | none=>exact S
 | some t=>exact⟨S.hr,S.sr.set t (λV _=>.bad V) (by simp[PV.nms]),S.g,S.inv,S.dis⟩
def B65(S:SI C I Γ Φ st a.tmps w){d:Option Tmp}{v:PV}(h:∀V,(∃t,d=some t/\a.tmps[t]? = some V)->VP Γ (A3 st.hp) w v V)(b:∀c∈v.nms,c<st.hp.length):SI C I Γ Φ { st with sl:=Db d v st.sl } a.tmps w:=by
 cases d with
 | none=>exact S
 | some t=>exact⟨S.hr,S.sr.set t (λV hV=>h V ⟨t,rfl,hV⟩) b,S.g,S.inv,S.dis⟩
def Ah6.step{Γ':Ctx}{Φ':Nat->Prop}{H':List Blk}{a':Act}{w':World}{d4 d:Option Tmp}{t:Trn}{g:Nat}{x:Obj}{Sb:Nat->Prop}{wb:World}(h:Ah6 C Sb wb d4 t g x Γ Φ a w)(hs:Stp C Γ st.hp w Φ Γ' H' w' Φ')(hst:∀q,Γ.St q->w'.heap[q]? = w.heap[q]?)(hag:QB d a a')(hne:d4≠none->d≠d4):Ah6 C Sb wb d4 t g x Γ' Φ' a' w':=by
 have hlt:g<w.heap.size:=(o7.1 h.at').1;refine⟨by rw[hs.frame g hlt h.nm h.fo];exact h.at',λe=>?_,λb e=>?_,λe=>?_,h.ex,?_,λq hq=>⟨hs.sub q (h.base q hq).1,(hst q (h.base q hq).1).trans (h.base q hq).2⟩⟩
 ·rcases hs.stnew g e with e|e
  ·exact h.st e
  ·omega
 ·rcases hs.own b g e with⟨_,e⟩|e
  ·exact h.nm b e
  ·omega
 ·rcases hs.foot g e with e|e
  ·exact h.fo e
  ·omega
 ·rintro V ⟨t,ht,hV⟩;have:d≠some t:=λe=>hne (by rw[ht];simp) (by rw[e,ht])
  rw[hag t this] at hV;exact h.val V ⟨t,ht,hV⟩
def KH{H:List Blk}(x:Blk)(g:Nat):Bg Γ (A3 H) w (Γ.upd H.length g) (A3 (H++[x])) w (· < H.length):=
 ⟨λ_ _=>rfl,λ_ h=>h,λb c=>by simp only[Ctx.upd];rw[ae (by omega)],λb c=>R0 c,λ_ _ _ _=>rfl,rfl⟩
def Stp.adopt{Γ0:Ctx}{H0 H:List Blk}{w0:World}{Φ0:Nat->Prop}{g:Nat}(x:Blk)(hs:Stp C Γ0 H0 w0 Φ0 Γ H w Φ)(hg:w0.heap.size<=g):Stp C Γ0 H0 w0 Φ0 (Γ.upd H.length g) (H++[x]) w Φ:=by
 have hl:=hs.len;refine⟨hs.os,hs.tape,hs.output,hs.size,hs.sub,hs.stnew,λb g' h=>?_,hs.foot,hs.frame,hs.yv,by simp;omega,λb hb hf=>?_⟩
 ·simp only[Ctx.upd] at h;split at h
  ·grind
  ·exact hs.own b g' h
 ·obtain⟨p1,p2,p3⟩:=hs.keep b hb hf;exact⟨by simp only[Ctx.upd];rw[ae (by omega)];exact p1,by rw[R0 (by omega)];exact p2,p3⟩
def SI.adopt(S:SI C I Γ Φ st a.tmps w){x:Blk}{g:Nat}(hlt:g<w.heap.size)(h1:¬ Γ.St g)(h2:∀b,Γ.nm b≠some g)(h3:¬ Φ g)(hb:BR (Γ.upd st.hp.length g) (A3 (st.hp++[x])) w st.hp.length x)(hn:∀c∈x.nms,c<st.hp.length+1) :
  SI C I (Γ.upd st.hp.length g) Φ { st with hp:=st.hp++[x] } a.tmps w:=by
 have M:Bg Γ (A3 st.hp) w (Γ.upd st.hp.length g) (A3 (st.hp++[x])) w (· < st.hp.length):=KH x g;refine⟨⟨λb b' g' k1 k2=>?_,λb g' h=>?_,S.hr.stlt,λb hb' c hc=>?_,λb hb'=>?_⟩,SR.grow M S.sr,S.g,S.inv,λb g' h=>?_⟩
 ·simp only[Ctx.upd] at k1 k2;split at k1<;>split at k2
  ·omega
  ·rw[<-k1] at k2;exact absurd k2 (h2 b')
  ·rw[<-k2] at k1;exact absurd k1 (h2 b)
  ·exact S.hr.inj b b' g' k1 k2
 ·simp only[Ctx.upd] at h;split at h
  ·simp only[j0] at h;subst h;exact⟨by simp;omega,hlt,h1⟩
  ·have:=S.hr.lt b g' h;exact⟨by simp;omega,this.2⟩
 ·rw[w9,af4] at hb' ⊢;by_cases e:b=st.hp.length
  ·subst e;simp at hc;exact hn c hc
  ·have hb2:b<st.hp.length:=by omega
   rw[x5 hb2] at hc;have:=S.hr.nms b hb2 c hc;omega
 ·rw[w9,af4] at hb';by_cases e:b=st.hp.length
  ·subst e;simpa using hb
  ·have hb2:b<st.hp.length:=by omega
   rw[x5 hb2];exact(S.hr.blk b hb2).mono M (M.nm b hb2) (λ_ _=>rfl) (λc hc=>S.hr.nms b hb2 c hc)
 ·simp only[Ctx.upd] at h;split at h
  ·simp only[j0] at h;subst h;exact h3
  ·exact S.dis b g' h
def Br2{k:St X->Option R}{d:Option Tmp}{t:Trn}{g:Nat}{x:Obj}{Y:Nat->Prop}{wb:World}(K:HI I)(S:SI C I Γ Φ st a.tmps w)(h:Ve C d t st k=some r)(f:Ah6 C Y wb d t g x Γ Φ a w) :
  ∃m Γ',k m=some r/\SI C I Γ' Φ m a.tmps w/\∀{u:Ctx} {H:List Blk} {G:World} {A:Nat->Prop},Stp C u H G A Γ st.hp w Φ->G.heap.size<=g->Stp C u H G A Γ' m.hp w Φ:=by
 have p:g<w.heap.size:=(o7.1 f.at').1;cases t with
 | row v=>
  have P:=S.wideSt K (St':=λy=>Γ.St y\/y=g) (λ_ h=>.inl h) (λy i=>by rcases i with i|rfl;exact λe=>(K.foot _ _ _ _ S.inv y e).2 i;exact f.fo) (λb y L=>by
   rintro(i|rfl)
   ·exact(S.hr.lt b y L).2.2 i
   ·exact f.nm b L) (λy i=>by rcases i with i|rfl;exact S.hr.stlt y i;exact p)
  exact⟨_,_,h,B65 P (λV hV=>.s _ _ (f.val V hV _ _ (λq M=>⟨.inl (f.base q M).1,(f.base q M).2⟩) (.inr rfl) f.at')) (by simp[PV.nms]),λl D=>⟨l.os,l.tape,l.output,l.size,λy i=>.inl (l.sub y i),λy i=>by rcases i with i|rfl;exact l.stnew y i;exact .inr D,l.own,l.foot,l.frame,l.yv,l.len,l.keep⟩⟩
 | var e=>
  obtain⟨_,F,a0,_,z,rfl,hz⟩:=f.ex;simp only[Ve,GI,F,if_true] at h;have n:=hz Γ (A3 st.hp) w;obtain⟨T,e1,e2,e3,e4,e5,e6,J⟩:=W5 (C:=C) (C.nilT e) ((C.ti e).ks.map Y5) 0 st.hp z.cells.toList S.hr (by simpa using n.1.symm) (λj B=>by
   obtain⟨U,e,k⟩:=n.2 j B;exact⟨U,by simpa using e,k⟩) (by rw[Ry];simp)
  rw[e1] at h;have Q:SI C I Γ Φ { st with hp:=st.hp++T } a.tmps w:=⟨e2,SR.grow e4 S.sr,S.g,S.inv,S.dis⟩
  have W:=Q.adopt (x:=.box (G7 (C.nilT e) ((C.ti e).ks.map Y5) 0 st.hp).1) p f.st f.nm f.fo ⟨g,z.cells,e,by simp[Ctx.upd],f.at',by simpa using e5.symm,λj B=>by
   obtain⟨U,f1,f2⟩:=e6 j B;exact⟨U,by simpa using f1,f2.mono (KH _ g) λc n=>J c (C7.2 ⟨j,B,n⟩)⟩⟩ (λc n=>by have:=J c n;simp only at this ⊢;omega)
  exact⟨_,_,h,B65 W (λV hV=>by
   obtain⟨_,_,rfl,_⟩:=f.val V hV;exact .ptrB _ 0 g J4 (by simp[Ctx.upd])) (by simp[PV.nms]),λl D=>Stp.adopt _ (l.trans (e3.lift Φ)) D⟩
def QP{all:Array Oper}{e:Nat}{c:Oper}{i:Nat}{b:List Nat}(f:all[e]? = some c)(d:Iv all e (i::b)=true):∃o,all[i]? = some o/\(∀t,o.dst=some t->t∉Bp5 c)/\(c.dst≠none->o.dst≠c.dst)/\Iv all e b=true:=by unfold Iv at d ⊢;grind
section
variable {W : Ctx} {Y : List Blk} {Q : World} {J : Nat -> Prop} {L : Option (List Nat × List Nat)}
def ND{Sb:Nat->Prop}{wb:World}{ro:Option Nat}{n:Nat}{all:Array Oper}{E:Act->World->Prop}{i4:Nat}{q:Oper}{t:Trn}{post:List Nat}{u:Ctx}{P:List Blk}{H:World}{v:Nat->Prop}{ds:List Deferred}{g:Nat}{x:Obj}{k:St X->Option R}(A:Ask C I O Z N)(z:HR W Y Q)(V:all[i4]? = some q)(b:∀i∈post,i<all.size)(U:H.heap.size<=g)(m:Q.heap.size<=g)(hN:Nxt C I u v P H ds k r E):∀(d:List Nat) {Γ:Ctx} {Φ:Nat->Prop} {st:St X} {a:Act} {w:World},(∀i∈d,i<all.size)->Iv all i4 d=true->Γ.yv=N->
  Qb C O Z all L Y q.dst d st (λf=>Ve C q.dst t f λG=>Mr C O Z all L Y false post G k)=some r->SI C I Γ Φ st a.tmps w->Ah6 C Sb wb q.dst t g x Γ Φ a w->Stp C u P H v Γ st.hp w Φ->Stp C W Y Q J Γ st.hp w Φ->a.defers=ds->T3 (J3 ro) n C.P all (DX W Q L) (Ma L) (O5 C all) E (d++post) a w
 | [],Γ,Φ,st,a,w,hlt,hap,hyv,h,S,hah,hs,hsF,hd=>by
  simp only[Qb] at h;obtain⟨F,Γ',h',S',c⟩:=Br2 A.hI S h hah;have c:=@c;have T:=c hs U;have h2:=c hsF m;exact Iq A z post b (T.yv.trans (hs.yv.symm.trans hyv)) (λe=>by cases e) h' S' h2 λf a2 w2 K M q1 q2 q3 q4=>hN f a2 w2 K M q1 (T.trans q2) q3 (q4.trans hd)
 | i::rest,Γ,Φ,st,a,w,hlt,hap,hyv,h,S,hah,hs,hsF,hd=>by
  obtain⟨o,hi,a0,D,l⟩:=QP V hap;simp only[Qb] at h;exact EQ (E:=T3 (J3 ro) n C.P all (DX W Q L) (Ma L) (O5 C all) E (rest++post)) hi (Iq A z [i] (λj y=>hlt j (by simp at y;simp[y])) hyv (λe=>by cases e) h S hsF λF a' w' Γ' Φ' k1 p k3 k4 B=>
   ND A z V b U m hN rest (λj y=>hlt j (by simp[y])) l (p.yv.trans hyv) k1 (A06 k3 q.dst) (hah.step p (p.st S.hr λg h=>(A.hI.foot _ _ _ _ S.inv g h).2) B D) (hs.trans p) (hsF.trans p) (k4.trans hd))
def Be6{Sb:Nat->Prop}{wb:World}{ro:Option Nat}{n:Nat}{all:Array Oper}{E:Act->World->Prop}{M:Nat}{p:Oper}{t:Trn}{post:List Nat}(A:Ask C I O Z N)(hF:HR W Y Q)(ho:all[M]? = some p)(hg:p.guard=none)(U:C66 p.op)(H:∀i∈post,i<all.size):∀(c:List Nat) {Γ:Ctx} {Φ:Nat->Prop} {st:St X} {a:Act} {w:World} {k:St X->Option R},(∀i∈c,i<all.size)->Iv all M c=true->Γ.yv=N->
  Qb C O Z all L Y p.dst c { st with sl:=Db p.dst .bad st.sl } (λz=>Ve C p.dst t z λK=>Mr C O Z all L Y false post K k)=some r->SI C I Γ Φ st a.tmps w->Stp C W Y Q J Γ st.hp w Φ->Bas Sb wb Γ.St w->Ah8 C Sb wb p a.eval t->Nxt C I Γ Φ st.hp w a.defers k r E->AL (J3 ro) n C.P all (DX W Q L) (Ma L) (O5 C all) E M post c a w:=by
 have early:∀(c:List Nat) {Γ:Ctx} {Φ:Nat->Prop} {st:St X} {a:Act} {w:World} {k:St X->Option R},(∀i∈c,i<all.size)->Iv all M c=true->Γ.yv=N->
   Qb C O Z all L Y p.dst c { st with sl:=Db p.dst .bad st.sl } (λz=>Ve C p.dst t z λK=>Mr C O Z all L Y false post K k)=some r->SI C I Γ Φ st a.tmps w->Stp C W Y Q J Γ st.hp w Φ->Bas Sb wb Γ.St w->Ah8 C Sb wb p a.eval t->Nxt C I Γ Φ st.hp w a.defers k r E->
   ∀w1,O7 w w1->wpOpIn (J3 ro) n C.P all QF M (λa' w'=>O7 w1 w'/\T3 (J3 ro) n C.P all (DX W Q L) (Ma L) (O5 C all) E (c++post) a' w') a w1:=by
  intro c Γ Φ st a w k l u m h S f y d hN w1 D;refine Dt0 ho hg U d λV x hV=>⟨Vv w1 x,?_⟩
  obtain⟨P,a0⟩:=S.like A.hI D;obtain⟨S2,a1⟩:=P.like A.hI (Vv w1 x);refine ND (a:=a.put p.dst V) A hF ho H D.1.2 (s8 f.size D.1.2) hN c l u m h (S2.put (o:=p) (v:=.bad) (V:=V) (.bad V) (by simp[PV.nms])) ⟨I2 rfl,λe=>ag0 _ (P.hr.stlt _ e),λb e=>ag0 _ (P.hr.lt b _ e).2.1,λe=>ag0 _ (A.hI.foot _ _ _ _ P.inv _ e).1,⟨V,hV⟩,?_,λq F=>⟨(y q F).1,by rw[I3 (w':=w1.alloc x) (o:=x) rfl (P.hr.stlt q (y q F).1),D.1.1 q (S.hr.stlt q (y q F).1)];exact(y q F).2⟩⟩ (a0.trans a1) (f.trans (a0.trans a1)) (put_defers _ _ _);rintro V' ⟨t,ht,B⟩;have e:V'=V:=by
   rw[ht] at B;simp only[ag2] at B;have:=(o7.1 B).1;simp at this;simpa[this] using B.symm
  rw[e];exact hV
 intro c
 induction c with
 | nil=>
  intro Γ Φ st a w k l u m h S f y d hN;exact early [] l u m h S f y d hN
 | cons i G ih=>
  intro Γ Φ st a w k l u m h S f y d hN;refine⟨?_,λ_=>early (i::G) l u m h S f y d hN⟩;obtain⟨o,hi,a4,a5,T⟩:=QP ho u;have S0:=A06 S p.dst;simp only[Qb] at h;exact EQ (E:=AL (J3 ro) n C.P all (DX W Q L) (Ma L) (O5 C all) E M post G) hi (Iq A hF [i] (λj hj=>l j (by simp at hj;simp[hj])) m (λe=>by cases e) h S0 f λa6 a' w' Γ' Φ' k1 k2 k3 k4 a3=>
   ih (λj hj=>l j (by simp[hj])) T (k2.yv.trans m) k1 k3 (f.trans k2) (λq F=>⟨k2.sub q (y q F).1,(k2.st S.hr (λg h=>(A.hI.foot _ _ _ _ S.inv g h).2) q (y q F).1).trans (y q F).2⟩) (by
    have e:=execOp_congr (ρ:=a'.eval) (ρ':=a.eval) p (λcs b e=>by rcases U with⟨_,_,_,h⟩|⟨_,h⟩<;>rw[h] at e<;>cases e) (A76 a3 a4);unfold Ah8 at d ⊢;rw[e];exact d) λz a2 w2 Γ2 Φ2 q1 q2 q3 q4=>hN z a2 w2 Γ2 Φ2 q1 (k2.trans q2) q3 (q4.trans k4))
end
def Bi0{M:Option Nat}{n id d:Nat}{b:Array Oper}{F:Oper}{Q:Exit->Act->World->Prop}{k:St X->Option R}(A:Ask C I O Z N)(hm:C.P.follows .mixedOrders=true){g:Option (List Nat × List Nat)}(z:Bh9 C g b d=true)(D:Γ.yv=N)(G:b[d]? = some F)
  (h:(Mr C O Z b g st.hp true (Kz C b) st λl=>Bl6 C F l.sl λt=>
    Qb C O Z b g st.hp F.dst (Iw C b d) { l with sl:=Db F.dst .bad l.sl } λp=>Ve C F.dst t p λP=>
     Mr C O Z b g st.hp false (Fm C b d) P k)=some r) (S:SI C I Γ Φ st a.tmps w)
  (hN:Nxt C I Γ Φ st.hp w a.defers k r (λa' w'=>Q .normal a' w')):(af6 id b true).wpIn (J3 M) n C.P Q a w:=by
 simp only[Bh9,j4] at z;obtain⟨W,Y,h3,h4,h5,h6,h7⟩:=z;rw[o5] at Y h4;have y:∀(j:Nat) (o:Oper) c,b[j]? = some o->o.op≠.defer c:=λj o c G e=>by
  have:=Y o (by simpa using af2 G);rw[e] at this;cases this
 have hk:∀j,b.size<=j->O5 C b j<=1:=λj f=>by
  simp only[O5,ac2 f];exact o0 _
 have m:∀j,j∈Kz C b\/j∈Iw C b d\/j∈Fm C b d->j<b.size:=λj f=>KO (h4 j (by
  rcases f with f|f|f<;>simp[f]))
 have hC:T3 (J3 M) n C.P b (DX Γ w g) (Ma g) (O5 C b) (AL (J3 M) n C.P b (DX Γ w g) (Ma g) (O5 C b) (λa T=>∀w,O7 T w->Q .normal a w) d (Fm C b d) (Iw C b d)) (Kz C b) a w:=
  Iq A S.hr _ (λi u=>m i (.inl u)) D (λ_ _ h=>h) h S (Stp.refl S.hr) λl a1 w1 Γ1 Φ1 k1 L k3 k4=>by
   obtain⟨hg,H,v,hv,B⟩:=Bl7 k3 k1;exact Be6 A S.hr G hg H (λi u=>m i (.inr (.inr u))) _ (λi u=>m i (.inr (.inl u))) h5 (L.yv.trans D) hv k3 L (λq hq=>⟨hq,rfl⟩) B λp a2 w2 U V q1 q2 q3 q4 w3 K=>by
    obtain⟨S3,J⟩:=q3.like A.hI K;exact hN p a2 w3 U V q1 (L.trans (q2.trans J)) S3 (q4.trans k4)
 refine wpIn_region_any hm ?_;have x:=w6 h3;have e:b.size=(Fm C b d).length+1+(Iw C b d).length+(Kz C b).length:=by
  rw[<-x];simp only[w9,ae6];omega
 rw[e];refine Pr (wr:=λj=>p5 3 (O5 C b j)) (Qn:=λa w=>Q .normal a w) (λ_ _ h=>h) _ _ _ _ (Sy (fin:=Sx .any b (Ma g) (O5 C b) d (Fm C b d) (Iw C b d)) W y hk
  (λlisted a T hf hd hM w hw=>Cx7 W y hk _ listed a T hf hd hM w hw) (Kz C b) (y7 ((Fm C b d).length+1+(Iw C b d).length+(Kz C b).length) false) a w (by rw[<-e];exact h7) (λj o G f=>?_) hC _ ⟨⟨λ_ _=>rfl,o0 _⟩,rfl,rfl,rfl⟩)
 simp only[p9,ae1] at f;split at f<;>cases f
end
section
variable {L R : Type} {r : R} {C : Cfg} {I : L -> (Nat -> Prop) -> (Nat -> Prop) -> World -> Prop} {W : Ctx} {Z : Nat -> Prop} {Y : St L} {a : Act} {w : World} {K : G1} {J : Yh L} {U : Value} {o : Oper}
def Dr8{l:Option Nat}{n id:Nat}{c:Array Oper}{Q:Exit->Act->World->Prop}{k:St L->Option R}(A:Ask C I K J U)(f:C.P.follows .mixedOrders=true)(b:Bh8 C id c=true)(d:W.yv=U)(h:Bh7 C K J id c true Y k=some r)(S:SI C I W Z Y a.tmps w)
  (hN:Nxt C I W Z Y.hp w a.defers k r (λj w'=>Q .normal j w')):(af6 id c true).wpIn (J3 l) n C.P Q a w:=by
 unfold Bh7 at h;unfold Bh8 at b;split at h
 ·rename_i e;rw[e] at b;dsimp only at h b;exact Ci4 A f b d h S hN
 ·rename_i i e;rw[e] at b;split at h
  ·rename_i o _ g;refine Bi0 A f ?_ d g h S hN;rw[y9] at b;rcases b with b|b
   ·have:=(o7.1 g).1;have:=aa7 b;omega
   ·exact b
  ·cases h
end
def Ctx.cut(Γ:Ctx)(L:Nat):Ctx:={ Γ with St:=λg=>Γ.St g\/∃b,L<=b/\Γ.nm b=some g,nm:=λb=>if b<L then Γ.nm b else none }
def mkD(D:Nat):Deferred:={ target:=.collected D,args:=#[] }
section
variable {σ R : Type} {r : R} {C : Cfg} {I : σ -> (Nat -> Prop) -> (Nat -> Prop) -> World -> Prop} {Γ Γ' : Ctx} {Φ Φ' : Nat -> Prop} {st : St σ} {a : Act} {w w' : World} {Y : G1} {L : Yh σ} {yv : Value} {o : Oper} {H H' : List Blk} {tmps : Array Value}
def Off(Γ:Ctx)(Φ:Nat->Prop)(w:World)(g:Nat):Prop:=g<w.heap.size/\¬ Γ.St g/\(∀b,Γ.nm b≠some g)/\¬ Φ g
def Off.step{g:Nat}(h:Off Γ Φ w g)(s:Stp C Γ H w Φ Γ' H' w' Φ'):Off Γ' Φ' w' g/\w'.heap[g]? = w.heap[g]?:=by
 obtain⟨h1,h2,h3,h4⟩:=h;refine⟨⟨k9 h1 s.size,λq=>?_,λb q=>?_,λq=>?_⟩,s.frame g h1 h3 h4⟩
 ·rcases s.stnew g q with q|q
  ·exact h2 q
  ·omega
 ·rcases s.own b g q with⟨_,q⟩|q
  ·exact h3 b q
  ·omega
 ·rcases s.foot g q with q|q
  ·exact h4 q
  ·omega
def Mk(n0:Nat)(Γ:Ctx)(Φ:Nat->Prop)(w:World)(ds:List Deferred):Prop:=n0<=w.heap.size/\∃b:List Nat,ds=b.map mkD/\b.Nodup/\∀D∈b,n0<=D/\Off Γ Φ w D/\w.heap[D]? = some (.deferred (some []))
def Mk.nil{n0:Nat}(h:n0<=w.heap.size):Mk n0 Γ Φ w []:=⟨h,[],rfl,List.nodup_nil,by simp⟩
def Mk.step{n0:Nat}{ds:List Deferred}(h:Mk n0 Γ Φ w ds)(s:Stp C Γ H w Φ Γ' H' w' Φ'):Mk n0 Γ' Φ' w' ds:=by obtain⟨h0,Ds,h1,h2,h3⟩:=h;refine⟨s8 h0 s.size,Ds,h1,h2,λD hD=>?_⟩;obtain⟨k1,k2,k3⟩:=h3 D hD;obtain⟨q1,q2⟩:=k2.step s;exact⟨k1,q1,q2.trans k3⟩
structure Xi (Γ:Ctx) (Φ:Nat->Prop) (w w':World):Prop where
 same:∀g,Γ.St g\/(∃b,Γ.nm b=some g)\/Φ g->w'.heap[g]? = w.heap[g]?
 size:w.heap.size<=w'.heap.size
 os:w'.os=w.os
 tape:w'.tape=w.tape
 output:w'.output=w.output
def Xi.mono(h:Xi Γ Φ w w'):Bg Γ (A3 H) w Γ (A3 H) w' (λ_=>True):=
 ⟨λg hg=>h.same g (.inl hg),λ_ h=>h,λ_ _=>rfl,λ_ _=>rfl,λb g _ hg=>F9 (h.same g (.inr (.inl ⟨b,hg⟩))),rfl⟩
def SI.offW(hI:HI I)(S:SI C I Γ Φ st tmps w)(h:Xi Γ Φ w w'):SI C I Γ Φ st tmps w':=by
 have hf:=hI.foot _ _ _ _ S.inv;refine⟨⟨S.hr.inj,λb g hb=>?_,λg hg=>k9 (S.hr.stlt g hg) h.size,S.hr.nms,λb hb=>(S.hr.blk b hb).mono h.mono rfl (λg hg=>h.same g (.inr (.inl ⟨b,hg⟩))) (λ_ _=>trivial)⟩,
  S.sr.mono h.mono (λc hc=>⟨trivial,S.sr.nms c hc⟩),S.g.mono (λg hg=>h.same g (.inl hg)) (λ_ h=>h),
  hI.mono _ _ _ _ _ _ S.inv (λ_ h=>h) (λg hg hp=>(hf g hp).2 hg) (λg hg=>k9 (S.hr.stlt g hg) h.size) (λg hg=>h.same g (hg.elim .inl (λq=>.inr (.inr q)))) h.size h.os h.tape h.output,S.dis⟩
 obtain⟨q1,q2,q3⟩:=S.hr.lt b g hb;exact⟨q1,k9 q2 h.size,q3⟩
structure Pg (C:Cfg) (Γ:Ctx) (H:List Blk) (w:World) (Φ:Nat->Prop) (Γ':Ctx) (H':List Blk) (w':World) (Φ':Nat->Prop):Prop where
 os:w'.os=w.os
 tape:w'.tape=w.tape
 output:w'.output=w.output
 size:w.heap.size<=w'.heap.size
 sub:∀g,Γ.St g->Γ'.St g
 own:∀b g,Γ'.nm b=some g->(b<H.length/\Γ.nm b=some g)\/w.heap.size<=g
 foot:∀g,Φ' g->Φ g\/w.heap.size<=g
 yv:Γ'.yv=Γ.yv
 len:H.length<=H'.length
 keep:∀b,b<H.length->Kq C (A3 H b)->Γ'.nm b=Γ.nm b/\A3 H' b=A3 H b/\∀g,Γ.nm b=some g->w'.shape? g=w.shape? g
def Stp.pg(h:Stp C Γ H w Φ Γ' H' w' Φ'):Pg C Γ H w Φ Γ' H' w' Φ':=⟨h.os,h.tape,h.output,h.size,h.sub,h.own,h.foot,h.yv,h.len,h.keep⟩
def Pg.trans{Γ'':Ctx}{H'':List Blk}{w'':World}{Φ'':Nat->Prop}(h:Pg C Γ H w Φ Γ' H' w' Φ')(k:Pg C Γ' H' w' Φ' Γ'' H'' w'' Φ''):Pg C Γ H w Φ Γ'' H'' w'' Φ'':=by
 have h1:=h.size;refine⟨k.os.trans h.os,k.tape.trans h.tape,k.output.trans h.output,s8 h.size k.size,λg hg=>k.sub g (h.sub g hg),λb g hb=>?_,λg hg=>?_,k.yv.trans h.yv,s8 h.len k.len,λb hb hf=>?_⟩
 ·rcases k.own b g hb with⟨_,q⟩|q
  ·exact h.own b g q
  ·exact .inr (by omega)
 ·rcases k.foot g hg with q|q
  ·exact h.foot g q
  ·exact .inr (by omega)
 ·obtain⟨k1,k2,k3⟩:=h.keep b hb hf;have h2:=h.len;obtain⟨m1,m2,m3⟩:=k.keep b (by omega) (by rw[k2];exact hf);exact⟨m1.trans k1,m2.trans k2,λg hg=>(m3 g (k1.trans hg)).trans (k3 g hg)⟩
def Pg.off(hH:HR Γ H w)(h:Xi Γ Φ w w'):Pg C Γ H w Φ Γ H w' Φ:=
 ⟨h.os,h.tape,h.output,h.size,λ_ h=>h,λb g hb=>.inl ⟨(hH.lt b g hb).1,hb⟩,λ_ h=>.inl h,rfl,o0 _,λb hb _=>⟨rfl,rfl,λg hg=>F9 (h.same g (.inr (.inl ⟨b,hg⟩)))⟩⟩
def Pg.wideSt{St':Nat->Prop}(hH:HR Γ H w)(hs:∀g,Γ.St g->St' g):Pg C Γ H w Φ { Γ with St:=St' } H w Φ:=
 ⟨rfl,rfl,rfl,o0 _,hs,λb g hb=>.inl ⟨(hH.lt b g hb).1,hb⟩,λ_ h=>.inl h,rfl,o0 _,λ_ _ _=>⟨rfl,rfl,λ_ _=>rfl⟩⟩
def Xi.put{l:Nat}{ob:Obj}(h:Off Γ Φ w l):Xi Γ Φ w (w.putObj l ob):=by
 refine⟨λg hg=>o6 ?_,by simp,rfl,rfl,rfl⟩;rintro rfl;rcases hg with q|⟨b,q⟩|q
 ·exact h.2.1 q
 ·exact h.2.2.1 b q
 ·exact h.2.2.2 q
def Off.put{g l:Nat}{ob:Obj}(h:Off Γ Φ w g):Off Γ Φ (w.putObj l ob) g:=⟨by simpa using h.1,h.2⟩
def Mk.put{n0 l:Nat}{ob:Obj}{rr:Loop}{ds:List Deferred}(h:Mk n0 Γ Φ w ds)(hl:w.heap[l]? = some (.loop rr)):Mk n0 Γ Φ (w.putObj l ob) ds:=by obtain⟨h0,Ds,h1,h2,h3⟩:=h;refine⟨by simpa using h0,Ds,h1,h2,λD hD=>?_⟩;obtain⟨k1,k2,k3⟩:=h3 D hD;refine⟨k1,k2.put,(o6 ?_).trans k3⟩;rintro rfl;rw[k3] at hl;cases hl
def Ro(b:Option Nat)(Γ:Ctx)(Φ:Nat->Prop)(w:World):Prop:=∀l,b=some l->Off Γ Φ w l/\∃c:Loop,w.heap[l]? = some (.loop c)
def Ro.none:Ro none Γ Φ w:=λ_ h=>by cases h
def Ro.step{ro:Option Nat}(h:Ro ro Γ Φ w)(s:Stp C Γ H w Φ Γ' H' w' Φ'):Ro ro Γ' Φ' w':=λl e=>by
 obtain⟨k1,rr,k2⟩:=h l e;obtain⟨q1,q2⟩:=k1.step s;exact⟨q1,rr,q2.trans k2⟩
def Dh2(C:Cfg)(I:σ->(Nat->Prop)->(Nat->Prop)->World->Prop)(n0:Nat)(Γ:Ctx)(Φ:Nat->Prop)(H:List Blk)(w:World)(k:Out->St σ->Option R)(r:R)(Q:Exit->Act->World->Prop):Prop:=
 ∀o b c w' Γ' Φ',k o b=some r->Stp C Γ H w Φ Γ' b.hp w' Φ'->SI C I Γ' Φ' b c.tmps w'->Mk n0 Γ' Φ' w' c.defers->Q o.exit' c w'
def WP(C:Cfg)(I:σ->(Nat->Prop)->(Nat->Prop)->World->Prop)(Y:G1)(L:Yh σ)(yv:Value)(c:Code):Prop:=
 ∀{R:Type} {r:R} {b:Option Nat} {n n0:Nat} {Γ:Ctx} {Φ:Nat->Prop} {st:St σ} {a:Act} {w:World} {k:Out->St σ->Option R} {Q:Exit->Act->World->Prop},
  Γ.yv=yv->C3 C Y L c st k=some r->SI C I Γ Φ st a.tmps w->Mk n0 Γ Φ w a.defers->Ro b Γ Φ w->Dh2 C I n0 Γ Φ st.hp w k r Q->c.wpIn (J3 b) n C.P Q a w
def Kx(fn:FuncId)(tmps:Array Value)(d:Array Tmp)(c b:Code)(D:Nat)(s:LoopState)(p:Option Code):Loop:={ state:=s,pending:=p,fn:=fn,tmps:=tmps,params:=d,assign:=c,body:=b,defers:=D }
def jmp:Out->Code
 | .normal=>.skip
 | .exit id=>.exit id
 | .ret=>.ret
def Dv3:Option Out->LoopState
 | none=>.ready
 | some _=>.done
structure RIb (C:Cfg) (I:σ->(Nat->Prop)->(Nat->Prop)->World->Prop) (Γ0:Ctx) (H0:List Blk) (w0:World) (Φ0:Nat->Prop) (sl0:List PV) (tmps:Array Value) (l:Nat) (D:Option Nat) (rc:LoopState->Option Code->Loop) (x:List Blk × Option Out × σ) (St Φ:Nat->Prop) (w:World) (Γb:Ctx) (Φb:Nat->Prop):Prop where
 si:SI C I Γb Φb { sl:=sl0,hp:=x.1,s:=x.2.2 } tmps w
 pg:Pg C Γ0 H0 w0 Φ0 Γb x.1 w Φb
 st:∀g,Γb.St g->St g
 ph:∀g,Φ g↔Φb g\/(∃b,Γb.nm b=some g)\/g=l\/D=some g
 ft:∀g,Φ g->g<w.heap.size/\¬St g
 ol:Off Γb Φb w l
 od:∀d,D=some d->Off Γb Φb w d
 hl:w.heap[l]? = some (.loop (rc (Dv3 x.2.1) (x.2.1.map jmp)))
 hd:∀d,D=some d->w.heap[d]? = some (.deferred (some []))
def RI(C:Cfg)(I:σ->(Nat->Prop)->(Nat->Prop)->World->Prop)(c:Ctx)(g:List Blk)(i:World)(e:Nat->Prop)(b:List PV)(tmps:Array Value)(l:Nat)(D:Option Nat)(h:LoopState->Option Code->Loop):(List Blk × Option Out × σ)->(Nat->Prop)->(Nat->Prop)->World->Prop:=
 λx St Φ w=>∃d f,RIb C I c g i e b tmps l D h x St Φ w d f
def Ed4{m:Ctx}{p:List Blk}{G:World}{n:Nat->Prop}{k:List PV}{l:Nat}{D:Option Nat}{F:LoopState->Option Code->Loop}(t:HI I):HI (RI C I m p G n k tmps l D F):=by
 refine⟨λx St Φ w ⟨c,e,r⟩=>r.ft,λx St Φ w St' w' ⟨c,e,r⟩ z u v i j y A B=>?_⟩;have inΦ:∀{g},e g\/(∃b,c.nm b=some g)\/g=l\/D=some g->Φ g:=fun {g} h=>(r.ph g).2 h
 have O:Xi c e w w':=⟨λg f=>by
  rcases f with q|q|q
  ·exact i g (.inl (r.st g q))
  ·exact i g (.inr (inΦ (.inr (.inl q))))
  ·exact i g (.inr (inΦ (.inl q))),j,y,A,B⟩
 have up:∀{g},Off c e w g->Off c e w' g:=λh=>⟨k9 h.1 j,h.2⟩
 exact⟨c,e,r.si.offW t O,r.pg.trans (Pg.off r.si.hr O),λg f=>z g (r.st g f),r.ph,λg f=>⟨k9 (r.ft g f).1 j,λq=>u g q f⟩,up r.ol,λd h=>up (r.od d h),
  (i l (.inr (inΦ (.inr (.inr (.inl rfl)))))).trans r.hl,λd h=>(i d (.inr (inΦ (.inr (.inr (.inr h)))))).trans (r.hd d h)⟩
end
section
variable {Y R : Type} {r : R} {C : Cfg} {I : Y -> (Nat -> Prop) -> (Nat -> Prop) -> World -> Prop} {L Γ' : Ctx} {U W : Nat -> Prop} {J : St Y} {a : Act} {w w' : World} {Z : G1} {Q : Yh Y} {O : Value} {H H' : List Blk} {K : Array Value}
def QT(x:Blk):(Jo x).nms=[]:=by
 cases x with
 | box cells=>
  simp only[Jo,Blk.nms];rw[s9];intro c b;obtain⟨j,e,b⟩:=C7.1 b;simp[PV.nms] at b
 | mp d=>
  simp only[Jo,Blk.nms];rw[s9];intro c b;obtain⟨j,e,b⟩:=C7.1 b;simp[PV.nms,PE] at b
 | _=>rfl
def QU(x:Blk):(Jo x).shp=x.shp:=by cases x<;>rfl
def Cv0{sh sh':Nat->Option Shp}{b B:Nat}{x:Blk}(h:BR L sh w b x)(f:Γ'.nm B=L.nm b)(t:∀g,L.St g->w'.heap[g]? = w.heap[g]?)(n:∀g,L.St g->Γ'.St g)(c:∀g,L.nm b=some g->w'.heap[g]? = w.heap[g]?):BR Γ' sh' w' B (Jo x):=by
 cases x with
 | arr v e X F=>
  rcases h with h|⟨N,g,o,d,l,m,A,M⟩
  ·exact .inl h
  ·refine .inr ⟨N,g,o,by rw[f];exact d,by rw[c g d];exact l,m,A,λi h j G=>?_⟩;obtain⟨V,y,D⟩:=M i h j G;exact⟨V,y,D.mono t n⟩
 | box cells=>
  obtain⟨g,o,e,d,l,m,A⟩:=h;refine⟨g,o,e,by rw[f];exact d,by rw[c g d];exact l,by simpa using m,λj h=>?_⟩;obtain⟨V,y,_⟩:=A j (by simpa using h);exact⟨V,y,by rw[j8];exact .bad V⟩
 | iter s p=>
  obtain⟨g,S,d,l,m⟩:=h;exact⟨g,S,by rw[f];exact d,by rw[c g d];exact l,m⟩
 | mp q=>
  obtain⟨g,z,u,d,l,m⟩:=h;exact⟨g,z,u,by rw[f];exact d,by rw[c g d];exact l,m.map λv _ V _=>.bad V⟩
 | ms a q=>
  obtain⟨g,z,u,d,l,m⟩:=h;refine⟨g,z,u,by rw[f];exact d,by rw[c g d];exact l,m.imp λv P V k=>?_⟩;obtain⟨e,T,rfl⟩:=GZ P;exact C94 t n k
 | dead=>trivial
end
section
variable {J R : Type} {r : R} {C : Cfg} {I : J -> (Nat -> Prop) -> (Nat -> Prop) -> World -> Prop} {Y : Ctx} {W : Nat -> Prop} {Q : St J} {a : Act} {w : World} {O : G1} {Z : Yh J} {K : Value} {o : Oper} {H : List Blk}
def Ao3(d:HR Y H w){L:Nat}(e:L<=H.length):Bg Y (A3 H) w (Y.cut L) (A3 (H.take L)) w (· < L):=
 ⟨λ_ _=>rfl,λ_ h=>.inl h,λb c=>by simp only[Ctx.cut];rw[ac c],λb c=>by simp only[A3,ab9];rw[ac c],λ_ _ _ _=>rfl,rfl⟩
def Cy4(d:HR Y H w){L:Nat}(v:L<=H.length)(j:Ce4 L (H.take L)=true):HR (Y.cut L) (H.take L) w:=by
 have f:=ST j;have t:(H.take L).length=L:=by rw[ae8];omega
 have key:∀b g,(Y.cut L).nm b=some g->b<L/\Y.nm b=some g:=λb g h=>by
  simp only[Ctx.cut] at h;grind
 refine⟨λb k g n l=>d.inj b k g (key b g n).2 (key k g l).2,λb g h=>?_,λg i=>?_,λb p c q=>?_,λb p=>?_⟩
 ·obtain⟨n,l⟩:=key b g h;have:=d.lt b g l;refine⟨by omega,this.2.1,?_⟩;rintro(u|⟨k,u,h4⟩)
  ·grind
  ·have:=d.inj b k g l h4;omega
 ·rcases i with i|⟨b,_,i⟩
  ·exact d.stlt g i
  ·exact(d.lt b g i).2.1
 ·grind
 ·have m:b<L:=by omega
  have e:(H.take L)[b]=H[b]'(by omega):=List.getElem_take;rw[e];have M:=Ao3 d v;exact(d.blk b (by omega)).mono M (M.nm b m) (λ_ _=>rfl) (λc q=>f _ (j5 p) c (by rw[e];exact q))
def B60(M:HR Y H w){L b:Nat}(S:¬b<L){v:PV}{V:Value}(y:v = .fl b\/∃i n,v = .vw b i n)(h:VP Y (A3 H) w v V):VP (Y.cut L) (A3 (H.take L)) w (v.snap H) V/\(v.snap H).nms=[]:=by
 rcases y with rfl|⟨i,n,rfl⟩
 ·cases h with
  | flv _ e p h=>
   obtain⟨x,j,t⟩:∃x,H[b]? = some x/\x.shp = .arr true e p 0:=by simpa[A3] using h
   cases x<;>simp[Blk.shp] at t
   rename_i k z q c;obtain⟨rfl,rfl,rfl,A⟩:=t;subst A;simp only[PV.snap,j];exact⟨.s _ _ (.nil _ _),rfl⟩
  | fl _ g v e p n cap h y u d B t=>
   obtain⟨x,j,f⟩:∃x,H[b]? = some x/\x.shp = .arr v e p n:=by simpa[A3] using h
   cases x<;>simp[Blk.shp] at f
   rename_i k z q c;obtain⟨rfl,rfl,rfl,rfl⟩:=f;have l:¬(k=true/\c=[]):=by rintro⟨F,G⟩;exact y F (by rw[G];rfl)
   have D:(k&&c.isEmpty)=false:=by cases k<;>simp_all
   simp only[PV.snap,j,D];have:=Ad3 (i:=0) (n:=c.length) (a:=⟨g,0,none⟩) (cap:=cap) M j l u (by omega) (λ_=>by simp) d B (St':=(Y.cut L).St) (λ_ h=>ac0 h) (.inr ⟨b,by omega,u⟩);simp only[ad9,ah1] at this;exact⟨.s _ _ this,rfl⟩
 ·cases h with
  | vwv _ e p _ h=>
   obtain⟨x,j,t⟩:∃x,H[b]? = some x/\x.shp = .arr true e p 0:=by simpa[A3] using h
   cases x<;>simp[Blk.shp] at t
   rename_i k z q c;obtain⟨rfl,rfl,rfl,A⟩:=t;subst A;simp only[PV.snap,j,ai7,ai9];exact⟨.s _ _ (.nil _ _),rfl⟩
  | vw _ _ _ g a cap v e p m h y u N P d B=>
   obtain⟨x,j,f⟩:∃x,H[b]? = some x/\x.shp = .arr v e p m:=by simpa[A3] using h
   cases x<;>simp[Blk.shp] at f
   rename_i k z q c;obtain⟨rfl,rfl,rfl,rfl⟩:=f;have l:¬(k=true/\c=[]):=by rintro⟨F,G⟩;exact y F (by rw[G];rfl)
   have D:(k&&c.isEmpty)=false:=by cases k<;>simp_all
   simp only[PV.snap,j,D];exact⟨.s _ _ (Ad3 M j l u P N d B (λ_ h=>ac0 h) (.inr ⟨b,by omega,u⟩)),rfl⟩
def ZO(f:HR Y H w){L:Nat}(g:L<=H.length){v:PV}{V:Value}(h:VP Y (A3 H) w v V):VP (Y.cut L) (A3 (H.take L)) w (v.low H L) V/\∀c∈(v.low H L).nms,c<L:=by
 have M:=Ao3 f g;have d:(∀c∈v.nms,c<L)->VP (Y.cut L) (A3 (H.take L)) w v V:=λj=>h.mono M j
 unfold PV.low;split
 ·rename_i b;split
  ·rename_i e;exact⟨d (by simpa[PV.nms] using e),by simpa[PV.nms] using e⟩
  ·rename_i e;obtain⟨k,l⟩:=B60 f e (.inl rfl) h;grind
 ·rename_i b i n;split
  ·rename_i e;exact⟨d (by simpa[PV.nms] using e),by simpa[PV.nms] using e⟩
  ·rename_i e;obtain⟨k,l⟩:=B60 f e (.inr ⟨i,n,rfl⟩) h;grind
 ·exact⟨d (by simp[PV.nms]),by simp[PV.nms]⟩
 ·exact⟨d (by simp[PV.nms]),by simp[PV.nms]⟩
 ·exact⟨d (by simp[PV.nms]),by simp[PV.nms]⟩
 ·split
  ·rename_i e;exact⟨d (by simpa[PV.nms] using e),by simpa[PV.nms] using e⟩
  ·exact⟨.bad _,by simp[PV.nms]⟩
 ·split
  ·rename_i e;exact⟨d (by simpa[PV.nms] using e),by simpa[PV.nms] using e⟩
  ·exact⟨.bad _,by simp[PV.nms]⟩
 ·split
  ·grind
  ·exact⟨.bad _,by simp[PV.nms]⟩
def Sub(Y Γ':Ctx):Prop:=(∀g,Γ'.St g->Y.St g\/∃b,Y.nm b=some g)/\∀b g,Γ'.nm b=some g->Y.nm b=some g
def Mk.sub{n0:Nat}{Γ':Ctx}{ds:List Deferred}(h:Mk n0 Y W w ds)(s:Sub Y Γ'):Mk n0 Γ' W w ds:=by
 obtain⟨h0,Ds,h1,h2,h3⟩:=h;refine⟨h0,Ds,h1,h2,λD hD=>?_⟩;obtain⟨k1,k2,k3⟩:=h3 D hD;refine⟨k1,⟨k2.1,λq=>?_,λb q=>k2.2.2.1 b (s.2 b D q),k2.2.2.2⟩,k3⟩;rcases s.1 D q with q|⟨b,q⟩
 ·exact k2.2.1 q
 ·exact k2.2.2.1 b q
def AD{v:List Blk}{p:Ctx}{F:World}{t:Nat->Prop}{L:Nat}(G:HI I)(S:SI C I Y W Q a.tmps w)(h:Stp C p v F t Y Q.hp w W)(y:v.length<=L)(x:L<=Q.hp.length):∃ Γ',SI C I Γ' W (Z4 L Q) a.tmps w/\Stp C p v F t Γ' (Z4 L Q).hp w W/\Sub Y Γ':=by
 unfold Z4;split
 ·rename_i n;have m:(Q.hp.take L).length=L:=by rw[ae8];omega
  have N:=Cy4 S.hr x n;have l:∀b g,(Y.cut L).nm b=some g->Y.nm b=some g:=λb g h=>by
   simp only[Ctx.cut] at h;all_goals grind
  have f:∀g,(Y.cut L).St g->Y.St g\/(F.heap.size<=g/\¬W g):=λg d=>by
   rcases d with d|⟨b,M,d⟩
   ·grind
   ·refine .inr ⟨?_,S.dis b g d⟩;rcases h.own b g d with⟨q,_⟩|q
    all_goals omega
  have A:=G.foot _ _ _ _ S.inv;refine⟨Y.cut L,⟨N,⟨by simpa using S.sr.size,λc u=>?_,λi T=>?_⟩,S.g.mono (λ_ _=>rfl) (λ_ h=>ac0 h),?_,λb g d=>S.dis b g (l b g d)⟩,
   ⟨h.os,h.tape,h.output,h.size,λg d=>ac0 (h.sub g d),λg d=>?_,λb g d=>h.own b g (l b g d),h.foot,h.frame,h.yv,by rw[m];exact y,λb M P=>?_⟩,λg d=>d.elim .inl (λ⟨b,_,q⟩=>.inr ⟨b,q⟩),l⟩
  ·obtain⟨j,V,u⟩:=C7.1 u;have D:j<Q.sl.length:=by simpa using V
   obtain⟨U,e,k⟩:=S.sr.slot j D;rw[j8] at u;have:=(ZO S.hr x k).2 c u;grind
  ·have B:i<Q.sl.length:=by simpa using T
   obtain⟨U,e,k⟩:=S.sr.slot i B;exact⟨U,e,by rw[j8];exact(ZO S.hr x k).1⟩
  ·refine G.mono _ _ _ _ _ _ S.inv (λ_ h=>ac0 h) (λg d hp=>?_) (λg d=>N.stlt g d) (λ_ _=>rfl) (o0 _) rfl rfl rfl;all_goals grind
  ·rcases f g d with q|q
   ·exact h.stnew g q
   omega
  ·obtain⟨X,k2,k3⟩:=h.keep b M P;have z:b<L:=by omega
   refine⟨by simp only[Ctx.cut];rw[ac z];exact X,?_,k3⟩;rw[<-k2];simp only[A3,ab9];grind
 ·exact⟨Y,S,h,λ_ h=>.inl h,λ_ _ h=>h⟩
def A27{d:List Blk}{b:Ctx}{e:World}{c:Nat->Prop}(f:HI I)(S:SI C I Y W Q a.tmps w)(h:Stp C b d e c Y Q.hp w W):∃ Γ',SI C I Γ' W (Z4 d.length Q) a.tmps w/\Stp C b d e c Γ' (Z4 d.length Q).hp w W/\Sub Y Γ':=
 AD f S h (o0 _) h.len
def Ys:∀(g:List Nat) (l:List PV),(Gv g l).length=l.length/\∀i (h:i<(Gv g l).length) (b:i<l.length),(Gv g l)[i]=l[i]\/(Gv g l)[i] = .bad
 | g,[]=>by
  have e:Gv g []=[]:=by unfold Gv;rfl
  grind
 | [],v::l=>by
  obtain⟨c,d⟩:=Ys [] l;refine⟨by simp[Gv,c],λi h b=>?_⟩;cases i with
  | zero=>exact .inr rfl
  | succ i=>
   have:=d i (by simpa[Gv] using h) (by simpa using b);simpa[Gv] using this
 | 0::g,v::l=>by
  obtain⟨c,d⟩:=Ys g l;refine⟨by simp[Gv,c],λi h b=>?_⟩;cases i with
  | zero=>exact .inl rfl
  | succ i=>
   have:=d i (by simpa[Gv] using h) (by simpa using b);simpa[Gv] using this
 | (n+1)::g,v::l=>by
  obtain⟨c,d⟩:=Ys (n::g) l;refine⟨by simp[Gv,c],λi h b=>?_⟩;cases i with
  | zero=>exact .inr rfl
  | succ i=>
   have:=d i (by simpa[Gv] using h) (by simpa using b);simpa[Gv] using this
def B40{sl:List PV}{b:Array Value}(g:List Nat)(h:SR Y H w sl b):SR Y H w (Gv g sl) b:=by
 obtain⟨l,m⟩:=Ys g sl;refine⟨by rw[l];exact h.size,λc d=>?_,λi n=>?_⟩
 ·obtain⟨j,p,d⟩:=C7.1 d;have k:j<sl.length:=by rw[<-l];exact p
  rcases m j p k with e|e
  ·rw[e] at d;exact h.nms c (C7.2 ⟨j,k,d⟩)
  ·rw[e] at d;simp[PV.nms] at d
 ·have f:i<sl.length:=by rw[<-l];exact n
  obtain⟨V,q,t⟩:=h.slot i f;refine⟨V,q,?_⟩;rcases m i n f with e|e
  ·grind
  ·rw[e];exact .bad V
def Hr(ds:Option (List Nat))(Q:St J):(Nx ds Q).hp=Q.hp:=by cases ds<;>rfl
def Hq(S:SI C I Y W Q a.tmps w)(ds:Option (List Nat)):SI C I Y W (Nx ds Q) a.tmps w:=by
 cases ds with
 | none=>exact S
 | some g=>exact⟨S.hr,B40 g S.sr,S.g,S.inv,S.dis⟩
def HQ:∀(l:List Nat) (m:Nat),m<=Bq9 l m
 | [],m=>o0 _
 | b::r,m=>by
  simp only[Bq9];cases h:p5 m b with
  | true=>exact s8 (Nat.le_succ_of_le (aa7 h)) (HQ r (b+1))
  | false=>exact HQ r m
def B68:∀(l:List Blk) (m:Nat),m<=Cn6 l m
 | [],m=>o0 _
 | b::r,m=>s8 (HQ _ _) (B68 r _)
def Uw{d:List Blk}{b:Ctx}{f:World}{c:Nat->Prop}(i:HI I)(S:SI C I Y W Q a.tmps w)(h:Stp C b d f c Y Q.hp w W)(ds:Option (List Nat)){L:Nat}(j:d.length<=L):∃ Γ',SI C I Γ' W (Yj ds L Q) a.tmps w/\Stp C b d f c Γ' (Yj ds L Q).hp w W:=by
 cases ds with
 | none=>exact⟨Y,S,h⟩
 | some g=>
  have e:SI C I Y W ({ sl:=Gv g Q.sl,hp:=Q.hp,s:=Q.s }:St J) a.tmps w:=⟨S.hr,B40 g S.sr,S.g,S.inv,S.dis⟩
  simp only[Yj,Ef9,C97];cases k:p5 (Cn6 Q.hp (Bq9 (D0 (Gv g Q.sl)) L)+1) Q.hp.length with
  | false=>exact⟨Y,e,h⟩
  | true=>
   have:=aa7 k;obtain⟨Γ',l,m,_⟩:=AD (L:=Cn6 Q.hp (Bq9 (D0 (Gv g Q.sl)) L)) i e h (s8 j (s8 (HQ _ _) (B68 _ _))) (by show Cn6 Q.hp _<=Q.hp.length;omega);grind
def Da1{d:Array Value}(y:HI I)(S:SI C I Y W Q d w){L:Nat}(t:L<=Q.hp.length):∃ Γ',SI C I Γ' W (Z4 L Q) d w/\(∀g,Y.St g->Γ'.St g)/\(∀g,Γ'.St g->Y.St g\/∃b,L<=b/\Y.nm b=some g)/\
  (∀b g,Γ'.nm b=some g->Y.nm b=some g)/\Γ'.yv=Y.yv/\(∀b,b<L->Γ'.nm b=Y.nm b/\A3 (Z4 L Q).hp b=A3 Q.hp b)/\L<=(Z4 L Q).hp.length:=by
 unfold Z4;split
 ·rename_i n;have m:(Q.hp.take L).length=L:=by rw[ae8];omega
  have B:=Cy4 S.hr t n;have p:∀b g,(Y.cut L).nm b=some g->Y.nm b=some g:=λb g h=>by
   simp only[Ctx.cut] at h;grind
  have f:=y.foot _ _ _ _ S.inv;refine⟨Y.cut L,⟨B,⟨by simpa using S.sr.size,λc u=>?_,λi D=>?_⟩,S.g.mono (λ_ _=>rfl) (λ_ h=>ac0 h),?_,λb g l=>S.dis b g (p b g l)⟩,
   λ_ h=>ac0 h,λ_ h=>h,p,rfl,λb z=>⟨by simp only[Ctx.cut];rw[ac z],?_⟩,by rw[m];exact o0 _⟩
  ·obtain⟨j,F,u⟩:=C7.1 u;have x:j<Q.sl.length:=by simpa using F
   obtain⟨U,e,k⟩:=S.sr.slot j x;rw[j8] at u;have:=(ZO S.hr t k).2 c u;show c<(Q.hp.take L).length;omega
  ·have v:i<Q.sl.length:=by simpa using D
   obtain⟨U,e,k⟩:=S.sr.slot i v;exact⟨U,e,by rw[j8];exact(ZO S.hr t k).1⟩
  ·refine y.mono _ _ _ _ _ _ S.inv (λ_ h=>ac0 h) (λg l A=>?_) (λg l=>B.stlt g l) (λ_ _=>rfl) (o0 _) rfl rfl rfl;rcases l with q|⟨b,_,q⟩
   ·exact(f g A).2 q
   ·exact S.dis b g q A
  ·simp only[A3,ab9];rw[ac z]
 ·exact⟨Y,S,λ_ h=>h,λ_ h=>.inl h,λ_ _ h=>h,rfl,λ_ _=>⟨rfl,rfl⟩,t⟩
end
section
variable {Z R : Type} {r : R} {C : Cfg} {I : Z -> (Nat -> Prop) -> (Nat -> Prop) -> World -> Prop} {Γ Γ' : Ctx} {K O : Nat -> Prop} {Y : St Z} {a : Act} {w w' : World} {W : G1} {L : Yh Z} {J : Value} {H H' : List Blk} {tmps : Array Value}
def C93{sh sh':Nat->Option Shp}{v:PV}{V:Value}(h:v.sv?.isSome=true)(b:VP Γ sh w v V)(c:∀g,Γ.St g->Γ'.St g):VP Γ' sh' w v V/\v.nms=[]:=by
 cases v<;>simp[PV.sv?] at h
 ·exact⟨.s _ _ (b.inv_s.mono (λ_ _=>rfl) c),rfl⟩
 ·rw[b.inv_nsl];exact⟨.nsl,rfl⟩
def Af8:∀{l:List PV} {c:List SV},Lc l=some c->∀v∈l,v.sv?.isSome=true
 | [],_,_,v,b=>by simp at b
 | x::l,c,h,v,b=>by
  simp only[Lc] at h;split at h
  ·rename_i p q d e;rcases y5.1 b with rfl|b
   ·rw[d];rfl
   ·exact Af8 e v b
  ·cases h
def UA{sh sh':Nat->Option Shp}(n:∀g,Γ.St g->Γ'.St g):∀{args:List PV},Lb args=true->∀v∈args,v.nms=[]/\∀V,VP Γ sh w v V->VP Γ' sh' w v V
 | [],_,v,f=>by simp at f
 | x::r,h,v,f=>by
  have key:(x.nms=[]/\∀V,VP Γ sh w x V->VP Γ' sh' w x V)/\Lb r=true:=by
   unfold Lb at h;split at h
   ·rename_i d;cases d
   ·rename_i d;cases d;exact⟨⟨rfl,λV hV=>(C93 (Γ:=Γ) (Γ':=Γ') rfl hV n).1⟩,h⟩
   ·rename_i l p d;cases d;simp only[j4,v8] at h;obtain⟨⟨q,i⟩,h⟩:=h;refine⟨⟨?_,λV hV=>?_⟩,h⟩
    ·simp only[PV.nms];rw[s9];intro c b;obtain⟨j,m,b⟩:=C7.1 b;have o:=Af8 i _ (j5 m);generalize l[j]=u at o b;cases u<;>simp[PV.sv?] at o<;>simp[PV.nms] at b
    ·obtain⟨A,rfl,hA,b⟩:=hV.inv_agg;refine VP.mk_agg hA λj m=>?_
     obtain⟨U,e,k⟩:=b j m;exact⟨U,e,(C93 (Af8 i _ (j5 m)) k n).1⟩
   ·cases h
  rcases y5.1 f with rfl|f
  ·exact key.1
  ·exact UA n key.2 v f
def Zr:∀(c:List Nat) (b:List PV) (d:List Value) {sl:List PV} {tmps:Array Value},SR Γ H w sl tmps->b.length=d.length->(∀j (h:j<b.length),∃U,d[j]? = some U/\VP Γ (A3 H) w (b[j]) U)->(∀v∈b,v.nms=[])->
  SR Γ H w (Mw sl c b) ((c.zip d).foldl (λt (p:Nat × Value)=>t.setIfInBounds p.1 p.2) tmps)
 | [],b,d,sl,tmps,h,_,_,_=>by cases b<;>exact h
 | t::c,[],[],sl,tmps,h,_,_,_=>h
 | t::c,[],_::_,_,_,_,f,_,_=>by simp at f
 | t::c,_::_,[],_,_,_,f,_,_=>by simp at f
 | t::c,v::b,V::d,sl,tmps,h,f,g,i=>by
  have l:VP Γ (A3 H) w v V:=by
   obtain⟨U,e,k⟩:=g 0 (by simp);simp only[ae5,j0] at e;subst e;exact k
  have m:=h.put (ds:=[]) ({ op:=.move (.const undef),dst:=some t,guard:=none,type:=0,after:=#[],pos:=default }:Oper) l (by rw[i v (by simp)];simp);have n:SR Γ H w (sl.set t v) (tmps.setIfInBounds t V):=m;exact Zr c b d n (by simpa using f) (λj o=>by
   obtain⟨U,e,k⟩:=g (j+1) (by simpa using o);exact⟨U,by simpa using e,by simpa using k⟩) (λv q=>i v (by simp[q]))
def C12(o:Out):((Ex o).map jmp).isNone=(Ex o).isNone:=by cases o<;>rfl
def Ed5{Γ0:Ctx}{H0:List Blk}{w0:World}{Φ0:Nat->Prop}{T:List PV}{l Dv fn:Nat}{D:Option Nat}{ps:Array Tmp}{aq body:Code}(hI:HI I)(d0:Γ0.yv=J)(e1:WP C I W L J aq)(e4:WP C I W L J body)
  (a9:∀c∈D0 T,c<H0.length/\Kq C (A3 H0 c)) :
  A75 C.P (RI C I Γ0 H0 w0 Φ0 T tmps l D (Kx fn tmps ps aq body Dv)) (Ky ps T (λY k=>C3 C W L aq Y k) (λY k=>C3 C W L body Y k)) (.func (.yield l) #[] #[]):=by
 intro args x b x' a3 f3 Γ K w Vs ⟨Γb,V,r⟩ f0 hc;obtain⟨H,d4,s1⟩:=x;unfold Ky at a3;cases d4 with
 | some o=>simp at a3
 | none=>
 dsimp only at a3;split at a3
 case isFalse=>cases a3
 rename_i f2;have c5:(do let d <-o9 (.func (.yield l) #[] #[]) Vs;invoke d.target d.args:Sem Next).run C.P w=(Instr.yield l Vs).run C.P w:=by simp[o9,invoke]
 have f4:Vs.size=(Kx fn tmps ps aq body Dv .ready none).params.size:=by rw[hc.1,f2];rfl
 have c1:=r.hd;have a8:w.heap[l]? = some (.loop (Kx fn tmps ps aq body Dv .ready none)):=r.hl;intro ro n o a next Q b3
 rw[c5,run_yield a8 f4,Oper.uponIn_round];refine⟨λh=>(by simp[J3,aa8] at h),roundIn_of_wpIn trivial ?_⟩;have inΦ:∀{g},V g\/(∃b,Γb.nm b=some g)\/g=l\/D=some g->K g:=fun {g} h=>(r.ph g).2 h
 have B:∀{g},K g->¬ Γ.St g:=fun {g} h=>(r.ft g h).2
 let ΓB:Ctx:={ Γb with St:=Γ.St }
 have SB:SI C I ΓB V { sl:=T,hp:=H,s:=s1 } tmps w:=r.si.wideSt hI r.st (λg f hp=>B (inΦ (.inl hp)) f) (λb g f hs=>B (inΦ (.inr (.inl ⟨b,f⟩))) hs) f0;have a4:=UA (Γ:=Γ) (Γ':=ΓB) (sh:=λ_=>none) (sh':=A3 H) (w:=w) (λ_ h=>h) f3;have d9:=Zr ps.toList args Vs.toList SB.sr (by rw[ad5];exact hc.1.symm) (λj hj=>by
  obtain⟨U,e,k⟩:=hc.2 j hj;exact⟨U,by simpa using e,(a4 _ (j5 hj)).2 U k⟩) (λv hv=>(a4 v hv).1)
 have b2:(ps.zip Vs).foldl (λtmps (t,a)=>tmps.setIfInBounds t a) tmps=(ps.toList.zip Vs.toList).foldl (λt (p:Nat × Value)=>t.setIfInBounds p.1 p.2) tmps:=by
  rw[<-Array.foldl_toList,Array.toList_zip]
 have SA:SI C I ΓB V { sl:=Mw T ps.toList args,hp:=H,s:=s1 } ((ps.zip Vs).foldl (λtmps (t,a)=>tmps.setIfInBounds t a) tmps) w:=⟨SB.hr,by rw[b2];exact d9,SB.g,SB.inv,SB.dis⟩
 have b0:ΓB.yv=J:=r.pg.yv.trans d0;have d3:Off ΓB V w l:=⟨r.ol.1,B (inΦ (.inr (.inr (.inl rfl)))),r.ol.2.2⟩
 have f5:∀d,D=some d->Off ΓB V w d:=λd h=>⟨(r.od d h).1,B (inΦ (.inr (.inr (.inr h)))),(r.od d h).2.2⟩
 have e7:=hI.foot _ _ _ _ SA.inv;refine e1 (n0:=0) (a:={ tmps:=(ps.zip Vs).foldl (λtmps (t,a)=>tmps.setIfInBounds t a) tmps,defers:=[] }) b0 a3 SA (Mk.nil (Nat.zero_le _)) (λl' e=>by cases e;exact⟨d3,_,a8⟩) ?_;intro o1 f6 a1 w1 Γ1 Φ1 h1 i S1 f1;cases o1 with
 | exit id=>cases h1
 | ret=>cases h1
 | normal=>
 dsimp only at h1;obtain⟨a6,d6⟩:=d3.step i;have d1:∀d,D=some d->Off Γ1 Φ1 w1 d/\w1.heap[d]? = w.heap[d]?:=λd h=>(f5 d h).step i
 have c3:w1.heap[l]? = some (.loop (Kx fn tmps ps aq body Dv .ready none)):=d6.trans a8;show ∃w₂,(Instr.beginRound l).run C.P w1 = .ok () w₂/\body.wpIn (J3 (some l)) (n-1) C.P (roundPost C.P l _) a1 w₂;refine⟨_,run_beginRound c3 rfl,?_⟩;have O1:Xi Γ1 Φ1 w1 (w1.putObj l (.loop { Kx fn tmps ps aq body Dv .ready none with state:=.busy })):=Xi.put a6;have S2:=S1.offW hI O1;refine e4 (i.yv.trans b0) h1 S2 (f1.put c3) (λl' e=>by cases e;exact⟨a6.put,_,ac8 a6.1⟩) ?_;intro o2 u a2 w3 G m h2 A S3 _;simp only[j0,p6] at h2;obtain⟨rfl,rfl⟩:=h2;obtain⟨b5,d7⟩:=(Off.put (ob:=.loop { Kx fn tmps ps aq body Dv .ready none with state:=.busy }) (l:=l) a6).step A;have d2:∀d,D=some d->Off G m w3 d/\w3.heap[d]? = (w1.putObj l (.loop { Kx fn tmps ps aq body Dv .ready none with state:=.busy })).heap[d]?:=λd h=>(Off.put (ob:=.loop { Kx fn tmps ps aq body Dv .ready none with state:=.busy }) (l:=l) (d1 d h).1).step A
 have e8:w3.heap[l]? = some (.loop { Kx fn tmps ps aq body Dv .ready none with state:=.busy }):=d7.trans (ac8 a6.1);have X:=run_endRound (P:=C.P) ((Ex o2).map jmp) e8;have b7:∀d,D=some d->d≠l:=λd h e=>by
  have:=c1 d h;rw[e,a8] at this;cases this
 obtain⟨F,S⟩:∃F,w3.putObj l (.loop { { Kx fn tmps ps aq body Dv .ready none with state:=.busy } with state:=if ((Ex o2).map jmp).isNone then .ready else .done,pending:=(Ex o2).map jmp })=F:=⟨_,rfl⟩
 rw[S] at X;have O3:Xi G m w3 F:=by rw[<-S];exact Xi.put b5
 have b6:Off G m F l:=by rw[<-S];exact b5.put
 have b4:∀d,D=some d->Off G m F d:=λd h=>by rw[<-S];exact(d2 d h).1.put
 have S4:=S3.offW hI O3;have c4:H.length<=u.hp.length:=s8 i.len A.len;obtain⟨z,S5,t1,t2,t3,t4,t5,t6⟩:=Da1 hI S4 c4;have d8:(Z4 H.length u).s=u.s:=by unfold Z4;split<;>rfl
 have y:Pg C ΓB H w V G u.hp F m:=i.pg.trans ((Pg.off S1.hr O1).trans (A.pg.trans (Pg.off S3.hr O3)));have P1:Pg C Γ0 H0 w0 Φ0 G u.hp F m:=r.pg.trans ((Pg.wideSt r.si.hr r.st).trans y);have c6:=i.st SA.hr (λg f=>(e7 g f).2);have c7:=A.st S2.hr (λg f=>(hI.foot _ _ _ _ S2.inv g f).2);have c8:∀g,ΓB.St g->F.heap[g]? = w.heap[g]?:=λg f=>by
  have q1:=i.sub g f;have q2:=A.sub g q1;rw[O3.same g (.inl q2),c7 g q1,O1.same g (.inl q1),c6 g f]
 have a7:=r.pg.len;have N:∀c,c<H0.length/\Kq C (A3 H0 c)->z.nm c=ΓB.nm c/\A3 (Z4 H.length u).hp c=A3 H c/\∀g,ΓB.nm c=some g->F.shape? g=w.shape? g:=λc ⟨b8,b9⟩=>by
  obtain⟨_,k2,_⟩:=r.pg.keep c b8 b9;have c0:c<H.length:=k9 b8 a7;obtain⟨m1,m2,m3⟩:=y.keep c c0 (by rw[k2];exact b9);obtain⟨n1,n2⟩:=t5 c c0;exact⟨n1.trans m1,n2.trans m2,m3⟩
 have M:Bg ΓB (A3 H) w z (A3 (Z4 H.length u).hp) F (λc=>c<H0.length/\Kq C (A3 H0 c)):=
  ⟨c8,λg f=>t1 g (y.sub g f),λb hb=>(N b hb).1,λb hb=>(N b hb).2.1,λb g hb f=>(N b hb).2.2 g f,t4.trans y.yv⟩
 have SF:SI C I z m { sl:=T,hp:=(Z4 H.length u).hp,s:=u.s } tmps F:=
  ⟨S5.hr,SB.sr.mono M (λc hc=>⟨a9 c hc,k9 (a9 c hc).1 (s8 a7 t6)⟩),S5.g,by have:=S5.inv;rw[d8] at this;exact this,S5.dis⟩
 have PF:Pg C Γ0 H0 w0 Φ0 z (Z4 H.length u).hp F m:=⟨P1.os,P1.tape,P1.output,P1.size,λg f=>t1 g (P1.sub g f),λb g hb=>P1.own b g (t3 b g hb),P1.foot,t4.trans P1.yv,s8 a7 t6,λb hb hf=>by
  obtain⟨k1,k2,k3⟩:=P1.keep b hb hf;obtain⟨n1,n2⟩:=t5 b (k9 hb a7);exact⟨n1.trans k1,n2.trans k2,k3⟩⟩
 have a0:∀{g},Off G m F g->Off z m F g:=fun {g} h=>⟨h.1,λq=>by
  rcases t2 g q with q|⟨b,_,q⟩
  ·exact h.2.1 q
  ·exact h.2.2.1 b q,λb q=>h.2.2.1 b (t3 b g q),h.2.2.2⟩
 have e9:F.heap[l]? = some (.loop (Kx fn tmps ps aq body Dv (Dv3 (Ex o2)) ((Ex o2).map jmp))):=by
  rw[<-S,ac8 b5.1];cases o2<;>rfl
 have e5:∀d,D=some d->F.heap[d]? = some (.deferred (some [])):=λd h=>by
  rw[<-S,o6 (b7 d h),(d2 d h).2,o6 (b7 d h),(d1 d h).2];exact c1 d h
 have e6:=hI.foot _ _ _ _ SF.inv;have RB:RIb C I Γ0 H0 w0 Φ0 T tmps l D (Kx fn tmps ps aq body Dv) ((Z4 H.length u).hp,Ex o2,u.s) z.St (λg=>m g\/(∃b,z.nm b=some g)\/g=l\/D=some g) F z m:=by
  refine⟨SF,PF,λ_ h=>h,λ_=>Iff.rfl,λg f=>?_,a0 b6,λd h=>a0 (b4 d h),e9,e5⟩;rcases f with q|⟨b,q⟩|rfl|q
  ·exact e6 g q
  ·have:=SF.hr.lt b g q;exact⟨this.2.1,this.2.2⟩
  ·exact⟨b6.1,(a0 b6).2.1⟩
  ·exact⟨(b4 g q).1,(a0 (b4 g q)).2.1⟩
 have a5:=i.size;have e2:∀{g},(w1.putObj l (.loop { Kx fn tmps ps aq body Dv .ready none with state:=.busy })).heap.size<=g->w.heap.size<=g:=fun {g} q=>s8 (s8 a5 O1.size) q
 have e3:∀{g},g<w.heap.size->g<(w1.putObj l (.loop { Kx fn tmps ps aq body Dv .ready none with state:=.busy })).heap.size:=fun {g} q=>k9 q (s8 a5 O1.size)
 have b1:next (a.put o.dst (.bool ((Ex o2).map jmp).isNone)) F:=by
  refine b3 _ _ ⟨by rw[C12],z.St,_,⟨z,m,RB⟩,λg f=>t1 g (y.sub g f),λg f=>?_,λg f=>?_,λg f hp=>?_,y.size,y.os,y.tape,y.output,SF.hr.stlt⟩
  ·have d5:G.St g->Γ.St g\/w.heap.size<=g:=λq=>by
    rcases A.stnew g q with q|q
    ·exact i.stnew g q
    ·exact .inr (e2 q)
   rcases t2 g f with q|⟨b,hb,q⟩
   ·exact d5 q
   ·rcases A.own b g q with⟨_,q⟩|q
    ·rcases i.own b g q with⟨q',_⟩|q
     ·simp only at q';omega
     ·exact .inr q
    ·exact .inr (e2 q)
  ·rcases f with q|⟨b,q⟩|rfl|q
   ·rcases y.foot g q with q|q
    ·exact .inl (inΦ (.inl q))
    ·exact .inr q
   ·rcases y.own b g (t3 b g q) with⟨_,q⟩|q
    ·exact .inl (inΦ (.inr (.inl ⟨b,q⟩)))
    ·exact .inr q
   ·exact .inl (inΦ (.inr (.inr (.inl rfl))))
   ·exact .inl (inΦ (.inr (.inr (.inr q))))
  ·have c2:g≠l:=λe=>hp (inΦ (.inr (.inr (.inl e))))
   have n1:∀b,ΓB.nm b≠some g:=λb q=>hp (inΦ (.inr (.inl ⟨b,q⟩)))
   have p1:¬V g:=λq=>hp (inΦ (.inl q))
   have n2:∀b,Γ1.nm b≠some g:=λb q=>by
    rcases i.own b g q with⟨_,q⟩|q
    ·exact n1 b q
    ·omega
   have p2:¬ Φ1 g:=λq=>by
    rcases i.foot g q with q|q
    ·exact p1 q
    ·omega
   rw[<-S,o6 c2,A.frame g (e3 f) n2 p2,o6 c2,i.frame g f n1 p1]
 cases o2 with
 | normal=>exact⟨_,_,X,b1⟩
 | exit id=>exact⟨_,_,X,b1⟩
 | ret=>exact⟨_,_,X,b1⟩
end
section
variable {Y R S : Type} (C : Cfg) (g : R -> Option S)
def F8(c:Bool)(k:Option R):(need c k).bind g=need c (k.bind g):=by cases c<;>rfl
def D9(b:Bool)(k:Bool->Option R):(Gj b k).bind g=Gj b λt=>(k t).bind g:=by cases b<;>rfl
def G3(b:Bool)(x y:Option R):(cond b x y).bind g=cond b (x.bind g) (y.bind g):=by cases b<;>rfl
def K4(p:Prop)[Decidable p](x y:Option R):(if p then x else y).bind g=if p then x.bind g else y.bind g:=by split<;>rfl
def F1:∀(t:Tr) (k:PV->List Blk->Option R),(Gm t k).bind g=Gm t λv H=>(k v H).bind g
 | .ret v H,k=>rfl
 | .need c t,k=>by cases c;rfl;exact F1 t k
 | .split c a b,k=>by cases c;exact F1 b k;exact F1 a k
 | .fail,_=>rfl
def QW(op:BinOp)(t:Nat)(x y:PV)(H:List Blk)(k:PV->Option R):(B94 C op t x y H k).bind g=B94 C op t x y H λv=>(k v).bind g:=by unfold B94;((try dsimp only);(repeat' (first|rfl|split|(simp only[F8,D9,G3,K4,F1,j9,j7]))))
def A28(op:UnOp)(x:PV)(k:PV->Option R):(unK op x k).bind g=unK op x λv=>(k v).bind g:=by unfold unK;((try dsimp only);(repeat' (first|rfl|split|(simp only[F8,D9,G3,K4,F1,j9,j7]))))
def MN(t:TI)(a:PV)(H:List Blk)(k:PV->Option R):(MM t a H k).bind g=MM t a H λv=>(k v).bind g:=by unfold MM;((try dsimp only);(repeat' (first|rfl|split|(simp only[F8,D9,G3,K4,F1,j9,j7]))))
def GD(f:Nat->Nat × Nat)(t:TI)(a v:PV)(H:List Blk)(k:List Blk->Option R):(EA f t a v H k).bind g=EA f t a v H λv=>(k v).bind g:=by unfold EA;((try dsimp only);(repeat' (first|rfl|split|(simp only[F8,D9,G3,K4,F1,j9,j7]))))
def Pw(t:Nat)(x i:PV)(H:List Blk)(k:PV->Option R):(Ep C t x i H k).bind g=Ep C t x i H λv=>(k v).bind g:=by unfold Ep;((try dsimp only);(repeat' (first|rfl|split|(simp only[F8,D9,G3,K4,F1,j9,j7]))))
def EY(t:Nat)(x i:PV)(k:PV->Option R):(DA C t x i k).bind g=DA C t x i λv=>(k v).bind g:=by unfold DA;((try dsimp only);(repeat' (first|rfl|split|(simp only[F8,D9,G3,K4,F1,j9,j7]))))
def A13(t:Nat)(x:PV)(b a c:Option PV)(H:List Blk)(k:PV->Option R):(DZ C t x b a c H k).bind g=DZ C t x b a c H λv=>(k v).bind g:=by unfold DZ;((try dsimp only);(repeat' (first|rfl|split|(simp only[F8,D9,G3,K4,F1,j9,j7]))))
def OE(b n:Nat)(c a d:Option PV)(k:PV->Option R):(Hz b n c a d k).bind g=Hz b n c a d λv=>(k v).bind g:=by unfold Hz;((try dsimp only);(repeat' (first|rfl|split|(simp only[F8,D9,G3,K4,F1,j9,j7]))))
def XQ(t:Nat)(sl:List PV)(s x:PV)(H:List Blk)(k:PV->List PV->List Blk->Option R):(Si C t sl s x H k).bind g=Si C t sl s x H λv a b=>(k v a b).bind g:=by unfold Si;((try dsimp only);(repeat' (first|rfl|split|(simp only[F8,D9,G3,K4,F1,j9,j7]))))
def A92(t:Nat)(d x:PV)(H:List Blk)(k:PV->List Blk->Option R):(RS C t d x H k).bind g=RS C t d x H λv a=>(k v a).bind g:=by unfold RS;((try dsimp only);(repeat' (first|rfl|split|(simp only[F8,D9,G3,K4,F1,j9,j7]))))
def A91(b a:Nat)(x:PV)(H:List Blk)(k:PV->Option R):(RP C b a x H k).bind g=RP C b a x H λv=>(k v).bind g:=by unfold RP;((try dsimp only);(repeat' (first|rfl|split|(simp only[F8,D9,G3,K4,F1,j9,j7]))))
def Al7(b a:Nat)(x:PV)(k:PV->Option R):(CA C b a x k).bind g=CA C b a x λv=>(k v).bind g:=by unfold CA;((try dsimp only);(repeat' (first|rfl|split|(simp only[F8,D9,G3,K4,F1,j9,j7]))))
def Ce3(x:PV)(t:Nat)(H:List Blk)(k:PV->Option R):(Ce2 C x t H k).bind g=Ce2 C x t H λv=>(k v).bind g:=by unfold Ce2;((try dsimp only);(repeat' (first|rfl|split|(simp only[F8,D9,G3,K4,F1,j9,j7]))))
def EM(t:Nat)(parts:List (Nat × PV))(k:PV->Option R):(BZ C t parts k).bind g=BZ C t parts λv=>(k v).bind g:=by unfold BZ;((try dsimp only);(repeat' (first|rfl|split|(simp only[F8,D9,G3,K4,F1,j9,j7]))))
def Li(t len:Nat)(parts:List (Nat × PV))(H:List Blk)(k:PV->List Blk->Option R):(Cm C t len parts H k).bind g=Cm C t len parts H λv a=>(k v a).bind g:=by unfold Cm;((try dsimp only);(repeat' (first|rfl|split|(simp only[F8,D9,G3,K4,F1,j9,j7]))))
def Qa(t:Nat)(l c:PV)(H:List Blk)(k:PV->List Blk->Option R):(Eu C t l c H k).bind g=Eu C t l c H λv a=>(k v a).bind g:=by unfold Eu;((try dsimp only);(repeat' (first|rfl|split|(simp only[F8,D9,G3,K4,F1,j9,j7]))))
def Yt(a:Bool)(l:List PV)(k:PV->Option R):(Oh a l k).bind g=Oh a l λv=>(k v).bind g:=by unfold Oh;((try dsimp only);(repeat' (first|rfl|split|(simp only[F8,D9,G3,K4,F1,j9,j7]))))
def Pv(t:Nat)(x:PV)(f:Nat)(k:PV->Option R):(Em C t x f k).bind g=Em C t x f λv=>(k v).bind g:=by unfold Em;((try dsimp only);(repeat' (first|rfl|split|(simp only[F8,D9,G3,K4,F1,j9,j7]))))
def GJ(t len:Nat)(parts:List (Nat × PV))(k:PV->Option R):(Cc C t len parts k).bind g=Cc C t len parts λv=>(k v).bind g:=by unfold Cc;((try dsimp only);(repeat' (first|rfl|split|(simp only[F8,D9,G3,K4,F1,j9,j7]))))
def PC(t:Nat)(H:List Blk)(k:PV->List Blk->Option R):(Mm C t H k).bind g=Mm C t H λv a=>(k v a).bind g:=by unfold Mm;((try dsimp only);(repeat' (first|rfl|split|(simp only[F8,D9,G3,K4,F1,j9,j7]))))
def ZK(t:Nat)(x i:PV)(ok:Bool)(H:List Blk)(k:PV->Option R):(Tm C t x i ok H k).bind g=Tm C t x i ok H λv=>(k v).bind g:=by
 unfold Tm
 repeat' (first|rfl|split|(rw[F8];done)|(rw[D9];congr 1;funext b;rw[G3,F8];done))
def ZQ(t:Nat)(m x v:PV)(H:List Blk)(k:List Blk->Option R):(Tn C t m x v H k).bind g=Tn C t m x v H λa=>(k a).bind g:=by unfold Tn;((try dsimp only);(repeat' (first|rfl|split|(simp only[F8,D9,G3,K4,F1,j9,j7]))))
def OU(b:Builtin)(c:List Nat)(args:List PV)(a:St Y)(k:PV->St Y->Option R):(Lk C b c args a k).bind g=Lk C b c args a λv s=>(k v s).bind g:=by
 unfold Lk;split
 ·rw[Ce3]
 ·split
  ·rw[XQ]
  ·rfl
 ·rw[A92]
 ·rw[Yt]
 ·rw[Yt]
 ·rfl
def BY(e:Nat)(cells:List PV)(H:List Blk)(k:PV->List Blk->Option R):(GI C e cells H k).bind g=GI C e cells H λv a=>(k v a).bind g:=by unfold GI;((try dsimp only);(repeat' (first|rfl|split|(simp only[F8,D9,G3,K4,F1,j9,j7]))))
def KY(a:G1)(c:Yh Y)(f:Nat)(args:List PV)(b:St Y)(k:PV->St Y->Option R):(Xs C a c f args b k).bind g=Xs C a c f args b λv s=>(k v s).bind g:=by
 unfold Xs;split
 ·split
  ·rw[F1]
   congr 1;funext v H;rw[F8]
  ·rfl
 ·((try dsimp only);(repeat' (first|rfl|split|(simp only[F8,D9,G3,K4,F1,j9,j7]))))
def Dg1(x:Option (Bool × Y))(k:Bool->Y->Option R):(ydK x k).bind g=ydK x λb s=>(k b s).bind g:=by unfold ydK;((try dsimp only);(repeat' (first|rfl|split|(simp only[F8,D9,G3,K4,F1,j9,j7]))))
def A86(a:G1)(c:Yh Y)(f:PV)(args:List PV)(b:St Y)(k:PV->St Y->Option R):(EP C a c f args b k).bind g=EP C a c f args b λv s=>(k v s).bind g:=by
 unfold EP;split
 ·rw[KY]
 ·rw[KY]
 ·split
  ·rw[Dg1]
  ·rfl
 ·rfl
def At1(a:G1)(c:Yh Y)(o:Oper)(b:St Y)(k:St Y->Option R):(opK C a c o b k).bind g=opK C a c o b λs=>(k s).bind g:=by
 unfold opK;dsimp only;split<;>(first|rfl|(simp only[BY,EM,Li,MN,GD,QW,A28,Qa,Pv,Pw,EY,PC,ZK,ZQ,G3,GJ];done)|skip)
 all_goals ((try dsimp only);(repeat' (first|rfl|split|(simp only[F8,D9,G3,K4,F1,j9,j7]))));all_goals (first|rfl|skip);all_goals (simp only[OU,A86,BY,EM,Li,MN,GD,QW,A28,Qa,Pv,Pw,EY,Al7,A91,A13,OE,F8,D9])
def DO(e:G1)(f:Yh Y)(all:Array Oper):∀(l:List Oper) (d:St Y) (k:St Y->Option R),(Jm C e f all l d k).bind g=Jm C e f all l d λs=>(k s).bind g
 | [],d,k=>rfl
 | o::a,d,k=>by
  simp only[Jm];have c:=DO e f all a;split
  ·rw[At1];congr 1;funext s;exact c s k
  ·split
   ·split
    ·rw[D9];congr 1;funext b;split
     ·rw[At1];congr 1;funext s;exact c s k
     ·exact c _ k
    ·exact c _ k
    ·rfl
   ·rfl
def Cj8(o:Oper)(sl:List PV)(k:Trn->Option R):(Bl6 C o sl k).bind g=Bl6 C o sl λv=>(k v).bind g:=by
 unfold Bl6
 repeat' (first|rfl|split|rw[F8])
def Br1(d:Option Nat)(t:Trn)(a:St Y)(k:St Y->Option R):(Ve C d t a k).bind g=Ve C d t a λs=>(k s).bind g:=by
 unfold Ve;split
 ·rfl
 ·exact BY C g _ _ _ _
def Ol(a:G1)(c:Yh Y)(all:Array Oper)(e:Option (List Nat × List Nat))(d:List Blk)(p:Bool)(l:List Nat)(b:St Y)(k:St Y->Option R):(Mr C a c all e d p l b k).bind g=Mr C a c all e d p l b λs=>(k s).bind g:=by exact DO C g a c all _ b k
def NC(e:G1)(h:Yh Y)(all:Array Oper)(f:Option (List Nat × List Nat))(c:List Blk)(d:Option Nat):∀(l:List Nat) (b:St Y) (k:St Y->Option R),(Qb C e h all f c d l b k).bind g=Qb C e h all f c d l b λs=>(k s).bind g
 | [],b,k=>rfl
 | i::a,b,k=>by
  simp only[Qb];rw[Ol]
  congr 1;funext s
  exact NC e h all f c d a _ k
def Ci2(b:G1)(d:Yh Y)(a:Array Oper)(c:St Y)(k:St Y->Option R)(l:List Oper):(C45 C b d a c k l).bind g=C45 C b d a c (λs=>(k s).bind g) l:=DO C g b d a l c k
def Ci3(b:G1)(c:Yh Y)(id:Nat)(a:Array Oper)(d:Bool)(e:St Y)(k:St Y->Option R):(Bh7 C b c id a d e k).bind g=Bh7 C b c id a d e λs=>(k s).bind g:=by
 unfold Bh7;split
 ·split
  ·exact Ol C g b c a _ _ _ _ e k
  ·exact Ci2 C g b c a e k _
 ·split
  ·rw[Ol];congr 1;funext s;rw[Cj8];congr 1;funext v;rw[NC];congr 1;funext s2;rw[Br1];congr 1;funext s3;exact Ol C g b c a _ _ _ _ _ k
  ·rfl
def MP(L:Nat)(ds:Option (List Nat))(b:St Y->(Out->St Y->Option R)->Option R)(a:St Y->(Out->St Y->Option S)->Option S)(d:∀c k,(b c k).bind g=a c λo s=>(k o s).bind g):∀(n:Nat) (c:St Y) (k:Out->St Y->Option R),(D4 L ds b n c k).bind g=D4 L ds a n c λo s=>(k o s).bind g
 | 0,c,k=>rfl
 | n+1,c,k=>by
  simp only[D4];rw[d]
  congr 1;funext o s
  cases o with
  | normal=>exact MP L ds b a d n _ k
  | exit id=>rfl
  | ret=>rfl
def Zl{ps:Array Tmp}{sl0:List PV}{aq bd:St Y->(Out->St Y->Option R)->Option R}{as' bd':St Y->(Out->St Y->Option S)->Option S}(b:∀a k,(aq a k).bind g=as' a λo s=>(k o s).bind g)(c:∀a k,(bd a k).bind g=bd' a λo s=>(k o s).bind g) :
  ∀(L:List (List PV)) (H:List Blk) (s:Y) (k:Option Out->List Blk->Y->Option R),(V9 ps sl0 aq bd L H s k).bind g=V9 ps sl0 as' bd' L H s λp H s=>(k p H s).bind g
 | [],H,s,k=>rfl
 | x::xs,H,s,k=>by
  simp only[V9];split
  ·rw[b]
   congr 1;funext o st1
   cases o with
   | normal=>
    dsimp only;rw[c]
    congr 1;funext o2 st2
    cases o2 with
    | normal=>exact Zl b c xs _ _ k
    | exit id=>rfl
    | ret=>rfl
   | exit id=>rfl
   | ret=>rfl
  ·rfl
def Au9(b:G1)(f:PV)(c:St Y)(d:List PV->Yh (List Blk × Option Out × Y)){sR:List PV->List (List PV)->List Blk->Y->(Option Out->List Blk->Y->Option R)->Option R}{sR':List PV->List (List PV)->List Blk->Y->(Option Out->List Blk->Y->Option S)->Option S}
  (e:∀a L H s k,(sR a L H s k).bind g=sR' a L H s λp H s=>(k p H s).bind g) (k:Out->St Y->Option R):(Wo C b f c d sR k).bind g=Wo C b f c d sR' λo s=>(k o s).bind g:=by
 unfold Wo;split
 ·split
  ·unfold Bh2;split
   ·split
    ·rw[F8,e];rfl
    ·rfl
   ·rfl
  ·unfold Zc;((try dsimp only);(repeat' (first|rfl|split|(simp only[F8,D9,G3,K4,F1,j9,j7]))))
 ·rfl
end
def EV{q:Type}(C:Cfg)(h:G1)(n:Yh q):∀(c:Code) {R S:Type} (g:R->Option S) (e:St q) (k:Out->St q->Option R),(C3 C h n c e k).bind g=C3 C h n c e λo s=>(k o s).bind g:=by
 intro c
 induction c with
 | skip=>intros;rfl
 | label l=>intros;rfl
 | region id r d=>intro R S g e k;simp only[C3];rw[Ci3]
 | seq a b i m=>
  intro R S g e k;simp only[C3];rw[i]
  congr 1;funext o s
  cases o with
  | normal=>exact m g s k
  | exit id=>rfl
  | ret=>rfl
 | cond c a b i m=>
  intro R S g e k;simp only[C3];split
  ·rw[D9];congr 1;funext t;rw[G3,i,m]
  ·rfl
 | block id a p=>
  intro R S g e k;simp only[C3];rw[p]
  congr 1;funext o s
  cases o with
  | normal=>rfl
  | exit j=>dsimp only;split<;>rfl
  | ret=>rfl
 | loop a p=>
  intro R S g e k;simp only[C3];exact MP g _ _ _ _ (λe k=>p g e k) _ _ _
 | scope a p=>intro R S g e k;simp only[C3];rw[p]
 | exit id=>intros;rfl
 | ret=>intros;rfl
 | rangeFunc f ps a b i m=>
  intro R S g e k;simp only[C3];exact Au9 C g h (opnd C e.sl f) e _ (sR:=λsl0=>V9 ps sl0 (λe k=>C3 C h n a e k) (λe k=>C3 C h n b e k)) (sR':=λsl0=>V9 ps sl0 (λe k=>C3 C h n a e k) (λe k=>C3 C h n b e k))
   (λsl0 L H s k=>Zl (ps:=ps) (sl0:=sl0) g (aq:=λe k=>C3 C h n a e k) (bd:=λe k=>C3 C h n b e k) (as':=λe k=>C3 C h n a e k) (bd':=λe k=>C3 C h n b e k) (λe k=>i g e k) (λe k=>m g e k) L H s k) k
 | _=>intros;rfl
def LP{e R:Type}{C:Cfg}{a:G1}{d:Yh e}{c:Code}{b:St e}{k:Out->St e->Option R}{r:R}(h:C3 C a d c b k=some r):∃o s,C3 C a d c b (λo s=>some (o,s))=some (o,s)/\k o s=some r:=by
 have:=EV C a d c (λp:Out × St e=>k p.1 p.2) b (λo s=>some (o,s));simp only[j7] at this;rw[<-this] at h;cases f:C3 C a d c b (λo s=>some (o,s)) with
 | none=>rw[f] at h;cases h
 | some p=>rw[f] at h;exact⟨p.1,p.2,rfl,h⟩
def RY{a R:Type}{C:Cfg}{b:G1}{e:Yh a}{c:Code}{d:St a}{k:Out->St a->Option R}{o:Out}{s:St a}(h:C3 C b e c d (λo s=>some (o,s))=some (o,s)):C3 C b e c d k=k o s:=by have:=EV C b e c (λp:Out × St a=>k p.1 p.2) d (λo s=>some (o,s));rw[h] at this;exact this.symm
def Ctx.hide(Γ:Ctx)(ns:List Nat):Ctx:={ Γ with nm:=λb=>if b∈ns then none else Γ.nm b }
def Ctx.reyv(Γ:Ctx)(y:Value)(hy:y.oneCell'=true):Ctx:={ Γ with yv:=y,yv1:=hy }
section
variable {X R : Type} {r : R} {C : Cfg} {I : X -> (Nat -> Prop) -> (Nat -> Prop) -> World -> Prop} {Γ Γ' : Ctx} {Z T : Nat -> Prop} {Y : St X} {a : Act} {w w' : World} {W : G1} {J : Yh X} {K : Value} {H H' : List Blk} {N : Array Value}
def Ki:∀{l:List PV},yfL l=true->∀v∈l,v.yf=true
 | [],_,v,b=>by simp at b
 | x::r,h,v,b=>by
  simp only[yfL,j4] at h;rcases y5.1 b with rfl|b
  ·exact h.1
  ·exact Ki h.2 v b
def VP.reyv{sh:Nat->Option Shp}{y:Value}{hy:y.oneCell'=true}{v:PV}{V:Value}(h:VP Γ sh w v V):v.yf=true->VP (Γ.reyv y hy) sh w v V:=by
 induction h with
 | s v V h=>intro _;exact .s v V h
 | nsl=>intro _;exact .nsl
 | flv b e sz h=>intro _;exact .flv b e sz h
 | fl b g v e sz n cap h hv hg hcap hm hs=>intro _;exact .fl b g v e sz n cap h hv hg hcap hm hs
 | vwv b e sz i h=>intro _;exact .vwv b e sz i h
 | vw b i n g a cap v e sz m h hv hg ha hi hcap hm=>intro _;exact .vw b i n g a cap v e sz m h hv hg ha hi hcap hm
 | ptrA b i off g v e sz n h hg=>intro _;exact .ptrA b i off g v e sz n h hg
 | ptrB b off g h hg=>intro _;exact .ptrB b off g h hg
 | fnr g x y A B As Bs hf hA hB ha hb hx hy ihx ihy=>
  intro hc;simp only[PV.yf,j4] at hc;exact .fnr g x y A B As Bs hf hA hB ha hb (λj h=>ihx j h (Ki hc.1 _ (j5 h))) (λj h=>ihy j h (Ki hc.2 _ (j5 h)))
 | it b g h hg=>intro _;exact .it b g h hg
 | mpv b g h hg=>intro _;exact .mpv b g h hg
 | yd=>intro h;simp[PV.yf] at h
 | agg l A As hA ha hl ih=>
  intro hc;simp only[PV.yf] at hc;exact .agg l A As hA ha (λj h=>ih j h (Ki hc _ (j5 h)))
 | tup l A As hA ha hl ih=>
  intro hc;simp only[PV.yf] at hc;exact .tup l A As hA ha (λj h=>ih j h (Ki hc _ (j5 h)))
 | bad V=>intro _;exact .bad V
mutual
def PV.yf_rn(f:Nat->Nat):∀v:PV,(v.rn f).yf=v.yf
 | .s _=>rfl
 | .nsl=>rfl
 | .fl b=>rfl
 | .vw b _ _=>rfl
 | .ptr b _ _=>rfl
 | .fnr _ x y=>by simp only[PV.rn,PV.yf,Xh f x,Xh f y]
 | .it b=>rfl
 | .yd=>rfl
 | .agg l=>by simp only[PV.rn,PV.yf,Xh f l]
 | .tup l=>by simp only[PV.rn,PV.yf,Xh f l]
 | .bad=>rfl
def Xh(f:Nat->Nat):∀l:List PV,yfL (rnL f l)=yfL l
 | []=>rfl
 | v::r=>by simp only[rnL,yfL,PV.yf_rn f v,Xh f r]
end
def C85(f:PV->PV)(l:List (List UInt8 × PV)):(PE f l).map Prod.snd=(l.map Prod.snd).map f:=by simp[PE]
def Blk.yf_rn(f:Nat->Nat)(x:Blk):(x.rn f).yf=x.yf:=(by cases x with|mp ents=>simp only[Blk.rn,Blk.yf,C85,<-Oy,Xh]|_=>simp[Blk.rn,Blk.yf,Xh])
def D84(a:Bool)(l:List SV):(svV a l).yf=true:=by
 cases a with
 | true=>
  simp only[svV,aa,PV.yf]
  induction l with
  | nil=>rfl
  | cons x l b=>exact b
 | false=>simp only[svV,ab];split<;>rfl
def BR.reyv{sh:Nat->Option Shp}{b:Nat}{x:Blk}{y:Value}{hy:y.oneCell'=true}(h:BR Γ sh w b x)(hx:x.yf=true):BR (Γ.reyv y hy) sh w b x:=by
 cases x with
 | arr v e sz els=>exact h
 | box cells=>
  simp only[Blk.yf] at hx;obtain⟨g,cur,e,h1,h2,h3,h4⟩:=h;refine⟨g,cur,e,h1,h2,h3,λj h=>?_⟩;obtain⟨V,e1,e2⟩:=h4 j h;exact⟨V,e1,e2.reyv (Ki hx _ (j5 h))⟩
 | iter s p=>exact h
 | mp ents=>
  simp only[Blk.yf] at hx;obtain⟨g,es,ck,h1,h2,h3⟩:=h;exact⟨g,es,ck,h1,h2,h3.imp λv hv V k=>k.reyv (Ki hx v hv)⟩
 | ms a ents=>
  obtain⟨g,es,ck,h1,h2,h3⟩:=h;refine⟨g,es,ck,h1,h2,h3.imp λv hv V k=>k.reyv ?_⟩;obtain⟨e,he,rfl⟩:=GZ hv;exact D84 a _
 | dead=>exact h
def HR.reyv{y:Value}{hy:y.oneCell'=true}(h:HR Γ H w)(hx:∀b (h:b<H.length),(H[b]).yf=true):HR (Γ.reyv y hy) H w:=
 ⟨h.inj,h.lt,h.stlt,h.nms,λb hb=>(h.blk b hb).reyv (hx b hb)⟩
def MQ:∀(H:List Blk) (n:Nat),∀b (h:b<H.length),(n+b)∈Ct C H n\/Ft C H[b]=true
 | [],n,b,h=>by simp at h
 | x::r,n,0,_=>by
  cases c:Ft C x with
  | true=>exact .inr c
  | false=>exact .inl (by simp[Ct,c])
 | x::r,n,b+1,h=>by
  have:=MQ r (n+1) b (by simpa using h);rw[show n+1+b=n+(b+1) by omega] at this;rcases this with q|q
  ·refine .inl ?_;simp only[Ct];cases Ft C x with
   | true=>exact q
   | false=>exact af8 _ q
  ·exact .inr (by simpa using q)
def SH{d:List Nat}(c:∀b,b∉d->A3 H' b=A3 H b):Bg Γ (A3 H) w (Γ.hide d) (A3 H') w (·∉d):=
 ⟨λ_ _=>rfl,λ_ h=>h,λb e=>by simp only[Ctx.hide];rw[ae e],c,λ_ _ _ _=>rfl,rfl⟩
def Di9{f:List Nat}(o:HR Γ H w)(v:f.Nodup)(u:∀b∈f,b<H.length):(P5 f H).length=H.length/\(∀b,b∉f->A3 (P5 f H) b=A3 H b)/\(∀b,b∈f->A3 (P5 f H) b=some .dead)/\HR (Γ.hide f) (P5 f H) w:=by
 obtain⟨i,x,q⟩:=Rf (Γ:=Γ) (sh:=A3 H) (w:=w) f H;obtain⟨A,t⟩:=Kb f (x3 f.length .dead) (U1 f H) v (by simp) (λb d=>by rw[i];exact u b d);have k:(P5 f H).length=H.length:=by rw[P5,A,i]
 have j:∀b,b∉f->(P5 f H)[b]? = (U1 f H)[b]?:=λb d=>by rw[P5,t,ae d]
 have l:∀b,b∈f->(P5 f H)[b]? = some .dead:=λb d=>by
  rw[P5,t,ac d,List.getElem?_replicate,ac (List.idxOf_lt_length_of_mem d)]
 have p:∀b,b∉f->A3 (P5 f H) b=A3 H b:=λb d=>by
  rw[<-x b];simp only[A3,j b d]
 have M:=SH (Γ:=Γ) (H:=H) (w:=w) p;have m:∀b g,(Γ.hide f).nm b=some g->b∉f/\Γ.nm b=some g:=λb g h=>by
  simp only[Ctx.hide] at h;split at h
  ·cases h
  ·exact⟨‹_›,h⟩
 refine⟨k,p,λb d=>by simp only[A3,l b d];rfl,⟨λb B g D F=>o.inj b B g (m b g D).2 (m B g F).2,λb g h=>?_,o.stlt,λb d c n=>?_,λb d=>?_⟩⟩
 ·obtain⟨y,z,G⟩:=o.lt b g (m b g h).2;exact⟨by rw[k];exact y,z,G⟩
 ·rw[k] at d ⊢;by_cases h:b∈f
  ·have:=l b h;rw[c9 (by rw[k];exact d)] at this;simp only[j0] at this;rw[this] at n;simp[Blk.nms] at n
  ·have e:=j b h;rw[c9 (by rw[k];exact d),c9 (by rw[i];exact d)] at e;simp only[j0] at e;rw[e] at n;exact o.nms b d c ((q b (by rw[i];exact d) d).1 c n).2
 ·rw[k] at d;by_cases h:b∈f
  ·have:=l b h;rw[c9 (by rw[k];exact d)] at this;simp only[j0] at this;rw[this];trivial
  ·have e:=j b h;rw[c9 (by rw[k];exact d),c9 (by rw[i];exact d)] at e;simp only[j0] at e;rw[e];obtain⟨y,z⟩:=q b (by rw[i];exact d) d;exact(z b (o.blk b d)).mono M (M.nm b h) (λ_ _=>rfl) (λc n=>(y c n).1)
def Sg{b:Obj}{g:Nat}(h:g<w.heap.size):(w.alloc b).heap[g]? = w.heap[g]?:=by show(w.heap.push b)[g]? = w.heap[g]?;rw[Array.getElem?_push];rw[ae (by omega)]
def Va{v:PV}{V:Value}{sh:Nat->Option Shp}{f:Nat}{first b:List PV}(h:Tw v=some (f,first,b))(i:VP Γ sh w v V):∃A B,V = .func (.func f) A B/\CR Γ sh w first A/\CR Γ sh w b B/\∀c∈D0 (first++b),c∈v.nms:=by
 have g:∀(l:List SV),D0 (l.map PV.s)=[]:=λl=>by
  rw[s9];intro c d;obtain⟨j,k,d⟩:=C7.1 d;simp[PV.nms] at d
 unfold Tw at h;split at h
 ·simp only[j0,p6] at h;obtain⟨rfl,rfl,rfl⟩:=h;obtain⟨A,B,rfl,hA,e⟩:=i.inv_fn';exact⟨A,B,rfl,hA,e,λc d=>by rw[Q0,g,g] at d;simp at d⟩
 ·simp only[j0,p6] at h;obtain⟨rfl,rfl,rfl⟩:=h;obtain⟨A,B,rfl,hA,e⟩:=i.inv_fnr';exact⟨A,B,rfl,hA,e,λc d=>by rw[Q0] at d;simpa[PV.nms] using d⟩
 ·cases h
def VP.ndead{sh:Nat->Option Shp}{v:PV}{V:Value}(h:VP Γ sh w v V):∀c∈v.nms,sh c≠some .dead:=by
 induction h with
 | s v V h=>intro c hc;simp[PV.nms] at hc
 | nsl=>intro c hc;simp[PV.nms] at hc
 | flv b e sz h=>intro c hc;simp[PV.nms] at hc;subst hc;rw[h];simp
 | fl b g v e sz n cap h hv hg hcap hm hs=>intro c hc;simp[PV.nms] at hc;subst hc;rw[h];simp
 | vwv b e sz i h=>intro c hc;simp[PV.nms] at hc;subst hc;rw[h];simp
 | vw b i n g a cap v e sz m h hv hg ha hi hcap hm=>intro c hc;simp[PV.nms] at hc;subst hc;rw[h];simp
 | ptrA b i off g v e sz n h hg=>intro c hc;simp[PV.nms] at hc;subst hc;rw[h];simp
 | ptrB b off g h hg=>intro c hc;simp[PV.nms] at hc;subst hc;rw[h];simp
 | fnr g x y A B As Bs hf hA hB ha hb hx hy ihx ihy=>
  intro c hc;simp only[PV.nms,x6] at hc;rcases hc with hc|hc
  ·obtain⟨j,hj,hc⟩:=C7.1 hc;exact ihx j hj c hc
  ·obtain⟨j,hj,hc⟩:=C7.1 hc;exact ihy j hj c hc
 | it b g h hg=>intro c hc;simp[PV.nms] at hc;subst hc;rw[h];simp
 | mpv b g h hg=>intro c hc;simp[PV.nms] at hc;subst hc;rw[h];simp
 | yd=>intro c hc;simp[PV.nms] at hc
 | agg l A As hA ha hl ih=>intro c hc;simp only[PV.nms] at hc;obtain⟨j,hj,hc⟩:=C7.1 hc;exact ih j hj c hc
 | tup l A As hA ha hl ih=>intro c hc;simp only[PV.nms] at hc;obtain⟨j,hj,hc⟩:=C7.1 hc;exact ih j hj c hc
 | bad V=>intro c hc;simp[PV.nms] at hc
def BR.ndead{sh:Nat->Option Shp}{b:Nat}{x:Blk}(h:BR Γ sh w b x):∀c∈x.nms,sh c≠some .dead:=by
 cases x with
 | box cells=>
  intro c hc;simp only[Blk.nms] at hc;obtain⟨j,hj,hc⟩:=C7.1 hc;obtain⟨g,cur,e,h1,h2,h3,h4⟩:=h;obtain⟨V,_,e2⟩:=h4 j hj;exact e2.ndead c hc
 | arr v e sz els=>intro c hc;simp[Blk.nms] at hc
 | iter s p=>intro c hc;simp[Blk.nms] at hc
 | mp ents=>
  intro c hc;simp only[Blk.nms] at hc;obtain⟨j,hj,hc⟩:=C7.1 hc;obtain⟨g,es,ck,h1,h2,h3⟩:=h;exact h3.vals _ (j5 hj) (λV k=>k.ndead c hc)
 | ms a ents=>intro c hc;simp[Blk.nms] at hc
 | dead=>intro c hc;simp[Blk.nms] at hc
def NL{ro:Option Nat}{n n0:Nat}{g:Operand}{ps:Array Tmp}{aq body:Code}{k:Out->St X->Option R}{Q:Exit->Act->World->Prop}{f6:G1}{f:Nat}{first a0:List PV}{m:List Nat}(A:Ask C I W J K)(h8:Dc C f6)(l1:Γ.yv=K)(i5:WP C I W J K aq)(i7:WP C I W J K body)
  (k7:Tw (opnd C Y.sl g)=some (f,first,a0)) (f3:m.Nodup) (b8:∀c∈D0 (first++a0),c∈m) (a4:∀b∈m,b<Y.hp.length)
  (h:Zc C f6 f first a0 m Y (λl3=>Ky ps l3 (λY k=>C3 C W J aq Y k) (λY k=>C3 C W J body Y k)) k=some r) (S:SI C I Γ Z Y a.tmps w) (hM:Mk n0 Γ Z w a.defers) (hR:Ro ro Γ Z w) (hP:Dh2 C I n0 Γ Z Y.hp w k r Q) :
  (ai0 g ps aq body).wpIn (J3 ro) n C.P Q a w:=by
 have hv:=(S.opnd g).1;have hvn:=(S.opnd g).2;obtain⟨FA,FB,h9,i9,j1,l7⟩:=Va k7 hv;unfold Zc at h;split at h
 case isFalse=>cases h
 rename_i b5;simp only[j4,o5] at b5;obtain⟨⟨⟨j2,f4⟩,k8⟩,d4⟩:=b5;split at h
 case h_2=>cases h
 rename_i ret Hc H1 a2 s' e8;refine wpIn_rangeFunc (λfn _=>?_);have h7:∃(G:World) (l Dv:Nat) (D:Option Nat),(Instr.enterLoop fn a.tmps ps aq body ro).run C.P w = .ok (l,D.toList.map mkD) G/\w.heap.size<=l/\l<G.heap.size/\w.heap.size<=G.heap.size/\(∀g,g<w.heap.size->G.heap[g]? = w.heap[g]?)/\
   G.heap[l]? = some (.loop (Kx fn a.tmps ps aq body Dv .ready none))/\(∀d,D=some d->w.heap.size<=d/\d<G.heap.size/\d≠l/\G.heap[d]? = some (.deferred (some [])))/\G.os=w.os/\G.tape=w.tape/\G.output=w.output:=by
  cases ro with
  | none=>
   refine⟨(w.alloc (.deferred (some []))).alloc (.loop (Kx fn a.tmps ps aq body w.heap.size .ready none)),w.heap.size+1,w.heap.size,some w.heap.size,run_enterLoop_outer _ _ _ _ _,by omega,by simp,by simp;omega,λg B=>?_,?_,λd hd=>?_,rfl,rfl,rfl⟩
   ·rw[Sg (by simp;omega),Sg B]
   ·have:=ad2 (w.alloc (.deferred (some []))) (.loop (Kx fn a.tmps ps aq body w.heap.size .ready none));rwa [World.size_alloc] at this
   ·simp only[j0] at hd;subst hd;exact⟨o0 _,by simp;omega,by omega,by rw[Sg (by simp)];exact ad2 w _⟩
  | some l0=>
   obtain⟨_,r0,k6⟩:=hR l0 rfl;exact⟨w.alloc (.loop (Kx fn a.tmps ps aq body r0.defers .ready none)),w.heap.size,r0.defers,none,run_enterLoop_inner k6 _ _ _ _ _,o0 _,by simp,by simp,λg B=>Sg B,ad2 w _,λd hd=>(by cases hd),rfl,rfl,rfl⟩
 obtain⟨G,lw,Dv,D,c4,k5,k0,g9,a5,k4,hD,ho⟩:=h7;obtain⟨S1,l8⟩:=S.wide A.hI (St':=Γ.St) a5 g9 (λ_ h=>h) (λ_ h=>.inl h) (λg B=>by have:=S.hr.stlt g B;omega) ho.1 ho.2.1 ho.2.2;have S1:SI C I Γ Z Y a.tmps G:=S1;have j3:=A.hI.foot _ _ _ _ S.inv;have d8:∀{g},w.heap.size<=g->g<G.heap.size->Off Γ Z G g:=fun {g} h1 h2=>⟨h2,λq=>by have:=S.hr.stlt g q;omega,λb q=>by have:=(S.hr.lt b g q).2.1;omega,λq=>by have:=(j3 g q).1;omega⟩
 have d1:Off Γ Z G lw:=d8 k5 k0;have d0:∀d,D=some d->Off Γ Z G d:=λd h=>d8 (hD d h).1 (hD d h).2.1
 obtain⟨dl,b9,f7,e3⟩:=Di9 S1.hr f3 a4;have c6:=Oc (Γ:=Γ) (sh:=A3 Y.hp) (w:=G) (m++Ct C Y.hp 0) Y.sl;have f0:=SH (Γ:=Γ) (H:=Y.hp) (H':=P5 m Y.hp) (w:=G) b9;have a1:∀c∈D0 (N1 (m++Ct C Y.hp 0) Y.sl),c∉m/\c<Y.hp.length/\Ft C (Y.hp.getD c .dead)=true:=λc u=>by
  obtain⟨F,q2⟩:=c6.2.1 c u;have q3:=S.sr.nms c q2;simp only[x6,not_or] at F;refine⟨F.1,q3,?_⟩;have e:Y.hp.getD c .dead=Y.hp[c]:=by rw[v7,c9 q3];rfl
  rw[e];rcases MQ (C:=C) Y.hp 0 c q3 with q|q
  ·rw[ad8] at q;exact absurd q F.2
  ·exact q
 have g0:SR (Γ.hide m) (P5 m Y.hp) G (N1 (m++Ct C Y.hp 0) Y.sl) a.tmps:=by
  have h0:SR Γ Y.hp G (N1 (m++Ct C Y.hp 0) Y.sl) a.tmps:=⟨by rw[c6.1];exact S1.sr.size,λc u=>(a1 c u).2.1,λi hi=>by
   have b7:i<Y.sl.length:=by rw[<-c6.1];exact hi
   obtain⟨V,e1,e2⟩:=S1.sr.slot i b7;exact⟨V,e1,c6.2.2 i hi b7 V e2⟩⟩
  exact h0.mono f0 (λc u=>⟨(a1 c u).1,by rw[dl];exact(a1 c u).2.1⟩)
 have M:∀{b g},(Γ.hide m).nm b=some g->b∉m/\Γ.nm b=some g:=fun {b g} h=>by
  simp only[Ctx.hide] at h;split at h
  ·cases h
  ·exact⟨‹_›,h⟩
 have SS:SI C I (Γ.hide m) Z { sl:=N1 (m++Ct C Y.hp 0) Y.sl,hp:=P5 m Y.hp,s:=Y.s } a.tmps G:=⟨e3,g0,S1.g,S1.inv,λb g p=>S1.dis b g (M p).2⟩
 have g4:∀c∈D0 (N1 (m++Ct C Y.hp 0) Y.sl),c<(P5 m Y.hp).length/\Kq C (A3 (P5 m Y.hp) c):=λc u=>by
  obtain⟨F,q2,q3⟩:=a1 c u;exact⟨by rw[dl];exact q2,by rw[b9 c F];exact(LQ q2).1 q3⟩
 have d7:∀{g},Off Γ Z G g->Off (Γ.hide m) Z G g:=fun {g} h=>⟨h.1,h.2.1,λb q=>h.2.2.1 b (M q).2,h.2.2.2⟩
 let Φc:Nat->Prop:=λg=>Z g\/(∃b,(Γ.hide m).nm b=some g)\/g=lw\/D=some g
 have h6:RI C I (Γ.hide m) (P5 m Y.hp) G Z (N1 (m++Ct C Y.hp 0) Y.sl) a.tmps lw D (Kx fn a.tmps ps aq body Dv) (P5 m Y.hp,none,Y.s) Γ.St Φc G:=by
  refine⟨Γ.hide m,Z,SS,Stp.pg (Stp.refl e3),λ_ h=>h,λ_=>Iff.rfl,λg B=>?_,d7 d1,λd h=>d7 (d0 d h),k4,λd h=>(hD d h).2.2.2⟩;rcases B with q|⟨b,q⟩|q|q
  ·have:=A.hI.foot _ _ _ _ S1.inv g q;exact this
  ·have:=e3.lt b g q;exact⟨this.2.1,this.2.2⟩
  ·rw[q];exact⟨d1.1,d1.2.1⟩
  ·exact⟨(d0 g q).1,(d0 g q).2.1⟩
 have i0:=ZJ S1.hr f3 a4 j2;have a3:=λb (h:b∈m)=>Cg h
 have f2:(Q6 Y.hp m).length=m.length:=by simp[Q6]
 let y:Value:=.func (.yield lw) #[] #[];have b0:y.oneCell'=true:=rfl;have f9:HR ((Γ.lent m).reyv y b0) (Q6 Y.hp m) G:=i0.reyv (λb p=>by
  have i6:b<m.length:=by rw[<-f2];exact p
  simp only[Q6,j8,Blk.yf_rn];exact k8 _ (j5 i6))
 have d9:∀{l:List PV} {V:Array Value},CR Γ (A3 Y.hp) w l V->yfL l=true->(∀c∈D0 l,c∈m)->CR ((Γ.lent m).reyv y b0) (A3 (Q6 Y.hp m)) G (rnL (J1 m) l) V:=fun {l V} u hy hn=>by
  have g2:CR Γ (A3 Y.hp) G l V:=u.mono (Γ':=Γ) (H':=Y.hp) (EG S.hr a5 (λ_ h=>h)) (λ_ _=>trivial);rw[Oy];refine⟨by rw[p4];exact g2.1,λj hj=>?_⟩;have f1:j<l.length:=by simpa using hj
  obtain⟨U,e,q⟩:=g2.2 j f1;refine⟨U,e,?_⟩;rw[j8];refine VP.reyv (VP.rn (Γ:=Γ) (Γ':=Γ.lent m) rfl q (.inr λ_ h=>h) (λc u=>?_)) (by rw[PV.yf_rn];exact Ki hy _ (j5 f1));have c3:=hn c (C7.2 ⟨j,f1,u⟩);obtain⟨F,q2⟩:=a3 c c3;exact⟨Tl c3,by rw[Ml a4 F,q2]⟩
 have l4:∀(x z:List PV),yfL (x++z)=(yfL x&&yfL z):=λx z=>by
  induction x with
  | nil=>simp[yfL]
  | cons v x ih=>simp[yfL,ih,Bool.and_assoc]
 rw[l4,j4] at f4;have e7:CR ((Γ.lent m).reyv y b0) (A3 (Q6 Y.hp m)) G (rnL (J1 m) first++.yd::rnL (J1 m) a0) (FA++#[y]++FB):=by
  have h1:=d9 i9 f4.1 (λc u=>b8 c (by rw[Q0];simp[u]));have h2:=d9 j1 f4.2 (λc u=>b8 c (by rw[Q0];simp[u]));have h3:CR ((Γ.lent m).reyv y b0) (A3 (Q6 Y.hp m)) G [.yd] #[y]:=CR.one .yd;have:=(h1.append h3).append h2;simpa using this
 have e6:∀c∈D0 (rnL (J1 m) first++.yd::rnL (J1 m) a0),c<(Q6 Y.hp m).length:=λc u=>by
  have:c∈(D0 (first++a0)).map (J1 m):=by
   rw[Q0] at u;simp only[D0,PV.nms,ad3,Gx,x6] at u;rw[Q0,ah7,x6];exact u
  obtain⟨d,hd,rfl⟩:=aa5.1 this;rw[f2];exact(a3 d (b8 d hd)).1
 have a7:∀{i g},(Γ.lent m).nm i=some g->∃hi:i<m.length,Γ.nm m[i]=some g:=fun {i g} h=>by
  simp only[Ctx.lent] at h;cases hi:m[i]? with
  | none=>rw[hi] at h;simp at h
  | some b=>
   obtain⟨h1,h2⟩:=ab5.1 hi;rw[hi] at h;exact⟨h1,by rw[h2];exact h⟩
 have c1:=h8 _ _ _ y (Ed4 A.hI) (Ed5 (fn:=fn) (ps:=ps) (aq:=aq) (body:=body) (l:=lw) (Dv:=Dv) (D:=D) (tmps:=a.tmps) (w0:=G) (Φ0:=Z) (Γ0:=Γ.hide m) A.hI l1 i5 i7 g4) f _ _ _ ret Hc _ e8 ((Γ.lent m).reyv y b0) Φc G (FA++#[y]++FB) rfl f9 S1.g h6 (λi g hi=>by
  obtain⟨j6,c5⟩:=a7 hi;rintro(q|⟨b,q⟩|q|q)
  ·exact S1.dis _ g c5 q
  ·obtain⟨F,q2⟩:=M q;have:=S1.hr.inj _ _ g c5 q2;exact F (this▸j5 j6)
  ·exact d1.2.2.1 _ (q▸c5)
  ·exact(d0 _ q).2.2.1 _ c5) e7 e6
 have c2:=AH (ro:=ro) (n:=n) (Bw d4) c1;refine⟨lw,D.toList.map mkD,G,{ target:=.fn (.func f) FB,args:=FA++#[y] },G,f,FA++#[y]++FB,G,?_,?_,λ_ _=>trivial,?_,λh=>by simp[J3,aa8] at h,c2.mono ?_⟩
 ·exact c4
 ·simp[resolve,h9,o9];rfl
 ·show(callFunc f (FA++#[y]++FB)).run C.P G=_;exact Bw d4
 rintro e W2 ⟨V,rfl,Γ1,Φ1,hs,b3,l9,l6,⟨Γb,Φb,r1⟩,b6⟩;have g5:=r1.hl;have d3:=run_endLoop (P:=C.P) g5 (by cases a2<;>simp[Kx,Dv3]);obtain⟨w4,c8⟩:∃w4,W2.putObj lw (.loop { Kx fn a.tmps ps aq body Dv (Dv3 a2) (a2.map jmp) with state:=.exhausted })=w4:=⟨_,rfl⟩
 rw[c8] at d3;have O:Xi Γb Φb W2 w4:=by rw[<-c8];exact Xi.put r1.ol
 have a9:w4.heap.size=W2.heap.size:=by rw[<-c8];simp
 have h4:∀g,g≠lw->w4.heap[g]? = W2.heap[g]?:=λg B=>by rw[<-c8];exact o6 B
 have inΦ:∀{g},Φb g\/(∃b,Γb.nm b=some g)\/g=lw\/D=some g->Φ1 g:=fun {g} h=>(r1.ph g).2 h
 have S5:=(r1.si.offW A.hI O).wideSt A.hI (St':=Γ1.St) r1.st (λg B hp=>(r1.ft g (inΦ (.inl hp))).2 B) (λb g p B=>(r1.ft g (inΦ (.inr (.inl ⟨b,p⟩)))).2 B) (λg B=>by rw[a9];exact b3.stlt g B);have c7:Y.hp.length<=H1.length:=by have:=r1.pg.len;rw[dl] at this;exact this
 have d2:m.length<=Hc.length:=by have:=hs.len;rw[p4] at this;exact this
 obtain⟨l2,h5⟩:=Kb m (m.map λb=>cond (Ft C (Y.hp.getD b .dead)) (Jo (Hc.getD (J1 m b) .dead)) .dead) H1 f3 (by simp) (λb p=>k9 (a4 b p) c7);generalize e5:Al4 C m Y.hp Hc H1=H2 at h;have a6:H2.length=H1.length:=by rw[<-e5];exact l2
 have e4:∀b (p:b∈m),H2[b]? = some (cond (Ft C (Y.hp.getD b .dead)) (Jo (Hc.getD (J1 m b) .dead)) .dead):=λb p=>by
  rw[<-e5];simp only[Al4];rw[h5,ac p,aa0];have e:m.idxOf b=J1 m b:=rfl;rw[e,c9 (a3 b p).1,(a3 b p).2];rfl
 have b2:∀b,b∉m->H2[b]? = H1[b]?:=λb p=>by
  rw[<-e5];simp only[Al4];rw[h5,ae p]
 let Γf:Ctx:={ St:=Γ1.St,nm:=λb=>if b∈m then (if Ft C (Y.hp.getD b .dead)=true then Γ1.nm (J1 m b) else none) else Γb.nm b,yv:=Γ.yv,yv1:=Γ.yv1 }
 have b1:∀{b},b∈m->Ft C (Y.hp.getD b .dead)=true->Γf.nm b=Γ1.nm (J1 m b):=fun {b} h1 h2=>by simp only[Γf];rw[ac h1,ac h2]
 have f8:∀{b},b∈m->¬Ft C (Y.hp.getD b .dead)=true->Γf.nm b=none:=fun {b} h1 h2=>by simp only[Γf];rw[ac h1,ae h2]
 have a8:∀{b},b∉m->Γf.nm b=Γb.nm b:=fun {b} h1=>by simp only[Γf];rw[ae h1]
 have L:∀{b g},Γf.nm b=some g->(b∈m/\Γ1.nm (J1 m b)=some g)\/(b∉m/\Γb.nm b=some g):=fun {b g} h=>by
  by_cases p:b∈m
  ·by_cases hf:Ft C (Y.hp.getD b .dead)=true
   ·rw[b1 p hf] at h;exact .inl ⟨p,h⟩
   ·rw[f8 p hf] at h;cases h
  ·rw[a8 p] at h;exact .inr ⟨p,h⟩
 have g7:∀c,c∈m->A3 H1 c=some .dead:=λc u=>by
  obtain⟨_,k2,_⟩:=r1.pg.keep c (by rw[dl];exact a4 c u) (by rw[f7 c u];trivial);rw[k2];exact f7 c u
 have d6:∀b,b∉m->A3 H2 b=A3 H1 b:=λb p=>by simp only[A3,b2 b p]
 have Mf:Bg { Γb with St:=Γ1.St } (A3 H1) w4 Γf (A3 H2) w4 (·∉m):=⟨λ_ _=>rfl,λ_ h=>h,λb p=>a8 p,d6,λ_ _ _ _=>rfl,(r1.pg.yv:Γb.yv=Γ.yv).symm⟩
 have i3:HR Γf H2 w4:=by
  refine⟨λb b' g h1 h2=>?_,λb g p=>?_,λg B=>by rw[a9];exact b3.stlt g B,λb p c u=>?_,λb p=>?_⟩
  ·rcases L h1 with⟨p1,F⟩|⟨p1,F⟩<;>rcases L h2 with⟨p2,q2⟩|⟨p2,q2⟩
   ·have:=b3.inj _ _ g F q2;have e1:=(a3 b p1).2;have e2:=(a3 b' p2).2;rw[<-e1,<-e2];simp only[this]
   ·exact absurd (inΦ (.inr (.inl ⟨b',q2⟩))) (b6 _ g F)
   ·exact absurd (inΦ (.inr (.inl ⟨b,F⟩))) (b6 _ g q2)
   ·exact r1.si.hr.inj b b' g F q2
  ·rcases L p with⟨p1,F⟩|⟨p1,F⟩
   ·have:=b3.lt _ g F;exact⟨by rw[a6];exact k9 (a4 b p1) c7,by rw[a9];exact this.2.1,this.2.2⟩
   ·have:=S5.hr.lt b g F;exact⟨by rw[a6];exact this.1,this.2⟩
  ·by_cases t:b∈m
   ·have e:=e4 b t;rw[c9 p] at e;simp only[j0] at e;rw[e] at u;cases hf:Ft C (Y.hp.getD b .dead) with
    | true=>rw[hf,aa,QT] at u;simp at u
    | false=>rw[hf] at u;simp[Blk.nms] at u
   ·have e:=b2 b t;have b4:b<H1.length:=by rw[<-a6];exact p
    rw[c9 p,c9 b4] at e;simp only[j0] at e;rw[e] at u;rw[a6];exact S5.hr.nms b b4 c u
  ·by_cases t:b∈m
   ·have e:=e4 b t;rw[c9 p] at e;simp only[j0] at e;rw[e];cases hf:Ft C (Y.hp.getD b .dead) with
    | true=>
     rw[aa];have hi:J1 m b<Hc.length:=k9 (a3 b t).1 d2;rw[Yk hi];refine Cv0 (b3.blk _ hi) (b1 t hf) (λg B=>h4 g ?_) (λ_ h=>h) (λg B=>h4 g ?_)
     ·intro e;rw[e] at B;exact(r1.ft _ (inΦ (.inr (.inr (.inl rfl))))).2 B
     ·intro e;rw[e] at B;exact b6 _ _ B (inΦ (.inr (.inr (.inl rfl))))
    | false=>trivial
   ·have e:=b2 b t;have b4:b<H1.length:=by rw[<-a6];exact p
    rw[c9 p,c9 b4] at e;simp only[j0] at e;rw[e];have hB:=S5.hr.blk b b4;exact hB.mono Mf (a8 t) (λ_ _=>rfl) (λc u c3=>hB.ndead c u (g7 c c3))
 have g1:SR Γf H2 w4 (N1 (m++Ct C Y.hp 0) Y.sl) a.tmps:=S5.sr.mono Mf (λc u=>⟨(a1 c u).1,by rw[a6];exact k9 (a1 c u).2.1 c7⟩);have SF:SI C I Γf Φb { sl:=N1 (m++Ct C Y.hp 0) Y.sl,hp:=H2,s:=s' } a.tmps w4:=⟨i3,g1,S5.g,S5.inv,λb g p=>by
  rcases L p with⟨_,F⟩|⟨_,F⟩
  ·exact λq=>b6 _ g F (inΦ (.inl q))
  ·exact S5.dis b g F⟩
 have l5:=hs.size;have f5:Stp C Γ Y.hp w Z Γf H2 w4 Φb:=by
  refine⟨O.os.trans (hs.os.trans ho.1),O.tape.trans (hs.tape.trans ho.2.1),O.output.trans (hs.output.trans ho.2.2),by omega,λg B=>hs.sub g B,λg B=>?_,λb g p=>?_,λg B=>?_,λg B hn hp=>?_,rfl,by rw[a6];exact c7,λb p hf=>?_⟩
  ·rcases hs.stnew g B with q|q
   ·exact .inl q
   ·exact .inr (by omega)
  ·rcases L p with⟨p1,F⟩|⟨p1,F⟩
   ·rcases hs.own _ g F with⟨_,q⟩|q
    ·obtain⟨i1,i2⟩:=a7 q;rw[(a3 b p1).2] at i2;exact .inl ⟨a4 b p1,i2⟩
    ·exact .inr (by omega)
   ·rcases r1.pg.own b g F with⟨q,q'⟩|q
    ·exact .inl ⟨by rw[<-dl];exact q,(M q').2⟩
    ·exact .inr (by omega)
  ·rcases r1.pg.foot g B with q|q
   ·exact .inl q
   ·exact .inr (by omega)
  ·have np:¬ Φc g:=by
    rintro(q|⟨b,q⟩|q|q)
    ·exact hp q
    ·exact hn b (M q).2
    ·omega
    ·have:=(hD g q).1;omega
   rw[h4 g (by omega),hs.frame g (by omega) (λb q=>by obtain⟨_,i2⟩:=a7 q;exact hn _ i2) np,a5 g B]
  ·by_cases t:b∈m
   ·have g3:=(LQ (C:=C) (H:=Y.hp) p).2 hf;obtain⟨F,q2⟩:=a3 b t;have hi:J1 m b<(Q6 Y.hp m).length:=by rw[f2];exact F
    have g8:A3 (Q6 Y.hp m) (J1 m b)=A3 Y.hp b:=by rw[Ml a4 F,q2]
    obtain⟨k1,k2,k3⟩:=hs.keep _ hi (by show Kq C (A3 (Q6 Y.hp m) _);rw[g8];exact hf);have k2:A3 Hc (J1 m b)=A3 (Q6 Y.hp m) (J1 m b):=k2;have d5:((Γ.lent m).reyv y b0).nm (J1 m b)=Γ.nm b:=Tl t;refine⟨(b1 t g3).trans (k1.trans d5),?_,λg B=>?_⟩
    ·have b7:J1 m b<Hc.length:=k9 F d2;simp only[A3,e4 b t,g3,aa,x7,QU,Yk b7];show some (Hc[J1 m b]).shp=A3 Y.hp b;rw[<-g8,<-k2];simp only[A3,c9 b7,x7]
    ·have e1:=k3 g (d5.trans B);have e9:=S.hr.lt b g B;rw[F9 (h4 g (by omega)),e1,F9 (a5 g e9.2.1)]
   ·obtain⟨k1,k2,k3⟩:=r1.pg.keep b (by rw[dl];exact p) (by rw[b9 b t];exact hf);have hh:(Γ.hide m).nm b=Γ.nm b:=by simp only[Ctx.hide];rw[ae t]
    refine⟨(a8 t).trans (k1.trans hh),by rw[d6 b t,k2,b9 b t],λg B=>?_⟩;have e9:=S.hr.lt b g B;rw[F9 (h4 g (by omega)),k3 g (hh.trans B),F9 (a5 g e9.2.1)]
 have i4:Mk n0 Γf Φb w4 (D.toList.map mkD++a.defers):=by
  obtain⟨m0,Ds,m1,m2,m3⟩:=hM;refine⟨by omega,D.toList++Ds,by rw[m1,ah7],?_,λd hd=>?_⟩
  ·cases D with
   | none=>exact m2
   | some d=>exact ah9.2 ⟨λg6=>by have:=(m3 _ g6).2.1.1;have:=(hD d rfl).1;omega,m2⟩
  ·rcases x6.1 hd with hd|hd
   ·have e:D=some d:=by
     cases D with
     | none=>simp at hd
     | some d'=>simp at hd;rw[hd]
    refine⟨s8 m0 (hD d e).1,⟨by rw[a9];exact(r1.od d e).1,(r1.ft _ (inΦ (.inr (.inr (.inr e))))).2,λb q=>?_,(r1.od d e).2.2.2⟩,by rw[h4 _ (hD d e).2.2.1];exact r1.hd d e⟩;rcases L q with⟨_,F⟩|⟨_,F⟩
    ·exact b6 _ _ F (inΦ (.inr (.inr (.inr e))))
    ·exact(r1.od d e).2.2.1 b F
   ·obtain⟨k1,k2,k3⟩:=m3 d hd;obtain⟨F,q2⟩:=k2.step f5;exact⟨k1,F,q2.trans k3⟩
 have c0:=hP (a2.getD .normal) { sl:=N1 (m++Ct C Y.hp 0) Y.sl,hp:=H2,s:=s' } { a with defers:=D.toList.map mkD++a.defers } w4 Γf Φb h f5 SF i4;refine⟨a2.map jmp,w4,d3,?_⟩;cases a2 with
 | none=>exact c0
 | some o=>
  cases o with
  | normal=>exact wpIn_skip c0
  | exit id=>exact wpIn_exit c0
  | ret=>exact wpIn_ret c0
def FL{n:Array Tmp}{d:List PV}{g c:Code}:∀(L:List (List PV)) (H:List Blk) (s:X) {k:Option Out->List Blk->X->Option R},V9 n d (λY k=>C3 C W J g Y k) (λY k=>C3 C W J c Y k) L H s k=some r->
  ∃H' b f,U2 (Ky n d (λY k=>C3 C W J g Y k) (λY k=>C3 C W J c Y k)) L (H,none,s)=some (H',b,f)/\k b H' f=some r
 | [],H,s,k,h=>⟨H,none,s,rfl,h⟩
 | x::xs,H,s,k,h=>by
  simp only[V9] at h;split at h
  case isFalse=>cases h
  rename_i v;obtain⟨o,y,p,i⟩:=LP h;cases o with
  | exit id=>cases i
  | ret=>cases i
  | normal=>
  obtain⟨m,e,q,j⟩:=LP i;have l:Ky n d (λY k=>C3 C W J g Y k) (λY k=>C3 C W J c Y k) x (H,none,s)=some ((Ex m).isNone,((Z4 H.length e).hp,Ex m,e.s)):=by
   simp only[Ky];rw[ac v,RY p];dsimp only;rw[RY q]
  cases m with
  | normal=>
   obtain⟨H',b,f,t,u⟩:=FL xs _ _ j;refine⟨H',b,f,?_,u⟩;simp only[U2,l];exact t
  | exit id=>exact⟨_,_,_,by simp only[U2,l];rfl,j⟩
  | ret=>exact⟨_,_,_,by simp only[U2,l];rfl,j⟩
def Ch6{ro:Option Nat}{n n0:Nat}{g:Operand}{G:Array Tmp}{q i:Code}{k:Out->St X->Option R}{Q:Exit->Act->World->Prop}(A:Ask C I W J K)(z:Γ.yv=K)(t:WP C I W J K q)(u:WP C I W J K i)
  (h:Wo C W (opnd C Y.sl g) Y (λp=>Ky G p (λY k=>C3 C W J q Y k) (λY k=>C3 C W J i Y k)) (λp=>V9 G p (λY k=>C3 C W J q Y k) (λY k=>C3 C W J i Y k)) k=some r) (S:SI C I Γ Z Y a.tmps w) (P:Mk n0 Γ Z w a.defers) (V:Ro ro Γ Z w) (U:Dh2 C I n0 Γ Z Y.hp w k r Q) :
  (ai0 g G q i).wpIn (J3 ro) n C.P Q a w:=by
 have hvn:=(S.opnd g).2;have hv:=(S.opnd g).1;unfold Wo at h;split at h
 case h_2=>cases h
 rename_i f first d o;obtain⟨FA,FB,a0,a1,a2,O⟩:=Va o hv;have y:=FK Y.hp (D0 (first++d));have m:=TL Y.hp (D0 (first++d));have v:∀b∈Ee Y.hp (D0 (first++d)),b<Y.hp.length:=TK Y.hp (D0 (first++d)) (· < Y.hp.length) (λb D c F=>by
  have e:Y.hp.getD b .dead=Y.hp[b]:=by rw[v7,c9 D];rfl
  rw[e] at F;exact S.hr.nms b D c F) (λc F=>hvn c (O c F))
 generalize Ee Y.hp (D0 (first++d))=l at *;split at h
 ·rename_i pf hS;unfold Bh2 at h;split at h
  case isFalse=>cases h
  rename_i j;rw[j4] at j;split at h
  case h_2=>cases h
  rename_i cL L hL;obtain⟨rfl,h⟩:=D6 h;obtain⟨H',B,s',h1,h2⟩:=FL L _ _ h;refine NL A A.hX.s z t u o y m v ?_ S P V U;unfold Zc;rw[ac j.1];have M:(l.map λb=>(Y.hp.getD b .dead).rn (J1 l)).all SK=true:=by
   rw[aj3,o5];intro b D;have:=o5.1 j.2 b D;simp only[Function.comp];generalize Y.hp.getD b .dead=x at this;cases x<;>simp_all [SK,Blk.rn]
  have e:clS C (List Blk × Option Out × X) (Ky G (N1 (l++Ct C Y.hp 0) Y.sl) (λY k=>C3 C W J q Y k) (λY k=>C3 C W J i Y k)) f (rnL (J1 l) first++PV.yd::rnL (J1 l) d) (l.map λb=>(Y.hp.getD b .dead).rn (J1 l)) (P5 l Y.hp,none,Y.s)=some (.tup [],(l.map λb=>(Y.hp.getD b .dead).rn (J1 l)).map Jo,(H',B,s')):=by
   simp only[clS,hS];rw[ac M,hL];simp only[h1]
  rw[e];exact h2
 ·exact NL A A.hC z t u o y m v h S P V U
end
section
variable {J R : Type} {r : R} {C : Cfg} {I : J -> (Nat -> Prop) -> (Nat -> Prop) -> World -> Prop} {Y : Ctx} {W : Nat -> Prop} {L : St J} {a : Act} {w : World} {Z : G1} {U : Yh J} {K : Value} {o : Oper} {H : List Blk}
def Cb4(A:Ask C I Z U K)(hm:C.P.follows .mixedOrders=true):∀(c:Code) {ro:Option Nat} {n n0:Nat} {rf:Bool} {R:Type} {r:R} {Y:Ctx} {W:Nat->Prop} {L:St J} {a:Act} {w:World} {k:Out->St J->Option R} {Q:Exit->Act->World->Prop},
  X6 C rf c=true->Y.yv=K->C3 C Z U c L k=some r->SI C I Y W L a.tmps w->Mk n0 Y W w a.defers->Ro ro Y W w->Dh2 C I n0 Y W L.hp w k r Q->c.wpIn (J3 ro) n C.P Q a w:=by
 intro c
 induction c with
 | skip=>intro ro n n0 rf R r Y W L a w k Q b f h S z G q;exact wpIn_skip (q .normal L a w Y W h (Stp.refl S.hr) S z)
 | label l=>intro ro n n0 rf R r Y W L a w k Q b f h S z G q;exact wpIn_label (q .normal L a w Y W h (Stp.refl S.hr) S z)
 | region id T d=>
  intro ro n n0 rf R r Y W L a w k Q b f h S z G q;cases d with
  | false=>
   have h:C45 C Z U T L (λp=>k .normal (Yj (C.keepR id) L.hp.length p)) T.toList=some r:=by
    simp only[C3,Bh7] at h;split at h
    ·exact h
    ·cases h
   refine wpIn_region_list (Dr7 A T.toList f h S ?_);intro p F w' Γ' i v u B D;obtain⟨N,V,M⟩:=Uw A.hI B u (C.keepR id) (o0 _);exact q .normal _ F w' N i v M V (by rw[D];exact z.step M)
  | true=>
   simp only[X6,Bool.not_true,ai6] at b;refine Dr8 A hm b f h S ?_;intro p F w' Γ' i v u B D;obtain⟨N,V,M⟩:=Uw A.hI B u (C.keepR id) (o0 _);exact q .normal _ F w' N i v M V (by rw[D];exact z.step M)
 | seq x y O P=>
  intro ro n n0 rf R r Y W L a w k Q b f h S z G q;simp only[X6,j4] at b;refine wpIn_seq (O b.1 f h S z G ?_);intro o p F w' Γ' i v u B D;cases o with
  | normal=>exact P b.2 (u.yv.trans f) v B D (G.step u) λo2 a3 a2 w2 N Φ2 k1 k2 k3 k4=>q o2 a3 a2 w2 N Φ2 k1 (u.trans k2) k3 k4
  | exit id=>exact q (.exit id) p F w' Γ' i v u B D
  | ret=>exact q .ret p F w' Γ' i v u B D
 | cond c x y O P=>
  intro ro n n0 rf R r Y W L a w k Q b f h S z G q;simp only[X6,j4] at b;simp only[C3] at h;split at h
  ·rename_i t hc;have hv:=(S.opnd c).1;rw[hc] at hv;have hb:=hv.inv_bool;cases t with
   | true=>exact wpIn_cond hb (O b.1 f h S z G q)
   | false=>exact wpIn_cond hb (P b.2 f h S z G q)
  ·cases h
 | block id x ih=>
  intro ro n n0 rf R r Y W L a w k Q b f h S z G q;refine wpIn_block (ih b f h S z G ?_);intro o p F w' Γ' i v u B D;cases o with
  | normal=>exact q .normal p F w' Γ' i v u B D
  | exit j=>
   simp only[Out.exit',Exit.inBlock];dsimp only at v;split at v
   ·rename_i e;rw[ac e];exact q .normal p F w' Γ' i v u B D
   ·rename_i e;rw[ae e];exact q (.exit j) p F w' Γ' i v u B D
  | ret=>exact q .ret p F w' Γ' i v u B D
 | loop x ih=>
  intro ro n n0 rf R r Y W L a w k Q b f h S z G q;simp only[C3] at h;refine Bs8 (λm F w'=>∃p Γ' i,D4 L.hp.length (C.keep (Aq0 x)) (λL k=>C3 C Z U x L k) m p k=some r/\Stp C Y L.hp w W Γ' p.hp w' i/\SI C I Γ' i p F.tmps w'/\Mk n0 Γ' i w' F.defers) C.lf ⟨_,Y,W,h,by rw[Hr];exact Stp.refl S.hr,Hq S _,z⟩ ?_;rintro m a1 w1 ⟨a4,Γ1,Φ1,v,u,B,D⟩;cases m with
  | zero=>simp[D4] at v
  | succ m=>
   simp only[D4] at v;refine ih b (u.yv.trans f) v B D (G.step u) ?_;intro o p F w' Γ' i k1 k2 k3 k4;cases o with
   | normal=>
    obtain⟨N,V,M,X⟩:=A27 A.hI k3 (u.trans k2);have a0:=Mk.sub k4 X;exact⟨m,Nat.lt_succ_self m,_,N,i,k1,by rw[Hr];exact M,Hq V _,a0⟩
   | exit j=>exact q (.exit j) _ F w' Γ' i k1 (by rw[Hr];exact u.trans k2) (Hq k3 _) k4
   | ret=>exact q .ret _ F w' Γ' i k1 (by rw[Hr];exact u.trans k2) (Hq k3 _) k4
 | exit id=>intro ro n n0 rf R r Y W L a w k Q b f h S z G q;exact wpIn_exit (q (.exit id) _ a w Y W h (by rw[Hr];exact Stp.refl S.hr) (Hq S _) z)
 | ret=>intro ro n n0 rf R r Y W L a w k Q b f h S z G q;exact wpIn_ret (q .ret _ a w Y W h (by rw[Hr];exact Stp.refl S.hr) (Hq S _) z)
 | scope x ih=>
  intro ro n n0 rf R r Y W L a w k Q b f h S z G q;refine A37 (ih (Q:=λe a w=>(∀l,e≠.goto l)/\Q e a w) b f h S z G ?_);intro o p F w' Γ' i v u B D;exact⟨λl=>by cases o<;>simp[Out.exit'],q o p F w' Γ' i v u B D⟩
 | rangeFunc g ps x y O P=>
  intro ro n n0 rf R r Y W L a w k Q b f h S z G q;simp only[X6,j4] at b;obtain⟨hx,hy⟩:=b;simp only[C3] at h;exact Ch6 A f (fun {R r ro n n0 Y W L a w k Q} v u B D h6 h5=>O hx v u B D h6 h5) (fun {R r ro n n0 Y W L a w k Q} v u B D h6 h5=>P hy v u B D h6 h5) h S z G q
 | _=>intro ro n n0 rf R r Y W L a w k Q b f h S z G q;simp[C3] at h
end
section
variable {J R : Type} {r : R} {C : Cfg} {I : J -> (Nat -> Prop) -> (Nat -> Prop) -> World -> Prop} {L : Ctx} {Y : Nat -> Prop} {W : St J} {a : Act} {w : World} {O : G1} {Z : Yh J} {K : Value} {o : Oper} {H : List Blk}
def DU(b:Array Value):ResultVar->Sem Value
 | .tmp t=>pure (b.getD t undef)
 | .cell a t=>do loadVar t (<-asAddr (b.getD a undef))
def Bi7(fn:Func)(b:Array Value):results fn b=(fn.results.toList.mapM (DU b) >>= λl=>pure (if h:l.length=1 then l[0] else .tuple l.toArray)):=by
 unfold results;have:∀(c:Array ResultVar),(c.mapM (DU b) >>= λd=>(pure (if h:d.size=1 then d[0] else .tuple d):Sem Value))=(c.toList.mapM (DU b) >>= λl=>pure (if h:l.length=1 then l[0] else .tuple l.toArray)):=by
  intro c;rw[Array.mapM_eq_mapM_toList,map_eq_pure_bind,bind_assoc]
  congr 1
 exact this fn.results
def SD(S:SR L H w W.sl a.tmps)(t:Nat):VP L (A3 H) w (W.sl.getD t (.tup [])) (a.tmps.getD t undef)/\∀c∈(W.sl.getD t (.tup [])).nms,c<H.length:=by
 by_cases h:t<W.sl.length
 ·obtain⟨V,e,k⟩:=S.slot t h;have g:∀c∈(W.sl[t]).nms,c<H.length:=λc f=>S.nms c (C7.2 ⟨t,h,f⟩)
  simp_all
 ·have b:W.sl.getD t (.tup []) = .tup []:=by rw[v7,ad0 (ah2 h)];rfl
  have d:a.tmps.getD t undef=undef:=by rw[p9,ac2 (by rw[S.size];exact ah2 h)];rfl
  rw[b,d];exact⟨Au,by simp[PV.nms,D0]⟩
def LR(L:Ctx)(sh:Nat->Option Shp)(w:World):List PV->List Value->Prop
 | [],[]=>True
 | v::r,V::q=>VP L sh w v V/\LR L sh w r q
 | _,_=>False
def LR.len{sh:Nat->Option Shp}:∀{l:List PV} {A:List Value},LR L sh w l A->A.length=l.length
 | [],[],_=>rfl
 | v::r,V::q,h=>by simp[LR.len h.2]
 | [],_::_,h=>h.elim
 | _::_,[],h=>h.elim
def LR.CR{sh:Nat->Option Shp}:∀{l:List PV} {A:List Value},LR L sh w l A->∀j (h:j<l.length),∃U,A[j]? = some U/\VP L sh w (l[j]) U
 | [],[],_,j,h=>by simp at h
 | v::r,V::q,h,0,_=>⟨V,rfl,h.1⟩
 | v::r,V::q,h,j+1,hj=>by
  obtain⟨U,e,k⟩:=LR.CR h.2 j (by simpa using hj);grind
 | [],_::_,h,_,_=>h.elim
 | _::_,[],h,_,_=>h.elim
def Dn9{t:TypeId}{A V:Value}{w':World}(h:(aj1 t A).run C.P w' = .ok V w'):(do loadVar t (<-asAddr A):Sem Value).run C.P w' = .ok V w':=by
 simp only[aj1] at h;unfold Instr.sureAddr at h;split at h
 ·exact h
 simp_all
def Wp(j:HR L H w)(S:SR L H w W.sl a.tmps):∀(n:List ResultVar) {k:List PV->Option R},GL C W.sl H n k=some r->
  ∃e d,k e=some r/\(n.mapM (DU a.tmps)).run C.P w = .ok d w/\LR L (A3 H) w e d/\∀c∈D0 e,c<H.length
 | [],k,h=>⟨[],[],h,by simp,trivial,by simp[D0]⟩
 | .tmp t::b,k,h=>by
  simp only[GL] at h;obtain⟨e,d,g,m,i,q⟩:=Wp j S b h;obtain⟨f,p⟩:=SD S t;refine⟨_,a.tmps.getD t undef::d,g,?_,⟨f,i⟩,λc l=>?_⟩
  ·rw[ai2];simp only[DU,ag6,Sem.run_pure,ae0,m]
  ·simp only[D0,x6] at l;grind
 | .cell x t::b,k,h=>by
  simp only[GL] at h;obtain⟨f,p⟩:=SD S x;obtain⟨v,u,A,V,z,y⟩:=FC j h f;obtain⟨e,d,g,m,i,q⟩:=Wp j S b u;refine⟨_,V::d,g,?_,⟨z,i⟩,λc l=>?_⟩
  ·rw[ai2];have:=Dn9 (y w (Ext.refl w));rw[show DU a.tmps (.cell x t)=(do loadVar t (<-asAddr (a.tmps.getD x undef)):Sem Value) from rfl];rw[ag6,this];simp_all
  ·simp only[D0,x6] at l;grind
def At3{b:List PV}{c:Nat}(h:c∈(Dn b).nms):c∈D0 b:=by
 unfold Dn at h;split at h
 ·simp[D0,h]
 ·exact h
def Dp5{f:List PV}{b:List Value}(h:LR L (A3 H) w f b):VP L (A3 H) w (Dn f) (if h:b.length=1 then b[0] else .tuple b.toArray):=by
 have c:=h.len;unfold Dn;split
 ·rename_i v;cases b with
  | nil=>simp at c
  | cons V q=>
   cases q with
   | nil=>exact h.1
   | cons _ _=>simp at c
 ·rename_i d;have:b.length≠1:=by
   intro e;rw[e] at c
   match f,c with
   | [v],_=>exact d v rfl
  rw[dif_neg this];refine VP.mk_tup (by simpa using c) λj g=>?_
  obtain⟨U,e,k⟩:=h.CR j g;grind
def Lf(C:Cfg):Prop:=∀ f fn c,C.okf f=true->C.P.funcs[f]? = some fn->fn.body=some c->Cy1 C c=true/\(fn.name == "runtime.NumGoroutine")=false
def Ra{f:Nat}{fn:Func}{c:Code}{d:Array Value}(g:C.P.funcs[f]? = some fn)(e:fn.body=some c)(h:(fn.name == "runtime.NumGoroutine")=false):(callFunc f d).run C.P w = .ok (.enter f d) w:=by
 have b:¬ fn.name = "runtime.NumGoroutine":=by simpa using h
 simp[callFunc,g,e,b,ae0]
def Dh9{args:List PV}{d:Array Value}{n:Nat}(e:CR L (A3 H) w args d)(i:∀c∈D0 args,c<H.length) :
  SR L H w (args++x3 (n-args.length) (.tup [])) (d++y7 (n-d.size) undef):=by
 have h:CR L (A3 H) w (x3 (n-args.length) (.tup [])) (y7 (n-d.size) undef):=⟨by simp[e.1],λj f=>by
  simp only[List.length_replicate] at f;refine⟨undef,by rw[e.1];simp[f],?_⟩;simp only[List.getElem_replicate];exact Au⟩
 have g:=e.append h;refine⟨g.1,λc b=>?_,g.2⟩;rw[Q0,x6] at b;rcases b with b|b
 ·exact i c b
 ·obtain⟨j,f,b⟩:=C7.1 b;simp[PV.nms,D0] at b
def Stp.put{Γ0 Γ':Ctx}{H0 H':List Blk}{w0 w':World}{Φ0 Φ':Nat->Prop}{D:Nat}{ob:Obj}(h:Stp C Γ0 H0 w0 Φ0 Γ' H' w' Φ')(hD:w0.heap.size<=D)(hO:Off Γ' Φ' w' D):Stp C Γ0 H0 w0 Φ0 Γ' H' (w'.putObj D ob) Φ':=by
 refine⟨h.os,h.tape,h.output,by rw[World.putObj_size];exact h.size,h.sub,h.stnew,h.own,h.foot,λg hg hn hp=>?_,h.yv,h.len,λb hb hf=>?_⟩
 ·rw[o6 (by omega)];exact h.frame g hg hn hp
 ·obtain⟨k1,k2,k3⟩:=h.keep b hb hf;refine⟨k1,k2,λg hg=>?_⟩;rw[<-k3 g hg];refine F9 (o6 ?_);rintro rfl;exact hO.2.2.1 b (k1.trans hg)
def B35{F:Fence}{n:Nat}{fn:Func}{l:Ending->World->Prop}{f Γ':Ctx}{k:List Blk}{j:World}{g c:Nat->Prop}{d:St J}{b:Array Value}(q:HI I)
  (t:∀w',SI C I Γ' c d b w'->Stp C f k j g Γ' d.hp w' c->∃V,(results fn b).run C.P w' = .ok V w'/\l (.returned V) w') :
  ∀(e:List Nat) (w:World),e.Nodup->(∀D∈e,j.heap.size<=D/\Off Γ' c w D/\w.heap[D]? = some (.deferred (some [])))->SI C I Γ' c d b w->Stp C f k j g Γ' d.hp w c->LeavesInM F n C.P fn b l (e.map mkD) .returning w
 | [],w,_,_,S,h=>t w S h
 | D::e,w,y,p,S,h=>by
  obtain⟨u,m,v⟩:=p D (by simp);refine⟨by simp,.inl ⟨D,w.putObj D (.deferred none),rfl,run_takeDeferred v,?_⟩⟩;have i:=ah9.1 y;refine B35 q t e _ i.2 (λE x=>?_) (S.offW q (Xi.put m)) (h.put u m);obtain⟨z,A,B⟩:=p E (by simp[x]);refine⟨z,A.put,(o6 ?_).trans B⟩;grind
def Lz(hX:XOK C)(hO:Lf C)(hm:C.P.follows .mixedOrders=true):∀d,Dc C (evC C d)
 | 0=>λJ I Z K D hy g args H s ret j k h=>by simp[evC] at h
 | d+1=>λJ I Z K D hy g args H s ret j k h L Y w u S hH hg hi A G hn=>by
  have ih:=Lz hX hO hm d;simp only[evC] at h;split at h
  ·rename_i fn P M;split at h
   ·rename_i c F;obtain⟨m,p⟩:=hO g fn c P M F;intro ro n o a next Q N
    rw[Ra M F p];simp only[ac6];refine⟨λh=>(by simp[J3,aa8] at h),?_⟩;have key:CallsIn aa8 (n-1) C.P g u w λe i=>∃V,e = .returned V/\Cb C I L H w Y ret j k V i:=by
     refine callsIn_of_wp_marks M F trivial ?_;have S0:SI C I L Y { sl:=args++x3 (fn.ntmps-args.length) (.tup []),hp:=H,s:=s } (u++y7 (fn.ntmps-u.size) undef) w:=⟨hH,Dh9 G hn,hg,hi,A⟩
     refine Cb4 (ro:=none) (rf:=true) (n:=n-1) (n0:=w.heap.size) (a:={ tmps:=u++y7 (fn.ntmps-u.size) undef,defers:=[] }) ⟨D,ih,hX,hy⟩ hm c m S h S0 (Mk.nil (o0 _)) Ro.none ?_;intro o f y w' Γ' t T U q ⟨_,Ds,k4,k5,k6⟩
     suffices z:∀w',SI C I Γ' t f y.tmps w'->Stp C L H w Y Γ' f.hp w' t->GL C f.sl f.hp fn.results.toList (λv=>some (Dn v,f.hp,f.s))=some (ret,j,k)->∃V,(results fn y.tmps).run C.P w' = .ok V w'/\∃x,ah6 V = .returned x/\Cb C I L H w Y ret j k x w' by
      have l:GL C f.sl f.hp fn.results.toList (λv=>some (Dn v,f.hp,f.s))=some (ret,j,k)->LeavesInM (J3 none) (n-1) C.P fn y.tmps (λe i=>∃V,e = .returned V/\Cb C I L H w Y ret j k V i) y.defers .returning w':=λh=>by
       rw[k4];exact B35 D (λw' a b=>z w' a b h) Ds w' k5 k6 q U
      cases o with
      | normal=>exact l T
      | ret=>exact l T
      | exit id=>cases T
     intro w' q U;have z:∀(h:GL C f.sl f.hp fn.results.toList (λv=>some (Dn v,f.hp,f.s))=some (ret,j,k)),∃V,(results fn y.tmps).run C.P w' = .ok V w'/\∃x,ah6 V = .returned x/\Cb C I L H w Y ret j k x w':=λh=>by
      obtain⟨v,Us,X,h2,h3,h4⟩:=Wp q.hr q.sr _ h;simp only[j0,p6] at X;obtain⟨rfl,rfl,rfl⟩:=X;refine⟨_,?_,_,rfl,Γ',t,U,q.hr,Dp5 h3,λc G=>h4 c (At3 G),q.inv,q.dis⟩;rw[Bi7,ag6,h2];rfl
     omega
    have B:CallsIn (J3 ro) (n-1) C.P g u w λe i=>∃V,e = .returned V/\Cb C I L H w Y ret j k V i:=key
    refine B.mono ?_;grind
   ·cases h
  ·cases h
end
end
section
open Go Go.ChangeShapes Go.RowKit Go.WideShapes
inductive Ty where
 | bool
 | int (k:IntKind)
 | str
 | slice (e:List Ty)
 deriving Inhabited
def Da5(P:Program)(f:Nat->Option (List Ty)):List Field->Nat->Option (List Ty)
 | [],_=>some []
 | x::r,off=>if x.offset==off then match f x.type with
   | some a=>if P.cellsOf x.type==a.length then match Da5 P f r (off+a.length) with
    | some b=>some (a++b)
    | none=>none else none
   | none=>none else none
def Nd(P:Program):Nat->Nat->Option (List Ty)
 | 0,_=>none
 | d+1,t=>match P.underlying t with
  | some .bool=>some [.bool]
  | some (.int k)=>some [.int k]
  | some .string=>some [.str]
  | some (.slice e)=>match Nd P d e with
   | some a=>if P.cellsOf e==a.length&&decide (0<a.length) then some [.slice a] else none
   | none=>none
  | some (.struct b)=>match Da5 P (Nd P d) b.toList 0 with
   | some r=>if P.cellsOf t==r.length then some r else none
   | none=>none
  | some (.array n e)=>match Nd P d e with
   | some a=>if P.cellsOf e==a.length&&P.cellsOf t==n*a.length then some (x3 n a).flatten else none
   | none=>none
  | _=>none
mutual
def Ty.of:Ty->SV->Prop
 | .bool,v=>∃b,v = .bool b
 | .int k,v=>∃n,v = .int k n/\k.min<=n/\n<=k.max
 | .str,v=>∃l,v = .str l/\l.length<=maxLen
 | .slice e,v=>v = .sl true false e.length []\/∃els,v = .sl false false e.length els/\els.length<=maxLen/\∀el∈els,Ty.ofL e el
def Ty.ofL:List Ty->List SV->Prop
 | [],l=>l=[]
 | t::r,l=>∃v q,l=v::q/\t.of v/\Ty.ofL r q
end
def Ty.ofL_len:∀{ts:List Ty} {l:List SV},Ty.ofL ts l->l.length=ts.length
 | [],l,h=>by simp only[Ty.ofL] at h;subst h;rfl
 | t::r,l,h=>by
  simp only[Ty.ofL] at h;obtain⟨v,q,rfl,_,hq⟩:=h;simp[Ty.ofL_len hq]
def Ty.ofL_append:∀{a b:List Ty} {x y:List SV},Ty.ofL a x->Ty.ofL b y->Ty.ofL (a++b) (x++y)
 | [],b,x,y,h,k=>by simp only[Ty.ofL] at h;subst h;exact k
 | t::r,b,x,y,h,k=>by
  simp only[Ty.ofL] at h;obtain⟨v,q,rfl,hv,hq⟩:=h;simp only[ae4,Ty.ofL];exact⟨v,q++y,rfl,hv,Ty.ofL_append hq k⟩
def CVS(St:Nat->Prop)(w:World)(l:List SV)(A:List Value):Prop:=A.length=l.length/\∀j (h:j<l.length),∃U,A[j]? = some U/\VS St w (l[j]) U
def CVS.append{St:Nat->Prop}{w:World}{x y:List SV}{X Y:List Value}(hx:CVS St w x X)(hy:CVS St w y Y):CVS St w (x++y) (X++Y):=by
 refine⟨by simp[hx.1,hy.1],λj hj=>?_⟩;by_cases h:j<x.length
 ·obtain⟨U,e,k⟩:=hx.2 j h;exact⟨U,by rw[ab4 (by rw[hx.1];exact h)];exact e,by rw[x5 h];exact k⟩
 ·obtain⟨U,e,k⟩:=hy.2 (j-x.length) (by simp at hj;omega);exact⟨U,by rw[aa9 (by rw[hx.1];omega),hx.1];exact e,by rw[ab6 (by omega)];exact k⟩
def CVS.one{St:Nat->Prop}{w:World}{v:SV}{V:Value}(h:VS St w v V):CVS St w [v] [V]:=⟨rfl,λj hj=>by
 have:j=0:=by simpa using hj
 subst this;exact⟨V,rfl,h⟩⟩
def Cm8{w:World}{a:Addr}{V:Value}(h:w.cell? a=some V):a.spot=none/\a.block<w.heap.size:=by
 unfold ah5 at h;split at h
 ·rename_i c t e b;refine⟨?_,(o7.1 b).1⟩;cases d:a.spot with
  | none=>rfl
  | some x=>rw[d] at h;simp at h
 ·cases h
def Aj9{a:Addr}(h:a.spot=none)(n:Nat):a.add n=⟨a.block,a.off+n,none⟩:=by
 unfold Addr.add;split
 ·rename_i b;subst b;cases a;simp_all
 ·rfl
def Dh5{a:Addr}{m n:Nat}(h:a.spot=none):(a.add m).add n=⟨a.block,a.off+m+n,none⟩:=by rw[Aj9 h,Aj9 rfl]
def UD{H:Type}{enc:TypeId × Value->H}{P:Program}{w:World}{base:Nat}{sp:Nat->Bool}{held:Bool}{f:Nat->Option (List Ty)}{m:Nat}
  (p:∀t c cs x,f t=some c->af0 enc P w base sp held m t cs=some x->∃d,Ty.ofL c d/\CVS (· < w.heap.size) w d cs) (cs:List Value) :
  ∀(l:List Field) (off:Nat) (c:List Ty),Da5 P f l off=some c->(∀(i:Nat) (fl:Field),l[i]? = some fl->∃y,af0 enc P w base sp held m fl.type ((cs.drop fl.offset).take (P.cellsOf fl.type))=some y)->
   ∃d,Ty.ofL c d/\CVS (· < w.heap.size) w d ((cs.drop off).take c.length)
 | [],off,c,h,_=>by
  simp only[Da5,j0] at h;subst h;exact⟨[],rfl,by simp,λj D=>by simp at D⟩
 | x::r,off,c,h,g=>by
  simp only[Da5] at h;split at h
  ·rename_i k;simp only[beq_iff_eq] at k;split at h
   ·rename_i a A;split at h
    ·rename_i n;simp only[beq_iff_eq] at n;split at h
     ·rename_i b B;simp only[j0] at h;subst h;obtain⟨y,o⟩:=g 0 x rfl;rw[k,n] at o;obtain⟨F,q,u⟩:=p _ _ _ _ A o;obtain⟨G,v,z⟩:=UD p cs r _ b B (λi fl C=>g (i+1) fl (by simpa using C));refine⟨F++G,Ty.ofL_append q v,?_⟩;have:=u.append z;have e:(cs.drop off).take (a++b).length=(cs.drop off).take a.length++(cs.drop (off+a.length)).take b.length:=by
       rw[w9,ai8,ai1]
      rw[e];exact this
     ·cases h
    ·cases h
   ·cases h
  ·cases h
def Ak0{H:Type}{enc:TypeId × Value->H}{P:Program}{w:World}{base:Nat}{sp:Nat->Bool}{held:Bool}{e m:Nat}{a:List Ty}(cs:List Value)
  (f:∀cs x,af0 enc P w base sp held m e cs=some x->∃b,Ty.ofL a b/\CVS (· < w.heap.size) w b cs) (d:P.cellsOf e=a.length) :
  ∀(n k:Nat),(∀i,k<=i->i<k+n->∃y,af0 enc P w base sp held m e ((cs.drop (i*P.cellsOf e)).take (P.cellsOf e))=some y)->
   ∃b,Ty.ofL (x3 n a).flatten b/\CVS (· < w.heap.size) w b ((cs.drop (k*a.length)).take (n*a.length))
 | 0,k,_=>⟨[],by simp[Ty.ofL],by simp,λj q=>by simp at q⟩
 | n+1,k,hall=>by
  obtain⟨y,r⟩:=hall k (o0 _) (by omega);obtain⟨t,g,c⟩:=f _ _ r;obtain⟨u,h,l⟩:=Ak0 cs f d n (k+1) (λi o p=>hall i (by omega) (by omega));rw[d] at c;refine⟨t++u,?_,?_⟩
  ·rw[List.replicate_succ,List.flatten_cons];exact Ty.ofL_append g h
  ·have:=c.append l;have e:(cs.drop (k*a.length)).take ((n+1)*a.length)=(cs.drop (k*a.length)).take a.length++(cs.drop ((k+1)*a.length)).take (n*a.length):=by
    rw[show(n+1)*a.length=a.length+n*a.length by rw[af9,Nat.one_mul,aj4],ai8,ai1,show k*a.length+a.length=(k+1)*a.length by rw[af9,Nat.one_mul]]
   rw[e];exact this
def HH{H:Type}{enc:TypeId × Value->H}{P:Program}{w:World}{base:Nat}{sp:Nat->Bool}{held:Bool}:∀(n t:Nat) (q:List Ty) (m:Nat) (cs:List Value) (x:DataW H × List MemPlace),Nd P n t=some q->
  af0 enc P w base sp held m t cs=some x->∃p,Ty.ofL q p/\CVS (· < w.heap.size) w p cs
 | 0,t,q,m,cs,x,h,_=>by simp[Nd] at h
 | n+1,t,q,m,cs,x,h,hd=>by
  simp only[Nd] at h;split at h
  ·rename_i B;simp only[j0] at h;subst h;obtain⟨b,rfl,_⟩:=DataW.trod_bool B hd;exact⟨[.bool b],by simp[Ty.ofL,Ty.of],CVS.one (.bool b)⟩
  ·rename_i k B;simp only[j0] at h;subst h;obtain⟨b,rfl,_,R⟩:=DataW.trod_int B hd;simp only[Lit.wf,j4,af] at R;exact⟨[.int k b],by simp[Ty.ofL,Ty.of,R],CVS.one (.int k b)⟩
  ·rename_i B;simp only[j0] at h;subst h;obtain⟨b,rfl,_,R⟩:=DataW.trod_string B hd;exact⟨[.str b.data.toList],by simpa[Ty.ofL,Ty.of] using R,CVS.one (.str b)⟩
  ·rename_i e B;split at h
   ·rename_i a T;split at h
    ·rename_i D;simp only[j4,beq_iff_eq,af] at D;simp only[j0] at h;subst h;rcases DataW.trod_slice B hd with⟨rfl,_⟩|⟨g,len,cap,S,a0,O,_,rfl,_,hb,hl,hm,F,C,_,_⟩
     ·exact⟨[.sl true false a.length []],by simp[Ty.ofL,Ty.of],CVS.one (.nil _ _)⟩
     ·have v:∀i,i<len->∃L d,w.cells? base (g.add (i*a.length)) a.length=some d/\Ty.ofL a L/\CVS (· < w.heap.size) w L d:=λi f=>by
       have u:=C i f;rw[c9 (by omega),D.1,Option.bind_eq_some_iff] at u;obtain⟨d,o,J⟩:=u;obtain⟨L,h4,h5⟩:=HH n e a O d _ T J;exact⟨L,d,o,h4,h5⟩
      by_cases h0:len=0
      ·subst h0;exact⟨[.sl false false a.length []],by simp[Ty.ofL,Ty.of],CVS.one (.emp _ _ _ _ (by simp) hm)⟩
      ·let c:List (List SV):=(ai4 len).attach.map λi=>ae3 (v i.1 (ai3.1 i.2))
       have M:c.length=len:=by simp[c]
       have l:∀i (f:i<c.length),∃d,w.cells? base (g.add (i*a.length)) a.length=some d/\Ty.ofL a (c[i])/\CVS (· < w.heap.size) w (c[i]) d:=λi f=>by
        have z:i<len:=by omega
        have e:c[i]=ae3 (v i z):=by simp[c]
        rw[e];exact af3 (v i z)
       have A:g.spot=none/\g.block<w.heap.size:=by
        obtain⟨d,u,o,J⟩:=l 0 (by omega);obtain⟨_,X,I⟩:=ag7 u;have:=I 0 D.2;rw[c9 (by omega)] at this;simp only[aj6,Addr.add,if_true] at this;exact Cm8 this
       have C:∀i (f:i<c.length),(c[i]).length=a.length:=λi f=>by
        obtain⟨d,u,o,J⟩:=l i f;exact Ty.ofL_len o
       have y:∀i (f:i<c.length) j (G:j<(c[i]).length),∃U,w.cell? ⟨g.block,g.off+i*a.length+j,none⟩=some U/\VS (· < w.heap.size) w (c[i][j]) U:=λi f j G=>by
        obtain⟨d,u,o,J⟩:=l i f;obtain⟨_,X,I⟩:=ag7 u;have W:j<a.length:=by rw[<-C i f];exact G
        obtain⟨U,K,Q⟩:=J.2 j G;refine⟨U,?_,Q⟩;rw[<-K,<-I j W,Dh5 A.1]
       refine⟨[.sl false false a.length c],?_,CVS.one ?_⟩
       ·simp only[Ty.ofL,Ty.of];refine⟨_,[],rfl,.inr ⟨c,rfl,by omega,λL Z=>?_⟩,rfl⟩;obtain⟨i,f,rfl⟩:=List.getElem_of_mem Z;obtain⟨d,u,o,J⟩:=l i f;exact o
       ·have e:g=⟨g.block,g.off,none⟩:=by cases g;simp_all
        rw[e];refine .sl false c g.block g.off len cap a.length (λi j=>(w.cell? ⟨g.block,g.off+i*a.length+j,none⟩).getD undef) M.symm hl hm (by simp) A.2 C (λi f j G=>?_) (λi f j G=>?_)
        ·obtain⟨U,K,Q⟩:=y i f j G;rw[K];rfl
        ·obtain⟨U,K,Q⟩:=y i f j G;rw[K];exact Q
    ·cases h
   ·cases h
  ·rename_i fs B;split at h
   ·rename_i r hr;split at h
    ·rename_i D;simp only[beq_iff_eq] at D;simp only[j0] at h;subst h;obtain⟨xs,O,_,_,F,N,V⟩:=DataW.trod_struct B hd;obtain⟨p,u,o⟩:=UD (λt q cs x=>HH n t q O cs x) cs fs.toList 0 r hr (λi fl f=>by
      have z:fs[i]? = some fl:=by simpa using f
      have:=V i fl z;have Y:i<xs.length:=by rw[N];exact(o7.1 z).1
      rw[c9 Y] at this;exact⟨_,this⟩)
     refine⟨p,u,?_⟩;rw[ad9,af1 (by omega)] at o;exact o
    ·cases h
   ·cases h
  ·rename_i k e B;split at h
   ·rename_i a T;split at h
    ·rename_i D;simp only[j4,beq_iff_eq] at D;simp only[j0] at h;subst h;obtain⟨xs,O,_,_,F,N,V⟩:=DataW.trod_array B hd;obtain⟨p,u,o⟩:=Ak0 cs (λcs x=>HH n e a O cs x T) D.1 k 0 (λi _ f=>by
      have:=V i (by omega);rw[c9 (by omega)] at this;exact⟨_,this⟩)
     refine⟨p,u,?_⟩;rw[aj6,ad9,af1 (by omega)] at o;exact o
    ·cases h
   ·cases h
  ·cases h
def EK(P:Program)(t:Nat):Bool:=match P.underlying t with
 | some (.struct _)=>true
 | some (.array _ _)=>true
 | _=>false
def QC(P:Program)(t:Nat)(v:PV):Prop:=∃a l,Nd P 20 t=some a/\Ty.ofL a l/\((EK P t=true/\v = .agg (l.map .s))\/(EK P t=false/\∃x,l=[x]/\v = .s x))
def Ni(P:Program):List Nat->List PV->Prop
 | [],l=>l=[]
 | t::r,l=>∃v q,l=v::q/\QC P t v/\Ni P r q
def QC.nms{P:Program}{t:Nat}{v:PV}(h:QC P t v):v.nms=[]:=by
 obtain⟨tys,l,_,_,h⟩:=h;rcases h with⟨_,rfl⟩|⟨_,x,_,rfl⟩
 ·simp only[PV.nms];rw[s9];intro c hc;obtain⟨j,hj,hc⟩:=C7.1 hc;simp[PV.nms] at hc
 ·rfl
def Ni.nms{P:Program}:∀{ts:List Nat} {l:List PV},Ni P ts l->D0 l=[]
 | [],l,h=>by simp only[Ni] at h;subst h;rfl
 | t::r,l,h=>by
  simp only[Ni] at h;obtain⟨v,q,rfl,h1,h2⟩:=h;simp[D0,h1.nms,h2.nms]
section
variable {H : Type} {enc : TypeId × Value -> H} {P : Program} {w : World}
def Dp1{v:Value}{r:Reach}{b:Nat}{t:Nat}(c:EK P t=false)(Qf:ab2 P w r b t v):∀cs,v = .agg cs->False:=by
 rintro cs rfl;simp only[ab2,Cell.okWide] at Qf;unfold EK at c;split at Qf
 ·grind
 ·grind
 ·revert Qf
  cases a:P.underlying t with
  | none=>simp[Cell.ok,a]
  | some d=>cases d<;>simp[Cell.ok,a]
def C42{Γ:Ctx}{sh:Nat->Option Shp}{sp:Nat->Bool}{held:Bool}{r:Reach}{b u t:Nat}{v:Value}{d:DataW H}{D:List MemPlace}(hΓ:∀g,g<w.heap.size->Γ.St g)(i:(Nd P 20 t).isSome=true)(Qf:ab2 P w r b t v)(z:DataW.Trod enc P w u sp held t v d D) :
  ∃q,QC P t q/\VP Γ sh w q v:=by
 obtain⟨c,o⟩:=v8.1 i;obtain⟨m,C⟩:=z;obtain⟨a,p,f⟩:=HH 20 t c m _ _ o C;have lift:∀{x:SV} {V:Value},VS (· < w.heap.size) w x V->VS Γ.St w x V:=λh=>h.mono (λ_ _=>rfl) hΓ
 cases l:EK P t with
 | true=>
  refine⟨.agg (a.map .s),⟨c,a,o,p,.inl ⟨l,rfl⟩⟩,?_⟩;have:∃cs,v = .agg cs:=by
   unfold EK at l;simp only[ab2] at Qf;grind
  obtain⟨cs,rfl⟩:=this;simp only[Value.cells] at f;refine VP.mk_agg (by simpa using f.1) λj A=>?_
  have n:j<a.length:=by simpa using A
  obtain⟨U,e,k⟩:=f.2 j n;exact⟨U,by simpa using e,by rw[j8];exact .s _ _ (lift k)⟩
 | false=>
  have y:v.cells = #[v]:=by
   have:=Dp1 l Qf;cases v with
   | agg cs=>exact(this cs rfl).elim
   | _=>rfl
  rw[y] at f;have B:a.length=1:=by have:=f.1;simpa using this.symm
  obtain⟨x,rfl⟩:∃x,a=[x]:=by
   match a,B with
   | [x],_=>exact⟨x,rfl⟩
  obtain⟨U,e,k⟩:=f.2 0 (by simp);simp only[ae5,j0] at e;subst e;exact⟨.s x,⟨c,[x],o,p,.inr ⟨l,x,rfl,rfl⟩⟩,.s _ _ (lift k)⟩
def TM{Γ:Ctx}{sh:Nat->Option Shp}{sp:Nat->Bool}{held:Bool}{r:Reach}{b x:Nat}(hΓ:∀g,g<w.heap.size->Γ.St g):∀(f:List Nat) (i:List Value) (ds:List (DataW H)) (n:List MemPlace),(∀t∈f,(Nd P 20 t).isSome=true)->(∀(j:Nat) t v,f[j]? = some t->i[j]? = some v->ab2 P w r b t v)->ad1 enc P w x sp held f i ds n->
  ∃a,Ni P f a/\i.length=a.length/\ds.length=f.length/\∀j (h:j<a.length),∃U,i[j]? = some U/\VP Γ sh w (a[j]) U
 | [],i,ds,n,_,_,h=>by
  obtain⟨rfl,rfl,_⟩:=trodAll_nil h;exact⟨[],rfl,rfl,rfl,λj l=>by simp at l⟩
 | t::f,i,ds,n,c,Qf,h=>by
  obtain⟨v,o,d,m,p,q,rfl,rfl,rfl,C,D⟩:=trodAll_cons h;obtain⟨u,I,J⟩:=C42 (Γ:=Γ) (sh:=sh) hΓ (c t (by simp)) (Qf 0 t v rfl rfl) C;obtain⟨a,y,z,A,B⟩:=TM (Γ:=Γ) (sh:=sh) hΓ f o m q (λt F=>c t (by simp[F])) (λj t v l G=>Qf (j+1) t v (by simpa using l) (by simpa using G)) D;refine⟨u::a,⟨u,a,rfl,I,y⟩,by simp[z],by simp[A],λj l=>?_⟩;cases j with
  | zero=>exact⟨v,rfl,J⟩
  | succ j=>
   obtain⟨U,e,k⟩:=B j (by simpa using l);grind
def KI(g:laidOutB P=true){w':World}{ts:List Nat}{vs:List Value}{ds:List (DataW H)}{ps:List MemPlace}:∀{ts:List Nat} {vs:List Value} {ds:List (DataW H)} {ps:List MemPlace},(∀t∈ts,P.readableRec t=true/\t<P.types.size)->ad1 enc P w 0 (λ_=>true) true ts vs ds ps->(∀x∈ps,w.sameAt w' x)->∀sp:Nat->Bool,(∀x∈ps,sp x.block=true)->
  ad1 enc P w' 0 sp true ts vs ds ps
 | [],vs,ds,ps,_,h,_,sp,_=>by
  obtain⟨rfl,rfl,rfl⟩:=trodAll_nil h;exact trodAll_mk0
 | t::ts,vs,ds,ps,e,h,i,sp,b=>by
  obtain⟨v,f,d,c,p,q,rfl,rfl,rfl,j,k⟩:=trodAll_cons h;refine⟨p,q,WideElems.Trod_stays g (e t (by simp)).1 (e t (by simp)).2 j (λx a=>i x (by simp[a])) (λx a=>b x (by simp[a])),KI g (w':=w') (ts:=ts) (vs:=f) (ds:=c) (ps:=q) (λt l=>e t (by simp[l])) k (λx a=>i x (by simp[a])) sp (λx a=>b x (by simp[a])),rfl⟩
def PH{f:Func}{s:ChangeSpec}{c fresh d k:Bool}{W m:World}{args:Array Value}{v:Value}{ds n:List (DataW H)}{a pa pv:List MemPlace}
  (u:aj7 enc P f.params.toList s.vars c W args.toList ds n a)
  (i:∀(b:Nat) (sp:Nat->Bool) (B:Bool),ad1 enc P m b sp B f.resultTypes.toList (v.resultList f.resultTypes.size) (s.fn H (ds++n)).results [])
  (e:∀sp:Nat->Bool,(∀p∈a,sp p.block=true)->ad1 enc P m 0 sp true f.params.toList args.toList (s.fn H (ds++n)).args pa)
  (g:∀sp:Nat->Bool,(∀p∈a,sp p.block=true)->DataW.TrodVars enc P m sp s.vars (s.fn H (ds++n)).vars pv)
  (l:a=pa++pv) (z:Below W.heap.size W m)
  (y:∀(j:Nat) (t:TypeId) (r:Value),f.resultTypes[j]? = some t->(v.resultList f.resultTypes.size)[j]? = some r->ab2 P m .any 0 t r) :
  s.post enc P f c fresh d k W args v m:=by
 have h:∀p∈a,(λb=>decide (b<W.heap.size)) p.block=true:=λp o=>by simpa using u.lt p o
 refine⟨ds,n,a,[],pa,pv,u,i _ _ _,e _ h,g _ h,z.frame _,λ_=>?_⟩;have x:=u.lt;obtain⟨_,_,_,_,_,D,C⟩:=u;refine⟨y,_,_,([]++pa)++pv,⟨[]++pa,pv,trodAll_append (e _ (λ_ _=>rfl)) (i _ _ _),g _ (λ_ _=>rfl),rfl,?_,?_⟩,?_⟩
 ·intro b off o;have q:MemPlace.cell b off∈a:=by rw[l];simpa using o
  rw[z.frozen (x _ q)];exact D b off q
 ·intro A;have:=C A;rw[l] at this;simpa using this
 ·intro p o _;rw[l];simpa using o
end
def Br6{P:Program}{f:Nat}{a:Array Value}{w:World}{R:Value->World->Prop}(b:(callFunc f a).run P w = .ok (.enter f a) w)(h:R5 P ((callFunc f a).run P w) R):Calls P f a w λe w'=>∃V,e = .returned V/\R V w':=by
 rw[b] at h;have:=h none 1 { op:=.move (.const undef),dst:=some 0,guard:=none,type:=0,after:=#[],pos:=default } { tmps:=#[undef],defers:=[] } (λg w'=>∃V,g.tmps[0]? = some V/\R V w') (λ_ _ _=>False) (λV w' k=>⟨V,by simp[ag2],k⟩);rw[ac6] at this;have j:CallsIn aa8 0 P f a w _:=this.2;refine(callsIn_wide.1 j).mono λe w' d=>?_
 cases e with
 | returned v=>
  obtain⟨V,i,l⟩:=d;simp[ag2] at i;grind
 | panicked c=>exact d.elim
 | outgrown=>obtain⟨_,_,h⟩:=d;exact h.elim
def noY:Yh Unit:=λ_ _=>none
def Cy2{H:Type}{enc:TypeId × Value->H}{C:Cfg}{f R:Nat}{fn:Func}{c:Code}{s:ChangeSpec}{apart fresh handsOn again:Bool}(hX:XOK C)(hO:Lf C)(hm:C.P.follows .mixedOrders=true)(hl:laidOutB C.P=true)(I:C.P.funcs[f]? = some fn)(hb:fn.body=some c)(r:(fn.name == "runtime.NumGoroutine")=false)
  (Q:∀t∈fn.params.toList,(C.P.readableRec t=true/\t<C.P.types.size)/\(Nd C.P 20 t).isSome=true) (n:fn.resultTypes = #[R]) (a:C.P.underlying R=some .bool) (i:s.vars=[])
  (y:∀ds:List (DataW H),ds.length=fn.params.toList.length->s.fn H ds = { results:=[.lit (.bool true)],args:=ds })
  (G:∀args,Ni C.P fn.params.toList args->∃d D,evC C d Unit noY f args [] ()=some (.s (.bool true),D,()))
  (W:World) (Z:GOK C (· < W.heap.size) W) (base:Nat) (args:Array Value) (ds S:List (DataW H)) (l:List MemPlace)
  (Qf:∀(j:Nat) t v,fn.params[j]? = some t->args[j]? = some v->ab2 C.P W .any base t v)
  (O:aj7 enc C.P fn.params.toList s.vars apart W args.toList ds S l) :
  Calls C.P f args W λe F=>∃v,e = .returned v/\s.post enc C.P fn apart fresh handsOn again W args v F:=by
 have o:=O;obtain⟨p,q,hA,hV,rfl,a0,a1⟩:=O;rw[i] at hV;obtain⟨rfl,rfl⟩:=trodVars_none hV;let Γ:Ctx:={ St:=(· < W.heap.size),nm:=λ_=>none,yv:=.nilFunc,yv1:=rfl }
 obtain⟨B,N,T,X,Y⟩:=TM (Γ:=Γ) (sh:=A3 []) (λ_ h=>h) fn.params.toList args.toList ds p (λt L=>(Q t L).2) (λj t v J M=>Qf j t v (by simpa using J) (by simpa using M)) hA;obtain⟨d,D,P⟩:=G B N;have hS:=Lz hX hO hm d Unit I0 noY .nilFunc Cq5 Cq6 f B [] () _ D () P Γ noΦ W args rfl (Np (λ_=>rfl) (λ_ h=>h)) Z (λ_ h=>h) (λb g h=>by cases h)
  ⟨by rw[<-ad5];exact T,λj J=>by obtain⟨U,e,k⟩:=Y j J;exact⟨U,by simpa using e,k⟩⟩ (by rw[N.nms];simp)
 refine(Br6 (Ra I hb r) hS).mono ?_;rintro e F ⟨V,rfl,Γ',Φ',z,hH,M,_⟩;have hV:=M.inv_bool;subst hV;have m:Below W.heap.size W F:=⟨z.os,z.tape,z.output,z.size,λk hk=>z.frame k hk (λb=>by simp[Γ]) (λx=>x)⟩
 simp only[y8] at o;refine⟨_,rfl,?_⟩;have u:=y ds X;have K:=o.lt;refine PH (pa:=p) (pv:=[]) o (λb sp P=>?_) (λsp A=>?_) (λsp _=>?_) (by simp) m ?_
 ·rw[y8,u,n];exact trodAll_cons_mk (shut_bool a _) trodAll_mk0
 ·rw[y8,u];exact KI hl (w:=W) (ts:=fn.params.toList) (vs:=args.toList) (ds:=ds) (ps:=p) (λt L=>(Q t L).1) hA (λx hx=>m.same (K x hx)) sp A
 ·rw[y8,u,i];rfl
 ·exact ok_one n rfl (okWide_bool_mk a _)
end
section
open Go
def C0(P:Program)(G:GT)(g:Nat)(pf:List PV->Tr):Prop:=
 ∀args ret c,M6 (pf args)=some (ret,c)->∀C:Cfg,C.P=P->C.G=G->∀a w d,(∀b,a.nm b=none)->HR a [] w->GOK C a.St w->CR a (A3 []) w args d->
  R5 P ((callFunc g d).run P w) (Cb C I0 a [] w noΦ ret c ())
def Kh{C₀:Cfg}{g:Nat}{pf:List PV->Tr}(y:XOK C₀)(x:Lf C₀)(B:C₀.P.follows .mixedOrders=true)
  (h:∀args ret c,M6 (pf args)=some (ret,c)->D0 args=[]/\∃d,evC C₀ d Unit noY g args [] ()=some (ret,c,())):C0 C₀.P C₀.G g pf:=by
 intro args ret c o C F f p w t n v u A;obtain⟨m,d,k⟩:=h args ret c o;have e:GOK C₀ p.St w:=u.congr f.symm;refine(Lz y x B d Unit I0 noY p.yv Cq5 Cq6 g args [] () ret c () k p noΦ w t rfl v e (λ_ h=>h) (λb g h=>by rw[n] at h;cases h) A (by rw[m];simp)).mono ?_;rintro V w' ⟨q,r,a,i,D,hvn,l,j⟩;exact⟨q,r,⟨a.os,a.tape,a.output,a.size,a.sub,a.stnew,a.own,a.foot,a.frame,a.yv,a.len,λb z=>by simp at z⟩,i,D,hvn,l,j⟩
def Tr.snap:Tr->Tr
 | .ret v H=>cond (v.snap H).nms.isEmpty (.ret (v.snap H) []) .fail
 | .need c t=>.need c t.snap
 | .split c a b=>.split c a.snap b.snap
 | .fail=>.fail
def Tr.snap_res:∀{t:Tr} {v:PV} {H:List Blk},M6 t.snap=some (v,H)->∃v' H',M6 t=some (v',H')/\v=v'.snap H'/\H=[]/\v.nms=[]
 | .ret v' H',v,H,h=>by
  simp only[Tr.snap] at h;cases he:(v'.snap H').nms.isEmpty with
  | false=>rw[he] at h;cases h
  | true=>
   rw[he] at h;simp only[aa,M6,Gm,j0,p6] at h;obtain⟨rfl,rfl⟩:=h;exact⟨v',H',rfl,rfl,rfl,ab1.1 he⟩
 | .need c t,v,H,h=>by
  cases c with
  | true=>exact Tr.snap_res (t:=t) h
  | false=>cases h
 | .split c a b,v,H,h=>by
  cases c with
  | true=>exact Tr.snap_res (t:=a) h
  | false=>exact Tr.snap_res (t:=b) h
 | .fail,_,_,h=>by cases h
def C0.snap{P:Program}{G:GT}{g:Nat}{pf:List PV->Tr}(h:C0 P G g pf):C0 P G g (λargs=>(pf args).snap):=by
 intro args ret Hc hpf C hP hGe Γ w Vs hnm hH hG hc;obtain⟨ret',Hc',hpf',rfl,rfl,hnr⟩:=Tr.snap_res hpf;refine(h args ret' Hc' hpf' C hP hGe Γ w Vs hnm hH hG hc).mono ?_;rintro V w' ⟨Γ1,Φ1,hs,hH1,hv,hvn,hi1,hd1⟩;let Γ2:Ctx:={ Γ1.all with nm:=λ_=>none }
 have hlt:∀g,Γ2.St g->g<w'.heap.size:=λg hg=>by
  rcases hg with hg|⟨b,hb⟩
  ·exact hH1.stlt g hg
  ·exact(hH1.lt b g hb).2.1
 refine⟨Γ2,Φ1,⟨hs.os,hs.tape,hs.output,hs.size,λg hg=>.inl (hs.sub g hg),λg hg=>?_,λb g h=>by simp[Γ2] at h,hs.foot,hs.frame,hs.yv,o0 _,λb hb=>by simp at hb⟩,
  Np (λ_=>rfl) hlt,?_,by rw[hnr];simp,hi1,λb g h=>by simp[Γ2] at h⟩
 ·rcases hg with hg|⟨b,hb⟩
  ·exact hs.stnew g hg
  ·rcases hs.own b g hb with⟨h',_⟩|h'
   all_goals grind
 ·exact VP.mono (Γ:=Γ1.all) (Γ':=Γ2) (w:=w') (w':=w') (sh:=A3 Hc') (ok:=λ_=>False) ⟨λ_ _=>rfl,λ_ h=>h,λ_ h=>h.elim,λ_ h=>h.elim,λ_ _ h=>h.elim,rfl⟩ (hv.snap hH1) (by rw[hnr];simp)
def Af9:List (Nat × (List PV->Tr))->Nat->Option (List PV->Tr)
 | [],_=>none
 | (g,a)::r,n=>cond (x4 n g) (some a) (Af9 r n)
def M3(P:Program)(G:GT):List (Nat × (List PV->Tr))->Prop
 | []=>True
 | (g,a)::r=>C0 P G g a/\M3 P G r
def M3.x1{C:Cfg}{l:List (Nat × (List PV->Tr))}(hl:C.X=Af9 l)(h:M3 C.P C.G l):Ed6 C:=by
 intro g pf args ret Hc hg hpf Γ w Vs hnm hH hG hc;rw[hl] at hg;have key:∀l:List (Nat × (List PV->Tr)),M3 C.P C.G l->Af9 l g=some pf->C0 C.P C.G g pf:=by
  intro l
  induction l with
  | nil=>intro _ h;cases h
  | cons e r ih=>
   intro h1 h2;obtain⟨n,q⟩:=e;simp only[Af9] at h2;cases hb:x4 g n with
   | true=>
    rw[hb] at h2;simp only[aa,j0] at h2;have:=w6 hb;subst this;subst h2;exact h1.1
   | false=>
    rw[hb] at h2;exact ih h1.2 h2
 exact key l h hg args ret Hc hpf C rfl rfl Γ w Vs hnm hH hG hc
def LT{C a:Cfg}(h:C.P=a.P):Kq C=Kq a:=by
 funext s
 unfold Kq;split
 ·simp only[Ij,Cfg.sh,h]
 ·rfl
 ·rfl
def Stp.congr{C C':Cfg}(h:C.P=C'.P){Γ Γ':Ctx}{H H':List Blk}{w w':World}{Φ Φ':Nat->Prop}(s:Stp C Γ H w Φ Γ' H' w' Φ'):Stp C' Γ H w Φ Γ' H' w' Φ':=
 ⟨s.os,s.tape,s.output,s.size,s.sub,s.stnew,s.own,s.foot,s.frame,s.yv,s.len,λb hb hf=>s.keep b hb (by rw[LT h];exact hf)⟩
def Uv(P:Program)(G:GT)(g:Nat)(j:List PV->List Blk->Tr):Prop:=
 ∀C:Cfg,C.P=P->C.G=G->∀(i:Type) (I:i->(Nat->Prop)->(Nat->Prop)->World->Prop) (k:Yh i) (h:Value),HI I->A75 P I k h->
  ∀args H s ret e,M6 (j args H)=some (ret,e)->∀a d w f,a.yv=h->HR a H w->GOK C a.St w->I s a.St d w->(∀b g,a.nm b=some g->¬d g)->CR a (A3 H) w args f->(∀c∈D0 args,c<H.length)->
   R5 P ((callFunc g f).run P w) (Cb C I a H w d ret e s)
def Ah9(P:Program)(G:GT)(g:Nat)(k:List PV->List Blk->Option (Bool × List (List PV))):Prop:=
 ∀C:Cfg,C.P=P->C.G=G->∀(j:Type) (I:j->(Nat->Prop)->(Nat->Prop)->World->Prop) (h:Yh j) (i:Value),HI I->A75 P I h i->
  ∀args H L s f,k args H=some (true,L)->H.all SK=true->U2 h L s=some f->∀a d w e,a.yv=i->HR a H w->GOK C a.St w->I s a.St d w->(∀b g,a.nm b=some g->¬d g)->CR a (A3 H) w args e->(∀c∈D0 args,c<H.length)->
   R5 P ((callFunc g e).run P w) (Cb C I a H w d (.tup []) (H.map Jo) f)
def Cv1{C o:Cfg}{σ:Type}{I:σ->(Nat->Prop)->(Nat->Prop)->World->Prop}{S:Ctx}{H D:List Blk}{w w':World}{Φ:Nat->Prop}{s':σ}{V:Value}(hP:o.P=C.P)(hb:H.all SK=true)(hH:HR S H w)(h:Cb o I S H w Φ (.tup []) D s' V w'):Cb C I S H w Φ (.tup []) (H.map Jo) s' V w':=by
 obtain⟨n,T,l,G,k2,k3,k4,k5⟩:=h;have B:∀b g,(if b<H.length then n.nm b else none)=some g->b<H.length/\n.nm b=some g:=λb g h=>by grind
 have p:(H.map Jo).length=H.length:=p4 _;refine⟨{ n with nm:=λb=>if b<H.length then n.nm b else none },T,⟨l.os,l.tape,l.output,l.size,l.sub,l.stnew,λb g y=>l.own b g (B b g y).2,l.foot,l.frame,l.yv,by rw[p];exact o0 _,λb i hf=>?_⟩,
  ⟨λb U g K M=>G.inj b U g (B b g K).2 (B U g M).2,λb g y=>?_,G.stlt,λb i c Y=>?_,λb i=>?_⟩,?_,by simp[PV.nms,D0],k4,λb g y=>k5 b g (B b g y).2⟩
 ·obtain⟨Z,Q,R⟩:=l.keep b i (by rw[LT hP];exact hf);refine⟨by simp only;rw[ac i];exact Z,?_,R⟩;simp only[A3,aa0];cases H[b]? with
  | none=>rfl
  | some x=>exact congrArg some (QU x)
 ·obtain⟨q1,q2⟩:=B b g y;have:=G.lt b g q2;grind
 ·rw[j8,QT] at Y;simp at Y
 ·rw[p] at i;rw[j8];have k:=o5.1 hb _ (j5 i);have X:=hH.blk b i;cases q:H[b] with
  | box cells=>
   rw[q] at X;obtain⟨g,a0,e,K,M,W,_⟩:=X;obtain⟨Z,Q,R⟩:=l.keep b i (by simp only[A3,c9 i,q];exact trivial);have z:b<D.length:=k9 i l.len;have v:=G.blk b z;have f:(D[b]).shp = .box:=by
    simp only[A3,c9 i,c9 z,x7,j0] at Q;rw[Q,q];rfl
   cases t:D[b] with
   | box F=>
    rw[t] at v;obtain⟨J,m,e',L,u,a1,a2⟩:=v;have N:J=g:=by grind
    subst N;have r:=R J K;simp only[ag8,M,u,j0,p6] at r;refine⟨J,m,e',by simp only;rw[ac i];exact L,u,by rw[r.2,W];simp,λj O=>?_⟩;have P:j<m.size:=by rw[r.2,W];simpa using O
    exact⟨m[j],ab3 P,by rw[j8];exact .bad _⟩
   | arr a b c d=>rw[t] at f;cases f
   | iter a b=>rw[t] at f;cases f
   | mp a=>rw[t] at f;cases f
   | ms a b=>rw[t] at f;cases f
   | dead=>rw[t] at f;cases f
  | arr a b c d=>rw[q] at k;cases k
  | iter a b=>rw[q] at k;cases k
  | mp a=>rw[q] at k;cases k
  | ms a b=>rw[q] at k;cases k
  | dead=>rw[q] at k;cases k
 ·obtain⟨A,rfl,hA,a3⟩:=k2.inv_tup;exact VP.mk_tup hA λj O=>by simp at O
def FY{C₀:Cfg}{g:Nat}{n:List PV->List Blk->Option (Bool × List (List PV))}(u:XOK C₀)(r:Lf C₀)(A:C₀.P.follows .mixedOrders=true)
  (h:∀args H L,n args H=some (true,L)->∀(a:Type) (f:Yh a) (s e:a),U2 f L s=some e->∃d i,evC C₀ d a f g args H s=some (.tup [],i,e)):Ah9 C₀.P C₀.G g n:=by
 intro C t p a I f G q F args H L s e k v c J K w o l m y z b x B;obtain⟨d,i,j⟩:=h args H L k a f s e c;exact(Lz u r A d a I f G q F g args H s _ i e j J K w o l m (y.congr p.symm) z b x B).mono λV w' D=>Cv1 t.symm v m D
def Nb{a:Type}:List (Nat × a)->Nat->Option a
 | [],_=>none
 | (g,b)::r,n=>cond (x4 n g) (some b) (Nb r n)
def AB{b:Type}:∀{l:List (Nat × b)} {g:Nat} {a:b},Nb l g=some a->(g,a)∈l
 | [],_,_,h=>by cases h
 | (n,q)::r,g,a,h=>by
  simp only[Nb] at h;cases c:x4 g n with
  | true=>
   simp_all
  | false=>
   rw[c] at h;exact af8 _ (AB h)
def Kk(P:Program)(G:GT):List (Nat × (List PV->List Blk->Tr))->Prop
 | []=>True
 | (g,a)::r=>Uv P G g a/\Kk P G r
def Kj(P:Program)(G:GT):List (Nat × (List PV->List Blk->Option (Bool × List (List PV))))->Prop
 | []=>True
 | (g,a)::r=>Ah9 P G g a/\Kj P G r
def Kk.mem{P:Program}{G:GT}:∀{l:List (Nat × (List PV->List Blk->Tr))} {g:Nat} {pf:List PV->List Blk->Tr},Kk P G l->(g,pf)∈l->Uv P G g pf
 | [],_,_,_,hm=>by simp at hm
 | (n,q)::r,g,pf,h,hm=>by
  rcases y5.1 hm with e|hm
  ·cases e;exact h.1
  ·exact Kk.mem h.2 hm
def Kj.mem{P:Program}{G:GT}:∀{l:List (Nat × (List PV->List Blk->Option (Bool × List (List PV))))} {g:Nat} {pf:List PV->List Blk->Option (Bool × List (List PV))},Kj P G l->(g,pf)∈l->Ah9 P G g pf
 | [],_,_,_,hm=>by simp at hm
 | (n,q)::r,g,pf,h,hm=>by
  rcases y5.1 hm with e|hm
  ·cases e;exact h.1
  ·exact Kj.mem h.2 hm
def Kk.ok{C:Cfg}{l:List (Nat × (List PV->List Blk->Tr))}(hl:C.Y=Nb l)(h:Kk C.P C.G l):Dc C (clY C):=by
 intro σ I yh yv hI hy g args H s ret Hc s' hcl Γ Φ w Vs hyv hH hg hi hd hc hn;simp only[clY,hl] at hcl;split at hcl
 ·rename_i pf hpf;split at hcl
  ·rename_i r' h' hr;simp only[j0,p6] at hcl;obtain⟨rfl,rfl,rfl⟩:=hcl;exact h.mem (AB hpf) C rfl rfl σ I yh yv hI hy args H s _ _ hr Γ Φ w Vs hyv hH hg hi hd hc hn
  grind
 ·cases hcl
def Kj.ok{C:Cfg}{l:List (Nat × (List PV->List Blk->Option (Bool × List (List PV))))}(hl:C.S=Nb l)(h:Kj C.P C.G l):Dc C (clS C):=by
 intro σ I yh yv hI hy g args H s ret Hc s' hcl Γ Φ w Vs hyv hH hg hi hd hc hn;simp only[clS,hl] at hcl;split at hcl
 ·rename_i pf hpf;split at hcl
  ·rename_i hb;split at hcl
   ·rename_i L hL;split at hcl
    ·rename_i s2 hr;simp only[j0,p6] at hcl;obtain⟨rfl,rfl,rfl⟩:=hcl;exact h.mem (AB hpf) C rfl rfl σ I yh yv hI hy args H L s _ hL hb hr Γ Φ w Vs hyv hH hg hi hd hc hn
    grind
   grind
  grind
 ·cases hcl
def Le{C:Cfg}{lx:List (Nat × (List PV->Tr))}{ly:List (Nat × (List PV->List Blk->Tr))}{ls:List (Nat × (List PV->List Blk->Option (Bool × List (List PV))))}(a:C.X=Af9 lx)(b:C.Y=Nb ly)(c:C.S=Nb ls)(x:M3 C.P C.G lx)(y:Kk C.P C.G ly)(s:Kj C.P C.G ls)(d:C.Z=Nb []:=by rfl):XOK C:=
 ⟨M3.x1 a x,Kk.ok b y,Kj.ok c s,λg e h=>by rw[d] at h;cases h⟩
def M3.ok{C:Cfg}{l:List (Nat × (List PV->Tr))}(hl:C.X=Af9 l)(h:M3 C.P C.G l)(h2:C.Y=Nb []:=by rfl)(h3:C.S=Nb []:=by rfl)(h4:C.Z=Nb []:=by rfl):XOK C:=
 Le hl h2 h3 h trivial trivial h4
def okL:List Nat->Nat->Bool
 | [],_=>false
 | a::r,n=>x4 n a||okL r n
def Be3(C:Cfg)(l:List Nat):Bool:=l.all λf=>match C.P.funcs[f]? with
 | some fn=>match fn.body with
  | some c=>Cy1 C c && !(fn.name == "runtime.NumGoroutine")
  | none=>true
 | none=>true
def H7{C:Cfg}{l:List Nat}(d:C.okf=okL l)(h:Be3 C l=true):Lf C:=by
 intro f fn c b g e;have key:∀l:List Nat,okL l f=true->f∈l:=by
  intro l
  induction l with
  | nil=>intro h;cases h
  | cons a r j=>
   intro h;simp only[okL,y9] at h;rcases h with h|h
   all_goals simp_all
 have i:f∈l:=key l (by rw[<-d];exact b);simp only[Be3,o5] at h;grind
def cd:List Nat->Code->Code
 | [],c=>c
 | 0::p,.seq a _=>cd p a
 | 1::p,.seq _ b=>cd p b
 | 0::p,.cond _ a _=>cd p a
 | 1::p,.cond _ _ b=>cd p b
 | 0::p,.block _ a=>cd p a
 | 0::p,.loop a=>cd p a
 | 0::p,.scope a=>cd p a
 | 0::p,.rangeFunc _ _ a _=>cd p a
 | 1::p,.rangeFunc _ _ _ b=>cd p b
 | _,_=>.skip
def Q9:List Nat->Code->Code->Code
 | [],b,_=>b
 | 0::p,b,.seq x y=>.seq (Q9 p b x) y
 | 1::p,b,.seq x y=>.seq x (Q9 p b y)
 | 0::p,b,.cond c x y=>.cond c (Q9 p b x) y
 | 1::p,b,.cond c x y=>.cond c x (Q9 p b y)
 | 0::p,b,.block id x=>.block id (Q9 p b x)
 | 0::p,b,.loop x=>.loop (Q9 p b x)
 | 0::p,b,.scope x=>.scope (Q9 p b x)
 | 0::p,b,.rangeFunc g a x y=>.rangeFunc g a (Q9 p b x) y
 | 1::p,b,.rangeFunc g a x y=>.rangeFunc g a x (Q9 p b y)
 | _,_,c=>c
def D7(f:Func):Code:=f.body.getD .skip
section
variable {Y R : Type}
def bd(C:Cfg)(a:G1)(d:Yh Y)(c:Code):St Y->(Out->St Y->Option R)->Option R:=λb k=>C3 C a d c b k
def F6(C:Cfg)(c:G1)(d:Yh Y)(b:Code)(k:Out->St Y->Option R):Out->St Y->Option R:=λo a=>match o with
 | .normal=>C3 C c d b a k
 | o=>k o a
def F2(id:Nat)(k:Out->St Y->Option R):Out->St Y->Option R:=λo a=>match o with
 | .exit j=>if j=id then k .normal a else k (.exit j) a
 | o=>k o a
def I8(C:Cfg)(fn:Func):Out->St Y->Option (PV × List Blk × Y):=λo a=>match o with
 | .normal=>GL C a.sl a.hp fn.results.toList λb=>some (Dn b,a.hp,a.s)
 | .ret=>GL C a.sl a.hp fn.results.toList λb=>some (Dn b,a.hp,a.s)
 | _=>none
def lpK(L:Nat)(ds:Option (List Nat))(a:St Y->(Out->St Y->Option R)->Option R)(n:Nat)(k:Out->St Y->Option R):Out->St Y->Option R:=λo b=>match o with
 | .normal=>D4 L ds a n (Nx ds (Z4 L b)) k
 | o=>k o (Nx ds b)
end
def D59{C:Cfg}{d f:Nat}{fn:Func}{e:Type}{g:Yh e}{args:List PV}{H:List Blk}{s:e}(i:C.P.funcs[f]? = some fn)(h:C.okf f=true)(a:fn.body=some (D7 fn)) :
  evC C (d+1) e g f args H s=C3 C (evC C d) g (D7 fn) { sl:=args++x3 (fn.ntmps-args.length) (.tup []),hp:=H,s:=s } (I8 C fn):=by
 simp only[evC,h,i];split
 ·rename_i c b;rw[b] at a;simp only[j0] at a;rw[<-a];rfl
 ·rename_i b;rw[b] at a;cases a
def evE{C:Cfg}{d f:Nat}{fn:Func}{a:Type}{b:Yh a}{args:List PV}{H:List Blk}{s:a}(h:(C.P.funcs[f]?,C.okf f,fn.body)=(some fn,true,some (D7 fn))) :
  evC C (d+1) a b f args H s=C3 C (evC C d) b (D7 fn) { sl:=args++x3 (fn.ntmps-args.length) (.tup []),hp:=H,s:=s } (I8 C fn):=by
 simp only[p6] at h;exact D59 h.1 h.2.1 h.2.2
def Kn:List Nat->List Blk->List Blk
 | [],H=>H
 | i::r,H=>Kn r (H.set i .dead)
def A93(a:List Nat)(ret:PV)(H:List Blk):Bool:=a.all λi=>!(ret.nms.contains i)&&(Kn a H).all λb=>!(b.nms.contains i)
def ET:∀(b:List Nat) (H:List Blk),(Kn b H).length=H.length/\∀i (h:i<(Kn b H).length) (c:i<H.length),(i∈b/\(Kn b H)[i] = .dead)\/(i∉b/\(Kn b H)[i]=H[i])
 | [],H=>⟨rfl,λi h c=>.inr ⟨by simp,rfl⟩⟩
 | a::r,H=>by
  obtain⟨d,e⟩:=ET r (H.set a .dead);simp only[Kn];grind
def Cb.dead{C:Cfg}{Γ:Ctx}{w w':World}{ret:PV}{Hc:List Blk}{V:Value}{idx:List Nat}(h:Cb C I0 Γ [] w noΦ ret Hc () V w')(hok:A93 idx ret Hc=true):Cb C I0 Γ [] w noΦ ret (Kn idx Hc) () V w':=by
 obtain⟨Γ1,Φ1,hs,hH1,hv,hvn,hi1,hd1⟩:=h;obtain⟨hl,hsp⟩:=ET idx Hc;simp only[A93,o5,j4,ac3,List.contains_iff_mem,<-Bool.not_eq_true] at hok;let Γ2:Ctx:={ Γ1 with nm:=λb=>if b∈idx then none else Γ1.nm b }
 have hnm:∀b g,Γ2.nm b=some g->b∉idx/\Γ1.nm b=some g:=λb g h=>by
  simp only[Γ2] at h;split at h
  ·cases h
  ·exact⟨‹_›,h⟩
 have M:Bg Γ1 (A3 Hc) w' Γ2 (A3 (Kn idx Hc)) w' (·∉idx):=⟨λ_ _=>rfl,λ_ h=>h,λb hb=>by simp only[Γ2];rw[ae hb],λb hb=>by
  simp only[A3];by_cases hlt:b<Hc.length
  ·rcases hsp b (by omega) hlt with⟨q,_⟩|⟨_,q⟩
   ·exact absurd q hb
   ·rw[c9 (by omega),c9 hlt,q]
  ·rw[ad0 (by omega),ad0 (by omega)],λ_ _ _ _=>rfl,rfl⟩
 refine⟨Γ2,Φ1,⟨hs.os,hs.tape,hs.output,hs.size,hs.sub,hs.stnew,λb g h=>hs.own b g (hnm b g h).2,hs.foot,hs.frame,hs.yv,Nat.zero_le _,λb hb=>by simp at hb⟩,
  ⟨λb b' g h1 h2=>hH1.inj b b' g (hnm b g h1).2 (hnm b' g h2).2,λb g h=>by have:=hH1.lt b g (hnm b g h).2;rw[hl];exact this,hH1.stlt,λb hb c hc=>?_,λb hb=>?_⟩,
  hv.mono M (λb hb hi=>by have:=(hok b hi).1;exact this hb),λc hc=>by rw[hl];exact hvn c hc,hi1,λb g h=>hd1 b g (hnm b g h).2⟩
 ·have hlt:b<Hc.length:=by omega
  rcases hsp b hb hlt with⟨_,q⟩|⟨_,q⟩
  ·rw[q] at hc;simp[Blk.nms] at hc
  ·rw[q] at hc;rw[hl];exact hH1.nms b hlt c hc
 ·have hlt:b<Hc.length:=by omega
  rcases hsp b hb hlt with⟨_,q⟩|⟨q0,q⟩
  ·rw[q];trivial
  ·rw[q];refine(hH1.blk b hlt).mono M (M.nm b q0) (λ_ _=>rfl) (λc hc hi=>?_);have:=(hok c hi).2 _ (j5 hb);rw[q] at this;exact this hc
def Bc{C₀:Cfg}{g:Nat}{pf:List PV->Tr}(y:XOK C₀)(u:Lf C₀)(B:C₀.P.follows .mixedOrders=true)
  (h:∀args ret i,M6 (pf args)=some (ret,i)->D0 args=[]/\∃d e c,evC C₀ d Unit noY g args [] ()=some (ret,e,())/\A93 c ret e=true/\Kn c e=i):C0 C₀.P C₀.G g pf:=by
 intro args ret i f C v j D w o m t q z;obtain⟨l,d,e,c,k,A,rfl⟩:=h args ret i f;have p:=Kh (C₀:=C₀) (g:=g) (pf:=λa=>match M6 (pf a) with|some _=>(match evC C₀ d Unit noY g a [] () with|some (r,H,_)=>cond (D0 a).isEmpty (.ret r H) .fail|none=>.fail)|none=>.fail) y u B (λa r H b=>by
  split at b
  ·split at b
   ·rename_i G H' _ F;cases n:(D0 a).isEmpty with
    | true=>
     rw[n] at b;simp only[aa,M6,Gm,j0,p6] at b;grind
    | false=>rw[n] at b;cases b
   ·cases b
  ·cases b)
 refine(p args ret e ?_ C v j D w o m t q z).mono λV w' x=>x.dead A
 dsimp only;rw[f];dsimp only;rw[k];dsimp only;rw[l];rfl
def Ah2{C₀:Cfg}{g:Nat}{pf:List PV->Tr}(y:XOK C₀)(v:Lf C₀)(A:C₀.P.follows .mixedOrders=true)
  (h:∀args ret f,M6 (pf args)=some (ret,f)->D0 args=[]/\f=[]/\ret.nms=[]/\∃d b e,evC C₀ d Unit noY g args [] ()=some (b,e,())/\b.snap e=ret):C0 C₀.P C₀.G g pf:=by
 intro args ret f n C x i B w p l u t z;obtain⟨k,rfl,m,d,b,e,j,rfl⟩:=h args ret f n;have q:=Kh (C₀:=C₀) (g:=g) (pf:=λa=>match evC C₀ d Unit noY g a [] () with|some (r,H,_)=>cond (D0 a).isEmpty (.ret r H) .fail|none=>.fail) y v A (λa r H c=>by
  split at c
  ·rename_i F H' _ D;cases o:(D0 a).isEmpty with
   | true=>
    rw[o] at c;simp only[aa,M6,Gm,j0,p6] at c;grind
   | false=>rw[o] at c;cases c
  ·cases c)
 refine q.snap args (b.snap e) [] ?_ C x i B w p l u t z;dsimp only;rw[j];dsimp only;rw[k];simp only[List.isEmpty_nil,aa,Tr.snap,m];rfl
section
variable {L R : Type} {C : Cfg} {Q : G1} {Y : Yh L} {c a b : Code} {W : St L} {k : Out -> St L -> Option R} {id : Nat}
def A0{b:Bool}{x y d e:Option R}(f:x=d)(g:y=e):cond b x y=cond b d e:=by rw[f,g]
end
def C43{α:Type}(z:α)(f:Nat->α->α):Nat->α
 | 0=>z
 | n+1=>f n (C43 z f n)
def SQ{b:Type}:List (Nat × b)->Nat->Option b
 | [],_=>none
 | (a,l)::r,n=>cond (x4 n a) (some l) (SQ r n)
def bds(n:Nat):List PV:=x3 n .bad
def tps(n:Nat):List PV:=x3 n (.tup [])
def gp:List (Nat × PV)->Nat->List PV
 | [],n=>bds n
 | (m,v)::r,n=>bds m++v::gp r n
abbrev LL:=List (List SV)
abbrev MS:=List (List UInt8 × List SV)
abbrev By:=List UInt8
def A1(n:Int):Int:=w8 .i64 n
def D99(n:Int):Int:=w8 .u64 n
def EI(n:Int):Int:=w8 .u32 n
def Fg(n:Int):Int:=w8 .u16 n
def wu8(n:Int):Int:=w8 .u8 n
def A80(k:IntKind)(a b:Int):Int:=k.wrap (aa4 k.bits a &&& aa4 k.bits b).toNat
def bOr(k:IntKind)(a b:Int):Int:=k.wrap (aa4 k.bits a ||| aa4 k.bits b).toNat
def Uu(k:IntKind)(a b:Int):Int:=k.wrap (a*2 ^ min b.toNat k.bits)
def Qi(k:IntKind)(a b:Int):Int:=a.fdiv (2 ^ min b.toNat k.bits)
def inR(n:Int)(m:Nat):Bool:=decide (0<=n)&&decide (n<m)
def Na:TI:=⟨true,false,[.int .i64]⟩
def Aa:TI:=⟨true,false,[.str]⟩
def okE(t:TI)(l:LL)(i o:Nat):Bool:=decide (i<l.length)&&okS t (l.getD i []) o
def gC(l:LL)(i j:Nat):SV:=(l.getD i []).getD j .nilp
def gE(l:LL)(i j:Nat):Int:=(gC l i j).gI
def gX(l:LL)(i j:Nat):By:=(gC l i j).gS
def bAt(s:By)(n:Int):Int:=((s.getD n.toNat 0).toNat:Int)
def J5(l h:Int)(n:Nat):Bool:=decide (0<=l)&&decide (l<=h)&&decide (h<=n)
def cut{a:Type}(s:List a)(l h:Int):List a:=(s.take h.toNat).drop l.toNat
def Eh8:Code->Bool | .rangeFunc _ _ _ _=>true|_=>false
def rgX:Code->Operand | .rangeFunc x _ _ _=>x|_=>.tmp 0
def rgP:Code->Array Tmp | .rangeFunc _ p _ _=>p|_=>#[]
def XZ:∀(p:List Nat),cd p .skip = .skip
 | []=>rfl
 | 0::_=>rfl
 | 1::_=>rfl
 | (_+2)::_=>rfl
def Ic:∀(p q:List Nat) (c:Code),cd (p++q) c=cd q (cd p c)
 | [],q,c=>rfl
 | i::p,q,c=>by
  rw[ae4]
  match i,c with
  | 0,.seq a b=>exact Ic p q a
  | 1,.seq a b=>exact Ic p q b
  | 0,.cond _ a b=>exact Ic p q a
  | 1,.cond _ a b=>exact Ic p q b
  | 0,.block _ a=>exact Ic p q a
  | 0,.loop a=>exact Ic p q a
  | 0,.scope a=>exact Ic p q a
  | 0,.rangeFunc _ _ a b=>exact Ic p q a
  | 1,.rangeFunc _ _ a b=>exact Ic p q b
  | 0,.skip|0,.region _ _ _|0,.exit _|0,.label _|0,.goto _|0,.ret|0,.refuse _=>exact(XZ q).symm
  | 1,.skip|1,.region _ _ _|1,.exit _|1,.scope _|1,.label _|1,.goto _|1,.ret|1,.refuse _|1,.block _ _|1,.loop _=>exact(XZ q).symm
  | _+2,.skip|_+2,.region _ _ _|_+2,.exit _|_+2,.scope _|_+2,.label _|_+2,.goto _|_+2,.ret|_+2,.refuse _|_+2,.block _ _|_+2,.loop _|_+2,.seq _ _|_+2,.cond _ _ _|_+2,.rangeFunc _ _ _ _=>exact(XZ q).symm
section
variable {L R : Type} {C : Cfg} {Y : G1} {Q : Yh L} {B : Code} {W : St L} {k : Out -> St L -> Option R}
def rdB(g:Array Tmp)(e:List PV)(a b:St L->(Out->St L->Option R)->Option R)(xs:List (List PV))(n:Nat)(f:Option Out->List Blk->L->Option R):Out->St L->Option R:=λd c=>match d with
 | .normal=>V9 g e a b xs (Z4 n c).hp c.s f
 | d=>f (some d) (Z4 n c).hp c.s
def B18(p:List Nat)(h:Eh8 (cd p B)=true):C3 C Y Q (cd p B) W k=Wo C Y (opnd C W.sl (rgX (cd p B))) W (λa=>Ky (rgP (cd p B)) a (bd C Y Q (cd (p++[0]) B)) (bd C Y Q (cd (p++[1]) B))) (λa=>V9 (rgP (cd p B)) a (bd C Y Q (cd (p++[0]) B)) (bd C Y Q (cd (p++[1]) B))) k:=by rw[Ic,Ic];cases b:cd p B<;>rw[b] at h<;>first|rfl|cases h
def Dg2{x:Option (Bool × L)}{k a:Bool->L->Option R}(h:∀b s,k b s=a b s):ydK x k=ydK x a:=by
 have:k=a:=funext λb=>funext λs=>h b s
 rw[this]
def Oj{c:Bool}{x y:Option R}(h:x=y):need c x=cond c y none:=by rw[h];rfl
end
abbrev pS(l:By):PV:=.s (.str l)
abbrev pB(b:Bool):PV:=.s (.bool b)
abbrev pI(n:Int):PV:=.s (.int .i64 n)
abbrev p8(n:Int):PV:=.s (.int .u8 n)
abbrev p16(n:Int):PV:=.s (.int .u16 n)
abbrev p32(n:Int):PV:=.s (.int .u32 n)
abbrev p64(n:Int):PV:=.s (.int .u64 n)
abbrev vl{a b:Type}(e:a)(f:a->b):b:=f e
def A6{a R:Type}{e:a}{f g:a->Option R}(h:∀x,f x=g x):vl e f=vl e g:=h e
def F7(m n:Nat):Bool:=decide (m+n<4611686018427387904)
def fx1{A R:Type}{f g:A->R}(b:∀a,f a=g a):f=g:=funext b
def fx2{A B R:Type}{f g:A->B->R}(c:∀a b,f a b=g a b):f=g:=funext λa=>fx1 (c a)
def fx3{A B C R:Type}{f g:A->B->C->R}(d:∀a b c,f a b c=g a b c):f=g:=funext λa=>fx2 (d a)
def fx4{A B C D R:Type}{f g:A->B->C->D->R}(e:∀a b c d,f a b c d=g a b c d):f=g:=funext λa=>fx3 (e a)
def fx5{A B C D E R:Type}{f g:A->B->C->D->E->R}(h:∀a b c d e,f a b c d e=g a b c d e):f=g:=funext λa=>fx4 (h a)
def fx6{A B C D E H R:Type}{f g:A->B->C->D->E->H->R}(i:∀a b c d e h,f a b c d e h=g a b c d e h):f=g:=funext λa=>fx5 (i a)
def fx7{A B C D E H I R:Type}{f g:A->B->C->D->E->H->I->R}(j:∀a b c d e h i,f a b c d e h i=g a b c d e h i):f=g:=funext λa=>fx6 (j a)
def fx8{A B C D E H I J R:Type}{f g:A->B->C->D->E->H->I->J->R}(k:∀a b c d e h i j,f a b c d e h i j=g a b c d e h i j):f=g:=funext λa=>fx7 (k a)
def fx9{A B C D E H I J K R:Type}{f g:A->B->C->D->E->H->I->J->K->R}(l:∀a b c d e h i j k,f a b c d e h i j k=g a b c d e h i j k):f=g:=funext λa=>fx8 (l a)
def Cz3{A B C D E H I J K L R:Type}{f g:A->B->C->D->E->H->I->J->K->L->R}(m:∀a b c d e h i j k l,f a b c d e h i j k l=g a b c d e h i j k l):f=g:=funext λa=>fx9 (m a)
def C44{α a:Type}(z:α)(f:a->List a->α->α):List a->α
 | []=>z
 | x::xs=>f x xs (C44 z f xs)
def Md(n:Nat):PV->PV
 | .s (.sl z t k a)=>if n=0 then .s (.sl z t k a) else if k=n then .s (.sl z t k a) else .s (.sl z t (cond z n k) a)
 | v=>v
def Nv:List Nat->List PV->List PV
 | n::r,v::l=>Md n v::Nv r l
 | _,l=>l
def D60(a:List Nat):PV->PV
 | .agg l=>.agg (Nv a l)
 | v=>Md (a.headD 0) v
def D1:List (List Nat)->List PV->List PV
 | s::r,v::l=>D60 s v::D1 r l
 | _,l=>l
section
variable {L : Ctx} {sh : Nat -> Option Shp} {w : World}
def GR{n:Nat}{v:PV}{V:Value}(h:VP L sh w v V):VP L sh w (Md n v) V:=by
 unfold Md;split
 ·rename_i z t k a;split
  ·exact h
  ·split
   ·exact h
   ·cases z with
    | false=>exact h
    | true=>
     have b:=h.inv_s;cases b with
     | nil=>exact .s _ _ (.nil _ _)
 ·exact h
def Ye:∀(a:List Nat) (l:List PV),(Nv a l).length=l.length
 | [],_=>rfl
 | _::_,[]=>rfl
 | n::r,v::l=>by simp[Nv,Ye r l]
def LS:∀(a:List Nat) (l:List PV) (j:Nat) (h:j<l.length) (b:j<(Nv a l).length),∃n,(Nv a l)[j]=Md n l[j]
 | [],l,j,h,b=>⟨0,by
  have e:Nv [] l=l:=by cases l<;>rfl
  simp only[e];unfold Md;split
  ·rename_i c;rw[c];simp
  ·rfl⟩
 | n::r,v::l,0,h,b=>⟨n,rfl⟩
 | n::r,v::l,j+1,h,b=>by
  obtain⟨m,e⟩:=LS r l j (by simpa using h) (by simpa[Nv] using b);exact⟨m,by simpa[Nv] using e⟩
def Dk0{b:List Nat}{v:PV}{V:Value}(h:VP L sh w v V):VP L sh w (D60 b v) V:=by
 unfold D60;split
 ·rename_i l;obtain⟨A,rfl,hA,f⟩:=h.inv_agg;refine VP.mk_agg (by rw[Ye];exact hA) λj c=>?_
  have a:j<l.length:=by rw[Ye] at c;exact c
  obtain⟨U,e,k⟩:=f j a;obtain⟨m,d⟩:=LS b l j a c;exact⟨U,e,by rw[d];exact GR k⟩
 ·exact GR h
def Ap8:∀(a:List (List Nat)) (l:List PV),(D1 a l).length=l.length
 | [],_=>rfl
 | _::_,[]=>rfl
 | n::r,v::l=>by simp[D1,Ap8 r l]
def Dk1:∀(a:List (List Nat)) (l:List PV) (V:Array Value),CR L sh w l V->CR L sh w (D1 a l) V:=by
 intro a l V h;refine⟨by rw[Ap8];exact h.1,?_⟩;have key:∀(a:List (List Nat)) (l:List PV) (b:Nat->Option Value),(∀j (h:j<l.length),∃U,b j=some U/\VP L sh w (l[j]) U)->∀j (h:j<(D1 a l).length),∃U,b j=some U/\VP L sh w ((D1 a l)[j]) U:=by
  intro a
  induction a with
  | nil=>intro l b d j c;exact d j (by cases l<;>exact c)
  | cons s r f=>
   intro l b d j c;cases l with
   | nil=>simp[D1] at c
   | cons v l=>
    cases j with
    | zero=>
     obtain⟨U,e,k⟩:=d 0 (by simp);exact⟨U,e,Dk0 k⟩
    | succ j=>
     have:=f l (λj=>b (j+1)) (λj h=>d (j+1) (by simpa using h)) j (by simpa[D1] using c);simpa[D1] using this
 exact key a l (λj=>V[j]?) h.2
end
def C0.fix{P:Program}{G:GT}{g:Nat}{pf:List PV->Tr}(szs:List (List Nat))(h:C0 P G g pf):C0 P G g (λargs=>pf (D1 szs args)):=
 λargs ret Hc hpf C hP hGe Γ w Vs hnm hH hG hc=>h (D1 szs args) ret Hc hpf C hP hGe Γ w Vs hnm hH hG (Dk1 szs args Vs hc)
def J6{v:PV}{H:List Blk}{ret:PV}{a:List Blk}(h:M6 (.ret v H)=some (ret,a)):ret=v/\a=H:=by simp only[M6,Gm,j0,p6] at h;grind
def C8{c:Bool}{t:Tr}{ret:PV}{a:List Blk}(h:M6 (.need c t)=some (ret,a)):c=true/\M6 t=some (ret,a):=by
 cases c with
 | true=>exact⟨rfl,h⟩
 | false=>cases h
def Da0{c:Bool}{a b:Tr}{ret:PV}{d:List Blk}(h:M6 (.split c a b)=some (ret,d)):(c=true/\M6 a=some (ret,d))\/(c=false/\M6 b=some (ret,d)):=by
 cases c with
 | true=>exact .inl ⟨rfl,h⟩
 | false=>exact .inr ⟨rfl,h⟩
def D07:∃n:Nat,100000000000000000000<=n:=⟨_,o0 _⟩
noncomputable def LF:Nat:=ae3 D07
def C9:100000000000000000000<=LF:=af3 D07
attribute [irreducible] LF
def Cb3(b:UInt8):Nu (F4 b)=b:=by simp[Nu,F4,SV.gI]
def An(l:By):(l.map F4).map Nu=l:=by
 rw[List.map_map];have:Nu ∘ F4=id:=by funext b;exact Cb3 b
 rw[this,List.map_id]
def Cd3(b:UInt8):Qh (F4 b)=true:=by have:=b.toNat_lt;simp only[Qh,F4,j4,af];omega
def Af(l:By):(l.map F4).all Qh=true:=by rw[aj3];simp[Function.comp_def,Cd3]
def D98(n:Nat):w8 .u8 (n:Int)=((n % 256:Nat):Int):=by simp[w8,ad7,ac4]
def B75(n:Nat):w8 .u16 (n:Int)=((n % 65536:Nat):Int):=by simp[w8,ad7,ac4]
def Dw9(n:Nat):w8 .u32 (n:Int)=((n % 4294967296:Nat):Int):=by simp[w8,ad7,ac4]
def Dx0(n:Nat):w8 .u64 (n:Int)=((n % 18446744073709551616:Nat):Int):=by simp[w8,ad7,ac4]
def Dw8(n:Int)(a:-9223372036854775808<=n)(b:n<9223372036854775808):w8 .i64 n=n:=by simp[w8,ad7,ac4];split<;>omega
def Cz0(n m:Nat):Int.fdiv (n:Int) (m:Int)=((n / m:Nat):Int):=by rw[Int.fdiv_eq_ediv_of_nonneg _ (by omega)];rfl
def O2(n m:Nat):Int.tdiv (n:Int) (m:Int)=((n / m:Nat):Int):=by rw[Int.tdiv_eq_ediv_of_nonneg (by omega)];rfl
def Dy(n m:Nat):Int.tmod (n:Int) (m:Int)=((n % m:Nat):Int):=by rw[Int.tmod_eq_emod_of_nonneg (by omega)];rfl
def D48(w a b:Nat)(c:a<2 ^ w)(d:b<2 ^ w):(aa4 w (a:Int) ||| aa4 w (b:Int)).toNat=a ||| b:=by simp[af5,x8 c,x8 d]
def D18(w a b:Nat)(c:a<2 ^ w)(d:b<2 ^ w):(aa4 w (a:Int) &&& aa4 w (b:Int)).toNat=a &&& b:=by simp[af5,x8 c,x8 d]
def D71(a b i:Nat)(h:a<2 ^ i):a ||| (b*2 ^ i)=a+b*2 ^ i:=by rw[Nat.mul_comm b,Nat.or_comm,aj4];exact(Nat.two_pow_add_eq_or_of_lt h b).symm
def Br3(n:Nat):F4 (aa3 n)=[SV.int .u8 ((n % 256:Nat):Int)]:=by simp[F4]
end
section
open Go Go.ChangeShapes Go.RowKit Go.Sort Go.WideShapes
def Bt{P:Program}{f:Nat}{fn:Func}{d:Array Value}{w:World}{R:Value->World->Prop}(m:P.funcs[f]? = some fn)(j:fn.body.isSome=true)(p:(fn.name == "runtime.NumGoroutine")=false)
  (h:Calls P f d w λe w'=>∃V,e = .returned V/\R V w'):R5 P ((callFunc f d).run P w) R:=by
 obtain⟨c,j⟩:=v8.1 j;intro q n o a next Q b
 have g:(callFunc f d).run P w = .ok (.enter f d) w:=by
  have k:¬ fn.name = "runtime.NumGoroutine":=by simpa using p
  simp[callFunc,m,j,k,ae0]
 rw[g];simp only[ac6];refine⟨λh=>(by simp[J3,aa8] at h),?_⟩;have key:CallsIn aa8 (n-1) P f d w λe w'=>∃V,e = .returned V/\R V w':=callsIn_wide.2 h
 have i:CallsIn (J3 q) (n-1) P f d w λe w'=>∃V,e = .returned V/\R V w':=key
 refine i.mono ?_;rintro e w' ⟨V,rfl,l⟩;exact b V w' l
def Cy3{C:Cfg}{d:Ctx}{w w':World}{ret:PV}{V:Value}(a:∀b,d.nm b=none)(f:HR d [] w)(c:Below w.heap.size w w')(j:VP d (A3 []) w' ret V)(i:ret.nms=[]):Cb C I0 d [] w noΦ ret [] () V w':=by
 refine⟨d,noΦ,⟨c.os,c.tape,c.output,c.size,λ_ h=>h,λ_ h=>.inl h,λb g h=>(by rw[a] at h;cases h),λ_ h=>h.elim,λg e _ _=>c.block g e,rfl,o0 _,λb h=>(by simp at h)⟩,
  ⟨λb k g h=>(by rw[a] at h;cases h),λb g h=>(by rw[a] at h;cases h),λg e=>k9 (f.stlt g e) c.size,λb h=>(by simp at h),λb h=>(by simp at h)⟩,j,by rw[i];simp,λ_ h=>h,λb g h=>(by rw[a] at h;cases h)⟩
def Qx(w:World)(n:Nat):Below w.heap.size w (w.drewN n):=⟨rfl,rfl,rfl,o0 _,λ_ _=>rfl⟩
def KM(w:World)(os:Array Obj):Below w.heap.size w (grow w os):=by refine⟨rfl,rfl,rfl,by simp[grow],λk a=>?_⟩;simp only[grow];grind
def A82(w:World)(s:ByteArray)(pos:Nat):Below w.heap.size w (w.iter s pos):=(Below.refl _ w).alloc (o0 _) _
section
variable {Γ : Ctx} {sh : Nat -> Option Shp} {w : World}
def CR.arr1{a:PV}{A:Array Value}(h:CR Γ sh w [a] A):∃U,A = #[U]/\VP Γ sh w a U:=by obtain⟨U,e,k⟩:=h.2 0 (by simp);refine⟨U,?_,k⟩;have hs:A.size=1:=h.1;grind
def CR.arr2{a b:PV}{A:Array Value}(h:CR Γ sh w [a,b] A):∃U V,A = #[U,V]/\VP Γ sh w a U/\VP Γ sh w b V:=by obtain⟨U,e,k⟩:=h.2 0 (by simp);obtain⟨V,e',k'⟩:=h.2 1 (by simp);refine⟨U,V,?_,k,k'⟩;have hs:A.size=2:=h.1;grind
def CR.arr3{a b c:PV}{A:Array Value}(h:CR Γ sh w [a,b,c] A):∃U V W,A = #[U,V,W]/\VP Γ sh w a U/\VP Γ sh w b V/\VP Γ sh w c W:=by obtain⟨U,e,k⟩:=h.2 0 (by simp);obtain⟨V,e',k'⟩:=h.2 1 (by simp);obtain⟨W,e'',k''⟩:=h.2 2 (by simp);refine⟨U,V,W,?_,k,k',k''⟩;have hs:A.size=3:=h.1;grind
def VP.mk_str(l:By):VP Γ sh w (.s (.str l)) (.string ⟨l.toArray⟩):=by have:=VP.s (Γ:=Γ) (sh:=sh) (w:=w) _ _ (VS.str (St:=Γ.St) (w:=w) ⟨l.toArray⟩);omega
def VP.mk_int(k:IntKind)(n:Int):VP Γ sh w (.s (.int k n)) (.int k n):=.s _ _ (.int k n)
def VP.mk_bool(b:Bool):VP Γ sh w (.s (.bool b)) (.bool b):=.s _ _ (.bool b)
def VP.mk_tup3{a b c:PV}{U V W:Value}(h:VP Γ sh w a U)(k:VP Γ sh w b V)(l:VP Γ sh w c W):VP Γ sh w (.tup [a,b,c]) (.tuple #[U,V,W]):=
 VP.mk_tup rfl λj hj=>by grind
end
def L7{P:Program}{G:GT}{g:Nat}{fn:Func}{k:List PV->Tr}(q:P.funcs[g]? = some fn)(d:fn.body.isSome=true)(t:(fn.name == "runtime.NumGoroutine")=false)
  (h:∀args ret b,M6 (k args)=some (ret,b)->b=[]/\ret.nms=[]/\∀C:Cfg,C.P=P->C.G=G->∀a w c,GOK C a.St w->(∀g,a.St g->g<w.heap.size)->CR a (A3 []) w args c->
   Calls P g c w λe w'=>∃V,e = .returned V/\Below w.heap.size w w'/\VP a (A3 []) w' ret V):C0 P G g k:=by
 intro args ret b i C n m a w c f j r o;obtain⟨rfl,u,l⟩:=h args ret b i;exact Bt q d t ((l C n m a w c r j.stlt o).mono λe w' ⟨V,p,d,v⟩=>⟨V,p,Cy3 f j d v u⟩)
def PV.stab(szs:List Nat)(H:List Blk):PV->PV
 | .tup l=>.tup (Nv szs (Q3 H l))
 | v=>Md (szs.headD 0) (v.snap H)
def VP.stab{Γ:Ctx}{H:List Blk}{w:World}(szs:List Nat)(hH:HR Γ H w){v:PV}{V:Value}(h:VP Γ (A3 H) w v V):VP Γ.all (A3 H) w (v.stab szs H) V:=by
 by_cases ht:∃l,v = .tup l
 ·obtain⟨l,rfl⟩:=ht;obtain⟨A,rfl,hA,hc⟩:=h.inv_tup;simp only[PV.stab];have hl:(Nv szs (Q3 H l)).length=l.length:=by rw[Ye,Dx,p4]
  refine VP.mk_tup (by rw[hl];exact hA) λj hj=>?_
  obtain⟨U,e,k⟩:=hc j (by omega);refine⟨U,e,?_⟩;have hj':j<(Q3 H l).length:=by rw[Dx,p4];omega
  obtain⟨n,en⟩:=LS szs (Q3 H l) j hj' hj;rw[en];have e2:(Q3 H l)[j]=(l[j]'(by omega)).snap H:=by
   simp only[Dx,j8]
  rw[e2];exact GR (k.snap hH)
 ·have e:v.stab szs H=Md (szs.headD 0) (v.snap H):=by
   cases v with
   | tup l=>exact absurd ⟨l,rfl⟩ ht
   | _=>rfl
  rw[e];exact GR (h.snap hH)
def Bt8(f:List Blk->PV->PV)(Q:∀{Γ:Ctx} {H:List Blk} {w:World},HR Γ H w->∀{v:PV} {V:Value},VP Γ (A3 H) w v V->VP Γ.all (A3 H) w (f H v) V){C₀:Cfg}{g:Nat}{pf:List PV->Tr}(N:XOK C₀)(L:Lf C₀)(R:C₀.P.follows .mixedOrders=true)
  (h:∀args ret p,M6 (pf args)=some (ret,p)->D0 args=[]/\p=[]/\ret.nms=[]/\∃d c l,evC C₀ d Unit noY g args [] ()=some (c,l,())/\f l c=ret):C0 C₀.P C₀.G g pf:=by
 intro args ret p B C M t Γ w G A K J O;obtain⟨z,rfl,n,d,c,l,u,rfl⟩:=h args ret p B;have I:=Kh (C₀:=C₀) (g:=g) (pf:=λa=>match evC C₀ d Unit noY g a [] () with|some (r,H,_)=>cond (D0 a).isEmpty (.ret r H) .fail|none=>.fail) N L R (λa r H k=>by
  split at k
  ·rename_i U H' _ T;cases F:(D0 a).isEmpty with
   | true=>
    rw[F] at k;simp only[aa,M6,Gm,j0,p6] at k;grind
   | false=>rw[F] at k;cases k
  ·cases k)
 refine(I args c l (by dsimp only;rw[u];dsimp only;rw[z];rfl) C M t Γ w G A K J O).mono ?_;rintro V w' ⟨o,D,e,j,S,hvn,x,P⟩;let Γ2:Ctx:={ o.all with nm:=λ_=>none }
 have y:∀g,Γ2.St g->g<w'.heap.size:=λg i=>by
  rcases i with i|⟨b,m⟩
  ·exact j.stlt g i
  ·exact(j.lt b g m).2.1
 refine⟨Γ2,D,⟨e.os,e.tape,e.output,e.size,λg i=>.inl (e.sub g i),λg i=>?_,λb g h=>by simp[Γ2] at h,e.foot,e.frame,e.yv,o0 _,λb m=>by simp at m⟩,
  Np (λ_=>rfl) y,?_,by rw[n];simp,x,λb g h=>by simp[Γ2] at h⟩
 ·rcases i with i|⟨b,m⟩
  ·exact e.stnew g i
  ·rcases e.own b g m with⟨q,_⟩|q
   ·simp at q
   ·exact .inr q
 ·exact VP.mono (Γ:=o.all) (Γ':=Γ2) (w:=w') (w':=w') (sh:=A3 l) (ok:=λ_=>False) ⟨λ_ _=>rfl,λ_ h=>h,λ_ h=>h.elim,λ_ h=>h.elim,λ_ _ h=>h.elim,rfl⟩ (Q j S) (by rw[n];simp)
def J0(b:List Nat){C₀:Cfg}{g:Nat}{f:List PV->Tr}(k:XOK C₀)(j:Lf C₀)(l:C₀.P.follows .mixedOrders=true)
  (h:∀args ret e,M6 (f args)=some (ret,e)->D0 args=[]/\e=[]/\ret.nms=[]/\∃d a c,evC C₀ d Unit noY g args [] ()=some (a,c,())/\a.stab b c=ret):C0 C₀.P C₀.G g f:=
 Bt8 (λH v=>v.stab b H) (λi _ _ h=>h.stab b i) k j l h
def Tr.Good(szs:List Nat)(args:List PV)(e:Option (PV × List Blk × Unit)):Tr->Prop
 | .ret v H=>D0 args=[]/\H=[]/\v.nms=[]/\∃r H0,e=some (r,H0,())/\r.stab szs H0=v
 | .need c t=>c=true->Good szs args e t
 | .split c a b=>(c=true->Good szs args e a)/\(c=false->Good szs args e b)
 | .fail=>True
def Tr.Good.res{szs:List Nat}{args:List PV}{e:Option (PV × List Blk × Unit)}{ret:PV}{Hc:List Blk}:∀{t:Tr},t.Good szs args e->M6 t=some (ret,Hc)->D0 args=[]/\Hc=[]/\ret.nms=[]/\∃r H0,e=some (r,H0,())/\r.stab szs H0=ret
 | .ret v H,h,hr=>by
  obtain⟨rfl,rfl⟩:=J6 hr;exact h
 | .need c t,h,hr=>by
  obtain⟨h0,hr⟩:=C8 hr;exact res (h h0) hr
 | .split c a b,h,hr=>by
  rcases Da0 hr with⟨h0,hr⟩|⟨h0,hr⟩
  ·exact res (h.1 h0) hr
  ·exact res (h.2 h0) hr
def xf(b:List Nat)(a:Cfg){g:Nat}(d:List PV->Tr){e:List (List Nat)}{l:List (Nat × (List PV->Tr))}{c:List Nat}(n:a.X=Af9 l)(t:M3 a.P a.G l)(p:a.okf=okL c)(o:a.P.follows .mixedOrders=true)(h:∀args,(d args).Good b args (evC a 1 Unit noY g args [] ()))(m:Be3 a c=true:=by kernel_rfl)(i:a.Y=Nb []:=by rfl)(j:a.S=Nb []:=by rfl)(k:a.Z=Nb []:=by rfl):C0 a.P a.G g (λargs=>d (D1 e args)):=
 C0.fix e (J0 b (M3.ok n t i j k) (H7 p m) o λargs ret z q=>by
  obtain⟨u,v,w,r,f,x,y⟩:=(h args).res q;exact⟨u,v,w,1,r,f,x,y⟩)
end
section
open Go
def Bb2(n:Nat)(ret:PV)(H:List Blk):Bool:=ret.nms.all (aj5 · n)&&H.all λb=>b.nms.all (aj5 · n)
def Cb.head{C:Cfg}{σ:Type}{I:σ->(Nat->Prop)->(Nat->Prop)->World->Prop}{Γ:Ctx}{H Hc T:List Blk}{w w':World}{Φ:Nat->Prop}{s':σ}{ret:PV}{V:Value}
  (h:Cb C I Γ H w Φ ret (Hc++T) s' V w') (hl:H.length<=Hc.length) (hok:Bb2 Hc.length ret Hc=true):Cb C I Γ H w Φ ret Hc s' V w':=by
 obtain⟨Γ1,Φ1,hs,hH1,hv,hvn,hi1,hd1⟩:=h;simp only[Bb2,j4,o5,Nat.blt_eq] at hok;let Γ2:Ctx:={ Γ1 with nm:=λb=>if b<Hc.length then Γ1.nm b else none }
 have hnm:∀b g,Γ2.nm b=some g->b<Hc.length/\Γ1.nm b=some g:=λb g h=>by grind
 have get:∀b (h:b<Hc.length) (h':b<(Hc++T).length),(Hc++T)[b]=Hc[b]:=λb h h'=>x5 h
 have shp:∀b,b<Hc.length->A3 Hc b=A3 (Hc++T) b:=λb hb=>by
  simp only[A3];grind
 have M:Bg Γ1 (A3 (Hc++T)) w' Γ2 (A3 Hc) w' (· < Hc.length):=⟨λ_ _=>rfl,λ_ h=>h,λb hb=>by simp only[Γ2];rw[ac hb],λb hb=>shp b hb,λ_ _ _ _=>rfl,rfl⟩
 refine⟨Γ2,Φ1,⟨hs.os,hs.tape,hs.output,hs.size,hs.sub,hs.stnew,λb g h=>hs.own b g (hnm b g h).2,hs.foot,hs.frame,hs.yv,hl,λb hb hf=>?_⟩,
  ⟨λb b' g h1 h2=>hH1.inj b b' g (hnm b g h1).2 (hnm b' g h2).2,λb g h=>by have:=hH1.lt b g (hnm b g h).2;exact⟨(hnm b g h).1,this.2⟩,hH1.stlt,λb hb c hc=>hok.2 _ (j5 hb) c hc,λb hb=>?_⟩,
  hv.mono M (λb hb=>hok.1 b hb),λc hc=>hok.1 c hc,hi1,λb g h=>hd1 b g (hnm b g h).2⟩
 ·obtain⟨m1,m2,m3⟩:=hs.keep b hb hf;have hb2:b<Hc.length:=k9 hb hl;exact⟨by simp only[Γ2];rw[ac hb2];exact m1,by rw[shp b hb2];exact m2,m3⟩
 ·have hb':b<(Hc++T).length:=by rw[w9];omega
  have:=hH1.blk b hb';rw[get b hb hb'] at this;exact this.mono M (M.nm b hb) (λ_ _=>rfl) (λc hc=>hok.2 _ (j5 hb) c hc)
def Dz{C₀:Cfg}{g:Nat}{n:List PV->List Blk->Tr}(x:XOK C₀)(u:Lf C₀)(F:C₀.P.follows .mixedOrders=true)
  (h:∀args H ret a,M6 (n args H)=some (ret,a)->p5 H.length a.length=true/\Bb2 a.length ret a=true/\∀(b:Type) (f:Yh b) (s:b),∃d c,evC C₀ d b f g args H s=some (ret,c,s)/\c.take a.length=a):Uv C₀.P C₀.G g n:=by
 intro C v q b I f S t M args H s ret a j T U w o k r A B z y G;obtain⟨D,i,p⟩:=h args H ret a j;obtain⟨d,c,e,L⟩:=p b f s;rw[<-List.take_append_drop a.length c,L] at e;refine(Lz x u F d b I f S t M g args H s ret (a++c.drop a.length) s e T U w o k r (A.congr q.symm) B z y G).mono ?_;rintro V w' J;obtain⟨l,m,K,N,O,P,Q,R⟩:=J.head (aa7 D) i;exact⟨l,m,K.congr v.symm,N,O,P,Q,R⟩
def KF(P:Program):List (Nat × (SV->List (List SV)->Bool × List (List SV)))->Prop
 | []=>True
 | (g,a)::r=>Aj8 P g a/\KF P r
def KF.mem{P:Program}:∀{l:List (Nat × (SV->List (List SV)->Bool × List (List SV)))} {g:Nat} {pf:SV->List (List SV)->Bool × List (List SV)},KF P l->(g,pf)∈l->Aj8 P g pf
 | [],_,_,_,hm=>by simp at hm
 | (n,q)::r,g,pf,h,hm=>by
  rcases y5.1 hm with e|hm
  ·cases e;exact h.1
  ·exact KF.mem h.2 hm
def Eg8{C:Cfg}{lx:List (Nat × (List PV->Tr))}{ly:List (Nat × (List PV->List Blk->Tr))}{ls:List (Nat × (List PV->List Blk->Option (Bool × List (List PV))))}{lz:List (Nat × (SV->List (List SV)->Bool × List (List SV)))}(a:C.X=Af9 lx)(b:C.Y=Nb ly)(c:C.S=Nb ls)(d:C.Z=Nb lz)(x:M3 C.P C.G lx)(y:Kk C.P C.G ly)(s:Kj C.P C.G ls)(z:KF C.P lz):XOK C:=
 ⟨M3.x1 a x,Kk.ok b y,Kj.ok c s,λg e h=>by rw[d] at h;exact z.mem (AB h)⟩
def Ia:List Int:=(ai4 32).map λi=>((if i % 2=0 then Lib.accLo (i / 2) else Lib.accHi (i / 2):Nat):Int)
def GX:GT:=⟨λg=>cond (x4 g 1) (some (.u8,Lib.firstTab)) (cond (x4 g 2) (some (.u8,Ia)) (cond (x4 g 3) (some (.u64,Lib.pow10Tab)) (cond (x4 g 5) (some (.u8,Lib.deBruijn64tab.map λn:Nat=>(n:Int))) none))),λg=>x4 g 0⟩
def Ef3:List (Nat × Nat × Nat × Nat)->Nat->Nat->Nat × Nat
 | [],_,_=>(0,0)
 | (t,j,e,k)::r,b,a=>cond (x4 t b&&x4 j a) (e,k) (Ef3 r b a)
def D29:List (Nat × Nat)->Nat->Option Nat
 | [],_=>none
 | (a,b)::r,i=>cond (x4 a i) (some b) (D29 r i)
noncomputable def Ef0(f:Nat)(e:List Nat)(d:Nat->Option (List Nat))(X:List (Nat × (List PV->Tr)))(b:Nat->Option (List Nat):=λ_=>none)(g:List Nat:=[])(a:Nat->Option (List Nat):=λ_=>none)(c:Option (List Nat):=none)(Y:List (Nat × (List PV->List Blk->Tr)):=[])(S:List (Nat × (List PV->List Blk->Option (Bool × List (List PV)))):=[])(lend:List Nat:=[])(i:List (Nat × Nat × Nat × Nat):=[])(rw:List (Nat × Nat):=[])(Z:List (Nat × (SV->List (List SV)->Bool × List (List SV))):=[])(h:List (Nat × List Nat × List Nat):=[])(k:List Nat:=[])(j:List (Nat × List Nat):=[]):Cfg:=
 { P:=Tryz.prog,G:=GX,X:=Af9 X,lend:=okL lend,okf:=okL e,lf:=f,keep:=d,keepR:=b,xp:=okL g,keepE:=a,keepT:=c,Y:=Nb Y,S:=Nb S,nilT:=Ef3 i,rowR:=D29 rw,Z:=Nb Z,farR:=SQ h,stab:=okL k,rowsR:=SQ j }
noncomputable abbrev mkC(b g:Nat)(L R E:List (Nat × List Nat))(T:List Nat)(X:List (Nat × (List PV->Tr)):=[])(d:List Nat:=[])(Y:List (Nat × (List PV->List Blk->Tr)):=[])(S:List (Nat × (List PV->List Blk->Option (Bool × List (List PV)))):=[])(lend:List Nat:=[])(nt:List (Nat × Nat × Nat × Nat):=[])(rw:List (Nat × Nat):=[])(Z:List (Nat × (SV->List (List SV)->Bool × List (List SV))):=[])(a:List (Nat × List Nat × List Nat):=[])(sb:List Nat:=[])(c:List (Nat × List Nat):=[]):Cfg:=
 Ef0 b [g] (SQ L) X (SQ R) d (SQ E) (some T) Y S lend nt rw Z a sb c
def follows:Tryz.prog.follows .mixedOrders=true:=by kernel_rfl
def evT(fn:Func){C:Cfg}{d f:Nat}{a:Type}{b:Yh a}{args:List PV}{H:List Blk}{s:a}{x:Option (PV × List Blk × a)}(k:∀c,C3 C c b (D7 fn) { sl:=args++x3 (fn.ntmps-args.length) (.tup []),hp:=H,s:=s } (I8 C fn)=x)
  (h:(C.P.funcs[f]?,C.okf f,fn.body)=(some fn,true,some (D7 fn)):=by kernel_rfl):evC C (d+1) a b f args H s=x:=(evE h).trans (k _)
def Cj7{n:Nat}:G0 n=true↔n<=68719476736:=by simp[G0]
def E8{n:Nat}(h:n<=68719476736):G0 n=true:=Cj7.2 h
def C5{a b:Int}(h:a<b):ltI a b=true:=by rw[Y0];simpa using h
def D8{a b:Int}(h:b<=a):ltI a b=false:=by rw[Y0];simpa using h
def Of{a b:Int}:ltI a b=true↔a<b:=by rw[Y0];simp
def Rj{a b:Int}:ltI a b=false↔b<=a:=by rw[Y0];simp
def E0{n:Int}(a:-9223372036854775808<=n)(b:n<9223372036854775808):A1 n=n:=Dw8 n a b
def Ag8{n:Int}(a:0<=n)(b:n<18446744073709551616):D99 n=n:=by obtain⟨m,rfl⟩:=aa1 a;unfold D99;rw[Dx0,x8 (by omega)]
def B77{n:Int}(a:0<=n)(b:n<4294967296):EI n=n:=by obtain⟨m,rfl⟩:=aa1 a;unfold EI;rw[Dw9,x8 (by omega)]
def B76{n:Int}(a:0<=n)(b:n<65536):Fg n=n:=by obtain⟨m,rfl⟩:=aa1 a;unfold Fg;rw[B75,x8 (by omega)]
def Ag9{n:Int}(a:0<=n)(b:n<256):wu8 n=n:=by obtain⟨m,rfl⟩:=aa1 a;unfold wu8;rw[D98,x8 (by omega)]
def A7{a b:Int}(h:a<b:=by omega):ltI a b=true:=C5 h
def A5{a b:Int}(h:b<=a:=by omega):ltI a b=false:=D8 h
def A4{n:Int}(h:-9223372036854775808<=n:=by omega)(g:n<9223372036854775808:=by omega):A1 n=n:=E0 h g
theorem ah{n m:Int}(h:-9223372036854775808<=n:=by omega)(g:n<9223372036854775808:=by omega)(e:n=m:=by rfl):A1 n=m:=(A4 h g).trans e
def Ps{n:Int}(h:0<=n:=by omega)(g:n<4294967296:=by omega):EI n=n:=B77 h g
def Ld{n:Int}(h:0<=n:=by omega)(g:n<65536:=by omega):Fg n=n:=B76 h g
def O4{n:Int}(h:0<=n:=by omega)(g:n<256:=by omega):wu8 n=n:=Ag9 h g
def W4{d:Sort _}{c:Prop}[Decidable c]{a b:d}(h:c:=by omega):(if c then a else b)=a:=ac h
def I6{d:Sort _}{c:Prop}[Decidable c]{a b:d}(h:¬c:=by omega):(if c then a else b)=b:=ae h
def A40(n:Nat):Fg (n:Int)=((n % 65536:Nat):Int):=B75 n
def Um(k:IntKind)(a m:Nat)(h:m<=k.bits):Qi k (a:Int) (m:Int)=((a / 2 ^ m:Nat):Int):=by
 unfold Qi;rw[Int.toNat_natCast,Nat.min_eq_left h];have:(2:Int) ^ m=((2 ^ m:Nat):Int):=by simp
 rw[this,Cz0]
def Da7{n:Nat}(h:n<256):[SV.int .u8 (n:Int)]=F4 (aa3 n):=by rw[Br3,x8 h]
def W7{l h:Int}{n:Nat}(a:0<=l)(b:l<=h)(c:h<=n):J5 l h n=true:=by simp[J5,a,b,c]
def G9{i:Int}{n:Nat}(a:0<=i)(b:i<n):inR i n=true:=by simp[inR,a,b]
def K2{l h:Int}{n:Nat}(a:0<=l:=by omega)(b:l<=h:=by omega)(c:h<=n:=by omega):J5 l h n=true:=W7 a b c
def G2{i:Int}{n:Nat}(a:0<=i:=by omega)(b:i<n:=by omega):inR i n=true:=G9 a b
end
section
open Go Go.Proofs
def HJ(r:Option (PV × List Blk × Unit)):Bool:=match r with
 | some (.s (.bool true),_,_)=>true
 | _=>false
def Ac3{r:Option (PV × List Blk × Unit)}(h:HJ r=true):∃H,r=some (.s (.bool true),H,()):=by
 unfold HJ at h;split at h
 ·exact⟨_,rfl⟩
 ·cases h
def Bt9{C₀:Cfg}{g d:Nat}(f:XOK C₀)(c:Lf C₀)(i:C₀.P.follows .mixedOrders=true)(h:HJ (evC C₀ d Unit noY g [] [] ())=true):C0 C₀.P C₀.G g (λargs=>match args with|[]=>.ret (.s (.bool true)) []|_=>.fail):=
 Ah2 f c i λargs ret j b=>by
  cases args with
  | nil=>
   obtain⟨rfl,rfl⟩:=J6 b;obtain⟨H,e⟩:=Ac3 h;exact⟨rfl,rfl,rfl,d,_,H,e,rfl⟩
  | cons a r=>cases b
def Dh8{P:Program}{t:Nat}{v:PV}{f:Ty}(h:QC P t v)(e:Nd P 20 t=some [f])(i:EK P t=false):∃x,v = .s x/\f.of x:=by
 obtain⟨j,l,b,c,a⟩:=h;rw[e] at b;simp only[j0] at b;subst b;rcases a with⟨a,_⟩|⟨_,x,rfl,rfl⟩
 ·rw[i] at a;cases a
 ·simp only[Ty.ofL] at c;obtain⟨v,q,d,g,rfl⟩:=c;simp only[List.cons.injEq,and_true] at d;subst d;exact⟨_,rfl,g⟩
end
section
open Go
def A9(l:List By):LL:=l.map λs=>[SV.str s]
def E7(l:List Nat):LL:=l.map λn=>[SV.int .u16 (Int.ofNat n)]
def O6(c:UInt8):By->By->List By
 | a,[]=>[a]
 | a,b::r=>if b=c then a::O6 c [] r else O6 c (a++[b]) r
def pcs(c:UInt8)(s:By):List By:=O6 c [] s
def Kd(c:UInt8):∀(s a:By),(O6 c a s).length=s.count c+1
 | [],a=>rfl
 | b::r,a=>by
  simp only[O6,List.count_cons];by_cases h:b=c
  ·simp[h,Kd c r]
  ·simp[h,Kd c r]
def AA(c:UInt8):∀(s a:By),c∉s->O6 c a s=[a++s]
 | [],a,_=>by simp[O6]
 | b::r,a,h=>by
  simp only[y5,not_or] at h;simp only[O6];rw[ae (λe=>h.1 e.symm),AA c r _ h.2];simp
def GB(c:UInt8):∀(p a s:By),c∉p->O6 c a (p++c::s)=(a++p)::O6 c [] s
 | [],a,s,_=>by simp[O6]
 | b::r,a,s,h=>by
  simp only[y5,not_or] at h;simp only[ae4,O6];rw[ae (λe=>h.1 e.symm),GB c r _ s h.2];simp
def Bq0(c:UInt8)(s a:By):O6 c a s≠[]:=by intro h;have:=Kd c s a;rw[h] at this;simp at this
def Rw(c:UInt8):∀(s a:By),c∉a->∀x∈O6 c a s,c∉x/\x.length<=a.length+s.length
 | [],a,h,x,d=>by
  simp only[O6,List.mem_singleton] at d;subst d;exact⟨h,by simp⟩
 | b::r,a,h,x,d=>by
  simp only[O6] at d;split at d
  ·rcases y5.1 d with rfl|d
   ·exact⟨h,by simp⟩
   ·have:=Rw c r [] (by simp) x d;refine⟨this.1,?_⟩;have:=this.2;simp at this ⊢;omega
  ·rename_i e;have:=Rw c r (a++[b]) (by simp[h,Ne.symm e]) x d;refine⟨this.1,?_⟩;have:=this.2;simp at this ⊢;omega
def Dl(b:UInt8):UInt8:=if 65<=b/\b<=90 then b+32 else b
def C6(s:By):By:=s.map Dl
def dig(b:UInt8):Nat:=
 if 48<=b.toNat/\b.toNat<=57 then b.toNat-48 else if 97<=b.toNat/\b.toNat<=102 then b.toNat-87 else if 65<=b.toNat/\b.toNat<=70 then b.toNat-55 else 99
def Ec:Nat:=1099511627776
def G4(base:Nat):Nat->By->Option Nat
 | n,[]=>some n
 | n,b::r=>if dig b<base then G4 base (min (n*base+dig b) Ec) r else none
def Dj(s:By):Bool:=s.getD 0 0==48&&(s.getD 1 0==120||s.getD 1 0==88)
def Bo(s:By):Option Nat:=
 if s=[] then none else if Dj s then G4 16 0 (s.drop 2) else if 1<s.length/\s.getD 0 0=48 then G4 8 0 (s.drop 1) else G4 10 0 s
def E3(s:By):List By:=if 1<(pcs 46 s).length/\(pcs 46 s).getLastD []=[] then (pcs 46 s).dropLast else pcs 46 s
def Mj(s:By):By:=(E3 s).getLastD []
def I7(s:By):Bool:=if Dj (Mj s) then (G4 16 0 ((Mj s).drop 2)).isSome else !(Mj s).isEmpty&&(G4 10 0 (Mj s)).isSome
def Zb(free:Nat):Nat->List By->Option Nat
 | _,[]=>none
 | v,p::r=>match Bo p with
  | none=>none
  | some n=>match r with
   | []=>if n<2 ^ free then some (v*2 ^ free+n) else none
   | r=>if n<=255 then Zb free (v*256+n) r else none
def pnB(s:By):Option Nat:=if 4<(E3 s).length then none else Zb (8*(5-(E3 s).length)) 0 (E3 s)
def oct(s:By):Option Nat:=match G4 10 0 s with
 | some n=>if n<=255/\ab7 n=s then some n else none
 | none=>none
def NB:Nat->List By->Option Nat
 | v,[]=>some v
 | v,p::r=>match oct p with
  | some n=>NB (v*256+n) r
  | none=>none
def v4B(s:By):Option Nat:=if (pcs 46 s).length=4 then NB 0 (pcs 46 s) else none
def Jj(v:Nat):By:=ab7 (v / 16777216)++46::(ab7 (v / 65536 % 256)++46::(ab7 (v / 256 % 256)++46::ab7 (v % 256)))
def Ik:Nat->By->Option Nat
 | n,[]=>some n
 | n,b::r=>if dig b<16 then Ik (n*16+dig b) r else none
def grp(s:By):Option Nat:=if s=[]\/4<s.length then none else Ik 0 s
def Fv(last:Bool):List By->Option (List Nat)
 | []=>some []
 | x::r=>match grp x with
  | some v=>(Fv last r).map (v::·)
  | none=>match v4B x with
   | some v=>if last=true/\r=[] then some [v / 65536,v % 65536] else none
   | none=>none
def S9(s:By)(last:Bool):Option (List Nat):=if s=[] then some [] else Fv last (pcs 58 s)
def v6B(s:By):Option (List Nat):=
 match S9 (aj2 s [58,58]).1 (!(aj2 s [58,58]).2.2),S9 (aj2 s [58,58]).2.1 true with
 | some x,some y=>if (aj2 s [58,58]).2.2 then (if x.length+y.length<=7 then some (x++x3 (8-x.length-y.length) 0++y) else none)
   else if x.length+y.length=8 then some (x++y) else none
 | _,_=>none
def Rs(l:List Nat):Nat:=(l.takeWhile (· == 0)).length
def zGo:List Nat->Nat->Nat->Nat->Nat × Nat
 | [],_,z,m=>(z,m)
 | x::r,i,z,m=>if m<Rs (x::r) then zGo r (i+1) i (Rs (x::r)) else zGo r (i+1) z m
def Ur(n:Nat):UInt8:=if n<10 then aa3 (48+n) else aa3 (87+n)
def V5(v:Nat):By:=if h:v<16 then [Ur v] else V5 (v / 16)++[Ur (v % 16)]
 termination_by v
 decreasing_by omega
def X3(l:List Nat):By:=Lib.join (l.map V5) [58]
def Qd(a:List Nat):By:=if (zGo a 0 0 0).2<2 then X3 a else X3 (a.take (zGo a 0 0 0).1)++58::58::X3 (a.drop ((zGo a 0 0 0).1+(zGo a 0 0 0).2))
def Z0(n:Nat):Bool:=p5 n 1114111&&(aj5 n 55296||aj5 57343 n)
def BU(d k:Nat):Nat:=if h:455<d then BU (d / 35) (k+36) else k+36*d / (d+38)
 termination_by d
 decreasing_by omega
def T4(delta count:Nat)(first:Bool):Nat:=
 let d:=if first then delta / 700 else delta / 2
 BU (d+d / count) 0
def thr(k a:Nat):Nat:=max 1 (min 26 (36*(k+1)-a))
def Z6(k a:Nat):1<=thr k a/\thr k a<=26:=by unfold thr;omega
def Bn(d:Nat):UInt8:=if d<26 then aa3 (97+d) else aa3 (22+d)
def Qe(b:UInt8):Option Nat:=
 if 97<=b.toNat/\b.toNat<=122 then some (b.toNat-97) else if 65<=b.toNat/\b.toNat<=90 then some (b.toNat-65) else if 48<=b.toNat/\b.toNat<=57 then some (b.toNat-22) else none
def R8(q k a:Nat):By:=
 if h:q<thr k a then [Bn q] else Bn (thr k a+(q-thr k a) % (36-thr k a))::R8 ((q-thr k a) / (36-thr k a)) (k+1) a
 termination_by q
 decreasing_by
  have:=Z6 k a;exact Nat.lt_of_le_of_lt (Nat.div_le_self _ _) (by omega)
structure UL where
 delta:Nat
 bias:Nat
 done:Nat
 out:By
def K3(n a:Nat):List Nat->UL->UL
 | [],s=>s
 | p::r,s=>if p<n then K3 n a r { s with delta:=s.delta+1 }
  else if p=n then K3 n a r { delta:=0,bias:=T4 s.delta (s.done+1) (s.done==a),done:=s.done+1,out:=s.out++R8 s.delta 0 s.bias }
  else K3 n a r s
def J9(n:Nat):List Nat->Nat->Nat
 | [],m=>m
 | p::r,m=>J9 n r (if n<=p then min m p else m)
def U0(b:List Nat)(a:Nat):Nat->Nat->UL->UL
 | 0,_,s=>s
 | f+1,n,s=>if s.done<b.length then
   let m:=J9 n b 1114112;let c:=K3 m a b { s with delta:=s.delta+(m-n)*(s.done+1) }
   U0 b a f (m+1) { c with delta:=c.delta+1 }
  else s
def K8(a:List Nat):By:=(a.filter (· < 128)).map aa3
def El(a:List Nat):By × Nat:=
 if 256<a.length then ([],3) else if !(a.all Z0) then ([],2)
 else ((U0 a (K8 a).length 256 128 { delta:=0,bias:=72,done:=(K8 a).length,out:=if (K8 a).isEmpty then [] else K8 a++[45] }).out,0)
def F3(a:Nat):By->Nat->Nat->Nat->Nat × By × Nat
 | [],i,w,k=>(0,[],4)
 | b::r,i,w,k=>match Qe b with
  | none=>(0,[],4)
  | some x=>if Ec<i+x*w then (0,[],19) else if x<thr k a then (i+x*w,r,0)
   else if Ec<w*(36-thr k a) then (0,[],19) else F3 a r (i+x*w) (w*(36-thr k a)) (k+1)
def Th(a:Nat):∀(s:By) (i w k:Nat),(F3 a s i w k).2.2=0->(F3 a s i w k).2.1.length<s.length
 | [],i,w,k,h=>by simp[F3] at h
 | b::r,i,w,k,h=>by
  unfold F3 at h ⊢;cases d:Qe b with
  | none=>simp[d] at h
  | some x=>
   simp only[d] at h ⊢;split at h
   ·simp at h
   ·rename_i e;rw[ae e];split at h
    ·rename_i c;rw[ac c];simp
    ·rename_i c;rw[ae c];split at h
     ·simp at h
     ·rename_i f;rw[ae f];have:=Th a r _ _ _ h;simp only[ae6];omega
def Y9(l:List Nat)(i n:Nat):List Nat:=l.take i++n::l.drop i
def J8(s:By)(b:List Nat)(n i a:Nat)(first:Bool):List Nat × Nat:=
 if e:s=[] then (b,0) else
  let q:=F3 a s i 1 0
  if d:q.2.2=0 then
   let count:=b.length+1;let c:=n+q.1 / count
   if Z0 c then (if 256<count then ([],3) else J8 q.2.1 (Y9 b (q.1 % count) c) c (q.1 % count+1) (T4 (q.1-i) count first) false)
   else ([],2)
  else ([],q.2.2)
 termination_by s.length
 decreasing_by exact Th a s i 1 0 d
def J2:By->Nat
 | []=>0
 | b::r=>if 45∈r then J2 r+1 else 0
def P6(s:By):List Nat × Nat:=
 if 1024<s.length then ([],3) else if s.any (λb=>p5 128 b.toNat) then ([],4)
 else if 256<J2 s then ([],3)
 else J8 (if J2 s=0 then s else s.drop (J2 s+1)) ((s.take (J2 s)).map (·.toNat)) 128 0 72 true
def Bf:Nat->By->Option (List Nat)
 | 0,_=>some []
 | f+1,l=>if l=[] then some [] else if (af7 l).1=65533/\(af7 l).2=1 then none else (Bf f (l.drop (af7 l).2)).map ((af7 l).1::·)
def Ey(s:By):Option (List Nat):=Bf s.length s
def Fl(s:By):Bool:=
 (P6 s).2==0&&!((P6 s).1.any λp=>p5 65 p&&p5 p 90)&&((P6 s).1.any λp=>p5 128 p)&&(El (P6 s).1).2==0&&(El (P6 s).1).1==s
def X7(b:UInt8):Bool:=(p5 97 b.toNat&&p5 b.toNat 122)||(p5 48 b.toNat&&p5 b.toNat 57)||b==45||b==95
def xnB:By:=[120,110,45,45]
def N5(s:By):Bool:=
 !s.isEmpty&&p5 s.length 63&&s.getD 0 0 !=45&&s.getD (s.length-1) 0 !=45&&s.all X7&&(!(xnB.isPrefixOf s)||Fl (s.drop 4))
def K9(s:By):By × Nat:=match Ey s with
 | none=>([],4)
 | some p=>if 256<p.length then ([],3)
  else if p.length<s.length then (match Ey (C6 s) with
   | none=>([],14)
   | some q=>if (El q).2=0 then (if N5 (xnB++(El q).1) then (xnB++(El q).1,0) else ([],14)) else ([],14))
  else if N5 (C6 s) then (C6 s,0) else ([],14)
def V3:By->Option By
 | []=>some []
 | b::r=>if b=37 then (match r with
   | x::y::a=>if dig x<16/\dig y<16 then (V3 a).map (aa3 (16*dig x+dig y)::·) else none
   | _=>none)
  else (V3 r).map (b::·)
structure C2 where
 kind:Nat
 name:By
 v4:Nat
 v6:List Nat
 deriving DecidableEq
def z8:List Nat:=[0,0,0,0,0,0,0,0]
def N3:C2:=⟨0,[],0,z8⟩
def G8:List By->List By × Nat
 | []=>([],0)
 | x::r=>if (K9 x).2=0 then ((K9 x).1::(G8 r).1,(G8 r).2) else ([],(K9 x).2)
def K7(s:By):By:=if s.getLast? = some 46 then s.dropLast else s
def E2(s:By):C2 × Nat:=
 if 1024<s.length then (N3,3)
 else if s.head? = some 91 then (if s.getLast? = some 93/\2<=s.length then (match v6B ((s.take (s.length-1)).drop 1) with
   | some a=>(⟨3,[],0,a⟩,0)
   | none=>(N3,14)) else (N3,14))
 else match V3 s with
  | none=>(N3,14)
  | some t=>if I7 (K7 t) then (match pnB (K7 t) with
    | some v=>(⟨2,[],v,z8⟩,0)
    | none=>(N3,14))
   else if (G8 (pcs 46 (K7 t))).2=0 then (
    let name:=Lib.join (G8 (pcs 46 (K7 t))).1 [46]
    if 253<name.length then (N3,3) else if I7 name then (N3,14) else (⟨1,name,0,z8⟩,0))
   else (N3,(G8 (pcs 46 (K7 t))).2)
def W9(s:By):Bool:=p5 s.length 253&&!(I7 s)&&(pcs 46 s).all N5
def P3(h:C2):Bool:=
 if h.kind=1 then W9 h.name&&h.v4==0&&h.v6==z8 else if h.kind=2 then h.name.isEmpty&&h.v6==z8 else if h.kind=3 then h.name.isEmpty&&h.v4==0 else false
def Y7(h:C2):By:=if P3 h then (if h.kind=1 then h.name else if h.kind=2 then Jj h.v4 else 91::(Qd h.v6++[93])) else []
def Gp(a b:By):Bool:=W9 a&&W9 b&&(a==b||(46::a).isSuffixOf b)
def A2(n:Nat):Bool:=decide (n<=1000000000)
def TX{n:Nat}:A2 n=true↔n<=1000000000:=by simp[A2]
def isS:List SV->Bool|[.str _]=>true|_=>false
def elS(a:List SV):By:=(a.getD 0 .nilp).gS
def O9(o:Option Nat):Nat:=o.getD 0
def u8n(c:Int):UInt8:=aa3 c.toNat
def Ag1(s p:By):By:=if p.isSuffixOf s then s.take (s.length-p.length) else s
def Ie(s p:By):By:=if p.isPrefixOf s then s.drop p.length else s
def ltN(v:Int)(n:Nat):Bool:=match v with
 | .ofNat m=>p5 (m+1) n
 | .negSucc _=>false
def E9{v:Int}{n:Nat}:ltN v n=true↔0<=v/\v<(n:Int):=by
 cases v with
 | ofNat m=>
  simp only[ltN,ai5,Int.ofNat_eq_natCast];omega
 | negSucc m=>
  refine⟨λh=>(by cases h),λh=>?_⟩;have:=Int.negSucc_lt_zero m;omega
def Eb(n:Int):Bool:=ltN (n+9223372036854775808) 18446744073709551616
def Yo{n:Int}:Eb n=true↔-9223372036854775808<=n/\n<9223372036854775808:=by unfold Eb;rw[E9];constructor<;>rintro⟨a,b⟩<;>constructor<;>omega
def Jn(b:Nat):List PV->Tr
 | [.s (.int .i64 n)]=>.need (ltN n b) (.ret (.s (.str (ab7 (Int.toNat n)))) [])
 | _=>.fail
def Nj(b:Nat)(args:List PV):Tr:=Jn b (D1 [[0]] args)
def gvs(s:By)(last:Bool):List Nat:=(S9 s last).getD []
def v6c(i:Nat)(s:By):Nat:=((v6B s).getD z8).getD i 0
def n8(a b c d e f g h:Int):List Nat:=[a.toNat,b.toNat,c.toNat,d.toNat,e.toNat,f.toNat,g.toNat,h.toNat]
def ok8(a b c d e f g h:Int):Bool:=[a,b,c,d,e,f,g,h].all λx=>ltN x 65536
def Yq:List SV->Bool|[.int .u16 n]=>ltN n 65536|_=>false
def elN(a:List SV):Nat:=(a.getD 0 .nilp).gI.toNat
def LH(s:By):Int:=Lib.index s [58,58]
def ptI(n:Int):Bool:=match n with | .ofNat m=>Z0 m | .negSucc _=>false
def F5(b:UInt8):Int:=match Qe b with|some n=>n|none=>-1
def N4(k b:Int):Int:=max 1 (min 26 (k+36-b))
def Px:List SV->Bool|[.int .i64 _]=>true|_=>false
def elI(a:List SV):Int:=(a.getD 0 .nilp).gI
def Z8(l:List Int):By × Nat:=if 256<l.length then ([],3) else if l.all ptI then El (l.map Int.toNat) else ([],2)
def X2(b:Int):By->Int->Int->Int->Int × By × Int
 | [],i,w,k=>(4,[],i)
 | c::r,i,w,k=>if F5 c<0 then (4,c::r,i) else if 1099511627776<i+F5 c*w then (19,r,i+F5 c*w)
  else if F5 c<N4 k b then (0,r,i+F5 c*w) else if 1099511627776<w*(36-N4 k b) then (19,r,i+F5 c*w)
  else X2 b r (i+F5 c*w) (w*(36-N4 k b)) (k+36)
def MY(b:Int)(s:By)(i:Int):Int:=(X2 b s i 1 0).1
def NA(b:Int)(s:By)(i:Int):By:=(X2 b s i 1 0).2.1
def Wl(b:Int)(s:By)(i:Int):Int:=(X2 b s i 1 0).2.2
def Oa(l:List (List SV))(i:Nat)(n:Int):List (List SV):=l.take i++[SV.int .i64 n]::l.drop i
structure DS where
 rest:By
 n:Int
 i:Int
 b:Int
 st:Bool
 l:List (List SV)
def G5(s:DS):Int × DS:=
 if MY s.b s.rest s.i=0 then
  let c:Int:=s.l.length+1;let x:=Wl s.b s.rest s.i;let d:DS:={ rest:=NA s.b s.rest s.i,n:=s.n+Int.tdiv x c,i:=Int.tmod x c,b:=T4 (x-s.i).toNat c.toNat (!s.st),st:=true,l:=s.l }
  if ptI d.n then (if 256<c then (3,d) else (0,{ d with i:=d.i+1,l:=Oa s.l d.i.toNat d.n })) else (2,d)
 else (MY s.b s.rest s.i,{ s with rest:=NA s.b s.rest s.i,i:=Wl s.b s.rest s.i })
def M9(c:UInt8):By->Int
 | []=>-1
 | b::r=>if M9 c r<0 then (if b=c then 0 else -1) else M9 c r+1
def Oi(l:List Nat):List (List SV):=l.map λx:Nat=>[SV.int .i64 (x:Int)]
def Ut(s:By):List Nat:=(Ey s).getD []
def Gq(b:UInt8):Int:=if dig b<16 then dig b else -1
def Gy(s:By):By:=(V3 s).getD []
def S8(s:By):C2 × Nat:=if s.getLast? = some 93/\2<=s.length then (match v6B ((s.take (s.length-1)).drop 1) with
 | some a=>(⟨3,[],0,a⟩,0)
 | none=>(N3,14)) else (N3,14)
def mkH(b:Int)(c:By)(v4:Int)(a:List Nat):C2:=⟨if ltN b 4 then b.toNat else 0,c,v4.toNat,a⟩
def La(n:Int)(l:List By):Bool:=l.all λs=>!(ltI n (s.length:Int))
def C08(s:By):Bool:=([91]:By).isPrefixOf s
end
end Go.Proofs.YteickfjoihhgkaaGreatDoor.E
