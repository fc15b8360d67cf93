/-
  Parts of the proof, merged by a program of the prover's own; no condition.
-/
import Derived.Test.YtddlcgjamdbinaaGreatDoorKXS1
import Derived.RangeFuncRecord
import Derived.Sort.QuietThIn
import Derived.TacticsIn
open Bool renaming and_eq_true->c9,or_eq_true->x6,false_eq_true->aa1,not_eq_true'->aa6,false_or->ah3
open List renaming getElem?_eq_getElem->j0,getElem_mem->j4,getElem_map->j5,all_eq_true->j6,getD_eq_getElem?_getD->j7,getElem?_eq_some_iff->o9,map_cons->s9,length_map->w6,mem_append->w8,eq_nil_iff_forall_not_mem->x3,length_append->x4,getElem?_map->y5,getElem_append_left->y7,mem_cons->y8,mem_map->ab0,append_nil->ab4,foldl_cons->ab5,getElem?_take->ab7,length_eq_zero_iff->ab9,isEmpty_iff->ac2,mem_map_of_mem->ac7,map_nil->ac8,getElem?_append_right->ac9,getElem?_append_left->ad0,getElem_append_right->ad1,length_take->ad4,nil_append->ae0,length_singleton->ae2,filterMap_cons->ae6,map_map->ae9,any_eq_true->af3,getElem_inj->af4,length_cons->af5,take_length->af6,map_append->ag3,mem_filter->ag4,nodup_cons->ag5,drop_zero->ag9,mem_range->ah0,nodup_nil->ah1,range->ah2,drop_nil->ah6,take_nil->ah7
open Option renaming bind_some->j1,bind_none->j2,map_some->w9,isSome_iff_exists->x5,isNone_iff_eq_none->x9,getD_some->af9
open Option.some renaming injEq->j8,inj->ag6
open Array renaming getD_eq_getD_getElem?->j9,getElem?_eq_some_iff->o7,toList_map->x8,getElem?_eq_getElem->ab1,replicate->ac4,getElem?_replicate->ad2,getElem?_eq_none->ad7,mem_of_getElem?->ae1,length_toList->ae5
open Nat renaming lt_of_lt_of_le->k9,eq_of_beq_eq_true->o6,le_trans->p4,le_refl->p5,ble->s8,zero_add->x7,le_of_ble_eq_true->aa5,beq->ab6,add_sub_cancel_left->ad5,lt_irrefl->ae7,add_mul->ag1
open Go.Region renaming wanted->o0,ready->o5,Mode->aa0,noSelect->aa4,binds->ac0
open Go.Deferred renaming ofValue->o8
open Go.MapKept renaming run_checkKey->p6,run_getObj_map->v7,run_findKey->v8,run_setObj_map->aa3,IsKey->ab2,bytes_beq->af0
open Decidable renaming byContradiction->p7
open Go.World renaming putObj_heap_other->p9,putObj_heap_same->ac1,shape?->af2,cell?->ag2
open Go.Oper renaming semAt_eq->y9,uponIn->z7,quietAtIn->aa7,wpIn->ad6,quietUponIn->af8
open Go.Instr renaming lookup->aa2,findNow->ac3,mapUpdate->ac5,alloc->ag0,sureAddr->ag8,extract->ah4,makeMap->ah5,loadAt->ai0
open Go.Result renaming andThen->aa8
open Go.Act renaming put_comm->aa9,put->ah9
open Go.Builtin renaming delete_->ab3
open Or renaming inl->ab8
open Go.Result.ok renaming injEq->ac6
open Prod.mk renaming injEq->ad3
open Go.Sem renaming run_bind->ad8,run_pure->ad9
open Go.Code renaming region->ae3
open Prod renaming snd->ae4
open Go.CallsIn renaming mono->ae8
open Go.RoundIn renaming mono->af1
open Go.Next.value renaming injEq->af7
open Go.Fence renaming wide->ag7
open Go.StepsIn renaming trans->ah8
open Go.RowsIn renaming mono->ai1
set_option maxRecDepth 100000
variable{R:Type}
namespace Go.Proofs.YtddlcgjamdbinaaGreatDoor.E
set_option linter.all false
section
open Go
section
variable {Γ : Ctx} {H : List Blk} {w : World} {R : Type} {r : R} {C : Cfg}
def GS{sh:Nat->Option Shp}(s:ByteArray):∀(l:List (List UInt8 × PV)) (c:List MapEntry) (n:Nat),MR Γ sh w l c->
  (Ae l s.data.toList=false/\ac3 .string (.string s) c n=some none/\Kh l s.data.toList=l/\∀v V b,VP Γ sh w v V->MR Γ sh w (Dd l s.data.toList v) (c++[⟨.string s,V,b⟩]))\/
  (Ae l s.data.toList=true/\∃i E,ac3 .string (.string s) c n=some (some (n+i,E.val))/\c[i]? = some E/\E.key = .string s/\VP Γ sh w (Z1 .bad l s.data.toList) E.val/\MR Γ sh w (Kh l s.data.toList) (c.eraseIdx i)/\
   ∀v V,VP Γ sh w v V->MR Γ sh w (Dd l s.data.toList v) (c.modify i λe=>{ e with key:=.string s,val:=V }))
 | [],[],n,_=>.inl ⟨rfl,rfl,rfl,λv V b j=>⟨⟨⟨s,rfl,rfl⟩,j⟩,trivial⟩⟩
 | e::l,E::c,n,h=>by
  obtain⟨⟨⟨f,m,d⟩,j⟩,x⟩:=h;have g:Instr.sameNow .string (.string s) E.key=some (s==f):=by rw[m];rfl
  have heq:(s==f)=(s.data.toList==e.1):=by
   rw[<-d,Bool.eq_iff_iff];simp only[af0,beq_iff_eq];constructor
   ·rintro rfl;rfl
   ·intro h;have e:s.data=f.data:=Array.toList_inj.1 h;cases s;cases f;simp_all
  cases a:(s.data.toList==e.1) with
  | true=>
   rw[a] at heq;have A:e.1=s.data.toList:=(eq_of_beq a).symm;have y:s=f:=(af0 s f).1 heq;subst y;refine .inr ⟨by simp only[Ae,a,aa],0,E,by simp[ac3,g,heq],rfl,m,by simpa only[Z1,a,aa] using j,by simpa only[Kh,a,aa,List.eraseIdx_zero,List.tail_cons] using x,λv V k=>?_⟩;simp only[Dd,a,aa];exact⟨⟨⟨s,rfl,A.symm⟩,k⟩,x⟩
  | false=>
   rw[a] at heq;rcases GS s l c (n+1) x with⟨o,p,q,t⟩|⟨o,i,z,p,q,u,t,B,D⟩
   ·refine .inl ⟨by simp only[Ae,a,ab,o],by simp[ac3,g,heq,p],by simp only[Kh,a,ab,q],λv V b k=>?_⟩;simp only[Dd,a,ab];exact⟨⟨⟨f,m,d⟩,j⟩,t v V b k⟩
   ·refine .inr ⟨by simp only[Ae,a,ab,o],i+1,z,by simp[ac3,g,heq,p];omega,by simpa using q,u,by simpa only[Z1,a,ab] using t,?_,λv V k=>?_⟩
    ·simp only[Kh,a,ab,List.eraseIdx_cons_succ];exact⟨⟨⟨f,m,d⟩,j⟩,B⟩
    ·simp only[Dd,a,ab,List.modify_succ_cons];exact⟨⟨⟨f,m,d⟩,j⟩,D v V k⟩
 | [],_::_,_,h=>h.elim
 | _::_,[],_,h=>h.elim
def SY:∀(l:List (List UInt8 × PV)) (q:List UInt8),∀c∈(Z1 .bad l q).nms,c∈D1 (l.map ae4)
 | [],q,c,a=>by simp[Z1,PV.nms] at a
 | e::l,q,c,a=>by
  simp only[Z1] at a;simp only[s9,D1,w8];cases b:(q==e.1) with
  | true=>rw[b] at a;exact .inl a
  | false=>rw[b] at a;exact .inr (SY l q c a)
def TB(v:PV):∀(l:List (List UInt8 × PV)) (q:List UInt8),∀c∈D1 ((Dd l q v).map ae4),c∈D1 (l.map ae4)\/c∈v.nms
 | [],q,c,a=>by simp only[Dd,s9,ac8,D1,ab4] at a;exact .inr a
 | e::l,q,c,a=>by
  simp only[Dd] at a;cases b:(q==e.1) with
  | true=>
   rw[b] at a;simp only[aa,s9,D1,w8] at a ⊢;exact a.elim .inr (λh=>.inl (.inr h))
  | false=>
   rw[b] at a;simp only[ab,s9,D1,w8] at a ⊢;rcases a with h|h
   ·exact .inl (.inl h)
   ·exact(TB v l q c h).elim (λh=>.inl (.inr h)) .inr
def SW:∀(l:List (List UInt8 × PV)) (q:List UInt8),∀c∈D1 ((Kh l q).map ae4),c∈D1 (l.map ae4)
 | [],q,c,a=>a
 | e::l,q,c,a=>by
  simp only[Kh] at a;simp only[s9,D1,w8];cases b:(q==e.1) with
  | true=>rw[b] at a;exact .inr a
  | false=>
   rw[b] at a;simp only[ab,s9,D1,w8] at a;exact a.imp id (SW l q c)
def HR.mp'(hH:HR Γ H w){b:Nat}{ents:List (List UInt8 × PV)}{X:Value}(hb:H[b]? = some (.mp ents))(hx:VP Γ (A3 H) w (.it b) X) :
  ∃g es ck,Γ.nm b=some g/\X = .map (some g)/\w.heap[g]? = some (.map es ck)/\MR Γ (A3 H) w ents es.toList/\∀c∈D1 (ents.map ae4),c<H.length:=by
 obtain⟨g,hg,rfl⟩:=Bd0 hb hx;obtain⟨hlt,hbe⟩:=o9.1 hb;have hB:=hH.blk b hlt;rw[hbe] at hB;obtain⟨g',es,ck,h1,h2,h3⟩:=hB;rw[hg] at h1;cases h1;exact⟨g,es,ck,hg,rfl,h2,h3,λc hc=>hH.nms b hlt c (by rw[hbe];exact hc)⟩
def Rp{t:Nat}{k:PV->List Blk->Option R}{sl:List PV}{tmps:Array Value}(b:HR Γ H w)(h:Mi C t H k=some r) :
  ∃v H',k v H'=some r/\WV C Γ H w sl tmps (ah5 t none) v sl H'/\∃V o,(ah5 t none).run C.P w = .ok V (w.alloc o):=by
 unfold Mi at h;split at h
 ·rename_i d e _;split at h
  ·have a:(w.alloc (.map #[] 0)).heap=w.heap.push (.map #[] 0):=rfl;cases c:(C.ti e).ks.all CK.scal with
   | true=>
    rw[c] at h;refine⟨_,_,h,Fi b (V:=.map (some w.heap.size)) (o:=.map #[] 0) (w':=w.alloc (.map #[] 0)) rfl a rfl rfl rfl ⟨w.heap.size,#[],0,by simp[Ctx.upd],G9 a,trivial⟩ (by simp[Blk.nms]) ?_ (by simp[PV.nms]),_,_,rfl⟩;exact .mpv _ _ (by rw[J0];rfl) (by simp[Ctx.upd])
   | false=>
    rw[c] at h;refine⟨_,_,h,Fi b (V:=.map (some w.heap.size)) (o:=.map #[] 0) (w':=w.alloc (.map #[] 0)) rfl a rfl rfl rfl ⟨w.heap.size,#[],0,by simp[Ctx.upd],G9 a,trivial⟩ (by simp[Blk.nms,D1]) ?_ (by simp[PV.nms]),_,_,rfl⟩;exact .mpv _ _ (by rw[J0];rfl) (by simp[Ctx.upd])
  ·cases h
 ·cases h
def Co6{t:Nat}{v:PV}{V:Value}(h:okV (C.ti t) v=true)(z:VP Γ (A3 H) w v V):VP Γ (A3 H) w (asV (C.ti t) v) V/\∀c∈(asV (C.ti t) v).nms,c∈v.nms:=by
 simp only[okV,c9,beq_iff_eq] at h;obtain⟨n,o,x⟩:=h;have o:=o6 o;have u:=Ac5 x;have g:∀j (a:j<(Bc (C.ti t) v.cells 0).length),∃(b:j<v.cells.length) (q:j<(C.ti t).ks.length),(Bc (C.ti t) v.cells 0)[j]=(v.cells[j]).as ((C.ti t).ks[j])/\(v.cells[j]).has ((C.ti t).ks[j])=true:=λj a=>by
  have i:j<(C.ti t).ks.length:=by rw[Q9] at a;exact a
  have b:=u j i;rw[x7] at b;have f:=Ac4 x j i;rw[x7,Aa b] at f;exact⟨b,i,by simp[Bc,j0 b],f⟩
 have m:∀c∈D1 (Bc (C.ti t) v.cells 0),c∈v.nms:=λc d=>by
  obtain⟨j,a,d⟩:=C8.1 d;obtain⟨b,q,e,_⟩:=g j a;rw[e] at d;exact PV.cells_nms c (C8.2 ⟨j,b,PV.as_nms c d⟩)
 have k:(Bc (C.ti t) v.cells 0).length=v.cells.length:=by rw[Q9,o]
 unfold asV;rw[MM];cases y:(C.ti t).agg with
 | true=>
  rw[y] at n;simp only[if_true];refine⟨?_,by simpa[PV.nms] using m⟩;cases v with
  | agg l=>
   obtain⟨A,rfl,hA,d⟩:=z.inv_agg;refine VP.mk_agg (by rw[k];exact hA) λj a=>?_
   obtain⟨b,q,e,f⟩:=g j a;obtain⟨U,B,F⟩:=d j b;exact⟨U,B,by rw[e];exact F.as f⟩
  | _=>cases n
 | false=>
  rw[y] at n;simp only[aa1,if_false];split
  ·rename_i D;have a:0<(Bc (C.ti t) v.cells 0).length:=by rw[Q9];omega
   rw[Aa a];refine⟨?_,λc d=>m c (C8.2 ⟨0,a,d⟩)⟩;obtain⟨b,q,e,f⟩:=g 0 a;have p:v.cells[0]=v:=by
    cases v with
    | agg l=>cases n
    | bad=>exact absurd b (by simp[PV.cells])
    | _=>rfl
   rw[e];generalize (C.ti t).ks[0]=c at f ⊢;simp only[p] at f ⊢;exact z.as f
  ·exact⟨.bad V,by simp[PV.nms]⟩
def C94{sh:Nat->Option Shp}{t:Nat}(h:(C.ti t).ok=true)(b:Ai8 C t=true):∃i Z,C.P.info? t=some i/\i.zero=some Z/\VP Γ sh w (GH (C.ti t)) Z/\(GH (C.ti t)).nms=[]:=by
 obtain⟨i,z,g,l,o,a⟩:=Ho (Γ:=Γ) (sh:=sh) (w:=w) h;obtain⟨_,_,_,j⟩:=L6 h;have n:=Sk (C.ti t).ks;refine⟨i,z,g,l,?_⟩;simp only[Ai8,g,w9,l] at b;unfold GH;cases f:(C.ti t).agg with
 | true=>
  rw[f] at b;simp only[if_true];refine⟨?_,by simpa[PV.nms] using n⟩;cases z with
  | agg A=>exact VP.mk_agg a.1 a.2
  | _=>cases b
 | false=>
  rw[f] at b;simp only[aa1,if_false];split
  ·rename_i c m;rw[m] at a;obtain⟨U,e,k⟩:=a.2 0 (by simp);have d:z.cells[0]? = some z:=by
    cases z<;>first|rfl|(simp at b)
   rw[d] at e;cases e;refine⟨by simpa using k,?_⟩;cases c<;>rfl
  ·exact⟨.bad z,rfl⟩
section
variable {L Y : Type} (f : L -> Y)
def SZ:∀(l:List (List UInt8 × L)) (q:List UInt8),Ae (l.map λe=>(e.1,f e.2)) q=Ae l q
 | [],_=>rfl
 | e::l,q=>by simp only[s9,Ae,SZ l q]
def SX(d:L):∀(l:List (List UInt8 × L)) (q:List UInt8),Z1 (f d) (l.map λe=>(e.1,f e.2)) q=f (Z1 d l q)
 | [],_=>rfl
 | e::l,q=>by simp only[s9,Z1,SX d l q];cases q==e.1<;>rfl
def TA(v:L):∀(l:List (List UInt8 × L)) (q:List UInt8),Dd (l.map λe=>(e.1,f e.2)) q (f v)=(Dd l q v).map λe=>(e.1,f e.2)
 | [],_=>rfl
 | e::l,q=>by simp only[s9,Dd,TA v l q];cases q==e.1<;>rfl
def SU:∀(l:List (List UInt8 × L)) (q:List UInt8),Kh (l.map λe=>(e.1,f e.2)) q=(Kh l q).map λe=>(e.1,f e.2)
 | [],_=>rfl
 | e::l,q=>by simp only[s9,Kh,SU l q];cases q==e.1<;>rfl
end
def MV{b:Type}(d a:b):∀(l:List (List UInt8 × b)) (q:List UInt8),Ae l q=true->Z1 d l q=Z1 a l q
 | [],_,h=>by cases h
 | e::l,q,h=>by
  simp only[Ae,Z1] at h ⊢;cases c:(q==e.1) with
  | true=>rfl
  | false=>rw[c] at h;exact MV d a l q h
def Cg8{t:TI}{l:List SV}(i:Di5 t l=true)(o:t.ks.all CK.scal=true)(k:t.ok=true):okV t (svV t.agg l)=true/\asV t (svV t.agg l)=Af3 t true l\/Af3 t true l = .bad:=by
 have key:∀c,c.scal=true->∀x:SV,(PV.s x).as c=Dn6 true x c:=λc b x=>by cases c<;>first|rfl|cases b
 have e:∀c,c.scal=true->∀x:SV,x.has c=true->(PV.s x).has c=true:=λc b x h=>by cases c<;>first|exact h|cases b
 simp only[Di5,c9,j6] at i;have a:=o6 i.1;have f:∀{c j},(c,j)∈t.ks.zipIdx->c.scal=true/\j<l.length:=fun {c j} h=>by
  have:=List.mem_zipIdx_iff_getElem?.1 h;exact⟨j6.1 o c (List.mem_of_getElem? this),by rw[a];exact(o9.1 this).1⟩
 have d:∀j,j<l.length->(l.map PV.s).getD j .bad = .s (l.getD j .nilp):=λj v=>by simp[v]
 cases g:t.agg with
 | true=>
  left
  refine⟨?_,?_⟩
  ·simp only[okV,svV,aa,PV.isAgg,g,beq_self_eq_true,PV.cells,w6,c9,okP,k,j6,true_and];refine⟨i.1,λp n=>?_⟩;obtain⟨c,j⟩:=p;obtain⟨q,u⟩:=f n;have:=i.2 _ n;simp only[x7];rw[d j u];exact e c q _ this
  ·simp only[asV,Pw,g,if_true,svV,aa,PV.cells,Af3]
   congr 1
   refine List.map_congr_left λp n=>?_
   obtain⟨c,j⟩:=p;obtain⟨q,u⟩:=f n;simp only[x7];rw[d j u];exact key c q _
 | false=>
  match l,a with
  | [],a=>
   right
   have:t.ks=[]:=ab9.1 a.symm;simp[Af3,g,this]
  | x::y::z,a=>
   right
   match h:t.ks,a with
   | [],a=>cases a
   | [c],a=>cases a
   | _::_::_,_=>simp[Af3,g,h]
  | [x],a=>
   left
   obtain⟨c,b⟩:∃c,t.ks=[c]:=by
    match h:t.ks with
    | []=>rw[h] at a;cases a
    | [c]=>exact⟨c,rfl⟩
    | _::_::_=>rw[h] at a;cases a
   have m:c.scal=true:=by rw[b] at o;simpa using o
   have A:x.has c=true:=by
    have:=i.2 (c,0) (by rw[b];simp);simpa using this
   refine⟨?_,?_⟩
   ·simp only[okV,svV,ab,PV.isAgg,g,beq_self_eq_true,PV.cells,b,okP,k,c9,true_and];exact⟨rfl,by simpa using e c m x A⟩
   ·simp only[asV,Pw,g,aa1,if_false,svV,ab,PV.cells,Af3,b];exact key c m x
def Bo4{t:TI}{l:List SV}(b:t.ks.all CK.scal=true):Af3 t false l=GH t:=by
 have key:∀c,c.scal=true->∀x:SV,Dn6 false x c=W5 c:=λc a x=>by cases c<;>first|rfl|cases a
 unfold Af3 GH;split
 ·congr 1
  refine List.ext_getElem (by simp) λj d e=>?_
  simp only[j5,List.getElem_zipIdx];exact key _ (j6.1 b _ (j4 _)) _
 ·split
  ·rename_i c a;exact key c (j6.1 b c (by rw[a];simp)) _
  ·rfl
def Cu9{sh:Nat->Option Shp}{v:PV}{V:Value}(ok b:Bool)(h:VP Γ sh w v V):VP Γ sh w (FK ok v b) (if ok then .tuple #[V,.bool b] else V)/\∀c∈(FK ok v b).nms,c∈v.nms:=by
 cases ok with
 | true=>
  refine⟨VP.mk_tup rfl λj d=>?_,λc a=>by simpa[FK,PV.nms,D1] using a⟩
  match j,d with
  | 0,_=>exact⟨V,rfl,h⟩
  | 1,_=>exact⟨_,rfl,.s _ _ (.bool b)⟩
 | false=>exact⟨h,λc a=>a⟩
def HR.ms'(hH:HR Γ H w){b:Nat}{a:Bool}{ents:List (List UInt8 × List SV)}{X:Value}(hb:H[b]? = some (.ms a ents))(hx:VP Γ (A3 H) w (.it b) X) :
  ∃g es ck,Γ.nm b=some g/\X = .map (some g)/\w.heap[g]? = some (.map es ck)/\MR Γ (A3 H) w (msP a ents) es.toList:=by
 obtain⟨g,hg,rfl⟩:=Bd1 hb hx;obtain⟨hlt,hbe⟩:=o9.1 hb;have hB:=hH.blk b hlt;rw[hbe] at hB;obtain⟨g',es,ck,h1,h2,h3⟩:=hB;rw[hg] at h1;cases h1;exact⟨g,es,ck,hg,rfl,h2,h3⟩
def FL{sh:Nat->Option Shp}{t p e g l:Nat}{ok:Bool}{Z:Value}{d:Array MapEntry}{s:ByteArray}{a:List (List UInt8 × PV)}(o:C.P.underlying t=some (.map p e))(f:C.P.underlying p=some .string)(k:∀w':World,(zeroValue e).run C.P w' = .ok Z w')(m:w.heap[g]? = some (.map d l))(j:MR Γ sh w a d.toList) :
  (Ae a s.data.toList=false/\∀w':World,Ext w w'->(aa2 t (.map (some g)) (.string s) ok).run C.P w' = .ok (if ok then .tuple #[Z,.bool false] else Z) w')\/
  (Ae a s.data.toList=true/\∃V,VP Γ sh w (Z1 .bad a s.data.toList) V/\∀w':World,Ext w w'->(aa2 t (.map (some g)) (.string s) ok).run C.P w' = .ok (if ok then .tuple #[V,.bool true] else V) w'):=by
 have b:∀w':World,Ext w w'->w'.heap[g]? = some (.map d l):=λw' c=>(c g (o7.1 m).1).trans m
 rcases GS s a d.toList 0 j with⟨h,i,_⟩|⟨h,n,E,i,u,v,q,_⟩
 ·refine .inl ⟨h,λw' c=>?_⟩;simp[aa2,run_underlying o,v7 (b w' c),p6 (n:=9999) f (show ab2 .string (.string s) from trivial),v8 f i,k]
 ·refine .inr ⟨h,E.val,q,λw' c=>?_⟩;simp[aa2,run_underlying o,v7 (b w' c),p6 (n:=9999) f (show ab2 .string (.string s) from trivial),v8 f i]
def PD{t:Nat}{x i:PV}{X I:Value}{ok:Bool}{k:PV->Option R}(hH:HR Γ H w)(h:Tb C t x i ok H k=some r)(T:VP Γ (A3 H) w x X)(hi:VP Γ (A3 H) w i I) :
  ∃v,k v=some r/\QV C.P Γ H w (aa2 t X I ok) v:=by
 unfold Tb at h;split at h
 case h_2=>cases h
 rename_i kt e q S;obtain⟨s,rfl,rfl⟩:=hi.inv_str;have P:=Pd S;split at h
 case h_2=>cases h
 rename_i O;have F:=Cj O;split at h
 case isFalse=>cases h
 rename_i m;simp only[c9] at m;obtain⟨ii,Z,N,hZ,U,W⟩:=C94 (Γ:=Γ) (sh:=A3 H) (w:=w) m.1 m.2;have z:∀w':World,(zeroValue e).run C.P w' = .ok Z w':=λw'=>by simp[zeroValue,typeInfo,N,hZ]
 have out:∀{Y:PV->Option R} {b:Bool} {v:PV} {V:Value},Y (FK ok v b)=some r->VP Γ (A3 H) w v V->(∀c∈v.nms,c<H.length)->(∀w':World,Ext w w'->(aa2 t X (.string s) ok).run C.P w' = .ok (if ok then .tuple #[V,.bool b] else V) w')->∃v,Y v=some r/\QV C.P Γ H w (aa2 t X (.string s) ok) v:=fun {Y} {b} {v} {V} f j h3 h4=>by
  obtain⟨l1,l2⟩:=Cu9 ok b j;exact⟨_,f,λc A=>h3 c (l2 c A),_,l1,h4⟩
 have y:∀c∈(GH (C.ti e)).nms,c<H.length:=by rw[W];simp
 split at h
 ·obtain rfl:=T.inv_nilm;refine out h U y λw' _=>?_
  simp[aa2,run_underlying P,p6 (n:=9999) F (show ab2 .string (.string s) from trivial),v8 (k:=.string s) (l:=[]) (a:=none) F rfl,z]
 ·rename_i b;split at h
  ·rename_i a d L;obtain⟨g,es,ck,hg,rfl,M,u⟩:=hH.ms' L T;split at h
   ·rename_i B;simp only[c9,beq_iff_eq] at B;obtain⟨B,rfl⟩:=B;obtain⟨D,p⟩:=C9 h;have e1:=SZ (svV (C.ti e).agg) d s.data.toList;rcases FL (ok:=ok) (s:=s) P F z M u with⟨f,j⟩|⟨f,V,G,j⟩
    ·rw[show Ae d s.data.toList=false from e1.symm.trans f] at p;rw[Bo4 B] at p;exact out p U y j
    ·have K:Ae d s.data.toList=true:=e1.symm.trans f;rw[K] at D p;simp only[Bool.not_true,ah3] at D;rw[MV .bad (svV (C.ti e).agg []) _ _ f,show Z1 (svV (C.ti e).agg []) (msP (C.ti e).agg d) s.data.toList=svV (C.ti e).agg (Z1 [] d s.data.toList) from SX _ _ _ _] at G;rcases Cg8 D B m.1 with⟨o1,o2⟩|o
     ·obtain⟨v1,J⟩:=Co6 o1 G;rw[o2] at v1 J;exact out p v1 (λc A=>by have:=J c A;rw[Ag8] at this;simp at this) j
     ·rw[o] at p;exact out p (.bad V) (by simp[PV.nms]) j
   ·cases h
  ·rename_i d L;obtain⟨g,es,ck,hg,rfl,M,u,Q⟩:=hH.mp' L T;rcases FL (ok:=ok) (s:=s) P F z M u with⟨f,j⟩|⟨f,V,G,j⟩
   ·rw[f] at h;exact out h U y j
   ·rw[f] at h;simp only[Gh,aa] at h;obtain⟨D,p⟩:=C9 h;obtain⟨v1,J⟩:=Co6 D G;exact out p v1 (λc A=>Q c (SY _ _ c (J c A))) j
  ·cases h
 ·cases h
def Zc{m:Sem Value}{b g D:Nat}{x y:Blk}{F e:Array MapEntry}{d:List (List UInt8 × PV)}{f:Nat}{V:Value}{v:PV}{sl:List PV}{n:Array Value}(t:HR Γ H w)(z:H[b]? = some x)(o:Γ.nm b=some g)(A:w.heap[g]? = some (.map F D))(j:y.shp=x.shp)
  (G:m.run C.P w = .ok V { w with heap:=w.heap.setIfInBounds g (.map e f) }) (p:MR Γ (A3 H) w d e.toList) (I:∀c∈y.nms,c<H.length) (K:y = .mp d\/∃a l,y = .ms a l/\d=msP a l) (J:∀sh w,VP Γ sh w v V) (hvn:v.nms=[]):WV C Γ H w sl n m v sl (H.set b y):=by
 obtain⟨q,B⟩:=MapKept.heap_set (o':=.map e f) A;have i:({ w with heap:=w.heap.setIfInBounds g (.map e f) }:World).shape? g=w.shape? g:=by simp only[af2,q,A]
 have M:=Ey (w':={ w with heap:=w.heap.setIfInBounds g (.map e f) }) (y:=y) t z o j B i;have h:=p.imp (Γ':=Γ) λu _ U k=>k.mono M λ_ _=>trivial
 refine Nc t G z o j B i (by simp) rfl rfl rfl ?_ I (J _ _) (by simp[hvn]);rcases K with rfl|⟨a,l,rfl,rfl⟩
 ·exact⟨g,e,f,o,q,h⟩
 ·exact⟨g,e,f,o,q,h⟩
def Au2{sh:Nat->Option Shp}{t u e g d:Nat}{c:Array MapEntry}{s:ByteArray}{a:List (List UInt8 × PV)}{v:PV}{V:Value}(p:C.P.underlying t=some (.map u e))(j:C.P.underlying u=some .string)(i:w.heap[g]? = some (.map c d))(o:MR Γ sh w a c.toList)(q:VP Γ sh w v V) :
  ∃f k,(do ac5 t (.map (some g)) (.string s) V;pure undef:Sem Value).run C.P w = .ok undef { w with heap:=w.heap.setIfInBounds g (.map f k) }/\MR Γ sh w (Dd a s.data.toList v) f.toList:=by
 have b:ab2 .string (.string s):=trivial;rcases GS s a c.toList 0 o with⟨x,h,_,m⟩|⟨x,n,E,h,y,m,A,_,z⟩
 ·refine⟨c.push ⟨.string s,V,d⟩,d+1,?_,by simpa using m v V d q⟩;simp[ac5,run_underlying p,v7 i,p6 (n:=9999) j b,v8 j h,aa3 _ i]
 ·rw[x7] at h;have l:c[n]? = some E:=by simpa using y
  refine⟨c.modify n λe=>{ e with key:=.string s,val:=V },d,?_,by simpa using z v V q⟩;simp[ac5,run_underlying p,v7 i,p6 (n:=9999) j b,v8 j h,l,m,MapKept.run_keyThatStays b,aa3 _ i]
def PI{t:Nat}{m x v:PV}{M X V:Value}{k:List Blk->Option R}{sl:List PV}{tmps:Array Value}(y:HR Γ H w)(h:Te C t m x v H k=some r)(O:VP Γ (A3 H) w m M)(Y:VP Γ (A3 H) w x X)(L:VP Γ (A3 H) w v V)(hvn:∀c∈v.nms,c<H.length) :
  ∃H',k H'=some r/\WV C Γ H w sl tmps (do ac5 t M X V;pure undef) (.tup []) sl H':=by
 unfold Te at h;split at h
 case h_2=>cases h
 rename_i Z e b q K;obtain⟨s,rfl,rfl⟩:=Y.inv_str;have P:=Pd K;split at h
 ·rename_i a f n o;split at h
  ·rename_i l u;obtain⟨g,W,Q,F,rfl,p,i⟩:=y.ms' o O;have N:VP Γ (A3 H) w (svV a l) V:=by
    unfold plC at u;split at u
    ·rename_i vs;obtain⟨A,rfl,hA,D⟩:=L.inv_agg;obtain⟨S,T⟩:=X7 (As:=A.toList) u (by simpa using hA.symm) (λj G=>by obtain⟨U,e,k⟩:=D j G;exact⟨U,by simpa using e,k⟩);simp only[svV,aa];refine VP.mk_agg (by simpa using S.symm) λj G=>?_
     obtain⟨U,e,k⟩:=T j (by simpa using G);exact⟨U,by simpa using e,by rw[j5];exact .s _ _ k⟩
    ·cases u;exact L
    ·cases u
   obtain⟨B,z,J,d⟩:=Au2 (s:=s) P (Cj n) p i N;exact⟨_,h,Zc y o F p rfl J d (by simp[Blk.nms]) (.inr ⟨a,_,rfl,TA _ _ _ _⟩) (λ_ _=>Ak) rfl⟩
  ·cases h
 ·rename_i f n o;obtain⟨g,W,Q,F,rfl,p,i,I⟩:=y.mp' o O;obtain⟨B,z,J,d⟩:=Au2 (s:=s) P (Cj n) p i L;exact⟨_,h,Zc y o F p rfl J d (λc D=>(TB v f _ c D).elim (I c) (hvn c)) (.inl rfl) (λ_ _=>Ak) rfl⟩
 ·cases h
def Ao0{sh:Nat->Option Shp}{t p e g k ty:Nat}{ts:List Nat}{c:Array MapEntry}{s:ByteArray}{a:List (List UInt8 × PV)}(o:C.P.underlying t=some (.map p e))(j:C.P.underlying p=some .string)(i:w.heap[g]? = some (.map c k))(f:MR Γ sh w a c.toList) :
  ∃d l,(ab3 (t::ts).toArray ty #[.map (some g),.string s]).run C.P w = .ok (.tuple #[]) { w with heap:=w.heap.setIfInBounds g (.map d l) }/\MR Γ sh w (Kh a s.data.toList) d.toList:=by
 have b:ab2 .string (.string s):=trivial;rcases GS s a c.toList 0 f with⟨q,h,m,u⟩|⟨q,n,E,h,m,u,x,v,_⟩
 ·refine⟨c,k,?_,by rw[m];exact f⟩;simp[ab3,run_underlying o,v7 i,p6 (n:=9999) j b,v8 j h,aa3 _ i]
 ·rw[x7] at h;refine⟨c.eraseIdxIfInBounds n,k,?_,by simpa using v⟩;simp[ab3,run_underlying o,v7 i,p6 (n:=9999) j b,v8 j h,aa3 _ i]
def PH{t ty:Nat}{ts:List Nat}{m x:PV}{M X:Value}{k:List Blk->Option R}{sl:List PV}{tmps:Array Value}(p:HR Γ H w)(h:Td C t m x H k=some r)(D:VP Γ (A3 H) w m M)(P:VP Γ (A3 H) w x X) :
  ∃H',k H'=some r/\WV C Γ H w sl tmps (ab3 (t::ts).toArray ty #[M,X]) (.tup []) sl H':=by
 unfold Td at h;split at h
 case h_2=>cases h
 rename_i Q e q I;obtain⟨s,rfl,rfl⟩:=P.inv_str;have J:=Pd I;have f:∀sh w,VP Γ sh w (.tup []) (.tuple #[]):=λ_ _=>VP.mk_tup rfl λj O=>by simp at O
 split at h
 ·rename_i o;have y:=Cj o;obtain rfl:=D.inv_nilm;exact⟨_,h,(QV.val (V:=.tuple #[]) rfl (f _ _) λw' _=>by simp[ab3,run_underlying J,p6 (n:=9999) y (show ab2 .string (.string s) from trivial)]).wv p⟩
 ·rename_i b o;have y:=Cj o;split at h
  ·rename_i a i u;obtain⟨g,L,K,B,rfl,v,l⟩:=p.ms' u D;obtain⟨A,z,G,d⟩:=Ao0 (s:=s) (ts:=ts) (ty:=ty) J y v l;exact⟨_,h,Zc p u B v rfl G d (by simp[Blk.nms]) (.inr ⟨a,_,rfl,SU _ _ _⟩) f rfl⟩
  ·rename_i i u;obtain⟨g,L,K,B,rfl,v,l,F⟩:=p.mp' u D;obtain⟨A,z,G,d⟩:=Ao0 (s:=s) (ts:=ts) (ty:=ty) J y v l;exact⟨_,h,Zc p u B v rfl G d (λc N=>F c (SW i _ c N)) (.inl rfl) f rfl⟩
  ·cases h
 ·cases h
end
section
variable {W R : Type} {r : R} {C : Cfg} {I : W -> (Nat -> Prop) -> (Nat -> Prop) -> World -> Prop} {Y : Ctx} {Q : Nat -> Prop} {L : St W} {a : Act} {w : World} {Z : G4} {J : Yh W} {o : Oper} {k : St W -> Option R}
def SI.opnd(S:SI C I Y Q L a.tmps w)(x:Operand):VP Y (A3 L.hp) w (opnd C L.sl x) (a.eval x)/\∀c∈(opnd C L.sl x).nms,c<L.hp.length:=
 Bd7 (ds:=a.defers) S.g S.sr x
def Da1(C:Cfg)(I:W->(Nat->Prop)->(Nat->Prop)->World->Prop)(Y:Ctx)(Q:Nat->Prop)(L:St W)(a:Act)(w:World)(o:Oper)(k:St W->Option R)(r:R):Prop:=
 ∃V b,k b=some r/\(∀w':World,Ext w w'->(execOp a.eval o).run C.P w' = .ok (.value V) w')/\SI C I Y Q b (a.put o.dst V).tmps w/\Stp C Y L.hp w noΦ Y b.hp w noΦ
def SI.put(S:SI C I Y Q L a.tmps w){v:PV}{V:Value}(hv:VP Y (A3 L.hp) w v V)(hn:∀c∈v.nms,c<L.hp.length):SI C I Y Q { L with sl:=Cf o.dst v L.sl } (a.put o.dst V).tmps w:=
 ⟨S.hr,S.sr.put (ds:=a.defers) o hv hn,S.g,S.inv,S.dis⟩
def QV.out{m:Sem Value}{v:PV}(S:SI C I Y Q L a.tmps w)(h:QV C.P Y L.hp w m v)(hk:k { L with sl:=Cf o.dst v L.sl } = some r)(he:execOp a.eval o=(do pure (.value (<-m)))):Da1 C I Y Q L a w o k r:=by obtain⟨hn,V,hv,hq⟩:=h;refine⟨V,_,hk,λw' hw=>?_,S.put hv hn,Stp.refl S.hr⟩;rw[he];simp[hq w' hw]
def QV0.out{m:Sem Value}{v:PV}(S:SI C I Y Q L a.tmps w)(h:QV0 C.P Y L.hp w m v)(hk:k { L with sl:=Cf o.dst v L.sl } = some r)(he:execOp a.eval o=(do pure (.value (<-m)))) :
  ∃V st',k st'=some r/\(∀w':World,(execOp a.eval o).run C.P w' = .ok (.value V) w')/\SI C I Y Q st' (a.put o.dst V).tmps w/\Stp C Y L.hp w noΦ Y st'.hp w noΦ:=by
 obtain⟨hn,V,hv,hq⟩:=h;refine⟨V,_,hk,λw'=>?_,S.put hv hn,Stp.refl S.hr⟩;rw[he];simp[hq w']
def QV.pure{P:Program}{H:List Blk}{v:PV}{V:Value}(hv:VP Y (A3 H) w v V)(hn:∀c∈v.nms,c<H.length):QV P Y H w (pure V) v:=⟨hn,V,hv,λ_ _=>rfl⟩
def SI.ov(S:SI C I Y Q L a.tmps w)(x:Option Operand):OV Y (A3 L.hp) w (Rv (Go.Proofs.YtddlcgjamdbinaaGreatDoor.E.opnd C L.sl) x) (x.map a.eval):=by
 cases x with
 | none=>trivial
 | some x=>exact(S.opnd x).1
def Fd{b c:Type}{f:b->c}{x:Option b}:(Rv f x).isSome=x.isSome:=by cases x<;>rfl
def SI.parts(S:SI C I Y Q L a.tmps w):∀(ps:List (Nat × Operand)),PR Y (A3 L.hp) w (ps.map λ(i,x)=>(i,Go.Proofs.YtddlcgjamdbinaaGreatDoor.E.opnd C L.sl x)) (ps.map λ(i,x)=>(i,a.eval x))/\∀p∈(ps.map λ(i,x)=>(i,Go.Proofs.YtddlcgjamdbinaaGreatDoor.E.opnd C L.sl x)),∀c∈p.2.nms,c<L.hp.length
 | []=>⟨trivial,by simp⟩
 | (i,x)::ps=>by
  obtain⟨h1,h2⟩:=S.parts ps;refine⟨⟨rfl,(S.opnd x).1,h1⟩,λp hp=>?_⟩;rcases y8.1 hp with rfl|hp
  ·exact(S.opnd x).2
  grind
def SI.list(S:SI C I Y Q L a.tmps w)(xs:Array Operand):CR Y (A3 L.hp) w (xs.toList.map (Go.Proofs.YtddlcgjamdbinaaGreatDoor.E.opnd C L.sl)) (xs.map a.eval)/\∀c∈D1 (xs.toList.map (Go.Proofs.YtddlcgjamdbinaaGreatDoor.E.opnd C L.sl)),c<L.hp.length:=by
 refine⟨⟨by simp,λj hj=>?_⟩,λc hc=>?_⟩
 ·have hj':j<xs.size:=by simpa using hj
  exact⟨a.eval xs[j],by simp[hj'],by simpa using(S.opnd xs[j]).1⟩
 ·obtain⟨j,hj,hm⟩:=C8.1 hc;have hj':j<xs.size:=by simpa using hj
  exact(S.opnd xs[j]).2 c (by simpa using hm)
def Bc9{f:Nat}{x y:List PV}{A B:Array Value}{sh:Nat->Option Shp}(c:CR Y sh w x A)(d:CR Y sh w y B):VP Y sh w (Cv5 (.func f) x y) (.func (.func f) A B):=by
 unfold Cv5;split
 ·rename_i xs p m n;obtain⟨g,h⟩:=X7 (As:=A.toList) m (by simpa using c.1.symm) (λj b=>by obtain⟨U,e,k⟩:=c.2 j b;exact⟨U,by simpa using e,k⟩);obtain⟨i,l⟩:=X7 (As:=B.toList) n (by simpa using d.1.symm) (λj b=>by obtain⟨U,e,k⟩:=d.2 j b;exact⟨U,by simpa using e,k⟩);refine .s _ _ (.fn _ xs p A B (λj=>A.getD j undef) (λj=>B.getD j undef) (by simp) (by simpa using g.symm) (by simpa using i.symm) (λj b=>?_) (λj b=>?_) (λj b=>?_) (λj b=>?_))
  ·simp_all
  ·simp_all
  ·obtain⟨U,e,k⟩:=h j b;simp_all
  ·obtain⟨U,e,k⟩:=l j b;simp_all
 ·refine .fnr _ x y A B (λj=>A.getD j undef) (λj=>B.getD j undef) (by simp) c.1 d.1 (λj b=>?_) (λj b=>?_) (λj b=>?_) (λj b=>?_)
  ·obtain⟨U,e,_⟩:=c.2 j b;rw[j9,e];rfl
  ·obtain⟨U,e,_⟩:=d.2 j b;rw[j9,e];rfl
  ·obtain⟨U,e,k⟩:=c.2 j b;rw[j9,e];exact k
  ·obtain⟨U,e,k⟩:=d.2 j b;rw[j9,e];exact k
def Cv6{f:Fn}{x y:List PV}:∀c∈(Cv5 f x y).nms,c∈D1 x\/c∈D1 y:=by
 intro c b;unfold Cv5 at b;split at b
 ·simp[PV.nms] at b
 ·simpa[PV.nms] using b
def D59{c d:Type}{f:c->d}{xs:Array c}{x:d}(h:xs.toList.map f=[x]):∃b,xs = #[b]/\f b=x:=by obtain⟨l⟩:=xs;simp_all
def Ak9{e g:Type}{f:e->g}{xs:Array e}{x y:g}(h:xs.toList.map f=[x,y]):∃c d,xs = #[c,d]/\f c=x/\f d=y:=by
 obtain⟨l⟩:=xs
 match l,h with
 | [a,b],h=>exact⟨a,b,rfl,by simpa using h⟩
def V7{ρ:Operand->Value}{c:Call}{b:Builtin}(e:o.op = .call c)(d:c.callee = .builtin b) :
  ∃f,execOp ρ o=builtin b c.argTypes o.type f (c.args.map ρ):=by
 simp only[execOp,e,resolve,d,pure_bind,invoke];exact⟨_,rfl⟩
def SI.args_ints(S:SI C I Y Q L a.tmps w){xs:Array Operand}{kd:IntKind}{x y:Int}(h:xs.toList.map (Go.Proofs.YtddlcgjamdbinaaGreatDoor.E.opnd C L.sl)=[.s (.int kd x),.s (.int kd y)]):xs.map a.eval = #[.int kd x,.int kd y]:=by obtain⟨x0,y0,rfl,e1,e2⟩:=Ak9 h;have h1:=(S.opnd x0).1;have h2:=(S.opnd y0).1;rw[e1] at h1;rw[e2] at h2;simp[h1.inv_int,h2.inv_int]
def Tj(m:M8 C o.op=true)(h:opK C Z J o L k=some r)(S:SI C I Y Q L a.tmps w):Da1 C I Y Q L a w o k r:=by
 unfold opK at h;dsimp only at h;split at h
 ·rename_i x d;exact(QV.pure (P:=C.P) (S.opnd x).1 (S.opnd x).2).out S h (by simp[execOp,d])
 ·rename_i x d;split at h
  ·rename_i q;have j:=(S.opnd x).1;rw[q] at j;refine⟨a.eval x,_,h,λw' hw=>by simp only[execOp,d,ad9],⟨Bd4 S.hr rfl (.inl ⟨rfl,rfl⟩),?_,S.g,S.inv,S.dis⟩,Ab6 S.hr⟩;refine SR.put (ds:=a.defers) (SR.grow (Ze _ S.hr) S.sr) o ?_ (by simp[PV.nms]);rw[j.inv_nsl];exact .flv _ _ _ (by rw[J0];rfl)
  ·exact(QV.pure (P:=C.P) (S.opnd x).1 (S.opnd x).2).out S h (by simp[execOp,d])
 ·rename_i c x y d;split at h
  ·rename_i t u;have j:=(S.opnd c).1;rw[u] at j;have hb:=j.inv_bool;have z:execOp a.eval o=(do Pure.pure (Next.value (if <-asBool (a.eval c) then a.eval x else a.eval y))):=by simp[execOp,d]
   cases t with
   | true=>
    simp only[Gh,aa] at h;refine⟨_,_,h,λw' hw=>?_,S.put (S.opnd x).1 (S.opnd x).2,Stp.refl S.hr⟩;rw[z,hb];simp[asBool]
   | false=>
    simp only[Gh,ab] at h;refine⟨_,_,h,λw' hw=>?_,S.put (S.opnd y).1 (S.opnd y).2,Stp.refl S.hr⟩;rw[z,hb];simp[asBool]
  ·cases h
 ·rename_i d;rw[d] at m;simp[M8] at m
 ·rename_i d;rw[d] at m;simp[M8] at m
 ·rename_i t parts d;obtain⟨M,N⟩:=S.parts parts.toList;obtain⟨v,l,j⟩:=Xl (ps:=parts.map λ(i,x)=>(i,a.eval x)) h (by rw[x8];exact M) N;exact j.qv.out S l (by simp[execOp,d])
 ·rename_i d;rw[d] at m;simp[M8] at m
 ·rename_i t x d;obtain⟨v,l,j⟩:=FJ S.hr h (S.opnd x).1;exact j.out S l (by simp[execOp,d])
 ·rename_i d;rw[d] at m;simp[M8] at m
 ·rename_i x d;split at h
  ·rename_i hn;have j:=(S.opnd x).1;refine⟨a.eval x,_,h,λw' hw=>?_,S.put j (S.opnd x).2,Stp.refl S.hr⟩;simp only[execOp,d];unfold Cw0 at hn;split at hn
   ·rename_i q;rw[q] at j;obtain⟨ad,e⟩:=j.inv_ptr;simp_all
   ·rename_i q;rw[q] at j;obtain⟨ad,e⟩:=j.inv_sp;simp_all
   ·rename_i q;rw[q] at j;obtain⟨A,B,e⟩:=j.inv_fn;simp_all
   ·rename_i q;rw[q] at j;obtain⟨A,B,e⟩:=j.inv_fnr;simp_all
   grind
  ·cases h
 ·rename_i op t x y _ d;obtain⟨v,l,j⟩:=KJ (ox:=x) (oy:=y) h (S.opnd x).1 (S.opnd y).1;exact j.qv.out S l (by simp only[execOp,d])
 ·rename_i op t x d;obtain⟨v,l,j⟩:=Ci7 (P:=C.P) h (S.opnd x).1;exact j.out S l (by simp only[execOp,d])
 ·rename_i a7 a5 x d;split at h
  ·rename_i e G;rw[d] at m;simp[M8,G] at m
  ·obtain⟨v,l,j⟩:=An4 S.hr h (S.opnd x).1;exact j.out S l (by simp only[execOp,d])
 ·rename_i g x y d;obtain⟨M,N⟩:=S.list x;obtain⟨h3,h4⟩:=S.list y;exact(QV.pure (P:=C.P) (Bc9 M h3) (λc u=>(Cv6 c u).elim (N c) (h4 c))).out S h (by simp[execOp,d,Instr.makeFunc])
 ·rename_i d;rw[d] at m;simp[M8] at m
 ·rename_i t x lo hi mx d;have T:=S.ov lo;have O:=S.ov hi;have X:=S.ov mx;split at h
  ·rename_i n e b G q;split at h
   ·rename_i v e' sz a6 hb;split at h
    ·rename_i u;obtain⟨M,N⟩:=C9 h;simp only[af] at M;have j:=(S.opnd x).1;rw[q] at j;obtain⟨v,l,j⟩:=Pz S.hr N G u.1 u.2.1 hb M (by omega) (by simp only[maxLen];omega) j T O X;exact j.qv.out S l (by simp only[execOp,d])
    grind
   ·cases h
  ·split at h
   ·rename_i hm;obtain⟨v,l,j⟩:=AK S.hr h (S.opnd x).1 (S.opnd x).2 T O X (by rw[Fd,Fd];intro h;simpa[h] using hm);exact j.qv.out S l (by simp only[execOp,d])
   ·cases h
 ·rename_i t x f d;obtain⟨v,l,j⟩:=Mb h (S.opnd x).1 (S.opnd x).2;exact j.qv.out S l (by simp only[execOp,d])
 ·rename_i t x f d;obtain⟨v,l,j⟩:=ZR h (S.opnd x).1 (S.opnd x).2;exact j.out S l (by simp only[execOp,d])
 ·rename_i t x i d;obtain⟨v,l,j⟩:=Md S.hr h (S.opnd x).1 (S.opnd i).1 (S.opnd x).2;exact j.qv.out S l (by simp only[execOp,d])
 ·rename_i t x i d;obtain⟨v,l,j⟩:=Aa0 h (S.opnd x).1 (S.opnd i).1 (S.opnd x).2;exact j.out S l (by simp only[execOp,d])
 ·rename_i d;rw[d] at m;simp[M8] at m
 ·rename_i d;rw[d] at m;simp[M8] at m
 ·rename_i d;rw[d] at m;simp[M8] at m
 ·rename_i t x i ok d;obtain⟨v,l,j⟩:=PD S.hr h (S.opnd x).1 (S.opnd i).1;exact j.out S l (by simp only[execOp,d])
 ·rename_i d;rw[d] at m;simp[M8] at m
 ·rename_i t i d;split at h
  ·rename_i vs q;split at h
   ·rename_i v a3;have j:=(S.opnd t).1;have hn:=(S.opnd t).2;rw[q] at j hn;obtain⟨A,e,hA,u⟩:=j.inv_tup;obtain⟨V,a1⟩:=o9.1 a3;obtain⟨U,e1,k1⟩:=u i V;rw[a1] at k1;refine⟨U,_,h,λw' hw=>?_,S.put k1 (λc u=>hn c (by simp only[PV.nms];exact C8.2 ⟨i,V,by rw[a1];exact u⟩)),Stp.refl S.hr⟩;simp only[execOp,d,e,ah4,e1];rfl
   ·cases h
  ·cases h
 ·rename_i c d;split at h
  ·rename_i b p;unfold Fj at h;dsimp only at h;split at h
   ·rename_i t D x a2 F;obtain⟨x0,a4,rfl⟩:=D59 F;obtain⟨v,l,j⟩:=Bb7 (ts:=D) (ty:=o.type) S.hr h (S.opnd x0).1;refine j.out S l ?_;obtain⟨cs,z⟩:=V7 (ρ:=a.eval) d p;have a0:c.argTypes=(t::D).toArray:=by rw[<-a2]
    rw[z,a4,a0];simp[builtin]
   ·rw[d] at m;simp[M8,p] at m
   ·rw[d] at m;simp[M8,p] at m
   ·obtain⟨v,x,y,kd,l,K,j⟩:=Ui (P:=C.P) (Γ:=Y) (H:=L.hp) (w:=w) c.argTypes o.type h;refine j.out S l ?_;obtain⟨cs,z⟩:=V7 (ρ:=a.eval) d p;rw[z,S.args_ints K];simp[builtin]
   ·obtain⟨v,x,y,kd,l,K,j⟩:=Ui (P:=C.P) (Γ:=Y) (H:=L.hp) (w:=w) c.argTypes o.type h;refine j.out S l ?_;obtain⟨cs,z⟩:=V7 (ρ:=a.eval) d p;rw[z,S.args_ints K];simp[builtin]
   ·rw[d] at m;simp[M8,p] at m
   ·cases h
  ·rename_i p;rw[d] at m;simp[M8,p] at m
  ·cases h
 ·cases h
def B43{t q:Nat}{op:BinOp}{x y:Operand}(c:o.op = .binOp op t x y q)(h:opK C Z J o L k=some r)(S:SI C I Y Q L a.tmps w) :
  ∃V b,k b=some r/\(∀w':World,(execOp a.eval o).run C.P w' = .ok (.value V) w')/\SI C I Y Q b (a.put o.dst V).tmps w/\Stp C Y L.hp w noΦ Y b.hp w noΦ:=by
 simp only[opK,c] at h;obtain⟨v,d,e⟩:=KJ (ox:=x) (oy:=y) h (S.opnd x).1 (S.opnd y).1;exact e.out S d (by simp only[execOp,c])
def Ap1{t f:Nat}{x:Operand}(c:o.op = .fieldAddr t x f)(h:opK C Z J o L k=some r)(S:SI C I Y Q L a.tmps w) :
  ∃V b,k b=some r/\(∀w':World,(execOp a.eval o).run C.P w' = .ok (.value V) w')/\SI C I Y Q b (a.put o.dst V).tmps w/\Stp C Y L.hp w noΦ Y b.hp w noΦ:=by
 simp only[opK,c] at h;obtain⟨v,d,e⟩:=Mb h (S.opnd x).1 (S.opnd x).2;exact e.out S d (by simp only[execOp,c])
def Am1{t:Nat}{parts:Array (Nat × Operand)}(c:o.op = .build t parts)(h:opK C Z J o L k=some r)(S:SI C I Y Q L a.tmps w) :
  ∃V b,k b=some r/\(∀w':World,(execOp a.eval o).run C.P w' = .ok (.value V) w')/\SI C I Y Q b (a.put o.dst V).tmps w/\Stp C Y L.hp w noΦ Y b.hp w noΦ:=by
 simp only[opK,c] at h;obtain⟨d,e⟩:=S.parts parts.toList;obtain⟨v,f,g⟩:=Xl (ps:=parts.map λ(i,x)=>(i,a.eval x)) h (by rw[x8];exact d) e;exact g.out S f (by simp only[execOp,c])
def Aq9{t:Nat}{x i:Operand}(c:o.op = .indexAddr t x i)(h:opK C Z J o L k=some r)(S:SI C I Y Q L a.tmps w) :
  ∃V b,k b=some r/\(∀w':World,(execOp a.eval o).run C.P w' = .ok (.value V) w')/\SI C I Y Q b (a.put o.dst V).tmps w/\Stp C Y L.hp w noΦ Y b.hp w noΦ:=by
 simp only[opK,c] at h;obtain⟨v,d,e⟩:=Md S.hr h (S.opnd x).1 (S.opnd i).1 (S.opnd x).2;exact e.out S d (by simp only[execOp,c])
def Ax9{t:Nat}{x:Operand}{y u z:Option Operand}(c:o.op = .slice t x y u z)(h:opK C Z J o L k=some r)(S:SI C I Y Q L a.tmps w) :
  ∃V d,k d=some r/\(∀w':World,(execOp a.eval o).run C.P w' = .ok (.value V) w')/\SI C I Y Q d (a.put o.dst V).tmps w/\Stp C Y L.hp w noΦ Y d.hp w noΦ:=by
 simp only[opK,c] at h;have i:=S.ov y;have g:=S.ov u;have j:=S.ov z;split at h
 ·rename_i n e b m G;split at h
  ·rename_i v H K A D;split at h
   ·rename_i q;obtain⟨p,B⟩:=C9 h;simp only[af] at p;have f:=(S.opnd x).1;rw[G] at f;obtain⟨v,l,f⟩:=Pz S.hr B m q.1 q.2.1 D p (by omega) (by simp only[maxLen];omega) f i g j;exact f.out S l (by simp only[execOp,c])
   ·cases h
  ·cases h
 ·split at h
  ·rename_i F;obtain⟨v,l,f⟩:=AK S.hr h (S.opnd x).1 (S.opnd x).2 i g j (by rw[Fd,Fd];intro h;simpa[h] using F);exact f.out S l (by simp only[execOp,c])
  ·cases h
end
def CQ:Op->Bool
 | .call c=>match c.callee with
  | .builtin _=>false
  | _=>true
 | _=>false
section
variable {W R : Type} {r : R} {C : Cfg} {I : W -> (Nat -> Prop) -> (Nat -> Prop) -> World -> Prop} {Q : Ctx} {Y : Nat -> Prop} {L : St W} {a : Act} {w : World} {U : G4} {J : Yh W} {o : Oper} {k : St W -> Option R}
def C99(C:Cfg)(I:W->(Nat->Prop)->(Nat->Prop)->World->Prop)(Q:Ctx)(Y:Nat->Prop)(L:St W)(a:Act)(w:World)(o:Oper)(k:St W->Option R)(r:R):Prop:=
 ∃V w' Γ' b,k b=some r/\((execOp a.eval o).run C.P w = .ok (.value V) w'\/(V=undef/\(execOp a.eval o).run C.P w = .ok .skip w'))/\SI C I Γ' Y b (a.put o.dst V).tmps w'/\Stp C Q L.hp w Y Γ' b.hp w' Y
def Stp.lift{Γ':Ctx}{H H':List Blk}{w':World}(h:Stp C Q H w noΦ Γ' H' w' noΦ)(Y:Nat->Prop):Stp C Q H w Y Γ' H' w' Y:=
 ⟨h.os,h.tape,h.output,h.size,h.sub,h.stnew,h.own,λ_ h=>.inl h,λg hg hn _=>h.frame g hg hn (λx=>x),h.yv,h.len,h.keep⟩
def Da1.loud(h:Da1 C I Q Y L a w o k r):C99 C I Q Y L a w o k r:=by obtain⟨V,st',h1,h2,h3,h4⟩:=h;exact⟨V,w,Q,st',h1,.inl (h2 w (Ext.refl w)),h3,h4.lift Y⟩
def SI.after(hI:HI I)(S:SI C I Q Y L a.tmps w){w':World}{Γ':Ctx}{H':List Blk}{sl':List PV}{v:PV}{V:Value}(h:Stp C Q L.hp w noΦ Γ' H' w' noΦ)(hr:HR Γ' H' w')(hs:SR Q L.hp w L.sl a.tmps->SR Γ' H' w' sl' a.tmps)(hv:VP Γ' (A3 H') w' v V)(hn:∀c∈v.nms,c<H'.length) :
  SI C I Γ' Y { sl:=Cf o.dst v sl',hp:=H',s:=L.s } (a.put o.dst V).tmps w':=
 S.step hI (h.lift Y) (λg hg=>h.frame g (hI.foot _ _ _ _ S.inv g hg).1 (λb hb=>S.dis b g hb hg) (λx=>x)) hr ((hs S.sr).put (ds:=a.defers) o hv hn)
def WV.out{m:Sem Value}{v:PV}{sl':List PV}{H':List Blk}(hI:HI I)(S:SI C I Q Y L a.tmps w)(h:WV C Q L.hp w L.sl a.tmps m v sl' H')(hk:k { sl:=Cf o.dst v sl',hp:=H',s:=L.s } = some r)(he:execOp a.eval o=(do pure (.value (<-m)))):C99 C I Q Y L a w o k r:=by obtain⟨V,w',Γ',h1,h2,h3,h4,h5,h6⟩:=h;refine⟨V,w',Γ',_,hk,.inl ?_,S.after hI h2 h3 h4 h5 h6,h2.lift Y⟩;simp_all
def WV.outU{m:Sem Unit}{v:PV}{sl':List PV}{H':List Blk}(hI:HI I)(S:SI C I Q Y L a.tmps w)(h:WV C Q L.hp w L.sl a.tmps (do m;pure undef) v sl' H')(hk:k { sl:=Cf o.dst v sl',hp:=H',s:=L.s } = some r)(he:execOp a.eval o=(do m;pure .skip)):C99 C I Q Y L a w o k r:=by
 obtain⟨V,w',Γ',h1,h2,h3,h4,h5,h6⟩:=h;have key:V=undef/\m.run C.P w = .ok () w':=by
  simp only[ad8] at h1;cases hm:m.run C.P w with
  | ok u w1=>rw[hm] at h1;simp at h1;exact⟨h1.1.symm,by rw[h1.2]⟩
  | halt x w1=>rw[hm] at h1;simp[aa8] at h1
 refine⟨V,w',Γ',_,hk,.inr ⟨key.1,?_⟩,S.after hI h2 h3 h4 h5 h6,h2.lift Y⟩;simp_all
def As7(D:HI I)(hq:CQ o.op=false)(h:opK C U J o L k=some r)(S:SI C I Q Y L a.tmps w):C99 C I Q Y L a w o k r:=by
 by_cases g:M8 C o.op=true
 ·exact(Tj g h S).loud
 have h0:=h;unfold opK at h;dsimp only at h;split at h
 ·rename_i f;exact absurd (by rw[f];rfl) g
 ·rename_i f;exact absurd (by rw[f];rfl) g
 ·rename_i f;exact absurd (by rw[f];rfl) g
 ·rename_i e f;by_cases F:(C.ti e).ok=true
  ·obtain⟨i,z,hi,hz,a1,Z⟩:=Ho (Γ:=Q) (sh:=A3 L.hp) (w:=w) F;obtain⟨v,H',q,j⟩:=KK (V:=z) (sl:=L.sl) (tmps:=a.tmps) (m:=ag0 e true (.tuple #[])) S.hr h Z (by rw[Sk];simp) (by simp[ag0,zeroValue,typeInfo,hi,hz,newVar,newRow]);exact j.out D S q (by simp only[execOp,f])
  ·simp[GI,F] at h
 ·rename_i e x f;split at h
  ·rename_i K;by_cases F:(C.ti e).ok=true
   ·obtain⟨i,hi,a1,a2⟩:=L6 F;have O:(opnd C L.sl x).cells≠[]:=by intro e;rw[e] at K;simp at K;omega
    obtain⟨v,H',q,j⟩:=KK (V:=a.eval x) (sl:=L.sl) (tmps:=a.tmps) (m:=Instr.box e (a.eval x)) S.hr h ((S.opnd x).1.cells' O) (λc hc=>(S.opnd x).2 c (PV.cells_nms c hc)) (by simp[Instr.box,newVar,newRow]);exact j.out D S q (by simp only[execOp,f])
   ·simp[GI,F] at h
  ·cases h
 ·rename_i f;exact absurd (by rw[f];rfl) g
 ·rename_i t len parts f;obtain⟨h1,h2⟩:=S.parts parts.toList;cases P:C.stab t with
  | true=>
   simp only[P,aa] at h;obtain⟨v,q,j,_⟩:=Lt (ps:=parts.map λ(i,x)=>(i,a.eval x)) (sl:=L.sl) (tmps:=a.tmps) S.hr h (by rw[x8];exact h1);exact j.out D S q (by simp only[execOp,f])
  | false=>
  simp only[P,ab] at h;obtain⟨v,H',q,j,_⟩:=Jx (ps:=parts.map λ(i,x)=>(i,a.eval x)) (sl:=L.sl) (tmps:=a.tmps) S.hr h (by rw[x8];exact h1);exact j.out D S q (by simp only[execOp,f])
 ·rename_i f;exact absurd (by rw[f];rfl) g
 ·rename_i t x y f;obtain⟨H',q,j⟩:=Ag6 (sl:=L.sl) (tmps:=a.tmps) S.hr h (S.opnd x).1 (S.opnd y).1 (S.opnd y).2;exact j.outU D S q (by simp only[execOp,f])
 ·rename_i f;exact absurd (by rw[f];rfl) g
 ·rename_i f;exact absurd (by rw[f];rfl) g
 ·rename_i f;exact absurd (by rw[f];rfl) g
 ·rename_i a5 a3 x f;split at h
  ·obtain⟨v,q,j⟩:=XU (sl:=L.sl) (tmps:=a.tmps) S.hr h (S.opnd x).1;exact j.out D S q (by simp only[execOp,f])
  ·rename_i O;refine absurd ?_ g;rw[f];simp only[M8]
   done
 ·rename_i f;exact absurd (by rw[f];rfl) g
 ·rename_i t l c f;obtain⟨v,H',q,j⟩:=DO (sl:=L.sl) (tmps:=a.tmps) S.hr h (S.opnd l).1 (S.opnd c).1;exact j.out D S q (by simp only[execOp,f])
 ·rename_i f;exact absurd (by rw[f];rfl) g
 ·rename_i f;exact absurd (by rw[f];rfl) g
 ·rename_i f;exact absurd (by rw[f];rfl) g
 ·rename_i f;exact absurd (by rw[f];rfl) g
 ·rename_i f;exact absurd (by rw[f];rfl) g
 ·rename_i t x f;split at h
  ·rename_i l hx;split at h
   ·rename_i a0;have j:=(S.opnd x).1;rw[hx] at j;obtain⟨s,e,rfl⟩:=j.inv_str;have:=Cx9 (C:=C) (s:=s) (sl:=L.sl) (tmps:=a.tmps) S.hr (Cj a0);exact this.out D S h (by simp only[execOp,f,e])
   ·cases h
  ·cases h
 ·rename_i it f;split at h
  ·rename_i b hx;have j:=(S.opnd it).1;rw[hx] at j;split at h
   ·rename_i l p hb;by_cases X:p<l.length
    ·simp only[X,decide_true,Gh,aa] at h;have:=Di1 (C:=C) (ty:=o.type) (sl:=L.sl) (tmps:=a.tmps) S.hr j hb X;exact this.out D S h (by simp only[execOp,f])
    ·simp only[X,decide_false,Gh,ab] at h;have:=As3 (C:=C) (ty:=o.type) S.hr j hb X;exact(this.out S h (by simp only[execOp,f])).loud
   ·cases h
  ·cases h
 ·rename_i t f;obtain⟨v,H',q,j,_⟩:=Rp (sl:=L.sl) (tmps:=a.tmps) S.hr h;exact j.out D S q (by simp only[execOp,f,Option.map_none])
 ·rename_i f;exact absurd (by rw[f];rfl) g
 ·rename_i t m x y f;obtain⟨H',q,j⟩:=PI (sl:=L.sl) (tmps:=a.tmps) S.hr h (S.opnd m).1 (S.opnd x).1 (S.opnd y).1 (S.opnd y).2;exact j.outU D S q (by simp only[execOp,f])
 ·rename_i f;exact absurd (by rw[f];rfl) g
 ·rename_i c f;split at h
  ·rename_i b A;unfold Fj at h;dsimp only at h;split at h
   ·exact absurd (by rw[f];simp[M8,A]) g
   ·rename_i t u s x G n;obtain⟨s0,T,H,rfl,rfl⟩:=Ak9 n;have B:c.argTypes=[t,u].toArray:=by rw[<-G]
    split at h
    ·rename_i hu;obtain⟨v,a4,H',q,j⟩:=Uc (ty:=o.type) (tmps:=a.tmps) S.hr hu h (S.opnd s0).1 (S.opnd T).1;refine j.out D S q ?_;obtain⟨cs,N⟩:=V7 (ρ:=a.eval) f A;rw[N,H,B];simp[builtin]
    grind
   ·rename_i t u d x G n;obtain⟨s0,T,H,rfl,rfl⟩:=Ak9 n;have B:c.argTypes=[t,u].toArray:=by rw[<-G]
    obtain⟨v,H',q,j⟩:=An5 (u:=u) (ty:=o.type) (sl:=L.sl) (tmps:=a.tmps) S.hr h (S.opnd s0).1 (S.opnd T).1;refine j.out D S q ?_;obtain⟨cs,N⟩:=V7 (ρ:=a.eval) f A;rw[N,H,B];simp[builtin]
   ·exact absurd (by rw[f];simp[M8,A]) g
   ·exact absurd (by rw[f];simp[M8,A]) g
   ·rename_i t M m x G n;obtain⟨m0,T,H,rfl,rfl⟩:=Ak9 n;have B:c.argTypes=(t::M).toArray:=by rw[<-G]
    obtain⟨H',q,j⟩:=PH (ts:=M) (ty:=o.type) (sl:=L.sl) (tmps:=a.tmps) S.hr h (S.opnd m0).1 (S.opnd T).1;refine j.out D S q ?_;obtain⟨cs,N⟩:=V7 (ρ:=a.eval) f A;rw[N,H,B];simp[builtin]
   ·cases h
  ·rename_i A;rw[f] at hq;simp[CQ,A] at hq
  ·cases h
 ·cases h
end
def Ou(f:Nat->Nat)(l:List PV):rnL f l=l.map (PV.rn f):=by
 induction l with
 | nil=>rfl
 | cons v r a=>simp[rnL,a]
def Jo(H:List Blk)(l:List PV):N5 H l=l.map (PV.snap H):=by
 induction l with
 | nil=>rfl
 | cons v r a=>simp[N5,a]
def Ed{l:List PV}(h:Lb l=true):∀v∈l,v.clean=true:=by
 induction l with
 | nil=>simp
 | cons a l b=>
  simp only[Lb,c9] at h;grind
mutual
def PV.rn_nms(f:Nat->Nat):∀v:PV,(v.rn f).nms=v.nms.map f
 | .s _=>rfl
 | .nsl=>rfl
 | .fl b=>rfl
 | .vw b _ _=>rfl
 | .ptr b _ _=>rfl
 | .fnr _ x y=>by simp only[PV.rn,PV.nms,ag3,Gy f x,Gy f y]
 | .it b=>rfl
 | .yd=>rfl
 | .agg l=>by simp only[PV.rn,PV.nms,Gy f l]
 | .tup l=>by simp only[PV.rn,PV.nms,Gy f l]
 | .bad=>rfl
def Gy(f:Nat->Nat):∀l:List PV,D1 (rnL f l)=(D1 l).map f
 | []=>rfl
 | v::r=>by simp only[rnL,D1,ag3,PV.rn_nms f v,Gy f r]
end
def Blk.rn_nms(f:Nat->Nat)(x:Blk):(x.rn f).nms=x.nms.map f:=by
 have e:∀l:List PV,l.map (PV.rn f)=rnL f l:=λl=>(Ou f l).symm
 cases x<;>simp only[Blk.rn,Blk.nms,Gy,PJ,ae9,ac8]
 rename_i ents;rw[<-Gy,<-e,ae9];rfl
def Blk.rn_shp(f:Nat->Nat)(x:Blk):(x.rn f).shp=x.shp:=by cases x<;>rfl
def VS.clean{St St':Nat->Prop}{w w':World}{v:SV}{V:Value}(h:VS St w v V)(hc:v.plain=true):VS St' w' v V:=by
 cases h with
 | bool=>exact .bool _
 | int=>exact .int _ _
 | str=>exact .str _
 | nilp=>exact .nilp
 | nilm=>exact .nilm
 | nilf=>exact .nilf
 | nil=>simp[SV.plain] at hc
 | emp=>simp[SV.plain] at hc
 | sl=>simp[SV.plain] at hc
 | sp=>simp[SV.plain] at hc
 | fn=>simp[SV.plain] at hc
def VP.rn{f:Nat->Nat}{Γ Γ':Ctx}{sh sh':Nat->Option Shp}{w:World}(hyv:Γ'.yv=Γ.yv){v:PV}{V:Value}(h:VP Γ sh w v V) :
  (v.clean=true\/∀g,Γ.St g->Γ'.St g)->(∀b∈v.nms,Γ'.nm (f b)=Γ.nm b/\sh' (f b)=sh b)->VP Γ' sh' w (v.rn f) V:=by
 induction h with
 | s v V h=>
  intro hc _;rcases hc with hc|hc
  ·refine .s _ _ (h.clean ?_);cases v<;>simp_all [PV.clean,SV.plain]
  ·exact .s _ _ (h.mono (λ_ _=>rfl) hc)
 | nsl=>intro _ _;exact .nsl
 | flv b e sz h=>intro _ hn;exact .flv _ e sz (by rw[(hn b (by simp[PV.nms])).2];exact h)
 | fl b g v e sz n cap h hv hg hcap hm hs=>
  intro _ hn;have o:=hn b (by simp[PV.nms]);exact .fl _ g v e sz n cap (by rw[o.2];exact h) hv (by rw[o.1];exact hg) hcap hm hs
 | vwv b e sz i h=>intro _ hn;exact .vwv _ e sz i (by rw[(hn b (by simp[PV.nms])).2];exact h)
 | vw b i n g a cap v e sz m h hv hg ha hi hcap hm=>
  intro _ hn;have o:=hn b (by simp[PV.nms]);exact .vw _ i n g a cap v e sz m (by rw[o.2];exact h) hv (by rw[o.1];exact hg) ha hi hcap hm
 | ptrA b i off g v e sz n h hg=>
  intro _ hn;have o:=hn b (by simp[PV.nms]);exact .ptrA _ i off g v e sz n (by rw[o.2];exact h) (by rw[o.1];exact hg)
 | ptrB b off g h hg=>
  intro _ hn;have o:=hn b (by simp[PV.nms]);exact .ptrB _ off g (by rw[o.2];exact h) (by rw[o.1];exact hg)
 | fnr g x y A B As Bs hf hA hB ha hb hx hy ihx ihy=>
  intro hc hn;simp only[PV.rn,Ou];refine .fnr g _ _ A B As Bs hf (by simpa using hA) (by simpa using hB) (λj h=>ha j (by simpa using h)) (λj h=>hb j (by simpa using h)) (λj h=>?_) (λj h=>?_)
  ·have hj:j<x.length:=by simpa using h
   rw[j5];refine ihx j hj (hc.imp (λe=>?_) id) (λb hb=>hn b (by simp only[PV.nms,w8];exact .inl (C8.2 ⟨j,hj,hb⟩)));simp only[PV.clean,c9] at e;exact Ed e.1 _ (j4 hj)
  ·have hj:j<y.length:=by simpa using h
   rw[j5];refine ihy j hj (hc.imp (λe=>?_) id) (λb hb=>hn b (by simp only[PV.nms,w8];exact .inr (C8.2 ⟨j,hj,hb⟩)));simp only[PV.clean,c9] at e;exact Ed e.2 _ (j4 hj)
 | it b g h hg=>
  intro _ hn;have o:=hn b (by simp[PV.nms]);exact .it _ g (by rw[o.2];exact h) (by rw[o.1];exact hg)
 | mpv b g h hg=>
  intro _ hn;have o:=hn b (by simp[PV.nms]);exact .mpv _ g (by rw[o.2];exact h) (by rw[o.1];exact hg)
 | yd=>intro _ _;rw[<-hyv];exact .yd
 | agg l A As hA ha hl ih=>
  intro hc hn;simp only[PV.rn,Ou];refine .agg _ A As (by simpa using hA) (λj h=>ha j (by simpa using h)) (λj h=>?_);have hj:j<l.length:=by simpa using h
  rw[j5];refine ih j hj (hc.imp (λe=>?_) id) (λb hb=>hn b (by simp only[PV.nms];exact C8.2 ⟨j,hj,hb⟩));simp only[PV.clean] at e;exact Ed e _ (j4 hj)
 | tup l A As hA ha hl ih=>
  intro hc hn;simp only[PV.rn,Ou];refine .tup _ A As (by simpa using hA) (λj h=>ha j (by simpa using h)) (λj h=>?_);have hj:j<l.length:=by simpa using h
  rw[j5];refine ih j hj (hc.imp (λe=>?_) id) (λb hb=>hn b (by simp only[PV.nms];exact C8.2 ⟨j,hj,hb⟩));simp only[PV.clean] at e;exact Ed e _ (j4 hj)
 | bad V=>intro _ _;exact .bad V
def D05(f:Nat->Nat)(a:Bool)(l:List SV):(svV a l).rn f=svV a l:=by
 cases a with
 | true=>simp only[svV,aa,PV.rn,Ou,ae9];rfl
 | false=>simp only[svV,ab];split<;>rfl
def Ci0{a:Bool}{l:List SV}(h:l.all SV.plain=true):(svV a l).clean=true:=by
 have key:∀x:SV,x.plain=true->(PV.s x).clean=true:=λx b=>by cases x<;>first|rfl|cases b
 cases a with
 | true=>
  simp only[svV,aa,PV.clean]
  induction l with
  | nil=>rfl
  | cons x l c=>
   simp only[List.all_cons,c9] at h;simp only[s9,Lb,c9];exact⟨key x h.1,c h.2⟩
 | false=>
  simp only[svV,ab];split
  ·rename_i x;exact key x (by simpa using h)
  ·rfl
def BR.rn{f:Nat->Nat}{Γ Γ':Ctx}{sh sh':Nat->Option Shp}{w:World}(hyv:Γ'.yv=Γ.yv){b b':Nat}{x:Blk}(h:BR Γ sh w b x)(hc:x.clean=true\/∀g,Γ.St g->Γ'.St g)(hb:Γ'.nm b'=Γ.nm b)
  (hn:∀c∈x.nms,Γ'.nm (f c)=Γ.nm c/\sh' (f c)=sh c):BR Γ' sh' w b' (x.rn f):=by
 cases x with
 | arr v e sz els=>
  rcases h with h|⟨hn,g,cur,h1,h2,h3,h4,h5⟩
  ·exact .inl h
  ·refine .inr ⟨hn,g,cur,by rw[hb];exact h1,h2,h3,h4,λi hi j hj=>?_⟩;obtain⟨V,e1,e2⟩:=h5 i hi j hj;refine⟨V,e1,?_⟩;rcases hc with hc|hc
   ·simp only[Blk.clean,j6] at hc;exact e2.clean (hc _ (j4 hi) _ (j4 hj))
   ·exact e2.mono (λ_ _=>rfl) hc
 | box cells=>
  obtain⟨g,cur,e,h1,h2,h3,h4⟩:=h;simp only[Blk.rn,Ou];refine⟨g,cur,e,by rw[hb];exact h1,h2,by simpa using h3,λj hj=>?_⟩;have hj':j<cells.length:=by simpa using hj
  obtain⟨V,e1,e2⟩:=h4 j hj';rw[j5];refine⟨V,e1,e2.rn hyv (hc.imp (λe=>?_) id) (λc hc=>hn c (by simp only[Blk.nms];exact C8.2 ⟨j,hj',hc⟩))⟩;simp only[Blk.clean] at e;exact Ed e _ (j4 hj')
 | iter s p=>
  obtain⟨g,s',h1,h2,h3⟩:=h;exact⟨g,s',by rw[hb];exact h1,h2,h3⟩
 | mp ents=>
  obtain⟨g,es,ck,h1,h2,h3⟩:=h;exact⟨g,es,ck,by rw[hb];exact h1,h2,h3.map λv hv V k=>k.rn hyv (hc.imp (λe=>Ed e v hv) id) λc hc=>hn c (DP hv c hc)⟩
 | ms a ents=>
  obtain⟨g,es,ck,h1,h2,h3⟩:=h;refine⟨g,es,ck,by rw[hb];exact h1,h2,h3.imp λv hv V k=>?_⟩;obtain⟨e,he,rfl⟩:=HC hv;have:=k.rn (f:=f) (sh':=sh') hyv (hc.imp (λq=>Ci0 (j6.1 q e he)) id) (λc hc=>by rw[Ag8] at hc;simp at hc);rwa [D05] at this
 | dead=>trivial
def Bc8{l:List Nat}{b c:Nat}:c∈Gb l b↔c∈l\/c=b:=by
 unfold Gb;split
 ·rename_i h;have a:b∈l:=by simpa using h
  exact⟨.inl,λh=>h.elim id (λe=>e▸a)⟩
 ·simp
def Jg:∀(xs a:List Nat) (c:Nat),c∈xs.foldl Gb a↔c∈a\/c∈xs
 | [],a,c=>by simp
 | x::xs,a,c=>by rw[ab5,Jg xs,Bc8,y8,or_assoc]
def XO{l:List Nat}{b:Nat}(h:l.Nodup):(Gb l b).Nodup:=by
 unfold Gb;split
 ·exact h
 ·rename_i a;rw[List.nodup_append];refine⟨h,by simp,λx d y c e=>?_⟩;simp at c;subst c;subst e;simp at a;exact a d
def Nh:∀(xs a:List Nat),a.Nodup->(xs.foldl Gb a).Nodup
 | [],a,h=>h
 | x::xs,a,h=>by rw[ab5];exact Nh xs _ (XO h)
def Ph(H:List Blk):∀(l a:List Nat),a.Nodup->(l.foldl (λa b=>((H.getD b .dead).nms).foldl Gb a) a).Nodup
 | [],a,h=>h
 | x::l,a,h=>by rw[ab5];exact Ph H l _ (Nh _ _ h)
def AN(H:List Blk):∀(l a:List Nat) c,c∈a->c∈l.foldl (λa b=>((H.getD b .dead).nms).foldl Gb a) a
 | [],a,c,h=>h
 | x::l,a,c,h=>by rw[ab5];exact AN H l _ c ((Jg _ _ _).2 (.inl h))
def Ay7(H:List Blk)(p:Nat->Prop)(f:∀b,p b->∀c∈(H.getD b .dead).nms,p c):∀(l a:List Nat),(∀c∈a,p c)->(∀c∈l,p c)->∀c∈l.foldl (λa b=>((H.getD b .dead).nms).foldl Gb a) a,p c
 | [],a,h,_=>h
 | x::l,a,h,e=>by
  rw[ab5];refine Ay7 H p f l _ (λc d=>?_) (λc d=>e c (by simp[d]));rcases(Jg _ _ _).1 d with d|d
  ·exact h c d
  ·exact f x (e x (by simp)) c d
def FT(H:List Blk)(l:List Nat):(Dw H l).Nodup:=
 Ph H _ _ (Ph H _ _ (Ph H _ _ (Nh _ _ ah1)))
def TP(H:List Blk)(l:List Nat):∀c∈l,c∈Dw H l:=λc a=>
 AN H _ _ c (AN H _ _ c (AN H _ _ c ((Jg _ _ _).2 (.inr a))))
def TO(H:List Blk)(l:List Nat)(p:Nat->Prop)(g:∀b,p b->∀c∈(H.getD b .dead).nms,p c)(f:∀c∈l,p c):∀c∈Dw H l,p c:=by
 have d:∀c∈l.foldl Gb [],p c:=λc e=>by
  rcases(Jg _ _ _).1 e with h|h
  ·simp at h
  ·exact f c h
 have step:∀m,(∀c∈m,p c)->∀c∈Ae5 H m,p c:=λm a=>Ay7 H p g m m a a
 exact step _ (step _ (step _ d))
def OW{H:List Blk}{a:List Nat}(h:Fl H a=true):∀b∈a,∀c∈(H.getD b .dead).nms,c∈a:=by intro b d c e;simp only[Fl,j6] at h;simpa using h b d c e
def Ca{c:List Nat}{b:Nat}(h:b∈c):∃a:I5 c b<c.length,c[I5 c b]=b:=by have a:c.idxOf b<c.length:=List.idxOf_lt_length_of_mem h;exact⟨a,List.getElem_idxOf a⟩
def Od{Γ:Ctx}{sh:Nat->Option Shp}{w:World}:∀(a:List Nat) (sl:List PV),(M7 a sl).length=sl.length/\(∀c∈D1 (M7 a sl),c∉a/\c∈D1 sl)/\
  ∀i (h:i<(M7 a sl).length) (f:i<sl.length) V,VP Γ sh w (sl[i]) V->VP Γ sh w ((M7 a sl)[i]) V
 | [],sl=>⟨rfl,λc g=>⟨by simp,g⟩,λi h f V k=>k⟩
 | b::a,sl=>by
  obtain⟨n,o,p⟩:=Od (Γ:=Γ) (sh:=sh) (w:=w) a (Z0 b sl);have j:(Z0 b sl).length=sl.length:=by rw[Dc];simp
  have e:M7 (b::a) sl=M7 a (Z0 b sl):=rfl;refine⟨by rw[e,n,j],λc g=>?_,λi h f V k=>?_⟩
  ·rw[e] at g;obtain⟨q,l⟩:=o c g;refine⟨?_,Cq b sl c l⟩;rintro d;rcases y8.1 d with rfl|d
   ·exact T9 c sl l
   ·exact q d
  ·simp only[e];refine p i (by rw[e] at h;exact h) (by rw[j];exact f) V ?_;have m:(Z0 b sl)[i]'(by rw[j];exact f)=(sl[i]).kill b:=by simp[Dc]
   rw[m];exact k.kill b
def Rj{Γ:Ctx}{sh:Nat->Option Shp}{w:World}:∀(a:List Nat) (H:List Blk),(T2 a H).length=H.length/\(∀b,A3 (T2 a H) b=A3 H b)/\
  ∀i (h:i<(T2 a H).length) (g:i<H.length),(∀c∈((T2 a H)[i]).nms,c∉a/\c∈(H[i]).nms)/\∀b,BR Γ sh w b (H[i])->BR Γ sh w b ((T2 a H)[i])
 | [],H=>⟨rfl,λ_=>rfl,λi h g=>⟨λc f=>⟨by simp,f⟩,λb l=>l⟩⟩
 | k::a,H=>by
  obtain⟨p,q,r⟩:=Rj (Γ:=Γ) (sh:=sh) (w:=w) a (H.map (Blk.kill k));have n:(H.map (Blk.kill k)).length=H.length:=by simp
  have e:T2 (k::a) H=T2 a (H.map (Blk.kill k)):=rfl;refine⟨by rw[e,p,n],λb=>by rw[e,q,OD],λi h g=>?_⟩;have j:i<(H.map (Blk.kill k)).length:=by rw[n];exact g
  obtain⟨t,u⟩:=r i (by rw[e] at h;exact h) j;have m:(H.map (Blk.kill k))[i]=(H[i]).kill k:=by simp
  refine⟨λc f=>?_,λb l=>?_⟩
  ·simp only[e] at f;obtain⟨v,o⟩:=t c f;rw[m] at o;obtain⟨x,y⟩:=Blk.kill_nms' c o;refine⟨?_,y⟩;rintro d;rcases y8.1 d with rfl|d
   ·exact x rfl
   ·exact v d
  ·simp only[e];exact u b (by rw[m];exact l.kill)
def Kp:∀(a:List Nat) (xs H:List Blk),a.Nodup->xs.length=a.length->(∀b∈a,b<H.length)->(W4 H a xs).length=H.length/\
  ∀b,(W4 H a xs)[b]? = if b∈a then xs[a.idxOf b]? else H[b]?
 | [],xs,H,_,f,_=>by cases xs<;>simp[W4]
 | n::a,[],H,_,f,_=>by simp at f
 | n::a,x::xs,H,i,f,d=>by
  obtain⟨j,k⟩:=Kp a xs (H.set n x) (ag5.1 i).2 (by simpa using f) (λb c=>by simpa using d b (by simp[c]));have e:W4 H (n::a) (x::xs)=W4 (H.set n x) a xs:=rfl;refine⟨by rw[e,j];simp,λb=>?_⟩;rw[e,k];have l:n∉a:=(ag5.1 i).1;by_cases c:b∈a
  ·have g:n≠b:=by rintro rfl;exact l c
   rw[ac c,ac (by simp[c]),List.idxOf_cons];have:(n==b)=false:=by simpa using g
   simp[this]
  ·rw[ae c,List.getElem?_set];by_cases e:n=b
   ·subst e;rw[ac rfl,ac (d n (by simp)),ac (by simp)];simp
   ·rw[ae e,ae (by simp only[y8,not_or];exact⟨λh=>e h.symm,c⟩)]
def I4(a:Option Nat):Fence:={ ag7 with round:=a }
def Q6(P:Program)(b:Result Next)(R:Value->World->Prop):Prop:=
 ∀(c:Option Nat) (n:Nat) (o:Oper) (a:Act) (next:Act->World->Prop) (Q:Exit->Act->World->Prop),(∀V w',R V w'->next (a.put o.dst V) w')->o.uponIn (I4 c) n P a next Q b
def Q6.mono{P:Program}{res:Result Next}{R R':Value->World->Prop}(h:Q6 P res R)(hr:∀V w',R V w'->R' V w'):Q6 P res R':=
 λro n o a next Q hn=>h ro n o a next Q λV w' hR=>hn V w' (hr V w' hR)
def Bx{e:Type}(C:Cfg)(I:e->(Nat->Prop)->(Nat->Prop)->World->Prop)(h:Ctx)(H:List Blk)(w:World)(i:Nat->Prop)(ret:PV)(d:List Blk)(f:e)(V:Value)(w':World):Prop:=
 ∃ Γ' a,Stp C h H w i Γ' d w' a/\HR Γ' d w'/\VP Γ' (A3 d) w' ret V/\(∀c∈ret.nms,c<d.length)/\I f Γ'.St a w'/\∀b g,Γ'.nm b=some g->¬a g
def A37{i:Type}(P:Program)(I:i->(Nat->Prop)->(Nat->Prop)->World->Prop)(j:Yh i)(k:Value):Prop:=
 ∀args s b h,j args s=some (b,h)->Lm args=true->∀a e w f,I s a.St e w->(∀g,a.St g->g<w.heap.size)->CR a (λ_=>none) w args f->
  Q6 P ((do let d <-o8 k f;invoke d.target d.args).run P w) λV w'=>V = .bool b/\∃St' c,I h St' c w'/\(∀g,a.St g->St' g)/\(∀g,St' g->a.St g\/w.heap.size<=g)/\(∀g,c g->e g\/w.heap.size<=g)/\
   (∀g,g<w.heap.size->¬e g->w'.heap[g]? = w.heap[g]?)/\w.heap.size<=w'.heap.size/\w'.os=w.os/\w'.tape=w.tape/\w'.output=w.output/\∀g,St' g->g<w'.heap.size
def Cw(C:Cfg)(l:G4):Prop:=
 ∀(e:Type) (I:e->(Nat->Prop)->(Nat->Prop)->World->Prop) (j:Yh e) (k:Value),HI I->A37 C.P I j k->
  ∀g args H s ret f i,l e j g args H s=some (ret,f,i)->∀a d w h,a.yv=k->HR a H w->GOK C a.St w->I s a.St d w->(∀b g,a.nm b=some g->¬d g)->CR a (A3 H) w args h->(∀c∈D1 args,c<H.length)->
   Q6 C.P ((callFunc g h).run C.P w) (Bx C I a H w d ret f i)
def I0:Unit->(Nat->Prop)->(Nat->Prop)->World->Prop:=λ_ _ a _=>∀g,¬a g
def D56(C:Cfg):Prop:=
 ∀g e args ret c,C.X g=some e->L8 (e args)=some (ret,c)->∀a w d,(∀b,a.nm b=none)->HR a [] w->GOK C a.St w->CR a (A3 []) w args d->
  Q6 C.P ((callFunc g d).run C.P w) (Bx C I0 a [] w noΦ ret c ())
def clY(C:Cfg):G4:=λ_ _ g args H s=>match C.Y g with
 | some a=>match L8 (a args H) with
  | some (r,h)=>some (r,h,s)
  | none=>none
 | none=>none
def T3{b:Type}(c:Yh b):List (List PV)->b->Option b
 | [],s=>some s
 | x::xs,s=>match c x s with
  | some (true,a)=>T3 c xs a
  | some (false,a)=>some a
  | none=>none
def clS(C:Cfg):G4:=λ_ c g args H s=>match C.S g with
 | some a=>if H.all ME=true then match a args H with
  | some (true,L)=>match T3 c L s with
   | some b=>some (.tup [],H.map Jw,b)
   | none=>none
  | _=>none
  else none
 | none=>none
def N9(w w':World):Prop:=(Ext w w'/\w.heap.size<=w'.heap.size)/\w'.os=w.os/\w'.tape=w.tape/\w'.output=w.output
def C92:SV->Value->Value->Array Value
 | .nilp,S,_=>#[S]
 | _,S,X=>#[S,X]
def Ak6(P:Program)(g:Nat)(d:SV->List (List SV)->Bool × List (List SV)):Prop:=
 ∀(St:Nat->Prop) (w:World) (x:SV) (X:Value) (a:List (List SV)),VS St w x X->(d x a).1=true->
  (a=[]->Q6 P ((callFunc g (C92 x (.slice none 0 0) X)).run P w) λV w'=>V=undef/\(d x a).2=[]/\N9 w w')/\
  ∀f c e l cap,w.heap[f]? = some (.cells c e (0,0))->c.size=cap*l->a.length<=cap->cap<=maxLen->¬St f->(∀g,St g->g<w.heap.size)->
   (∀i (h:i<a.length),(a[i]).length=l)->(∀i (h:i<a.length) j (m:j<(a[i]).length),∃V,c[i*l+j]? = some V/\VS St w (a[i][j]) V)->
   Q6 P ((callFunc g (C92 x (.slice (some ⟨f,0,none⟩) a.length cap) X)).run P w) λV w'=>V=undef/\(d x a).2.length=a.length/\
    ∃w1 b,w1.heap[f]? = some (.cells b e (0,0))/\b.size=c.size/\(∀k,k≠f->w1.heap[k]? = w.heap[k]?)/\w1.heap.size=w.heap.size/\w1.os=w.os/\w1.tape=w.tape/\w1.output=w.output/\
     (∀i (h:i<(d x a).2.length),((d x a).2[i]).length=l)/\(∀i (h:i<(d x a).2.length) j (m:j<((d x a).2[i]).length),∃V,b[i*l+j]? = some V/\VS St w1 ((d x a).2[i][j]) V)/\N9 w1 w'
structure XOK (C:Cfg):Prop where
 x:D56 C
 y:Cw C (clY C)
 s:Cw C (clS C)
 z:∀g pf,C.Z g=some pf->Ak6 C.P g pf
section
variable {Γ : Ctx} {H : List Blk} {w : World} {C : Cfg}
def Ctx.all(Γ:Ctx):Ctx:={ Γ with St:=λg=>Γ.St g\/∃b,Γ.nm b=some g }
def Ae8{St':Nat->Prop}{b e f i n:Nat}{v:Bool}{c:List (List SV)}{a:Addr}{cap g:Nat}(K:HR Γ H w)(M:H[b]? = some (.arr v e f c))(y:¬(v=true/\c=[]))(N:Γ.nm b=some g)(Q:i+n<=c.length)(L:n≠0->a=⟨g,i*f,none⟩)(o:n<=cap)(G:cap<=maxLen)(z:∀g,Γ.St g->St' g)(u:St' g) :
  VS St' w (.sl false false f ((c.drop i).take n)) (.slice (some a) n cap):=by
 by_cases I:n=0
 ·subst I;rw[List.take_zero];exact .emp false f a cap (by simp) G
 ·rw[L I];obtain⟨O,d,B,D,P,J,F⟩:=K.arr' M y;rw[N] at B;cases B;have p:((c.drop i).take n).length=n:=by simp;omega
  have h:∀k (l:k<((c.drop i).take n).length),∃m:i+k<c.length,((c.drop i).take n)[k]=c[i+k]:=λk l=>by grind
  have t:∀k,k<d.size->w.cell? ⟨g,k,none⟩=d[k]?:=λk _=>cell_of_row w g k d e (0,0) D
  refine .sl false _ g (i*f) n cap f (λk j=>d.getD (i*f+k*f+j) undef) p.symm o G (by simp) u (λk l=>?_) (λk l j x=>?_) (λk l j x=>?_)
  ·obtain⟨m,e⟩:=h k l;rw[e];exact J _ m
  ·obtain⟨m,e⟩:=h k l;obtain⟨V,r,A⟩:=F _ m j (by rw[<-e];exact x);have q:d[i*f+k*f+j]? = some V:=by rw[<-r,ag1]
   rw[cell_of_row w g _ d _ (0,0) D,q];simp[j9,q]
  ·obtain⟨m,e⟩:=h k l;obtain⟨V,r,A⟩:=F _ m j (by rw[<-e];exact x);have q:d[i*f+k*f+j]? = some V:=by rw[<-r,ag1]
   simp only[e,j9,q];exact A.mono (λ_ _=>rfl) z
def VP.toAll{sh:Nat->Option Shp}{v:PV}{V:Value}(h:VP Γ sh w v V):VP Γ.all sh w v V:=
 h.mono (Γ':=Γ.all) (ok:=λ_=>True) ⟨λ_ _=>rfl,λ_ h=>ab8 h,λ_ _=>rfl,λ_ _=>rfl,λ_ _ _ _=>rfl,rfl⟩ (λ_ _=>trivial)
def VP.snap(hH:HR Γ H w){v:PV}{V:Value}(h:VP Γ (A3 H) w v V):VP Γ.all (A3 H) w (v.snap H) V:=by
 generalize hsh:A3 H=sh at h
 induction h with
 | s v V h=>exact(VP.s v V h).toAll
 | nsl=>exact .s _ _ (.nil _ _)
 | flv b e sz h=>
  subst hsh;obtain⟨x,hx,hs⟩:∃x,H[b]? = some x/\x.shp = .arr true e sz 0:=by simpa[A3] using h
  cases x<;>simp[Blk.shp] at hs
  rename_i v' e' sz' els;obtain⟨rfl,rfl,rfl,h4⟩:=hs;subst h4;simp only[PV.snap,hx];exact .s _ _ (.nil _ _)
 | fl b g v e sz n cap h hv hg hcap hm hs=>
  subst hsh;obtain⟨x,hx,hs'⟩:∃x,H[b]? = some x/\x.shp = .arr v e sz n:=by simpa[A3] using h
  cases x<;>simp[Blk.shp] at hs'
  rename_i v' e' sz' els;obtain⟨rfl,rfl,rfl,rfl⟩:=hs';have hne:¬(v'=true/\els=[]):=by rintro⟨q1,q2⟩;exact hv q1 (by rw[q2];rfl)
  have hz:(v'&&els.isEmpty)=false:=by grind
  simp only[PV.snap,hx,hz];have:=Ae8 (i:=0) (n:=els.length) (a:=⟨g,0,none⟩) (cap:=cap) hH hx hne hg (by omega) (λ_=>by simp) hcap hm (St':=Γ.all.St) (λ_ h=>ab8 h) (.inr ⟨b,hg⟩);simp only[ag9,af6] at this;exact .s _ _ this
 | vwv b e sz i h=>
  subst hsh;obtain⟨x,hx,hs⟩:∃x,H[b]? = some x/\x.shp = .arr true e sz 0:=by simpa[A3] using h
  cases x<;>simp[Blk.shp] at hs
  rename_i v' e' sz' els;obtain⟨rfl,rfl,rfl,h4⟩:=hs;subst h4;simp only[PV.snap,hx,ah6,ah7];exact .s _ _ (.nil _ _)
 | vw b i n g a cap v e sz m h hv hg ha hi hcap hm=>
  subst hsh;obtain⟨x,hx,hs'⟩:∃x,H[b]? = some x/\x.shp = .arr v e sz m:=by simpa[A3] using h
  cases x<;>simp[Blk.shp] at hs'
  rename_i v' e' sz' els;obtain⟨rfl,rfl,rfl,rfl⟩:=hs';have hne:¬(v'=true/\els=[]):=by rintro⟨q1,q2⟩;exact hv q1 (by rw[q2];rfl)
  have hz:(v'&&els.isEmpty)=false:=by grind
  simp only[PV.snap,hx,hz];exact .s _ _ (Ae8 hH hx hne hg hi ha hcap hm (λ_ h=>ab8 h) (.inr ⟨b,hg⟩))
 | ptrA b i off g v e sz n h hg=>exact(VP.ptrA b i off g v e sz n h hg).toAll
 | ptrB b off g h hg=>exact(VP.ptrB b off g h hg).toAll
 | fnr f x y A B As Bs hf hA hB ha hb hx hy ihx ihy=>exact(VP.fnr f x y A B As Bs hf hA hB ha hb hx hy).toAll
 | it b g h hg=>exact(VP.it b g h hg).toAll
 | mpv b g h hg=>exact(VP.mpv b g h hg).toAll
 | yd=>exact .yd
 | agg l A As hA ha hl ih=>
  simp only[PV.snap,Jo];refine .agg _ A As (by simpa using hA) (λj h=>ha j (by simpa using h)) (λj h=>?_);grind
 | tup l A As hA ha hl ih=>exact(VP.tup l A As hA ha hl).toAll
 | bad V=>exact .bad V
def TX{l:List PV}(h:Rx l=false):∀v∈l,v.rows=false:=by
 induction l with
 | nil=>simp
 | cons a l b=>
  simp only[Rx,Bool.or_eq_false_iff] at h;grind
def VP.snap_plain{sh:Nat->Option Shp}{v:PV}{V:Value}(h:VP Γ sh w v V):v.rows=false->VP Γ sh w (v.snap H) V/\∀c∈(v.snap H).nms,c∈v.nms:=by
 induction h with
 | nsl=>intro _;exact⟨.s _ _ (.nil _ _),by simp[PV.snap,PV.nms]⟩
 | flv b e sz h=>intro hr;simp[PV.rows] at hr
 | fl b g v e sz n cap h hv hg hcap hm hs=>intro hr;simp[PV.rows] at hr
 | vwv b e sz i h=>intro hr;simp[PV.rows] at hr
 | vw b i n g a cap v e sz m h hv hg ha hi hcap hm=>intro hr;simp[PV.rows] at hr
 | agg l A As hA ha hl ih=>
  intro hr;simp only[PV.rows] at hr;have hr':=TX hr;simp only[PV.snap,Jo];refine⟨.agg _ A As (by simpa using hA) (λj h=>ha j (by simpa using h)) (λj h=>?_),λc hc=>?_⟩
  ·grind
  ·simp only[PV.nms] at hc ⊢;obtain⟨j,hj,hc⟩:=C8.1 hc;rw[j5] at hc;exact C8.2 ⟨j,by simpa using hj,(ih j (by simpa using hj) (hr' _ (j4 _))).2 c hc⟩
 | s v V h=>intro _;exact⟨.s v V h,λc hc=>hc⟩
 | ptrA b i off g v e sz n h hg=>intro _;exact⟨.ptrA b i off g v e sz n h hg,λc hc=>hc⟩
 | ptrB b off g h hg=>intro _;exact⟨.ptrB b off g h hg,λc hc=>hc⟩
 | fnr f x y A B As Bs hf hA hB ha hb hx hy ihx ihy=>intro _;exact⟨.fnr f x y A B As Bs hf hA hB ha hb hx hy,λc hc=>hc⟩
 | it b g h hg=>intro _;exact⟨.it b g h hg,λc hc=>hc⟩
 | mpv b g h hg=>intro _;exact⟨.mpv b g h hg,λc hc=>hc⟩
 | yd=>intro _;exact⟨.yd,λc hc=>hc⟩
 | tup l A As hA ha hl ih=>intro _;exact⟨.tup l A As hA ha hl,λc hc=>hc⟩
 | bad V=>intro _;exact⟨.bad V,λc hc=>hc⟩
def CR.snap(hH:HR Γ H w){l:List PV}{A:Array Value}(h:CR Γ (A3 H) w l A):CR Γ.all (A3 H) w (N5 H l) A:=by rw[Jo];refine⟨by rw[w6];exact h.1,λj hj=>?_⟩;obtain⟨U,e,k⟩:=h.2 j (by simpa using hj);exact⟨U,e,by rw[j5];exact k.snap hH⟩
def CR.snap_plain{l:List PV}{A:Array Value}(h:CR Γ (A3 H) w l A)(hr:Rx l=false):CR Γ (A3 H) w (N5 H l) A/\∀c∈D1 (N5 H l),c∈D1 l:=by
 have hr':=TX hr;rw[Jo];refine⟨⟨by rw[w6];exact h.1,λj hj=>?_⟩,λc hc=>?_⟩
 ·obtain⟨U,e,k⟩:=h.2 j (by simpa using hj);exact⟨U,e,by rw[j5];exact(k.snap_plain (hr' _ (j4 _))).1⟩
 ·obtain⟨j,hj,hc⟩:=C8.1 hc;rw[j5] at hc;have hj':j<l.length:=by simpa using hj
  obtain⟨U,e,k⟩:=h.2 j hj';exact C8.2 ⟨j,hj',(k.snap_plain (hr' _ (j4 _))).2 c hc⟩
def CR.bare{Γ':Ctx}{sh sh':Nat->Option Shp}{l:List PV}{A:Array Value}(h:CR Γ sh w l A)(hn:D1 l=[])(hst:∀g,Γ.St g->Γ'.St g)(hyv:Γ'.yv=Γ.yv):CR Γ' sh' w l A:=
 ⟨h.1,λj hj=>by
  obtain⟨U,e,k⟩:=h.2 j hj;refine⟨U,e,k.mono (ok:=λ_=>False) ⟨λ_ _=>rfl,hst,λ_ h=>h.elim,λ_ h=>h.elim,λ_ _ h=>h.elim,hyv⟩ (λb hb=>?_)⟩;have:b∈D1 l:=C8.2 ⟨j,hj,hb⟩;rw[hn] at this;simp at this⟩
def EK{St':Nat->Prop}{w':World}(d:HR Γ H w)(a:∀g,g<w.heap.size->w'.heap[g]? = w.heap[g]?)(e:∀g,Γ.St g->St' g):Am Γ (A3 H) w { Γ with St:=St' } (A3 H) w' (λ_=>True):=
 ⟨λg c=>a g (d.stlt g c),e,λ_ _=>rfl,λ_ _=>rfl,λb g _ c=>F3 (a g (d.lt b g c).2.1),rfl⟩
def Dp4{St':Nat->Prop}{w':World}(c:HR Γ H w)(a:∀g,g<w.heap.size->w'.heap[g]? = w.heap[g]?)(i:w.heap.size<=w'.heap.size)(h:∀g,Γ.St g->St' g)(j:∀g,St' g->Γ.St g\/w.heap.size<=g)(e:∀g,St' g->g<w'.heap.size):HR { Γ with St:=St' } H w':=by refine⟨c.inj,λb g d=>?_,e,c.nms,λb f=>(c.blk b f).mono (EK c a h) rfl (λg d=>a g (c.lt b g d).2.1) (λ_ _=>trivial)⟩;have:=c.lt b g d;grind
def C55{St':Nat->Prop}{w':World}{Φ:Nat->Prop}(e:HR Γ H w)(a:∀g,g<w.heap.size->w'.heap[g]? = w.heap[g]?)(d:w.heap.size<=w'.heap.size)(l:∀g,Γ.St g->St' g)(k:∀g,St' g->Γ.St g\/w.heap.size<=g)(f:w'.os=w.os)(i:w'.tape=w.tape)(j:w'.output=w.output) :
  Stp C Γ H w Φ { Γ with St:=St' } H w' Φ:=
 ⟨f,i,j,d,l,k,λb g c=>.inl ⟨(e.lt b g c).1,c⟩,λ_ h=>.inl h,λg c _ _=>a g c,rfl,p5 _,λb m n=>⟨rfl,rfl,λg c=>F3 (a g (e.lt b g c).2.1)⟩⟩
end
section
variable {U R : Type} {r : R} {C : Cfg} {I : U -> (Nat -> Prop) -> (Nat -> Prop) -> World -> Prop} {Q : Ctx} {W : Nat -> Prop} {Y : St U} {J : Array Value} {w : World} {K : G4} {O : Yh U} {Z : Value}
def Aj1(C:Cfg)(I:U->(Nat->Prop)->(Nat->Prop)->World->Prop)(Q:Ctx)(W:Nat->Prop)(Y:St U)(J:Array Value)(w:World)(k:PV->St U->Option R)(r:R)(V:Value)(w':World):Prop:=
 ∃v a Γ' b,k v a=some r/\Stp C Q Y.hp w W Γ' a.hp w' b/\SI C I Γ' b a J w'/\VP Γ' (A3 a.hp) w' v V/\∀c∈v.nms,c<a.hp.length
def Nl{a:Ctx}(d:∀b,a.nm b=none)(c:∀g,a.St g->g<w.heap.size):HR a [] w:=
 ⟨λb e g h=>(by rw[d] at h;cases h),λb g h=>(by rw[d] at h;cases h),c,λb h=>by simp at h,λb h=>by simp at h⟩
def SI.wide(hI:HI I)(S:SI C I Q W Y J w){St':Nat->Prop}{w':World}(hold:∀g,g<w.heap.size->w'.heap[g]? = w.heap[g]?)(hsz:w.heap.size<=w'.heap.size)(hs:∀g,Q.St g->St' g)(hn:∀g,St' g->Q.St g\/w.heap.size<=g)(hlt:∀g,St' g->g<w'.heap.size)
  (h1:w'.os=w.os) (h2:w'.tape=w.tape) (h3:w'.output=w.output):SI C I { Q with St:=St' } W Y J w'/\Stp C Q Y.hp w W { Q with St:=St' } Y.hp w' W:=by
 have hstp:=C55 (C:=C) (Φ:=W) S.hr hold hsz hs hn h1 h2 h3;refine⟨?_,hstp⟩;have:=S.step hI hstp (λg hg=>hold g (hI.foot _ _ _ _ S.inv g hg).1) (Dp4 S.hr hold hsz hs hn hlt) (S.sr.mono (EK S.hr hold hs) (λc hc=>⟨trivial,S.sr.nms c hc⟩));exact this
def SI.wideSt(hI:HI I)(S:SI C I Q W Y J w){St':Nat->Prop}(hs:∀g,Q.St g->St' g)(hd:∀g,St' g->¬W g)(hn:∀b g,Q.nm b=some g->¬St' g)(hlt:∀g,St' g->g<w.heap.size):SI C I { Q with St:=St' } W Y J w:=by
 have M:Am Q (A3 Y.hp) w { Q with St:=St' } (A3 Y.hp) w (λ_=>True):=⟨λ_ _=>rfl,hs,λ_ _=>rfl,λ_ _=>rfl,λ_ _ _ _=>rfl,rfl⟩
 refine⟨⟨S.hr.inj,λb g hb=>?_,hlt,S.hr.nms,λb hb=>(S.hr.blk b hb).mono M rfl (λ_ _=>rfl) (λ_ _=>trivial)⟩,
  S.sr.mono M (λc hc=>⟨trivial,S.sr.nms c hc⟩),S.g.mono (λ_ _=>rfl) hs,hI.mono _ _ _ _ _ _ S.inv hs hd hlt (λ_ _=>rfl) (p5 _) rfl rfl rfl,S.dis⟩
 obtain⟨q1,q2,_⟩:=S.hr.lt b g hb;exact⟨q1,q2,hn b g hb⟩
def A39(S:SI C I Q W Y J w):∀g,Q.all.St g->g<w.heap.size:=by
 rintro g (h|⟨b,h⟩)
 ·exact S.hr.stlt g h
 ·exact(S.hr.lt b g h).2.1
def Cl5:HI I0:=⟨λ_ _ W _ h g a=>absurd a (h g),λ_ _ W _ _ _ h _ _ _ _ _ _ _ _=>h⟩
def Cl6{P:Program}{Z:Value}:A37 P I0 (λ_ _=>none) Z:=λ_ _ _ _ h=>by cases h
def EG{ret:PV}{u:List Blk}{k:PV->St U->Option R}{St0:Nat->Prop}{T:Result Next}(hI:HI I)(S:SI C I Q W Y J w)(a5:∀g,Q.St g->St0 g)(a0:(∀g,St0 g->Q.St g)\/(ret.clean=true/\u.all Blk.clean=true))
  (a2:Q6 C.P T (Bx C I0 { Q with St:=St0,nm:=λ_=>none } [] w noΦ ret u ()))
  (hk:k (ret.rn (Y.hp.length + ·)) { sl:=Y.sl,hp:=Y.hp++u.map (Blk.rn (Y.hp.length + ·)),s:=Y.s } = some r):Q6 C.P T (λV w'=>Aj1 C I Q W Y J w k r V w'/\N9 w w'):=by
 let Γc:Ctx:={ Q with St:=St0,nm:=λ_=>none }
 refine a2.mono ?_;rintro V w' ⟨n,Φ1,l,f,hv,hvn,a8,a7⟩;have e:∀k,k<w.heap.size->w'.heap[k]? = w.heap[k]?:=λk hk=>l.frame k hk (λb=>by simp) (λx=>x)
 generalize hL:Y.hp.length=L at *;have p:∀i g,n.nm i=some g->i<u.length/\w.heap.size<=g/\g<w'.heap.size:=λi g h=>by
  refine⟨(f.lt i g h).1,?_,(f.lt i g h).2.1⟩;rcases l.own i g h with⟨h',_⟩|h'
  ·simp at h'
  ·exact h'
 obtain⟨t,D,m,H,B⟩:∃t:Nat->Prop,(∀g,Q.St g->t g)/\(∀g,t g->Q.St g\/(w.heap.size<=g/\n.St g))/\(∀g,t g->g<w'.heap.size)/\((∀g,n.St g->t g)\/(ret.clean=true/\u.all Blk.clean=true)):=by
  rcases a0 with h|h
  ·refine⟨n.St,λg a=>l.sub g (a5 g a),λg a=>?_,λg a=>f.stlt g a,.inl λ_ h=>h⟩;rcases l.stnew g a with q|q
   ·exact .inl (h g q)
   ·exact .inr ⟨q,a⟩
  ·exact⟨Q.St,λ_ h=>h,λ_ h=>.inl h,λg a=>k9 (S.hr.stlt g a) l.size,.inr h⟩
 let Γ2:Ctx:={ Q with St:=t,nm:=λb=>if b<L then Q.nm b else n.nm (b-L) }
 let o:List Blk:=Y.hp++u.map (Blk.rn (L + ·));have a3:∀i,i<u.length->A3 o (L+i)=A3 u i:=λi hi=>by
  simp only[o,A3];rw[ac9 (by omega),hL,ad5,y5,Option.map_map]
  congr 1
  funext x
  exact Blk.rn_shp _ x
 have M:Am Q (A3 Y.hp) w Γ2 (A3 o) w' (· < L):=⟨λg a=>e g (S.hr.stlt g a),D,λb A=>by simp only[Γ2];rw[ac A],λb A=>Q1 (by omega),λb g A a=>F3 (e g (S.hr.lt b g a).2.1),rfl⟩
 have y:∀i,i<u.length->Γ2.nm (L+i)=n.nm i:=λi hi=>by simp only[Γ2];rw[ae (by omega),ad5]
 have a4:Γ2.yv=n.yv:=by have:=l.yv;exact this.symm
 have j:o.length=L+u.length:=by simp[o,hL]
 have a6:HR Γ2 o w':=by
  refine⟨λb b' g N P=>?_,λb g h=>?_,H,λb A c z=>?_,λb A=>?_⟩
  ·simp only[Γ2] at N P;split at N<;>split at P
   ·exact S.hr.inj b b' g N P
   ·have:=(S.hr.lt b g N).2.1;have:=(p _ g P).2.1;omega
   ·have:=(S.hr.lt b' g P).2.1;have:=(p _ g N).2.1;omega
   ·have:=f.inj _ _ g N P;omega
  ·rw[j];simp only[Γ2] at h;split at h
   ·have:=S.hr.lt b g h;refine⟨by omega,by have:=l.size;omega,λG=>?_⟩;rcases m g G with q|q
    ·exact this.2.2 q
    ·omega
   ·have:=p _ g h;refine⟨by omega,this.2.2,λG=>?_⟩;rcases m g G with q|q
    ·have:=S.hr.stlt g q;omega
    ·exact(f.lt _ g h).2.2 q.2
  ·rw[j] at A ⊢;by_cases X:b<L
   ·have:o[b]'(by omega)=Y.hp[b]'(by omega):=y7 (by omega);rw[this] at z;have:=S.hr.nms b (by omega) c z;omega
   ·have:o[b]'(by omega)=(u[b-L]'(by omega)).rn (L + ·):=by
     simp only[o];rw[ad1 (by omega),j5];simp[hL]
    rw[this,Blk.rn_nms] at z;obtain⟨d,hd,rfl⟩:=ab0.1 z;have:=f.nms _ (by omega) d hd;omega
  ·rw[j] at A;by_cases X:b<L
   ·have:o[b]'(by omega)=Y.hp[b]'(by omega):=y7 (by omega);rw[this];exact(S.hr.blk b (by omega)).mono M (M.nm b X) (λg a=>e g (S.hr.lt b g a).2.1) (λc v=>by have:=S.hr.nms b (by omega) c v;omega)
   ·have:o[b]'(by omega)=(u[b-L]'(by omega)).rn (L + ·):=by
     simp only[o];rw[ad1 (by omega),j5];simp[hL]
    rw[this];refine(f.blk _ (by omega)).rn a4 (by
     rcases B with h|h
     ·exact .inr h
     ·exact .inl (j6.1 h.2 _ (j4 _))) ?_ (λc v=>?_)
    ·have:=y (b-L) (by omega);rw[show L+(b-L)=b by omega] at this;exact this
    ·have a1:=f.nms _ (by omega) c v;exact⟨y c a1,a3 c a1⟩
 have F:Stp C Q Y.hp w W Γ2 o w' W:=by
  refine⟨l.os,l.tape,l.output,l.size,D,λg a=>(m g a).imp (λh=>h) (λh=>h.1),λb g h=>?_,λ_ h=>.inl h,λg a _ _=>e g a,rfl,by omega,λb A hf=>⟨M.nm b (by omega),M.shp b (by omega),λg a=>M.hs b g (by omega) a⟩⟩;simp only[Γ2] at h;split at h
  ·exact .inl ⟨by omega,h⟩
  ·exact .inr (p _ g h).2.1
 have S':=S.step hI F (λg a=>e g (hI.foot _ _ _ _ S.inv g a).1) a6 (S.sr.mono M (λc v=>by have:=S.sr.nms c v;omega));refine⟨⟨_,_,Γ2,W,hk,F,S',?_,λc v=>?_⟩,⟨e,l.size⟩,l.os,l.tape,l.output⟩
 ·exact hv.rn a4 (by rcases B with h|h;exact .inr h;exact .inl h.1) (λc v=>⟨y c (hvn c v),a3 c (hvn c v)⟩)
 ·rw[PV.rn_nms] at v;obtain⟨d,hd,rfl⟩:=ab0.1 v;have:=hvn d hd;show L+d<o.length;omega
def Am3{g:Nat}{args:List PV}{e:Array Value}{ret:PV}{d:List Blk}{k:PV->St U->Option R}(n:HI I)(l:Cw C K)(S:SI C I Q W Y J w)(o:CR Q (A3 Y.hp) w args e)(a:D1 (N5 Y.hp args)=[])(j:K Unit (λ_ _=>none) g (N5 Y.hp args) [] ()=some (ret,d,()))
  (c:ret.clean=true) (m:d.all Blk.clean=true) (p:k (ret.rn (Y.hp.length + ·)) { sl:=Y.sl,hp:=Y.hp++d.map (Blk.rn (Y.hp.length + ·)),s:=Y.s } = some r):Q6 C.P ((callFunc g e).run C.P w) (Aj1 C I Q W Y J w k r):=by
 have f:=o.snap S.hr;let Γc:Ctx:={ Q.all with nm:=λ_=>none }
 have i:CR Γc (A3 []) w (N5 Y.hp args) e:=f.bare a (λ_ h=>h) rfl;exact(EG n S (St0:=Q.all.St) (λ_ h=>ab8 h) (.inr ⟨c,m⟩)
  (l Unit I0 _ Q.yv Cl5 Cl6 g _ [] () ret d () j Γc noΦ w e rfl (Nl (λ_=>rfl) (A39 S)) (S.g.mono (λ_ _=>rfl) (λ_ h=>ab8 h)) (λ_ h=>h) (λb g h=>by cases h) i (by rw[a];simp)) p).mono λ_ _ h=>h.1
def KX{g:Nat}{args:List PV}{d:Array Value}{j:List PV->Tr}{ret:PV}{c:List Blk}{k:PV->St U->Option R}(m:HI I)(n:XOK C)(S:SI C I Q W Y J w)(o:CR Q (A3 Y.hp) w args d)(p:C.X g=some j)(i:L8 (j (N5 Y.hp args))=some (ret,c))
  (f:D1 (N5 Y.hp args)=[]) (l:Rx args=false\/(ret.clean=true/\c.all Blk.clean=true)) (q:k (ret.rn (Y.hp.length + ·)) { sl:=Y.sl,hp:=Y.hp++c.map (Blk.rn (Y.hp.length + ·)),s:=Y.s } = some r):Q6 C.P ((callFunc g d).run C.P w) (λV w'=>Aj1 C I Q W Y J w k r V w'/\N9 w w'):=by
 by_cases t:Rx args=false
 ·have a:=(o.snap_plain t).1;let Γc:Ctx:={ Q with nm:=λ_=>none }
  have b:CR Γc (A3 []) w (N5 Y.hp args) d:=a.bare f (λ_ h=>h) rfl;exact EG m S (St0:=Q.St) (λ_ h=>h) (.inl λ_ h=>h) (n.x g j _ ret c p i Γc w d (λ_=>rfl) (Nl (λ_=>rfl) S.hr.stlt) S.g b) q
 ·have e:ret.clean=true/\c.all Blk.clean=true:=by rcases l with h|h;exact absurd h t;exact h
  have a:=o.snap S.hr;let Γc:Ctx:={ Q.all with nm:=λ_=>none }
  have b:CR Γc (A3 []) w (N5 Y.hp args) d:=a.bare f (λ_ h=>h) rfl;exact EG m S (St0:=Q.all.St) (λ_ h=>ab8 h) (.inr e) (n.x g j _ ret c p i Γc w d (λ_=>rfl) (Nl (λ_=>rfl) (A39 S)) (S.g.mono (λ_ _=>rfl) (λ_ h=>ab8 h)) b) q
def Am5{g:Nat}{args:List PV}{e:Array Value}{f:List PV->Tr}{ret:PV}{a:List Blk}{k:PV->St U->Option R}(i:HI I)(j:XOK C)(S:SI C I Q W Y J w)(l:CR Q (A3 Y.hp) w args e)(m:C.X g=some f)(d:L8 (f (N5 Y.hp args))=some (ret,a))
  (c:D1 (N5 Y.hp args)=[]) (b:Rx args=false\/(ret.clean=true/\a.all Blk.clean=true)) (n:k (ret.rn (Y.hp.length + ·)) { sl:=Y.sl,hp:=Y.hp++a.map (Blk.rn (Y.hp.length + ·)),s:=Y.s } = some r):Q6 C.P ((callFunc g e).run C.P w) (Aj1 C I Q W Y J w k r):=
 (KX i j S l m d c b n).mono λ_ _ h=>h.1
end
def Ctx.lent(Γ:Ctx)(ns:List Nat):Ctx:={ Γ with nm:=λi=>(ns[i]?).bind Γ.nm }
def Ctx.back(Γ Γ1:Ctx)(ns:List Nat)(L:Nat)(d:Bool):Ctx:=
 { St:=Γ1.St,nm:=λb=>if b∈ns then Γ1.nm (I5 ns b) else if b<L then Γ.nm b else if d=true then none else Γ1.nm (ns.length+(b-L)),yv:=Γ.yv,yv1:=Γ.yv1 }
section
variable {W R : Type} {r : R} {C : Cfg} {I : W -> (Nat -> Prop) -> (Nat -> Prop) -> World -> Prop} {Q : Ctx} {H : List Blk} {J : Nat -> Prop} {Y : St W} {O : Array Value} {w : World} {X : G4} {K : Yh W} {Z : Value}
def P9(H:List Blk)(a:List Nat):List Blk:=a.map λb=>(H.getD b .dead).rn (I5 a)
def Ta{a:List Nat}{b:Nat}(h:b∈a):(Q.lent a).nm (I5 a b)=Q.nm b:=by obtain⟨c,d⟩:=Ca h;simp only[Ctx.lent,j0 c,d,j1]
def Mh{a:List Nat}(c:∀b∈a,b<H.length){i:Nat}(d:i<a.length):A3 (P9 H a) i=A3 H a[i]:=by have:=c _ (j4 d);simp only[A3,P9,y5,j0 d,w9,Blk.rn_shp,j0 this];rw[j7,j0 this];rfl
def Aa7{a:List Nat}(p:HR Q H w)(y:a.Nodup)(k:∀b∈a,b<H.length)(x:Fl H a=true):HR (Q.lent a) (P9 H a) w:=by
 have n:=OW x;have key:∀i g,(Q.lent a).nm i=some g->∃h:i<a.length,Q.nm a[i]=some g:=λi g h=>by
  simp only[Ctx.lent] at h;cases f:a[i]? with
  | none=>rw[f] at h;simp at h
  | some b=>
   obtain⟨u,v⟩:=o9.1 f;rw[f] at h;exact⟨u,by rw[v];exact h⟩
 have l:∀b (h:b∈a),H.getD b .dead=H[b]'(k b h):=λb h=>by rw[j7,j0 (k b h)];rfl
 refine⟨λi j g u v=>?_,λi g h=>?_,p.stlt,λi f c q=>?_,λi f=>?_⟩
 ·obtain⟨f,t⟩:=key i g u;obtain⟨F,z⟩:=key j g v;have:=p.inj _ _ g t z;exact(af4 y).1 this
 ·obtain⟨f,t⟩:=key i g h;have:=p.lt _ g t;exact⟨by simpa[P9] using f,this.2⟩
 ·simp only[P9,w6] at f ⊢;simp only[P9,j5,Blk.rn_nms] at q;obtain⟨d,A,rfl⟩:=ab0.1 q;exact(Ca (n _ (j4 f) d A)).1
 ·simp only[P9,w6] at f;have o:=j4 f;have e:(P9 H a)[i]'(by simpa[P9] using f)=(H[a[i]]'(k _ o)).rn (I5 a):=by
   simp only[P9,j5,l _ o]
  rw[e];refine BR.rn (Γ:=Q) (Γ':=Q.lent a) (b':=i) rfl (p.blk _ (k _ o)) (.inr λ_ h=>h) ?_ (λc q=>?_)
  ·simp only[Ctx.lent,j0 f,j1]
  ·have m:c∈a:=n _ o c (by rw[l _ o];exact q);obtain⟨B,D⟩:=Ca m;exact⟨Ta m,by rw[Mh k B,D]⟩
def SP{L:Nat}{H:List Blk}(h:Ca2 L H=true):∀x∈H,∀c∈x.nms,c<L:=by intro x b c a;simp only[Ca2,j6,af] at h;exact h x b c a
def LN{b:Nat}(a:b<H.length):Fq C (H.getD b .dead)=true↔Je C (A3 H b):=by
 have e:H.getD b .dead=H[b]:=by rw[j7,j0 a];rfl
 rw[e];simp only[A3,j0 a,w9];cases H[b]<;>simp[Fq,Je,Blk.shp]
def ES{g:Nat}{T:List PV}{Vs:Array Value}{ret:PV}{z:List Blk}{s':W}{k:PV->St W->Option R}(hI:HI I)(hC:Cw C X)(hy:A37 C.P I K Z)(f8:Q.yv=Z)(S:SI C I Q J Y O w)(m:CR Q (A3 Y.hp) w T Vs)(hn:∀c∈D1 T,c<Y.hp.length)
  (e8:Fl Y.hp (Dw Y.hp (D1 T))=true) (c3:X W K g (rnL (I5 (Dw Y.hp (D1 T))) T) (P9 Y.hp (Dw Y.hp (D1 T))) Y.s=some (ret,z,s'))
  (hk:k (Js (T2 ((Dw Y.hp (D1 T)).filter λb=>!Fq C (Y.hp.getD b .dead)) Y.hp) (Dw Y.hp (D1 T)) ret z).1
   { sl:=M7 ((Dw Y.hp (D1 T)).filter λb=>!Fq C (Y.hp.getD b .dead)) Y.sl,hp:=(Js (T2 ((Dw Y.hp (D1 T)).filter λb=>!Fq C (Y.hp.getD b .dead)) Y.hp) (Dw Y.hp (D1 T)) ret z).2,s:=s' } = some r) :
  Q6 C.P ((callFunc g Vs).run C.P w) (Aj1 C I Q J Y O w k r):=by
 have c8:=FT Y.hp (D1 T);have c0:=TP Y.hp (D1 T);have P:∀b∈Dw Y.hp (D1 T),b<Y.hp.length:=TO Y.hp (D1 T) (· < Y.hp.length) (λb l c m=>by
  have e:Y.hp.getD b .dead=Y.hp[b]:=by rw[j7,j0 l];rfl
  rw[e] at m;exact S.hr.nms b l c m) hn
 generalize Dw Y.hp (D1 T)=a at *;have e6:=Aa7 S.hr c8 P e8;have u:=λb (h:b∈a)=>Ca h
 have c2:CR (Q.lent a) (A3 (P9 Y.hp a)) w (rnL (I5 a) T) Vs:=by
  rw[Ou];refine⟨by rw[w6];exact m.1,λj hj=>?_⟩;have d4:j<T.length:=by simpa using hj
  obtain⟨U,e,q⟩:=m.2 j d4;refine⟨U,e,?_⟩;rw[j5];refine VP.rn (Γ:=Q) (Γ':=Q.lent a) rfl q (.inr λ_ h=>h) (λc m=>?_);have a0:=c0 c (C8.2 ⟨j,d4,m⟩);obtain⟨q1,q2⟩:=u c a0;exact⟨Ta a0,by rw[Mh P q1,q2]⟩
 have c1:∀c∈D1 (rnL (I5 a) T),c<(P9 Y.hp a).length:=λc m=>by
  rw[Gy] at m;obtain⟨d,hd,rfl⟩:=ab0.1 m;simpa[P9] using(u d (c0 d hd)).1
 refine(hC W I K Z hI hy g _ _ _ ret z s' c3 (Q.lent a) J w Vs f8 e6 S.g S.inv (λi g h=>?_) c2 c1).mono ?_
 ·simp only[Ctx.lent] at h;cases t:a[i]? with
  | none=>rw[t] at h;simp at h
  | some b=>rw[t] at h;exact S.dis b g h
 rintro V w' ⟨Γ1,Φ1,hs,p,hv,hvn,e9,d2⟩;generalize hL:Y.hp.length=L at *;generalize d5:(a.filter λb=>!Fq C (Y.hp.getD b .dead))=ks at *;obtain⟨F,f9,e3⟩:=Rj (Γ:=Q) (sh:=A3 Y.hp) (w:=w) ks Y.hp;have g0:(P9 Y.hp a).length=a.length:=by simp[P9]
 have g4:a.length<=z.length:=by have:=hs.len;omega
 simp only[Js,F,hL] at hk;generalize hf:Nk a L=f at *;have f1:∀i (h:i<a.length),f i=a[i]:=λi h=>by rw[<-hf];simp only[Nk,ac h];exact Aa h
 have f2:∀i,¬i<a.length->f i=L+(i-a.length):=λi h=>by rw[<-hf];simp only[Nk,ae h]
 generalize hd:((ret.rn f).nms.all (· < L)&&Ca2 L ((z.take a.length).map (Blk.rn f)))=d at hk;let E:List Blk:=cond d [] ((z.drop a.length).map (Blk.rn f));have c7:((z.take a.length).map (Blk.rn f)).length=a.length:=by simp;omega
 obtain⟨b3,e4⟩:=Kp a ((z.take a.length).map (Blk.rn f)) (T2 ks Y.hp) c8 c7 (λb l=>by rw[F];have:=P b l;omega);have hE:(cond d (W4 (T2 ks Y.hp) a ((z.take a.length).map (Blk.rn f))) (W4 (T2 ks Y.hp) a ((z.take a.length).map (Blk.rn f))++(z.drop a.length).map (Blk.rn f)))=W4 (T2 ks Y.hp) a ((z.take a.length).map (Blk.rn f))++E:=by
  cases d<;>simp[E]
 rw[hE] at hk;generalize b5:W4 (T2 ks Y.hp) a ((z.take a.length).map (Blk.rn f))++E=H2 at hk;have b6:H2.length=L+E.length:=by rw[<-b5,x4,b3,F,hL]
 have b4:E.length=if d=true then 0 else z.length-a.length:=by cases d<;>simp[E]
 have g1:∀b (l:b∈a),H2[b]? = some ((z[I5 a b]'(by have:=(u b l).1;omega)).rn f):=λb l=>by
  have d1:=P b l;rw[<-b5,ad0 (by rw[b3,F,hL];exact d1),e4,ac l];have t:=(u b l).1;have e:a.idxOf b=I5 a b:=rfl;rw[e,y5,ab7,ac t,j0 (by omega)];rfl
 have g2:∀b,b<L->b∉a->H2[b]? = (T2 ks Y.hp)[b]?:=λb l o=>by
  rw[<-b5,ad0 (by rw[b3,F,hL];exact l),e4,ae o]
 have g3:∀b,L<=b->(l:b<H2.length)->d=false/\∃h:a.length+(b-L)<z.length,H2[b]? = some ((z[a.length+(b-L)]).rn f):=λb n l=>by
  have v:d=false:=by
   rcases Bool.eq_false_or_eq_true d with h|h
   ·rw[b6,b4,h] at l;simp at l;omega
   ·exact h
  have h':a.length+(b-L)<z.length:=by rw[b6,b4,v] at l;simp at l;omega
  refine⟨v,h',?_⟩;rw[<-b5,ac9 (by rw[b3,F,hL];exact n),b3,F,hL];simp only[E,v,ab,y5,List.getElem?_drop,j0 h',w9]
 let Γ2:=Q.back Γ1 a L d;have G:∀i,i<z.length->(i<a.length\/d=false)->Γ2.nm (f i)=Γ1.nm i/\A3 H2 (f i)=A3 z i/\f i<H2.length:=λi t D=>by
  by_cases h:i<a.length
  ·rw[f1 i h];have hm:=j4 h;have b8:I5 a a[i]=i:=by
    obtain⟨q1,q2⟩:=u _ hm;exact(af4 c8).1 q2
   refine⟨by simp only[Γ2,Ctx.back,ac hm,b8],?_,by have:=P _ hm;omega⟩;simp only[A3,g1 _ hm,w9,Blk.rn_shp,b8,j0 t]
  ·have v:d=false:=by rcases D with D|D;exact absurd D h;exact D
   have n:L+(i-a.length)<H2.length:=by rw[b6,b4,v];simp;omega
   have f3:L+(i-a.length)∉a:=λhm=>by have:=P _ hm;omega
   rw[f2 i h];refine⟨?_,?_,n⟩
   ·simp only[Γ2,Ctx.back,ae f3,v];rw[ae (by omega),ae (by simp)]
    congr 1;omega
   ·obtain⟨_,h',e⟩:=g3 _ (by omega) n;have e2:a.length+(L+(i-a.length)-L)=i:=by omega
    simp only[A3,e,w9,Blk.rn_shp,j0 t]
    congr 2
    simp only[e2]
 have b7:∀c∈ret.nms,c<a.length\/d=false:=λc m=>by
  cases c4:d with
  | false=>exact .inr rfl
  | true=>
   rw[c4] at hd;simp only[c9,j6,af] at hd;refine .inl (p7 λh=>?_);have:=hd.1 (f c) (by rw[PV.rn_nms];exact ac7 m);rw[f2 c h] at this;omega
 have b0:∀i (t:i<a.length),∀c∈(z[i]'(by omega)).nms,c<a.length\/d=false:=λi t c m=>by
  cases c4:d with
  | false=>exact .inr rfl
  | true=>
   rw[c4] at hd;simp only[c9] at hd;refine .inl (p7 λh=>?_);have d7:(z[i]'(by omega)).rn f∈(z.take a.length).map (Blk.rn f):=ac7 (by rw[List.mem_take_iff_getElem];exact⟨i,by omega,rfl⟩);have:=SP hd.2 _ d7 (f c) (by rw[Blk.rn_nms];exact ac7 m);rw[f2 c h] at this;omega
 have hΓc:∀i g,(Q.lent a).nm i=some g->∃h:i<a.length,Q.nm a[i]=some g:=λi g h=>by
  simp only[Ctx.lent] at h;cases t:a[i]? with
  | none=>rw[t] at h;simp at h
  | some b=>
   obtain⟨q1,q2⟩:=o9.1 t;rw[t] at h;exact⟨q1,by rw[q2];exact h⟩
 have c5:=hI.foot _ _ _ _ S.inv;have b9:∀b g,b∉a->Q.nm b=some g->w'.heap[g]? = w.heap[g]?:=λb g l D=>hs.frame g (S.hr.lt b g D).2.1 (λi t=>by
  obtain⟨N,B⟩:=hΓc i g t;have:=S.hr.inj _ _ g B D;exact l (this▸j4 N)) (S.dis b g D)
 have d8:∀g,Q.St g->w'.heap[g]? = w.heap[g]?:=λg D=>hs.frame g (S.hr.stlt g D) (λi t=>by
  obtain⟨N,B⟩:=hΓc i g t;exact(S.hr.lt _ g B).2.2 D) (λhp=>(c5 g hp).2 D)
 have a6:∀i g,Γ1.nm i=some g->(∃h:i<a.length,Q.nm a[i]=some g)\/w.heap.size<=g:=λi g h=>by
  rcases hs.own i g h with⟨_,h⟩|h
  ·exact .inl (hΓc i g h)
  ·exact .inr h
 have d6:∀b,b∈a->b∉ks->Je C (A3 Y.hp b):=λb l a5=>by
  rw[<-d5] at a5;have d1:=P b l;rw[<-LN (by omega)];simp only[ag4,not_and,aa6] at a5;simpa using a5 l
 have b1:∀b,b∈a->Je C (A3 Y.hp b)->Γ2.nm b=Q.nm b/\A3 H2 b=A3 Y.hp b/\∀g,Q.nm b=some g->w'.shape? g=w.shape? g:=λb l c6=>by
  obtain⟨q1,q2⟩:=u b l;have e:=Mh (H:=Y.hp) (λb l=>by have:=P b l;omega) q1;rw[q2] at e;obtain⟨k1,k2,k3⟩:=hs.keep (I5 a b) (by omega) (by rw[e];exact c6);rw[Ta l] at k1 k3;refine⟨by simp only[Γ2,Ctx.back,ac l];exact k1,?_,k3⟩;have e5:A3 z (I5 a b)=some (z[I5 a b]'(by omega)).shp:=by
   simp only[A3];rw[j0 (by omega)];rfl
  rw[<-e,<-k2,e5];simp only[A3,g1 b l,w9,Blk.rn_shp]
 have M:Am Q (A3 Y.hp) w Γ2 (A3 H2) w' (λc=>c<L/\c∉ks):=by
  have key:∀c,c<L->c∉ks->Γ2.nm c=Q.nm c/\A3 H2 c=A3 Y.hp c/\∀g,Q.nm c=some g->w'.shape? g=w.shape? g:=λc m e7=>by
   by_cases a0:c∈a
   ·exact b1 c a0 (d6 c a0 e7)
   ·refine⟨by simp only[Γ2,Ctx.back,ae a0,ac m],?_,λg D=>F3 (b9 c g a0 D)⟩;rw[<-f9 c];simp only[A3,g2 c m a0]
  exact⟨d8,hs.sub,λc m=>(key c m.1 m.2).1,λc m=>(key c m.1 m.2).2.1,λc g m D=>(key c m.1 m.2).2.2 g D,rfl⟩
 have b2:Γ2.yv=Γ1.yv:=by have:=hs.yv;exact this.symm
 have f4:HR Γ2 H2 w':=by
  refine⟨λb b' g N B=>?_,λb g h=>?_,p.stlt,λb l c a7=>?_,λb l=>?_⟩
  ·simp only[Γ2,Ctx.back] at N B;have a8:∀x y,x∈a->Γ1.nm (I5 a x)=some g->y∉a->Q.nm y=some g->False:=λx y hx e1 f7 e2=>by
    rcases a6 _ g e1 with⟨q1,q2⟩|q
    ·have:=S.hr.inj _ _ g q2 e2;exact f7 (this▸j4 q1)
    ·have:=(S.hr.lt y g e2).2.1;omega
   have a9:∀x i,Q.nm x=some g->¬i<a.length->Γ1.nm i=some g->False:=λx i e1 t e2=>by
    rcases a6 _ g e2 with⟨q1,_⟩|q
    ·exact t q1
    ·have:=(S.hr.lt x g e1).2.1;omega
   split at N
   ·rename_i l;split at B
    ·rename_i a4;have:=p.inj _ _ g N B;rw[<-(u b l).2,<-(u b' a4).2];simp only[this]
    ·rename_i a4;split at B
     ·exact(a8 b b' l N a4 B).elim
     ·split at B
      ·cases B
      ·have:=p.inj _ _ g N B;have:=(u b l).1;omega
   ·rename_i l;split at N
    ·rename_i n;split at B
     ·rename_i a4;exact(a8 b' b a4 B l N).elim
     ·split at B
      ·exact S.hr.inj b b' g N B
      ·split at B
       ·cases B
       ·exact(a9 b _ N (by omega) B).elim
    ·rename_i n;split at N
     ·cases N
     ·split at B
      ·rename_i a4;have:=p.inj _ _ g N B;have:=(u b' a4).1;omega
      ·split at B
       ·exact(a9 b' _ B (by omega) N).elim
       ·have:=p.inj _ _ g N B;omega
  ·simp only[Γ2,Ctx.back] at h ⊢;split at h
   ·rename_i l;have:=p.lt _ g h;have:=P b l;exact⟨by omega,(p.lt _ g h).2.1,(p.lt _ g h).2.2⟩
   ·split at h
    ·rename_i n;have N:=S.hr.lt b g h;refine⟨by omega,by have:=hs.size;omega,λf5=>?_⟩;rcases hs.stnew g f5 with q|q
     ·exact N.2.2 q
     ·omega
    ·rename_i n;split at h
     ·cases h
     ·rename_i v;have N:=p.lt _ g h;refine⟨?_,N.2.1,N.2.2⟩;rw[b6,b4,ae v];omega
  ·by_cases o:b∈a
   ·have e:=g1 b o;rw[j0 l] at e;simp only[j8] at e;rw[e,Blk.rn_nms] at a7;obtain⟨c',A,rfl⟩:=ab0.1 a7;have t:=(u b o).1;exact(G c' (p.nms _ (by omega) c' A) (b0 _ t c' A)).2.2
   ·by_cases n:b<L
    ·have e:=g2 b n o;rw[j0 l,j0 (by rw[F,hL];exact n)] at e;simp only[j8] at e;rw[e] at a7;have:=((e3 b (by rw[F,hL];exact n) (by omega)).1 c a7).2;have:=S.hr.nms b (by omega) c this;omega
    ·obtain⟨v,h',e⟩:=g3 b (by omega) l;rw[j0 l] at e;simp only[j8] at e;rw[e,Blk.rn_nms] at a7;obtain⟨c',A,rfl⟩:=ab0.1 a7;exact(G c' (p.nms _ h' c' A) (.inr v)).2.2
  ·by_cases o:b∈a
   ·have e:=g1 b o;rw[j0 l] at e;simp only[j8] at e;rw[e];have t:=(u b o).1;refine(p.blk _ (by omega)).rn b2 (.inr λ_ h=>h) (by simp only[Γ2,Ctx.back,ac o]) (λc' A=>?_);have:=G c' (p.nms _ (by omega) c' A) (b0 _ t c' A);exact⟨this.1,this.2.1⟩
   ·by_cases n:b<L
    ·have e:=g2 b n o;rw[j0 l,j0 (by rw[F,hL];exact n)] at e;simp only[j8] at e;rw[e];have q:=e3 b (by rw[F,hL];exact n) (by omega);refine(q.2 b (S.hr.blk b (by omega))).mono M (by simp only[Γ2,Ctx.back,ae o,ac n]) (λg D=>b9 b g o D) (λc m=>?_);have:=q.1 c m;exact⟨by have:=S.hr.nms b (by omega) c this.2;omega,this.1⟩
    ·obtain⟨v,h',e⟩:=g3 b (by omega) l;rw[j0 l] at e;simp only[j8] at e;rw[e];refine(p.blk _ h').rn b2 (.inr λ_ h=>h) ?_ (λc' A=>?_)
     ·simp only[Γ2,Ctx.back,ae o,ae n,v];simp
     ·have:=G c' (p.nms _ h' c' A) (.inr v);exact⟨this.1,this.2.1⟩
 have d9:Stp C Q Y.hp w J Γ2 H2 w' Φ1:=by
  refine⟨hs.os,hs.tape,hs.output,hs.size,hs.sub,hs.stnew,λb g h=>?_,hs.foot,λg D f0 hp=>hs.frame g D (λi t=>?_) hp,rfl,by omega,λb l c6=>?_⟩
  ·simp only[Γ2,Ctx.back] at h;split at h
   ·rename_i l;rcases a6 _ g h with⟨q1,q2⟩|q
    ·have hh:a[I5 a b]=b:=(u b l).2;rw[hh] at q2;exact .inl ⟨by have:=P b l;omega,q2⟩
    ·exact .inr q
   ·split at h
    ·exact .inl ⟨by omega,h⟩
    ·split at h
     ·cases h
     ·rcases a6 _ g h with⟨q1,_⟩|q
      ·omega
      ·exact .inr q
  ·obtain⟨_,q2⟩:=hΓc i g t;exact f0 _ q2
  ·by_cases o:b∈a
   ·exact b1 b o c6
   ·have a5:b∉ks:=λh=>o (by rw[<-d5] at h;exact(ag4.1 h).1)
    exact⟨M.nm b ⟨by omega,a5⟩,M.shp b ⟨by omega,a5⟩,λg D=>M.hs b g ⟨by omega,a5⟩ D⟩
 have f6:SR Γ2 H2 w' (M7 ks Y.sl) O:=by
  obtain⟨d0,a2,a3⟩:=Od (Γ:=Q) (sh:=A3 Y.hp) (w:=w) ks Y.sl;refine⟨by rw[d0];exact S.sr.size,λc m=>by have:=S.sr.nms c (a2 c m).2;omega,λi t=>?_⟩;have d3:i<Y.sl.length:=by rw[d0] at t;exact t
  obtain⟨U,e,q⟩:=S.sr.slot i d3;refine⟨U,e,(a3 i t d3 U q).mono M λc m=>?_⟩;have hm:=a2 c (C8.2 ⟨i,t,m⟩);exact⟨by have:=S.sr.nms c hm.2;omega,hm.1⟩
 refine⟨_,_,Γ2,Φ1,hk,d9,⟨f4,f6,S.g.mono d8 hs.sub,e9,λb g h=>?_⟩,?_,λc m=>?_⟩
 ·intro hp;simp only[Γ2,Ctx.back] at h;split at h
  ·exact d2 _ g h hp
  ·split at h
   ·rcases hs.foot g hp with q|q
    ·exact S.dis b g h q
    ·have:=(S.hr.lt b g h).2.1;omega
   ·split at h
    ·cases h
    ·exact d2 _ g h hp
 ·exact hv.rn b2 (.inr λ_ h=>h) (λc m=>by
   have:=G c (hvn c m) (b7 c m);exact⟨this.1,this.2.1⟩)
 ·rw[PV.rn_nms] at m;obtain⟨c',A,rfl⟩:=ab0.1 m;exact(G c' (hvn c' A) (b7 c' A)).2.2
end
section
variable {σ R : Type} {r : R} {C : Cfg} {I : σ -> (Nat -> Prop) -> (Nat -> Prop) -> World -> Prop} {Γ : Ctx} {L : Nat -> Prop} {st : St σ} {a : Act} {w : World} {cl : G4} {yh : Yh σ} {yv : Value} {o : Oper}
structure Ask (C:Cfg) (I:σ->(Nat->Prop)->(Nat->Prop)->World->Prop) (cl:G4) (yh:Yh σ) (yv:Value):Prop where
 hI:HI I
 hC:Cw C cl
 hX:XOK C
 hy:A37 C.P I yh yv
def Bt0{g b:Nat}{args:List PV}{d:SV->List (List SV)->Bool × List (List SV)}{x:SV}(h:C93 C g args=some (d,b,x)):C.Z g=some d/\(args=[.fl b,.s x]/\x≠.nilp\/args=[.fl b]/\x = .nilp):=by
 unfold C93 at h;split at h
 ·rename_i c;split at h
  ·cases h
  ·rename_i e;simp only[j8,ad3] at h;obtain⟨rfl,rfl,rfl⟩:=h;exact⟨c,.inl ⟨rfl,e⟩⟩
 ·rename_i c;simp only[j8,ad3] at h;obtain⟨rfl,rfl,rfl⟩:=h;exact⟨c,.inr ⟨rfl,rfl⟩⟩
 ·cases h
def SI.like'{tmps:Array Value}(hI:HI I)(S:SI C I Γ L st tmps w){w':World}(h:N9 w w'):SI C I Γ L st tmps w'/\Stp C Γ st.hp w L Γ st.hp w' L:=
 S.wide hI (St':=Γ.St) h.1.1 h.1.2 (λ_ h=>h) (λ_ h=>.inl h) (λg hg=>k9 (S.hr.stlt g hg) h.1.2) h.2.1 h.2.2.1 h.2.2.2
def Am6{args:List PV}{g b e sz:Nat}{v:Bool}{Y:SV->List (List SV)->Bool × List (List SV)}{x:SV}{d:List (List SV)}{p m:Array Value}{k:PV->St σ->Option R}(hI:HI I)(hz:Ak6 C.P g Y)(S:SI C I Γ L st m w)(D:st.hp[b]? = some (.arr v e sz d))(u:CR Γ (A3 st.hp) w args p)(t:args=[.fl b,.s x]/\x≠.nilp\/args=[.fl b]/\x = .nilp)(hp:(Y x d).1=true)
  (O:k (.tup []) { sl:=st.sl,hp:=st.hp.set b (.arr v e sz (Y x d).2),s:=st.s } = some r):Q6 C.P ((callFunc g p).run C.P w) (Aj1 C I Γ L st m w k r):=by
 obtain⟨U,X,rfl,J,hx⟩:∃U X,p=C92 x U X/\VP Γ (A3 st.hp) w (.fl b) U/\VS Γ.St w x X:=by
  rcases t with⟨rfl,l⟩|⟨rfl,rfl⟩
  ·obtain⟨U,e1,J⟩:=u.2 0 (by simp);obtain⟨X,e2,h2⟩:=u.2 1 (by simp);refine⟨U,X,?_,J,h2.inv_s⟩;have hV:p = #[U,X]:=by
    have hs:p.size=2:=u.1;grind
   rw[hV];cases x<;>first|rfl|exact absurd rfl l
  ·obtain⟨U,e1,J⟩:=u.2 0 (by simp);refine⟨U,.pointer none,?_,J,.nilp⟩;have hs:p.size=1:=u.1;show p = #[U];grind
 obtain⟨z1,z2⟩:=hz Γ.St w x X d hx hp;have T:∀{s:Shp},A3 st.hp b=some s->s = .arr v e sz d.length:=λh=>by
  simp only[A3,D,w9,Blk.shp,j8] at h;exact h.symm
 have a0:VP Γ (A3 st.hp) w (.fl b) U:=J;cases a0 with
 | flv _ H f h=>
  have:=T h;simp only[Shp.arr.injEq] at this;obtain⟨rfl,rfl,rfl,Z⟩:=this;have Z:=ab9.1 Z.symm;refine(z1 Z).mono ?_;rintro V w' ⟨rfl,hn,hl⟩;have Q:st.hp.set b (.arr true H f (Y x d).2)=st.hp:=by
   rw[hn];rw[Z] at D;apply List.ext_getElem?;grind
  rw[Q] at O;obtain⟨S1,a3⟩:=S.like' hI hl;exact⟨_,_,Γ,L,O,a3,S1,Ak,by simp[PV.nms,D1]⟩
 | fl _ q v' H f n cap h hv y K hm hs=>
  have:=T h;simp only[Shp.arr.injEq] at this;obtain⟨rfl,rfl,rfl,rfl⟩:=this;have l:¬(v'=true/\d=[]):=by rintro⟨q1,q2⟩;exact hv q1 (by rw[q2];rfl)
  obtain⟨g',F,N,hh,A,z,M⟩:=S.hr.arr' D l;obtain rfl:q=g':=by rw[y] at N;exact ag6 N
  have a1:F.size=cap*f:=by
   simp only[af2,hh,j8,ad3,true_and] at hs;exact hs
  refine(z2 q F H f cap hh a1 K hm (S.hr.lt b q y).2.2 S.hr.stlt z M).mono ?_;rintro V w' ⟨rfl,i,w1,G,q1,q2,q3,q4,q5,q6,q7,q8,q9,a5⟩;have j:(Blk.arr v' H f (Y x d).2).shp=(Blk.arr v' H f d).shp:=by simp only[Blk.shp,i]
  have B:w1.shape? q=w.shape? q:=by simp only[af2,q1,hh,q2]
  have P:w.heap.size<=w1.heap.size:=by omega
  have W:=UK (C:=C) S.hr D y j q3 B P q5 q6 q7;have a2:=A04 S.hr D y j q3 B P (.inr ⟨λhz=>l ⟨hz.1,by
    have:=congrArg List.length hz.2;rw[i] at this;exact ab9.1 this⟩,q,G,y,q1,by rw[i,q2];exact A,q8,q9⟩) (by simp[Blk.nms])
  have S1:=S.step hI (W.lift L) (λk O=>q3 k (λek=>S.dis b q y (ek▸O))) a2 (S.sr.mono (Ey S.hr D y j q3 B) (λc u=>⟨trivial,by simpa using S.sr.nms c u⟩));obtain⟨S2,a4⟩:=S1.like' hI a5;exact⟨_,_,Γ,L,O,(W.lift L).trans a4,S2,Ak,by simp[PV.nms,D1]⟩
def ER{g:Nat}{args:List PV}{D i:Array Value}{k:PV->St σ->Option R}(A:Ask C I cl yh yv)(z:Γ.yv=yv)(h:Xo C cl yh g args st k=some r)(S:SI C I Γ L st i w)(q:CR Γ (A3 st.hp) w args D)(Q:∀c∈D1 args,c<st.hp.length) :
  Q6 C.P ((callFunc g D).run C.P w) (Aj1 C I Γ L st i w k r):=by
 unfold Xo at h;split at h
 ·rename_i B M;split at h
  ·rename_i l;obtain⟨ret,m,d,h⟩:=Ch h;have d:L8 (B (N5 st.hp args))=some (ret,m):=by
    cases J:C.xp g with
    | true=>rw[J] at d;exact(Cs d).1
    | false=>rw[J] at d;exact d
   obtain⟨n,p⟩:=C9 h;exact Am5 A.hI A.hX S q M d (ac2.1 l) (by simpa only[x6,aa6,c9] using n) p
  ·cases h
 ·split at h
  ·rename_i B b x O;obtain⟨F,j⟩:=Bt0 O;split at h
   ·rename_i v e W K P;obtain⟨n,p⟩:=C9 h;exact Am6 A.hI (A.hX.z g B F) S P q j n p
   ·cases h
  dsimp only at h;split at h
  ·rename_i H;split at h
   ·rename_i t;have key:CR Γ (A3 st.hp) w (cond (C.lend g) args (N5 st.hp args)) D/\∀c∈D1 (cond (C.lend g) args (N5 st.hp args)),c<st.hp.length:=by
     cases G:C.lend g with
     | true=>exact⟨q,Q⟩
     | false=>
      rw[G] at H;have T:Rx args=false:=by simpa using H
      obtain⟨U,V⟩:=q.snap_plain T;grind
    split at h
    ·rename_i B N;obtain⟨ret,m,d,h⟩:=Ch h;refine ES (s':=st.s) A.hI A.hX.y A.hy z S key.1 key.2 t ?_ h;simp only[clY,N];rw[show L8 (B _ (P9 st.hp _))=some (ret,m) from d]
    ·split at h
     ·rename_i ret m s' f;exact ES A.hI A.hC A.hy z S key.1 key.2 t f h
     ·cases h
   ·cases h
  ·split at h
   ·rename_i l;split at h
    ·rename_i ret m u f;split at h
     ·rename_i y;obtain⟨n,p⟩:=C9 h;exact Am3 A.hI A.hC S q (ac2.1 l) f y n p
     ·cases h
    ·cases h
   ·cases h
def CR.append{sh:Nat->Option Shp}{x y:List PV}{X Y:Array Value}(hx:CR Γ sh w x X)(hy:CR Γ sh w y Y):CR Γ sh w (x++y) (X++Y):=by
 refine⟨by rw[Array.size_append,x4,hx.1,hy.1],λj hj=>?_⟩;rw[x4] at hj;by_cases h:j<x.length
 ·obtain⟨U,e,k⟩:=hx.2 j h;grind
 ·obtain⟨U,e,k⟩:=hy.2 (j-x.length) (by omega);refine⟨U,by rw[Array.getElem?_append_right (by rw[hx.1];omega),hx.1];exact e,?_⟩;grind
def P4(x y:List PV):D1 (x++y)=D1 x++D1 y:=by
 induction x with
 | nil=>rfl
 | cons a x b=>simp[D1,b]
def VP.inv_fn'{sh:Nat->Option Shp}{V:Value}{f:Fn}{x y:List SV}(h:VP Γ sh w (.s (.fn f x y)) V):∃A B,V = .func f A B/\CR Γ sh w (x.map .s) A/\CR Γ sh w (y.map .s) B:=by
 have hs:=h.inv_s;cases hs with
 | fn _ _ _ A B As Bs hf hA hB ha hb hx hy=>
  refine⟨A,B,rfl,⟨by simpa using hA,λj hj=>?_⟩,⟨by simpa using hB,λj hj=>?_⟩⟩
  ·have hj':j<x.length:=by simpa using hj
   exact⟨As j,ha j hj',by rw[j5];exact .s _ _ (hx j hj')⟩
  ·have hj':j<y.length:=by simpa using hj
   exact⟨Bs j,hb j hj',by rw[j5];exact .s _ _ (hy j hj')⟩
def VP.inv_fnr'{sh:Nat->Option Shp}{V:Value}{f:Fn}{x y:List PV}(h:VP Γ sh w (.fnr f x y) V):∃A B,V = .func f A B/\CR Γ sh w x A/\CR Γ sh w y B:=by
 cases h with
 | fnr _ _ _ A B As Bs hf hA hB ha hb hx hy=>exact⟨A,B,rfl,⟨hA,λj hj=>⟨As j,ha j hj,hx j hj⟩⟩,⟨hB,λj hj=>⟨Bs j,hb j hj,hy j hj⟩⟩⟩
def UF{sh:Nat->Option Shp}:∀{args:List PV} {Vs:List Value},Lm args=true->args.length=Vs.length->(∀j (h:j<args.length),∃U,Vs[j]? = some U/\VP Γ sh w (args[j]) U)->∀j (h:j<args.length),∃U,Vs[j]? = some U/\VP Γ (λ_=>none) w (args[j]) U
 | [],Vs,_,_,_=>λj h=>by simp at h
 | v::r,[],_,n,_=>by simp at n
 | v::r,U::z,c,n,y=>by
  have t:VP Γ sh w v U:=by
   obtain⟨q,e,k⟩:=y 0 (by simp);grind
  have B:∀j (h:j<r.length),∃U,z[j]? = some U/\VP Γ sh w (r[j]) U:=λj d=>by
   obtain⟨q,e,k⟩:=y (j+1) (by simpa using d);grind
  have key:Lm r=true/\VP Γ (λ_=>none) w v U:=by
   unfold Lm at c;split at c
   ·grind
   ·rename_i m;cases m;exact⟨c,.s _ _ t.inv_s⟩
   ·rename_i l G m;cases m;simp only[c9,x5] at c;obtain⟨⟨g,p⟩,c⟩:=c;refine⟨c,?_⟩;obtain⟨A,rfl,hA,i⟩:=t.inv_agg;refine VP.mk_agg hA λj d=>?_
    obtain⟨U,e,k⟩:=i j d;refine⟨U,e,?_⟩;have:(l[j]).nms=[]:=by
     have:∀(l:List PV) g,Qh l=some g->∀v∈l,v.nms=[]:=by
      intro l
      induction l with
      | nil=>intro _ _ v f;simp at f
      | cons x l F=>
       intro g h v f;simp only[Qh] at h;split at h
       ·rename_i a b u D;rcases y8.1 f with rfl|f
        ·unfold PV.sv? at u;split at u
         ·rfl
         ·rfl
         grind
        grind
       grind
     exact this l g p _ (j4 d)
    exact k.mono (Γ':=Γ) (ok:=λ_=>False) ⟨λ_ _=>rfl,λ_ h=>h,λ_ h=>h.elim,λ_ h=>h.elim,λ_ _ h=>h.elim,rfl⟩ (by rw[this];simp)
   grind
  intro j d;cases j with
  | zero=>exact⟨U,rfl,by simpa using key.2⟩
  | succ j=>
   obtain⟨q,e,k⟩:=UF key.1 (by simpa using n) B j (by simpa using d);grind
def Am4{f:PV}{D:Value}{args:List PV}{Vs n:Array Value}{k:PV->St σ->Option R}(A:Ask C I cl yh yv)(u:Γ.yv=yv)(h:ET C cl yh f args st k=some r)(S:SI C I Γ L st n w)(K:VP Γ (A3 st.hp) w f D)(p:∀c∈f.nms,c<st.hp.length)
  (i:CR Γ (A3 st.hp) w args Vs) (Y:∀c∈D1 args,c<st.hp.length) :
  Q6 C.P ((do let d <-o8 D Vs;invoke d.target d.args).run C.P w) (Aj1 C I Γ L st n w k r):=by
 unfold ET at h;split at h
 ·rename_i g first v;obtain⟨F,B,rfl,G,H⟩:=K.inv_fn';have:=ER A u h S ((G.append i).append H) (λc i=>by
   rw[P4,P4,MW,MW] at i;simp only[ae0,ab4] at i;exact Y c i)
  simpa[o8,invoke] using this
 ·rename_i g first v;obtain⟨F,B,rfl,G,H⟩:=K.inv_fnr';have:=ER A u h S ((G.append i).append H) (λc i=>by
   rw[P4,P4] at i;simp only[w8] at i;simp only[PV.nms,w8] at p;rcases i with(i|i)|i
   ·exact p c (.inl i)
   ·exact Y c i
   ·exact p c (.inr i))
  simpa[o8,invoke] using this
 ·split at h
  ·rename_i z;unfold ydK at h;split at h
   ·rename_i b s' P;have J:D=yv:=by
     cases K;exact u
    subst J;refine(A.hy args st.s b s' P z Γ L w Vs S.inv S.hr.stlt ⟨i.1,?_⟩).mono ?_
    ·intro j N;obtain⟨U,e,q⟩:=UF (Vs:=Vs.toList) z (by simpa using i.1.symm) (λj N=>by obtain⟨U,e,k⟩:=i.2 j N;exact⟨U,by simpa using e,k⟩) j N;exact⟨U,by simpa using e,q⟩
    ·rintro V w' ⟨rfl,St',W,hi,Q,Z,q3,T,q5,q6,q7,q8,q9⟩;have t:=A.hI.foot _ _ _ _ S.inv;have m:∀b g,Γ.nm b=some g->w'.heap[g]? = w.heap[g]?:=λb g l=>T g (S.hr.lt b g l).2.1 (S.dis b g l)
     have y:∀g,Γ.St g->w'.heap[g]? = w.heap[g]?:=λg l=>T g (S.hr.stlt g l) (λx=>(t g x).2 l)
     let Γ2:Ctx:={ Γ with St:=St' }
     have M:Am Γ (A3 st.hp) w Γ2 (A3 st.hp) w' (λ_=>True):=⟨y,Q,λ_ _=>rfl,λ_ _=>rfl,λb g _ l=>F3 (m b g l),rfl⟩
     have O:HR Γ2 st.hp w':=by
      refine⟨S.hr.inj,λb g l=>?_,q9,S.hr.nms,λb X=>(S.hr.blk b X).mono M rfl (λg l=>m b g l) (λ_ _=>trivial)⟩;have:=S.hr.lt b g l;refine⟨this.1,by omega,λh=>?_⟩;rcases Z g h with h|h
      ·exact this.2.2 h
      ·omega
     refine⟨_,_,Γ2,W,h,⟨q6,q7,q8,q5,Q,Z,λb g l=>.inl ⟨(S.hr.lt b g l).1,l⟩,q3,λg l _ x=>T g l x,rfl,p5 _,λb X _=>⟨rfl,rfl,λg l=>F3 (m b g l)⟩⟩,
      ⟨O,S.sr.mono M (λc i=>⟨trivial,S.sr.nms c i⟩),S.g.mono y Q,hi,λb g l x=>?_⟩,.bool _,by simp[PV.nms]⟩
     rcases q3 g x with h|h
     ·exact S.dis b g l h
     ·have:=(S.hr.lt b g l).2.1;omega
   ·cases h
  ·cases h
 ·cases h
def Nxt(C:Cfg)(I:σ->(Nat->Prop)->(Nat->Prop)->World->Prop)(Γ:Ctx)(L:Nat->Prop)(H:List Blk)(w:World)(ds:List Deferred)(k:St σ->Option R)(r:R)(next:Act->World->Prop):Prop:=
 ∀b d w' Γ' c,k b=some r->Stp C Γ H w L Γ' b.hp w' c->SI C I Γ' c b d.tmps w'->d.defers=ds->next d w'
def put_defers(a:Act)(d:Option Tmp)(v:Value):(a.put d v).defers=a.defers:=by cases d<;>rfl
def Ac7{ro:Option Nat}{n:Nat}{k:St σ->Option R}{next:Act->World->Prop}{Q:Exit->Act->World->Prop}(A:Ask C I cl yh yv)(u:Γ.yv=yv)(h:opK C cl yh o st k=some r)(S:SI C I Γ L st a.tmps w)(hN:Nxt C I Γ L st.hp w a.defers k r next) :
  o.wpIn (I4 ro) n C.P a w next Q:=by
 refine⟨λ_ _=>trivial,?_⟩;have t:∀c,o.op≠.defer c:=λc e=>by simp[opK,e] at h
 rw[y9 _ _ _ t];by_cases i:CQ o.op=true
 ·obtain⟨c,g⟩:∃c,o.op = .call c:=by
   unfold CQ at i;split at i
   ·exact⟨_,‹_›⟩
   ·cases i
  have p:=h;simp only[opK,g] at p;split at p
  ·rename_i b D;rw[g] at i;simp[CQ,D] at i
  ·rename_i f H;obtain⟨F,q⟩:=S.list c.args;have:=Am4 A u p S (S.opnd f).1 (S.opnd f).2 F q;have G:execOp a.eval o=(do let d <-o8 (a.eval f) (c.args.map a.eval);invoke d.target d.args):=by simp only[execOp,g,resolve,H]
   rw[G];refine this ro n o a next Q ?_
   rintro V w' ⟨v,m,Γ',x,J,K,l,M,N⟩;exact hN _ (a.put o.dst V) w' Γ' x J K ⟨l.hr,l.sr.put (ds:=a.defers) o M N,l.g,l.inv,l.dis⟩ (put_defers _ _ _)
  ·cases p
 ·obtain⟨V,w',Γ',m,y,j,z,B⟩:=As7 A.hI (by simpa using i) h S;have q:=hN m (a.put o.dst V) w' Γ' L y B z (put_defers _ _ _);rcases j with j|⟨rfl,j⟩
  ·rw[j];exact q
  ·rw[j];exact q
def SR.set{Γ:Ctx}{H:List Blk}{sl:List PV}{tmps:Array Value}(h:SR Γ H w sl tmps)(g:Nat){v:PV}(hv:∀V,tmps[g]? = some V->VP Γ (A3 H) w v V)(hn:∀c∈v.nms,c<H.length):SR Γ H w (sl.set g v) tmps:=by
 refine⟨by simpa using h.size,λc hc=>?_,λi hi=>?_⟩
 ·obtain⟨j,hj,hc⟩:=C8.1 hc;rw[List.getElem_set] at hc;split at hc
  ·grind
  ·exact h.nms c (C8.2 ⟨j,by simpa using hj,hc⟩)
 ·have hi':i<sl.length:=by simpa using hi
  obtain⟨U,e1,e2⟩:=h.slot i hi';grind
def Ac8{F:Option Nat}{n:Nat}{Q:Exit->Act->World->Prop}{all:Array Oper}(A:Ask C I cl yh yv):∀(c:List Oper) {Γ:Ctx} {L:Nat->Prop} {st:St σ} {a:Act} {w:World} {k:St σ->Option R},Γ.yv=yv->Gg C cl yh all c st k=some r->SI C I Γ L st a.tmps w->
  Nxt C I Γ L st.hp w a.defers k r (λt w'=>Q .normal t w')->wpListIn (I4 F) n C.P all Q c a w
 | [],Γ,L,st,a,w,k,hyv,h,S,hN=>hN st a w Γ L h (Stp.refl S.hr) S rfl
 | o::c,Γ,L,st,a,w,k,hyv,h,S,hN=>by
  have run:∀{st:St σ},SI C I Γ L st a.tmps w->Nxt C I Γ L st.hp w a.defers k r (λt w'=>Q .normal t w')->opK C cl yh o st (λl=>Gg C cl yh all c l k)=some r->o.wpIn (I4 F) n C.P a w (wpListIn (I4 F) n C.P all Q c) Q:=λS hN h=>
   Ac7 A hyv h S λl t w' Γ' Φ' W N X Y=>Ac8 A c (N.yv.trans hyv) W X λJ P w2 K M k1 k2 k3 k4=>hN J P w2 K M k1 (N.trans k2) k3 (k4.trans Y)
  have skip:∀{st:St σ},SI C I Γ L st a.tmps w->Nxt C I Γ L st.hp w a.defers k r (λt w'=>Q .normal t w')->Gg C cl yh all c { st with sl:=Cf o.dst (.tup []) st.sl } k=some r->wpListIn (I4 F) n C.P all Q c (a.put o.dst undef) w:=fun {st} S hN h=>
   Ac8 A c (st:={ st with sl:=Cf o.dst (.tup []) st.sl }) hyv h (S.put (o:=o) Ak (by simp[PV.nms,D1])) (by rw[put_defers];exact hN)
  simp only[wpListIn];simp only[Gg] at h;split at h
  ·rename_i u;have hw:o0 o (yielded all a.tmps)=true:=by simp[o0,u]
   grind
  ·rename_i j m u;split at h
   ·rename_i g x;have z:∀b,a.tmps[g]? = some (.bool b)->yielded all a.tmps j=some b:=λb e=>by simp[yielded,x,e]
    have y:(∀b,a.tmps[g]?≠some (.bool b))->yielded all a.tmps j=none:=λa1=>by
     simp only[yielded,x,j1]
    have d:∀v,st.sl.getD g (.tup [])=v->∀V,a.tmps[g]? = some V->VP Γ (A3 st.hp) w v V:=λv hv V hV=>by
     have p:g<st.sl.length:=by rw[<-S.sr.size];exact(o7.1 hV).1
     obtain⟨U,G,T⟩:=S.sr.slot g p;grind
    split at h
    ·rename_i b D;have p:g<st.sl.length:=p7 λa0=>by grind
     obtain⟨U,G,T⟩:=S.sr.slot g p;have Z:=(d _ D U G).inv_bool;subst Z;have f:yielded all a.tmps j=some b:=z b G;have O:SI C I Γ L { st with sl:=st.sl.set g (.s (.bool b)) } a.tmps w:=⟨S.hr,S.sr.set g (d _ D) (by simp[PV.nms]),S.g,S.inv,S.dis⟩
     have q:(if (b==m)=true then opK C cl yh o { st with sl:=st.sl.set g (.s (.bool b)) } (λl=>Gg C cl yh all c l k) else Gg C cl yh all c { st with sl:=Cf o.dst (.tup []) (st.sl.set g (.s (.bool b))) } k)=some r:=by
      cases b<;>exact h
     by_cases i:b=m
     ·rw[ac (by simpa using i)] at q;rw[ac (by simp[o0,u,f,i])];grind
     ·rw[ae (by simpa using i)] at q;rw[ae (by simp[o0,u,f,i])];exact⟨λ_ _=>trivial,skip O hN q⟩
    ·rename_i D;have f:yielded all a.tmps j=none:=y λb H=>by
      obtain⟨B,e,_⟩:=(d _ D _ H).inv_tup;cases e
     rw[ae (by simp[o0,u,f])];exact⟨λ_ _=>trivial,skip S hN h⟩
    grind
   ·cases h
end
section quiet
variable {F : Fence} {n : Nat} {P : Program} {L : Array Oper} {Y : aa0} {K : World -> Prop}
def Br9{c:Code}{Q:Exit->Act->World->Prop}{a:Act}{w:World}(J:Nat->Act->World->Prop)(N:Nat)(u:J N a w)
  (round:∀m a w,J m a w->c.wpIn F n P (Exit.then (λq w'=>∃D,D<m/\J D q w') Q) a w):(Code.loop c).wpIn F n P Q a w:=by
 intro b k y C z B;have key:∀j a w,J j a w->∃e q w',Q e q w'/\ArrivesIn (Machine.fenced P F) P (lone (b.atR a (.code c::.inLoop c::k)) y w) b k y e q w':=by
  intro j
  induction j using Nat.strongRecOn with
  | _ j H=>
   intro a w G;obtain⟨e,f,g,i,d⟩:=round j a w G b (.inLoop c::k) y C z B;cases e with
   | normal=>
    obtain⟨m,A,o⟩:=i;obtain⟨t,r,v,p,h⟩:=H m A f g o;exact⟨t,r,v,p,.of_steps (ah8 d (.one (fenced_calm z B rfl) stepR_inLoop)) h⟩
   | exit id=>exact⟨_,f,g,i,.pass (x:=.inLoop c) rfl (λ_ _=>.inl (by simp)) d⟩
   | goto l=>exact⟨_,f,g,i,.pass (x:=.inLoop c) rfl (λ_ _=>.inl (by simp)) d⟩
   | ret=>exact⟨_,f,g,i,.pass (x:=.inLoop c) rfl (λ_ _=>.inl (by simp)) d⟩
   | panic I=>exact⟨_,f,g,i,.pass (x:=.inLoop c) rfl (λ_ _=>.inl (by simp)) d⟩
   | outgrown=>exact⟨_,f,g,i,.pass (x:=.inLoop c) rfl (λ_ _=>.inl (by simp)) d⟩
 obtain⟨e,q,w',i,d⟩:=key N a w u;exact⟨e,q,w',i,.of_steps (.one (fenced_calm z B rfl) stepR_loop) d⟩
def Cu{b:Frame}{a:Act}{k:List Item}{d:List Frame}{w:World}{c:Code}:step P (lone (b.atR a (.code (.scope c)::k)) d w) = .next (lone (b.atR a (.code c::.inScope c::k)) d w):=
 step_lone_go (by simp[stepG,stepG.exec,Frame.atR])
def QB{b:Frame}{a:Act}{k:List Item}{d:List Frame}{w:World}{c:Code}:step P (lone (b.atR a (.inScope c::k)) d w) = .next (lone (b.atR a k) d w):=
 step_lone_go (by simp[stepG,stepG.exec,Frame.atR])
def A02{c:Code}{Q:Exit->Act->World->Prop}{a:Act}{w:World}(h:c.wpIn F n P (λe a w=>(∀l,e≠.goto l)/\Q e a w) a w):(Code.scope c).wpIn F n P Q a w:=by
 intro b k u t o q;have i:(lone (b.atR a (.code (.scope c)::k)) u w).fenced P F:=fenced_calm o q rfl;obtain⟨e,f,g,⟨z,j⟩,d⟩:=h b (.inScope c::k) u t o q;cases e with
 | normal=>exact⟨.normal,f,g,j,.head i Cu (ah8 d (.one (fenced_calm o q rfl) QB))⟩
 | exit id=>
  have v:exitTo id (.inScope c::k)=exitTo id k:=by simp[exitTo]
  exact⟨.exit id,f,g,j,λA p=>.head i Cu (d.1 A (by rw[v];exact p)),
   λr p=>let⟨m,x,y⟩:=d.2 r (by rw[v];exact p);⟨m,x,.head i Cu y⟩⟩
 | goto l=>exact absurd rfl (z l)
 | ret=>exact⟨_,f,g,j,.of_steps (.one i Cu) d⟩
 | panic B=>exact⟨_,f,g,j,.of_steps (.one i Cu) d⟩
 | outgrown=>exact⟨_,f,g,j,.of_steps (.one i Cu) d⟩
end quiet
section
variable {Q R : Type} {r : R} {C : Cfg} {I : Q -> (Nat -> Prop) -> (Nat -> Prop) -> World -> Prop} {Γ : Ctx} {Y : Nat -> Prop} {L : St Q} {a : Act} {w : World} {J : G4} {W : Yh Q} {U : Value} {o : Oper}
def SI.like(hI:HI I)(S:SI C I Γ Y L a.tmps w){w':World}(h:N9 w w'):SI C I Γ Y L a.tmps w'/\Stp C Γ L.hp w Y Γ L.hp w' Y:=
 S.like' hI h
def RK:PV->Value
 | .s (.bool b)=>.bool b
 | .s (.int k n)=>.int k n
 | .s (.str l)=>.string ⟨l.toArray⟩
 | _=>undef
def Dc0:PV->Value
 | .tup l=>.tuple (l.map RK).toArray
 | v=>RK v
def Ao1{Γ:Ctx}{sh:Nat->Option Shp}{w:World}{v:PV}{V:Value}(h:VP Γ sh w v V)(b:v.det1=true):V=RK v:=by
 cases h with
 | s x V c=>
  cases c<;>simp[PV.det1,SV.det] at b<;>simp[RK]
 | _=>simp[PV.det1] at b
def Dc1{Γ:Ctx}{sh:Nat->Option Shp}{w:World}{v:PV}{V:Value}(h:VP Γ sh w v V)(b:v.det=true):V=Dc0 v:=by
 cases h with
 | s x V i=>exact Ao1 (sh:=sh) (.s x V i) b
 | tup l A k hA f g=>
  simp only[PV.det,j6] at b;simp only[Dc0]
  congr 1
  apply Array.ext
  ·simp[hA]
  ·intro j d m;have c:j<l.length:=by rw[<-hA];exact d
   have e:=f j c;rw[ab1 d] at e;simp only[j8] at e;simp only[List.getElem_toArray,j5];rw[e];exact Ao1 (g j c) (b _ (j4 c))
 | _=>simp[PV.det] at b
def ZO{Γ:Ctx}{sh:Nat->Option Shp}{w:World}{v:PV}(b:v.det1=true):VP Γ sh w v (RK v)/\v.nms=[]:=by
 cases v with
 | s x=>
  cases x<;>simp[PV.det1,SV.det] at b
  ·exact⟨.s _ _ (.bool _),rfl⟩
  ·exact⟨.s _ _ (.int _ _),rfl⟩
  ·rename_i l;have:=VS.str (St:=Γ.St) (w:=w) (⟨l.toArray⟩:ByteArray);simp only at this;exact⟨.s _ _ this,rfl⟩
 | _=>simp[PV.det1] at b
def Dx3{Γ:Ctx}{sh:Nat->Option Shp}{w:World}{v:PV}(b:v.det=true):VP Γ sh w v (Dc0 v)/\v.nms=[]:=by
 cases v with
 | s x=>exact ZO (v:=.s x) b
 | tup l=>
  simp only[PV.det,j6] at b;refine⟨VP.mk_tup (by simp) λj e=>⟨RK (l[j]),by simp[e],(ZO (b _ (j4 e))).1⟩,?_⟩;simp only[PV.nms];rw[x3];intro c d;obtain⟨j,e,d⟩:=C8.1 d;rw[(ZO (Γ:=Γ) (sh:=sh) (w:=w) (b _ (j4 e))).2] at d;simp at d
 | _=>simp[PV.det] at b
def Dx4{v:PV}(b:v.det=true)(f:Nat->Nat):v.rn f=v:=by
 cases v with
 | s x=>rfl
 | tup l=>
  simp only[PV.det,j6] at b;simp only[PV.rn]
  congr 1
  induction l with
  | nil=>rfl
  | cons a r d=>
   simp only[rnL];have c:=b a (by simp);have:a.rn f=a:=by cases a<;>simp[PV.det1] at c<;>rfl
   grind
 | _=>simp[PV.det] at b
def Bu{P:Program}{g:Nat}{Vs:Array Value}{w:World}(h:CY P g=true):(callFunc g Vs).run P w = .ok (.enter g Vs) w:=by
 unfold CY at h;split at h
 ·rename_i fn e;simp only[c9,aa6,x5] at h;obtain⟨⟨c,d⟩,f⟩:=h
  have b:¬ fn.name = "runtime.NumGoroutine":=by simpa using f
  simp[callFunc,e,d,b,aa8]
 ·cases h
def AV{P:Program}{ro:Option Nat}{n f:Nat}{d:Array Value}{w:World}{R:Value->World->Prop}(b:(callFunc f d).run P w = .ok (.enter f d) w)(h:Q6 P ((callFunc f d).run P w) R):CallsIn (I4 ro) (n-1) P f d w λe w'=>∃V,e = .returned V/\R V w':=by
 rw[b] at h;have:=h ro n { op:=.move (.const undef),dst:=some 0,guard:=none,type:=0,after:=#[],pos:=default } { tmps:=#[undef],defers:=[] } (λi w'=>∃V,i.tmps[0]? = some V/\R V w') (λ_ _ _=>False) (λV w' k=>⟨V,by simp[ah9],k⟩);rw[Oper.uponIn_enter] at this;refine this.2.mono λe w' g=>?_
 cases e with
 | returned v=>
  obtain⟨V,j,l⟩:=g;simp[ah9] at j;grind
 | panicked c=>exact g.elim
 | outgrown=>obtain⟨_,_,h⟩:=g;exact h.elim
def Cb2{ro:Option Nat}{n:Nat}{k:St Q->Option R}(X:HI I)(Z:XOK C)(u:Mo C o.op=true)(h:opK C J W o L k=some r)(S:SI C I Γ Y L a.tmps w) :
  ∃V v,k v=some r/\(∀w',N9 w w'->o.quietAtIn (I4 ro) n C.P a (N9 w') w' V)/\SI C I Γ Y v (a.put o.dst V).tmps w/\Stp C Γ L.hp w noΦ Γ v.hp w noΦ:=by
 obtain⟨c,q⟩:∃c,o.op = .call c:=by
  unfold Mo at u;grind
 rw[q] at u;simp only[Mo] at u;split at u
 ·rename_i g j;simp only[c9,x5] at u;obtain⟨⟨M,pf,m⟩,l⟩:=u;simp only[opK,q,j,opnd,ET,Xo,m,M,aa,ac8,ae0,ab4] at h;split at h
  ·rename_i G;obtain⟨ret,Hc,t,h⟩:=Ch h;obtain⟨t,f,rfl⟩:=Cs t;obtain⟨h1,N⟩:=C9 h;simp only[ac8,ab4,Dx4 f] at N;have O:=Dx3 (Γ:=Γ) (sh:=A3 L.hp) (w:=w) f;refine⟨Dc0 ret,_,N,λw' K=>?_,S.put O.1 (by rw[O.2];simp),Stp.refl S.hr⟩;obtain⟨A,_⟩:=S.like X K;obtain⟨hc,hn⟩:=A.list c.args;have B:=hc.snap A.hr;let Γc:Ctx:={ Γ.all with nm:=λ_=>none }
   have D:CR Γc (A3 []) w' (N5 L.hp (c.args.toList.map (opnd C L.sl))) (c.args.map a.eval):=B.bare (ac2.1 G) (λ_ h=>h) rfl;have p:=Z.x g pf _ ret [] m t Γc w' _ (λ_=>rfl) (Nl (λ_=>rfl) (A39 A)) (A.g.mono (λ_ _=>rfl) (λ_ h=>ab8 h)) D;have i:=AV (ro:=ro) (n:=n) (Bu l) p;have F:a.eval (.func g) = .func (.func g) #[] #[]:=rfl;have he:execOp a.eval o=(do let d <-o8 (a.eval (.func g)) (c.args.map a.eval);invoke d.target d.args):=by simp only[execOp,q,resolve,j]
   unfold aa7;rw[he,F];have y:(do let d <-o8 (Value.func (.func g) #[] #[]) (c.args.map a.eval);invoke d.target d.args:Sem Next).run C.P w' = .ok (.enter g (c.args.map a.eval)) w':=by
    have:=Bu (P:=C.P) (Vs:=c.args.map a.eval) (w:=w') l;simpa[o8,invoke] using this
   rw[y];refine⟨rfl,λh=>(by simp[I4,ag7] at h),i.mono ?_⟩;rintro e a0 ⟨V,rfl,Γ1,Φ1,z,T,H,_⟩;have:=Dc1 H f;subst this;exact⟨rfl,⟨λg hg=>z.frame g hg (λb=>by simp[Γc]) (λx=>x),z.size⟩,z.os,z.tape,z.output⟩
  ·cases h
 ·cases u
def Out.exit':Out->Exit
 | .normal=>.normal
 | .exit id=>.exit id
 | .ret=>.ret
end
def XS{a b:Nat}(h:a<=b):s8 a b=true:=by rw[Nat.ble_eq];exact h
def CD{a b:Nat}(h:s8 a b=true):a<=b:=by rw[Nat.ble_eq] at h;exact h
def N9.refl(w:World):N9 w w:=⟨⟨λ_ _=>rfl,p5 _⟩,rfl,rfl,rfl⟩
def N9.trans{a b c:World}(h:N9 a b)(k:N9 b c):N9 a c:=
 ⟨⟨λg hg=>(k.1.1 g (k9 hg h.1.2)).trans (h.1.1 g hg),p4 h.1.2 k.1.2⟩,k.2.1.trans h.2.1,k.2.2.1.trans h.2.2.1,k.2.2.2.trans h.2.2.2⟩
def Pq(D:Nat->Prop)(w w':World):Prop:=((∀g,g<w.heap.size->¬D g->w'.heap[g]? = w.heap[g]?)/\w.heap.size<=w'.heap.size)/\w'.os=w.os/\w'.tape=w.tape/\w'.output=w.output
def N9.x{D:Nat->Prop}{a b:World}(h:N9 a b):Pq D a b:=⟨⟨λg hg _=>h.1.1 g hg,h.1.2⟩,h.2⟩
def Pq.trans{D:Nat->Prop}{a b c:World}(h:Pq D a b)(k:Pq D b c):Pq D a c:=
 ⟨⟨λg hg hd=>(k.1.1 g (k9 hg h.1.2) hd).trans (h.1.1 g hg hd),p4 h.1.2 k.1.2⟩,k.2.1.trans h.2.1,k.2.2.1.trans h.2.2.1,k.2.2.2.trans h.2.2.2⟩
def RQ(D:Nat->Prop)(q:Nat)(a b:World):Prop:=(q=1->N9 a b)/\(q=2->Pq D a b)
def RQ.of{D:Nat->Prop}{q:Nat}{a b:World}(h:N9 a b):RQ D q a b:=⟨λ_=>h,λ_=>h.x⟩
def RQ.trans{D:Nat->Prop}{q:Nat}{a b c:World}(h:RQ D q a b)(k:RQ D q b c):RQ D q a c:=⟨λe=>(h.1 e).trans (k.1 e),λe=>(h.2 e).trans (k.2 e)⟩
def qK(k:Nat)(f:Bool):Nat:=cond (ab6 k 1) (cond f 2 1) 0
section
variable {F : Fence} {n : Nat} {P : Program} {L : Array Oper} {Y : aa0} {D : Nat -> Prop} {far : Nat -> Bool}
def QF:Exit->Act->World->Prop:=λ_ _ _=>False
def Dp5{o:Oper}{a:Act}{w:World}{N:Act->World->Prop}{Q:Exit->Act->World->Prop}(h:o.wpIn F n P a w N QF):o.wpIn F n P a w N Q:=by
 unfold ad6 at *;refine⟨h.1,?_⟩;have h:=h.2;generalize (o.semAt F.round a.eval).run P w=r at *;cases r with
 | ok x w'=>
  cases x<;>simp only[z7] at h ⊢
  case value=>exact h
  case skip=>exact h
  case defer=>exact h
  case enter=>exact⟨h.1,ae8 h.2 λe d b=>by
   cases e with
   | returned u=>exact b
   | panicked c=>exact b.elim
   | outgrown=>obtain⟨_,_,h⟩:=b;exact h.elim⟩
  case row=>exact h
  case round=>exact⟨h.1,af1 h.2 λe d b=>by
   cases e with
   | returned u=>exact b
   | panicked c=>exact b.elim
   | outgrown=>obtain⟨_,_,h⟩:=b;exact h.elim⟩
 | halt x w'=>
  cases x<;>simp only[z7] at h ⊢
  case panic=>exact h.elim
def Ck4{i:Nat}{a:Act}{w:World}{N:Act->World->Prop}{Q:Exit->Act->World->Prop}(h:wpOpIn F n P L QF i N a w):wpOpIn F n P L Q i N a w:=by
 unfold wpOpIn at *;split
 ·grind
 ·rename_i o b;simp only[b] at h;split
  ·rename_i c;simp only[c,if_true] at h;exact Dp5 h
  grind
def YQ(F:Fence)(n:Nat)(P:Program)(L:Array Oper)(D:Nat->Prop)(q:Nat)(b:World)(o:Oper)(v:Value)(a:Act):Prop:=
 o.askedIn F P a (λw=>RQ D q b w)/\
 ((o0 o (yielded L a.tmps)=true/\∀w,RQ D q b w->o.quietAtIn F n P a (N9 w) w v)\/
  (o0 o (yielded L a.tmps)=false/\v=undef))
def YQ.step{q:Nat}{w0 w1:World}{o:Oper}{v:Value}{a:Act}(h:YQ F n P L D q w0 o v a)(hl:RQ D q w0 w1):YQ F n P L D q w1 o v a:=
 ⟨λw hw=>h.1 w (hl.trans hw),h.2.imp (λh=>⟨h.1,λw hw=>h.2 w (hl.trans hw)⟩) (λh=>h)⟩
def YQ.of_same{q:Nat}{w0:World}{o:Oper}{v:Value}{a a':Act}(hy:YQ F n P L D q w0 o v a)(he:execOp a'.eval o=execOp a.eval o)
  (hw:o0 o (yielded L a'.tmps)=o0 o (yielded L a.tmps)) (hb:∀w,o.about P w a'.eval=o.about P w a.eval):YQ F n P L D q w0 o v a':=by
 unfold YQ aa7 Oper.askedIn at *;rw[he,hw];exact⟨λw hc f hf=>hy.1 w hc f (by rw[<-hb w];exact hf),hy.2⟩
def YQ.wpOpIn{q:Nat}{w0 w:World}{i:Nat}{o:Oper}{v:Value}{a:Act}(hi:L[i]? = some o)(hnd:∀c,o.op≠.defer c)(hy:YQ F n P L D q w0 o v a)(hw:RQ D q w0 w){K:Act->World->Prop}(h:∀w',N9 w w'->K (a.put o.dst v) w'):wpOpIn F n P L QF i K a w:=by
 unfold Go.wpOpIn;simp only[hi];rcases hy.2 with⟨hwt,hv⟩|⟨hwt,rfl⟩
 ·simp only[hwt,if_true];have h3:=hv w hw;unfold aa7 at h3;unfold ad6;refine⟨hy.1 w hw,?_⟩;rw[y9 _ _ _ hnd];generalize (execOp a.eval o).run P w=r at *;cases r with
  | ok x w'=>
   cases x<;>simp only[af8] at h3<;>simp only[z7]
   case value u=>
    obtain⟨e1,e2⟩:=h3;rw[e1,e2];exact h _ (N9.refl w)
   case skip=>
    obtain⟨e1,e2⟩:=h3;rw[e1,<-e2];exact h _ (N9.refl w)
   case enter f args=>
    obtain⟨e1,hd,hc⟩:=h3;rw[e1];exact⟨hd,hc.mono λe w'' ⟨he,hw''⟩=>by subst he;exact h _ hw''⟩
  | halt x w'=>simp only[af8] at h3
 ·simp only[hwt,aa1,if_false];exact⟨hy.1 w hw,h _ (N9.refl w)⟩
def A03{q:Nat}{A:World}{j:Nat}{i k:Oper}{v:Value}(Q:L[j]? = some k)(H:i.apart L k=true)
  (J:∀C b,i.op≠.select C b) (M:∀C b,k.op≠.select C b) (y:∀c,k.op≠.defer c) {K:Act->World->Prop} {a:Act} {w:World}
  (o:YQ F n P L D q A i v a) (h:wpOpIn F n P L QF j K (a.put i.dst v) w) :
  wpOpIn F n P L QF j (λO w'=>YQ F n P L D q A i v O/\K (O.put i.dst v) w') a w:=by
 obtain⟨B,p,G⟩:=Oper.apart_spec H;have g:∀(a:Act),YQ F n P L D q A i v a->∀u,YQ F n P L D q A i v (a.put k.dst u):=λa o u=>
  o.of_same (execOp_put i J a k.dst u G) (wanted_put i a k.dst u G) (λw=>about_put i w a k.dst u G)
 unfold wpOpIn at *;simp only[Q] at *;rw[wanted_put k a i.dst v B,about_put k w a i.dst v B] at h;split
 ·rename_i N;simp only[N,if_true] at h;unfold ad6 at *;rw[about_put k w a i.dst v B] at h;refine⟨h.1,?_⟩;have h:=h.2;rw[y9 _ _ _ y,execOp_put k M a i.dst v B] at h;rw[y9 _ _ _ y];have I:∀d w',(execOp a.eval k).run P w≠.ok (.defer d) w'\/True:=λ_ _=>.inr trivial
  generalize R:(execOp a.eval k).run P w=r at *;cases r with
  | ok x w'=>
   cases x<;>simp only[z7] at h ⊢
   case value u=>exact⟨g a o u,by rw[<-aa9 a v u p];exact h⟩
   case skip=>exact⟨g a o _,by rw[<-aa9 a v undef p];exact h⟩
   case defer d=>
    have t:∀d,YQ F n P L D q A i v { a with defers:=d::a.defers }:=λd=>o.of_same rfl rfl (λ_=>rfl)
    refine⟨g _ (t d) _,?_⟩;rw[<-aa9 _ v undef p,<-Act.put_defers];exact h
   case enter f args=>
    refine⟨h.1,ae8 h.2 λe z m=>?_⟩;cases e with
    | returned u=>exact⟨g a o u,by rw[<-aa9 a v u p];exact m⟩
    | panicked c=>exact m
    | outgrown=>exact m
   case row row args=>exact⟨h.1,ai1 h.2 λu z m=>⟨g a o u,by rw[<-aa9 a v u p];exact m⟩⟩
   case round l f tmps assign body=>
    refine⟨h.1,af1 h.2 λe z m=>?_⟩;cases e with
    | returned u=>exact⟨g a o u,by rw[<-aa9 a v u p];exact m⟩
    | panicked c=>exact m
    | outgrown=>exact m
  | halt x w'=>
   cases x<;>simp only[z7] at h ⊢
   case panic u=>exact h
 ·rename_i N;simp only[N] at h;exact⟨h.1,g a o _,by rw[<-aa9 a v undef p];exact h.2⟩
def wpR(F:Fence)(n:Nat)(P:Program)(Y:aa0)(L:Array Oper)(D:Nat->Prop)(d c:Nat->Bool)(b:Act->World->Prop):Nat->Array Bool->Act->World->Prop
 | 0,listed,a,w=>o5 Y L listed=[]/\b a w
 | f+1,listed,a,w=>(o5 Y L listed=[]->b a w)/\
  ∀i∈o5 Y L listed,wpOpIn F n P L QF i (λe w'=>(d i=false->N9 w w')/\(c i=true->Pq D w w')/\∀w1,N9 w' w1->wpR F n P Y L D d c b f (listed.setIfInBounds i true) e w1) a w
def Pn{wr d:Nat->Bool}{Q:Exit->Act->World->Prop}{Qn:Act->World->Prop}(b:∀a w,Qn a w->Q .normal a w):∀(f:Nat) (listed:Array Bool) (a:Act) (w:World),wpR F n P Y L D wr d Qn f listed a w->wpAnyIn F n P Y L Q f listed a w
 | 0,_,_,_,h=>⟨h.1,b _ _ h.2⟩
 | f+1,_,_,_,h=>⟨λe=>b _ _ (h.1 e),λi g=>Ck4 (wpOpIn_mono (λc w' h=>Pn b f _ c w' (h.2.2 w' (N9.refl w'))) (h.2 i g))⟩
def DC(Y:aa0)(L:Array Oper)(listed:Array Bool):Prop:=∀j o,L[j]? = some o->listed.getD j false=true->∀e∈o.after,ac0 Y e=true->listed.getD e.on false=true
def Ap6{listed:Array Bool}{i j:Nat}(h:(listed.setIfInBounds i true).getD j false=true):j=i\/listed.getD j false=true:=by by_cases a:i=j;all_goals simp_all
def DC.set{listed:Array Bool}{i:Nat}(h:DC Y L listed)(hi:i∈o5 Y L listed):DC Y L (listed.setIfInBounds i true):=by
 intro j o ho hj e he hb;refine getD_set_true ?_;rcases Ap6 hj with rfl|hj
 ·obtain⟨_,o',ho',hall⟩:=mem_ready.1 hi;grind
 ·exact h j o ho hj e he hb
def OQ(Y:aa0)(L:Array Oper):Nat->Nat->Nat->Bool
 | 0,_,_=>false
 | f+1,j,i=>match L[j]? with
  | some o=>(o.after.toList.any λe=>ac0 Y e&&ab6 e.on i)||(o.after.toList.any λe=>ac0 Y e&&OQ Y L f e.on i)
  | none=>false
def GG{listed:Array Bool}{i:Nat}(d:DC Y L listed)(k:listed.getD i false=false):∀f j,OQ Y L f j i=true->listed.getD j false=false/\j∉o5 Y L listed
 | 0,j,h=>by cases h
 | f+1,j,h=>by
  simp only[OQ] at h;split at h
  ·rename_i o m;have key:∃e∈o.after,ac0 Y e=true/\listed.getD e.on false=false:=by
    rw[x6,af3,af3] at h;rcases h with⟨e,b,a⟩|⟨e,b,a⟩
    ·rw[c9] at a;have:=o6 a.2;grind
    ·rw[c9] at a;exact⟨e,by simpa using b,a.1,(GG d k f e.on a.2).1⟩
   obtain⟨e,b,a,g⟩:=key;refine⟨?_,λq=>?_⟩
   ·cases l:listed.getD j false with
    | false=>rfl
    | true=>rw[d j o m l e b a] at g;cases g
   ·obtain⟨_,o',p,c⟩:=mem_ready.1 q;grind
  ·cases h
def AS{listed:Array Bool}{i:Nat}(h:i∈o5 Y L listed):listed.getD i false=false:=by have a:=(mem_ready.1 h).1;grind
def Ck5{X K:Nat->Bool}{Qn:Act->World->Prop}{q:Nat}{i:Nat}{G:Oper}{v:Value}(N:L[i]? = some G)(y:∀(j:Nat) (o:Oper) J b,L[j]? = some o->o.op≠.select J b)(B:∀(j:Nat) (o:Oper) c,L[j]? = some o->o.op≠.defer c) :
  ∀(f:Nat) (listed:Array Bool) (a:Act) (V:World),
   (∀j A,L[j]? = some A->j≠i->listed.getD j true=false->(∀e∈A.after,ac0 Y e=true->e.on≠i)->G.apart L A=true)->
   (∀j,j≠i->listed.getD j true=false->X j=true->(q=1\/(q=2/\K j=false))->OQ Y L L.size j i=true)->DC Y L listed->
   i∈o5 Y L listed->YQ F n P L D q V G v a->
   (∀w,N9 V w->wpR F n P Y L D X K Qn f (listed.setIfInBounds i true) (a.put G.dst v) w)->∀w,N9 V w->wpR F n P Y L D X K Qn (f+1) listed a w:=by
 intro f
 induction f with
 | zero=>
  intro listed a V _ _ _ C W H w z;refine⟨λh=>(by rw[h] at C;cases C),λj I=>?_⟩;by_cases d:j=i
  ·subst d;exact W.wpOpIn N (λc=>B j G c N) (.of z) λw' p=>⟨λ_=>p,λ_=>p.x,λw1 M=>H w1 (z.trans (p.trans M))⟩
  ·have:=ready_mono I d;rw[(H w z).1] at this;cases this
 | succ f ih=>
  intro listed a V l U hd C W H w z;refine⟨λh=>(by rw[h] at C;cases C),λj I=>?_⟩;by_cases d:j=i
  ·subst d;exact W.wpOpIn N (λc=>B j G c N) (.of z) λw' p=>⟨λ_=>p,λ_=>p.x,λw1 M=>H w1 (z.trans (p.trans M))⟩
  ·have M:=(H w z).2 j (ready_mono I d);obtain⟨x,A,t,a4⟩:=mem_ready.1 I;have O:=AS C;have R:∀e∈A.after,ac0 Y e=true->e.on≠i:=λe he hb heq=>by grind
   have h2:=A03 t (l j A t d x R) (λJ b=>y i G J b N) (λJ b=>y j A J b t) (λc=>B j A c t) (W.step (w1:=w) (.of z)) M;have m:∀{k:Nat},k≠i->(listed.setIfInBounds j true).getD k true=false->listed.getD k true=false:=fun {k} g u=>by
    by_cases a5:j=k;all_goals simp_all
   refine wpOpIn_mono (λa' w' h3=>?_) h2;obtain⟨a3,p,Q,hR⟩:=h3;refine⟨p,Q,λw1 a0=>?_⟩;have Z:RQ D q w w':=by
    cases T:X j with
    | false=>exact .of (p T)
    | true=>
     have r:(q=1\/(q=2/\K j=false))->False:=λS=>(GG hd O L.size j (U j d x T S)).2 I
     refine⟨λS=>(r (.inl S)).elim,λS=>?_⟩;cases hf:K j with
     | true=>exact Q hf
     | false=>exact(r (.inr ⟨S,hf⟩)).elim
   refine ih (listed.setIfInBounds j true) a' w' (λk ok hk g u r=>l k ok hk g (m g u) r) (λk g u a2=>U k g (m g u) a2) (hd.set I) (ready_mono C (Ne.symm d)) (a3.step Z) (λw2 a1=>?_) w1 a0;rw[Array.setIfInBounds_comm _ _ d];exact hR w2 a1
def O4(F:Fence)(n:Nat)(P:Program)(L:Array Oper)(D:Nat->Prop)(far:Nat->Bool)(kind:Nat->Nat)(E:Act->World->Prop):List Nat->Act->World->Prop
 | [],a,c=>E a c
 | i::b,a,c=>(kind i<=1->∃o v,L[i]? = some o/\YQ F n P L D (qK (kind i) (far i)) c o v a/\O4 F n P L D far kind E b (a.put o.dst v) c)/\
  (2<=kind i->∀w,N9 c w->wpOpIn F n P L QF i (λd w'=>(kind i=2->N9 w w')/\(far i=true->Pq D w w')/\O4 F n P L D far kind E b d w') a w)
def Bx2(Y:aa0)(L:Array Oper)(far:Nat->Bool)(kind:Nat->Nat)(i:Nat)(listed:Array Bool):Bool:=
 (o5 Y L listed).contains i&&(Region.free Y L listed i&&(ab6 (kind i) 0||(ah2 L.size).all λj=>ab6 j i||(listed.getD j true||(!(s8 3 (kind j))||((far i&&far j)||OQ Y L L.size j i)))))
def KY(Y:aa0)(L:Array Oper)(far:Nat->Bool)(kind:Nat->Nat)(a:Array Bool->Bool):List Nat->Array Bool->Bool
 | [],listed=>a listed
 | i::r,listed=>cond (s8 (kind i) 1) (Bx2 Y L far kind i listed) ((o5 Y L listed)==[i])&&KY Y L far kind a r (listed.setIfInBounds i true)
def YT(Y:aa0)(L:Array Oper)(far:Nat->Bool)(kind:Nat->Nat):List Nat->Array Bool->Bool:=KY Y L far kind λlisted=>(o5 Y L listed).isEmpty
def Cs4{kind:Nat->Nat}{z:Act->World->Prop}(K:aa4 L=true)(x:∀(j:Nat) (o:Oper) c,L[j]? = some o->o.op≠.defer c)(I:∀j,L.size<=j->kind j<=1){i b:Nat}{listed:Array Bool}{a:Act}{m:World}{o:Oper}{v:Value}
  (A:Bx2 Y L far kind i listed=true) (B:DC Y L listed) (C:L[i]? = some o) (N:YQ F n P L D (qK (kind i) (far i)) m o v a)
  (h:DC Y L (listed.setIfInBounds i true)->∀w,N9 m w->wpR F n P Y L D (λj=>s8 3 (kind j)) far z b (listed.setIfInBounds i true) (a.put o.dst v) w):∀w,N9 m w->wpR F n P Y L D (λj=>s8 3 (kind j)) far z (b+1) listed a w:=by
 intro w M;simp only[Bx2,c9] at A;obtain⟨J,G,e⟩:=A;have g:i∈o5 Y L listed:=by simpa using J
 refine Ck5 (q:=qK (kind i) (far i)) C (Region.noSelect_spec K) x b listed a m (Region.free_spec C G) (λj t y k d=>?_) B g N (h (B.set g)) w M;have f:kind i=1:=by
  cases l:ab6 (kind i) 1 with
  | true=>exact o6 l
  | false=>simp[qK,l] at d
 have p:(far i&&far j)=false:=by
  rw[f] at d;cases r:far i with
  | false=>rfl
  | true=>
   rcases d with d|⟨_,d⟩
   ·rw[r] at d;cases d
   ·rw[d];rfl
 rw[f] at e;simp only[show ab6 1 0=false from rfl,ah3,j6,ah0] at e;have u:j<L.size:=p7 λH=>by
  have:=I j (by omega);have O:=CD k;omega
 have:=e j u;rw[show ab6 j i=false by cases l:ab6 j i with|false=>rfl|true=>exact absurd (o6 l) t,y,k,p] at this;simpa using this
def Sv{kind:Nat->Nat}{Qn E:Act->World->Prop}{fin:Array Bool->Bool}{m:Nat}(C:aa4 L=true)(k:∀(j:Nat) (o:Oper) c,L[j]? = some o->o.op≠.defer c)(B:∀j,L.size<=j->kind j<=1)
  (d:∀listed a f,fin listed=true->DC Y L listed->E a f->∀w,N9 f w->wpR F n P Y L D (λj=>s8 3 (kind j)) far Qn m listed a w) :
  ∀(b:List Nat) (listed:Array Bool) (a:Act) (f:World),KY Y L far kind fin b listed=true->DC Y L listed->O4 F n P L D far kind E b a f->∀w,N9 f w->wpR F n P Y L D (λj=>s8 3 (kind j)) far Qn (m+b.length) listed a w
 | [],listed,a,f,r,t,h,w,u=>d listed a f r t h w u
 | i::b,listed,a,f,r,t,h,w,u=>by
  simp only[KY,c9] at r;obtain⟨e,q⟩:=r;simp only[O4] at h;show wpR F n P Y L D _ _ Qn (m+b.length+1) listed a w;by_cases g:kind i<=1
  ·rw[show s8 (kind i) 1=true from XS g,aa] at e;obtain⟨o,v,M,N,J⟩:=h.1 g;exact Cs4 C k B e t M N (λy w1 l=>Sv C k B d b _ _ f q y J w1 l) w u
  ·rw[show s8 (kind i) 1=false by cases K:s8 (kind i) 1 with|false=>rfl|true=>exact absurd (CD K) g,ab] at e;have H:o5 Y L listed=[i]:=by simpa using e
   refine⟨λG=>(by rw[H] at G;cases G),λj z=>?_⟩;have A:j=i:=by rw[H] at z;simpa using z
   subst A;refine wpOpIn_mono (λI w' x=>?_) (h.2 (by omega) w u);refine⟨λp=>x.1 ?_,x.2.1,λw1 l=>Sv C k B d b _ I w' q (t.set z) x.2.2 w1 l⟩;have:¬ 3<=kind j:=λh=>by dsimp only at p;rw[XS h] at p;cases p
   omega
def AY(F:Fence)(n:Nat)(P:Program)(L:Array Oper)(D:Nat->Prop)(far:Nat->Bool)(kind:Nat->Nat)(E:Act->World->Prop)(e:Nat)(post:List Nat):List Nat->Act->World->Prop
 | [],a,c=>∀w,N9 c w->wpOpIn F n P L QF e (λd w'=>N9 w w'/\O4 F n P L D far kind E post d w') a w
 | i::b,a,c=>O4 F n P L D far kind (AY F n P L D far kind E e post b) [i] a c/\
  (2<=kind i->∀w,N9 c w->wpOpIn F n P L QF e (λd w'=>N9 w w'/\O4 F n P L D far kind E ((i::b)++post) d w') a w)
def Su(Y:aa0)(L:Array Oper)(far:Nat->Bool)(kind:Nat->Nat)(a:Nat)(post:List Nat):List Nat->Array Bool->Bool
 | [],listed=>(o5 Y L listed==[a])&&YT Y L far kind post (listed.setIfInBounds a true)
 | i::r,listed=>cond (s8 (kind i) 1) (Bx2 Y L far kind i listed)
   ((o5 Y L listed).contains i&&((o5 Y L listed).all (λj=>ab6 j i||ab6 j a)&&YT Y L far kind ((i::r)++post) (listed.setIfInBounds a true)))&&Su Y L far kind a post r (listed.setIfInBounds i true)
def Cq4{kind:Nat->Nat}{y:Act->World->Prop}{J:Nat}{post:List Nat}(R:aa4 L=true)(t:∀(j:Nat) (o:Oper) c,L[j]? = some o->o.op≠.defer c)(Q:∀j,L.size<=j->kind j<=1) :
  ∀(k:List Nat) (listed:Array Bool) (a:Act) (l:World),Su Y L far kind J post k listed=true->DC Y L listed->AY F n P L D far kind (λa l=>∀w,N9 l w->y a w) J post k a l->∀w,N9 l w->wpR F n P Y L D (λj=>s8 3 (kind j)) far y (post.length+1+k.length) listed a w:=by
 have p:∀(listed:Array Bool) (a:Act) (l:World),(o5 Y L listed).isEmpty=true->DC Y L listed->(∀w,N9 l w->y a w)->∀w,N9 l w->wpR F n P Y L D (λj=>s8 3 (kind j)) far y 0 listed a w:=
  λlisted a l h _ W w u=>⟨by simpa using h,W w u⟩
 intro k
 induction k with
 | nil=>
  intro listed a l A G h w u;simp only[Su,c9] at A;obtain⟨b,m⟩:=A;have S:o5 Y L listed=[J]:=by simpa using b
  show wpR F n P Y L D _ _ y (post.length+1) listed a w;refine⟨λH=>(by rw[S] at H;cases H),λj q=>?_⟩;have g:j=J:=by rw[S] at q;simpa using q
  subst g;refine wpOpIn_mono (λz w' f=>⟨λ_=>f.1,λ_=>f.1.x,λw1 d=>?_⟩) (h w u);have:=Sv R t Q p post _ z w' m (G.set q) f.2 w1 d;rwa [x7] at this
 | cons i e T=>
  intro listed a l A G h w u;simp only[Su,c9] at A;obtain⟨b,m⟩:=A;simp only[AY] at h;obtain⟨M,V⟩:=h;simp only[O4] at M;show wpR F n P Y L D _ _ y (post.length+1+e.length+1) listed a w;by_cases r:kind i<=1
  ·rw[show s8 (kind i) 1=true from XS r,aa] at b;obtain⟨o,v,I,X,U⟩:=M.1 r;exact Cs4 R t Q b G I X (λN w1 d=>T _ _ l m N U w1 d) w u
  ·rw[show s8 (kind i) 1=false by cases C:s8 (kind i) 1 with|false=>rfl|true=>exact absurd (CD C) r,ab] at b;simp only[c9,j6,x6] at b;obtain⟨O,B,K⟩:=b;have I:i∈o5 Y L listed:=by simpa using O
   refine⟨λH=>(by rw[H] at I;cases I),λj q=>?_⟩;rcases B j q with C|C
   ·have g:=o6 C;subst g;refine wpOpIn_mono (λz w' f=>?_) (M.2 (by omega) w u);refine⟨λx=>f.1 ?_,f.2.1,λw1 d=>T _ z w' m (G.set q) f.2.2 w1 d⟩;have:¬ 3<=kind j:=λh=>by dsimp only at x;rw[XS h] at x;cases x
    omega
   ·have g:=o6 C;subst g;refine wpOpIn_mono (λz w' f=>⟨λ_=>f.1,λ_=>f.1.x,λw1 d=>?_⟩) (V (by omega) w u);have:=Sv R t Q p ((i::e)++post) _ z w' K (G.set q) f.2 w1 d;rw[x7] at this;rw[show post.length+1+e.length=((i::e)++post).length by rw[x4,af5];omega];exact this
def QE(d:Option Tmp)(a b:Act):Prop:=∀t,d≠some t->b.tmps[t]? = a.tmps[t]?
def Ck(a:Act)(d:Option Tmp)(v:Value):QE d a (a.put d v):=λt b=>by
 cases d with
 | none=>rfl
 | some d=>
  have:d≠t:=λe=>b (by rw[e])
  simp[ah9,this]
def Br8{o:Oper}{a:Act}{w:World}{N:Act->World->Prop}(h:o.wpIn F n P a w N QF):o.wpIn F n P a w (λf w'=>QE o.dst a f/\N f w') QF:=by
 unfold ad6 at *;refine⟨h.1,?_⟩;have h:=h.2;generalize (o.semAt F.round a.eval).run P w=r at *;cases r with
 | ok x w'=>
  cases x<;>simp only[z7] at h ⊢
  case value=>exact⟨Ck _ _ _,h⟩
  case skip=>exact⟨Ck _ _ _,h⟩
  case defer=>
   refine⟨λt g=>?_,h⟩;exact Ck { a with defers:=_ } o.dst undef t g
  case enter=>exact⟨h.1,ae8 h.2 λe d b=>by
   cases e with
   | returned u=>exact⟨Ck _ _ _,b⟩
   | panicked c=>exact b.elim
   | outgrown=>obtain⟨_,_,h⟩:=b;exact h.elim⟩
  case row=>exact⟨h.1,ai1 h.2 λu d b=>⟨Ck _ _ _,b⟩⟩
  case round=>exact⟨h.1,af1 h.2 λe d b=>by
   cases e with
   | returned u=>exact⟨Ck _ _ _,b⟩
   | panicked c=>exact b.elim
   | outgrown=>obtain⟨_,_,h⟩:=b;exact h.elim⟩
 | halt x w'=>
  cases x<;>simp only[z7] at h ⊢
  omega
def Ai1{i:Nat}{o:Oper}(d:L[i]? = some o){a:Act}{w:World}{N:Act->World->Prop}(h:wpOpIn F n P L QF i N a w):wpOpIn F n P L QF i (λc w'=>QE o.dst a c/\N c w') a w:=by
 unfold wpOpIn at *;simp only[d] at h ⊢;split
 ·rename_i b;simp only[b,if_true] at h;exact Br8 h
 ·rename_i b;simp only[b] at h;exact⟨h.1,Ck _ _ _,h.2⟩
def EU{kind:Nat->Nat}{E:Act->World->Prop}{i:Nat}{o:Oper}(j:L[i]? = some o){a:Act}{k:World}(h:O4 F n P L D far kind (λc w'=>QE o.dst a c->E c w') [i] a k):O4 F n P L D far kind E [i] a k:=by
 simp only[O4] at h ⊢;refine⟨λg=>?_,λg w l=>?_⟩
 ·obtain⟨o',v,b,d,f⟩:=h.1 g;obtain rfl:=ag6 (j.symm.trans b);exact⟨_,v,b,d,f (Ck _ _ _)⟩
 ·exact wpOpIn_mono (λc w' ⟨b,d,e,f⟩=>⟨d,e,f b⟩) (Ai1 j (h.2 g w l))
def AW{id:Nat}{Q:Exit->Act->World->Prop}{kind:Nat->Nat}{ord:List Nat}{a:Act}{w:World}(k:P.follows .mixedOrders=true)(p:aa4 L=true)(f:∀(j:Nat) (o:Oper) c,L[j]? = some o->o.op≠.defer c)(i:∀j,L.size<=j->kind j<=1)
  (b:ord.length=L.size) (g:YT .any L far kind ord (ac4 L.size false)=true) (h:O4 F n P L D far kind (λa d=>∀w,N9 d w->Q .normal a w) ord a w):(ae3 id L true).wpIn F n P Q a w:=by
 refine wpIn_region_any k ?_;rw[<-b,<-x7 ord.length];refine Pn (λ_ _ h=>h) _ _ _ _ (Sv (Qn:=λa w=>Q .normal a w) (m:=0) (fin:=λlisted=>(o5 .any L listed).isEmpty) (E:=λa d=>∀w,N9 d w->Q .normal a w) p f i (λlisted a d h _ l w q=>⟨by simpa using h,l w q⟩) ord _ a w (by rw[x7,b];exact g) (λj o r e=>?_) h _ (N9.refl w));simp only[j9,ad2] at e;split at e<;>cases e
end
section
variable {X R : Type} {r : R} {C : Cfg} {I : X -> (Nat -> Prop) -> (Nat -> Prop) -> World -> Prop} {Γ : Ctx} {Φ : Nat -> Prop} {st : St X} {a : Act} {w : World} {O : G4} {Z : Yh X} {N : Value} {o : Oper}
def Bn2{P:Program}{m:Sem Next}{w w1 b:World}{x y:Next}(h:m.run P w = .ok x w1)(k:m.run P w = .ok y b):x=y/\w1=b:=by grind
def Vb(w:World)(x:Obj):N9 w (w.alloc x):=⟨⟨λg b=>H8 (w':=w.alloc x) (o:=x) rfl b,by rw[show(w.alloc x).heap=w.heap.push x from rfl];simp⟩,rfl,rfl,rfl⟩
def QO{Γ:Ctx}{e:Nat}{ev:Operand->Value}(b:(C.ti e).ok=true)(c:o.op = .alloc e):∃z:Value,(execOp ev o).run C.P w = .ok (.value (.pointer (some ⟨w.heap.size,0,none⟩))) (w.alloc (.cells z.cells e))/\(∀(Γ:Ctx) sh w,CR Γ sh w ((C.ti e).ks.map W5) z.cells)/\∃i,C.P.info? e=some i/\i.zero=some z:=by
 obtain⟨i,z,d,f,_,_⟩:=Ho (Γ:=Γ) (sh:=λ_=>none) (w:=w) b;refine⟨z,?_,λΓ' sh w'=>?_,i,d,f⟩
 ·simp only[execOp,c];simp[ag0,zeroValue,typeInfo,d,f,newVar,newRow]
 ·obtain⟨k,l,g,j,_,h⟩:=Ho (Γ:=Γ') (sh:=sh) (w:=w') b;grind
def Dz1{P:Option Nat}{n:Nat}{k:St X->Option R}{next:Act->World->Prop}{Q:Exit->Act->World->Prop}(A:Ask C I O Z N)(a0:Γ.yv=N)(B:Ao8 C o.op=true)(h:opK C O Z o st k=some r)(S:SI C I Γ Φ st a.tmps w)(hN:Nxt C I Γ Φ st.hp w a.defers k r (λa' w'=>N9 w w'->next a' w')) :
  o.wpIn (I4 P) n C.P a w next Q:=by
 refine⟨λ_ _=>trivial,?_⟩;have M:∀c,o.op≠.defer c:=λc e=>by simp[opK,e] at h
 rw[y9 _ _ _ M];unfold Ao8 at B;have add:CQ o.op=false->(∃m x,(execOp a.eval o).run C.P w = .ok (.value m) (w.alloc x))->o.uponIn (I4 P) n C.P a next Q ((execOp a.eval o).run C.P w):=λy ⟨m,x,K⟩=>by
  obtain⟨V,w',Γ',l,H,u,h3,h4⟩:=As7 A.hI y h S;have Y:=hN l (a.put o.dst V) w' Γ' Φ H h4 h3 (put_defers _ _ _);rcases u with u|⟨rfl,u⟩
  ·obtain⟨_,rfl⟩:=Bn2 u K;rw[u];exact Y (Vb w x)
  grind
 split at B
 ·rename_i t len parts b;refine add (by rw[b];rfl) ?_;simp only[opK,b] at h;obtain⟨p1,p2⟩:=S.parts parts.toList;cases F:C.stab t with
  | true=>
   simp only[F,aa] at h;obtain⟨v,W,hv,m,x,f⟩:=Lt (ps:=parts.map λ(i,x)=>(i,a.eval x)) (sl:=st.sl) (tmps:=a.tmps) S.hr h (by rw[x8];exact p1);refine⟨m,x,?_⟩;simp only[execOp,b];simp[f]
  | false=>
  simp only[F,ab] at h;obtain⟨v,H',W,hv,m,x,f⟩:=Jx (ps:=parts.map λ(i,x)=>(i,a.eval x)) (sl:=st.sl) (tmps:=a.tmps) S.hr h (by rw[x8];exact p1);refine⟨m,x,?_⟩;simp only[execOp,b];simp[f]
 ·rename_i e b;refine add (by rw[b];rfl) ?_;by_cases D:(C.ti e).ok=true
  ·obtain⟨z,hr,_⟩:=QO (Γ:=Γ) (ev:=a.eval) (w:=w) D b;exact⟨_,_,hr⟩
  ·simp[opK,b,GI,D] at h
 ·rename_i t b;refine add (by rw[b];rfl) ?_;simp only[opK,b] at h;obtain⟨v,H',W,hv,m,x,f⟩:=Rp (sl:=st.sl) (tmps:=a.tmps) S.hr h;refine⟨m,x,?_⟩;simp only[execOp,b];simp[f]
 ·rename_i c b;split at B
  ·rename_i g p;simp only[c9,x5] at B;obtain⟨⟨pf,q⟩,U⟩:=B;simp only[opK,b,p,opnd,ET,Xo,q,ac8,ae0,ab4] at h;split at h
   ·rename_i L;obtain⟨ret,Hc,j,h⟩:=Ch h;have j:L8 (pf (N5 st.hp (c.args.toList.map (opnd C st.sl))))=some (ret,Hc):=by
     cases hx:C.xp g with
     | true=>rw[hx] at j;exact(Cs j).1
     | false=>rw[hx] at j;exact j
    obtain⟨H,u⟩:=C9 h;obtain⟨hc,Y⟩:=S.list c.args;have key:=KX (k:=λv l=>k { l with sl:=Cf o.dst v l.sl }) A.hI A.hX S hc q j (ac2.1 L) (by simpa only[x6,aa6,c9] using H) u;have J:execOp a.eval o=(do let d <-o8 (a.eval (.func g)) (c.args.map a.eval);invoke d.target d.args):=by simp only[execOp,b,resolve,p]
    have f:(execOp a.eval o).run C.P w=(callFunc g (c.args.map a.eval)).run C.P w:=by
     rw[J];have e:a.eval (.func g) = .func (.func g) #[] #[]:=rfl;rw[e];simp[o8,invoke]
    rw[f];refine key P n o a next Q ?_
    rintro V w' ⟨⟨v,l,Γ',T,k1,k2,G,k4,k5⟩,K⟩;exact hN _ (a.put o.dst V) w' Γ' T k1 k2 ⟨G.hr,G.sr.put (ds:=a.defers) o k4 k5,G.g,G.inv,G.dis⟩ (put_defers _ _ _) K
   ·cases h
  ·cases B
 ·cases B
def MH(C:Cfg)(op:Op):(Cb C op=0/\((∃x,op = .move x\/op = .assign x\/∃i,op = .extract x i)\/(∃t x d c e,op = .slice t x d c e)\/(∃t x f,op = .fieldAddr t x f)\/(∃t x i,op = .indexAddr t x i)\/(∃t p,op = .build t p)\/∃b t x y q,op = .binOp b t x y q))\/(Cb C op=1/\Zo C op=true)\/(Cb C op=2/\Ao8 C op=true)\/Cb C op=3:=by unfold Cb;grind
def Dw7{k:St X->Option R}(z:(∃x,o.op = .move x\/o.op = .assign x\/∃i,o.op = .extract x i)\/(∃t x j g l,o.op = .slice t x j g l)\/(∃t x f,o.op = .fieldAddr t x f)\/(∃t x i,o.op = .indexAddr t x i)\/(∃t p,o.op = .build t p)\/∃b t x y q,o.op = .binOp b t x y q)(h:opK C O Z o st k=some r)(S:SI C I Γ Φ st a.tmps w) :
  ∃V d,k d=some r/\(∀w':World,(execOp a.eval o).run C.P w' = .ok (.value V) w')/\SI C I Γ Φ d (a.put o.dst V).tmps w/\Stp C Γ st.hp w noΦ Γ d.hp w noΦ:=by
 rcases z with⟨x,c⟩|⟨t,x,j,g,l,c⟩|⟨t,x,f,c⟩|⟨t,x,i,c⟩|⟨t,p,c⟩|⟨b,t,x,y,q,c⟩
 ·obtain⟨V,d,m,n,u,v⟩:=Tj (a:=a) (show M8 C o.op=true by rcases c with h|h|⟨_,h⟩<;>rw[h]<;>rfl) h S;refine⟨V,d,m,λw'=>?_,u,v⟩;have e:=n w (Ext.refl w);rcases c with c|c|⟨i,c⟩<;>simp only[execOp,c] at e ⊢
  ·cases e;rfl
  ·cases e;rfl
  ·unfold ah4 at e ⊢;split at e
   ·split at e
    ·cases e;simp_all
    ·cases e
   ·cases e
 ·exact Ax9 (a:=a) c h S
 ·exact Ap1 (a:=a) c h S
 ·exact Aq9 (a:=a) c h S
 ·exact Am1 (a:=a) c h S
 ·exact B43 (a:=a) c h S
def Cl7(C:Cfg)(I:X->(Nat->Prop)->(Nat->Prop)->World->Prop)(Γ:Ctx)(Φ:Nat->Prop)(H:List Blk)(w:World)(ds:List Deferred)(k:St X->Option R)(r:R)(q:Prop)(next:Act->World->Prop):Prop:=
 ∀b d w' Γ' c,k b=some r->Stp C Γ H w Φ Γ' b.hp w' c->SI C I Γ' c b d.tmps w'->d.defers=ds->(q->∀g,Γ'.St g->Γ.St g)->next d w'
def Nxt.q{H:List Blk}{ds:List Deferred}{k:St X->Option R}{q:Prop}{next:Act->World->Prop}(h:Nxt C I Γ Φ H w ds k r next):Cl7 C I Γ Φ H w ds k r q next:=λst' a' w' Γ' Φ' h1 h2 h3 h4 _=>h st' a' w' Γ' Φ' h1 h2 h3 h4
def Es{ro:Option Nat}{n:Nat}{all:Array Oper}{E:Act->World->Prop}{D:Nat->Prop}{far:Nat->Bool}(A:Ask C I O Z N):∀(c:List Nat) {Γ:Ctx} {Φ:Nat->Prop} {st:St X} {a:Act} {w:World} {k:St X->Option R},(∀i∈c,i<all.size/\far i=false)->Γ.yv=N->
  Gg C O Z all (c.filterMap (all[·]?)) st k=some r->SI C I Γ Φ st a.tmps w->Cl7 C I Γ Φ st.hp w a.defers k r (∀j∈c,K7 C all j<=1) E->O4 (I4 ro) n C.P all D far (K7 C all) E c a w
 | [],Γ,Φ,st,a,w,k,f,hyv,h,S,hN=>hN st a w Γ Φ h (Stp.refl S.hr) S rfl (λ_ _ h=>h)
 | i::c,Γ,Φ,st,a,w,k,f,hyv,h,S,hN=>by
  have a8:=(f i (by simp)).1;have L:=(f i (by simp)).2;obtain⟨o,ho⟩:∃o,all[i]? = some o:=⟨all[i],ab1 a8⟩
  have u:∀j∈c,j<all.size/\far j=false:=λj hj=>f j (by simp[hj])
  rw[ae6,ho] at h;have a0:K7 C all i=Cb C o.op:=by simp only[K7,ho]
  have run:∀{st:St X},o0 o (yielded all a.tmps)=true->SI C I Γ Φ st a.tmps w->Cl7 C I Γ Φ st.hp w a.defers k r (∀j∈i::c,K7 C all j<=1) E->opK C O Z o st (λd=>Gg C O Z all (c.filterMap (all[·]?)) d k)=some r->O4 (I4 ro) n C.P all D far (K7 C all) E (i::c) a w:=fun {st} m S hN h=>by
   have a3:Cb C o.op<=1->∃V d,Gg C O Z all (c.filterMap (all[·]?)) d k=some r/\YQ (I4 ro) n C.P all D (qK (Cb C o.op) (far i)) w o V a/\SI C I Γ Φ d (a.put o.dst V).tmps w/\Stp C Γ st.hp w Φ Γ d.hp w Φ:=λY=>by
    rcases MH C o.op with⟨Q,hb⟩|⟨Q,x⟩|⟨Q,_⟩|Q
    ·obtain⟨V,d,F,z,G,H⟩:=Dw7 (a:=a) hb h S;refine⟨V,d,F,⟨λ_ _ _ _=>trivial,.inl ⟨m,λw' _=>?_⟩⟩,G,H.lift Φ⟩;unfold aa7;rw[z w'];exact⟨rfl,rfl⟩
    ·rw[Q];simp only[Zo,x6] at x;rcases x with x|x
     ·obtain⟨V,d,F,z,G,H⟩:=Tj (a:=a) x h S;refine⟨V,d,F,⟨λ_ _ _ _=>trivial,.inl ⟨m,λw' a1=>?_⟩⟩,G,H.lift Φ⟩;unfold aa7;rw[z w' (a1.1 (by rw[L];rfl)).1.1];exact⟨rfl,rfl⟩
     ·obtain⟨V,d,F,z,G,H⟩:=Cb2 (ro:=ro) (n:=n) (a:=a) A.hI A.hX x h S;exact⟨V,d,F,⟨λ_ _ _ _=>trivial,.inl ⟨m,λw' a1=>z w' (a1.1 (by rw[L];rfl))⟩⟩,G,H.lift Φ⟩
    all_goals omega
   simp only[O4];rw[a0];refine⟨λY=>?_,λa9 w1 J=>?_⟩
   ·obtain⟨V,d,F,z,G,H⟩:=a3 Y;exact⟨o,V,ho,z,Es A c u hyv F G λp W w2 q t k1 k2 k3 k4 k5=>hN p W w2 q t k1 (H.trans k2) k3 (k4.trans (put_defers _ _ _)) λx=>k5 λj hj=>x j (by simp[hj])⟩
   ·obtain⟨S1,M⟩:=S.like A.hI J;unfold wpOpIn;simp only[ho,m,if_true];rcases MH C o.op with⟨Q,_⟩|⟨Q,_⟩|⟨Q,hx⟩|Q
    ·omega
    ·omega
    ·exact Dz1 A hyv hx h S1 λd a' w' Γ' Φ' F z G H hl=>⟨λ_=>hl,λe=>(by rw[L] at e;cases e),Es A c u (z.yv.trans hyv) F G λp W w2 q t k1 k2 k3 k4 _=>hN p W w2 q t k1 (M.trans (z.trans k2)) k3 (k4.trans H) λx=>absurd (x i (by simp)) (by rw[a0];omega)⟩
    ·exact Ac7 A hyv h S1 λd a' w' Γ' Φ' F z G H=>⟨λe=>by omega,λe=>(by rw[L] at e;cases e),Es A c u (z.yv.trans hyv) F G λp W w2 q t k1 k2 k3 k4 _=>hN p W w2 q t k1 (M.trans (z.trans k2)) k3 (k4.trans H) λx=>absurd (x i (by simp)) (by rw[a0];omega)⟩
  have skip:∀{st:St X},o0 o (yielded all a.tmps)=false->SI C I Γ Φ st a.tmps w->Cl7 C I Γ Φ st.hp w a.defers k r (∀j∈i::c,K7 C all j<=1) E->Gg C O Z all (c.filterMap (all[·]?)) { st with sl:=Cf o.dst (.tup []) st.sl } k=some r->O4 (I4 ro) n C.P all D far (K7 C all) E (i::c) a w:=fun {st} m S hN h=>by
   simp only[O4];have go:∀{w1:World},N9 w w1->O4 (I4 ro) n C.P all D far (K7 C all) E c (a.put o.dst undef) w1:=fun {w1} J=>by
    obtain⟨S1,M⟩:=S.like A.hI J;exact Es A c (st:={ st with sl:=Cf o.dst (.tup []) st.sl }) u hyv h (S1.put (o:=o) Ak (by simp[PV.nms,D1])) λp W w2 q t k1 k2 k3 k4 k5=>hN p W w2 q t k1 (M.trans k2) k3 (k4.trans (put_defers _ _ _)) λx=>k5 λj hj=>x j (by simp[hj])
   refine⟨λY=>⟨o,undef,ho,⟨λ_ _ _ _=>trivial,.inr ⟨m,rfl⟩⟩,go (N9.refl w)⟩,λa9 w1 J=>?_⟩;unfold wpOpIn;simp only[ho,m,aa1,if_false];exact⟨λ_ _=>trivial,λ_=>N9.refl w1,λ_=>(N9.refl w1).x,go J⟩
  simp only[Gg] at h;split at h
  ·rename_i hg;exact run (by simp[o0,hg]) S hN h
  ·rename_i j T hg;split at h
   ·rename_i g a4;have a6:∀b,a.tmps[g]? = some (.bool b)->yielded all a.tmps j=some b:=λb e=>by simp[yielded,a4,e]
    have a5:(∀b,a.tmps[g]?≠some (.bool b))->yielded all a.tmps j=none:=λb1=>by
     simp only[yielded,a4,j1]
    have l:∀v,st.sl.getD g (.tup [])=v->∀V,a.tmps[g]? = some V->VP Γ (A3 st.hp) w v V:=λv hv V hV=>by
     have f:g<st.sl.length:=by rw[<-S.sr.size];exact(o7.1 hV).1
     obtain⟨U,e1,e2⟩:=S.sr.slot g f;grind
    split at h
    ·rename_i b hb;have f:g<st.sl.length:=p7 λb0=>by grind
     obtain⟨U,e1,e2⟩:=S.sr.slot g f;have hU:=(l _ hb U e1).inv_bool;subst hU;have y:yielded all a.tmps j=some b:=a6 b e1;have S':SI C I Γ Φ { st with sl:=st.sl.set g (.s (.bool b)) } a.tmps w:=⟨S.hr,S.sr.set g (l _ hb) (by simp[PV.nms]),S.g,S.inv,S.dis⟩
     have P:(if (b==T)=true then opK C O Z o { st with sl:=st.sl.set g (.s (.bool b)) } (λd=>Gg C O Z all (c.filterMap (all[·]?)) d k) else Gg C O Z all (c.filterMap (all[·]?)) { st with sl:=Cf o.dst (.tup []) (st.sl.set g (.s (.bool b))) } k)=some r:=by
      cases b<;>exact h
     by_cases K:b=T
     ·rw[ac (by simpa using K)] at P;exact run (by simp[o0,hg,y,K]) S' hN P
     ·rw[ae (by simpa using K)] at P;exact skip (by simp[o0,hg,y,K]) S' hN P
    ·rename_i hb;have y:yielded all a.tmps j=none:=a5 λb a7=>by
      obtain⟨B,e,_⟩:=(l _ hb _ a7).inv_tup;cases e
     exact skip (by simp[o0,hg,y]) S hN h
    grind
   ·cases h
def D75:Op->Bool
 | .defer _=>false
 | _=>true
def Fp:Option (List Nat × List Nat)->Nat->Bool
 | none,_=>false
 | some f,i=>okN f.1 i
def Cy5(C:Cfg)(c:Option (List Nat × List Nat))(b:Array Oper):Bool:=
 aa4 b&&(b.toList.all (λo=>D75 o.op)&&(ab6 (Zk C b.toList).length b.size&&((Zk C b.toList).all (λi=>s8 (i+1) b.size)&&YT .any b (Fp c) (K7 C b) (Zk C b.toList) (ac4 b.size false))))
def Bo3(o:Oper):List Nat:=o.op.operands.toList.filterMap λx=>match x with | .tmp t=>some t|_=>none
def Jk(b:Array Oper)(f:Nat)(c:List Nat):Bool:=match b[f]? with
 | some e=>(match e.dst with|some _=>true|none=>false)&&c.all λi=>match b[i]? with
  | some o=>(match o.dst with|some d=>!(Bo3 e).contains d&&!(e.dst==some d)|none=>true)
  | none=>false
 | none=>false
def Bh3(C:Cfg)(d:Option (List Nat × List Nat))(b:Array Oper)(c:Nat):Bool:=
 aa4 b&&(b.toList.all (λo=>D75 o.op)&&(ab6 (Lj C b++(Jl C b c++c::Ff C b c)).length b.size&&((Lj C b++(Jl C b c++c::Ff C b c)).all (λi=>s8 (i+1) b.size) &&
  (Jk b c (Jl C b c)&&(ab6 (K7 C b c) 2&&KY .any b (Fp d) (K7 C b) (Su .any b (Fp d) (K7 C b) c (Ff C b c) (Jl C b c)) (Lj C b) (ac4 b.size false))))))
def Bh2(C:Cfg)(id:Nat)(b:Array Oper):Bool:=match C.rowR id with
 | none=>Cy5 C (C.farR id) b
 | some i=>s8 b.size i||Bh3 C (C.farR id) b i
def V6(C:Cfg)(c:Bool):Code->Bool
 | .region id e d=>!d||Bh2 C id e
 | .seq a b=>V6 C c a&&V6 C c b
 | .cond _ a b=>V6 C c a&&V6 C c b
 | .block _ a=>V6 C c a
 | .loop a=>V6 C c a
 | .scope a=>V6 C c a
 | .rangeFunc _ _ a b=>V6 C c a&&V6 C c b
 | _=>true
def Cq8(C:Cfg)(c:Code):Bool:=V6 C true c
def DX(Γ:Ctx)(w:World)(c:Option (List Nat × List Nat)):Nat->Prop:=λg=>w.heap.size<=g\/∃f b,c=some f/\okN f.2 b=true/\Γ.nm b=some g
def Ug{P:Program}{t g o:Nat}{d:TypeDesc}{i:TypeInfo}{w l:World}{V:Value}(u:P.underlying t=some d)(F:P.info? t=some i)(k:0<i.size)(D:l.heap[g]? = w.heap[g]?)(B:∀j,j<i.size->∃U,w.cell? ⟨g,o+j,none⟩=some U)
  (h:(loadVar t ⟨g,o,none⟩).run P w = .ok V w):(loadVar t ⟨g,o,none⟩).run P l = .ok V l:=by
 let b:Nat->Value:=λj=>(w.cell? ⟨g,o+j,none⟩).getD undef
 have c:∀j,j<i.size->w.cell? ⟨g,o+j,none⟩=some (b j):=λj G=>by obtain⟨U,e⟩:=B j G;simp[b,e]
 have run:∀W:World,(∀j,W.cell? ⟨g,j,none⟩=w.cell? ⟨g,j,none⟩)->(loadVar t ⟨g,o,none⟩).run P W = .ok (if Jf d=true then .agg ((ah2 i.size).map b).toArray else b 0) W:=λW q=>by
  by_cases m:Jf d=true
  ·have f:=run_loadCells_list (P:=P) W ⟨g,o,none⟩ ((ah2 i.size).map b) (λj v x=>by
    rw[N2,q];simp only[y5,Option.map_eq_some_iff] at x;obtain⟨a,y,z⟩:=x;obtain⟨A,p⟩:=o9.1 y;simp at A p;subst p z;exact c j (by omega))
   simp only[w6,List.length_range] at f;simp[loadVar,Il u,m,sizeOf,typeInfo,F,f]
  ·have n:=c 0 k;rw[Nat.add_zero] at n;simp only[Bool.not_eq_true] at m;simp[loadVar,Il u,m,q,n]
 rw[run w λ_=>rfl] at h;rw[run l λj=>by simp only[ag2,D]];simp only[ac6,and_true] at h ⊢;exact h
section
variable {Y : Ctx} {L : List Blk} {W : World} {J : Nat -> Prop}
def B67{f:List Nat × List Nat}{b g:Nat}{cells:List PV}(l:HR Y L W)(q:Stp C Y L W J Γ st.hp w Φ)(d:Dy4 C (L.getD b .dead)=true)(p:okN f.2 b=false)(j:Γ.nm b=some g):¬DX Y W (some f) g:=by
 have h:b<L.length:=p7 λk=>by
  rw[j7,List.getElem?_eq_none (by omega)] at d;cases d
 have i:Je C (A3 L b):=by
  rw[j7,j0 h,af9] at d;unfold A3;rw[j0 h];cases m:L[b] with
  | box c=>simp[Blk.shp,Je]
  | arr v t u n=>rw[m] at d;exact d
  | _=>rw[m] at d;cases d
 have e:=(q.keep b h i).1;rw[e] at j;rintro(k|⟨f',b',rfl',hb',hg'⟩)
 ·have:=(l.lt b g j).2.1;omega
 ·cases rfl';have:=l.inj b b' g j hg';subst this;rw[p] at hb';cases hb'
def Cs0{f:List Nat × List Nat}{p:Bool}{t:Nat}{x:Operand}{V:Value}{w2:World}{k:St X->Option R}(G:o.op = .load t x)(l:FD C f p L st.hp st.sl o=true)(b1:p=true->∀g,Γ.St g->Y.St g)(h:opK C O Z o st k=some r)(S:SI C I Γ Φ st a.tmps w)(hF:HR Y L W)(hs:Stp C Y L W J Γ st.hp w Φ)
  (hl:Pq (DX Y W (some f)) w w2) (K:(execOp a.eval o).run C.P w = .ok (.value V) w):(execOp a.eval o).run C.P w2 = .ok (.value V) w2:=by
 unfold FD at l;rw[G] at l;simp only at l;split at l
 ·rename_i b i off hx;simp only[c9,aa6] at l;obtain⟨_,h1,h2,h3⟩:=l;have m:=(S.opnd x).1;rw[hx] at m;obtain⟨g,q,H,hA,P,B⟩:∃g q,Γ.nm b=some g/\a.eval x = .pointer (some ⟨g,q,none⟩)/\(C.ti t).ok=true/\∀j,j<(C.ti t).ks.length->∃U,w.cell? ⟨g,q+j,none⟩=some U:=by
   rw[j7] at h2;cases Q:st.hp[b]? with
   | none=>rw[Q] at h2;cases h2
   | some y=>
    rw[Q] at h2;cases y with
    | box cells=>
     obtain⟨g,H,hc,_⟩:=S.hr.box (C:=C) Q;simp only[opK,G,hx,Uf,Q] at h;split at h
     ·rename_i a0;subst a0;obtain⟨u,_⟩:=C9 h;have a1:=Ac5 u;refine⟨g,off,H,?_,by simp only[okP,c9] at u;exact u.1,λj hj=>?_⟩
      ·generalize a.eval x=A at m;cases m with
       | ptrA _ _ _ g' v e sz n h' c=>simp[A3,Q,Blk.shp] at h'
       | ptrB _ _ g' h' c=>rw[H] at c;cases c;rfl
      ·obtain⟨U,e,_⟩:=hc (off+j) (a1 j hj);exact⟨U,by simpa using e⟩
     ·cases h
    | arr v e sz F=>
     simp only[opK,G,hx,Uf,Q] at h;have a5:∀q,(¬(v=true/\F=[]))->q+(C.ti t).ks.length<=F.length*sz->(∀g,Γ.nm b=some g->a.eval x = .pointer (some ⟨g,q,none⟩))->(C.ti t).ok=true->∃g q,Γ.nm b=some g/\a.eval x = .pointer (some ⟨g,q,none⟩)/\(C.ti t).ok=true/\∀j,j<(C.ti t).ks.length->∃U,w.cell? ⟨g,q+j,none⟩=some U:=λq b0 hq hA P=>by
      obtain⟨g,a4,H,hh,a3,_⟩:=S.hr.arr' Q b0;refine⟨g,q,H,hA g H,P,λj hj=>?_⟩;have a1:q+j<a4.size:=by omega
      exact⟨a4[q+j],by simp[ag2,hh,a1]⟩
     have hA:∀g,Γ.nm b=some g->a.eval x = .pointer (some ⟨g,i*sz+off,none⟩):=λg H=>by
      generalize a.eval x=A at m;cases m with
      | ptrA _ _ _ g' v' e' b4 n h' c=>
       obtain⟨rfl,rfl,rfl,rfl⟩:=S9 Q h';rw[H] at c;cases c;rfl
      | ptrB _ _ g' h' c=>simp[A3,Q,Blk.shp] at h'
     split at h
     ·rename_i a9;obtain⟨u,_⟩:=C9 h;simp only[c9,af] at u;refine a5 _ (by rintro⟨_,rfl⟩;simp at u) ?_ hA (by have:=u.2;simp only[okS,c9] at this;exact this.1.1);have:(i+1)*sz<=F.length*sz:=Nat.mul_le_mul_right sz u.1;rw[ag1,Nat.one_mul] at this;omega
     ·split at h
      ·rename_i a0;obtain⟨rfl,rfl⟩:=a0;obtain⟨u,_⟩:=C9 h;simp only[c9,af] at u;have T:(C.ti t).ok=true:=by have:=u.2;simp only[okS,c9] at this;exact this.1.1
       obtain⟨_,_,_,_,_,_,a3,_,D,_,_,M⟩:=Dl T;refine a5 _ (by rintro⟨_,rfl⟩;have:=u.1;rw[List.length_nil,Nat.zero_mul] at this;omega) (by omega) hA T
      ·cases h
    | _=>cases h2
  have a2:=B67 (f:=f) (cells:=[]) hF hs h1 h3 H;have hh:w2.heap[g]? = w.heap[g]?:=hl.1.1 g (S.hr.lt b g H).2.1 a2;simp only[execOp,G,hA,ai0,ag8,ad8,ad9,aa8] at K ⊢;cases hv:(loadVar t ⟨g,q,none⟩).run C.P w with
  | halt e w'=>rw[hv] at K;simp at K
  | ok V' w'=>
   rw[hv] at K;simp only[ac6,af7] at K;obtain⟨rfl,rfl⟩:=K;obtain⟨i,d,z,hi,hd,_,a3,_,D,_,_,M⟩:=Dl P;rw[Ug hd hi D hh (λj hj=>B j (by omega)) hv]
 ·rename_i F i off hx;simp only[c9] at l;have m:=(S.opnd x).1;rw[hx] at m;have a8:=m.inv_s;simp only[opK,G,hx,Uf] at h;obtain⟨u,_⟩:=C9 h;simp only[okS,c9,af] at u;obtain⟨hi,⟨P,a9⟩,_⟩:=u;obtain⟨g,q,hA,a7,B⟩:∃g q,a.eval x = .pointer (some ⟨g,q,none⟩)/\Γ.St g/\∀j,j<(C.ti t).ks.length->∃U,w.cell? ⟨g,q+j,none⟩=some U:=by
   generalize a.eval x=A at a8;cases a8 with
   | sp _ _ _ g b2 sz Vs H hl hc hv=>
    refine⟨g,_,rfl,H,λj hj=>⟨Vs i (off+j),?_⟩⟩;have M:(F.getD i []).length=(F[i]).length:=by rw[j7,j0 hi,af9]
    have:=hc i hi (off+j) (by omega);rw[Nat.add_assoc];exact this
  have a6:=b1 l.2 g a7;have a2:¬DX Y W (some f) g:=by
   rintro(b3|⟨f',b',_,_,c⟩)
   ·have:=hF.stlt g a6;omega
   ·exact(hF.lt b' g c).2.2 a6
  have hh:w2.heap[g]? = w.heap[g]?:=hl.1.1 g (S.hr.stlt g a7) a2;simp only[execOp,G,hA,ai0,ag8,ad8,ad9,aa8] at K ⊢;cases hv:(loadVar t ⟨g,q,none⟩).run C.P w with
  | halt e w'=>rw[hv] at K;simp at K
  | ok V' w'=>
   rw[hv] at K;simp only[ac6,af7] at K;obtain⟨rfl,rfl⟩:=K;obtain⟨i,d,z,hi,hd,_,a3,_,D,_,_,M⟩:=Dl P;rw[Ug hd hi D hh (λj hj=>B j (by omega)) hv]
 ·cases l
def B68{f:List Nat × List Nat}{p:Bool}{t:Nat}{x y:Operand}{k:St X->Option R}(q:o.op = .store t x y)(d:FD C f p L st.hp st.sl o=true)(h:opK C O Z o st k=some r)(S:SI C I Γ Φ st a.tmps w)(hs:Stp C Y L W J Γ st.hp w Φ) :
  ∃w',(execOp a.eval o).run C.P w = .ok .skip w'/\Pq (DX Y W (some f)) w w':=by
 unfold FD at d;rw[q] at d;simp only at d;split at d
 ·rename_i b off hx;simp only[c9,x6] at d;obtain⟨_,B,D⟩:=d;obtain⟨cells,V⟩:∃cells,st.hp[b]? = some (.box cells):=by
   rw[j7] at B;cases he:st.hp[b]? with
   | none=>rw[he] at B;cases B
   | some y=>
    rw[he] at B;cases y with
    | box c=>exact⟨c,rfl⟩
    | _=>cases B
  obtain⟨g,a8,e,hg,hh,G,_,_⟩:=S.hr.box' V;have hA:a.eval x = .pointer (some ⟨g,off,none⟩):=by
   have T:=(S.opnd x).1;rw[hx] at T;generalize a.eval x=A at T;cases T with
   | ptrA _ _ _ K v e sz n h' m=>simp[A3,V,Blk.shp] at h'
   | ptrB _ _ K h' m=>rw[hg] at m;cases m;rfl
  simp only[opK,q,hx,Wt,V,if_true] at h;split at h
  ·rename_i hc;obtain⟨a6,i,H⟩:=hc;obtain⟨h4,_⟩:=C9 h;simp only[af] at h4;obtain⟨i0,hi,a5,a7⟩:=L6 a6;have hv:=(S.opnd y).1;have a4:(opnd C st.sl y).cells≠[]:=by intro e;rw[e] at i;simp at i;omega
   have z:=hv.cells' a4;have F:(opnd C st.sl y).cells.length=(a.eval y).cells.toList.length:=by simpa using z.1.symm
   have a1:∀j (h:j<(opnd C st.sl y).cells.length),∃U,(a.eval y).cells.toList[j]? = some U/\VP Γ (A3 st.hp) w ((opnd C st.sl y).cells[j]) U:=λj hj=>by
    obtain⟨U,e,k⟩:=z.2 j hj;grind
   have M:=Bv6 F H a1;have Q:(a.eval y).cells.size=i0.size:=by rw[z.1,i,a5]
   obtain⟨w',r1,r2,r3,r4,r5,r6,r7,r8⟩:=M3 (P:=C.P) (o:=off) hh (vs:=(a.eval y).cells.toList) (by rw[<-F,i,G];exact h4) M;have l:=Hk hi Q r1;refine⟨w',?_,⟨λK m a3=>r3 K λe=>a3 ?_,by omega⟩,r5,r6,r7⟩
   ·simp only[execOp,q,hA];simp only[ad8] at l ⊢;cases hq:(Instr.storeAt t (.pointer (some ⟨g,off,none⟩)) (a.eval y)).run C.P w with
    | halt e w'=>rw[hq] at l;simp[aa8] at l
    | ok u w2=>
     rw[hq] at l;simp only[aa8,ad9,ac6,true_and] at l;rw[l];rfl
   ·subst e;rcases hs.own b _ hg with⟨a9,a0⟩|a2
    ·rcases D with D|D
     ·exact .inr ⟨f,b,rfl,D,a0⟩
     ·have:=CD D;omega
    ·exact .inl a2
  ·cases h
 ·cases d
def unb:Blk->Blk | .box _=>.dead | .mp _=>.dead|b=>b
def nob(H:List Blk):List Blk:=H.map unb
def Tg(H:List Blk)(b:Nat):(nob H)[b]? = (H[b]?).map unb:=y5 ..
def B65(H:List Blk):∀v:PV,Gi (nob H) v=Gi H v
 | .fl b=>by simp only[Gi,Tg];cases H[b]? with|none=>rfl|some x=>cases x<;>rfl
 | .vw b i n=>by simp only[Gi,Tg];cases H[b]? with|none=>rfl|some x=>cases x<;>rfl
 | .s v=>by cases v<;>rfl
 | .nsl | .ptr _ _ _ | .fnr _ _ _ | .it _ | .yd | .agg _ | .tup _ | .bad=>rfl
def Ch7(n:Nat)(H:List Blk):∀v:PV,Gm n (nob H) v=Gm n H v
 | .fl b=>by simp only[Gm,Tg];cases H[b]? with|none=>rfl|some x=>cases x<;>rfl
 | .vw b i m=>by simp only[Gm,Tg];cases H[b]? with|none=>rfl|some x=>cases x<;>rfl
 | .s v=>by cases v<;>rfl
 | .nsl | .ptr _ _ _ | .fnr _ _ _ | .it _ | .yd | .agg _ | .tup _ | .bad=>rfl
def Bd3(H:List Blk)(v:PV):Rs (nob H) v=Rs H v:=by
 cases v with
 | s x=>cases x<;>rfl
 | _=>unfold Rs;exact B65 H _
def Xk(H:List Blk)(b:Nat):Bool:=Aa2 (H.getD b .dead)
def KL{H:List Blk}{b:Nat}{v:Bool}{e d:Nat}{c:List (List SV)}(h:H[b]? = some (.arr v e d c)):Xk H b=false:=by simp[Xk,h,Aa2]
def Ch6{n:Nat}{H:List Blk}{v:PV}(h:Gm n H v=true):∀c∈v.nms,Xk H c=false:=by
 intro c d;cases v with
 | fl b=>
  obtain rfl:c=b:=by simpa[PV.nms] using d
  simp only[Gm] at h;split at h
  ·rename_i e;exact KL e
  ·cases h
 | vw b i m=>
  obtain rfl:c=b:=by simpa[PV.nms] using d
  simp only[Gm] at h;split at h
  ·rename_i e;exact KL e
  ·cases h
 | s x=>simp[PV.nms] at d
 | nsl=>simp[PV.nms] at d
 | _=>simp[Gm] at h
def Ak8{H:List Blk}{t:Nat}{sl:List PV}{s x:PV}{k:PV->List PV->List Blk->Option R}(h:Gp C t sl s x H k=some r) :
  (∃u,Gp C t sl s x (nob H) (λ_ _ _=>some ())=some u)/\(∀c∈s.nms,Xk H c=false)/\∀c∈x.nms,Xk H c=false:=by
 unfold Gp at h ⊢;simp only[Ch7,Bd3,Tg];split at h
 ·split at h
  ·rename_i d;rw[ac d];simp only[c9] at d;have i:=Ch6 d.2;split at h
   ·rename_i l p;split at h
    ·obtain⟨e,_⟩:=C9 h;exact⟨⟨(),by simp only[need,e];rfl⟩,by simp[PV.nms],i⟩
    ·split at h
     ·rename_i g;obtain⟨e,_⟩:=C9 h;exact⟨⟨(),by simp only[need,e,g,if_true];rfl⟩,by simp[PV.nms],i⟩
     ·cases h
    ·rename_i b;split at h
     ·rename_i v n q m j;split at h
      ·rename_i f;obtain⟨e,_⟩:=C9 h;refine⟨⟨(),by simp only[j,w9,unb,ac f,need,e];rfl⟩,λc f=>?_,i⟩;obtain rfl:c=b:=by simpa[PV.nms] using f
       exact KL j
      ·cases h
     ·cases h
    ·cases h
   ·cases h
  ·cases h
 ·cases h
def Cb1(Γ:Ctx)(H:List Blk):Ctx:={ Γ with nm:=λb=>if Xk H b then none else Γ.nm b }
def Zb(Γ:Ctx)(H:List Blk)(w:World):Am Γ (A3 H) w (Cb1 Γ H) (A3 (nob H)) w (λb=>Xk H b=false):=
 ⟨λ_ _=>rfl,λ_ h=>h,λb d=>by simp only[Cb1];rw[d];rfl,λb d=>by
  simp only[A3,Tg];simp only[Xk,j7] at d;cases e:H[b]? with
  | none=>rfl
  | some x=>rw[e] at d;cases x with
   | box c=>cases d
   | mp c=>cases d
   | _=>rfl,λ_ _ _ _=>rfl,rfl⟩
def Dv7{Γ:Ctx}{w:World}{H:List Blk}(i:HR Γ H w):HR (Cb1 Γ H) (nob H) w:=by
 have d:∀b g,(Cb1 Γ H).nm b=some g->Xk H b=false/\Γ.nm b=some g:=λb g h=>by
  simp only[Cb1] at h;split at h
  ·cases h
  ·rename_i l;exact⟨by simpa using l,h⟩
 refine⟨λb m g n p=>i.inj b m g (d b g n).2 (d m g p).2,λb g h=>by have:=i.lt b g (d b g h).2;exact⟨by simpa[nob] using this.1,this.2⟩,i.stlt,λb k c f=>?_,λb k=>?_⟩
 ·simp only[nob,j5] at f;cases j:H[b]'(by simpa[nob] using k)<;>rw[j] at f<;>simp[unb,Blk.nms] at f
 ·have e:b<H.length:=by simpa[nob] using k
  have:=i.blk b e;simp only[nob,j5];cases j:H[b] with
  | box c=>trivial
  | mp c=>trivial
  | _=>
   rw[j] at this;have l:Xk H b=false:=by simp[Xk,e,j,Aa2]
   exact this.mono (Zb Γ H w) ((Zb Γ H w).nm b l) (λ_ _=>rfl) (λc f=>by simp[Blk.nms] at f)
def A85{f:List Nat × List Nat}{c:Call}{k:St X->Option R}(l:o.op = .call c)(j:c.callee = .builtin .append)(M:∀b,b<L.length->okN f.2 b=true\/Xk st.hp b=true)(h:opK C O Z o st k=some r)(S:SI C I Γ Φ st a.tmps w)(hF:HR Y L W)(U:Stp C Y L W J Γ st.hp w Φ) :
  ∃V w',(execOp a.eval o).run C.P w = .ok (.value V) w'/\Pq (DX Y W (some f)) w w':=by
 have key:∀(H:List Nat) (args:List PV),c.argTypes.toList=H->c.args.toList.map (opnd C st.sl)=args->Fj C .append H args st (λv p=>k { p with sl:=Cf o.dst v p.sl })=some r->
   ∃V w',(execOp a.eval o).run C.P w = .ok (.value V) w'/\Pq (DX Y W (some f)) w w':=by
  intro H args F e h;unfold Fj at h;dsimp only at h;split at h
  ·contradiction
  ·rename_i t u s x _;obtain⟨s0,x0,G,rfl,rfl⟩:=Ak9 e;have n:c.argTypes=[t,u].toArray:=by rw[<-F]
   split at h
   ·rename_i hu;obtain⟨⟨u1,K⟩,n1,n2⟩:=Ak8 h;obtain⟨v,a0,H',hk,hv⟩:=Uc (ty:=o.type) (tmps:=a.tmps) (Dv7 S.hr) hu K ((S.opnd s0).1.mono (Zb Γ st.hp w) n1) ((S.opnd x0).1.mono (Zb Γ st.hp w) n2);obtain⟨V,w',Γ',m,d,_⟩:=hv;refine⟨V,w',?_,⟨⟨λg Q D=>d.frame g Q (λb y=>D ?_) (λx=>x),d.size⟩,d.os,d.tape,d.output⟩⟩
    ·obtain⟨cs,P⟩:=V7 (ρ:=a.eval) l j;rw[P,G,n];simp[builtin,m]
    ·have i:Xk st.hp b=false/\Γ.nm b=some g:=by
      simp only[Cb1] at y;split at y
      ·cases y
      ·rename_i T;exact⟨by simpa using T,y⟩
     rcases U.own b g i.2 with⟨z,A⟩|B
     ·refine .inr ⟨f,b,rfl,?_,A⟩;rcases M b z with q|q
      ·exact q
      ·rw[i.1] at q;cases q
     ·exact .inl B
   ·cases h
  all_goals contradiction
 simp only[opK,l,j] at h;exact key _ _ rfl rfl h
def ND{ro:Option Nat}{n:Nat}{all:Array Oper}{E:Act->World->Prop}{f:List Nat × List Nat}(A:Ask C I O Z N)(hF:HR Y L W):∀(l:List Nat) {p:Bool} {Γ:Ctx} {Φ:Nat->Prop} {st:St X} {a:Act} {w:World} {k:St X->Option R},(∀i∈l,i<all.size)->Γ.yv=N->(p=true->∀g,Γ.St g->Y.St g)->
  Zj C O Z all f L p l st k=some r->SI C I Γ Φ st a.tmps w->Stp C Y L W J Γ st.hp w Φ->Nxt C I Γ Φ st.hp w a.defers k r E->O4 (I4 ro) n C.P all (DX Y W (some f)) (Fp (some f)) (K7 C all) E l a w
 | [],p,Γ,Φ,st,a,w,k,hlt,hyv,hst,h,S,hs,hN=>hN st a w Γ Φ h (Stp.refl S.hr) S rfl
 | i::l,p,Γ,Φ,st,a,w,k,hlt,hyv,hst,h,S,hs,hN=>by
  have a0:=hlt i (by simp);obtain⟨o,ho⟩:∃o,all[i]? = some o:=⟨all[i],ab1 a0⟩
  simp only[Zj] at h;obtain⟨hc,h⟩:=C9 h;have next:Cl7 C I Γ Φ st.hp w a.defers (λq=>Zj C O Z all f L (p&&s8 (K7 C all i) 1) l q k) r (∀j∈[i],K7 C all j<=1) (O4 (I4 ro) n C.P all (DX Y W (some f)) (Fp (some f)) (K7 C all) E l):=λq a' w' Γ' z k1 k2 k3 k4 k5=>
   ND A hF l (λj H=>hlt j (by simp[H])) (k2.yv.trans hyv) (λhp g hg=>by
    simp only[c9] at hp;exact hst hp.1 g (k5 (λj H=>by simp at H;subst H;exact aa5 hp.2) g hg)) k1 k3 (hs.trans k2) λa4 a2 w2 Γ2 Φ2 q1 q2 q3 q4=>hN a4 a2 w2 Γ2 Φ2 q1 (k2.trans q2) q3 (q4.trans k4)
  cases G:Fp (some f) i with
  | false=>
   have:=Es (ro:=ro) (n:=n) (D:=DX Y W (some f)) (far:=Fp (some f)) A [i] (λj H=>by simp at H;subst H;exact⟨a0,G⟩) hyv h S next
   simp only[O4] at this ⊢;exact this
  | true=>
   have d:FD C f p L st.hp st.sl o=true:=by
    have e:okN f.1 i=true:=G;rw[ho] at hc;simpa[e] using hc
   have hg:o.guard=none:=by
    unfold FD at d;split at d
    ·split at d
     ·simp only[c9,x9] at d;exact d.1
     ·simp only[c9,x9] at d;exact d.1
     ·cases d
    ·split at d
     ·simp only[c9,x9] at d;exact d.1
     ·cases d
    ·split at d
     ·simp only[c9,x9] at d;exact d.1
     ·cases d
    ·cases d
   have U:o0 o (yielded all a.tmps)=true:=by simp[o0,hg]
   have h:opK C O Z o st (λq=>Zj C O Z all f L (p&&s8 (K7 C all i) 1) l q k)=some r:=by
    rw[ae6,ho] at h;simp only[List.filterMap_nil,Gg,hg] at h;exact h
   simp only[O4,G];have M:K7 C all i=Cb C o.op:=by simp only[K7,ho]
   rw[M];have F:(∃t x,o.op = .load t x)\/(∃t x y,o.op = .store t x y)\/∃c,o.op = .call c/\c.callee = .builtin .append/\∀b,b<L.length->okN f.2 b=true\/Xk st.hp b=true:=by
    unfold FD at d;split at d
    ·rename_i t x e;exact .inl ⟨t,x,e⟩
    ·rename_i t x y e;exact .inr (.inl ⟨t,x,y,e⟩)
    ·rename_i c e;split at d
     ·rename_i v;simp only[c9,j6,ah0,x6] at d;exact .inr (.inr ⟨c,e,v,d.2⟩)
     ·cases d
    ·cases d
   rcases F with⟨t,x,m⟩|⟨t,x,y,m⟩|⟨c,m,v,hd⟩
   ·have K:Cb C o.op=1:=by rw[m];rfl
    rw[K];refine⟨λ_=>?_,λa1=>by omega⟩;obtain⟨V,q,h1,h2,h3,h4⟩:=Tj (a:=a) (show M8 C o.op=true by rw[m];rfl) h S;refine⟨o,V,ho,⟨λ_ _ _ _=>trivial,.inl ⟨U,λw' a3=>?_⟩⟩,next q (a.put o.dst V) w Γ Φ h1 (h4.lift Φ) h3 (put_defers _ _ _) (λ_ _ h=>h)⟩;unfold aa7;rw[Cs0 m d hst h S hF hs (a3.2 rfl) (h2 w (Ext.refl w))];exact⟨rfl,rfl⟩
   ·have K:Cb C o.op=3:=by rw[m];rfl
    rw[K];refine⟨λa1=>by omega,λ_ w1 T=>?_⟩;obtain⟨S1,u⟩:=S.like A.hI T;obtain⟨w2,hr,hx⟩:=B68 m d h S1 (hs.trans u);have P:=Ac7 (ro:=ro) (n:=n) (Q:=QF) A hyv h S1 λq a' w' Γ' z q1 q2 q3 q4=>next q a' w' Γ' z q1 (u.trans q2) q3 q4 λhq=>absurd (hq i (by simp)) (by rw[M,K];omega)
    unfold wpOpIn;simp only[ho,U,if_true];unfold ad6 at P ⊢;refine⟨P.1,?_⟩;have B:=P.2;rw[y9 _ _ _ (λc e=>by rw[m] at e;cases e),hr] at B ⊢;simp only[z7] at B ⊢;exact⟨λe=>by omega,λ_=>hx,B⟩
   ·have K:Cb C o.op=3:=by rw[m];simp[Cb,Zo,M8,Mo,Ao8,v]
    rw[K];refine⟨λa1=>by omega,λ_ w1 T=>?_⟩;obtain⟨S1,u⟩:=S.like A.hI T;obtain⟨V,w2,hr,hx⟩:=A85 m v hd h S1 hF (hs.trans u);have P:=Ac7 (ro:=ro) (n:=n) (Q:=QF) A hyv h S1 λq a' w' Γ' z q1 q2 q3 q4=>next q a' w' Γ' z q1 (u.trans q2) q3 q4 λhq=>absurd (hq i (by simp)) (by rw[M,K];omega)
    unfold wpOpIn;simp only[ho,U,if_true];unfold ad6 at P ⊢;refine⟨P.1,?_⟩;have B:=P.2;rw[y9 _ _ _ (λc e=>by rw[m] at e;cases e),hr] at B ⊢;simp only[z7] at B ⊢;exact⟨λe=>by omega,λ_=>hx,B⟩
def Ji{t:Option Nat}{n:Nat}{all:Array Oper}{E:Act->World->Prop}{e:Option (List Nat × List Nat)}(A:Ask C I O Z N)(l:HR Y L W)(b:List Nat){p:Bool}{Γ:Ctx}{Φ:Nat->Prop}{st:St X}{a:Act}{w:World}{k:St X->Option R}(c:∀i∈b,i<all.size)(d:Γ.yv=N)(j:p=true->∀g,Γ.St g->Y.St g)
  (h:Mm C O Z all e L p b st k=some r) (S:SI C I Γ Φ st a.tmps w) (q:Stp C Y L W J Γ st.hp w Φ) (hN:Nxt C I Γ Φ st.hp w a.defers k r E):O4 (I4 t) n C.P all (DX Y W e) (Fp e) (K7 C all) E b a w:=by
 cases e with
 | none=>exact Es A b (λi m=>⟨c i m,rfl⟩) d h S hN.q
 | some f=>exact ND A l b c d j h S q hN
end
def Ce0{T:Option Nat}{n id:Nat}{b:Array Oper}{Q:Exit->Act->World->Prop}{k:St X->Option R}(A:Ask C I O Z N)(H:C.P.follows .mixedOrders=true){f:Option (List Nat × List Nat)}(d:Cy5 C f b=true)(p:Γ.yv=N)(h:Mm C O Z b f st.hp true (Zk C b.toList) st k=some r)(S:SI C I Γ Φ st a.tmps w)
  (hN:Nxt C I Γ Φ st.hp w a.defers k r (λg w'=>Q .normal g w')):(ae3 id b true).wpIn (I4 T) n C.P Q a w:=by
 simp only[Cy5,c9] at d;obtain⟨y,u,z,v,B⟩:=d;rw[j6] at u v;refine AW (D:=DX Γ w f) (far:=Fp f) (kind:=K7 C b) (ord:=Zk C b.toList) H y (λj o c J e=>?_) (λj G=>?_) (o6 z) B (Ji A S.hr _ (λi F=>CD (v i F)) p (λ_ _ h=>h) h S (Stp.refl S.hr) λq g w' Γ' t K L M P w1 m=>?_)
 case refine_3=>
  obtain⟨x,l⟩:=M.like A.hI m;exact hN q g w1 Γ' t K (L.trans l) x P
 ·have:=u o (by simpa using ae1 J);rw[e] at this;cases this
 ·simp only[K7,ad7 G];exact p5 _
def Trn.B(C:Cfg)(V:Value)(x:Obj)(g:Nat):Trn->Prop
 | .row v=>∀(St:Nat->Prop) (w1:World),St g->w1.heap[g]? = some x->VS St w1 v V
 | .var e=>(C.ti e).ok=true/\(∀n el,C.sh e≠.array n el)/\V = .pointer (some ⟨g,0,none⟩)/\∃z:Value,x = .cells z.cells e/\∀(Γ:Ctx) sh w,CR Γ sh w ((C.ti e).ks.map W5) z.cells
def Aj2(C:Cfg)(o:Oper)(b:Operand->Value)(t:Trn):Prop:=∀w:World,∃V x,(execOp b o).run C.P w = .ok (.value V) (w.alloc x)/\t.B C V x w.heap.size
def C05(op:Op):Prop:=(∃t len b,op = .buildSlice t len b)\/∃e,op = .alloc e
def Cx5{St St':Nat->Prop}{w w':World}{v:SV}{U:Value}(c:v.plain=true)(h:VS St w v U):VS St' w' v U:=by
 cases h with
 | bool b=>exact .bool b
 | int k n=>exact .int k n
 | str s=>exact .str s
 | nilp=>exact .nilp
 | nilm=>exact .nilm
 | nilf=>exact .nilf
 | _=>simp[SV.plain] at c
def Bk9{k:Trn->Option R}(S:SI C I Γ Φ st a.tmps w)(h:Bk8 C o st.sl k=some r):o.guard=none/\C05 o.op/\∃t,k t=some r/\Aj2 C o a.eval t:=by
 unfold Bk8 at h;split at h
 ·rename_i e H c;refine⟨H,.inr ⟨_,c⟩,?_⟩;split at h
  ·cases h
  ·rename_i q;obtain⟨b,h⟩:=C9 h;refine⟨_,h,λw1=>?_⟩;obtain⟨z,T,g,_⟩:=QO (Γ:=Γ) (ev:=a.eval) (w:=w1) b c;exact⟨_,_,T,b,q,rfl,z,rfl,g⟩
 ·rename_i t len parts H c;refine⟨H,.inl ⟨_,_,_,c⟩,?_⟩;split at h
  ·rename_i e q;split at h
   ·rename_i b;simp only[c9,af] at b;obtain⟨⟨b,d⟩,Y⟩:=b;split at h
    ·rename_i out W;split at h
     ·rename_i vs L;obtain⟨K,h⟩:=C9 h;refine⟨_,h,?_⟩;obtain⟨hp,_⟩:=S.parts parts.toList;obtain⟨i,z,l,hz,u,F⟩:=Ho (Γ:=Γ) (sh:=A3 st.hp) (w:=w) b;obtain⟨_,_,_,a0⟩:=L6 b;have J:0<(C.ti e).ks.length:=by rename_i T g;omega
      have V:=Ab3 F (by simpa using J) len;rw[w6] at V;obtain⟨B,Q,D,e3⟩:=Ei (place':=λj=>some (j*i.size,i.size)) (λj off size m h0=>by rw[u];exact m) W V hp;obtain⟨f1,f2⟩:=X7 (As:=B.toList) L (by simpa using D.1.symm) (λj m=>by
       obtain⟨U,e,k⟩:=D.2 j m;exact⟨U,by simpa using e,k⟩)
      have y:B.size=len*(C.ti e).ks.length:=by
       have n:∀{place:Nat->Option (Nat × Nat)} {A:List (Nat × PV)} {cells out:List PV},Dt place cells A=some out->out.length=cells.length:=by
        intro place A
        induction A with
        | nil=>intro cells out h;simp only[Dt,j8] at h;rw[h]
        | cons p A ih=>
         intro cells out h;obtain⟨i,v⟩:=p;simp only[Dt] at h;split at h
         ·split at h
          ·rw[ih h,E5]
          grind
         grind
       rw[D.1,n W,Fr,w6]
      have f:vs.length=len*(C.ti e).ks.length:=by rw[f1,ae5,y]
      intro M;have hr:=Ci (P:=C.P) M len (parts.map λ(i,x)=>(i,a.eval x)) B (L0 q) l hz (by rw[u];exact d) (by rw[u] at Q ⊢;rw[x8];exact Q);refine⟨.slice (some ⟨M.heap.size,0,none⟩) len len,.cells B e,by simp only[execOp,c];simp[hr],λSt w1 G hx=>?_⟩;refine .sl true _ M.heap.size 0 len len _ (λi j=>(B[i*(C.ti e).ks.length+j]?).getD undef) (by rw[V5]) (p5 _) (by simp only[maxLen];omega) (λ_=>rfl) G (λi l=>(Cm _ _ _ f i l).1) (λi l j m=>?_) (λi l j m=>?_)
      ·obtain⟨g,_⟩:=(Cm _ _ _ f i l).2 j m;have:i*(C.ti e).ks.length+j<B.size:=by rw[y,<-f];exact g
       simp[ag2,hx,this]
      ·obtain⟨g,e4⟩:=(Cm _ _ _ f i l).2 j m;obtain⟨U,e5,k5⟩:=f2 _ g;rw[e4];have e6:(B[i*(C.ti e).ks.length+j]?).getD undef=U:=by grind
       rw[e6];exact Cx5 (j6.1 K _ (j4 g)) k5
     grind
    grind
   ·cases h
  ·cases h
 ·cases h
def A38{d:Option Tmp}{a b:Act}(h:QE d a b){c:Oper}(f:∀t,d=some t->t∉Bo3 c):∀x∈c.op.operands,b.eval x=a.eval x:=by
 intro x g;cases x with
 | tmp t=>
  have:d≠some t:=λe=>f t e (List.mem_filterMap.2 ⟨.tmp t,by simpa using g,rfl⟩)
  have e:=h t this;simp only[Act.eval,j9,e]
 | _=>rfl
def Dl8{m:Option Nat}{n:Nat}{all:Array Oper}{g:Nat}{d:Oper}{t:Trn}(l:all[g]? = some d)(k:d.guard=none)(f:C05 d.op)(b:Aj2 C d a.eval t){K:Act->World->Prop}
  (h:∀V x,t.B C V x w.heap.size->K (a.put d.dst V) (w.alloc x)):wpOpIn (I4 m) n C.P all QF g K a w:=by
 unfold wpOpIn;simp only[l];rw[ac (by simp[o0,k])];refine⟨λ_ _=>trivial,?_⟩;rw[y9 _ _ _ (λc e=>by rcases f with⟨_,_,_,h⟩|⟨_,h⟩<;>rw[h] at e<;>cases e)];obtain⟨V,x,i,j⟩:=b w;rw[i];exact h V x j
structure Aj0 (C:Cfg) (d:Option Tmp) (t:Trn) (g:Nat) (x:Obj) (Γ:Ctx) (Φ:Nat->Prop) (a:Act) (w:World):Prop where
 at':w.heap[g]? = some x
 st:¬ Γ.St g
 nm:∀b,Γ.nm b≠some g
 fo:¬ Φ g
 ex:∃V,t.B C V x g
 val:∀V,(∃t,d=some t/\a.tmps[t]? = some V)->t.B C V x g
def Ax1(S:SI C I Γ Φ st a.tmps w)(d:Option Tmp):SI C I Γ Φ { st with sl:=Cf d .bad st.sl } a.tmps w:=by
 cases d with
 | none=>exact S
 | some t=>exact⟨S.hr,S.sr.set t (λV _=>.bad V) (by simp[PV.nms]),S.g,S.inv,S.dis⟩
def B18(S:SI C I Γ Φ st a.tmps w){d:Option Tmp}{v:PV}(h:∀V,(∃t,d=some t/\a.tmps[t]? = some V)->VP Γ (A3 st.hp) w v V)(b:∀c∈v.nms,c<st.hp.length):SI C I Γ Φ { st with sl:=Cf d v st.sl } a.tmps w:=by
 cases d with
 | none=>exact S
 | some t=>exact⟨S.hr,S.sr.set t (λV hV=>h V ⟨t,rfl,hV⟩) b,S.g,S.inv,S.dis⟩
def Aj0.step{Γ':Ctx}{Φ':Nat->Prop}{H':List Blk}{a':Act}{w':World}{d4 d:Option Tmp}{t:Trn}{g:Nat}{x:Obj}(h:Aj0 C d4 t g x Γ Φ a w)(hs:Stp C Γ st.hp w Φ Γ' H' w' Φ')(hag:QE d a a')(hne:d4≠none->d≠d4):Aj0 C d4 t g x Γ' Φ' a' w':=by
 have hlt:g<w.heap.size:=(o7.1 h.at').1;refine⟨by rw[hs.frame g hlt h.nm h.fo];exact h.at',λe=>?_,λb e=>?_,λe=>?_,h.ex,?_⟩
 ·rcases hs.stnew g e with e|e
  ·exact h.st e
  ·omega
 ·rcases hs.own b g e with⟨_,e⟩|e
  ·exact h.nm b e
  ·omega
 ·rcases hs.foot g e with e|e
  ·exact h.fo e
  ·omega
 ·rintro V ⟨t,ht,hV⟩;have:d≠some t:=λe=>hne (by rw[ht];simp) (by rw[e,ht])
  rw[hag t this] at hV;exact h.val V ⟨t,ht,hV⟩
def KB{H:List Blk}(x:Blk)(g:Nat):Am Γ (A3 H) w (Γ.upd H.length g) (A3 (H++[x])) w (· < H.length):=
 ⟨λ_ _=>rfl,λ_ h=>h,λb c=>by simp only[Ctx.upd];rw[ae (by omega)],λb c=>Q1 c,λ_ _ _ _=>rfl,rfl⟩
def Stp.adopt{Γ0:Ctx}{H0 H:List Blk}{w0:World}{Φ0:Nat->Prop}{g:Nat}(x:Blk)(hs:Stp C Γ0 H0 w0 Φ0 Γ H w Φ)(hg:w0.heap.size<=g):Stp C Γ0 H0 w0 Φ0 (Γ.upd H.length g) (H++[x]) w Φ:=by
 have hl:=hs.len;refine⟨hs.os,hs.tape,hs.output,hs.size,hs.sub,hs.stnew,λb g' h=>?_,hs.foot,hs.frame,hs.yv,by simp;omega,λb hb hf=>?_⟩
 ·simp only[Ctx.upd] at h;split at h
  ·grind
  ·exact hs.own b g' h
 ·obtain⟨p1,p2,p3⟩:=hs.keep b hb hf;exact⟨by simp only[Ctx.upd];rw[ae (by omega)];exact p1,by rw[Q1 (by omega)];exact p2,p3⟩
def SI.adopt(S:SI C I Γ Φ st a.tmps w){x:Blk}{g:Nat}(hlt:g<w.heap.size)(h1:¬ Γ.St g)(h2:∀b,Γ.nm b≠some g)(h3:¬ Φ g)(hb:BR (Γ.upd st.hp.length g) (A3 (st.hp++[x])) w st.hp.length x)(hn:∀c∈x.nms,c<st.hp.length+1) :
  SI C I (Γ.upd st.hp.length g) Φ { st with hp:=st.hp++[x] } a.tmps w:=by
 have M:Am Γ (A3 st.hp) w (Γ.upd st.hp.length g) (A3 (st.hp++[x])) w (· < st.hp.length):=KB x g;refine⟨⟨λb b' g' k1 k2=>?_,λb g' h=>?_,S.hr.stlt,λb hb' c hc=>?_,λb hb'=>?_⟩,SR.grow M S.sr,S.g,S.inv,λb g' h=>?_⟩
 ·simp only[Ctx.upd] at k1 k2;split at k1<;>split at k2
  ·omega
  ·rw[<-k1] at k2;exact absurd k2 (h2 b')
  ·rw[<-k2] at k1;exact absurd k1 (h2 b)
  ·exact S.hr.inj b b' g' k1 k2
 ·simp only[Ctx.upd] at h;split at h
  ·simp only[j8] at h;subst h;exact⟨by simp;omega,hlt,h1⟩
  ·have:=S.hr.lt b g' h;exact⟨by simp;omega,this.2⟩
 ·rw[x4,ae2] at hb' ⊢;by_cases e:b=st.hp.length
  ·subst e;simp at hc;exact hn c hc
  ·have hb2:b<st.hp.length:=by omega
   rw[y7 hb2] at hc;have:=S.hr.nms b hb2 c hc;omega
 ·rw[x4,ae2] at hb';by_cases e:b=st.hp.length
  ·subst e;simpa using hb
  ·have hb2:b<st.hp.length:=by omega
   rw[y7 hb2];exact(S.hr.blk b hb2).mono M (M.nm b hb2) (λ_ _=>rfl) (λc hc=>S.hr.nms b hb2 c hc)
 ·simp only[Ctx.upd] at h;split at h
  ·simp only[j8] at h;subst h;exact h3
  ·exact S.dis b g' h
def Bq0{k:St X->Option R}{d:Option Tmp}{t:Trn}{g:Nat}{x:Obj}(J:HI I)(S:SI C I Γ Φ st a.tmps w)(h:Um C d t st k=some r)(f:Aj0 C d t g x Γ Φ a w) :
  ∃m Γ',k m=some r/\SI C I Γ' Φ m a.tmps w/\∀{q:Ctx} {G:List Blk} {F:World} {u:Nat->Prop},Stp C q G F u Γ st.hp w Φ->F.heap.size<=g->Stp C q G F u Γ' m.hp w Φ:=by
 have p:g<w.heap.size:=(o7.1 f.at').1;cases t with
 | row v=>
  have L:=S.wideSt J (St':=λy=>Γ.St y\/y=g) (λ_ h=>.inl h) (λy i=>by rcases i with i|rfl;exact λe=>(J.foot _ _ _ _ S.inv y e).2 i;exact f.fo) (λb y K=>by
   rintro(i|rfl)
   ·exact(S.hr.lt b y K).2.2 i
   ·exact f.nm b K) (λy i=>by rcases i with i|rfl;exact S.hr.stlt y i;exact p)
  exact⟨_,_,h,B18 L (λV hV=>.s _ _ (f.val V hV _ _ (.inr rfl) f.at')) (by simp[PV.nms]),λl B=>⟨l.os,l.tape,l.output,l.size,λy i=>.inl (l.sub y i),λy i=>by rcases i with i|rfl;exact l.stnew y i;exact .inr B,l.own,l.foot,l.frame,l.yv,l.len,l.keep⟩⟩
 | var e=>
  obtain⟨_,D,a0,_,z,rfl,hz⟩:=f.ex;simp only[Um,GI,D,if_true] at h;have n:=hz Γ (A3 st.hp) w;obtain⟨T,Q,W,Y,e4,e5,e6,H⟩:=Af (C:=C) (C.nilT e) ((C.ti e).ks.map W5) 0 st.hp z.cells.toList S.hr (by simpa using n.1.symm) (λj A=>by
   obtain⟨U,e,k⟩:=n.2 j A;exact⟨U,by simpa using e,k⟩) (by rw[Sk];simp)
  rw[Q] at h;have M:SI C I Γ Φ { st with hp:=st.hp++T } a.tmps w:=⟨W,SR.grow e4 S.sr,S.g,S.inv,S.dis⟩
  have P:=M.adopt (x:=.box (I8 (C.nilT e) ((C.ti e).ks.map W5) 0 st.hp).1) p f.st f.nm f.fo ⟨g,z.cells,e,by simp[Ctx.upd],f.at',by simpa using e5.symm,λj A=>by
   obtain⟨U,f1,f2⟩:=e6 j A;exact⟨U,by simpa using f1,f2.mono (KB _ g) λc n=>H c (C8.2 ⟨j,A,n⟩)⟩⟩ (λc n=>by have:=H c n;simp only at this ⊢;omega)
  exact⟨_,_,h,B18 P (λV hV=>by
   obtain⟨_,_,rfl,_⟩:=f.val V hV;exact .ptrB _ 0 g J0 (by simp[Ctx.upd])) (by simp[PV.nms]),λl B=>Stp.adopt _ (l.trans (Y.lift Φ)) B⟩
def QP{all:Array Oper}{e:Nat}{c:Oper}{i:Nat}{b:List Nat}(f:all[e]? = some c)(d:Jk all e (i::b)=true):∃o,all[i]? = some o/\(∀t,o.dst=some t->t∉Bo3 c)/\(c.dst≠none->o.dst≠c.dst)/\Jk all e b=true:=by unfold Jk at d ⊢;grind
section
variable {W : Ctx} {Y : List Blk} {Q : World} {J : Nat -> Prop} {L : Option (List Nat × List Nat)}
def NF{ro:Option Nat}{n:Nat}{all:Array Oper}{E:Act->World->Prop}{i4:Nat}{p:Oper}{t:Trn}{post:List Nat}{q:Ctx}{P:List Blk}{H:World}{u:Nat->Prop}{ds:List Deferred}{g:Nat}{x:Obj}{k:St X->Option R}(A:Ask C I O Z N)(z:HR W Y Q)(V:all[i4]? = some p)(b:∀i∈post,i<all.size)(U:H.heap.size<=g)(m:Q.heap.size<=g)(hN:Nxt C I q u P H ds k r E):∀(d:List Nat) {Γ:Ctx} {Φ:Nat->Prop} {st:St X} {a:Act} {w:World},(∀i∈d,i<all.size)->Jk all i4 d=true->Γ.yv=N->
  Py C O Z all L Y p.dst d st (λf=>Um C p.dst t f λG=>Mm C O Z all L Y false post G k)=some r->SI C I Γ Φ st a.tmps w->Aj0 C p.dst t g x Γ Φ a w->Stp C q P H u Γ st.hp w Φ->Stp C W Y Q J Γ st.hp w Φ->a.defers=ds->O4 (I4 ro) n C.P all (DX W Q L) (Fp L) (K7 C all) E (d++post) a w
 | [],Γ,Φ,st,a,w,hlt,hap,hyv,h,S,hah,hs,hsF,hd=>by
  simp only[Py] at h;obtain⟨F,Γ',h',S',c⟩:=Bq0 A.hI S h hah;have c:=@c;have T:=c hs U;have h2:=c hsF m;exact Ji A z post b (T.yv.trans (hs.yv.symm.trans hyv)) (λe=>by cases e) h' S' h2 λf a2 w2 K M q1 q2 q3 q4=>hN f a2 w2 K M q1 (T.trans q2) q3 (q4.trans hd)
 | i::rest,Γ,Φ,st,a,w,hlt,hap,hyv,h,S,hah,hs,hsF,hd=>by
  obtain⟨o,hi,a0,D,l⟩:=QP V hap;simp only[Py] at h;exact EU (E:=O4 (I4 ro) n C.P all (DX W Q L) (Fp L) (K7 C all) E (rest++post)) hi (Ji A z [i] (λj v=>hlt j (by simp at v;simp[v])) hyv (λe=>by cases e) h S hsF λF a' w' Γ' Φ' k1 y k3 k4 B=>
   NF A z V b U m hN rest (λj v=>hlt j (by simp[v])) l (y.yv.trans hyv) k1 (Ax1 k3 p.dst) (hah.step y B D) (hs.trans y) (hsF.trans y) (k4.trans hd))
def Bd8{U:Option Nat}{n:Nat}{all:Array Oper}{E:Act->World->Prop}{F:Nat}{m:Oper}{t:Trn}{post:List Nat}(A:Ask C I O Z N)(hF:HR W Y Q)(ho:all[F]? = some m)(hg:m.guard=none)(H:C05 m.op)(z:∀i∈post,i<all.size):∀(c:List Nat) {Γ:Ctx} {Φ:Nat->Prop} {st:St X} {a:Act} {w:World} {k:St X->Option R},(∀i∈c,i<all.size)->Jk all F c=true->Γ.yv=N->
  Py C O Z all L Y m.dst c { st with sl:=Cf m.dst .bad st.sl } (λq=>Um C m.dst t q λD=>Mm C O Z all L Y false post D k)=some r->SI C I Γ Φ st a.tmps w->Stp C W Y Q J Γ st.hp w Φ->Aj2 C m a.eval t->Nxt C I Γ Φ st.hp w a.defers k r E->AY (I4 U) n C.P all (DX W Q L) (Fp L) (K7 C all) E F post c a w:=by
 have early:∀(c:List Nat) {Γ:Ctx} {Φ:Nat->Prop} {st:St X} {a:Act} {w:World} {k:St X->Option R},(∀i∈c,i<all.size)->Jk all F c=true->Γ.yv=N->
   Py C O Z all L Y m.dst c { st with sl:=Cf m.dst .bad st.sl } (λq=>Um C m.dst t q λD=>Mm C O Z all L Y false post D k)=some r->SI C I Γ Φ st a.tmps w->Stp C W Y Q J Γ st.hp w Φ->Aj2 C m a.eval t->Nxt C I Γ Φ st.hp w a.defers k r E->
   ∀w1,N9 w w1->wpOpIn (I4 U) n C.P all QF F (λa' w'=>N9 w1 w'/\O4 (I4 U) n C.P all (DX W Q L) (Fp L) (K7 C all) E (c++post) a' w') a w1:=by
  intro c Γ Φ st a w k g p l h S f d hN w1 B;refine Dl8 ho hg H d λV x hV=>⟨Vb w1 x,?_⟩
  obtain⟨P,K⟩:=S.like A.hI B;obtain⟨S2,M⟩:=P.like A.hI (Vb w1 x);refine NF (a:=a.put m.dst V) A hF ho z B.1.2 (p4 f.size B.1.2) hN c g p l h (S2.put (o:=m) (v:=.bad) (V:=V) (.bad V) (by simp[PV.nms])) ⟨G9 rfl,λe=>ae7 _ (P.hr.stlt _ e),λb e=>ae7 _ (P.hr.lt b _ e).2.1,λe=>ae7 _ (A.hI.foot _ _ _ _ P.inv _ e).1,⟨V,hV⟩,?_⟩ (K.trans M) (f.trans (K.trans M)) (put_defers _ _ _);rintro V' ⟨t,ht,u⟩;have e:V'=V:=by
   rw[ht] at u;simp only[ah9] at u;have:=(o7.1 u).1;simp at this;simpa[this] using u.symm
  rw[e];exact hV
 intro c
 induction c with
 | nil=>
  intro Γ Φ st a w k g p l h S f d hN;exact early [] g p l h S f d hN
 | cons i y ih=>
  intro Γ Φ st a w k g p l h S f d hN;refine⟨?_,λ_=>early (i::y) g p l h S f d hN⟩;obtain⟨o,hi,a1,a3,G⟩:=QP ho p;have S0:=Ax1 S m.dst;simp only[Py] at h;exact EU (E:=AY (I4 U) n C.P all (DX W Q L) (Fp L) (K7 C all) E F post y) hi (Ji A hF [i] (λj T=>g j (by simp at T;simp[T])) l (λe=>by cases e) h S0 f λa4 a' w' Γ' Φ' k1 k2 k3 k4 a0=>
   ih (λj T=>g j (by simp[T])) G (k2.yv.trans l) k1 k3 (f.trans k2) (by
    have e:=execOp_congr (ρ:=a'.eval) (ρ':=a.eval) m (λcs b e=>by rcases H with⟨_,_,_,h⟩|⟨_,h⟩<;>rw[h] at e<;>cases e) (A38 a0 a1);unfold Aj2 at d ⊢;rw[e];exact d) λq a2 w2 Γ2 Φ2 q1 q2 q3 q4=>hN q a2 w2 Γ2 Φ2 q1 (k2.trans q2) q3 (q4.trans k4))
end
def Bh4{L:Option Nat}{n id d:Nat}{b:Array Oper}{D:Oper}{Q:Exit->Act->World->Prop}{k:St X->Option R}(A:Ask C I O Z N)(hm:C.P.follows .mixedOrders=true){g:Option (List Nat × List Nat)}(y:Bh3 C g b d=true)(B:Γ.yv=N)(F:b[d]? = some D)
  (h:(Mm C O Z b g st.hp true (Lj C b) st λl=>Bk8 C D l.sl λt=>
    Py C O Z b g st.hp D.dst (Jl C b d) { l with sl:=Cf D.dst .bad l.sl } λp=>Um C D.dst t p λM=>
     Mm C O Z b g st.hp false (Ff C b d) M k)=some r) (S:SI C I Γ Φ st a.tmps w)
  (hN:Nxt C I Γ Φ st.hp w a.defers k r (λa' w'=>Q .normal a' w')):(ae3 id b true).wpIn (I4 L) n C.P Q a w:=by
 simp only[Bh3,c9] at y;obtain⟨V,W,h3,Y,h5,h6,h7⟩:=y;rw[j6] at W Y;have x:∀(j:Nat) (o:Oper) c,b[j]? = some o->o.op≠.defer c:=λj o c F e=>by
  have:=W o (by simpa using ae1 F);rw[e] at this;cases this
 have hk:∀j,b.size<=j->K7 C b j<=1:=λj f=>by
  simp only[K7,ad7 f];exact p5 _
 have m:∀j,j∈Lj C b\/j∈Jl C b d\/j∈Ff C b d->j<b.size:=λj f=>CD (Y j (by
  rcases f with f|f|f<;>simp[f]))
 have hC:O4 (I4 L) n C.P b (DX Γ w g) (Fp g) (K7 C b) (AY (I4 L) n C.P b (DX Γ w g) (Fp g) (K7 C b) (λa P=>∀w,N9 P w->Q .normal a w) d (Ff C b d) (Jl C b d)) (Lj C b) a w:=
  Ji A S.hr _ (λi q=>m i (.inl q)) B (λ_ _ h=>h) h S (Stp.refl S.hr) λl a1 w1 Γ1 Φ1 k1 K k3 k4=>by
   obtain⟨hg,G,v,hv,z⟩:=Bk9 k3 k1;exact Bd8 A S.hr F hg G (λi q=>m i (.inr (.inr q))) _ (λi q=>m i (.inr (.inl q))) h5 (K.yv.trans B) hv k3 K z λp a2 w2 T U q1 q2 q3 q4 w3 J=>by
    obtain⟨S3,H⟩:=q3.like A.hI J;exact hN p a2 w3 T U q1 (K.trans (q2.trans H)) S3 (q4.trans k4)
 refine wpIn_region_any hm ?_;have u:=o6 h3;have e:b.size=(Ff C b d).length+1+(Jl C b d).length+(Lj C b).length:=by
  rw[<-u];simp only[x4,af5];omega
 rw[e];refine Pn (wr:=λj=>s8 3 (K7 C b j)) (Qn:=λa w=>Q .normal a w) (λ_ _ h=>h) _ _ _ _ (Sv (fin:=Su .any b (Fp g) (K7 C b) d (Ff C b d) (Jl C b d)) V x hk
  (λlisted a P hf hd hM w hw=>Cq4 V x hk _ listed a P hf hd hM w hw) (Lj C b) (ac4 ((Ff C b d).length+1+(Jl C b d).length+(Lj C b).length) false) a w (by rw[<-e];exact h7) (λj o F f=>?_) hC _ ⟨⟨λ_ _=>rfl,p5 _⟩,rfl,rfl,rfl⟩)
 simp only[j9,ad2] at f;split at f<;>cases f
def Dk6{l:Option Nat}{n id:Nat}{c:Array Oper}{Q:Exit->Act->World->Prop}{k:St X->Option R}(A:Ask C I O Z N)(f:C.P.follows .mixedOrders=true)(b:Bh2 C id c=true)(d:Γ.yv=N)(h:Bh1 C O Z id c true st k=some r)(S:SI C I Γ Φ st a.tmps w)
  (hN:Nxt C I Γ Φ st.hp w a.defers k r (λj w'=>Q .normal j w')):(ae3 id c true).wpIn (I4 l) n C.P Q a w:=by
 unfold Bh1 at h;unfold Bh2 at b;split at h
 ·rename_i e;rw[e] at b;exact Ce0 A f b d h S hN
 ·rename_i i e;rw[e] at b;split at h
  ·rename_i o _ g;refine Bh4 A f ?_ d g h S hN;rw[x6] at b;rcases b with b|b
   ·have:=(o7.1 g).1;have:=aa5 b;omega
   ·exact b
  ·cases h
end
def Ctx.cut(Γ:Ctx)(L:Nat):Ctx:={ Γ with St:=λg=>Γ.St g\/∃b,L<=b/\Γ.nm b=some g,nm:=λb=>if b<L then Γ.nm b else none }
def mkD(D:Nat):Deferred:={ target:=.collected D,args:=#[] }
section
variable {σ R : Type} {r : R} {C : Cfg} {I : σ -> (Nat -> Prop) -> (Nat -> Prop) -> World -> Prop} {Γ Γ' : Ctx} {Φ Φ' : Nat -> Prop} {st : St σ} {a : Act} {w w' : World} {Y : G4} {L : Yh σ} {yv : Value} {o : Oper} {H H' : List Blk} {tmps : Array Value}
def Off(Γ:Ctx)(Φ:Nat->Prop)(w:World)(g:Nat):Prop:=g<w.heap.size/\¬ Γ.St g/\(∀b,Γ.nm b≠some g)/\¬ Φ g
def Off.step{g:Nat}(h:Off Γ Φ w g)(s:Stp C Γ H w Φ Γ' H' w' Φ'):Off Γ' Φ' w' g/\w'.heap[g]? = w.heap[g]?:=by
 obtain⟨h1,h2,h3,h4⟩:=h;refine⟨⟨k9 h1 s.size,λq=>?_,λb q=>?_,λq=>?_⟩,s.frame g h1 h3 h4⟩
 ·rcases s.stnew g q with q|q
  ·exact h2 q
  ·omega
 ·rcases s.own b g q with⟨_,q⟩|q
  ·exact h3 b q
  ·omega
 ·rcases s.foot g q with q|q
  ·exact h4 q
  ·omega
def Mk(n0:Nat)(Γ:Ctx)(Φ:Nat->Prop)(w:World)(ds:List Deferred):Prop:=n0<=w.heap.size/\∃b:List Nat,ds=b.map mkD/\b.Nodup/\∀D∈b,n0<=D/\Off Γ Φ w D/\w.heap[D]? = some (.deferred (some []))
def Mk.nil{n0:Nat}(h:n0<=w.heap.size):Mk n0 Γ Φ w []:=⟨h,[],rfl,ah1,by simp⟩
def Mk.step{n0:Nat}{ds:List Deferred}(h:Mk n0 Γ Φ w ds)(s:Stp C Γ H w Φ Γ' H' w' Φ'):Mk n0 Γ' Φ' w' ds:=by obtain⟨h0,Ds,h1,h2,h3⟩:=h;refine⟨p4 h0 s.size,Ds,h1,h2,λD hD=>?_⟩;obtain⟨k1,k2,k3⟩:=h3 D hD;obtain⟨q1,q2⟩:=k2.step s;exact⟨k1,q1,q2.trans k3⟩
structure Xb (Γ:Ctx) (Φ:Nat->Prop) (w w':World):Prop where
 same:∀g,Γ.St g\/(∃b,Γ.nm b=some g)\/Φ g->w'.heap[g]? = w.heap[g]?
 size:w.heap.size<=w'.heap.size
 os:w'.os=w.os
 tape:w'.tape=w.tape
 output:w'.output=w.output
def Xb.mono(h:Xb Γ Φ w w'):Am Γ (A3 H) w Γ (A3 H) w' (λ_=>True):=
 ⟨λg hg=>h.same g (.inl hg),λ_ h=>h,λ_ _=>rfl,λ_ _=>rfl,λb g _ hg=>F3 (h.same g (.inr (.inl ⟨b,hg⟩))),rfl⟩
def SI.offW(hI:HI I)(S:SI C I Γ Φ st tmps w)(h:Xb Γ Φ w w'):SI C I Γ Φ st tmps w':=by
 have hf:=hI.foot _ _ _ _ S.inv;refine⟨⟨S.hr.inj,λb g hb=>?_,λg hg=>k9 (S.hr.stlt g hg) h.size,S.hr.nms,λb hb=>(S.hr.blk b hb).mono h.mono rfl (λg hg=>h.same g (.inr (.inl ⟨b,hg⟩))) (λ_ _=>trivial)⟩,
  S.sr.mono h.mono (λc hc=>⟨trivial,S.sr.nms c hc⟩),S.g.mono (λg hg=>h.same g (.inl hg)) (λ_ h=>h),
  hI.mono _ _ _ _ _ _ S.inv (λ_ h=>h) (λg hg hp=>(hf g hp).2 hg) (λg hg=>k9 (S.hr.stlt g hg) h.size) (λg hg=>h.same g (hg.elim .inl (λq=>.inr (.inr q)))) h.size h.os h.tape h.output,S.dis⟩
 obtain⟨q1,q2,q3⟩:=S.hr.lt b g hb;exact⟨q1,k9 q2 h.size,q3⟩
structure Pg (C:Cfg) (Γ:Ctx) (H:List Blk) (w:World) (Φ:Nat->Prop) (Γ':Ctx) (H':List Blk) (w':World) (Φ':Nat->Prop):Prop where
 os:w'.os=w.os
 tape:w'.tape=w.tape
 output:w'.output=w.output
 size:w.heap.size<=w'.heap.size
 sub:∀g,Γ.St g->Γ'.St g
 own:∀b g,Γ'.nm b=some g->(b<H.length/\Γ.nm b=some g)\/w.heap.size<=g
 foot:∀g,Φ' g->Φ g\/w.heap.size<=g
 yv:Γ'.yv=Γ.yv
 len:H.length<=H'.length
 keep:∀b,b<H.length->Je C (A3 H b)->Γ'.nm b=Γ.nm b/\A3 H' b=A3 H b/\∀g,Γ.nm b=some g->w'.shape? g=w.shape? g
def Stp.pg(h:Stp C Γ H w Φ Γ' H' w' Φ'):Pg C Γ H w Φ Γ' H' w' Φ':=⟨h.os,h.tape,h.output,h.size,h.sub,h.own,h.foot,h.yv,h.len,h.keep⟩
def Pg.trans{Γ'':Ctx}{H'':List Blk}{w'':World}{Φ'':Nat->Prop}(h:Pg C Γ H w Φ Γ' H' w' Φ')(k:Pg C Γ' H' w' Φ' Γ'' H'' w'' Φ''):Pg C Γ H w Φ Γ'' H'' w'' Φ'':=by
 have h1:=h.size;refine⟨k.os.trans h.os,k.tape.trans h.tape,k.output.trans h.output,p4 h.size k.size,λg hg=>k.sub g (h.sub g hg),λb g hb=>?_,λg hg=>?_,k.yv.trans h.yv,p4 h.len k.len,λb hb hf=>?_⟩
 ·rcases k.own b g hb with⟨_,q⟩|q
  ·exact h.own b g q
  ·exact .inr (by omega)
 ·rcases k.foot g hg with q|q
  ·exact h.foot g q
  ·exact .inr (by omega)
 ·obtain⟨k1,k2,k3⟩:=h.keep b hb hf;have h2:=h.len;obtain⟨m1,m2,m3⟩:=k.keep b (by omega) (by rw[k2];exact hf);exact⟨m1.trans k1,m2.trans k2,λg hg=>(m3 g (k1.trans hg)).trans (k3 g hg)⟩
def Pg.off(hH:HR Γ H w)(h:Xb Γ Φ w w'):Pg C Γ H w Φ Γ H w' Φ:=
 ⟨h.os,h.tape,h.output,h.size,λ_ h=>h,λb g hb=>.inl ⟨(hH.lt b g hb).1,hb⟩,λ_ h=>.inl h,rfl,p5 _,λb hb _=>⟨rfl,rfl,λg hg=>F3 (h.same g (.inr (.inl ⟨b,hg⟩)))⟩⟩
def Pg.wideSt{St':Nat->Prop}(hH:HR Γ H w)(hs:∀g,Γ.St g->St' g):Pg C Γ H w Φ { Γ with St:=St' } H w Φ:=
 ⟨rfl,rfl,rfl,p5 _,hs,λb g hb=>.inl ⟨(hH.lt b g hb).1,hb⟩,λ_ h=>.inl h,rfl,p5 _,λ_ _ _=>⟨rfl,rfl,λ_ _=>rfl⟩⟩
def Xb.put{l:Nat}{ob:Obj}(h:Off Γ Φ w l):Xb Γ Φ w (w.putObj l ob):=by
 refine⟨λg hg=>p9 ?_,by simp,rfl,rfl,rfl⟩;rintro rfl;rcases hg with q|⟨b,q⟩|q
 ·exact h.2.1 q
 ·exact h.2.2.1 b q
 ·exact h.2.2.2 q
def Off.put{g l:Nat}{ob:Obj}(h:Off Γ Φ w g):Off Γ Φ (w.putObj l ob) g:=⟨by simpa using h.1,h.2⟩
def Mk.put{n0 l:Nat}{ob:Obj}{rr:Loop}{ds:List Deferred}(h:Mk n0 Γ Φ w ds)(hl:w.heap[l]? = some (.loop rr)):Mk n0 Γ Φ (w.putObj l ob) ds:=by obtain⟨h0,Ds,h1,h2,h3⟩:=h;refine⟨by simpa using h0,Ds,h1,h2,λD hD=>?_⟩;obtain⟨k1,k2,k3⟩:=h3 D hD;refine⟨k1,k2.put,(p9 ?_).trans k3⟩;rintro rfl;rw[k3] at hl;cases hl
def Ro(b:Option Nat)(Γ:Ctx)(Φ:Nat->Prop)(w:World):Prop:=∀l,b=some l->Off Γ Φ w l/\∃c:Loop,w.heap[l]? = some (.loop c)
def Ro.none:Ro none Γ Φ w:=λ_ h=>by cases h
def Ro.step{ro:Option Nat}(h:Ro ro Γ Φ w)(s:Stp C Γ H w Φ Γ' H' w' Φ'):Ro ro Γ' Φ' w':=λl e=>by
 obtain⟨k1,rr,k2⟩:=h l e;obtain⟨q1,q2⟩:=k1.step s;exact⟨q1,rr,q2.trans k2⟩
def Da0(C:Cfg)(I:σ->(Nat->Prop)->(Nat->Prop)->World->Prop)(n0:Nat)(Γ:Ctx)(Φ:Nat->Prop)(H:List Blk)(w:World)(k:Out->St σ->Option R)(r:R)(Q:Exit->Act->World->Prop):Prop:=
 ∀o b c w' Γ' Φ',k o b=some r->Stp C Γ H w Φ Γ' b.hp w' Φ'->SI C I Γ' Φ' b c.tmps w'->Mk n0 Γ' Φ' w' c.defers->Q o.exit' c w'
def WP(C:Cfg)(I:σ->(Nat->Prop)->(Nat->Prop)->World->Prop)(Y:G4)(L:Yh σ)(yv:Value)(c:Code):Prop:=
 ∀{R:Type} {r:R} {b:Option Nat} {n n0:Nat} {Γ:Ctx} {Φ:Nat->Prop} {st:St σ} {a:Act} {w:World} {k:Out->St σ->Option R} {Q:Exit->Act->World->Prop},
  Γ.yv=yv->A9 C Y L c st k=some r->SI C I Γ Φ st a.tmps w->Mk n0 Γ Φ w a.defers->Ro b Γ Φ w->Da0 C I n0 Γ Φ st.hp w k r Q->c.wpIn (I4 b) n C.P Q a w
def Lh(fn:FuncId)(tmps:Array Value)(d:Array Tmp)(c b:Code)(D:Nat)(s:LoopState)(p:Option Code):Loop:={ state:=s,pending:=p,fn:=fn,tmps:=tmps,params:=d,assign:=c,body:=b,defers:=D }
def jmp:Out->Code
 | .normal=>.skip
 | .exit id=>.exit id
 | .ret=>.ret
def Do1:Option Out->LoopState
 | none=>.ready
 | some _=>.done
structure RIb (C:Cfg) (I:σ->(Nat->Prop)->(Nat->Prop)->World->Prop) (Γ0:Ctx) (H0:List Blk) (w0:World) (Φ0:Nat->Prop) (sl0:List PV) (tmps:Array Value) (l:Nat) (D:Option Nat) (rc:LoopState->Option Code->Loop) (x:List Blk × Option Out × σ) (St Φ:Nat->Prop) (w:World) (Γb:Ctx) (Φb:Nat->Prop):Prop where
 si:SI C I Γb Φb { sl:=sl0,hp:=x.1,s:=x.2.2 } tmps w
 pg:Pg C Γ0 H0 w0 Φ0 Γb x.1 w Φb
 st:∀g,Γb.St g->St g
 ph:∀g,Φ g↔Φb g\/(∃b,Γb.nm b=some g)\/g=l\/D=some g
 ft:∀g,Φ g->g<w.heap.size/\¬St g
 ol:Off Γb Φb w l
 od:∀d,D=some d->Off Γb Φb w d
 hl:w.heap[l]? = some (.loop (rc (Do1 x.2.1) (x.2.1.map jmp)))
 hd:∀d,D=some d->w.heap[d]? = some (.deferred (some []))
def RI(C:Cfg)(I:σ->(Nat->Prop)->(Nat->Prop)->World->Prop)(c:Ctx)(g:List Blk)(i:World)(e:Nat->Prop)(b:List PV)(tmps:Array Value)(l:Nat)(D:Option Nat)(h:LoopState->Option Code->Loop):(List Blk × Option Out × σ)->(Nat->Prop)->(Nat->Prop)->World->Prop:=
 λx St Φ w=>∃d f,RIb C I c g i e b tmps l D h x St Φ w d f
def D54{m:Ctx}{p:List Blk}{G:World}{n:Nat->Prop}{k:List PV}{l:Nat}{D:Option Nat}{F:LoopState->Option Code->Loop}(t:HI I):HI (RI C I m p G n k tmps l D F):=by
 refine⟨λx St Φ w ⟨c,e,r⟩=>r.ft,λx St Φ w St' w' ⟨c,e,r⟩ z u v i j y A B=>?_⟩;have inΦ:∀{g},e g\/(∃b,c.nm b=some g)\/g=l\/D=some g->Φ g:=fun {g} h=>(r.ph g).2 h
 have O:Xb c e w w':=⟨λg f=>by
  rcases f with q|q|q
  ·exact i g (.inl (r.st g q))
  ·exact i g (.inr (inΦ (.inr (.inl q))))
  ·exact i g (.inr (inΦ (.inl q))),j,y,A,B⟩
 have up:∀{g},Off c e w g->Off c e w' g:=λh=>⟨k9 h.1 j,h.2⟩
 exact⟨c,e,r.si.offW t O,r.pg.trans (Pg.off r.si.hr O),λg f=>z g (r.st g f),r.ph,λg f=>⟨k9 (r.ft g f).1 j,λq=>u g q f⟩,up r.ol,λd h=>up (r.od d h),
  (i l (.inr (inΦ (.inr (.inr (.inl rfl)))))).trans r.hl,λd h=>(i d (.inr (inΦ (.inr (.inr (.inr h)))))).trans (r.hd d h)⟩
end
section
variable {Y R : Type} {r : R} {C : Cfg} {I : Y -> (Nat -> Prop) -> (Nat -> Prop) -> World -> Prop} {L Γ' : Ctx} {J Q : Nat -> Prop} {O : St Y} {a : Act} {w w' : World} {U : G4} {W : Yh Y} {K : Value} {H H' : List Blk} {Z : Array Value}
def QW(x:Blk):(Jw x).nms=[]:=by
 cases x with
 | box cells=>
  simp only[Jw,Blk.nms];rw[x3];intro c b;obtain⟨j,e,b⟩:=C8.1 b;simp[PV.nms] at b
 | mp d=>
  simp only[Jw,Blk.nms];rw[x3];intro c b;obtain⟨j,e,b⟩:=C8.1 b;simp[PV.nms,PJ] at b
 | _=>rfl
def QX(x:Blk):(Jw x).shp=x.shp:=by cases x<;>rfl
def Cq0{sh sh':Nat->Option Shp}{b B:Nat}{x:Blk}(h:BR L sh w b x)(f:Γ'.nm B=L.nm b)(t:∀g,L.St g->w'.heap[g]? = w.heap[g]?)(n:∀g,L.St g->Γ'.St g)(c:∀g,L.nm b=some g->w'.heap[g]? = w.heap[g]?):BR Γ' sh' w' B (Jw x):=by
 cases x with
 | arr v e X F=>
  rcases h with h|⟨N,g,o,d,l,m,A,M⟩
  ·exact .inl h
  ·refine .inr ⟨N,g,o,by rw[f];exact d,by rw[c g d];exact l,m,A,λi h j G=>?_⟩;obtain⟨V,y,D⟩:=M i h j G;exact⟨V,y,D.mono t n⟩
 | box cells=>
  obtain⟨g,o,e,d,l,m,A⟩:=h;refine⟨g,o,e,by rw[f];exact d,by rw[c g d];exact l,by simpa using m,λj h=>?_⟩;obtain⟨V,y,_⟩:=A j (by simpa using h);exact⟨V,y,by rw[j5];exact .bad V⟩
 | iter s p=>
  obtain⟨g,S,d,l,m⟩:=h;exact⟨g,S,by rw[f];exact d,by rw[c g d];exact l,m⟩
 | mp q=>
  obtain⟨g,z,u,d,l,m⟩:=h;exact⟨g,z,u,by rw[f];exact d,by rw[c g d];exact l,m.map λv _ V _=>.bad V⟩
 | ms a q=>
  obtain⟨g,z,u,d,l,m⟩:=h;refine⟨g,z,u,by rw[f];exact d,by rw[c g d];exact l,m.imp λv P V k=>?_⟩;obtain⟨e,T,rfl⟩:=HC P;exact C26 t n k
 | dead=>trivial
end
section
variable {J R : Type} {r : R} {C : Cfg} {I : J -> (Nat -> Prop) -> (Nat -> Prop) -> World -> Prop} {Y : Ctx} {W : Nat -> Prop} {Q : St J} {a : Act} {w : World} {O : G4} {K : Yh J} {Z : Value} {o : Oper} {H : List Blk}
def An6(d:HR Y H w){L:Nat}(e:L<=H.length):Am Y (A3 H) w (Y.cut L) (A3 (H.take L)) w (· < L):=
 ⟨λ_ _=>rfl,λ_ h=>.inl h,λb c=>by simp only[Ctx.cut];rw[ac c],λb c=>by simp only[A3,ab7];rw[ac c],λ_ _ _ _=>rfl,rfl⟩
def Cr1(d:HR Y H w){L:Nat}(v:L<=H.length)(j:Ca2 L (H.take L)=true):HR (Y.cut L) (H.take L) w:=by
 have f:=SP j;have t:(H.take L).length=L:=by rw[ad4];omega
 have key:∀b g,(Y.cut L).nm b=some g->b<L/\Y.nm b=some g:=λb g h=>by
  simp only[Ctx.cut] at h;grind
 refine⟨λb k g n l=>d.inj b k g (key b g n).2 (key k g l).2,λb g h=>?_,λg i=>?_,λb p c q=>?_,λb p=>?_⟩
 ·obtain⟨n,l⟩:=key b g h;have:=d.lt b g l;refine⟨by omega,this.2.1,?_⟩;rintro(u|⟨k,u,h4⟩)
  ·grind
  ·have:=d.inj b k g l h4;omega
 ·rcases i with i|⟨b,_,i⟩
  ·exact d.stlt g i
  ·exact(d.lt b g i).2.1
 ·grind
 ·have m:b<L:=by omega
  have e:(H.take L)[b]=H[b]'(by omega):=List.getElem_take;rw[e];have M:=An6 d v;exact(d.blk b (by omega)).mono M (M.nm b m) (λ_ _=>rfl) (λc q=>f _ (j4 p) c (by rw[e];exact q))
def B09(M:HR Y H w){L b:Nat}(S:¬b<L){v:PV}{V:Value}(y:v = .fl b\/∃i n,v = .vw b i n)(h:VP Y (A3 H) w v V):VP (Y.cut L) (A3 (H.take L)) w (v.snap H) V/\(v.snap H).nms=[]:=by
 rcases y with rfl|⟨i,n,rfl⟩
 ·cases h with
  | flv _ e p h=>
   obtain⟨x,j,t⟩:∃x,H[b]? = some x/\x.shp = .arr true e p 0:=by simpa[A3] using h
   cases x<;>simp[Blk.shp] at t
   rename_i k z q c;obtain⟨rfl,rfl,rfl,A⟩:=t;subst A;simp only[PV.snap,j];exact⟨.s _ _ (.nil _ _),rfl⟩
  | fl _ g v e p n cap h y u d B t=>
   obtain⟨x,j,f⟩:∃x,H[b]? = some x/\x.shp = .arr v e p n:=by simpa[A3] using h
   cases x<;>simp[Blk.shp] at f
   rename_i k z q c;obtain⟨rfl,rfl,rfl,rfl⟩:=f;have l:¬(k=true/\c=[]):=by rintro⟨F,G⟩;exact y F (by rw[G];rfl)
   have D:(k&&c.isEmpty)=false:=by cases k<;>simp_all
   simp only[PV.snap,j,D];have:=Ae8 (i:=0) (n:=c.length) (a:=⟨g,0,none⟩) (cap:=cap) M j l u (by omega) (λ_=>by simp) d B (St':=(Y.cut L).St) (λ_ h=>ab8 h) (.inr ⟨b,by omega,u⟩);simp only[ag9,af6] at this;exact⟨.s _ _ this,rfl⟩
 ·cases h with
  | vwv _ e p _ h=>
   obtain⟨x,j,t⟩:∃x,H[b]? = some x/\x.shp = .arr true e p 0:=by simpa[A3] using h
   cases x<;>simp[Blk.shp] at t
   rename_i k z q c;obtain⟨rfl,rfl,rfl,A⟩:=t;subst A;simp only[PV.snap,j,ah6,ah7];exact⟨.s _ _ (.nil _ _),rfl⟩
  | vw _ _ _ g a cap v e p m h y u N P d B=>
   obtain⟨x,j,f⟩:∃x,H[b]? = some x/\x.shp = .arr v e p m:=by simpa[A3] using h
   cases x<;>simp[Blk.shp] at f
   rename_i k z q c;obtain⟨rfl,rfl,rfl,rfl⟩:=f;have l:¬(k=true/\c=[]):=by rintro⟨F,G⟩;exact y F (by rw[G];rfl)
   have D:(k&&c.isEmpty)=false:=by cases k<;>simp_all
   simp only[PV.snap,j,D];exact⟨.s _ _ (Ae8 M j l u P N d B (λ_ h=>ab8 h) (.inr ⟨b,by omega,u⟩)),rfl⟩
def Ab2(f:HR Y H w){L:Nat}(g:L<=H.length){v:PV}{V:Value}(h:VP Y (A3 H) w v V):VP (Y.cut L) (A3 (H.take L)) w (v.low H L) V/\∀c∈(v.low H L).nms,c<L:=by
 have M:=An6 f g;have d:(∀c∈v.nms,c<L)->VP (Y.cut L) (A3 (H.take L)) w v V:=λj=>h.mono M j
 unfold PV.low;split
 ·rename_i b;split
  ·rename_i e;exact⟨d (by simpa[PV.nms] using e),by simpa[PV.nms] using e⟩
  ·rename_i e;obtain⟨k,l⟩:=B09 f e (.inl rfl) h;grind
 ·rename_i b i n;split
  ·rename_i e;exact⟨d (by simpa[PV.nms] using e),by simpa[PV.nms] using e⟩
  ·rename_i e;obtain⟨k,l⟩:=B09 f e (.inr ⟨i,n,rfl⟩) h;grind
 ·exact⟨d (by simp[PV.nms]),by simp[PV.nms]⟩
 ·exact⟨d (by simp[PV.nms]),by simp[PV.nms]⟩
 ·exact⟨d (by simp[PV.nms]),by simp[PV.nms]⟩
 ·split
  ·rename_i e;exact⟨d (by simpa[PV.nms] using e),by simpa[PV.nms] using e⟩
  ·exact⟨.bad _,by simp[PV.nms]⟩
 ·split
  ·rename_i e;exact⟨d (by simpa[PV.nms] using e),by simpa[PV.nms] using e⟩
  ·exact⟨.bad _,by simp[PV.nms]⟩
 ·split
  ·grind
  ·exact⟨.bad _,by simp[PV.nms]⟩
def Sub(Y Γ':Ctx):Prop:=(∀g,Γ'.St g->Y.St g\/∃b,Y.nm b=some g)/\∀b g,Γ'.nm b=some g->Y.nm b=some g
def Mk.sub{n0:Nat}{Γ':Ctx}{ds:List Deferred}(h:Mk n0 Y W w ds)(s:Sub Y Γ'):Mk n0 Γ' W w ds:=by
 obtain⟨h0,Ds,h1,h2,h3⟩:=h;refine⟨h0,Ds,h1,h2,λD hD=>?_⟩;obtain⟨k1,k2,k3⟩:=h3 D hD;refine⟨k1,⟨k2.1,λq=>?_,λb q=>k2.2.2.1 b (s.2 b D q),k2.2.2.2⟩,k3⟩;rcases s.1 D q with q|⟨b,q⟩
 ·exact k2.2.1 q
 ·exact k2.2.2.1 b q
def AQ{v:List Blk}{p:Ctx}{F:World}{t:Nat->Prop}{L:Nat}(G:HI I)(S:SI C I Y W Q a.tmps w)(h:Stp C p v F t Y Q.hp w W)(y:v.length<=L)(x:L<=Q.hp.length):∃ Γ',SI C I Γ' W (X4 L Q) a.tmps w/\Stp C p v F t Γ' (X4 L Q).hp w W/\Sub Y Γ':=by
 unfold X4;split
 ·rename_i n;have m:(Q.hp.take L).length=L:=by rw[ad4];omega
  have N:=Cr1 S.hr x n;have l:∀b g,(Y.cut L).nm b=some g->Y.nm b=some g:=λb g h=>by
   simp only[Ctx.cut] at h;all_goals grind
  have f:∀g,(Y.cut L).St g->Y.St g\/(F.heap.size<=g/\¬W g):=λg d=>by
   rcases d with d|⟨b,M,d⟩
   ·grind
   ·refine .inr ⟨?_,S.dis b g d⟩;rcases h.own b g d with⟨q,_⟩|q
    all_goals omega
  have A:=G.foot _ _ _ _ S.inv;refine⟨Y.cut L,⟨N,⟨by simpa using S.sr.size,λc u=>?_,λi T=>?_⟩,S.g.mono (λ_ _=>rfl) (λ_ h=>ab8 h),?_,λb g d=>S.dis b g (l b g d)⟩,
   ⟨h.os,h.tape,h.output,h.size,λg d=>ab8 (h.sub g d),λg d=>?_,λb g d=>h.own b g (l b g d),h.foot,h.frame,h.yv,by rw[m];exact y,λb M P=>?_⟩,λg d=>d.elim .inl (λ⟨b,_,q⟩=>.inr ⟨b,q⟩),l⟩
  ·obtain⟨j,V,u⟩:=C8.1 u;have D:j<Q.sl.length:=by simpa using V
   obtain⟨U,e,k⟩:=S.sr.slot j D;rw[j5] at u;have:=(Ab2 S.hr x k).2 c u;grind
  ·have B:i<Q.sl.length:=by simpa using T
   obtain⟨U,e,k⟩:=S.sr.slot i B;exact⟨U,e,by rw[j5];exact(Ab2 S.hr x k).1⟩
  ·refine G.mono _ _ _ _ _ _ S.inv (λ_ h=>ab8 h) (λg d hp=>?_) (λg d=>N.stlt g d) (λ_ _=>rfl) (p5 _) rfl rfl rfl;all_goals grind
  ·rcases f g d with q|q
   ·exact h.stnew g q
   omega
  ·obtain⟨X,k2,k3⟩:=h.keep b M P;have z:b<L:=by omega
   refine⟨by simp only[Ctx.cut];rw[ac z];exact X,?_,k3⟩;rw[<-k2];simp only[A3,ab7];grind
 ·exact⟨Y,S,h,λ_ h=>.inl h,λ_ _ h=>h⟩
def Az2{d:List Blk}{b:Ctx}{e:World}{c:Nat->Prop}(f:HI I)(S:SI C I Y W Q a.tmps w)(h:Stp C b d e c Y Q.hp w W):∃ Γ',SI C I Γ' W (X4 d.length Q) a.tmps w/\Stp C b d e c Γ' (X4 d.length Q).hp w W/\Sub Y Γ':=
 AQ f S h (p5 _) h.len
def Yz:∀(g:List Nat) (l:List PV),(Gw g l).length=l.length/\∀i (h:i<(Gw g l).length) (b:i<l.length),(Gw g l)[i]=l[i]\/(Gw g l)[i] = .bad
 | g,[]=>by
  have e:Gw g []=[]:=by unfold Gw;rfl
  grind
 | [],v::l=>by
  obtain⟨c,d⟩:=Yz [] l;refine⟨by simp[Gw,c],λi h b=>?_⟩;cases i with
  | zero=>exact .inr rfl
  | succ i=>
   have:=d i (by simpa[Gw] using h) (by simpa using b);simpa[Gw] using this
 | 0::g,v::l=>by
  obtain⟨c,d⟩:=Yz g l;refine⟨by simp[Gw,c],λi h b=>?_⟩;cases i with
  | zero=>exact .inl rfl
  | succ i=>
   have:=d i (by simpa[Gw] using h) (by simpa using b);simpa[Gw] using this
 | (n+1)::g,v::l=>by
  obtain⟨c,d⟩:=Yz (n::g) l;refine⟨by simp[Gw,c],λi h b=>?_⟩;cases i with
  | zero=>exact .inr rfl
  | succ i=>
   have:=d i (by simpa[Gw] using h) (by simpa using b);simpa[Gw] using this
def Bz3{sl:List PV}{b:Array Value}(g:List Nat)(h:SR Y H w sl b):SR Y H w (Gw g sl) b:=by
 obtain⟨l,m⟩:=Yz g sl;refine⟨by rw[l];exact h.size,λc d=>?_,λi n=>?_⟩
 ·obtain⟨j,p,d⟩:=C8.1 d;have k:j<sl.length:=by rw[<-l];exact p
  rcases m j p k with e|e
  ·rw[e] at d;exact h.nms c (C8.2 ⟨j,k,d⟩)
  ·rw[e] at d;simp[PV.nms] at d
 ·have f:i<sl.length:=by rw[<-l];exact n
  obtain⟨V,q,t⟩:=h.slot i f;refine⟨V,q,?_⟩;rcases m i n f with e|e
  ·grind
  ·rw[e];exact .bad V
def Ia(ds:Option (List Nat))(Q:St J):(Nz ds Q).hp=Q.hp:=by cases ds<;>rfl
def Hz(S:SI C I Y W Q a.tmps w)(ds:Option (List Nat)):SI C I Y W (Nz ds Q) a.tmps w:=by
 cases ds with
 | none=>exact S
 | some g=>exact⟨S.hr,Bz3 g S.sr,S.g,S.inv,S.dis⟩
def HU:∀(l:List Nat) (m:Nat),m<=Bp7 l m
 | [],m=>p5 _
 | b::r,m=>by
  simp only[Bp7];cases h:s8 m b with
  | true=>exact p4 (Nat.le_succ_of_le (aa5 h)) (HU r (b+1))
  | false=>exact HU r m
def B21:∀(l:List Blk) (m:Nat),m<=Ci5 l m
 | [],m=>p5 _
 | b::r,m=>p4 (HU _ _) (B21 r _)
def Ue{d:List Blk}{b:Ctx}{f:World}{c:Nat->Prop}(i:HI I)(S:SI C I Y W Q a.tmps w)(h:Stp C b d f c Y Q.hp w W)(ds:Option (List Nat)){L:Nat}(j:d.length<=L):∃ Γ',SI C I Γ' W (Yj ds L Q) a.tmps w/\Stp C b d f c Γ' (Yj ds L Q).hp w W:=by
 cases ds with
 | none=>exact⟨Y,S,h⟩
 | some g=>
  have e:SI C I Y W ({ sl:=Gw g Q.sl,hp:=Q.hp,s:=Q.s }:St J) a.tmps w:=⟨S.hr,Bz3 g S.sr,S.g,S.inv,S.dis⟩
  simp only[Yj,D80,C29];cases k:s8 (Ci5 Q.hp (Bp7 (D1 (Gw g Q.sl)) L)+1) Q.hp.length with
  | false=>exact⟨Y,e,h⟩
  | true=>
   have:=aa5 k;obtain⟨Γ',l,m,_⟩:=AQ (L:=Ci5 Q.hp (Bp7 (D1 (Gw g Q.sl)) L)) i e h (p4 j (p4 (HU _ _) (B21 _ _))) (by show Ci5 Q.hp _<=Q.hp.length;omega);grind
def C33{d:Array Value}(y:HI I)(S:SI C I Y W Q d w){L:Nat}(t:L<=Q.hp.length):∃ Γ',SI C I Γ' W (X4 L Q) d w/\(∀g,Y.St g->Γ'.St g)/\(∀g,Γ'.St g->Y.St g\/∃b,L<=b/\Y.nm b=some g)/\
  (∀b g,Γ'.nm b=some g->Y.nm b=some g)/\Γ'.yv=Y.yv/\(∀b,b<L->Γ'.nm b=Y.nm b/\A3 (X4 L Q).hp b=A3 Q.hp b)/\L<=(X4 L Q).hp.length:=by
 unfold X4;split
 ·rename_i n;have m:(Q.hp.take L).length=L:=by rw[ad4];omega
  have B:=Cr1 S.hr t n;have p:∀b g,(Y.cut L).nm b=some g->Y.nm b=some g:=λb g h=>by
   simp only[Ctx.cut] at h;grind
  have f:=y.foot _ _ _ _ S.inv;refine⟨Y.cut L,⟨B,⟨by simpa using S.sr.size,λc u=>?_,λi D=>?_⟩,S.g.mono (λ_ _=>rfl) (λ_ h=>ab8 h),?_,λb g l=>S.dis b g (p b g l)⟩,
   λ_ h=>ab8 h,λ_ h=>h,p,rfl,λb z=>⟨by simp only[Ctx.cut];rw[ac z],?_⟩,by rw[m];exact p5 _⟩
  ·obtain⟨j,F,u⟩:=C8.1 u;have x:j<Q.sl.length:=by simpa using F
   obtain⟨U,e,k⟩:=S.sr.slot j x;rw[j5] at u;have:=(Ab2 S.hr t k).2 c u;show c<(Q.hp.take L).length;omega
  ·have v:i<Q.sl.length:=by simpa using D
   obtain⟨U,e,k⟩:=S.sr.slot i v;exact⟨U,e,by rw[j5];exact(Ab2 S.hr t k).1⟩
  ·refine y.mono _ _ _ _ _ _ S.inv (λ_ h=>ab8 h) (λg l A=>?_) (λg l=>B.stlt g l) (λ_ _=>rfl) (p5 _) rfl rfl rfl;rcases l with q|⟨b,_,q⟩
   ·exact(f g A).2 q
   ·exact S.dis b g q A
  ·simp only[A3,ab7];rw[ac z]
 ·exact⟨Y,S,λ_ h=>h,λ_ h=>.inl h,λ_ _ h=>h,rfl,λ_ _=>⟨rfl,rfl⟩,t⟩
end
section
variable {Z R : Type} {r : R} {C : Cfg} {I : Z -> (Nat -> Prop) -> (Nat -> Prop) -> World -> Prop} {Γ Γ' : Ctx} {K O : Nat -> Prop} {J : St Z} {a : Act} {w w' : World} {Y : G4} {L : Yh Z} {W : Value} {H H' : List Blk} {tmps : Array Value}
def C25{sh sh':Nat->Option Shp}{v:PV}{V:Value}(h:v.sv?.isSome=true)(b:VP Γ sh w v V)(c:∀g,Γ.St g->Γ'.St g):VP Γ' sh' w v V/\v.nms=[]:=by
 cases v<;>simp[PV.sv?] at h
 ·exact⟨.s _ _ (b.inv_s.mono (λ_ _=>rfl) c),rfl⟩
 ·rw[b.inv_nsl];exact⟨.nsl,rfl⟩
def Ag9:∀{l:List PV} {c:List SV},Qh l=some c->∀v∈l,v.sv?.isSome=true
 | [],_,_,v,b=>by simp at b
 | x::l,c,h,v,b=>by
  simp only[Qh] at h;split at h
  ·rename_i p q d e;rcases y8.1 b with rfl|b
   ·rw[d];rfl
   ·exact Ag9 e v b
  ·cases h
def UG{sh sh':Nat->Option Shp}(n:∀g,Γ.St g->Γ'.St g):∀{args:List PV},Lm args=true->∀v∈args,v.nms=[]/\∀V,VP Γ sh w v V->VP Γ' sh' w v V
 | [],_,v,f=>by simp at f
 | x::r,h,v,f=>by
  have key:(x.nms=[]/\∀V,VP Γ sh w x V->VP Γ' sh' w x V)/\Lm r=true:=by
   unfold Lm at h;split at h
   ·rename_i d;cases d
   ·rename_i d;cases d;exact⟨⟨rfl,λV hV=>(C25 (Γ:=Γ) (Γ':=Γ') rfl hV n).1⟩,h⟩
   ·rename_i l p d;cases d;simp only[c9,x5] at h;obtain⟨⟨q,i⟩,h⟩:=h;refine⟨⟨?_,λV hV=>?_⟩,h⟩
    ·simp only[PV.nms];rw[x3];intro c b;obtain⟨j,m,b⟩:=C8.1 b;have o:=Ag9 i _ (j4 m);generalize l[j]=u at o b;cases u<;>simp[PV.sv?] at o<;>simp[PV.nms] at b
    ·obtain⟨A,rfl,hA,b⟩:=hV.inv_agg;refine VP.mk_agg hA λj m=>?_
     obtain⟨U,e,k⟩:=b j m;exact⟨U,e,(C25 (Ag9 i _ (j4 m)) k n).1⟩
   ·cases h
  rcases y8.1 f with rfl|f
  ·exact key.1
  ·exact UG n key.2 v f
def AG:∀(c:List Nat) (b:List PV) (d:List Value) {sl:List PV} {tmps:Array Value},SR Γ H w sl tmps->b.length=d.length->(∀j (h:j<b.length),∃U,d[j]? = some U/\VP Γ (A3 H) w (b[j]) U)->(∀v∈b,v.nms=[])->
  SR Γ H w (Mr sl c b) ((c.zip d).foldl (λt (p:Nat × Value)=>t.setIfInBounds p.1 p.2) tmps)
 | [],b,d,sl,tmps,h,_,_,_=>by cases b<;>exact h
 | t::c,[],[],sl,tmps,h,_,_,_=>h
 | t::c,[],_::_,_,_,_,f,_,_=>by simp at f
 | t::c,_::_,[],_,_,_,f,_,_=>by simp at f
 | t::c,v::b,V::d,sl,tmps,h,f,g,i=>by
  have l:VP Γ (A3 H) w v V:=by
   obtain⟨U,e,k⟩:=g 0 (by simp);simp only[List.getElem?_cons_zero,j8] at e;subst e;exact k
  have m:=h.put (ds:=[]) ({ op:=.move (.const undef),dst:=some t,guard:=none,type:=0,after:=#[],pos:=default }:Oper) l (by rw[i v (by simp)];simp);have n:SR Γ H w (sl.set t v) (tmps.setIfInBounds t V):=m;exact AG c b d n (by simpa using f) (λj o=>by
   obtain⟨U,e,k⟩:=g (j+1) (by simpa using o);exact⟨U,by simpa using e,by simpa using k⟩) (λv q=>i v (by simp[q]))
def Cu4(o:Out):((Et o).map jmp).isNone=(Et o).isNone:=by cases o<;>rfl
def D55{Γ0:Ctx}{H0:List Blk}{w0:World}{Φ0:Nat->Prop}{T:List PV}{l Dv fn:Nat}{D:Option Nat}{ps:Array Tmp}{aq body:Code}(hI:HI I)(d0:Γ0.yv=W)(e1:WP C I Y L W aq)(e4:WP C I Y L W body)
  (a9:∀c∈D1 T,c<H0.length/\Je C (A3 H0 c)) :
  A37 C.P (RI C I Γ0 H0 w0 Φ0 T tmps l D (Lh fn tmps ps aq body Dv)) (Li ps T (λJ k=>A9 C Y L aq J k) (λJ k=>A9 C Y L body J k)) (.func (.yield l) #[] #[]):=by
 intro args x b x' a3 f3 Γ K w Vs ⟨Γb,V,r⟩ f0 hc;obtain⟨H,d4,s1⟩:=x;unfold Li at a3;cases d4 with
 | some o=>simp at a3
 | none=>
 dsimp only at a3;split at a3
 case isFalse=>cases a3
 rename_i f2;have c5:(do let d <-o8 (.func (.yield l) #[] #[]) Vs;invoke d.target d.args:Sem Next).run C.P w=(Instr.yield l Vs).run C.P w:=by simp[o8,invoke]
 have f4:Vs.size=(Lh fn tmps ps aq body Dv .ready none).params.size:=by rw[hc.1,f2];rfl
 have c1:=r.hd;have a8:w.heap[l]? = some (.loop (Lh fn tmps ps aq body Dv .ready none)):=r.hl;intro ro n o a next Q b3
 rw[c5,run_yield a8 f4,Oper.uponIn_round];refine⟨λh=>(by simp[I4,ag7] at h),roundIn_of_wpIn trivial ?_⟩;have inΦ:∀{g},V g\/(∃b,Γb.nm b=some g)\/g=l\/D=some g->K g:=fun {g} h=>(r.ph g).2 h
 have B:∀{g},K g->¬ Γ.St g:=fun {g} h=>(r.ft g h).2
 let ΓB:Ctx:={ Γb with St:=Γ.St }
 have SB:SI C I ΓB V { sl:=T,hp:=H,s:=s1 } tmps w:=r.si.wideSt hI r.st (λg f hp=>B (inΦ (.inl hp)) f) (λb g f hs=>B (inΦ (.inr (.inl ⟨b,f⟩))) hs) f0;have a4:=UG (Γ:=Γ) (Γ':=ΓB) (sh:=λ_=>none) (sh':=A3 H) (w:=w) (λ_ h=>h) f3;have d9:=AG ps.toList args Vs.toList SB.sr (by rw[ae5];exact hc.1.symm) (λj hj=>by
  obtain⟨U,e,k⟩:=hc.2 j hj;exact⟨U,by simpa using e,(a4 _ (j4 hj)).2 U k⟩) (λv hv=>(a4 v hv).1)
 have b2:(ps.zip Vs).foldl (λtmps (t,a)=>tmps.setIfInBounds t a) tmps=(ps.toList.zip Vs.toList).foldl (λt (p:Nat × Value)=>t.setIfInBounds p.1 p.2) tmps:=by
  rw[<-Array.foldl_toList,Array.toList_zip]
 have SA:SI C I ΓB V { sl:=Mr T ps.toList args,hp:=H,s:=s1 } ((ps.zip Vs).foldl (λtmps (t,a)=>tmps.setIfInBounds t a) tmps) w:=⟨SB.hr,by rw[b2];exact d9,SB.g,SB.inv,SB.dis⟩
 have b0:ΓB.yv=W:=r.pg.yv.trans d0;have d3:Off ΓB V w l:=⟨r.ol.1,B (inΦ (.inr (.inr (.inl rfl)))),r.ol.2.2⟩
 have f5:∀d,D=some d->Off ΓB V w d:=λd h=>⟨(r.od d h).1,B (inΦ (.inr (.inr (.inr h)))),(r.od d h).2.2⟩
 have e7:=hI.foot _ _ _ _ SA.inv;refine e1 (n0:=0) (a:={ tmps:=(ps.zip Vs).foldl (λtmps (t,a)=>tmps.setIfInBounds t a) tmps,defers:=[] }) b0 a3 SA (Mk.nil (Nat.zero_le _)) (λl' e=>by cases e;exact⟨d3,_,a8⟩) ?_;intro o1 f6 a1 w1 Γ1 Φ1 h1 i S1 f1;cases o1 with
 | exit id=>cases h1
 | ret=>cases h1
 | normal=>
 dsimp only at h1;obtain⟨a6,d6⟩:=d3.step i;have d1:∀d,D=some d->Off Γ1 Φ1 w1 d/\w1.heap[d]? = w.heap[d]?:=λd h=>(f5 d h).step i
 have c3:w1.heap[l]? = some (.loop (Lh fn tmps ps aq body Dv .ready none)):=d6.trans a8;show ∃w₂,(Instr.beginRound l).run C.P w1 = .ok () w₂/\body.wpIn (I4 (some l)) (n-1) C.P (roundPost C.P l _) a1 w₂;refine⟨_,run_beginRound c3 rfl,?_⟩;have O1:Xb Γ1 Φ1 w1 (w1.putObj l (.loop { Lh fn tmps ps aq body Dv .ready none with state:=.busy })):=Xb.put a6;have S2:=S1.offW hI O1;refine e4 (i.yv.trans b0) h1 S2 (f1.put c3) (λl' e=>by cases e;exact⟨a6.put,_,ac1 a6.1⟩) ?_;intro o2 u a2 w3 G m h2 A S3 _;simp only[j8,ad3] at h2;obtain⟨rfl,rfl⟩:=h2;obtain⟨b5,d7⟩:=(Off.put (ob:=.loop { Lh fn tmps ps aq body Dv .ready none with state:=.busy }) (l:=l) a6).step A;have d2:∀d,D=some d->Off G m w3 d/\w3.heap[d]? = (w1.putObj l (.loop { Lh fn tmps ps aq body Dv .ready none with state:=.busy })).heap[d]?:=λd h=>(Off.put (ob:=.loop { Lh fn tmps ps aq body Dv .ready none with state:=.busy }) (l:=l) (d1 d h).1).step A
 have e8:w3.heap[l]? = some (.loop { Lh fn tmps ps aq body Dv .ready none with state:=.busy }):=d7.trans (ac1 a6.1);have X:=run_endRound (P:=C.P) ((Et o2).map jmp) e8;have b7:∀d,D=some d->d≠l:=λd h e=>by
  have:=c1 d h;rw[e,a8] at this;cases this
 obtain⟨F,S⟩:∃F,w3.putObj l (.loop { { Lh fn tmps ps aq body Dv .ready none with state:=.busy } with state:=if ((Et o2).map jmp).isNone then .ready else .done,pending:=(Et o2).map jmp })=F:=⟨_,rfl⟩
 rw[S] at X;have O3:Xb G m w3 F:=by rw[<-S];exact Xb.put b5
 have b6:Off G m F l:=by rw[<-S];exact b5.put
 have b4:∀d,D=some d->Off G m F d:=λd h=>by rw[<-S];exact(d2 d h).1.put
 have S4:=S3.offW hI O3;have c4:H.length<=u.hp.length:=p4 i.len A.len;obtain⟨z,S5,t1,t2,t3,t4,t5,t6⟩:=C33 hI S4 c4;have d8:(X4 H.length u).s=u.s:=by unfold X4;split<;>rfl
 have y:Pg C ΓB H w V G u.hp F m:=i.pg.trans ((Pg.off S1.hr O1).trans (A.pg.trans (Pg.off S3.hr O3)));have P1:Pg C Γ0 H0 w0 Φ0 G u.hp F m:=r.pg.trans ((Pg.wideSt r.si.hr r.st).trans y);have c6:=i.st SA.hr (λg f=>(e7 g f).2);have c7:=A.st S2.hr (λg f=>(hI.foot _ _ _ _ S2.inv g f).2);have c8:∀g,ΓB.St g->F.heap[g]? = w.heap[g]?:=λg f=>by
  have q1:=i.sub g f;have q2:=A.sub g q1;rw[O3.same g (.inl q2),c7 g q1,O1.same g (.inl q1),c6 g f]
 have a7:=r.pg.len;have N:∀c,c<H0.length/\Je C (A3 H0 c)->z.nm c=ΓB.nm c/\A3 (X4 H.length u).hp c=A3 H c/\∀g,ΓB.nm c=some g->F.shape? g=w.shape? g:=λc ⟨b8,b9⟩=>by
  obtain⟨_,k2,_⟩:=r.pg.keep c b8 b9;have c0:c<H.length:=k9 b8 a7;obtain⟨m1,m2,m3⟩:=y.keep c c0 (by rw[k2];exact b9);obtain⟨n1,n2⟩:=t5 c c0;exact⟨n1.trans m1,n2.trans m2,m3⟩
 have M:Am ΓB (A3 H) w z (A3 (X4 H.length u).hp) F (λc=>c<H0.length/\Je C (A3 H0 c)):=
  ⟨c8,λg f=>t1 g (y.sub g f),λb hb=>(N b hb).1,λb hb=>(N b hb).2.1,λb g hb f=>(N b hb).2.2 g f,t4.trans y.yv⟩
 have SF:SI C I z m { sl:=T,hp:=(X4 H.length u).hp,s:=u.s } tmps F:=
  ⟨S5.hr,SB.sr.mono M (λc hc=>⟨a9 c hc,k9 (a9 c hc).1 (p4 a7 t6)⟩),S5.g,by have:=S5.inv;rw[d8] at this;exact this,S5.dis⟩
 have PF:Pg C Γ0 H0 w0 Φ0 z (X4 H.length u).hp F m:=⟨P1.os,P1.tape,P1.output,P1.size,λg f=>t1 g (P1.sub g f),λb g hb=>P1.own b g (t3 b g hb),P1.foot,t4.trans P1.yv,p4 a7 t6,λb hb hf=>by
  obtain⟨k1,k2,k3⟩:=P1.keep b hb hf;obtain⟨n1,n2⟩:=t5 b (k9 hb a7);exact⟨n1.trans k1,n2.trans k2,k3⟩⟩
 have a0:∀{g},Off G m F g->Off z m F g:=fun {g} h=>⟨h.1,λq=>by
  rcases t2 g q with q|⟨b,_,q⟩
  ·exact h.2.1 q
  ·exact h.2.2.1 b q,λb q=>h.2.2.1 b (t3 b g q),h.2.2.2⟩
 have e9:F.heap[l]? = some (.loop (Lh fn tmps ps aq body Dv (Do1 (Et o2)) ((Et o2).map jmp))):=by
  rw[<-S,ac1 b5.1];cases o2<;>rfl
 have e5:∀d,D=some d->F.heap[d]? = some (.deferred (some [])):=λd h=>by
  rw[<-S,p9 (b7 d h),(d2 d h).2,p9 (b7 d h),(d1 d h).2];exact c1 d h
 have e6:=hI.foot _ _ _ _ SF.inv;have RB:RIb C I Γ0 H0 w0 Φ0 T tmps l D (Lh fn tmps ps aq body Dv) ((X4 H.length u).hp,Et o2,u.s) z.St (λg=>m g\/(∃b,z.nm b=some g)\/g=l\/D=some g) F z m:=by
  refine⟨SF,PF,λ_ h=>h,λ_=>Iff.rfl,λg f=>?_,a0 b6,λd h=>a0 (b4 d h),e9,e5⟩;rcases f with q|⟨b,q⟩|rfl|q
  ·exact e6 g q
  ·have:=SF.hr.lt b g q;exact⟨this.2.1,this.2.2⟩
  ·exact⟨b6.1,(a0 b6).2.1⟩
  ·exact⟨(b4 g q).1,(a0 (b4 g q)).2.1⟩
 have a5:=i.size;have e2:∀{g},(w1.putObj l (.loop { Lh fn tmps ps aq body Dv .ready none with state:=.busy })).heap.size<=g->w.heap.size<=g:=fun {g} q=>p4 (p4 a5 O1.size) q
 have e3:∀{g},g<w.heap.size->g<(w1.putObj l (.loop { Lh fn tmps ps aq body Dv .ready none with state:=.busy })).heap.size:=fun {g} q=>k9 q (p4 a5 O1.size)
 have b1:next (a.put o.dst (.bool ((Et o2).map jmp).isNone)) F:=by
  refine b3 _ _ ⟨by rw[Cu4],z.St,_,⟨z,m,RB⟩,λg f=>t1 g (y.sub g f),λg f=>?_,λg f=>?_,λg f hp=>?_,y.size,y.os,y.tape,y.output,SF.hr.stlt⟩
  ·have d5:G.St g->Γ.St g\/w.heap.size<=g:=λq=>by
    rcases A.stnew g q with q|q
    ·exact i.stnew g q
    ·exact .inr (e2 q)
   rcases t2 g f with q|⟨b,hb,q⟩
   ·exact d5 q
   ·rcases A.own b g q with⟨_,q⟩|q
    ·rcases i.own b g q with⟨q',_⟩|q
     ·simp only at q';omega
     ·exact .inr q
    ·exact .inr (e2 q)
  ·rcases f with q|⟨b,q⟩|rfl|q
   ·rcases y.foot g q with q|q
    ·exact .inl (inΦ (.inl q))
    ·exact .inr q
   ·rcases y.own b g (t3 b g q) with⟨_,q⟩|q
    ·exact .inl (inΦ (.inr (.inl ⟨b,q⟩)))
    ·exact .inr q
   ·exact .inl (inΦ (.inr (.inr (.inl rfl))))
   ·exact .inl (inΦ (.inr (.inr (.inr q))))
  ·have c2:g≠l:=λe=>hp (inΦ (.inr (.inr (.inl e))))
   have n1:∀b,ΓB.nm b≠some g:=λb q=>hp (inΦ (.inr (.inl ⟨b,q⟩)))
   have p1:¬V g:=λq=>hp (inΦ (.inl q))
   have n2:∀b,Γ1.nm b≠some g:=λb q=>by
    rcases i.own b g q with⟨_,q⟩|q
    ·exact n1 b q
    ·omega
   have p2:¬ Φ1 g:=λq=>by
    rcases i.foot g q with q|q
    ·exact p1 q
    ·omega
   rw[<-S,p9 c2,A.frame g (e3 f) n2 p2,p9 c2,i.frame g f n1 p1]
 cases o2 with
 | normal=>exact⟨_,_,X,b1⟩
 | exit id=>exact⟨_,_,X,b1⟩
 | ret=>exact⟨_,_,X,b1⟩
end
section
variable {Y R S : Type} (C : Cfg) (g : R -> Option S)
def E8(c:Bool)(k:Option R):(need c k).bind g=need c (k.bind g):=by cases c<;>rfl
def D3(b:Bool)(k:Bool->Option R):(Gh b k).bind g=Gh b λt=>(k t).bind g:=by cases b<;>rfl
def F7(b:Bool)(x y:Option R):(cond b x y).bind g=cond b (x.bind g) (y.bind g):=by cases b<;>rfl
def I6(p:Prop)[Decidable p](x y:Option R):(if p then x else y).bind g=if p then x.bind g else y.bind g:=by split<;>rfl
def E3:∀(t:Tr) (k:PV->List Blk->Option R),(Gk t k).bind g=Gk t λv H=>(k v H).bind g
 | .ret v H,k=>rfl
 | .need c t,k=>by cases c;rfl;exact E3 t k
 | .split c a b,k=>by cases c;exact E3 b k;exact E3 a k
 | .fail,_=>rfl
def QY(op:BinOp)(t:Nat)(x y:PV)(H:List Blk)(k:PV->Option R):(B42 C op t x y H k).bind g=B42 C op t x y H λv=>(k v).bind g:=by unfold B42;((try dsimp only);(repeat' (first|rfl|split|(simp only[E8,D3,F7,I6,E3,j2,j1]))))
def Az3(op:UnOp)(x:PV)(k:PV->Option R):(unK op x k).bind g=unK op x λv=>(k v).bind g:=by unfold unK;((try dsimp only);(repeat' (first|rfl|split|(simp only[E8,D3,F7,I6,E3,j2,j1]))))
def ML(t:TI)(a:PV)(H:List Blk)(k:PV->Option R):(Uf t a H k).bind g=Uf t a H λv=>(k v).bind g:=by unfold Uf;((try dsimp only);(repeat' (first|rfl|split|(simp only[E8,D3,F7,I6,E3,j2,j1]))))
def GD(f:Nat->Nat × Nat)(t:TI)(a v:PV)(H:List Blk)(k:List Blk->Option R):(Wt f t a v H k).bind g=Wt f t a v H λv=>(k v).bind g:=by unfold Wt;((try dsimp only);(repeat' (first|rfl|split|(simp only[E8,D3,F7,I6,E3,j2,j1]))))
def Ps(t:Nat)(x i:PV)(H:List Blk)(k:PV->Option R):(Ek C t x i H k).bind g=Ek C t x i H λv=>(k v).bind g:=by unfold Ek;((try dsimp only);(repeat' (first|rfl|split|(simp only[E8,D3,F7,I6,E3,j2,j1]))))
def FG(t:Nat)(x i:PV)(k:PV->Option R):(DH C t x i k).bind g=DH C t x i λv=>(k v).bind g:=by unfold DH;((try dsimp only);(repeat' (first|rfl|split|(simp only[E8,D3,F7,I6,E3,j2,j1]))))
def Ax8(t:Nat)(x:PV)(b a c:Option PV)(H:List Blk)(k:PV->Option R):(EE C t x b a c H k).bind g=EE C t x b a c H λv=>(k v).bind g:=by unfold EE;((try dsimp only);(repeat' (first|rfl|split|(simp only[E8,D3,F7,I6,E3,j2,j1]))))
def OG(b n:Nat)(c a d:Option PV)(k:PV->Option R):(Io b n c a d k).bind g=Io b n c a d λv=>(k v).bind g:=by unfold Io;((try dsimp only);(repeat' (first|rfl|split|(simp only[E8,D3,F7,I6,E3,j2,j1]))))
def XQ(t:Nat)(sl:List PV)(s x:PV)(H:List Blk)(k:PV->List PV->List Blk->Option R):(Gp C t sl s x H k).bind g=Gp C t sl s x H λv a b=>(k v a b).bind g:=by unfold Gp;((try dsimp only);(repeat' (first|rfl|split|(simp only[E8,D3,F7,I6,E3,j2,j1]))))
def A72(t:Nat)(d x:PV)(H:List Blk)(k:PV->List Blk->Option R):(RG C t d x H k).bind g=RG C t d x H λv a=>(k v a).bind g:=by unfold RG;((try dsimp only);(repeat' (first|rfl|split|(simp only[E8,D3,F7,I6,E3,j2,j1]))))
def A71(b a:Nat)(x:PV)(H:List Blk)(k:PV->Option R):(RF C b a x H k).bind g=RF C b a x H λv=>(k v).bind g:=by unfold RF;((try dsimp only);(repeat' (first|rfl|split|(simp only[E8,D3,F7,I6,E3,j2,j1]))))
def Am2(b a:Nat)(x:PV)(k:PV->Option R):(CH C b a x k).bind g=CH C b a x λv=>(k v).bind g:=by unfold CH;((try dsimp only);(repeat' (first|rfl|split|(simp only[E8,D3,F7,I6,E3,j2,j1]))))
def Ca1(x:PV)(t:Nat)(H:List Blk)(k:PV->Option R):(Ca0 C x t H k).bind g=Ca0 C x t H λv=>(k v).bind g:=by unfold Ca0;((try dsimp only);(repeat' (first|rfl|split|(simp only[E8,D3,F7,I6,E3,j2,j1]))))
def EP(t:Nat)(parts:List (Nat × PV))(k:PV->Option R):(CG C t parts k).bind g=CG C t parts λv=>(k v).bind g:=by unfold CG;((try dsimp only);(repeat' (first|rfl|split|(simp only[E8,D3,F7,I6,E3,j2,j1]))))
def Ls(t len:Nat)(parts:List (Nat × PV))(H:List Blk)(k:PV->List Blk->Option R):(Cl C t len parts H k).bind g=Cl C t len parts H λv a=>(k v a).bind g:=by unfold Cl;((try dsimp only);(repeat' (first|rfl|split|(simp only[E8,D3,F7,I6,E3,j2,j1]))))
def Px(t:Nat)(l c:PV)(H:List Blk)(k:PV->List Blk->Option R):(Eo C t l c H k).bind g=Eo C t l c H λv a=>(k v a).bind g:=by unfold Eo;((try dsimp only);(repeat' (first|rfl|split|(simp only[E8,D3,F7,I6,E3,j2,j1]))))
def Za(a:Bool)(l:List PV)(k:PV->Option R):(Of a l k).bind g=Of a l λv=>(k v).bind g:=by unfold Of;((try dsimp only);(repeat' (first|rfl|split|(simp only[E8,D3,F7,I6,E3,j2,j1]))))
def Pr(t:Nat)(x:PV)(f:Nat)(k:PV->Option R):(Eh C t x f k).bind g=Eh C t x f λv=>(k v).bind g:=by unfold Eh;((try dsimp only);(repeat' (first|rfl|split|(simp only[E8,D3,F7,I6,E3,j2,j1]))))
def FE(t:Nat)(x:PV)(f:Nat)(k:PV->Option R):(CZ C t x f k).bind g=CZ C t x f λv=>(k v).bind g:=by unfold CZ;((try dsimp only);(repeat' (first|rfl|split|(simp only[E8,D3,F7,I6,E3,j2,j1]))))
def GJ(t len:Nat)(parts:List (Nat × PV))(k:PV->Option R):(Ea C t len parts k).bind g=Ea C t len parts λv=>(k v).bind g:=by unfold Ea;((try dsimp only);(repeat' (first|rfl|split|(simp only[E8,D3,F7,I6,E3,j2,j1]))))
def PG(t:Nat)(H:List Blk)(k:PV->List Blk->Option R):(Mi C t H k).bind g=Mi C t H λv a=>(k v a).bind g:=by unfold Mi;((try dsimp only);(repeat' (first|rfl|split|(simp only[E8,D3,F7,I6,E3,j2,j1]))))
def Aa8(t:Nat)(x i:PV)(ok:Bool)(H:List Blk)(k:PV->Option R):(Tb C t x i ok H k).bind g=Tb C t x i ok H λv=>(k v).bind g:=by
 unfold Tb
 repeat' (first|rfl|split|(rw[E8];done)|(rw[D3];congr 1;funext b;rw[F7,E8];done))
def Ab5(t:Nat)(m x v:PV)(H:List Blk)(k:List Blk->Option R):(Te C t m x v H k).bind g=Te C t m x v H λa=>(k a).bind g:=by unfold Te;((try dsimp only);(repeat' (first|rfl|split|(simp only[E8,D3,F7,I6,E3,j2,j1]))))
def Ab4(t:Nat)(m x:PV)(H:List Blk)(k:List Blk->Option R):(Td C t m x H k).bind g=Td C t m x H λa=>(k a).bind g:=by unfold Td;((try dsimp only);(repeat' (first|rfl|split|(simp only[E8,D3,F7,I6,E3,j2,j1]))))
def OU(b:Builtin)(c:List Nat)(args:List PV)(a:St Y)(k:PV->St Y->Option R):(Fj C b c args a k).bind g=Fj C b c args a λv s=>(k v s).bind g:=by
 unfold Fj;split
 ·rw[Ca1]
 ·split
  ·rw[XQ]
  ·rfl
 ·rw[A72]
 ·rw[Za]
 ·rw[Za]
 ·rw[Ab4]
 ·rfl
def CF(e:Nat)(cells:List PV)(H:List Blk)(k:PV->List Blk->Option R):(GI C e cells H k).bind g=GI C e cells H λv a=>(k v a).bind g:=by unfold GI;((try dsimp only);(repeat' (first|rfl|split|(simp only[E8,D3,F7,I6,E3,j2,j1]))))
def KW(a:G4)(c:Yh Y)(f:Nat)(args:List PV)(b:St Y)(k:PV->St Y->Option R):(Xo C a c f args b k).bind g=Xo C a c f args b λv s=>(k v s).bind g:=by
 unfold Xo;split
 ·split
  ·rw[E3]
   congr 1;funext v H;rw[E8]
  ·rfl
 ·((try dsimp only);(repeat' (first|rfl|split|(simp only[E8,D3,F7,I6,E3,j2,j1]))))
def C90(x:Option (Bool × Y))(k:Bool->Y->Option R):(ydK x k).bind g=ydK x λb s=>(k b s).bind g:=by unfold ydK;((try dsimp only);(repeat' (first|rfl|split|(simp only[E8,D3,F7,I6,E3,j2,j1]))))
def A66(a:G4)(c:Yh Y)(f:PV)(args:List PV)(b:St Y)(k:PV->St Y->Option R):(ET C a c f args b k).bind g=ET C a c f args b λv s=>(k v s).bind g:=by
 unfold ET;split
 ·rw[KW]
 ·rw[KW]
 ·split
  ·rw[C90]
  ·rfl
 ·rfl
def As6(a:G4)(c:Yh Y)(o:Oper)(b:St Y)(k:St Y->Option R):(opK C a c o b k).bind g=opK C a c o b λs=>(k s).bind g:=by
 unfold opK;dsimp only;split<;>(first|rfl|(simp only[CF,EP,Ls,ML,GD,QY,Az3,Px,Pr,FE,Ps,FG,PG,Aa8,Ab5,F7,GJ];done)|skip)
 all_goals ((try dsimp only);(repeat' (first|rfl|split|(simp only[E8,D3,F7,I6,E3,j2,j1]))));all_goals (first|rfl|skip);all_goals (simp only[OU,A66,CF,EP,Ls,ML,GD,QY,Az3,Px,Pr,FE,Ps,FG,Am2,A71,Ax8,OG,E8,D3])
def Tk(e:G4)(f:Yh Y)(all:Array Oper):∀(l:List Oper) (d:St Y) (k:St Y->Option R),(Gg C e f all l d k).bind g=Gg C e f all l d λs=>(k s).bind g
 | [],d,k=>rfl
 | o::a,d,k=>by
  simp only[Gg];have c:=Tk e f all a;split
  ·rw[As6];congr 1;funext s;exact c s k
  ·split
   ·split
    ·rw[D3];congr 1;funext b;split
     ·rw[As6];congr 1;funext s;exact c s k
     ·exact c _ k
    ·exact c _ k
    ·rfl
   ·rfl
def Cf2(o:Oper)(sl:List PV)(k:Trn->Option R):(Bk8 C o sl k).bind g=Bk8 C o sl λv=>(k v).bind g:=by
 unfold Bk8
 repeat' (first|rfl|split|rw[E8])
def Bp9(d:Option Nat)(t:Trn)(a:St Y)(k:St Y->Option R):(Um C d t a k).bind g=Um C d t a λs=>(k s).bind g:=by
 unfold Um;split
 ·rfl
 ·exact CF C g _ _ _ _
def NC(d:G4)(f:Yh Y)(all:Array Oper)(e:List Nat × List Nat)(c:List Blk):∀(p:Bool) (l:List Nat) (b:St Y) (k:St Y->Option R),(Zj C d f all e c p l b k).bind g=Zj C d f all e c p l b λs=>(k s).bind g
 | _,[],b,k=>rfl
 | p,i::a,b,k=>by
  simp only[Zj];rw[E8,Tk]
  congr 2;funext s
  exact NC d f all e c _ a _ k
def Oj(a:G4)(c:Yh Y)(all:Array Oper)(e:Option (List Nat × List Nat))(d:List Blk)(p:Bool)(l:List Nat)(b:St Y)(k:St Y->Option R):(Mm C a c all e d p l b k).bind g=Mm C a c all e d p l b λs=>(k s).bind g:=by
 cases e with
 | none=>exact Tk C g a c all _ b k
 | some f=>exact NC C g a c all f d p l b k
def NE(e:G4)(h:Yh Y)(all:Array Oper)(f:Option (List Nat × List Nat))(c:List Blk)(d:Option Nat):∀(l:List Nat) (b:St Y) (k:St Y->Option R),(Py C e h all f c d l b k).bind g=Py C e h all f c d l b λs=>(k s).bind g
 | [],b,k=>rfl
 | i::a,b,k=>by
  simp only[Py];rw[Oj]
  congr 1;funext s
  exact NE e h all f c d a _ k
def Cd9(b:G4)(c:Yh Y)(id:Nat)(a:Array Oper)(d:Bool)(e:St Y)(k:St Y->Option R):(Bh1 C b c id a d e k).bind g=Bh1 C b c id a d e λs=>(k s).bind g:=by
 unfold Bh1;split
 ·split
  ·exact Oj C g b c a _ _ _ _ e k
  ·exact Tk C g b c a _ e k
 ·split
  ·rw[Oj];congr 1;funext s;rw[Cf2];congr 1;funext v;rw[NE];congr 1;funext s2;rw[Bp9];congr 1;funext s3;exact Oj C g b c a _ _ _ _ _ k
  ·rfl
def MN(L:Nat)(ds:Option (List Nat))(b:St Y->(Out->St Y->Option R)->Option R)(a:St Y->(Out->St Y->Option S)->Option S)(d:∀c k,(b c k).bind g=a c λo s=>(k o s).bind g):∀(n:Nat) (c:St Y) (k:Out->St Y->Option R),(E0 L ds b n c k).bind g=E0 L ds a n c λo s=>(k o s).bind g
 | 0,c,k=>rfl
 | n+1,c,k=>by
  simp only[E0];rw[d]
  congr 1;funext o s
  cases o with
  | normal=>exact MN L ds b a d n _ k
  | exit id=>rfl
  | ret=>rfl
def AA{ps:Array Tmp}{sl0:List PV}{aq bd:St Y->(Out->St Y->Option R)->Option R}{as' bd':St Y->(Out->St Y->Option S)->Option S}(b:∀a k,(aq a k).bind g=as' a λo s=>(k o s).bind g)(c:∀a k,(bd a k).bind g=bd' a λo s=>(k o s).bind g) :
  ∀(L:List (List PV)) (H:List Blk) (s:Y) (k:Option Out->List Blk->Y->Option R),(U4 ps sl0 aq bd L H s k).bind g=U4 ps sl0 as' bd' L H s λp H s=>(k p H s).bind g
 | [],H,s,k=>rfl
 | x::xs,H,s,k=>by
  simp only[U4];split
  ·rw[b]
   congr 1;funext o st1
   cases o with
   | normal=>
    dsimp only;rw[c]
    congr 1;funext o2 st2
    cases o2 with
    | normal=>exact AA b c xs _ _ k
    | exit id=>rfl
    | ret=>rfl
   | exit id=>rfl
   | ret=>rfl
  ·rfl
def Au5(b:G4)(f:PV)(c:St Y)(d:List PV->Yh (List Blk × Option Out × Y)){sR:List PV->List (List PV)->List Blk->Y->(Option Out->List Blk->Y->Option R)->Option R}{sR':List PV->List (List PV)->List Blk->Y->(Option Out->List Blk->Y->Option S)->Option S}
  (e:∀a L H s k,(sR a L H s k).bind g=sR' a L H s λp H s=>(k p H s).bind g) (k:Out->St Y->Option R):(Wn C b f c d sR k).bind g=Wn C b f c d sR' λo s=>(k o s).bind g:=by
 unfold Wn;split
 ·split
  ·unfold Bg3;split
   ·split
    ·rw[E8,e];rfl
    ·rfl
   ·rfl
  ·unfold Zp;((try dsimp only);(repeat' (first|rfl|split|(simp only[E8,D3,F7,I6,E3,j2,j1]))))
 ·rfl
end
def FC{q:Type}(C:Cfg)(h:G4)(n:Yh q):∀(c:Code) {R S:Type} (g:R->Option S) (e:St q) (k:Out->St q->Option R),(A9 C h n c e k).bind g=A9 C h n c e λo s=>(k o s).bind g:=by
 intro c
 induction c with
 | skip=>intros;rfl
 | label l=>intros;rfl
 | region id r d=>intro R S g e k;simp only[A9];rw[Cd9]
 | seq a b i m=>
  intro R S g e k;simp only[A9];rw[i]
  congr 1;funext o s
  cases o with
  | normal=>exact m g s k
  | exit id=>rfl
  | ret=>rfl
 | cond c a b i m=>
  intro R S g e k;simp only[A9];split
  ·rw[D3];congr 1;funext t;rw[F7,i,m]
  ·rfl
 | block id a p=>
  intro R S g e k;simp only[A9];rw[p]
  congr 1;funext o s
  cases o with
  | normal=>rfl
  | exit j=>dsimp only;split<;>rfl
  | ret=>rfl
 | loop a p=>
  intro R S g e k;simp only[A9];exact MN g _ _ _ _ (λe k=>p g e k) _ _ _
 | scope a p=>intro R S g e k;simp only[A9];rw[p]
 | exit id=>intros;rfl
 | ret=>intros;rfl
 | rangeFunc f ps a b i m=>
  intro R S g e k;simp only[A9];exact Au5 C g h (opnd C e.sl f) e _ (sR:=λsl0=>U4 ps sl0 (λe k=>A9 C h n a e k) (λe k=>A9 C h n b e k)) (sR':=λsl0=>U4 ps sl0 (λe k=>A9 C h n a e k) (λe k=>A9 C h n b e k))
   (λsl0 L H s k=>AA (ps:=ps) (sl0:=sl0) g (aq:=λe k=>A9 C h n a e k) (bd:=λe k=>A9 C h n b e k) (as':=λe k=>A9 C h n a e k) (bd':=λe k=>A9 C h n b e k) (λe k=>i g e k) (λe k=>m g e k) L H s k) k
 | _=>intros;rfl
def LM{e R:Type}{C:Cfg}{a:G4}{d:Yh e}{c:Code}{b:St e}{k:Out->St e->Option R}{r:R}(h:A9 C a d c b k=some r):∃o s,A9 C a d c b (λo s=>some (o,s))=some (o,s)/\k o s=some r:=by
 have:=FC C a d c (λp:Out × St e=>k p.1 p.2) b (λo s=>some (o,s));simp only[j1] at this;rw[<-this] at h;cases f:A9 C a d c b (λo s=>some (o,s)) with
 | none=>rw[f] at h;cases h
 | some p=>rw[f] at h;exact⟨p.1,p.2,rfl,h⟩
def RP{a R:Type}{C:Cfg}{b:G4}{e:Yh a}{c:Code}{d:St a}{k:Out->St a->Option R}{o:Out}{s:St a}(h:A9 C b e c d (λo s=>some (o,s))=some (o,s)):A9 C b e c d k=k o s:=by have:=FC C b e c (λp:Out × St a=>k p.1 p.2) d (λo s=>some (o,s));rw[h] at this;exact this.symm
end
end Go.Proofs.YtddlcgjamdbinaaGreatDoor.E
