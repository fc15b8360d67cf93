/-
  Parts of the proof, merged by a program of the prover's own; no condition.
-/
import Derived.Test.YtfkhfkjcidamaaaGreatDoorKMC1
import Derived.JoinedCond
import Derived.OpenShut
import Derived.ProofKit
import Derived.RangeFuncLeaves
import Derived.RangeFuncRecord
import Derived.Sort.QuietThIn
import Derived.TacticsIn
import Derived.WalkKit
open List renaming getElem?_eq_getElem->a8,getElem_mem->b9,getElem_map->j1,all_eq_true->j5,getD_eq_getElem?_getD->o5,mem_append->o8,eq_nil_iff_forall_not_mem->o9,length_map->p6,length_append->p7,mem_cons->p9,getElem_append_left->w8,append_nil->x4,replicate->x6,getElem?_map->x7,mem_map->x9,getElem?_append_right->y9,isEmpty_iff->aa0,getElem?_append_left->aa3,getElem?_eq_some_iff->aa4,getElem_append_right->aa5,foldl_cons->aa7,getElem?_take->aa8,getElem?_eq_none->ab4,nil_append->ab7,nodup_cons->ab8,mem_map_of_mem->ac0,idxOf_lt_length_of_mem->ac1,drop_zero->ac3,getElem?_cons_zero->ac6,length_take->ac7,take_of_length_le->ad0,map_append->ad2,length_singleton->ad4,mem_cons_of_mem->ad7,map_nil->ae5,any_eq_true->af1,getElem_inj->af2,length_cons->af3,take_length->af4,mem_filter->af9,drop_drop->ag1,mapM_cons->ag2,mem_range->ag3,nodup_nil->ag4,drop_nil->ag6,take_add->ag7,take_nil->ag8
open Option.some renaming injEq->b8
open Bool renaming and_eq_true->c9,or_eq_true->y5,not_eq_true'->y8,false_eq_true->ae2,false_or->ag5
open Option renaming bind_some->j0,bind_none->j2,isSome_iff_exists->p5,map_some->v8
open Nat renaming lt_of_lt_of_le->j4,le_refl->j7,eq_of_beq_eq_true->o6,le_trans->p4,ble->w9,beq->x5,zero_add->ac2,add_sub_cancel_left->ac8,le_of_ble_eq_true->ad5,add_mul->ad8,lt_irrefl->ae1,le_of_not_lt->af5,zero_mul->ah1
open Go.World renaming putObj_heap_other->j6,putObj_heap_same->ad1,alloc_heap_new->ae0,cells?_some->ae8,cell?->ah6
open Go.Region renaming ready->j8,wanted->k9,Mode->x8,noSelect->y7,binds->ab3
open Go.Deferred renaming ofValue->j9
open Array renaming getElem?_eq_some_iff->o0,getD_eq_getD_getElem?->o7,replicate->x3,getElem?_eq_getElem->aa2,getElem?_eq_none->ab1,length_toList->ab9,getElem?_replicate->ac5,mem_of_getElem?->ad3,toList_map->ae9
open Prod.mk renaming injEq->v7
open Decidable renaming byContradiction->w6
open Go.Act renaming put_comm->z7,put->ae3
open Go.Value renaming okWide->aa1
open Go.Oper renaming semAt_eq->aa6,uponIn->ab0,quietAtIn->ab2,uponIn_enter->ac4,quietUponIn->af6,wpIn->af7
open Or renaming inl->aa9
open Go.Fence renaming wide->ab5
open Go.DataW renaming TrodAll->ab6,trod->ac9,Whole->ah2
open Go.Code renaming region->ad6,rangeFunc->ag0
open Go.Result renaming andThen->ad9
open Go.CallsIn renaming mono->ae4
open Go.RoundIn renaming mono->ae6
open Go.Sem renaming run_bind->ae7
open Classical renaming choose->af0
open Go.Ending renaming returned->af8
open Go.StepsIn renaming trans->ag9
open Go.Instr renaming loadAt->ah0
open Go.RowsIn renaming mono->ah5
namespace Go.Proofs.YtfkhfkjcidamaaaGreatDoor.E
set_option linter.all false
section
open Go
theorem CM(f:Nat->Nat)(l:List PV):rnL f l=l.map (PV.rn f):=by
 induction l with
 | nil=>rfl
 | cons v r a=>simp[rnL,a]
theorem Ia(H:List Blk)(l:List PV):M3 H l=l.map (PV.snap H):=by
 induction l with
 | nil=>rfl
 | cons v r a=>simp[M3,a]
theorem Gw{l:List PV}(h:Pm l=true):∀v∈l,v.clean=true:=by
 induction l with
 | nil=>simp
 | cons a l b=>
  simp only[Pm,c9] at h;grind
mutual
theorem PV.rn_nms(f:Nat->Nat):∀v:PV,(v.rn f).nms=v.nms.map f
 | .s _=>rfl
 | .nsl=>rfl
 | .fl b=>rfl
 | .vw b _ _=>rfl
 | .ptr b _ _=>rfl
 | .fnr _ x y=>by simp only[PV.rn,PV.nms,ad2,Ix f x,Ix f y]
 | .it b=>rfl
 | .yd=>rfl
 | .agg l=>by simp only[PV.rn,PV.nms,Ix f l]
 | .tup l=>by simp only[PV.rn,PV.nms,Ix f l]
 | .bad=>rfl
theorem Ix(f:Nat->Nat):∀l:List PV,C6 (rnL f l)=(C6 l).map f
 | []=>rfl
 | v::r=>by simp only[rnL,C6,ad2,PV.rn_nms f v,Ix f r]
end
theorem Blk.rn_nms(f:Nat->Nat)(x:Blk):(x.rn f).nms=x.nms.map f:=by cases x<;>simp[Blk.rn,Blk.nms,Ix]
theorem Blk.rn_shp(f:Nat->Nat)(x:Blk):(x.rn f).shp=x.shp:=by cases x<;>rfl
theorem VS.clean{St St':Nat->Prop}{w w':World}{v:SV}{V:Value}(h:VS St w v V)(hc:v.plain=true):VS St' w' v V:=by
 cases h with
 | bool=>exact .bool _
 | int=>exact .int _ _
 | str=>exact .str _
 | nilp=>exact .nilp
 | nilm=>exact .nilm
 | nilf=>exact .nilf
 | nil=>simp[SV.plain] at hc
 | emp=>simp[SV.plain] at hc
 | sl=>simp[SV.plain] at hc
 | sp=>simp[SV.plain] at hc
 | fn=>simp[SV.plain] at hc
theorem VP.rn{f:Nat->Nat}{Γ Γ':Ctx}{sh sh':Nat->Option Shp}{w:World}(hyv:Γ'.yv=Γ.yv){v:PV}{V:Value}(h:VP Γ sh w v V) :
  (v.clean=true\/∀g,Γ.St g->Γ'.St g)->(∀b∈v.nms,Γ'.nm (f b)=Γ.nm b/\sh' (f b)=sh b)->VP Γ' sh' w (v.rn f) V:=by
 induction h with
 | s v V h=>
  intro hc _;rcases hc with hc|hc
  ·refine .s _ _ (h.clean ?_);cases v<;>simp_all [PV.clean,SV.plain]
  ·exact .s _ _ (h.mono (λ_ _=>rfl) hc)
 | nsl=>intro _ _;exact .nsl
 | flv b e sz h=>intro _ hn;exact .flv _ e sz (by rw[(hn b (by simp[PV.nms])).2];exact h)
 | fl b g v e sz n cap h hv hg hcap hm hs=>
  intro _ hn;have o:=hn b (by simp[PV.nms]);exact .fl _ g v e sz n cap (by rw[o.2];exact h) hv (by rw[o.1];exact hg) hcap hm hs
 | vwv b e sz i h=>intro _ hn;exact .vwv _ e sz i (by rw[(hn b (by simp[PV.nms])).2];exact h)
 | vw b i n g a cap v e sz m h hv hg ha hi hcap hm=>
  intro _ hn;have o:=hn b (by simp[PV.nms]);exact .vw _ i n g a cap v e sz m (by rw[o.2];exact h) hv (by rw[o.1];exact hg) ha hi hcap hm
 | ptrA b i off g v e sz n h hg=>
  intro _ hn;have o:=hn b (by simp[PV.nms]);exact .ptrA _ i off g v e sz n (by rw[o.2];exact h) (by rw[o.1];exact hg)
 | ptrB b off g h hg=>
  intro _ hn;have o:=hn b (by simp[PV.nms]);exact .ptrB _ off g (by rw[o.2];exact h) (by rw[o.1];exact hg)
 | fnr g x y A B As Bs hf hA hB ha hb hx hy ihx ihy=>
  intro hc hn;simp only[PV.rn,CM];refine .fnr g _ _ A B As Bs hf (by simpa using hA) (by simpa using hB) (λj h=>ha j (by simpa using h)) (λj h=>hb j (by simpa using h)) (λj h=>?_) (λj h=>?_)
  ·have hj:j<x.length:=by simpa using h
   rw[j1];refine ihx j hj (hc.imp (λe=>?_) id) (λb hb=>hn b (by simp only[PV.nms,o8];exact .inl (C0.2 ⟨j,hj,hb⟩)));simp only[PV.clean,c9] at e;exact Gw e.1 _ (b9 hj)
  ·have hj:j<y.length:=by simpa using h
   rw[j1];refine ihy j hj (hc.imp (λe=>?_) id) (λb hb=>hn b (by simp only[PV.nms,o8];exact .inr (C0.2 ⟨j,hj,hb⟩)));simp only[PV.clean,c9] at e;exact Gw e.2 _ (b9 hj)
 | it b g h hg=>
  intro _ hn;have o:=hn b (by simp[PV.nms]);exact .it _ g (by rw[o.2];exact h) (by rw[o.1];exact hg)
 | yd=>intro _ _;rw[<-hyv];exact .yd
 | agg l A As hA ha hl ih=>
  intro hc hn;simp only[PV.rn,CM];refine .agg _ A As (by simpa using hA) (λj h=>ha j (by simpa using h)) (λj h=>?_);have hj:j<l.length:=by simpa using h
  rw[j1];refine ih j hj (hc.imp (λe=>?_) id) (λb hb=>hn b (by simp only[PV.nms];exact C0.2 ⟨j,hj,hb⟩));simp only[PV.clean] at e;exact Gw e _ (b9 hj)
 | tup l A As hA ha hl ih=>
  intro hc hn;simp only[PV.rn,CM];refine .tup _ A As (by simpa using hA) (λj h=>ha j (by simpa using h)) (λj h=>?_);have hj:j<l.length:=by simpa using h
  rw[j1];refine ih j hj (hc.imp (λe=>?_) id) (λb hb=>hn b (by simp only[PV.nms];exact C0.2 ⟨j,hj,hb⟩));simp only[PV.clean] at e;exact Gw e _ (b9 hj)
 | bad V=>intro _ _;exact .bad V
theorem BR.rn{f:Nat->Nat}{Γ Γ':Ctx}{sh sh':Nat->Option Shp}{w:World}(hyv:Γ'.yv=Γ.yv){b b':Nat}{x:Blk}(h:BR Γ sh w b x)(hc:x.clean=true\/∀g,Γ.St g->Γ'.St g)(hb:Γ'.nm b'=Γ.nm b)
  (hn:∀c∈x.nms,Γ'.nm (f c)=Γ.nm c/\sh' (f c)=sh c):BR Γ' sh' w b' (x.rn f):=by
 cases x with
 | arr v e sz els=>
  rcases h with h|⟨hn,g,cur,h1,h2,h3,h4,h5⟩
  ·exact .inl h
  ·refine .inr ⟨hn,g,cur,by rw[hb];exact h1,h2,h3,h4,λi hi j hj=>?_⟩;obtain⟨V,e1,e2⟩:=h5 i hi j hj;refine⟨V,e1,?_⟩;rcases hc with hc|hc
   ·simp only[Blk.clean,j5] at hc;exact e2.clean (hc _ (b9 hi) _ (b9 hj))
   ·exact e2.mono (λ_ _=>rfl) hc
 | box cells=>
  obtain⟨g,cur,e,h1,h2,h3,h4⟩:=h;simp only[Blk.rn,CM];refine⟨g,cur,e,by rw[hb];exact h1,h2,by simpa using h3,λj hj=>?_⟩;have hj':j<cells.length:=by simpa using hj
  obtain⟨V,e1,e2⟩:=h4 j hj';rw[j1];refine⟨V,e1,e2.rn hyv (hc.imp (λe=>?_) id) (λc hc=>hn c (by simp only[Blk.nms];exact C0.2 ⟨j,hj',hc⟩))⟩;simp only[Blk.clean] at e;exact Gw e _ (b9 hj')
 | iter s p=>
  obtain⟨g,s',h1,h2,h3⟩:=h;exact⟨g,s',by rw[hb];exact h1,h2,h3⟩
 | dead=>trivial
theorem A69{l:List Nat}{b c:Nat}:c∈Es l b↔c∈l\/c=b:=by
 unfold Es;split
 ·rename_i h;have a:b∈l:=by simpa using h
  exact⟨.inl,λh=>h.elim id (λe=>e▸a)⟩
 ·simp
theorem Hj:∀(xs a:List Nat) (c:Nat),c∈xs.foldl Es a↔c∈a\/c∈xs
 | [],a,c=>by simp
 | x::xs,a,c=>by rw[aa7,Hj xs,A69,p9,or_assoc]
theorem VH{l:List Nat}{b:Nat}(h:l.Nodup):(Es l b).Nodup:=by
 unfold Es;split
 ·exact h
 ·rename_i a;rw[List.nodup_append];refine⟨h,by simp,λx d y c e=>?_⟩;simp at c;subst c;subst e;simp at a;exact a d
theorem Ls:∀(xs a:List Nat),a.Nodup->(xs.foldl Es a).Nodup
 | [],a,h=>h
 | x::xs,a,h=>by rw[aa7];exact Ls xs _ (VH h)
theorem Np(H:List Blk):∀(l a:List Nat),a.Nodup->(l.foldl (λa b=>((H.getD b .dead).nms).foldl Es a) a).Nodup
 | [],a,h=>h
 | x::l,a,h=>by rw[aa7];exact Np H l _ (Ls _ _ h)
theorem Zb(H:List Blk):∀(l a:List Nat) c,c∈a->c∈l.foldl (λa b=>((H.getD b .dead).nms).foldl Es a) a
 | [],a,c,h=>h
 | x::l,a,c,h=>by rw[aa7];exact Zb H l _ c ((Hj _ _ _).2 (.inl h))
theorem As5(H:List Blk)(p:Nat->Prop)(f:∀b,p b->∀c∈(H.getD b .dead).nms,p c):∀(l a:List Nat),(∀c∈a,p c)->(∀c∈l,p c)->∀c∈l.foldl (λa b=>((H.getD b .dead).nms).foldl Es a) a,p c
 | [],a,h,_=>h
 | x::l,a,h,e=>by
  rw[aa7];refine As5 H p f l _ (λc d=>?_) (λc d=>e c (by simp[d]));rcases(Hj _ _ _).1 d with d|d
  ·exact h c d
  ·exact f x (e x (by simp)) c d
theorem EI(H:List Blk)(l:List Nat):(Cr H l).Nodup:=
 Np H _ _ (Np H _ _ (Np H _ _ (Ls _ _ ag4)))
theorem QZ(H:List Blk)(l:List Nat):∀c∈l,c∈Cr H l:=λc a=>
 Zb H _ _ c (Zb H _ _ c (Zb H _ _ c ((Hj _ _ _).2 (.inr a))))
theorem QY(H:List Blk)(l:List Nat)(p:Nat->Prop)(g:∀b,p b->∀c∈(H.getD b .dead).nms,p c)(f:∀c∈l,p c):∀c∈Cr H l,p c:=by
 have d:∀c∈l.foldl Es [],p c:=λc e=>by
  rcases(Hj _ _ _).1 e with h|h
  ·simp at h
  ·exact f c h
 have step:∀m,(∀c∈m,p c)->∀c∈YW H m,p c:=λm a=>As5 H p g m m a a
 exact step _ (step _ (step _ d))
theorem NS{H:List Blk}{a:List Nat}(h:Gx H a=true):∀b∈a,∀c∈(H.getD b .dead).nms,c∈a:=by intro b d c e;simp only[Gx,j5] at h;simpa using h b d c e
theorem Hi{c:List Nat}{b:Nat}(h:b∈c):∃a:H5 c b<c.length,c[H5 c b]=b:=by have a:c.idxOf b<c.length:=ac1 h;exact⟨a,List.getElem_idxOf a⟩
theorem Mo{Γ:Ctx}{sh:Nat->Option Shp}{w:World}:∀(a:List Nat) (sl:List PV),(K9 a sl).length=sl.length/\(∀c∈C6 (K9 a sl),c∉a/\c∈C6 sl)/\
  ∀i (h:i<(K9 a sl).length) (f:i<sl.length) V,VP Γ sh w (sl[i]) V->VP Γ sh w ((K9 a sl)[i]) V
 | [],sl=>⟨rfl,λc g=>⟨by simp,g⟩,λi h f V k=>k⟩
 | b::a,sl=>by
  obtain⟨n,o,p⟩:=Mo (Γ:=Γ) (sh:=sh) (w:=w) a (W8 b sl);have j:(W8 b sl).length=sl.length:=by rw[Cd];simp
  have e:K9 (b::a) sl=K9 a (W8 b sl):=rfl;refine⟨by rw[e,n,j],λc g=>?_,λi h f V k=>?_⟩
  ·rw[e] at g;obtain⟨q,l⟩:=o c g;refine⟨?_,Bm b sl c l⟩;rintro d;rcases p9.1 d with rfl|d
   ·exact R9 c sl l
   ·exact q d
  ·simp only[e];refine p i (by rw[e] at h;exact h) (by rw[j];exact f) V ?_;have m:(W8 b sl)[i]'(by rw[j];exact f)=(sl[i]).kill b:=by simp[Cd]
   rw[m];exact k.kill b
theorem Pr{Γ:Ctx}{sh:Nat->Option Shp}{w:World}:∀(a:List Nat) (H:List Blk),(R2 a H).length=H.length/\(∀b,A5 (R2 a H) b=A5 H b)/\
  ∀i (h:i<(R2 a H).length) (g:i<H.length),(∀c∈((R2 a H)[i]).nms,c∉a/\c∈(H[i]).nms)/\∀b,BR Γ sh w b (H[i])->BR Γ sh w b ((R2 a H)[i])
 | [],H=>⟨rfl,λ_=>rfl,λi h g=>⟨λc f=>⟨by simp,f⟩,λb l=>l⟩⟩
 | k::a,H=>by
  obtain⟨p,q,r⟩:=Pr (Γ:=Γ) (sh:=sh) (w:=w) a (H.map (Blk.kill k));have n:(H.map (Blk.kill k)).length=H.length:=by simp
  have e:R2 (k::a) H=R2 a (H.map (Blk.kill k)):=rfl;refine⟨by rw[e,p,n],λb=>by rw[e,q,MZ],λi h g=>?_⟩;have j:i<(H.map (Blk.kill k)).length:=by rw[n];exact g
  obtain⟨t,u⟩:=r i (by rw[e] at h;exact h) j;have m:(H.map (Blk.kill k))[i]=(H[i]).kill k:=by simp
  refine⟨λc f=>?_,λb l=>?_⟩
  ·simp only[e] at f;obtain⟨v,o⟩:=t c f;rw[m] at o;obtain⟨x,y⟩:=Blk.kill_nms' c o;refine⟨?_,y⟩;rintro d;rcases p9.1 d with rfl|d
   ·exact x rfl
   ·exact v d
  ·simp only[e];exact u b (by rw[m];exact l.kill)
theorem Jj:∀(a:List Nat) (xs H:List Blk),a.Nodup->xs.length=a.length->(∀b∈a,b<H.length)->(Be H a xs).length=H.length/\
  ∀b,(Be H a xs)[b]? = if b∈a then xs[a.idxOf b]? else H[b]?
 | [],xs,H,_,f,_=>by cases xs<;>simp[Be]
 | n::a,[],H,_,f,_=>by simp at f
 | n::a,x::xs,H,i,f,d=>by
  obtain⟨j,k⟩:=Jj a xs (H.set n x) (ab8.1 i).2 (by simpa using f) (λb c=>by simpa using d b (by simp[c]));have e:Be H (n::a) (x::xs)=Be (H.set n x) a xs:=rfl;refine⟨by rw[e,j];simp,λb=>?_⟩;rw[e,k];have l:n∉a:=(ab8.1 i).1;by_cases c:b∈a
  ·have g:n≠b:=by rintro rfl;exact l c
   rw[if_pos c,if_pos (by simp[c]),List.idxOf_cons];have:(n==b)=false:=by simpa using g
   simp[this]
  ·rw[if_neg c,List.getElem?_set];by_cases e:n=b
   ·subst e;rw[if_pos rfl,if_pos (d n (by simp)),if_pos (by simp)];simp
   ·rw[if_neg e,if_neg (by simp only[p9,not_or];exact⟨λh=>e h.symm,c⟩)]
def I2(a:Option Nat):Fence:={ ab5 with round:=a }
def T2(P:Program)(b:Result Next)(R:Value->World->Prop):Prop:=
 ∀(c:Option Nat) (n:Nat) (o:Oper) (a:Act) (next:Act->World->Prop) (Q:Exit->Act->World->Prop),(∀V w',R V w'->next (a.put o.dst V) w')->o.uponIn (I2 c) n P a next Q b
theorem T2.mono{P:Program}{res:Result Next}{R R':Value->World->Prop}(h:T2 P res R)(hr:∀V w',R V w'->R' V w'):T2 P res R':=
 λro n o a next Q hn=>h ro n o a next Q λV w' hR=>hn V w' (hr V w' hR)
def Eb{Z:Type}(C:Cfg)(I:Z->(Nat->Prop)->(Nat->Prop)->World->Prop)(f:Ctx)(H:List Blk)(w:World)(h:Nat->Prop)(ret:PV)(d:List Blk)(e:Z)(V:Value)(w':World):Prop:=
 ∃ Γ' a,Stp C f H w h Γ' d w' a/\HR Γ' d w'/\VP Γ' (A5 d) w' ret V/\(∀c∈ret.nms,c<d.length)/\I e Γ'.St a w'/\∀b g,Γ'.nm b=some g->¬a g
def Ay0{Z:Type}(P:Program)(I:Z->(Nat->Prop)->(Nat->Prop)->World->Prop)(i:Yh Z)(j:Value):Prop:=
 ∀args s b h,i args s=some (b,h)->Kf args=true->∀a e w f,I s a.St e w->(∀g,a.St g->g<w.heap.size)->CR a (λ_=>none) w args f->
  T2 P ((do let d <-j9 j f;invoke d.target d.args).run P w) λV w'=>V = .bool b/\∃St' c,I h St' c w'/\(∀g,a.St g->St' g)/\(∀g,St' g->a.St g\/w.heap.size<=g)/\(∀g,c g->e g\/w.heap.size<=g)/\
   (∀g,g<w.heap.size->¬e g->w'.heap[g]? = w.heap[g]?)/\w.heap.size<=w'.heap.size/\w'.os=w.os/\w'.tape=w.tape/\w'.output=w.output/\∀g,St' g->g<w'.heap.size
def Bv(C:Cfg)(k:F8):Prop:=
 ∀(Z:Type) (I:Z->(Nat->Prop)->(Nat->Prop)->World->Prop) (i:Yh Z) (j:Value),HI I->Ay0 C.P I i j->
  ∀g args H s ret e h,k Z i g args H s=some (ret,e,h)->∀a d w f,a.yv=j->HR a H w->GOK C a.St w->I s a.St d w->(∀b g,a.nm b=some g->¬d g)->CR a (A5 H) w args f->(∀c∈C6 args,c<H.length)->
   T2 C.P ((callFunc g f).run C.P w) (Eb C I a H w d ret e h)
def I0:Unit->(Nat->Prop)->(Nat->Prop)->World->Prop:=λ_ _ a _=>∀g,¬a g
def D06(C:Cfg):Prop:=
 ∀g e args ret c,C.X g=some e->L9 (e args)=some (ret,c)->∀a w d,(∀b,a.nm b=none)->HR a [] w->GOK C a.St w->CR a (A5 []) w args d->
  T2 C.P ((callFunc g d).run C.P w) (Eb C I0 a [] w noΦ ret c ())
def clY(C:Cfg):F8:=λ_ _ g args H s=>match C.Y g with
 | some a=>match L9 (a args H) with
  | some (r,h)=>some (r,h,s)
  | none=>none
 | none=>none
def Dq{Z:Type}(b:Yh Z):List (List PV)->Z->Option Z
 | [],s=>some s
 | x::xs,s=>match b x s with
  | some (true,a)=>Dq b xs a
  | some (false,a)=>some a
  | none=>none
def clS(C:Cfg):F8:=λ_ c g args H s=>match C.S g with
 | some a=>if H.all QI=true then match a args H with
  | some (true,L)=>match Dq c L s with
   | some b=>some (.tup [],H.map Kl,b)
   | none=>none
  | _=>none
  else none
 | none=>none
structure XOK (C:Cfg):Prop where
 x:D06 C
 y:Bv C (clY C)
 s:Bv C (clS C)
section
variable {Γ : Ctx} {H : List Blk} {w : World} {C : Cfg}
def Ctx.all(Γ:Ctx):Ctx:={ Γ with St:=λg=>Γ.St g\/∃b,Γ.nm b=some g }
theorem ZB{St':Nat->Prop}{b e f i n:Nat}{v:Bool}{c:List (List SV)}{a:Addr}{cap g:Nat}(K:HR Γ H w)(M:H[b]? = some (.arr v e f c))(y:¬(v=true/\c=[]))(N:Γ.nm b=some g)(Q:i+n<=c.length)(L:n≠0->a=⟨g,i*f,none⟩)(o:n<=cap)(G:cap<=maxLen)(z:∀g,Γ.St g->St' g)(u:St' g) :
  VS St' w (.sl false false f ((c.drop i).take n)) (.slice (some a) n cap):=by
 by_cases I:n=0
 ·subst I;rw[List.take_zero];exact .emp false f a cap (by simp) G
 ·rw[L I];obtain⟨O,d,B,D,P,J,F⟩:=K.arr' M y;rw[N] at B;cases B;have p:((c.drop i).take n).length=n:=by simp;omega
  have h:∀k (l:k<((c.drop i).take n).length),∃m:i+k<c.length,((c.drop i).take n)[k]=c[i+k]:=λk l=>by grind
  have t:∀k,k<d.size->w.cell? ⟨g,k,none⟩=d[k]?:=λk _=>cell_of_row w g k d e (0,0) D
  refine .sl false _ g (i*f) n cap f (λk j=>d.getD (i*f+k*f+j) undef) p.symm o G (by simp) u (λk l=>?_) (λk l j x=>?_) (λk l j x=>?_)
  ·obtain⟨m,e⟩:=h k l;rw[e];exact J _ m
  ·obtain⟨m,e⟩:=h k l;obtain⟨V,r,A⟩:=F _ m j (by rw[<-e];exact x);have q:d[i*f+k*f+j]? = some V:=by rw[<-r,ad8]
   rw[cell_of_row w g _ d _ (0,0) D,q];simp[o7,q]
  ·obtain⟨m,e⟩:=h k l;obtain⟨V,r,A⟩:=F _ m j (by rw[<-e];exact x);have q:d[i*f+k*f+j]? = some V:=by rw[<-r,ad8]
   simp only[e,o7,q];exact A.mono (λ_ _=>rfl) z
theorem VP.toAll{sh:Nat->Option Shp}{v:PV}{V:Value}(h:VP Γ sh w v V):VP Γ.all sh w v V:=
 h.mono (Γ':=Γ.all) (ok:=λ_=>True) ⟨λ_ _=>rfl,λ_ h=>aa9 h,λ_ _=>rfl,λ_ _=>rfl,λ_ _ _ _=>rfl,rfl⟩ (λ_ _=>trivial)
theorem VP.snap(hH:HR Γ H w){v:PV}{V:Value}(h:VP Γ (A5 H) w v V):VP Γ.all (A5 H) w (v.snap H) V:=by
 generalize hsh:A5 H=sh at h
 induction h with
 | s v V h=>exact(VP.s v V h).toAll
 | nsl=>exact .s _ _ (.nil _ _)
 | flv b e sz h=>
  subst hsh;obtain⟨x,hx,hs⟩:∃x,H[b]? = some x/\x.shp = .arr true e sz 0:=by simpa[A5] using h
  cases x<;>simp[Blk.shp] at hs
  rename_i v' e' sz' els;obtain⟨rfl,rfl,rfl,h4⟩:=hs;subst h4;simp only[PV.snap,hx];exact .s _ _ (.nil _ _)
 | fl b g v e sz n cap h hv hg hcap hm hs=>
  subst hsh;obtain⟨x,hx,hs'⟩:∃x,H[b]? = some x/\x.shp = .arr v e sz n:=by simpa[A5] using h
  cases x<;>simp[Blk.shp] at hs'
  rename_i v' e' sz' els;obtain⟨rfl,rfl,rfl,rfl⟩:=hs';have hne:¬(v'=true/\els=[]):=by rintro⟨q1,q2⟩;exact hv q1 (by rw[q2];rfl)
  have hz:(v'&&els.isEmpty)=false:=by grind
  simp only[PV.snap,hx,hz];have:=ZB (i:=0) (n:=els.length) (a:=⟨g,0,none⟩) (cap:=cap) hH hx hne hg (by omega) (λ_=>by simp) hcap hm (St':=Γ.all.St) (λ_ h=>aa9 h) (.inr ⟨b,hg⟩);simp only[ac3,af4] at this;exact .s _ _ this
 | vwv b e sz i h=>
  subst hsh;obtain⟨x,hx,hs⟩:∃x,H[b]? = some x/\x.shp = .arr true e sz 0:=by simpa[A5] using h
  cases x<;>simp[Blk.shp] at hs
  rename_i v' e' sz' els;obtain⟨rfl,rfl,rfl,h4⟩:=hs;subst h4;simp only[PV.snap,hx,ag6,ag8];exact .s _ _ (.nil _ _)
 | vw b i n g a cap v e sz m h hv hg ha hi hcap hm=>
  subst hsh;obtain⟨x,hx,hs'⟩:∃x,H[b]? = some x/\x.shp = .arr v e sz m:=by simpa[A5] using h
  cases x<;>simp[Blk.shp] at hs'
  rename_i v' e' sz' els;obtain⟨rfl,rfl,rfl,rfl⟩:=hs';have hne:¬(v'=true/\els=[]):=by rintro⟨q1,q2⟩;exact hv q1 (by rw[q2];rfl)
  have hz:(v'&&els.isEmpty)=false:=by grind
  simp only[PV.snap,hx,hz];exact .s _ _ (ZB hH hx hne hg hi ha hcap hm (λ_ h=>aa9 h) (.inr ⟨b,hg⟩))
 | ptrA b i off g v e sz n h hg=>exact(VP.ptrA b i off g v e sz n h hg).toAll
 | ptrB b off g h hg=>exact(VP.ptrB b off g h hg).toAll
 | fnr f x y A B As Bs hf hA hB ha hb hx hy ihx ihy=>exact(VP.fnr f x y A B As Bs hf hA hB ha hb hx hy).toAll
 | it b g h hg=>exact(VP.it b g h hg).toAll
 | yd=>exact .yd
 | agg l A As hA ha hl ih=>
  simp only[PV.snap,Ia];refine .agg _ A As (by simpa using hA) (λj h=>ha j (by simpa using h)) (λj h=>?_);grind
 | tup l A As hA ha hl ih=>exact(VP.tup l A As hA ha hl).toAll
 | bad V=>exact .bad V
theorem RJ{l:List PV}(h:Qc l=false):∀v∈l,v.rows=false:=by
 induction l with
 | nil=>simp
 | cons a l b=>
  simp only[Qc,Bool.or_eq_false_iff] at h;grind
theorem VP.snap_plain{sh:Nat->Option Shp}{v:PV}{V:Value}(h:VP Γ sh w v V):v.rows=false->VP Γ sh w (v.snap H) V/\∀c∈(v.snap H).nms,c∈v.nms:=by
 induction h with
 | nsl=>intro _;exact⟨.s _ _ (.nil _ _),by simp[PV.snap,PV.nms]⟩
 | flv b e sz h=>intro hr;simp[PV.rows] at hr
 | fl b g v e sz n cap h hv hg hcap hm hs=>intro hr;simp[PV.rows] at hr
 | vwv b e sz i h=>intro hr;simp[PV.rows] at hr
 | vw b i n g a cap v e sz m h hv hg ha hi hcap hm=>intro hr;simp[PV.rows] at hr
 | agg l A As hA ha hl ih=>
  intro hr;simp only[PV.rows] at hr;have hr':=RJ hr;simp only[PV.snap,Ia];refine⟨.agg _ A As (by simpa using hA) (λj h=>ha j (by simpa using h)) (λj h=>?_),λc hc=>?_⟩
  ·grind
  ·simp only[PV.nms] at hc ⊢;obtain⟨j,hj,hc⟩:=C0.1 hc;rw[j1] at hc;exact C0.2 ⟨j,by simpa using hj,(ih j (by simpa using hj) (hr' _ (b9 _))).2 c hc⟩
 | s v V h=>intro _;exact⟨.s v V h,λc hc=>hc⟩
 | ptrA b i off g v e sz n h hg=>intro _;exact⟨.ptrA b i off g v e sz n h hg,λc hc=>hc⟩
 | ptrB b off g h hg=>intro _;exact⟨.ptrB b off g h hg,λc hc=>hc⟩
 | fnr f x y A B As Bs hf hA hB ha hb hx hy ihx ihy=>intro _;exact⟨.fnr f x y A B As Bs hf hA hB ha hb hx hy,λc hc=>hc⟩
 | it b g h hg=>intro _;exact⟨.it b g h hg,λc hc=>hc⟩
 | yd=>intro _;exact⟨.yd,λc hc=>hc⟩
 | tup l A As hA ha hl ih=>intro _;exact⟨.tup l A As hA ha hl,λc hc=>hc⟩
 | bad V=>intro _;exact⟨.bad V,λc hc=>hc⟩
theorem CR.snap(hH:HR Γ H w){l:List PV}{A:Array Value}(h:CR Γ (A5 H) w l A):CR Γ.all (A5 H) w (M3 H l) A:=by rw[Ia];refine⟨by rw[p6];exact h.1,λj hj=>?_⟩;obtain⟨U,e,k⟩:=h.2 j (by simpa using hj);exact⟨U,e,by rw[j1];exact k.snap hH⟩
theorem CR.snap_plain{l:List PV}{A:Array Value}(h:CR Γ (A5 H) w l A)(hr:Qc l=false):CR Γ (A5 H) w (M3 H l) A/\∀c∈C6 (M3 H l),c∈C6 l:=by
 have hr':=RJ hr;rw[Ia];refine⟨⟨by rw[p6];exact h.1,λj hj=>?_⟩,λc hc=>?_⟩
 ·obtain⟨U,e,k⟩:=h.2 j (by simpa using hj);exact⟨U,e,by rw[j1];exact(k.snap_plain (hr' _ (b9 _))).1⟩
 ·obtain⟨j,hj,hc⟩:=C0.1 hc;rw[j1] at hc;have hj':j<l.length:=by simpa using hj
  obtain⟨U,e,k⟩:=h.2 j hj';exact C0.2 ⟨j,hj',(k.snap_plain (hr' _ (b9 _))).2 c hc⟩
theorem CR.bare{Γ':Ctx}{sh sh':Nat->Option Shp}{l:List PV}{A:Array Value}(h:CR Γ sh w l A)(hn:C6 l=[])(hst:∀g,Γ.St g->Γ'.St g)(hyv:Γ'.yv=Γ.yv):CR Γ' sh' w l A:=
 ⟨h.1,λj hj=>by
  obtain⟨U,e,k⟩:=h.2 j hj;refine⟨U,e,k.mono (ok:=λ_=>False) ⟨λ_ _=>rfl,hst,λ_ h=>h.elim,λ_ h=>h.elim,λ_ _ h=>h.elim,hyv⟩ (λb hb=>?_)⟩;have:b∈C6 l:=C0.2 ⟨j,hj,hb⟩;rw[hn] at this;simp at this⟩
theorem DB{St':Nat->Prop}{w':World}(d:HR Γ H w)(a:∀g,g<w.heap.size->w'.heap[g]? = w.heap[g]?)(e:∀g,Γ.St g->St' g):Ah Γ (A5 H) w { Γ with St:=St' } (A5 H) w' (λ_=>True):=
 ⟨λg c=>a g (d.stlt g c),e,λ_ _=>rfl,λ_ _=>rfl,λb g _ c=>F2 (a g (d.lt b g c).2.1),rfl⟩
theorem Dk8{St':Nat->Prop}{w':World}(c:HR Γ H w)(a:∀g,g<w.heap.size->w'.heap[g]? = w.heap[g]?)(i:w.heap.size<=w'.heap.size)(h:∀g,Γ.St g->St' g)(j:∀g,St' g->Γ.St g\/w.heap.size<=g)(e:∀g,St' g->g<w'.heap.size):HR { Γ with St:=St' } H w':=by refine⟨c.inj,λb g d=>?_,e,c.nms,λb f=>(c.blk b f).mono (DB c a h) rfl (λg d=>a g (c.lt b g d).2.1) (λ_ _=>trivial)⟩;have:=c.lt b g d;grind
theorem C15{St':Nat->Prop}{w':World}{Φ:Nat->Prop}(e:HR Γ H w)(a:∀g,g<w.heap.size->w'.heap[g]? = w.heap[g]?)(d:w.heap.size<=w'.heap.size)(l:∀g,Γ.St g->St' g)(k:∀g,St' g->Γ.St g\/w.heap.size<=g)(f:w'.os=w.os)(i:w'.tape=w.tape)(j:w'.output=w.output) :
  Stp C Γ H w Φ { Γ with St:=St' } H w' Φ:=
 ⟨f,i,j,d,l,k,λb g c=>.inl ⟨(e.lt b g c).1,c⟩,λ_ h=>.inl h,λg c _ _=>a g c,rfl,j7 _,λb m n=>⟨rfl,rfl,λg c=>F2 (a g (e.lt b g c).2.1)⟩⟩
end
section
variable {Z R : Type} {r : R} {C : Cfg} {I : Z -> (Nat -> Prop) -> (Nat -> Prop) -> World -> Prop} {Q : Ctx} {W : Nat -> Prop} {Y : St Z} {J : Array Value} {w : World} {U : F8} {O : Yh Z} {K : Value}
def O2(w w':World):Prop:=(Ext w w'/\w.heap.size<=w'.heap.size)/\w'.os=w.os/\w'.tape=w.tape/\w'.output=w.output
def Av1(C:Cfg)(I:Z->(Nat->Prop)->(Nat->Prop)->World->Prop)(Q:Ctx)(W:Nat->Prop)(Y:St Z)(J:Array Value)(w:World)(k:PV->St Z->Option R)(r:R)(V:Value)(w':World):Prop:=
 ∃v a Γ' b,k v a=some r/\Stp C Q Y.hp w W Γ' a.hp w' b/\SI C I Γ' b a J w'/\VP Γ' (A5 a.hp) w' v V/\∀c∈v.nms,c<a.hp.length
theorem Lv{a:Ctx}(d:∀b,a.nm b=none)(c:∀g,a.St g->g<w.heap.size):HR a [] w:=
 ⟨λb e g h=>(by rw[d] at h;cases h),λb g h=>(by rw[d] at h;cases h),c,λb h=>by simp at h,λb h=>by simp at h⟩
theorem SI.wide(hI:HI I)(S:SI C I Q W Y J w){St':Nat->Prop}{w':World}(hold:∀g,g<w.heap.size->w'.heap[g]? = w.heap[g]?)(hsz:w.heap.size<=w'.heap.size)(hs:∀g,Q.St g->St' g)(hn:∀g,St' g->Q.St g\/w.heap.size<=g)(hlt:∀g,St' g->g<w'.heap.size)
  (h1:w'.os=w.os) (h2:w'.tape=w.tape) (h3:w'.output=w.output):SI C I { Q with St:=St' } W Y J w'/\Stp C Q Y.hp w W { Q with St:=St' } Y.hp w' W:=by
 have hstp:=C15 (C:=C) (Φ:=W) S.hr hold hsz hs hn h1 h2 h3;refine⟨?_,hstp⟩;have:=S.step hI hstp (λg hg=>hold g (hI.foot _ _ _ _ S.inv g hg).1) (Dk8 S.hr hold hsz hs hn hlt) (S.sr.mono (DB S.hr hold hs) (λc hc=>⟨trivial,S.sr.nms c hc⟩));exact this
theorem SI.wideSt(hI:HI I)(S:SI C I Q W Y J w){St':Nat->Prop}(hs:∀g,Q.St g->St' g)(hd:∀g,St' g->¬W g)(hn:∀b g,Q.nm b=some g->¬St' g)(hlt:∀g,St' g->g<w.heap.size):SI C I { Q with St:=St' } W Y J w:=by
 have M:Ah Q (A5 Y.hp) w { Q with St:=St' } (A5 Y.hp) w (λ_=>True):=⟨λ_ _=>rfl,hs,λ_ _=>rfl,λ_ _=>rfl,λ_ _ _ _=>rfl,rfl⟩
 refine⟨⟨S.hr.inj,λb g hb=>?_,hlt,S.hr.nms,λb hb=>(S.hr.blk b hb).mono M rfl (λ_ _=>rfl) (λ_ _=>trivial)⟩,
  S.sr.mono M (λc hc=>⟨trivial,S.sr.nms c hc⟩),S.g.mono (λ_ _=>rfl) hs,hI.mono _ _ _ _ _ _ S.inv hs hd hlt (λ_ _=>rfl) (j7 _) rfl rfl rfl,S.dis⟩
 obtain⟨q1,q2,_⟩:=S.hr.lt b g hb;exact⟨q1,q2,hn b g hb⟩
theorem Ay2(S:SI C I Q W Y J w):∀g,Q.all.St g->g<w.heap.size:=by
 rintro g (h|⟨b,h⟩)
 ·exact S.hr.stlt g h
 ·exact(S.hr.lt b g h).2.1
theorem Cf5:HI I0:=⟨λ_ _ W _ h g a=>absurd a (h g),λ_ _ W _ _ _ h _ _ _ _ _ _ _ _=>h⟩
theorem Cf6{P:Program}{K:Value}:Ay0 P I0 (λ_ _=>none) K:=λ_ _ _ _ h=>by cases h
theorem CX{ret:PV}{u:List Blk}{k:PV->St Z->Option R}{St0:Nat->Prop}{T:Result Next}(hI:HI I)(S:SI C I Q W Y J w)(a5:∀g,Q.St g->St0 g)(a0:(∀g,St0 g->Q.St g)\/(ret.clean=true/\u.all Blk.clean=true))
  (a2:T2 C.P T (Eb C I0 { Q with St:=St0,nm:=λ_=>none } [] w noΦ ret u ()))
  (hk:k (ret.rn (Y.hp.length + ·)) { sl:=Y.sl,hp:=Y.hp++u.map (Blk.rn (Y.hp.length + ·)),s:=Y.s } = some r):T2 C.P T (λV w'=>Av1 C I Q W Y J w k r V w'/\O2 w w'):=by
 let Γc:Ctx:={ Q with St:=St0,nm:=λ_=>none }
 refine a2.mono ?_;rintro V w' ⟨n,Φ1,l,f,hv,hvn,a9,a7⟩;have e:∀k,k<w.heap.size->w'.heap[k]? = w.heap[k]?:=λk hk=>l.frame k hk (λb=>by simp) (λx=>x)
 generalize hL:Y.hp.length=L at *;have p:∀i g,n.nm i=some g->i<u.length/\w.heap.size<=g/\g<w'.heap.size:=λi g h=>by
  refine⟨(f.lt i g h).1,?_,(f.lt i g h).2.1⟩;rcases l.own i g h with⟨h',_⟩|h'
  ·simp at h'
  ·exact h'
 obtain⟨t,D,m,H,B⟩:∃t:Nat->Prop,(∀g,Q.St g->t g)/\(∀g,t g->Q.St g\/(w.heap.size<=g/\n.St g))/\(∀g,t g->g<w'.heap.size)/\((∀g,n.St g->t g)\/(ret.clean=true/\u.all Blk.clean=true)):=by
  rcases a0 with h|h
  ·refine⟨n.St,λg a=>l.sub g (a5 g a),λg a=>?_,λg a=>f.stlt g a,.inl λ_ h=>h⟩;rcases l.stnew g a with q|q
   ·exact .inl (h g q)
   ·exact .inr ⟨q,a⟩
  ·exact⟨Q.St,λ_ h=>h,λ_ h=>.inl h,λg a=>j4 (S.hr.stlt g a) l.size,.inr h⟩
 let Γ2:Ctx:={ Q with St:=t,nm:=λb=>if b<L then Q.nm b else n.nm (b-L) }
 let o:List Blk:=Y.hp++u.map (Blk.rn (L + ·));have a3:∀i,i<u.length->A5 o (L+i)=A5 u i:=λi hi=>by
  simp only[o,A5];rw[y9 (by omega),hL,ac8,x7,Option.map_map]
  congr 1
  funext x
  exact Blk.rn_shp _ x
 have M:Ah Q (A5 Y.hp) w Γ2 (A5 o) w' (· < L):=⟨λg a=>e g (S.hr.stlt g a),D,λb A=>by simp only[Γ2];rw[if_pos A],λb A=>O7 (by omega),λb g A a=>F2 (e g (S.hr.lt b g a).2.1),rfl⟩
 have y:∀i,i<u.length->Γ2.nm (L+i)=n.nm i:=λi hi=>by simp only[Γ2];rw[if_neg (by omega),ac8]
 have a4:Γ2.yv=n.yv:=by have:=l.yv;exact this.symm
 have j:o.length=L+u.length:=by simp[o,hL]
 have a6:HR Γ2 o w':=by
  refine⟨λb b' g N P=>?_,λb g h=>?_,H,λb A c z=>?_,λb A=>?_⟩
  ·simp only[Γ2] at N P;split at N<;>split at P
   ·exact S.hr.inj b b' g N P
   ·have:=(S.hr.lt b g N).2.1;have:=(p _ g P).2.1;omega
   ·have:=(S.hr.lt b' g P).2.1;have:=(p _ g N).2.1;omega
   ·have:=f.inj _ _ g N P;omega
  ·rw[j];simp only[Γ2] at h;split at h
   ·have:=S.hr.lt b g h;refine⟨by omega,by have:=l.size;omega,λG=>?_⟩;rcases m g G with q|q
    ·exact this.2.2 q
    ·omega
   ·have:=p _ g h;refine⟨by omega,this.2.2,λG=>?_⟩;rcases m g G with q|q
    ·have:=S.hr.stlt g q;omega
    ·exact(f.lt _ g h).2.2 q.2
  ·rw[j] at A ⊢;by_cases X:b<L
   ·have:o[b]'(by omega)=Y.hp[b]'(by omega):=w8 (by omega);rw[this] at z;have:=S.hr.nms b (by omega) c z;omega
   ·have:o[b]'(by omega)=(u[b-L]'(by omega)).rn (L + ·):=by
     simp only[o];rw[aa5 (by omega),j1];simp[hL]
    rw[this,Blk.rn_nms] at z;obtain⟨d,hd,rfl⟩:=x9.1 z;have:=f.nms _ (by omega) d hd;omega
  ·rw[j] at A;by_cases X:b<L
   ·have:o[b]'(by omega)=Y.hp[b]'(by omega):=w8 (by omega);rw[this];exact(S.hr.blk b (by omega)).mono M (M.nm b X) (λg a=>e g (S.hr.lt b g a).2.1) (λc v=>by have:=S.hr.nms b (by omega) c v;omega)
   ·have:o[b]'(by omega)=(u[b-L]'(by omega)).rn (L + ·):=by
     simp only[o];rw[aa5 (by omega),j1];simp[hL]
    rw[this];refine(f.blk _ (by omega)).rn a4 (by
     rcases B with h|h
     ·exact .inr h
     ·exact .inl (j5.1 h.2 _ (b9 _))) ?_ (λc v=>?_)
    ·have:=y (b-L) (by omega);rw[show L+(b-L)=b by omega] at this;exact this
    ·have a1:=f.nms _ (by omega) c v;exact⟨y c a1,a3 c a1⟩
 have F:Stp C Q Y.hp w W Γ2 o w' W:=by
  refine⟨l.os,l.tape,l.output,l.size,D,λg a=>(m g a).imp (λh=>h) (λh=>h.1),λb g h=>?_,λ_ h=>.inl h,λg a _ _=>e g a,rfl,by omega,λb A hf=>⟨M.nm b (by omega),M.shp b (by omega),λg a=>M.hs b g (by omega) a⟩⟩;simp only[Γ2] at h;split at h
  ·exact .inl ⟨by omega,h⟩
  ·exact .inr (p _ g h).2.1
 have S':=S.step hI F (λg a=>e g (hI.foot _ _ _ _ S.inv g a).1) a6 (S.sr.mono M (λc v=>by have:=S.sr.nms c v;omega));refine⟨⟨_,_,Γ2,W,hk,F,S',?_,λc v=>?_⟩,⟨e,l.size⟩,l.os,l.tape,l.output⟩
 ·exact hv.rn a4 (by rcases B with h|h;exact .inr h;exact .inl h.1) (λc v=>⟨y c (hvn c v),a3 c (hvn c v)⟩)
 ·rw[PV.rn_nms] at v;obtain⟨d,hd,rfl⟩:=x9.1 v;have:=hvn d hd;show L+d<o.length;omega
theorem Ae7{g:Nat}{args:List PV}{e:Array Value}{ret:PV}{d:List Blk}{k:PV->St Z->Option R}(n:HI I)(l:Bv C U)(S:SI C I Q W Y J w)(o:CR Q (A5 Y.hp) w args e)(a:C6 (M3 Y.hp args)=[])(j:U Unit (λ_ _=>none) g (M3 Y.hp args) [] ()=some (ret,d,()))
  (c:ret.clean=true) (m:d.all Blk.clean=true) (p:k (ret.rn (Y.hp.length + ·)) { sl:=Y.sl,hp:=Y.hp++d.map (Blk.rn (Y.hp.length + ·)),s:=Y.s } = some r):T2 C.P ((callFunc g e).run C.P w) (Av1 C I Q W Y J w k r):=by
 have f:=o.snap S.hr;let Γc:Ctx:={ Q.all with nm:=λ_=>none }
 have i:CR Γc (A5 []) w (M3 Y.hp args) e:=f.bare a (λ_ h=>h) rfl;exact(CX n S (St0:=Q.all.St) (λ_ h=>aa9 h) (.inr ⟨c,m⟩)
  (l Unit I0 _ Q.yv Cf5 Cf6 g _ [] () ret d () j Γc noΦ w e rfl (Lv (λ_=>rfl) (Ay2 S)) (S.g.mono (λ_ _=>rfl) (λ_ h=>aa9 h)) (λ_ h=>h) (λb g h=>by cases h) i (by rw[a];simp)) p).mono λ_ _ h=>h.1
theorem JZ{g:Nat}{args:List PV}{d:Array Value}{j:List PV->Tr}{ret:PV}{c:List Blk}{k:PV->St Z->Option R}(m:HI I)(n:XOK C)(S:SI C I Q W Y J w)(o:CR Q (A5 Y.hp) w args d)(p:C.X g=some j)(i:L9 (j (M3 Y.hp args))=some (ret,c))
  (f:C6 (M3 Y.hp args)=[]) (l:Qc args=false\/(ret.clean=true/\c.all Blk.clean=true)) (q:k (ret.rn (Y.hp.length + ·)) { sl:=Y.sl,hp:=Y.hp++c.map (Blk.rn (Y.hp.length + ·)),s:=Y.s } = some r):T2 C.P ((callFunc g d).run C.P w) (λV w'=>Av1 C I Q W Y J w k r V w'/\O2 w w'):=by
 by_cases t:Qc args=false
 ·have a:=(o.snap_plain t).1;let Γc:Ctx:={ Q with nm:=λ_=>none }
  have b:CR Γc (A5 []) w (M3 Y.hp args) d:=a.bare f (λ_ h=>h) rfl;exact CX m S (St0:=Q.St) (λ_ h=>h) (.inl λ_ h=>h) (n.x g j _ ret c p i Γc w d (λ_=>rfl) (Lv (λ_=>rfl) S.hr.stlt) S.g b) q
 ·have e:ret.clean=true/\c.all Blk.clean=true:=by rcases l with h|h;exact absurd h t;exact h
  have a:=o.snap S.hr;let Γc:Ctx:={ Q.all with nm:=λ_=>none }
  have b:CR Γc (A5 []) w (M3 Y.hp args) d:=a.bare f (λ_ h=>h) rfl;exact CX m S (St0:=Q.all.St) (λ_ h=>aa9 h) (.inr e) (n.x g j _ ret c p i Γc w d (λ_=>rfl) (Lv (λ_=>rfl) (Ay2 S)) (S.g.mono (λ_ _=>rfl) (λ_ h=>aa9 h)) b) q
theorem Ae9{g:Nat}{args:List PV}{e:Array Value}{f:List PV->Tr}{ret:PV}{a:List Blk}{k:PV->St Z->Option R}(i:HI I)(j:XOK C)(S:SI C I Q W Y J w)(l:CR Q (A5 Y.hp) w args e)(m:C.X g=some f)(d:L9 (f (M3 Y.hp args))=some (ret,a))
  (c:C6 (M3 Y.hp args)=[]) (b:Qc args=false\/(ret.clean=true/\a.all Blk.clean=true)) (n:k (ret.rn (Y.hp.length + ·)) { sl:=Y.sl,hp:=Y.hp++a.map (Blk.rn (Y.hp.length + ·)),s:=Y.s } = some r):T2 C.P ((callFunc g e).run C.P w) (Av1 C I Q W Y J w k r):=
 (JZ i j S l m d c b n).mono λ_ _ h=>h.1
end
def Ctx.lent(Γ:Ctx)(ns:List Nat):Ctx:={ Γ with nm:=λi=>(ns[i]?).bind Γ.nm }
def Ctx.back(Γ Γ1:Ctx)(ns:List Nat)(L:Nat)(d:Bool):Ctx:=
 { St:=Γ1.St,nm:=λb=>if b∈ns then Γ1.nm (H5 ns b) else if b<L then Γ.nm b else if d=true then none else Γ1.nm (ns.length+(b-L)),yv:=Γ.yv,yv1:=Γ.yv1 }
section
variable {Z R : Type} {r : R} {C : Cfg} {I : Z -> (Nat -> Prop) -> (Nat -> Prop) -> World -> Prop} {Q : Ctx} {H : List Blk} {W : Nat -> Prop} {Y : St Z} {J : Array Value} {w : World} {X : F8} {K : Yh Z} {O : Value}
def R5(H:List Blk)(a:List Nat):List Blk:=a.map λb=>(H.getD b .dead).rn (H5 a)
theorem Xj{a:List Nat}{b:Nat}(h:b∈a):(Q.lent a).nm (H5 a b)=Q.nm b:=by obtain⟨c,d⟩:=Hi h;simp only[Ctx.lent,a8 c,d,j0]
theorem Pv{a:List Nat}(c:∀b∈a,b<H.length){i:Nat}(d:i<a.length):A5 (R5 H a) i=A5 H a[i]:=by have:=c _ (b9 d);simp only[A5,R5,x7,a8 d,v8,Blk.rn_shp,a8 this];rw[o5,a8 this];rfl
theorem Bt8{a:List Nat}(p:HR Q H w)(y:a.Nodup)(k:∀b∈a,b<H.length)(x:Gx H a=true):HR (Q.lent a) (R5 H a) w:=by
 have n:=NS x;have key:∀i g,(Q.lent a).nm i=some g->∃h:i<a.length,Q.nm a[i]=some g:=λi g h=>by
  simp only[Ctx.lent] at h;cases f:a[i]? with
  | none=>rw[f] at h;simp at h
  | some b=>
   obtain⟨u,v⟩:=aa4.1 f;rw[f] at h;exact⟨u,by rw[v];exact h⟩
 have l:∀b (h:b∈a),H.getD b .dead=H[b]'(k b h):=λb h=>by rw[o5,a8 (k b h)];rfl
 refine⟨λi j g u v=>?_,λi g h=>?_,p.stlt,λi f c q=>?_,λi f=>?_⟩
 ·obtain⟨f,t⟩:=key i g u;obtain⟨F,z⟩:=key j g v;have:=p.inj _ _ g t z;exact(af2 y).1 this
 ·obtain⟨f,t⟩:=key i g h;have:=p.lt _ g t;exact⟨by simpa[R5] using f,this.2⟩
 ·simp only[R5,p6] at f ⊢;simp only[R5,j1,Blk.rn_nms] at q;obtain⟨d,A,rfl⟩:=x9.1 q;exact(Hi (n _ (b9 f) d A)).1
 ·simp only[R5,p6] at f;have o:=b9 f;have e:(R5 H a)[i]'(by simpa[R5] using f)=(H[a[i]]'(k _ o)).rn (H5 a):=by
   simp only[R5,j1,l _ o]
  rw[e];refine BR.rn (Γ:=Q) (Γ':=Q.lent a) (b':=i) rfl (p.blk _ (k _ o)) (.inr λ_ h=>h) ?_ (λc q=>?_)
  ·simp only[Ctx.lent,a8 f,j0]
  ·have m:c∈a:=n _ o c (by rw[l _ o];exact q);obtain⟨B,D⟩:=Hi m;exact⟨Xj m,by rw[Pv k B,D]⟩
theorem QO{L:Nat}{H:List Blk}(h:B39 L H=true):∀x∈H,∀c∈x.nms,c<L:=by intro x b c a;simp only[B39,j5,decide_eq_true_eq] at h;exact h x b c a
theorem KM{b:Nat}(a:b<H.length):Ee C (H.getD b .dead)=true↔Mh C (A5 H b):=by
 have e:H.getD b .dead=H[b]:=by rw[o5,a8 a];rfl
 rw[e];simp only[A5,a8 a,v8];cases H[b]<;>simp[Ee,Mh,Blk.shp]
theorem DL{g:Nat}{T:List PV}{Vs:Array Value}{ret:PV}{z:List Blk}{s':Z}{k:PV->St Z->Option R}(hI:HI I)(hC:Bv C X)(hy:Ay0 C.P I K O)(g4:Q.yv=O)(S:SI C I Q W Y J w)(m:CR Q (A5 Y.hp) w T Vs)(hn:∀c∈C6 T,c<Y.hp.length)
  (f3:Gx Y.hp (Cr Y.hp (C6 T))=true) (c6:X Z K g (rnL (H5 (Cr Y.hp (C6 T))) T) (R5 Y.hp (Cr Y.hp (C6 T))) Y.s=some (ret,z,s'))
  (hk:k (Ie (R2 ((Cr Y.hp (C6 T)).filter λb=>!Ee C (Y.hp.getD b .dead)) Y.hp) (Cr Y.hp (C6 T)) ret z).1
   { sl:=K9 ((Cr Y.hp (C6 T)).filter λb=>!Ee C (Y.hp.getD b .dead)) Y.sl,hp:=(Ie (R2 ((Cr Y.hp (C6 T)).filter λb=>!Ee C (Y.hp.getD b .dead)) Y.hp) (Cr Y.hp (C6 T)) ret z).2,s:=s' } = some r) :
  T2 C.P ((callFunc g Vs).run C.P w) (Av1 C I Q W Y J w k r):=by
 have d2:=EI Y.hp (C6 T);have c3:=QZ Y.hp (C6 T);have P:∀b∈Cr Y.hp (C6 T),b<Y.hp.length:=QY Y.hp (C6 T) (· < Y.hp.length) (λb l c m=>by
  have e:Y.hp.getD b .dead=Y.hp[b]:=by rw[o5,a8 l];rfl
  rw[e] at m;exact S.hr.nms b l c m) hn
 generalize Cr Y.hp (C6 T)=a at *;have e9:=Bt8 S.hr d2 P f3;have u:=λb (h:b∈a)=>Hi h
 have c5:CR (Q.lent a) (A5 (R5 Y.hp a)) w (rnL (H5 a) T) Vs:=by
  rw[CM];refine⟨by rw[p6];exact m.1,λj hj=>?_⟩;have d7:j<T.length:=by simpa using hj
  obtain⟨U,e,q⟩:=m.2 j d7;refine⟨U,e,?_⟩;rw[j1];refine VP.rn (Γ:=Q) (Γ':=Q.lent a) rfl q (.inr λ_ h=>h) (λc m=>?_);have a0:=c3 c (C0.2 ⟨j,d7,m⟩);obtain⟨q1,q2⟩:=u c a0;exact⟨Xj a0,by rw[Pv P q1,q2]⟩
 have c4:∀c∈C6 (rnL (H5 a) T),c<(R5 Y.hp a).length:=λc m=>by
  rw[Ix] at m;obtain⟨d,hd,rfl⟩:=x9.1 m;simpa[R5] using(u d (c3 d hd)).1
 refine(hC Z I K O hI hy g _ _ _ ret z s' c6 (Q.lent a) W w Vs g4 e9 S.g S.inv (λi g h=>?_) c5 c4).mono ?_
 ·simp only[Ctx.lent] at h;cases t:a[i]? with
  | none=>rw[t] at h;simp at h
  | some b=>rw[t] at h;exact S.dis b g h
 rintro V w' ⟨Γ1,Φ1,hs,p,hv,hvn,f4,d5⟩;generalize hL:Y.hp.length=L at *;generalize d8:(a.filter λb=>!Ee C (Y.hp.getD b .dead))=ks at *;obtain⟨F,g5,e7⟩:=Pr (Γ:=Q) (sh:=A5 Y.hp) (w:=w) ks Y.hp;have g6:(R5 Y.hp a).length=a.length:=by simp[R5]
 have g7:a.length<=z.length:=by have:=hs.len;omega
 simp only[Ie,F,hL] at hk;generalize hf:Lu a L=f at *;have f1:∀i (h:i<a.length),f i=a[i]:=λi h=>by rw[<-hf];simp only[Lu,if_pos h];exact Ef h
 have f2:∀i,¬i<a.length->f i=L+(i-a.length):=λi h=>by rw[<-hf];simp only[Lu,if_neg h]
 generalize hd:((ret.rn f).nms.all (· < L)&&B39 L ((z.take a.length).map (Blk.rn f)))=d at hk;let E:List Blk:=cond d [] ((z.drop a.length).map (Blk.rn f));have d1:((z.take a.length).map (Blk.rn f)).length=a.length:=by simp;omega
 obtain⟨b4,e8⟩:=Jj a ((z.take a.length).map (Blk.rn f)) (R2 ks Y.hp) d2 d1 (λb l=>by rw[F];have:=P b l;omega);have hE:(cond d (Be (R2 ks Y.hp) a ((z.take a.length).map (Blk.rn f))) (Be (R2 ks Y.hp) a ((z.take a.length).map (Blk.rn f))++(z.drop a.length).map (Blk.rn f)))=Be (R2 ks Y.hp) a ((z.take a.length).map (Blk.rn f))++E:=by
  cases d<;>simp[E]
 rw[hE] at hk;generalize b6:Be (R2 ks Y.hp) a ((z.take a.length).map (Blk.rn f))++E=H2 at hk;have b7:H2.length=L+E.length:=by rw[<-b6,p7,b4,F,hL]
 have b5:E.length=if d=true then 0 else z.length-a.length:=by cases d<;>simp[E]
 have g1:∀b (l:b∈a),H2[b]? = some ((z[H5 a b]'(by have:=(u b l).1;omega)).rn f):=λb l=>by
  have d4:=P b l;rw[<-b6,aa3 (by rw[b4,F,hL];exact d4),e8,if_pos l];have t:=(u b l).1;have e:a.idxOf b=H5 a b:=rfl;rw[e,x7,aa8,if_pos t,a8 (by omega)];rfl
 have g2:∀b,b<L->b∉a->H2[b]? = (R2 ks Y.hp)[b]?:=λb l o=>by
  rw[<-b6,aa3 (by rw[b4,F,hL];exact l),e8,if_neg o]
 have g3:∀b,L<=b->(l:b<H2.length)->d=false/\∃h:a.length+(b-L)<z.length,H2[b]? = some ((z[a.length+(b-L)]).rn f):=λb n l=>by
  have v:d=false:=by
   rcases Bool.eq_false_or_eq_true d with h|h
   ·rw[b7,b5,h] at l;simp at l;omega
   ·exact h
  have h':a.length+(b-L)<z.length:=by rw[b7,b5,v] at l;simp at l;omega
  refine⟨v,h',?_⟩;rw[<-b6,y9 (by rw[b4,F,hL];exact n),b4,F,hL];simp only[E,v,cond_false,x7,List.getElem?_drop,a8 h',v8]
 let Γ2:=Q.back Γ1 a L d;have G:∀i,i<z.length->(i<a.length\/d=false)->Γ2.nm (f i)=Γ1.nm i/\A5 H2 (f i)=A5 z i/\f i<H2.length:=λi t D=>by
  by_cases h:i<a.length
  ·rw[f1 i h];have hm:=b9 h;have c1:H5 a a[i]=i:=by
    obtain⟨q1,q2⟩:=u _ hm;exact(af2 d2).1 q2
   refine⟨by simp only[Γ2,Ctx.back,if_pos hm,c1],?_,by have:=P _ hm;omega⟩;simp only[A5,g1 _ hm,v8,Blk.rn_shp,c1,a8 t]
  ·have v:d=false:=by rcases D with D|D;exact absurd D h;exact D
   have n:L+(i-a.length)<H2.length:=by rw[b7,b5,v];simp;omega
   have f6:L+(i-a.length)∉a:=λhm=>by have:=P _ hm;omega
   rw[f2 i h];refine⟨?_,?_,n⟩
   ·simp only[Γ2,Ctx.back,if_neg f6,v];rw[if_neg (by omega),if_neg (by simp)]
    congr 1;omega
   ·obtain⟨_,h',e⟩:=g3 _ (by omega) n;have e2:a.length+(L+(i-a.length)-L)=i:=by omega
    simp only[A5,e,v8,Blk.rn_shp,a8 t]
    congr 2
    simp only[e2]
 have c0:∀c∈ret.nms,c<a.length\/d=false:=λc m=>by
  cases c7:d with
  | false=>exact .inr rfl
  | true=>
   rw[c7] at hd;simp only[c9,j5,decide_eq_true_eq] at hd;refine .inl (w6 λh=>?_);have:=hd.1 (f c) (by rw[PV.rn_nms];exact ac0 m);rw[f2 c h] at this;omega
 have b1:∀i (t:i<a.length),∀c∈(z[i]'(by omega)).nms,c<a.length\/d=false:=λi t c m=>by
  cases c7:d with
  | false=>exact .inr rfl
  | true=>
   rw[c7] at hd;simp only[c9] at hd;refine .inl (w6 λh=>?_);have e3:(z[i]'(by omega)).rn f∈(z.take a.length).map (Blk.rn f):=ac0 (by rw[List.mem_take_iff_getElem];exact⟨i,by omega,rfl⟩);have:=QO hd.2 _ e3 (f c) (by rw[Blk.rn_nms];exact ac0 m);rw[f2 c h] at this;omega
 have hΓc:∀i g,(Q.lent a).nm i=some g->∃h:i<a.length,Q.nm a[i]=some g:=λi g h=>by
  simp only[Ctx.lent] at h;cases t:a[i]? with
  | none=>rw[t] at h;simp at h
  | some b=>
   obtain⟨q1,q2⟩:=aa4.1 t;rw[t] at h;exact⟨q1,by rw[q2];exact h⟩
 have c8:=hI.foot _ _ _ _ S.inv;have c2:∀b g,b∉a->Q.nm b=some g->w'.heap[g]? = w.heap[g]?:=λb g l D=>hs.frame g (S.hr.lt b g D).2.1 (λi t=>by
  obtain⟨N,B⟩:=hΓc i g t;have:=S.hr.inj _ _ g B D;exact l (this▸b9 N)) (S.dis b g D)
 have e4:∀g,Q.St g->w'.heap[g]? = w.heap[g]?:=λg D=>hs.frame g (S.hr.stlt g D) (λi t=>by
  obtain⟨N,B⟩:=hΓc i g t;exact(S.hr.lt _ g B).2.2 D) (λhp=>(c8 g hp).2 D)
 have a6:∀i g,Γ1.nm i=some g->(∃h:i<a.length,Q.nm a[i]=some g)\/w.heap.size<=g:=λi g h=>by
  rcases hs.own i g h with⟨_,h⟩|h
  ·exact .inl (hΓc i g h)
  ·exact .inr h
 have d9:∀b,b∈a->b∉ks->Mh C (A5 Y.hp b):=λb l a5=>by
  rw[<-d8] at a5;have d4:=P b l;rw[<-KM (by omega)];simp only[af9,not_and,y8] at a5;simpa using a5 l
 have b2:∀b,b∈a->Mh C (A5 Y.hp b)->Γ2.nm b=Q.nm b/\A5 H2 b=A5 Y.hp b/\∀g,Q.nm b=some g->w'.shape? g=w.shape? g:=λb l d0=>by
  obtain⟨q1,q2⟩:=u b l;have e:=Pv (H:=Y.hp) (λb l=>by have:=P b l;omega) q1;rw[q2] at e;obtain⟨k1,k2,k3⟩:=hs.keep (H5 a b) (by omega) (by rw[e];exact d0);rw[Xj l] at k1 k3;refine⟨by simp only[Γ2,Ctx.back,if_pos l];exact k1,?_,k3⟩;have e5:A5 z (H5 a b)=some (z[H5 a b]'(by omega)).shp:=by
   simp only[A5];rw[a8 (by omega)];rfl
  rw[<-e,<-k2,e5];simp only[A5,g1 b l,v8,Blk.rn_shp]
 have M:Ah Q (A5 Y.hp) w Γ2 (A5 H2) w' (λc=>c<L/\c∉ks):=by
  have key:∀c,c<L->c∉ks->Γ2.nm c=Q.nm c/\A5 H2 c=A5 Y.hp c/\∀g,Q.nm c=some g->w'.shape? g=w.shape? g:=λc m f0=>by
   by_cases a0:c∈a
   ·exact b2 c a0 (d9 c a0 f0)
   ·refine⟨by simp only[Γ2,Ctx.back,if_neg a0,if_pos m],?_,λg D=>F2 (c2 c g a0 D)⟩;rw[<-g5 c];simp only[A5,g2 c m a0]
  exact⟨e4,hs.sub,λc m=>(key c m.1 m.2).1,λc m=>(key c m.1 m.2).2.1,λc g m D=>(key c m.1 m.2).2.2 g D,rfl⟩
 have b3:Γ2.yv=Γ1.yv:=by have:=hs.yv;exact this.symm
 have f7:HR Γ2 H2 w':=by
  refine⟨λb b' g N B=>?_,λb g h=>?_,p.stlt,λb l c a7=>?_,λb l=>?_⟩
  ·simp only[Γ2,Ctx.back] at N B;have a9:∀x y,x∈a->Γ1.nm (H5 a x)=some g->y∉a->Q.nm y=some g->False:=λx y hx e1 g0 e2=>by
    rcases a6 _ g e1 with⟨q1,q2⟩|q
    ·have:=S.hr.inj _ _ g q2 e2;exact g0 (this▸b9 q1)
    ·have:=(S.hr.lt y g e2).2.1;omega
   have b0:∀x i,Q.nm x=some g->¬i<a.length->Γ1.nm i=some g->False:=λx i e1 t e2=>by
    rcases a6 _ g e2 with⟨q1,_⟩|q
    ·exact t q1
    ·have:=(S.hr.lt x g e1).2.1;omega
   split at N
   ·rename_i l;split at B
    ·rename_i a4;have:=p.inj _ _ g N B;rw[<-(u b l).2,<-(u b' a4).2];simp only[this]
    ·rename_i a4;split at B
     ·exact(a9 b b' l N a4 B).elim
     ·split at B
      ·cases B
      ·have:=p.inj _ _ g N B;have:=(u b l).1;omega
   ·rename_i l;split at N
    ·rename_i n;split at B
     ·rename_i a4;exact(a9 b' b a4 B l N).elim
     ·split at B
      ·exact S.hr.inj b b' g N B
      ·split at B
       ·cases B
       ·exact(b0 b _ N (by omega) B).elim
    ·rename_i n;split at N
     ·cases N
     ·split at B
      ·rename_i a4;have:=p.inj _ _ g N B;have:=(u b' a4).1;omega
      ·split at B
       ·exact(b0 b' _ B (by omega) N).elim
       ·have:=p.inj _ _ g N B;omega
  ·simp only[Γ2,Ctx.back] at h ⊢;split at h
   ·rename_i l;have:=p.lt _ g h;have:=P b l;exact⟨by omega,(p.lt _ g h).2.1,(p.lt _ g h).2.2⟩
   ·split at h
    ·rename_i n;have N:=S.hr.lt b g h;refine⟨by omega,by have:=hs.size;omega,λf8=>?_⟩;rcases hs.stnew g f8 with q|q
     ·exact N.2.2 q
     ·omega
    ·rename_i n;split at h
     ·cases h
     ·rename_i v;have N:=p.lt _ g h;refine⟨?_,N.2.1,N.2.2⟩;rw[b7,b5,if_neg v];omega
  ·by_cases o:b∈a
   ·have e:=g1 b o;rw[a8 l] at e;simp only[b8] at e;rw[e,Blk.rn_nms] at a7;obtain⟨c',A,rfl⟩:=x9.1 a7;have t:=(u b o).1;exact(G c' (p.nms _ (by omega) c' A) (b1 _ t c' A)).2.2
   ·by_cases n:b<L
    ·have e:=g2 b n o;rw[a8 l,a8 (by rw[F,hL];exact n)] at e;simp only[b8] at e;rw[e] at a7;have:=((e7 b (by rw[F,hL];exact n) (by omega)).1 c a7).2;have:=S.hr.nms b (by omega) c this;omega
    ·obtain⟨v,h',e⟩:=g3 b (by omega) l;rw[a8 l] at e;simp only[b8] at e;rw[e,Blk.rn_nms] at a7;obtain⟨c',A,rfl⟩:=x9.1 a7;exact(G c' (p.nms _ h' c' A) (.inr v)).2.2
  ·by_cases o:b∈a
   ·have e:=g1 b o;rw[a8 l] at e;simp only[b8] at e;rw[e];have t:=(u b o).1;refine(p.blk _ (by omega)).rn b3 (.inr λ_ h=>h) (by simp only[Γ2,Ctx.back,if_pos o]) (λc' A=>?_);have:=G c' (p.nms _ (by omega) c' A) (b1 _ t c' A);exact⟨this.1,this.2.1⟩
   ·by_cases n:b<L
    ·have e:=g2 b n o;rw[a8 l,a8 (by rw[F,hL];exact n)] at e;simp only[b8] at e;rw[e];have q:=e7 b (by rw[F,hL];exact n) (by omega);refine(q.2 b (S.hr.blk b (by omega))).mono M (by simp only[Γ2,Ctx.back,if_neg o,if_pos n]) (λg D=>c2 b g o D) (λc m=>?_);have:=q.1 c m;exact⟨by have:=S.hr.nms b (by omega) c this.2;omega,this.1⟩
    ·obtain⟨v,h',e⟩:=g3 b (by omega) l;rw[a8 l] at e;simp only[b8] at e;rw[e];refine(p.blk _ h').rn b3 (.inr λ_ h=>h) ?_ (λc' A=>?_)
     ·simp only[Γ2,Ctx.back,if_neg o,if_neg n,v];simp
     ·have:=G c' (p.nms _ h' c' A) (.inr v);exact⟨this.1,this.2.1⟩
 have e6:Stp C Q Y.hp w W Γ2 H2 w' Φ1:=by
  refine⟨hs.os,hs.tape,hs.output,hs.size,hs.sub,hs.stnew,λb g h=>?_,hs.foot,λg D f5 hp=>hs.frame g D (λi t=>?_) hp,rfl,by omega,λb l d0=>?_⟩
  ·simp only[Γ2,Ctx.back] at h;split at h
   ·rename_i l;rcases a6 _ g h with⟨q1,q2⟩|q
    ·have hh:a[H5 a b]=b:=(u b l).2;rw[hh] at q2;exact .inl ⟨by have:=P b l;omega,q2⟩
    ·exact .inr q
   ·split at h
    ·exact .inl ⟨by omega,h⟩
    ·split at h
     ·cases h
     ·rcases a6 _ g h with⟨q1,_⟩|q
      ·omega
      ·exact .inr q
  ·obtain⟨_,q2⟩:=hΓc i g t;exact f5 _ q2
  ·by_cases o:b∈a
   ·exact b2 b o d0
   ·have a5:b∉ks:=λh=>o (by rw[<-d8] at h;exact(af9.1 h).1)
    exact⟨M.nm b ⟨by omega,a5⟩,M.shp b ⟨by omega,a5⟩,λg D=>M.hs b g ⟨by omega,a5⟩ D⟩
 have f9:SR Γ2 H2 w' (K9 ks Y.sl) J:=by
  obtain⟨d3,a2,a3⟩:=Mo (Γ:=Q) (sh:=A5 Y.hp) (w:=w) ks Y.sl;refine⟨by rw[d3];exact S.sr.size,λc m=>by have:=S.sr.nms c (a2 c m).2;omega,λi t=>?_⟩;have d6:i<Y.sl.length:=by rw[d3] at t;exact t
  obtain⟨U,e,q⟩:=S.sr.slot i d6;refine⟨U,e,(a3 i t d6 U q).mono M λc m=>?_⟩;have hm:=a2 c (C0.2 ⟨i,t,m⟩);exact⟨by have:=S.sr.nms c hm.2;omega,hm.1⟩
 refine⟨_,_,Γ2,Φ1,hk,e6,⟨f7,f9,S.g.mono e4 hs.sub,f4,λb g h=>?_⟩,?_,λc m=>?_⟩
 ·intro hp;simp only[Γ2,Ctx.back] at h;split at h
  ·exact d5 _ g h hp
  ·split at h
   ·rcases hs.foot g hp with q|q
    ·exact S.dis b g h q
    ·have:=(S.hr.lt b g h).2.1;omega
   ·split at h
    ·cases h
    ·exact d5 _ g h hp
 ·exact hv.rn b3 (.inr λ_ h=>h) (λc m=>by
   have:=G c (hvn c m) (c0 c m);exact⟨this.1,this.2.1⟩)
 ·rw[PV.rn_nms] at m;obtain⟨c',A,rfl⟩:=x9.1 m;exact(G c' (hvn c' A) (c0 c' A)).2.2
end
section
variable {Z R : Type} {r : R} {C : Cfg} {I : Z -> (Nat -> Prop) -> (Nat -> Prop) -> World -> Prop} {Γ : Ctx} {L : Nat -> Prop} {st : St Z} {a : Act} {w : World} {cl : F8} {yh : Yh Z} {yv : Value} {o : Oper}
structure Ask (C:Cfg) (I:Z->(Nat->Prop)->(Nat->Prop)->World->Prop) (cl:F8) (yh:Yh Z) (yv:Value):Prop where
 hI:HI I
 hC:Bv C cl
 hX:XOK C
 hy:Ay0 C.P I yh yv
theorem DK{g:Nat}{args:List PV}{p e:Array Value}{k:PV->St Z->Option R}(A:Ask C I cl yh yv)(m:Γ.yv=yv)(h:Wh C cl yh g args st k=some r)(S:SI C I Γ L st e w)(n:CR Γ (A5 st.hp) w args p)(F:∀c∈C6 args,c<st.hp.length) :
  T2 C.P ((callFunc g p).run C.P w) (Av1 C I Γ L st e w k r):=by
 unfold Wh at h;split at h
 ·rename_i x B;split at h
  ·rename_i f;obtain⟨ret,i,b,h⟩:=Bd h;have b:L9 (x (M3 st.hp args))=some (ret,i):=by
    cases z:C.xp g with
    | true=>rw[z] at b;exact(Bo b).1
    | false=>rw[z] at b;exact b
   obtain⟨q,t⟩:=C5 h;exact Ae9 A.hI A.hX S n B b (aa0.1 f) (by simpa only[y5,y8,c9] using q) t
  ·cases h
 ·dsimp only at h;split at h
  ·rename_i y;split at h
   ·rename_i j;have key:CR Γ (A5 st.hp) w (cond (C.lend g) args (M3 st.hp args)) p/\∀c∈C6 (cond (C.lend g) args (M3 st.hp args)),c<st.hp.length:=by
     cases v:C.lend g with
     | true=>exact⟨n,F⟩
     | false=>
      rw[v] at y;have G:Qc args=false:=by simpa using y
      obtain⟨H,J⟩:=n.snap_plain G;grind
    split at h
    ·rename_i x D;obtain⟨ret,i,b,h⟩:=Bd h;refine DL (s':=st.s) A.hI A.hX.y A.hy m S key.1 key.2 j ?_ h;simp only[clY,D];rw[show L9 (x _ (R5 st.hp _))=some (ret,i) from b]
    ·split at h
     ·rename_i ret i s' d;exact DL A.hI A.hC A.hy m S key.1 key.2 j d h
     ·cases h
   ·cases h
  ·split at h
   ·rename_i f;split at h
    ·rename_i ret i u d;split at h
     ·rename_i l;obtain⟨q,t⟩:=C5 h;exact Ae7 A.hI A.hC S n (aa0.1 f) d l q t
     ·cases h
    ·cases h
   ·cases h
theorem CR.append{sh:Nat->Option Shp}{x y:List PV}{X Y:Array Value}(hx:CR Γ sh w x X)(hy:CR Γ sh w y Y):CR Γ sh w (x++y) (X++Y):=by
 refine⟨by rw[Array.size_append,p7,hx.1,hy.1],λj hj=>?_⟩;rw[p7] at hj;by_cases h:j<x.length
 ·obtain⟨U,e,k⟩:=hx.2 j h;grind
 ·obtain⟨U,e,k⟩:=hy.2 (j-x.length) (by omega);refine⟨U,by rw[Array.getElem?_append_right (by rw[hx.1];omega),hx.1];exact e,?_⟩;grind
theorem N8(x y:List PV):C6 (x++y)=C6 x++C6 y:=by
 induction x with
 | nil=>rfl
 | cons a x b=>simp[C6,b]
theorem VP.inv_fn'{sh:Nat->Option Shp}{V:Value}{f:Fn}{x y:List SV}(h:VP Γ sh w (.s (.fn f x y)) V):∃A B,V = .func f A B/\CR Γ sh w (x.map .s) A/\CR Γ sh w (y.map .s) B:=by
 have hs:=h.inv_s;cases hs with
 | fn _ _ _ A B As Bs hf hA hB ha hb hx hy=>
  refine⟨A,B,rfl,⟨by simpa using hA,λj hj=>?_⟩,⟨by simpa using hB,λj hj=>?_⟩⟩
  ·have hj':j<x.length:=by simpa using hj
   exact⟨As j,ha j hj',by rw[j1];exact .s _ _ (hx j hj')⟩
  ·have hj':j<y.length:=by simpa using hj
   exact⟨Bs j,hb j hj',by rw[j1];exact .s _ _ (hy j hj')⟩
theorem VP.inv_fnr'{sh:Nat->Option Shp}{V:Value}{f:Fn}{x y:List PV}(h:VP Γ sh w (.fnr f x y) V):∃A B,V = .func f A B/\CR Γ sh w x A/\CR Γ sh w y B:=by
 cases h with
 | fnr _ _ _ A B As Bs hf hA hB ha hb hx hy=>exact⟨A,B,rfl,⟨hA,λj hj=>⟨As j,ha j hj,hx j hj⟩⟩,⟨hB,λj hj=>⟨Bs j,hb j hj,hy j hj⟩⟩⟩
theorem RQ{sh:Nat->Option Shp}:∀{args:List PV} {Vs:List Value},Kf args=true->args.length=Vs.length->(∀j (h:j<args.length),∃U,Vs[j]? = some U/\VP Γ sh w (args[j]) U)->∀j (h:j<args.length),∃U,Vs[j]? = some U/\VP Γ (λ_=>none) w (args[j]) U
 | [],Vs,_,_,_=>λj h=>by simp at h
 | v::r,[],_,n,_=>by simp at n
 | v::r,U::z,c,n,y=>by
  have t:VP Γ sh w v U:=by
   obtain⟨q,e,k⟩:=y 0 (by simp);grind
  have B:∀j (h:j<r.length),∃U,z[j]? = some U/\VP Γ sh w (r[j]) U:=λj d=>by
   obtain⟨q,e,k⟩:=y (j+1) (by simpa using d);grind
  have key:Kf r=true/\VP Γ (λ_=>none) w v U:=by
   unfold Kf at c;split at c
   ·grind
   ·rename_i m;cases m;exact⟨c,.s _ _ t.inv_s⟩
   ·rename_i l G m;cases m;simp only[c9,p5] at c;obtain⟨⟨g,p⟩,c⟩:=c;refine⟨c,?_⟩;obtain⟨A,rfl,hA,i⟩:=t.inv_agg;refine VP.mk_agg hA λj d=>?_
    obtain⟨U,e,k⟩:=i j d;refine⟨U,e,?_⟩;have:(l[j]).nms=[]:=by
     have:∀(l:List PV) g,Sg l=some g->∀v∈l,v.nms=[]:=by
      intro l
      induction l with
      | nil=>intro _ _ v f;simp at f
      | cons x l F=>
       intro g h v f;simp only[Sg] at h;split at h
       ·rename_i a b u D;rcases p9.1 f with rfl|f
        ·unfold PV.sv? at u;split at u
         ·rfl
         ·rfl
         grind
        grind
       grind
     exact this l g p _ (b9 d)
    exact k.mono (Γ':=Γ) (ok:=λ_=>False) ⟨λ_ _=>rfl,λ_ h=>h,λ_ h=>h.elim,λ_ h=>h.elim,λ_ _ h=>h.elim,rfl⟩ (by rw[this];simp)
   grind
  intro j d;cases j with
  | zero=>exact⟨U,rfl,by simpa using key.2⟩
  | succ j=>
   obtain⟨q,e,k⟩:=RQ key.1 (by simpa using n) B j (by simpa using d);grind
theorem Ae8{f:PV}{D:Value}{args:List PV}{Vs n:Array Value}{k:PV->St Z->Option R}(A:Ask C I cl yh yv)(u:Γ.yv=yv)(h:DM C cl yh f args st k=some r)(S:SI C I Γ L st n w)(K:VP Γ (A5 st.hp) w f D)(p:∀c∈f.nms,c<st.hp.length)
  (i:CR Γ (A5 st.hp) w args Vs) (Y:∀c∈C6 args,c<st.hp.length) :
  T2 C.P ((do let d <-j9 D Vs;invoke d.target d.args).run C.P w) (Av1 C I Γ L st n w k r):=by
 unfold DM at h;split at h
 ·rename_i g first v;obtain⟨F,B,rfl,G,H⟩:=K.inv_fn';have:=DK A u h S ((G.append i).append H) (λc i=>by
   rw[N8,N8,LS,LS] at i;simp only[ab7,x4] at i;exact Y c i)
  simpa[j9,invoke] using this
 ·rename_i g first v;obtain⟨F,B,rfl,G,H⟩:=K.inv_fnr';have:=DK A u h S ((G.append i).append H) (λc i=>by
   rw[N8,N8] at i;simp only[o8] at i;simp only[PV.nms,o8] at p;rcases i with(i|i)|i
   ·exact p c (.inl i)
   ·exact Y c i
   ·exact p c (.inr i))
  simpa[j9,invoke] using this
 ·split at h
  ·rename_i z;unfold ydK at h;split at h
   ·rename_i b s' P;have J:D=yv:=by
     cases K;exact u
    subst J;refine(A.hy args st.s b s' P z Γ L w Vs S.inv S.hr.stlt ⟨i.1,?_⟩).mono ?_
    ·intro j N;obtain⟨U,e,q⟩:=RQ (Vs:=Vs.toList) z (by simpa using i.1.symm) (λj N=>by obtain⟨U,e,k⟩:=i.2 j N;exact⟨U,by simpa using e,k⟩) j N;exact⟨U,by simpa using e,q⟩
    ·rintro V w' ⟨rfl,St',W,hi,Q,q2,q3,T,q5,q6,q7,q8,q9⟩;have t:=A.hI.foot _ _ _ _ S.inv;have m:∀b g,Γ.nm b=some g->w'.heap[g]? = w.heap[g]?:=λb g l=>T g (S.hr.lt b g l).2.1 (S.dis b g l)
     have y:∀g,Γ.St g->w'.heap[g]? = w.heap[g]?:=λg l=>T g (S.hr.stlt g l) (λx=>(t g x).2 l)
     let Γ2:Ctx:={ Γ with St:=St' }
     have M:Ah Γ (A5 st.hp) w Γ2 (A5 st.hp) w' (λ_=>True):=⟨y,Q,λ_ _=>rfl,λ_ _=>rfl,λb g _ l=>F2 (m b g l),rfl⟩
     have O:HR Γ2 st.hp w':=by
      refine⟨S.hr.inj,λb g l=>?_,q9,S.hr.nms,λb X=>(S.hr.blk b X).mono M rfl (λg l=>m b g l) (λ_ _=>trivial)⟩;have:=S.hr.lt b g l;refine⟨this.1,by omega,λh=>?_⟩;rcases q2 g h with h|h
      ·exact this.2.2 h
      ·omega
     refine⟨_,_,Γ2,W,h,⟨q6,q7,q8,q5,Q,q2,λb g l=>.inl ⟨(S.hr.lt b g l).1,l⟩,q3,λg l _ x=>T g l x,rfl,j7 _,λb X _=>⟨rfl,rfl,λg l=>F2 (m b g l)⟩⟩,
      ⟨O,S.sr.mono M (λc i=>⟨trivial,S.sr.nms c i⟩),S.g.mono y Q,hi,λb g l x=>?_⟩,.bool _,by simp[PV.nms]⟩
     rcases q3 g x with h|h
     ·exact S.dis b g l h
     ·have:=(S.hr.lt b g l).2.1;omega
   ·cases h
  ·cases h
 ·cases h
def Nxt(C:Cfg)(I:Z->(Nat->Prop)->(Nat->Prop)->World->Prop)(Γ:Ctx)(L:Nat->Prop)(H:List Blk)(w:World)(ds:List Deferred)(k:St Z->Option R)(r:R)(next:Act->World->Prop):Prop:=
 ∀b d w' Γ' c,k b=some r->Stp C Γ H w L Γ' b.hp w' c->SI C I Γ' c b d.tmps w'->d.defers=ds->next d w'
theorem put_defers(a:Act)(d:Option Tmp)(v:Value):(a.put d v).defers=a.defers:=by cases d<;>rfl
theorem Cq8{y:Option Nat}{n:Nat}{k:St Z->Option R}{next:Act->World->Prop}{Q:Exit->Act->World->Prop}(A:Ask C I cl yh yv)(u:Γ.yv=yv)(h:opK C cl yh o st k=some r)(S:SI C I Γ L st a.tmps w)(hN:Nxt C I Γ L st.hp w a.defers k r next) :
  o.wpIn (I2 y) n C.P a w next Q:=by
 refine⟨λ_ _=>trivial,?_⟩;have t:∀c,o.op≠.defer c:=λc e=>by simp[opK,e] at h
 rw[aa6 _ _ _ t];by_cases i:BF o.op=true
 ·obtain⟨c,g⟩:∃c,o.op = .call c:=by
   unfold BF at i;split at i
   ·exact⟨_,‹_›⟩
   ·cases i
  have p:=h;simp only[opK,g] at p;split at p
  ·rename_i b F;rw[g] at i;simp[BF,F] at i
  ·rename_i f J;obtain⟨G,q⟩:=S.list c.args;have:=Ae8 A u p S (S.opnd f).1 (S.opnd f).2 G q;have H:execOp a.eval o=(do let d <-j9 (a.eval f) (c.args.map a.eval);invoke d.target d.args):=by simp only[execOp,g,resolve,J]
   rw[H];refine this y n o a next Q ?_
   rintro V w' ⟨v,m,Γ',x,K,M,l,N,O⟩;exact hN _ (a.put o.dst V) w' Γ' x K M ⟨l.hr,l.sr.put (ds:=a.defers) o N O,l.g,l.inv,l.dis⟩ (put_defers _ _ _)
  ·cases p
 ·obtain⟨V,w',Γ',m,z,j,B,D⟩:=Aj8 A.hI (by simpa using i) h S;have q:=hN m (a.put o.dst V) w' Γ' L z D B (put_defers _ _ _);rcases j with j|⟨rfl,j⟩
  ·rw[j];exact q
  ·rw[j];exact q
theorem SR.set{Γ:Ctx}{H:List Blk}{sl:List PV}{tmps:Array Value}(h:SR Γ H w sl tmps)(g:Nat){v:PV}(hv:∀V,tmps[g]? = some V->VP Γ (A5 H) w v V)(hn:∀c∈v.nms,c<H.length):SR Γ H w (sl.set g v) tmps:=by
 refine⟨by simpa using h.size,λc hc=>?_,λi hi=>?_⟩
 ·obtain⟨j,hj,hc⟩:=C0.1 hc;rw[List.getElem_set] at hc;split at hc
  ·grind
  ·exact h.nms c (C0.2 ⟨j,by simpa using hj,hc⟩)
 ·have hi':i<sl.length:=by simpa using hi
  obtain⟨U,e1,e2⟩:=h.slot i hi';grind
theorem YF{F:Option Nat}{n:Nat}{Q:Exit->Act->World->Prop}{all:Array Oper}(A:Ask C I cl yh yv):∀(c:List Oper) {Γ:Ctx} {L:Nat->Prop} {st:St Z} {a:Act} {w:World} {k:St Z->Option R},Γ.yv=yv->Ba C cl yh all c st k=some r->SI C I Γ L st a.tmps w->
  Nxt C I Γ L st.hp w a.defers k r (λt w'=>Q .normal t w')->wpListIn (I2 F) n C.P all Q c a w
 | [],Γ,L,st,a,w,k,hyv,h,S,hN=>hN st a w Γ L h (Stp.refl S.hr) S rfl
 | o::c,Γ,L,st,a,w,k,hyv,h,S,hN=>by
  have run:∀{st:St Z},SI C I Γ L st a.tmps w->Nxt C I Γ L st.hp w a.defers k r (λt w'=>Q .normal t w')->opK C cl yh o st (λl=>Ba C cl yh all c l k)=some r->o.wpIn (I2 F) n C.P a w (wpListIn (I2 F) n C.P all Q c) Q:=λS hN h=>
   Cq8 A hyv h S λl t w' Γ' Φ' W N X Y=>YF A c (N.yv.trans hyv) W X λJ P w2 K M k1 k2 k3 k4=>hN J P w2 K M k1 (N.trans k2) k3 (k4.trans Y)
  have skip:∀{st:St Z},SI C I Γ L st a.tmps w->Nxt C I Γ L st.hp w a.defers k r (λt w'=>Q .normal t w')->Ba C cl yh all c { st with sl:=Bu o.dst (.tup []) st.sl } k=some r->wpListIn (I2 F) n C.P all Q c (a.put o.dst undef) w:=fun {st} S hN h=>
   YF A c (st:={ st with sl:=Bu o.dst (.tup []) st.sl }) hyv h (S.put (o:=o) Ih (by simp[PV.nms,C6])) (by rw[put_defers];exact hN)
  simp only[wpListIn];simp only[Ba] at h;split at h
  ·rename_i u;have hw:k9 o (yielded all a.tmps)=true:=by simp[k9,u]
   grind
  ·rename_i j m u;split at h
   ·rename_i g x;have z:∀b,a.tmps[g]? = some (.bool b)->yielded all a.tmps j=some b:=λb e=>by simp[yielded,x,e]
    have y:(∀b,a.tmps[g]?≠some (.bool b))->yielded all a.tmps j=none:=λa1=>by
     simp only[yielded,x,j0]
    have d:∀v,st.sl.getD g (.tup [])=v->∀V,a.tmps[g]? = some V->VP Γ (A5 st.hp) w v V:=λv hv V hV=>by
     have p:g<st.sl.length:=by rw[<-S.sr.size];exact(o0.1 hV).1
     obtain⟨U,G,T⟩:=S.sr.slot g p;grind
    split at h
    ·rename_i b D;have p:g<st.sl.length:=w6 λa0=>by grind
     obtain⟨U,G,T⟩:=S.sr.slot g p;have hU:=(d _ D U G).inv_bool;subst hU;have f:yielded all a.tmps j=some b:=z b G;have O:SI C I Γ L { st with sl:=st.sl.set g (.s (.bool b)) } a.tmps w:=⟨S.hr,S.sr.set g (d _ D) (by simp[PV.nms]),S.g,S.inv,S.dis⟩
     have q:(if (b==m)=true then opK C cl yh o { st with sl:=st.sl.set g (.s (.bool b)) } (λl=>Ba C cl yh all c l k) else Ba C cl yh all c { st with sl:=Bu o.dst (.tup []) (st.sl.set g (.s (.bool b))) } k)=some r:=by
      cases b<;>exact h
     by_cases i:b=m
     ·rw[if_pos (by simpa using i)] at q;rw[if_pos (by simp[k9,u,f,i])];grind
     ·rw[if_neg (by simpa using i)] at q;rw[if_neg (by simp[k9,u,f,i])];exact⟨λ_ _=>trivial,skip O hN q⟩
    ·rename_i D;have f:yielded all a.tmps j=none:=y λb H=>by
      obtain⟨B,e,_⟩:=(d _ D _ H).inv_tup;cases e
     rw[if_neg (by simp[k9,u,f])];exact⟨λ_ _=>trivial,skip S hN h⟩
    grind
   ·cases h
end
section quiet
variable {F : Fence} {n : Nat} {P : Program} {Y : Array Oper} {L : x8} {K : World -> Prop}
theorem Bm6{c:Code}{Q:Exit->Act->World->Prop}{a:Act}{w:World}(J:Nat->Act->World->Prop)(N:Nat)(u:J N a w)
  (round:∀m a w,J m a w->c.wpIn F n P (Exit.then (λq w'=>∃D,D<m/\J D q w') Q) a w):(Code.loop c).wpIn F n P Q a w:=by
 intro b k y C z B;have key:∀j a w,J j a w->∃e q w',Q e q w'/\ArrivesIn (Machine.fenced P F) P (lone (b.atR a (.code c::.inLoop c::k)) y w) b k y e q w':=by
  intro j
  induction j using Nat.strongRecOn with
  | _ j H=>
   intro a w G;obtain⟨e,f,g,i,d⟩:=round j a w G b (.inLoop c::k) y C z B;cases e with
   | normal=>
    obtain⟨m,A,o⟩:=i;obtain⟨t,r,v,p,h⟩:=H m A f g o;exact⟨t,r,v,p,.of_steps (ag9 d (.one (fenced_calm z B rfl) stepR_inLoop)) h⟩
   | exit id=>exact⟨_,f,g,i,.pass (x:=.inLoop c) rfl (λ_ _=>.inl (by simp)) d⟩
   | goto l=>exact⟨_,f,g,i,.pass (x:=.inLoop c) rfl (λ_ _=>.inl (by simp)) d⟩
   | ret=>exact⟨_,f,g,i,.pass (x:=.inLoop c) rfl (λ_ _=>.inl (by simp)) d⟩
   | panic I=>exact⟨_,f,g,i,.pass (x:=.inLoop c) rfl (λ_ _=>.inl (by simp)) d⟩
   | outgrown=>exact⟨_,f,g,i,.pass (x:=.inLoop c) rfl (λ_ _=>.inl (by simp)) d⟩
 obtain⟨e,q,w',i,d⟩:=key N a w u;exact⟨e,q,w',i,.of_steps (.one (fenced_calm z B rfl) stepR_loop) d⟩
theorem Bq{b:Frame}{a:Act}{k:List Item}{d:List Frame}{w:World}{c:Code}:step P (lone (b.atR a (.code (.scope c)::k)) d w) = .next (lone (b.atR a (.code c::.inScope c::k)) d w):=
 step_lone_go (by simp[stepG,stepG.exec,Frame.atR])
theorem OQ{b:Frame}{a:Act}{k:List Item}{d:List Frame}{w:World}{c:Code}:step P (lone (b.atR a (.inScope c::k)) d w) = .next (lone (b.atR a k) d w):=
 step_lone_go (by simp[stepG,stepG.exec,Frame.atR])
theorem At8{c:Code}{Q:Exit->Act->World->Prop}{a:Act}{w:World}(h:c.wpIn F n P (λe a w=>(∀l,e≠.goto l)/\Q e a w) a w):(Code.scope c).wpIn F n P Q a w:=by
 intro b k u t o q;have i:(lone (b.atR a (.code (.scope c)::k)) u w).fenced P F:=fenced_calm o q rfl;obtain⟨e,f,g,⟨z,j⟩,d⟩:=h b (.inScope c::k) u t o q;cases e with
 | normal=>exact⟨.normal,f,g,j,.head i Bq (ag9 d (.one (fenced_calm o q rfl) OQ))⟩
 | exit id=>
  have v:exitTo id (.inScope c::k)=exitTo id k:=by simp[exitTo]
  exact⟨.exit id,f,g,j,λA p=>.head i Bq (d.1 A (by rw[v];exact p)),
   λr p=>let⟨m,x,y⟩:=d.2 r (by rw[v];exact p);⟨m,x,.head i Bq y⟩⟩
 | goto l=>exact absurd rfl (z l)
 | ret=>exact⟨_,f,g,j,.of_steps (.one i Bq) d⟩
 | panic B=>exact⟨_,f,g,j,.of_steps (.one i Bq) d⟩
 | outgrown=>exact⟨_,f,g,j,.of_steps (.one i Bq) d⟩
end quiet
section
variable {Z R : Type} {r : R} {C : Cfg} {I : Z -> (Nat -> Prop) -> (Nat -> Prop) -> World -> Prop} {Γ : Ctx} {Y : Nat -> Prop} {L : St Z} {a : Act} {w : World} {Q : F8} {W : Yh Z} {J : Value} {o : Oper}
theorem SI.like(hI:HI I)(S:SI C I Γ Y L a.tmps w){w':World}(h:O2 w w'):SI C I Γ Y L a.tmps w'/\Stp C Γ L.hp w Y Γ L.hp w' Y:=
 S.wide hI (St':=Γ.St) h.1.1 h.1.2 (λ_ h=>h) (λ_ h=>.inl h) (λg hg=>j4 (S.hr.stlt g hg) h.1.2) h.2.1 h.2.2.1 h.2.2.2
def PS:PV->Value
 | .s (.bool b)=>.bool b
 | .s (.int k n)=>.int k n
 | .s (.str l)=>.string ⟨l.toArray⟩
 | _=>undef
def C78:PV->Value
 | .tup l=>.tuple (l.map PS).toArray
 | v=>PS v
theorem Af5{Γ:Ctx}{sh:Nat->Option Shp}{w:World}{v:PV}{V:Value}(h:VP Γ sh w v V)(b:v.det1=true):V=PS v:=by
 cases h with
 | s x V c=>
  cases c<;>simp[PV.det1,SV.det] at b<;>simp[PS]
 | _=>simp[PV.det1] at b
theorem C79{Γ:Ctx}{sh:Nat->Option Shp}{w:World}{v:PV}{V:Value}(h:VP Γ sh w v V)(b:v.det=true):V=C78 v:=by
 cases h with
 | s x V i=>exact Af5 (sh:=sh) (.s x V i) b
 | tup l A k hA f g=>
  simp only[PV.det,j5] at b;simp only[C78]
  congr 1
  apply Array.ext
  ·simp[hA]
  ·intro j d m;have c:j<l.length:=by rw[<-hA];exact d
   have e:=f j c;rw[aa2 d] at e;simp only[b8] at e;simp only[List.getElem_toArray,j1];rw[e];exact Af5 (g j c) (b _ (b9 c))
 | _=>simp[PV.det] at b
theorem WZ{Γ:Ctx}{sh:Nat->Option Shp}{w:World}{v:PV}(b:v.det1=true):VP Γ sh w v (PS v)/\v.nms=[]:=by
 cases v with
 | s x=>
  cases x<;>simp[PV.det1,SV.det] at b
  ·exact⟨.s _ _ (.bool _),rfl⟩
  ·exact⟨.s _ _ (.int _ _),rfl⟩
  ·rename_i l;have:=VS.str (St:=Γ.St) (w:=w) (⟨l.toArray⟩:ByteArray);simp only at this;exact⟨.s _ _ this,rfl⟩
 | _=>simp[PV.det1] at b
theorem Ds5{Γ:Ctx}{sh:Nat->Option Shp}{w:World}{v:PV}(b:v.det=true):VP Γ sh w v (C78 v)/\v.nms=[]:=by
 cases v with
 | s x=>exact WZ (v:=.s x) b
 | tup l=>
  simp only[PV.det,j5] at b;refine⟨VP.mk_tup (by simp) λj e=>⟨PS (l[j]),by simp[e],(WZ (b _ (b9 e))).1⟩,?_⟩;simp only[PV.nms];rw[o9];intro c d;obtain⟨j,e,d⟩:=C0.1 d;rw[(WZ (Γ:=Γ) (sh:=sh) (w:=w) (b _ (b9 e))).2] at d;simp at d
 | _=>simp[PV.det] at b
theorem Ds6{v:PV}(b:v.det=true)(f:Nat->Nat):v.rn f=v:=by
 cases v with
 | s x=>rfl
 | tup l=>
  simp only[PV.det,j5] at b;simp only[PV.rn]
  congr 1
  induction l with
  | nil=>rfl
  | cons a r d=>
   simp only[rnL];have c:=b a (by simp);have:a.rn f=a:=by cases a<;>simp[PV.det1] at c<;>rfl
   grind
 | _=>simp[PV.det] at b
theorem Au{P:Program}{g:Nat}{Vs:Array Value}{w:World}(h:BI P g=true):(callFunc g Vs).run P w = .ok (.enter g Vs) w:=by
 unfold BI at h;split at h
 ·rename_i fn e;simp only[c9,y8,p5] at h;obtain⟨⟨c,d⟩,f⟩:=h
  have b:¬ fn.name = "runtime.NumGoroutine":=by simpa using f
  simp[callFunc,e,d,b,ad9]
 ·cases h
theorem Zj{P:Program}{ro:Option Nat}{n f:Nat}{d:Array Value}{w:World}{R:Value->World->Prop}(b:(callFunc f d).run P w = .ok (.enter f d) w)(h:T2 P ((callFunc f d).run P w) R):CallsIn (I2 ro) (n-1) P f d w λe w'=>∃V,e = .returned V/\R V w':=by
 rw[b] at h;have:=h ro n { op:=.move (.const undef),dst:=some 0,guard:=none,type:=0,after:=#[],pos:=default } { tmps:=#[undef],defers:=[] } (λi w'=>∃V,i.tmps[0]? = some V/\R V w') (λ_ _ _=>False) (λV w' k=>⟨V,by simp[ae3],k⟩);rw[ac4] at this;refine this.2.mono λe w' g=>?_
 cases e with
 | returned v=>
  obtain⟨V,j,l⟩:=g;simp[ae3] at j;grind
 | panicked c=>exact g.elim
 | outgrown=>obtain⟨_,_,h⟩:=g;exact h.elim
theorem B47{ro:Option Nat}{n:Nat}{k:St Z->Option R}(U:HI I)(X:XOK C)(u:Rn C o.op=true)(h:opK C Q W o L k=some r)(S:SI C I Γ Y L a.tmps w) :
  ∃V v,k v=some r/\(∀w',O2 w w'->o.quietAtIn (I2 ro) n C.P a (O2 w') w' V)/\SI C I Γ Y v (a.put o.dst V).tmps w/\Stp C Γ L.hp w noΦ Γ v.hp w noΦ:=by
 obtain⟨c,q⟩:∃c,o.op = .call c:=by
  unfold Rn at u;grind
 rw[q] at u;simp only[Rn] at u;split at u
 ·rename_i g j;simp only[c9,p5] at u;obtain⟨⟨M,pf,m⟩,l⟩:=u;simp only[opK,q,j,opnd,DM,Wh,m,M,cond_true,ae5,ab7,x4] at h;split at h
  ·rename_i G;obtain⟨ret,Hc,t,h⟩:=Bd h;obtain⟨t,f,rfl⟩:=Bo t;obtain⟨h1,N⟩:=C5 h;simp only[ae5,x4,Ds6 f] at N;have O:=Ds5 (Γ:=Γ) (sh:=A5 L.hp) (w:=w) f;refine⟨C78 ret,_,N,λw' K=>?_,S.put O.1 (by rw[O.2];simp),Stp.refl S.hr⟩;obtain⟨A,_⟩:=S.like U K;obtain⟨hc,hn⟩:=A.list c.args;have B:=hc.snap A.hr;let Γc:Ctx:={ Γ.all with nm:=λ_=>none }
   have D:CR Γc (A5 []) w' (M3 L.hp (c.args.toList.map (opnd C L.sl))) (c.args.map a.eval):=B.bare (aa0.1 G) (λ_ h=>h) rfl;have p:=X.x g pf _ ret [] m t Γc w' _ (λ_=>rfl) (Lv (λ_=>rfl) (Ay2 A)) (A.g.mono (λ_ _=>rfl) (λ_ h=>aa9 h)) D;have i:=Zj (ro:=ro) (n:=n) (Au l) p;have F:a.eval (.func g) = .func (.func g) #[] #[]:=rfl;have he:execOp a.eval o=(do let d <-j9 (a.eval (.func g)) (c.args.map a.eval);invoke d.target d.args):=by simp only[execOp,q,resolve,j]
   unfold ab2;rw[he,F];have y:(do let d <-j9 (Value.func (.func g) #[] #[]) (c.args.map a.eval);invoke d.target d.args:Sem Next).run C.P w' = .ok (.enter g (c.args.map a.eval)) w':=by
    have:=Au (P:=C.P) (Vs:=c.args.map a.eval) (w:=w') l;simpa[j9,invoke] using this
   rw[y];refine⟨rfl,λh=>(by simp[I2,ab5] at h),i.mono ?_⟩;rintro e a0 ⟨V,rfl,Γ1,Φ1,z,T,H,_⟩;have:=C79 H f;subst this;exact⟨rfl,⟨λg hg=>z.frame g hg (λb=>by simp[Γc]) (λx=>x),z.size⟩,z.os,z.tape,z.output⟩
  ·cases h
 ·cases u
def Out.exit':Out->Exit
 | .normal=>.normal
 | .exit id=>.exit id
 | .ret=>.ret
end
theorem VM{a b:Nat}(h:a<=b):w9 a b=true:=by rw[Nat.ble_eq];exact h
theorem JJ{a b:Nat}(h:w9 a b=true):a<=b:=by rw[Nat.ble_eq] at h;exact h
theorem O2.refl(w:World):O2 w w:=⟨⟨λ_ _=>rfl,j7 _⟩,rfl,rfl,rfl⟩
theorem O2.trans{a b c:World}(h:O2 a b)(k:O2 b c):O2 a c:=
 ⟨⟨λg hg=>(k.1.1 g (j4 hg h.1.2)).trans (h.1.1 g hg),p4 h.1.2 k.1.2⟩,k.2.1.trans h.2.1,k.2.2.1.trans h.2.2.1,k.2.2.2.trans h.2.2.2⟩
section
variable {F : Fence} {n : Nat} {P : Program} {L : Array Oper} {Y : x8}
def QF:Exit->Act->World->Prop:=λ_ _ _=>False
theorem Dk9{o:Oper}{a:Act}{w:World}{N:Act->World->Prop}{Q:Exit->Act->World->Prop}(h:o.wpIn F n P a w N QF):o.wpIn F n P a w N Q:=by
 unfold af7 at *;refine⟨h.1,?_⟩;have h:=h.2;generalize (o.semAt F.round a.eval).run P w=r at *;cases r with
 | ok x w'=>
  cases x<;>simp only[ab0] at h ⊢
  case value=>exact h
  case skip=>exact h
  case defer=>exact h
  case enter=>exact⟨h.1,ae4 h.2 λe d b=>by
   cases e with
   | returned u=>exact b
   | panicked c=>exact b.elim
   | outgrown=>obtain⟨_,_,h⟩:=b;exact h.elim⟩
  case row=>exact h
  case round=>exact⟨h.1,ae6 h.2 λe d b=>by
   cases e with
   | returned u=>exact b
   | panicked c=>exact b.elim
   | outgrown=>obtain⟨_,_,h⟩:=b;exact h.elim⟩
 | halt x w'=>
  cases x<;>simp only[ab0] at h ⊢
  case panic=>exact h.elim
theorem Ce2{i:Nat}{a:Act}{w:World}{N:Act->World->Prop}{Q:Exit->Act->World->Prop}(h:wpOpIn F n P L QF i N a w):wpOpIn F n P L Q i N a w:=by
 unfold wpOpIn at *;split
 ·grind
 ·rename_i o b;simp only[b] at h;split
  ·rename_i c;simp only[c,if_true] at h;exact Dk9 h
  grind
def YQ(F:Fence)(n:Nat)(P:Program)(L:Array Oper)(q:Bool)(b:World)(o:Oper)(v:Value)(a:Act):Prop:=
 o.askedIn F P a (λw=>q=true->O2 b w)/\
 ((k9 o (yielded L a.tmps)=true/\∀w,(q=true->O2 b w)->o.quietAtIn F n P a (O2 w) w v)\/
  (k9 o (yielded L a.tmps)=false/\v=undef))
theorem YQ.step{q:Bool}{w0 w1:World}{o:Oper}{v:Value}{a:Act}(h:YQ F n P L q w0 o v a)(hl:q=true->O2 w0 w1):YQ F n P L q w1 o v a:=
 ⟨λw hw=>h.1 w λhq=>(hl hq).trans (hw hq),h.2.imp (λh=>⟨h.1,λw hw=>h.2 w λhq=>(hl hq).trans (hw hq)⟩) (λh=>h)⟩
theorem YQ.of_same{q:Bool}{w0:World}{o:Oper}{v:Value}{a a':Act}(hy:YQ F n P L q w0 o v a)(he:execOp a'.eval o=execOp a.eval o)
  (hw:k9 o (yielded L a'.tmps)=k9 o (yielded L a.tmps)) (hb:∀w,o.about P w a'.eval=o.about P w a.eval):YQ F n P L q w0 o v a':=by
 unfold YQ ab2 Oper.askedIn at *;rw[he,hw];exact⟨λw hc f hf=>hy.1 w hc f (by rw[<-hb w];exact hf),hy.2⟩
theorem YQ.wpOpIn{q:Bool}{w0 w:World}{i:Nat}{o:Oper}{v:Value}{a:Act}(hi:L[i]? = some o)(hnd:∀c,o.op≠.defer c)(hy:YQ F n P L q w0 o v a)(hw:q=true->O2 w0 w){K:Act->World->Prop}(h:∀w',O2 w w'->K (a.put o.dst v) w'):wpOpIn F n P L QF i K a w:=by
 unfold Go.wpOpIn;simp only[hi];rcases hy.2 with⟨hwt,hv⟩|⟨hwt,rfl⟩
 ·simp only[hwt,if_true];have h3:=hv w hw;unfold ab2 at h3;unfold af7;refine⟨hy.1 w hw,?_⟩;rw[aa6 _ _ _ hnd];generalize (execOp a.eval o).run P w=r at *;cases r with
  | ok x w'=>
   cases x<;>simp only[af6] at h3<;>simp only[ab0]
   case value u=>
    obtain⟨e1,e2⟩:=h3;rw[e1,e2];exact h _ (O2.refl w)
   case skip=>
    obtain⟨e1,e2⟩:=h3;rw[e1,<-e2];exact h _ (O2.refl w)
   case enter f args=>
    obtain⟨e1,hd,hc⟩:=h3;rw[e1];exact⟨hd,hc.mono λe w'' ⟨he,hw''⟩=>by subst he;exact h _ hw''⟩
  | halt x w'=>simp only[af6] at h3
 ·simp only[hwt,ae2,if_false];exact⟨hy.1 w hw,h _ (O2.refl w)⟩
theorem At9{q:Bool}{A:World}{j:Nat}{i k:Oper}{v:Value}(O:L[j]? = some k)(G:i.apart L k=true)
  (I:∀C b,i.op≠.select C b) (J:∀C b,k.op≠.select C b) (y:∀c,k.op≠.defer c) {K:Act->World->Prop} {a:Act} {w:World}
  (o:YQ F n P L q A i v a) (h:wpOpIn F n P L QF j K (a.put i.dst v) w) :
  wpOpIn F n P L QF j (λN w'=>YQ F n P L q A i v N/\K (N.put i.dst v) w') a w:=by
 obtain⟨B,p,D⟩:=Oper.apart_spec G;have g:∀(a:Act),YQ F n P L q A i v a->∀u,YQ F n P L q A i v (a.put k.dst u):=λa o u=>
  o.of_same (execOp_put i I a k.dst u D) (wanted_put i a k.dst u D) (λw=>about_put i w a k.dst u D)
 unfold wpOpIn at *;simp only[O] at *;rw[wanted_put k a i.dst v B,about_put k w a i.dst v B] at h;split
 ·rename_i M;simp only[M,if_true] at h;unfold af7 at *;rw[about_put k w a i.dst v B] at h;refine⟨h.1,?_⟩;have h:=h.2;rw[aa6 _ _ _ y,execOp_put k J a i.dst v B] at h;rw[aa6 _ _ _ y];have H:∀d w',(execOp a.eval k).run P w≠.ok (.defer d) w'\/True:=λ_ _=>.inr trivial
  generalize Q:(execOp a.eval k).run P w=r at *;cases r with
  | ok x w'=>
   cases x<;>simp only[ab0] at h ⊢
   case value u=>exact⟨g a o u,by rw[<-z7 a v u p];exact h⟩
   case skip=>exact⟨g a o _,by rw[<-z7 a v undef p];exact h⟩
   case defer d=>
    have t:∀d,YQ F n P L q A i v { a with defers:=d::a.defers }:=λd=>o.of_same rfl rfl (λ_=>rfl)
    refine⟨g _ (t d) _,?_⟩;rw[<-z7 _ v undef p,<-Act.put_defers];exact h
   case enter f args=>
    refine⟨h.1,ae4 h.2 λe z m=>?_⟩;cases e with
    | returned u=>exact⟨g a o u,by rw[<-z7 a v u p];exact m⟩
    | panicked c=>exact m
    | outgrown=>exact m
   case row row args=>exact⟨h.1,ah5 h.2 λu z m=>⟨g a o u,by rw[<-z7 a v u p];exact m⟩⟩
   case round l f tmps assign body=>
    refine⟨h.1,ae6 h.2 λe z m=>?_⟩;cases e with
    | returned u=>exact⟨g a o u,by rw[<-z7 a v u p];exact m⟩
    | panicked c=>exact m
    | outgrown=>exact m
  | halt x w'=>
   cases x<;>simp only[ab0] at h ⊢
   case panic u=>exact h
 ·rename_i M;simp only[M] at h;exact⟨h.1,g a o _,by rw[<-z7 a v undef p];exact h.2⟩
def wpR(F:Fence)(n:Nat)(P:Program)(Y:x8)(L:Array Oper)(c:Nat->Bool)(b:Act->World->Prop):Nat->Array Bool->Act->World->Prop
 | 0,listed,a,w=>j8 Y L listed=[]/\b a w
 | f+1,listed,a,w=>(j8 Y L listed=[]->b a w)/\
  ∀i∈j8 Y L listed,wpOpIn F n P L QF i (λd w'=>(c i=false->O2 w w')/\∀w1,O2 w' w1->wpR F n P Y L c b f (listed.setIfInBounds i true) d w1) a w
theorem Nu{wr:Nat->Bool}{Q:Exit->Act->World->Prop}{Qn:Act->World->Prop}(b:∀a w,Qn a w->Q .normal a w):∀(f:Nat) (listed:Array Bool) (a:Act) (w:World),wpR F n P Y L wr Qn f listed a w->wpAnyIn F n P Y L Q f listed a w
 | 0,_,_,_,h=>⟨h.1,b _ _ h.2⟩
 | f+1,_,_,_,h=>⟨λd=>b _ _ (h.1 d),λi e=>Ce2 (wpOpIn_mono (λc w' h=>Nu b f _ c w' (h.2 w' (O2.refl w'))) (h.2 i e))⟩
def DC(Y:x8)(L:Array Oper)(listed:Array Bool):Prop:=∀j o,L[j]? = some o->listed.getD j false=true->∀e∈o.after,ab3 Y e=true->listed.getD e.on false=true
theorem Ag9{listed:Array Bool}{i j:Nat}(h:(listed.setIfInBounds i true).getD j false=true):j=i\/listed.getD j false=true:=by by_cases a:i=j;all_goals simp_all
theorem DC.set{listed:Array Bool}{i:Nat}(h:DC Y L listed)(hi:i∈j8 Y L listed):DC Y L (listed.setIfInBounds i true):=by
 intro j o ho hj e he hb;refine getD_set_true ?_;rcases Ag9 hj with rfl|hj
 ·obtain⟨_,o',ho',hall⟩:=mem_ready.1 hi;grind
 ·exact h j o ho hj e he hb
def NL(Y:x8)(L:Array Oper):Nat->Nat->Nat->Bool
 | 0,_,_=>false
 | f+1,j,i=>match L[j]? with
  | some o=>(o.after.toList.any λe=>ab3 Y e&&x5 e.on i)||(o.after.toList.any λe=>ab3 Y e&&NL Y L f e.on i)
  | none=>false
theorem FD{listed:Array Bool}{i:Nat}(d:DC Y L listed)(k:listed.getD i false=false):∀f j,NL Y L f j i=true->listed.getD j false=false/\j∉j8 Y L listed
 | 0,j,h=>by cases h
 | f+1,j,h=>by
  simp only[NL] at h;split at h
  ·rename_i o m;have key:∃e∈o.after,ab3 Y e=true/\listed.getD e.on false=false:=by
    rw[y5,af1,af1] at h;rcases h with⟨e,b,a⟩|⟨e,b,a⟩
    ·rw[c9] at a;have:=o6 a.2;grind
    ·rw[c9] at a;exact⟨e,by simpa using b,a.1,(FD d k f e.on a.2).1⟩
   obtain⟨e,b,a,g⟩:=key;refine⟨?_,λq=>?_⟩
   ·cases l:listed.getD j false with
    | false=>rfl
    | true=>rw[d j o m l e b a] at g;cases g
   ·obtain⟨_,r,p,c⟩:=mem_ready.1 q;grind
  ·cases h
theorem Zg{listed:Array Bool}{i:Nat}(h:i∈j8 Y L listed):listed.getD i false=false:=by have a:=(mem_ready.1 h).1;grind
theorem Ce3{R:Nat->Bool}{Qn:Act->World->Prop}{q:Bool}{i:Nat}{C:Oper}{v:Value}(J:L[i]? = some C)(x:∀(j:Nat) (o:Oper) G b,L[j]? = some o->o.op≠.select G b)(A:∀(j:Nat) (o:Oper) c,L[j]? = some o->o.op≠.defer c) :
  ∀(f:Nat) (listed:Array Bool) (a:Act) (O:World),
   (∀j z,L[j]? = some z->j≠i->listed.getD j true=false->(∀e∈z.after,ab3 Y e=true->e.on≠i)->C.apart L z=true)->
   (q=true->∀j,j≠i->listed.getD j true=false->R j=true->NL Y L L.size j i=true)->DC Y L listed->
   i∈j8 Y L listed->YQ F n P L q O C v a->
   (∀w,O2 O w->wpR F n P Y L R Qn f (listed.setIfInBounds i true) (a.put C.dst v) w)->∀w,O2 O w->wpR F n P Y L R Qn (f+1) listed a w:=by
 intro f
 induction f with
 | zero=>
  intro listed a O _ _ _ B Q H w y;refine⟨λh=>(by rw[h] at B;cases B),λj D=>?_⟩;by_cases d:j=i
  ·subst d;exact Q.wpOpIn J (λc=>A j C c J) (λ_=>y) λw' u=>⟨λ_=>u,λw1 I=>H w1 (y.trans (u.trans I))⟩
  ·have:=ready_mono D d;rw[(H w y).1] at this;cases this
 | succ f ih=>
  intro listed a O l N hd B Q H w y;refine⟨λh=>(by rw[h] at B;cases B),λj D=>?_⟩;by_cases d:j=i
  ·subst d;exact Q.wpOpIn J (λc=>A j C c J) (λ_=>y) λw' u=>⟨λ_=>u,λw1 I=>H w1 (y.trans (u.trans I))⟩
  ·have I:=(H w y).2 j (ready_mono D d);obtain⟨t,z,p,a1⟩:=mem_ready.1 D;have K:=Zg B;have M:∀e∈z.after,ab3 Y e=true->e.on≠i:=λe he hb heq=>by grind
   have h2:=At9 p (l j z p d t M) (λG b=>x i C G b J) (λG b=>x j z G b p) (λc=>A j z c p) (Q.step (w1:=w) λ_=>y) I;have m:∀{k:Nat},k≠i->(listed.setIfInBounds j true).getD k true=false->listed.getD k true=false:=fun {k} g r=>by
    by_cases a2:j=k;all_goals simp_all
   refine wpOpIn_mono (λa' w' h3=>?_) h2;obtain⟨a0,u,hR⟩:=h3;refine⟨u,λw1 V=>?_⟩;have U:q=true->O2 w w':=λT=>by
    refine u ?_;cases X:R j with
    | false=>rfl
    | true=>exact absurd D (FD hd K L.size j (N T j d t X)).2
   refine ih (listed.setIfInBounds j true) a' w' (λk ok hk g r S=>l k ok hk g (m g r) S) (λT k g r Z=>N T k g (m g r) Z) (hd.set D) (ready_mono B (Ne.symm d)) (a0.step U) (λw2 W=>?_) w1 V;rw[Array.setIfInBounds_comm _ _ d];exact hR w2 W
def R0(F:Fence)(n:Nat)(P:Program)(L:Array Oper)(kind:Nat->Nat)(E:Act->World->Prop):List Nat->Act->World->Prop
 | [],a,c=>E a c
 | i::b,a,c=>(kind i<=1->∃o v,L[i]? = some o/\YQ F n P L (x5 (kind i) 1) c o v a/\R0 F n P L kind E b (a.put o.dst v) c)/\
  (2<=kind i->∀w,O2 c w->wpOpIn F n P L QF i (λd w'=>(kind i=2->O2 w w')/\R0 F n P L kind E b d w') a w)
def Bs4(Y:x8)(L:Array Oper)(kind:Nat->Nat)(i:Nat)(listed:Array Bool):Bool:=
 (j8 Y L listed).contains i&&(Region.free Y L listed i&&(x5 (kind i) 0||(List.range L.size).all λj=>x5 j i||(listed.getD j true||(!(w9 3 (kind j))||NL Y L L.size j i))))
def KA(Y:x8)(L:Array Oper)(kind:Nat->Nat)(a:Array Bool->Bool):List Nat->Array Bool->Bool
 | [],listed=>a listed
 | i::r,listed=>cond (w9 (kind i) 1) (Bs4 Y L kind i listed) ((j8 Y L listed)==[i])&&KA Y L kind a r (listed.setIfInBounds i true)
def WX(Y:x8)(L:Array Oper)(kind:Nat->Nat):List Nat->Array Bool->Bool:=KA Y L kind λlisted=>(j8 Y L listed).isEmpty
theorem Cm1{kind:Nat->Nat}{t:Act->World->Prop}(H:y7 L=true)(m:∀(j:Nat) (o:Oper) c,L[j]? = some o->o.op≠.defer c)(C:∀j,L.size<=j->kind j<=1){i b:Nat}{listed:Array Bool}{a:Act}{g:World}{o:Oper}{v:Value}
  (u:Bs4 Y L kind i listed=true) (x:DC Y L listed) (y:L[i]? = some o) (J:YQ F n P L (x5 (kind i) 1) g o v a)
  (h:DC Y L (listed.setIfInBounds i true)->∀w,O2 g w->wpR F n P Y L (λj=>w9 3 (kind j)) t b (listed.setIfInBounds i true) (a.put o.dst v) w):∀w,O2 g w->wpR F n P Y L (λj=>w9 3 (kind j)) t (b+1) listed a w:=by
 intro w I;simp only[Bs4,c9] at u;obtain⟨G,A,d⟩:=u;have e:i∈j8 Y L listed:=by simpa using G
 refine Ce3 (q:=x5 (kind i) 1) y (Region.noSelect_spec H) m b listed a g (Region.free_spec y A) (λD j k r f=>?_) x e J (h (x.set e)) w I;have p:=o6 D;rw[p] at d;simp only[show x5 1 0=false from rfl,ag5,j5,ag3] at d;have l:j<L.size:=w6 λB=>by
  have:=C j (by omega);have K:=JJ f;omega
 have:=d j l;rw[show x5 j i=false by cases z:x5 j i with|false=>rfl|true=>exact absurd (o6 z) k,r,f] at this;simpa using this
theorem Rb{kind:Nat->Nat}{Qn E:Act->World->Prop}{fin:Array Bool->Bool}{m:Nat}(B:y7 L=true)(k:∀(j:Nat) (o:Oper) c,L[j]? = some o->o.op≠.defer c)(A:∀j,L.size<=j->kind j<=1)
  (d:∀listed a f,fin listed=true->DC Y L listed->E a f->∀w,O2 f w->wpR F n P Y L (λj=>w9 3 (kind j)) Qn m listed a w) :
  ∀(b:List Nat) (listed:Array Bool) (a:Act) (f:World),KA Y L kind fin b listed=true->DC Y L listed->R0 F n P L kind E b a f->∀w,O2 f w->wpR F n P Y L (λj=>w9 3 (kind j)) Qn (m+b.length) listed a w
 | [],listed,a,f,r,t,h,w,u=>d listed a f r t h w u
 | i::b,listed,a,f,r,t,h,w,u=>by
  simp only[KA,c9] at r;obtain⟨e,q⟩:=r;simp only[R0] at h;show wpR F n P Y L _ Qn (m+b.length+1) listed a w;by_cases g:kind i<=1
  ·rw[show w9 (kind i) 1=true from VM g,cond_true] at e;obtain⟨o,v,K,M,I⟩:=h.1 g;exact Cm1 B k A e t K M (λx w1 l=>Rb B k A d b _ _ f q x I w1 l) w u
  ·rw[show w9 (kind i) 1=false by cases J:w9 (kind i) 1 with|false=>rfl|true=>exact absurd (JJ J) g,cond_false] at e;have G:j8 Y L listed=[i]:=by simpa using e
   refine⟨λC=>(by rw[G] at C;cases C),λj y=>?_⟩;have z:j=i:=by rw[G] at y;simpa using y
   subst z;refine wpOpIn_mono (λH w' D=>?_) (h.2 (by omega) w u);refine⟨λp=>D.1 ?_,λw1 l=>Rb B k A d b _ H w' q (t.set y) D.2 w1 l⟩;have:¬ 3<=kind j:=λh=>by dsimp only at p;rw[VM h] at p;cases p
   omega
def Zm(F:Fence)(n:Nat)(P:Program)(L:Array Oper)(kind:Nat->Nat)(E:Act->World->Prop)(e:Nat)(post:List Nat):List Nat->Act->World->Prop
 | [],a,c=>∀w,O2 c w->wpOpIn F n P L QF e (λd w'=>O2 w w'/\R0 F n P L kind E post d w') a w
 | i::b,a,c=>R0 F n P L kind (Zm F n P L kind E e post b) [i] a c/\
  (2<=kind i->∀w,O2 c w->wpOpIn F n P L QF e (λd w'=>O2 w w'/\R0 F n P L kind E ((i::b)++post) d w') a w)
def Ra(Y:x8)(L:Array Oper)(kind:Nat->Nat)(a:Nat)(post:List Nat):List Nat->Array Bool->Bool
 | [],listed=>(j8 Y L listed==[a])&&WX Y L kind post (listed.setIfInBounds a true)
 | i::r,listed=>cond (w9 (kind i) 1) (Bs4 Y L kind i listed)
   ((j8 Y L listed).contains i&&((j8 Y L listed).all (λj=>x5 j i||x5 j a)&&WX Y L kind ((i::r)++post) (listed.setIfInBounds a true)))&&Ra Y L kind a post r (listed.setIfInBounds i true)
theorem Ck9{kind:Nat->Nat}{y:Act->World->Prop}{I:Nat}{post:List Nat}(Q:y7 L=true)(t:∀(j:Nat) (o:Oper) c,L[j]? = some o->o.op≠.defer c)(O:∀j,L.size<=j->kind j<=1) :
  ∀(g:List Nat) (listed:Array Bool) (a:Act) (k:World),Ra Y L kind I post g listed=true->DC Y L listed->Zm F n P L kind (λa k=>∀w,O2 k w->y a w) I post g a k->∀w,O2 k w->wpR F n P Y L (λj=>w9 3 (kind j)) y (post.length+1+g.length) listed a w:=by
 have m:∀(listed:Array Bool) (a:Act) (k:World),(j8 Y L listed).isEmpty=true->DC Y L listed->(∀w,O2 k w->y a w)->∀w,O2 k w->wpR F n P Y L (λj=>w9 3 (kind j)) y 0 listed a w:=
  λlisted a k h _ V w u=>⟨by simpa using h,V w u⟩
 intro g
 induction g with
 | nil=>
  intro listed a k A D h w u;simp only[Ra,c9] at A;obtain⟨b,l⟩:=A;have R:j8 Y L listed=[I]:=by simpa using b
  show wpR F n P Y L _ y (post.length+1) listed a w;refine⟨λG=>(by rw[R] at G;cases G),λj q=>?_⟩;have f:j=I:=by rw[R] at q;simpa using q
  subst f;refine wpOpIn_mono (λz w' p=>⟨λ_=>p.1,λw1 d=>?_⟩) (h w u);have:=Rb Q t O m post _ z w' l (D.set q) p.2 w1 d;rwa [ac2] at this
 | cons i e S=>
  intro listed a k A D h w u;simp only[Ra,c9] at A;obtain⟨b,l⟩:=A;simp only[Zm] at h;obtain⟨K,U⟩:=h;simp only[R0] at K;show wpR F n P Y L _ y (post.length+1+e.length+1) listed a w;by_cases r:kind i<=1
  ·rw[show w9 (kind i) 1=true from VM r,cond_true] at b;obtain⟨o,v,H,W,T⟩:=K.1 r;exact Cm1 Q t O b D H W (λM w1 d=>S _ _ k l M T w1 d) w u
  ·rw[show w9 (kind i) 1=false by cases C:w9 (kind i) 1 with|false=>rfl|true=>exact absurd (JJ C) r,cond_false] at b;simp only[c9,j5,y5] at b;obtain⟨N,B,J⟩:=b;have H:i∈j8 Y L listed:=by simpa using N
   refine⟨λG=>(by rw[G] at H;cases H),λj q=>?_⟩;rcases B j q with C|C
   ·have f:=o6 C;subst f;refine wpOpIn_mono (λz w' p=>?_) (K.2 (by omega) w u);refine⟨λx=>p.1 ?_,λw1 d=>S _ z w' l (D.set q) p.2 w1 d⟩;have:¬ 3<=kind j:=λh=>by dsimp only at x;rw[VM h] at x;cases x
    omega
   ·have f:=o6 C;subst f;refine wpOpIn_mono (λz w' p=>⟨λ_=>p.1,λw1 d=>?_⟩) (U (by omega) w u);have:=Rb Q t O m ((i::e)++post) _ z w' J (D.set q) p.2 w1 d;rw[ac2] at this;rw[show post.length+1+e.length=((i::e)++post).length by rw[p7,af3];omega];exact this
def OS(d:Option Tmp)(a b:Act):Prop:=∀t,d≠some t->b.tmps[t]? = a.tmps[t]?
theorem Bh(a:Act)(d:Option Tmp)(v:Value):OS d a (a.put d v):=λt b=>by
 cases d with
 | none=>rfl
 | some d=>
  have:d≠t:=λe=>b (by rw[e])
  simp[ae3,this]
theorem Bm5{o:Oper}{a:Act}{w:World}{N:Act->World->Prop}(h:o.wpIn F n P a w N QF):o.wpIn F n P a w (λf w'=>OS o.dst a f/\N f w') QF:=by
 unfold af7 at *;refine⟨h.1,?_⟩;have h:=h.2;generalize (o.semAt F.round a.eval).run P w=r at *;cases r with
 | ok x w'=>
  cases x<;>simp only[ab0] at h ⊢
  case value=>exact⟨Bh _ _ _,h⟩
  case skip=>exact⟨Bh _ _ _,h⟩
  case defer=>
   refine⟨λt g=>?_,h⟩;exact Bh { a with defers:=_ } o.dst undef t g
  case enter=>exact⟨h.1,ae4 h.2 λe d b=>by
   cases e with
   | returned u=>exact⟨Bh _ _ _,b⟩
   | panicked c=>exact b.elim
   | outgrown=>obtain⟨_,_,h⟩:=b;exact h.elim⟩
  case row=>exact⟨h.1,ah5 h.2 λu d b=>⟨Bh _ _ _,b⟩⟩
  case round=>exact⟨h.1,ae6 h.2 λe d b=>by
   cases e with
   | returned u=>exact⟨Bh _ _ _,b⟩
   | panicked c=>exact b.elim
   | outgrown=>obtain⟨_,_,h⟩:=b;exact h.elim⟩
 | halt x w'=>
  cases x<;>simp only[ab0] at h ⊢
  omega
theorem Aa8{i:Nat}{o:Oper}(d:L[i]? = some o){a:Act}{w:World}{N:Act->World->Prop}(h:wpOpIn F n P L QF i N a w):wpOpIn F n P L QF i (λc w'=>OS o.dst a c/\N c w') a w:=by
 unfold wpOpIn at *;simp only[d] at h ⊢;split
 ·rename_i b;simp only[b,if_true] at h;exact Bm5 h
 ·rename_i b;simp only[b] at h;exact⟨h.1,Bh _ _ _,h.2⟩
theorem DN{kind:Nat->Nat}{E:Act->World->Prop}{i:Nat}{o:Oper}(g:L[i]? = some o){a:Act}{j:World}(h:R0 F n P L kind (λc w'=>OS o.dst a c->E c w') [i] a j):R0 F n P L kind E [i] a j:=by
 simp only[R0] at h ⊢;refine⟨λf=>?_,λf w k=>?_⟩
 ·obtain⟨l,v,b,d,e⟩:=h.1 f;obtain rfl:=Option.some.inj (g.symm.trans b);exact⟨_,v,b,d,e (Bh _ _ _)⟩
 ·exact wpOpIn_mono (λc w' ⟨b,d,e⟩=>⟨d,e b⟩) (Aa8 g (h.2 f w k))
theorem Zk{id:Nat}{Q:Exit->Act->World->Prop}{kind:Nat->Nat}{ord:List Nat}{a:Act}{w:World}(k:P.follows .mixedOrders=true)(p:y7 L=true)(f:∀(j:Nat) (o:Oper) c,L[j]? = some o->o.op≠.defer c)(i:∀j,L.size<=j->kind j<=1)
  (b:ord.length=L.size) (g:WX .any L kind ord (x3 L.size false)=true) (h:R0 F n P L kind (λa d=>∀w,O2 d w->Q .normal a w) ord a w):(ad6 id L true).wpIn F n P Q a w:=by
 refine wpIn_region_any k ?_;rw[<-b,<-ac2 ord.length];refine Nu (λ_ _ h=>h) _ _ _ _ (Rb (Qn:=λa w=>Q .normal a w) (m:=0) (fin:=λlisted=>(j8 .any L listed).isEmpty) (E:=λa d=>∀w,O2 d w->Q .normal a w) p f i (λlisted a d h _ l w q=>⟨by simpa using h,l w q⟩) ord _ a w (by rw[ac2,b];exact g) (λj o r e=>?_) h _ (O2.refl w));simp only[o7,ac5] at e;split at e<;>cases e
end
section
variable {Z R : Type} {r : R} {C : Cfg} {I : Z -> (Nat -> Prop) -> (Nat -> Prop) -> World -> Prop} {Γ : Ctx} {Φ : Nat -> Prop} {st : St Z} {a : Act} {w : World} {L : F8} {Y : Yh Z} {W : Value} {o : Oper}
theorem Bh6{P:Program}{m:Sem Next}{w w1 b:World}{x y:Next}(h:m.run P w = .ok x w1)(k:m.run P w = .ok y b):x=y/\w1=b:=by grind
theorem Tk(w:World)(x:Obj):O2 w (w.alloc x):=⟨⟨λg b=>I5 (w':=w.alloc x) (o:=x) rfl b,by rw[show(w.alloc x).heap=w.heap.push x from rfl];simp⟩,rfl,rfl,rfl⟩
theorem PC{Γ:Ctx}{e:Nat}{ev:Operand->Value}(b:(C.ti e).ok=true)(c:o.op = .alloc e):∃z:Value,(execOp ev o).run C.P w = .ok (.value (.pointer (some ⟨w.heap.size,0,none⟩))) (w.alloc (.cells z.cells e))/\(∀(Γ:Ctx) sh w,CR Γ sh w ((C.ti e).ks.map Bg) z.cells)/\∃i,C.P.info? e=some i/\i.zero=some z:=by
 obtain⟨i,z,d,f,_,_⟩:=Ny (Γ:=Γ) (sh:=λ_=>none) (w:=w) b;refine⟨z,?_,λΓ' sh w'=>?_,i,d,f⟩
 ·simp only[execOp,c];simp[Instr.alloc,zeroValue,typeInfo,d,f,newVar,newRow]
 ·obtain⟨k,l,g,j,_,h⟩:=Ny (Γ:=Γ') (sh:=sh) (w:=w') b;grind
theorem Dt9{N:Option Nat}{n:Nat}{k:St Z->Option R}{next:Act->World->Prop}{Q:Exit->Act->World->Prop}(A:Ask C I L Y W)(a0:Γ.yv=W)(y:Bs3 C o.op=true)(h:opK C L Y o st k=some r)(S:SI C I Γ Φ st a.tmps w)(hN:Nxt C I Γ Φ st.hp w a.defers k r (λa' w'=>O2 w w'->next a' w')) :
  o.wpIn (I2 N) n C.P a w next Q:=by
 refine⟨λ_ _=>trivial,?_⟩;have M:∀c,o.op≠.defer c:=λc e=>by simp[opK,e] at h
 rw[aa6 _ _ _ M];unfold Bs3 at y;have add:BF o.op=false->(∃F x,(execOp a.eval o).run C.P w = .ok (.value F) (w.alloc x))->o.uponIn (I2 N) n C.P a next Q ((execOp a.eval o).run C.P w):=λu ⟨F,x,J⟩=>by
  obtain⟨V,w',Γ',l,G,q,h3,h4⟩:=Aj8 A.hI u h S;have T:=hN l (a.put o.dst V) w' Γ' Φ G h4 h3 (put_defers _ _ _);rcases q with q|⟨rfl,q⟩
  ·obtain⟨_,rfl⟩:=Bh6 q J;rw[q];exact T (Tk w x)
  grind
 split at y
 ·rename_i t len parts b;refine add (by rw[b];rfl) ?_;simp only[opK,b] at h;obtain⟨p1,p2⟩:=S.parts parts.toList;obtain⟨v,H',hk,hv,F,x,j⟩:=Iq (ps:=parts.map λ(i,x)=>(i,a.eval x)) (sl:=st.sl) (tmps:=a.tmps) S.hr h (by rw[ae9];exact p1);refine⟨F,x,?_⟩;simp only[execOp,b];simp[j]
 ·rename_i e b;refine add (by rw[b];rfl) ?_;by_cases B:(C.ti e).ok=true
  ·obtain⟨z,hr,_⟩:=PC (Γ:=Γ) (ev:=a.eval) (w:=w) B b;exact⟨_,_,hr⟩
  ·simp[opK,b,FE,B] at h
 ·rename_i c b;split at y
  ·rename_i g m;simp only[c9,p5] at y;obtain⟨⟨pf,p⟩,P⟩:=y;simp only[opK,b,m,opnd,DM,Wh,p,ae5,ab7,x4] at h;split at h
   ·rename_i K;obtain⟨ret,X,f,h⟩:=Bd h;have f:L9 (pf (M3 st.hp (c.args.toList.map (opnd C st.sl))))=some (ret,X):=by
     cases U:C.xp g with
     | true=>rw[U] at f;exact(Bo f).1
     | false=>rw[U] at f;exact f
    obtain⟨G,q⟩:=C5 h;obtain⟨hc,T⟩:=S.list c.args;have key:=JZ (k:=λv l=>k { l with sl:=Bu o.dst v l.sl }) A.hI A.hX S hc p f (aa0.1 K) (by simpa only[y5,y8,c9] using G) q;have H:execOp a.eval o=(do let d <-j9 (a.eval (.func g)) (c.args.map a.eval);invoke d.target d.args):=by simp only[execOp,b,resolve,m]
    have j:(execOp a.eval o).run C.P w=(callFunc g (c.args.map a.eval)).run C.P w:=by
     rw[H];have e:a.eval (.func g) = .func (.func g) #[] #[]:=rfl;rw[e];simp[j9,invoke]
    rw[j];refine key N n o a next Q ?_
    rintro V w' ⟨⟨v,l,Γ',O,k1,k2,D,k4,k5⟩,J⟩;exact hN _ (a.put o.dst V) w' Γ' O k1 k2 ⟨D.hr,D.sr.put (ds:=a.defers) o k4 k5,D.g,D.inv,D.dis⟩ (put_defers _ _ _) J
   ·cases h
  ·cases y
 ·cases y
theorem LB(C:Cfg)(op:Op):(Jx C op=0/\((∃x,op = .move x\/op = .assign x\/∃i,op = .extract x i)\/(∃t x d c e,op = .slice t x d c e)\/∃b t x y q,(b = .add\/b = .sub)/\op = .binOp b t x y q))\/(Jx C op=1/\MF C op=true)\/(Jx C op=2/\Bs3 C op=true)\/Jx C op=3:=by unfold Jx;grind
theorem Ds2{k:St Z->Option R}(f:(∃x,o.op = .move x\/o.op = .assign x\/∃i,o.op = .extract x i)\/(∃t x j g l,o.op = .slice t x j g l)\/∃b t x y q,(b = .add\/b = .sub)/\o.op = .binOp b t x y q)(h:opK C L Y o st k=some r)(S:SI C I Γ Φ st a.tmps w) :
  ∃V c,k c=some r/\(∀w':World,(execOp a.eval o).run C.P w' = .ok (.value V) w')/\SI C I Γ Φ c (a.put o.dst V).tmps w/\Stp C Γ st.hp w noΦ Γ c.hp w noΦ:=by
 rcases f with⟨x,d⟩|⟨t,x,j,g,l,d⟩|⟨b,t,x,y,q,f,d⟩
 ·obtain⟨V,c,m,n,p,u⟩:=CF (a:=a) (show P8 C o.op=true by rcases d with h|h|⟨_,h⟩<;>rw[h]<;>rfl) h S;refine⟨V,c,m,λw'=>?_,p,u⟩;have e:=n w (Ext.refl w);rcases d with d|d|⟨i,d⟩<;>simp only[execOp,d] at e ⊢
  ·cases e;rfl
  ·cases e;rfl
  ·unfold Instr.extract at e ⊢;split at e
   ·split at e
    ·cases e;simp_all
    ·cases e
   ·cases e
 ·exact Ar7 (a:=a) d h S
 ·exact Cc1 (a:=a) f d h S
theorem U5{ro:Option Nat}{n:Nat}{all:Array Oper}{E:Act->World->Prop}(A:Ask C I L Y W):∀(c:List Nat) {Γ:Ctx} {Φ:Nat->Prop} {st:St Z} {a:Act} {w:World} {k:St Z->Option R},(∀i∈c,i<all.size)->Γ.yv=W->
  Ba C L Y all (c.filterMap (all[·]?)) st k=some r->SI C I Γ Φ st a.tmps w->Nxt C I Γ Φ st.hp w a.defers k r E->R0 (I2 ro) n C.P all (P6 C all) E c a w
 | [],Γ,Φ,st,a,w,k,l,hyv,h,S,hN=>hN st a w Γ Φ h (Stp.refl S.hr) S rfl
 | i::c,Γ,Φ,st,a,w,k,l,hyv,h,S,hN=>by
  have a6:=l i (by simp);obtain⟨o,ho⟩:∃o,all[i]? = some o:=⟨all[i],aa2 a6⟩
  have y:∀j∈c,j<all.size:=λj hj=>l j (by simp[hj])
  rw[List.filterMap_cons,ho] at h;have a9:P6 C all i=Jx C o.op:=by simp only[P6,ho]
  have b0:∀{w1:World},O2 w w1->Nxt C I Γ Φ st.hp w a.defers k r E->SI C I Γ Φ st a.tmps w1/\Nxt C I Γ Φ st.hp w1 a.defers k r E:=fun {w1} p hN=>by
   obtain⟨S1,H⟩:=S.like A.hI p;exact⟨S1,λd a' w' Γ' Φ' D f F G=>hN d a' w' Γ' Φ' D (H.trans f) F G⟩
  have run:∀{st:St Z},k9 o (yielded all a.tmps)=true->SI C I Γ Φ st a.tmps w->Nxt C I Γ Φ st.hp w a.defers k r E->opK C L Y o st (λd=>Ba C L Y all (c.filterMap (all[·]?)) d k)=some r->R0 (I2 ro) n C.P all (P6 C all) E (i::c) a w:=fun {st} q S hN h=>by
   have a0:Jx C o.op<=1->∃V d,Ba C L Y all (c.filterMap (all[·]?)) d k=some r/\YQ (I2 ro) n C.P all (x5 (Jx C o.op) 1) w o V a/\SI C I Γ Φ d (a.put o.dst V).tmps w/\Stp C Γ st.hp w Φ Γ d.hp w Φ:=λP=>by
    rcases LB C o.op with⟨M,hb⟩|⟨M,hq⟩|⟨M,_⟩|M
    ·obtain⟨V,d,D,f,F,G⟩:=Ds2 (a:=a) hb h S;refine⟨V,d,D,⟨λ_ _ _ _=>trivial,.inl ⟨q,λw' _=>?_⟩⟩,F,G.lift Φ⟩;unfold ab2;rw[f w'];exact⟨rfl,rfl⟩
    ·rw[M];simp only[MF,y5] at hq;rcases hq with hq|hq
     ·obtain⟨V,d,D,f,F,G⟩:=CF (a:=a) hq h S;refine⟨V,d,D,⟨λ_ _ _ _=>trivial,.inl ⟨q,λw' Q=>?_⟩⟩,F,G.lift Φ⟩;unfold ab2;rw[f w' (Q rfl).1.1];exact⟨rfl,rfl⟩
     ·obtain⟨V,d,D,f,F,G⟩:=B47 (ro:=ro) (n:=n) (a:=a) A.hI A.hX hq h S;exact⟨V,d,D,⟨λ_ _ _ _=>trivial,.inl ⟨q,λw' Q=>f w' (Q rfl)⟩⟩,F,G.lift Φ⟩
    all_goals omega
   simp only[R0];rw[a9];refine⟨λP=>?_,λa7 w1 p=>?_⟩
   ·obtain⟨V,d,D,f,F,G⟩:=a0 P;exact⟨o,V,ho,f,U5 A c y hyv D F λt O w2 u x T X k3 k4=>hN t O w2 u x T (G.trans X) k3 (k4.trans (put_defers _ _ _))⟩
   ·obtain⟨S1,H⟩:=S.like A.hI p;unfold wpOpIn;simp only[ho,q,if_true];rcases LB C o.op with⟨M,_⟩|⟨M,_⟩|⟨M,hx⟩|M
    ·omega
    ·omega
    ·exact Dt9 A hyv hx h S1 λd a' w' Γ' Φ' D f F G hl=>⟨λ_=>hl,U5 A c y (f.yv.trans hyv) D F λt O w2 u x T X k3 k4=>hN t O w2 u x T (H.trans (f.trans X)) k3 (k4.trans G)⟩
    ·exact Cq8 A hyv h S1 λd a' w' Γ' Φ' D f F G=>⟨λe=>by omega,U5 A c y (f.yv.trans hyv) D F λt O w2 u x T X k3 k4=>hN t O w2 u x T (H.trans (f.trans X)) k3 (k4.trans G)⟩
  have skip:∀{st:St Z},k9 o (yielded all a.tmps)=false->SI C I Γ Φ st a.tmps w->Nxt C I Γ Φ st.hp w a.defers k r E->Ba C L Y all (c.filterMap (all[·]?)) { st with sl:=Bu o.dst (.tup []) st.sl } k=some r->R0 (I2 ro) n C.P all (P6 C all) E (i::c) a w:=fun {st} q S hN h=>by
   simp only[R0];have go:∀{w1:World},O2 w w1->R0 (I2 ro) n C.P all (P6 C all) E c (a.put o.dst undef) w1:=fun {w1} p=>by
    obtain⟨S1,H⟩:=S.like A.hI p;exact U5 A c (st:={ st with sl:=Bu o.dst (.tup []) st.sl }) y hyv h (S1.put (o:=o) Ih (by simp[PV.nms,C6])) λt O w2 u x T X k3 k4=>hN t O w2 u x T (H.trans X) k3 (k4.trans (put_defers _ _ _))
   refine⟨λP=>⟨o,undef,ho,⟨λ_ _ _ _=>trivial,.inr ⟨q,rfl⟩⟩,go (O2.refl w)⟩,λa7 w1 p=>?_⟩;unfold wpOpIn;simp only[ho,q,ae2,if_false];exact⟨λ_ _=>trivial,λ_=>O2.refl w1,go p⟩
  simp only[Ba] at h;split at h
  ·rename_i hg;exact run (by simp[k9,hg]) S hN h
  ·rename_i j N hg;split at h
   ·rename_i g a1;have a4:∀b,a.tmps[g]? = some (.bool b)->yielded all a.tmps j=some b:=λb e=>by simp[yielded,a1,e]
    have a3:(∀b,a.tmps[g]?≠some (.bool b))->yielded all a.tmps j=none:=λb2=>by
     simp only[yielded,a1,j0]
    have m:∀v,st.sl.getD g (.tup [])=v->∀V,a.tmps[g]? = some V->VP Γ (A5 st.hp) w v V:=λv hv V hV=>by
     have l:g<st.sl.length:=by rw[<-S.sr.size];exact(o0.1 hV).1
     obtain⟨U,e1,e2⟩:=S.sr.slot g l;grind
    split at h
    ·rename_i b hb;have l:g<st.sl.length:=w6 λb1=>by grind
     obtain⟨U,e1,e2⟩:=S.sr.slot g l;have hU:=(m _ hb U e1).inv_bool;subst hU;have z:yielded all a.tmps j=some b:=a4 b e1;have S':SI C I Γ Φ { st with sl:=st.sl.set g (.s (.bool b)) } a.tmps w:=⟨S.hr,S.sr.set g (m _ hb) (by simp[PV.nms]),S.g,S.inv,S.dis⟩
     have K:(if (b==N)=true then opK C L Y o { st with sl:=st.sl.set g (.s (.bool b)) } (λd=>Ba C L Y all (c.filterMap (all[·]?)) d k) else Ba C L Y all (c.filterMap (all[·]?)) { st with sl:=Bu o.dst (.tup []) (st.sl.set g (.s (.bool b))) } k)=some r:=by
      cases b<;>exact h
     by_cases J:b=N
     ·rw[if_pos (by simpa using J)] at K;exact run (by simp[k9,hg,z,J]) S' hN K
     ·rw[if_neg (by simpa using J)] at K;exact skip (by simp[k9,hg,z,J]) S' hN K
    ·rename_i hb;have z:yielded all a.tmps j=none:=a3 λb a5=>by
      obtain⟨B,e,_⟩:=(m _ hb _ a5).inv_tup;cases e
     exact skip (by simp[k9,hg,z]) S hN h
    grind
   ·cases h
def D19:Op->Bool
 | .defer _=>false
 | _=>true
def Cs5(C:Cfg)(b:Array Oper):Bool:=
 y7 b&&(b.toList.all (λo=>D19 o.op)&&(x5 (EC C b.toList).length b.size&&((EC C b.toList).all (λi=>w9 (i+1) b.size)&&WX .any b (P6 C b) (EC C b.toList) (x3 b.size false))))
def Bj3(o:Oper):List Nat:=o.op.operands.toList.filterMap λx=>match x with | .tmp t=>some t|_=>none
def Ho(b:Array Oper)(f:Nat)(c:List Nat):Bool:=match b[f]? with
 | some e=>(match e.dst with|some _=>true|none=>false)&&c.all λi=>match b[i]? with
  | some o=>(match o.dst with|some d=>!(Bj3 e).contains d&&!(e.dst==some d)|none=>true)
  | none=>false
 | none=>false
def Bb2(C:Cfg)(b:Array Oper)(c:Nat):Bool:=
 y7 b&&(b.toList.all (λo=>D19 o.op)&&(x5 (Kb C b++(Hp C b c++c::Dz C b c)).length b.size&&((Kb C b++(Hp C b c++c::Dz C b c)).all (λi=>w9 (i+1) b.size) &&
  (Ho b c (Hp C b c)&&(x5 (P6 C b c) 2&&KA .any b (P6 C b) (Ra .any b (P6 C b) c (Dz C b c) (Hp C b c)) (Kb C b) (x3 b.size false))))))
def Bb1(C:Cfg)(id:Nat)(b:Array Oper):Bool:=match C.rowR id with
 | none=>Cs5 C b
 | some i=>Bb2 C b i
def U1(C:Cfg)(rf:Bool):Code->Bool
 | .region id c d=>!d||Bb1 C id c
 | .seq a b=>U1 C rf a&&U1 C rf b
 | .cond _ a b=>U1 C rf a&&U1 C rf b
 | .block _ a=>U1 C rf a
 | .loop a=>U1 C rf a
 | .scope a=>U1 C rf a
 | .rangeFunc _ _ a b=>rf&&U1 C false a&&U1 C false b
 | _=>true
def Cl0(C:Cfg)(c:Code):Bool:=U1 C true c
theorem B76{N:Option Nat}{n id:Nat}{b:Array Oper}{Q:Exit->Act->World->Prop}{k:St Z->Option R}(A:Ask C I L Y W)(F:C.P.follows .mixedOrders=true)(d:Cs5 C b=true)(m:Γ.yv=W)(h:Ba C L Y b (D24 C b true) st k=some r)(S:SI C I Γ Φ st a.tmps w)
  (hN:Nxt C I Γ Φ st.hp w a.defers k r (λf w'=>Q .normal f w')):(ad6 id b true).wpIn (I2 N) n C.P Q a w:=by
 simp only[Cs5,c9] at d;obtain⟨x,t,y,u,z⟩:=d;rw[j5] at t u;refine Zk (kind:=P6 C b) (ord:=EC C b.toList) F x (λj o c G e=>?_) (λj D=>?_) (o6 y) z (U5 A _ (λi B=>JJ (u i B)) m h S λp f w' Γ' q H J K M w1 l=>?_)
 case refine_3=>
  obtain⟨v,g⟩:=K.like A.hI l;exact hN p f w1 Γ' q H (J.trans g) v M
 ·have:=t o (by simpa using ad3 G);rw[e] at this;cases this
 ·simp only[P6,ab1 D];exact j7 _
def Trn.B(C:Cfg)(V:Value)(x:Obj)(g:Nat):Trn->Prop
 | .row v=>∀(St:Nat->Prop) (w1:World),St g->w1.heap[g]? = some x->VS St w1 v V
 | .var e=>(C.ti e).ok=true/\(∀n el,C.sh e≠.array n el)/\V = .pointer (some ⟨g,0,none⟩)/\∃z:Value,x = .cells z.cells e/\∀(Γ:Ctx) sh w,CR Γ sh w ((C.ti e).ks.map Bg) z.cells
def Ab9(C:Cfg)(o:Oper)(b:Operand->Value)(t:Trn):Prop:=∀w:World,∃V x,(execOp b o).run C.P w = .ok (.value V) (w.alloc x)/\t.B C V x w.heap.size
def Cu8(op:Op):Prop:=(∃t len b,op = .buildSlice t len b)\/∃e,op = .alloc e
theorem Cr2{St St':Nat->Prop}{w w':World}{v:SV}{U:Value}(c:v.plain=true)(h:VS St w v U):VS St' w' v U:=by
 cases h with
 | bool b=>exact .bool b
 | int k n=>exact .int k n
 | str s=>exact .str s
 | nilp=>exact .nilp
 | nilm=>exact .nilm
 | nilf=>exact .nilf
 | _=>simp[SV.plain] at c
theorem Bf2{k:Trn->Option R}(S:SI C I Γ Φ st a.tmps w)(h:Bf1 C o st.sl k=some r):o.guard=none/\Cu8 o.op/\∃t,k t=some r/\Ab9 C o a.eval t:=by
 unfold Bf1 at h;split at h
 ·rename_i e H c;refine⟨H,.inr ⟨_,c⟩,?_⟩;split at h
  ·cases h
  ·rename_i q;obtain⟨b,h⟩:=C5 h;refine⟨_,h,λw1=>?_⟩;obtain⟨z,Q,g,_⟩:=PC (Γ:=Γ) (ev:=a.eval) (w:=w1) b c;exact⟨_,_,Q,b,q,rfl,z,rfl,g⟩
 ·rename_i t len parts H c;refine⟨H,.inl ⟨_,_,_,c⟩,?_⟩;split at h
  ·rename_i e q;split at h
   ·rename_i b;simp only[c9,decide_eq_true_eq] at b;obtain⟨⟨b,d⟩,X⟩:=b;split at h
    ·rename_i out V;split at h
     ·rename_i vs M;obtain⟨K,h⟩:=C5 h;refine⟨_,h,?_⟩;obtain⟨hp,_⟩:=S.parts parts.toList;obtain⟨i,z,l,hz,u,F⟩:=Ny (Γ:=Γ) (sh:=A5 st.hp) (w:=w) b;obtain⟨_,_,_,a0⟩:=M6 b;have J:0<(C.ti e).ks.length:=by rename_i Q g;omega
      have T:=Bu3 F (by simpa using J) len;rw[p6] at T;obtain⟨B,O,D,e3⟩:=He (place':=λj=>some (j*i.size,i.size)) (λj off size m h0=>by rw[u];exact m) V T hp;obtain⟨f1,f2⟩:=Br (As:=B.toList) M (by simpa using D.1.symm) (λj m=>by
       obtain⟨U,e,k⟩:=D.2 j m;exact⟨U,by simpa using e,k⟩)
      have y:B.size=len*(C.ti e).ks.length:=by
       have n:∀{place:Nat->Option (Nat × Nat)} {A:List (Nat × PV)} {cells out:List PV},Iu place cells A=some out->out.length=cells.length:=by
        intro place A
        induction A with
        | nil=>intro cells out h;simp only[Iu,b8] at h;rw[h]
        | cons p A ih=>
         intro cells out h;obtain⟨i,v⟩:=p;simp only[Iu] at h;split at h
         ·split at h
          ·rw[ih h,D7]
          grind
         grind
       rw[D.1,n V,Iv,p6]
      have f:vs.length=len*(C.ti e).ks.length:=by rw[f1,ab9,y]
      intro N;have hr:=Hu (P:=C.P) N len (parts.map λ(i,x)=>(i,a.eval x)) B (K2 q) l hz (by rw[u];exact d) (by rw[u] at O ⊢;rw[ae9];exact O);refine⟨.slice (some ⟨N.heap.size,0,none⟩) len len,.cells B e,by simp only[execOp,c];simp[hr],λSt w1 G hx=>?_⟩;refine .sl true _ N.heap.size 0 len len _ (λi j=>(B[i*(C.ti e).ks.length+j]?).getD undef) (by rw[Y9]) (j7 _) (by simp only[maxLen];omega) (λ_=>rfl) G (λi l=>(Ga _ _ _ f i l).1) (λi l j m=>?_) (λi l j m=>?_)
      ·obtain⟨g,_⟩:=(Ga _ _ _ f i l).2 j m;have:i*(C.ti e).ks.length+j<B.size:=by rw[y,<-f];exact g
       simp[ah6,hx,this]
      ·obtain⟨g,e4⟩:=(Ga _ _ _ f i l).2 j m;obtain⟨U,e5,k5⟩:=f2 _ g;rw[e4];have e6:(B[i*(C.ti e).ks.length+j]?).getD undef=U:=by grind
       rw[e6];exact Cr2 (j5.1 K _ (b9 g)) k5
     grind
    grind
   ·cases h
  ·cases h
 ·cases h
theorem Ay1{d:Option Tmp}{a b:Act}(h:OS d a b){c:Oper}(f:∀t,d=some t->t∉Bj3 c):∀x∈c.op.operands,b.eval x=a.eval x:=by
 intro x g;cases x with
 | tmp t=>
  have:d≠some t:=λe=>f t e (List.mem_filterMap.2 ⟨.tmp t,by simpa using g,rfl⟩)
  have e:=h t this;simp only[Act.eval,o7,e]
 | _=>rfl
theorem Dg7{m:Option Nat}{n:Nat}{all:Array Oper}{g:Nat}{d:Oper}{t:Trn}(l:all[g]? = some d)(k:d.guard=none)(f:Cu8 d.op)(b:Ab9 C d a.eval t){K:Act->World->Prop}
  (h:∀V x,t.B C V x w.heap.size->K (a.put d.dst V) (w.alloc x)):wpOpIn (I2 m) n C.P all QF g K a w:=by
 unfold wpOpIn;simp only[l];rw[if_pos (by simp[k9,k])];refine⟨λ_ _=>trivial,?_⟩;rw[aa6 _ _ _ (λc e=>by rcases f with⟨_,_,_,h⟩|⟨_,h⟩<;>rw[h] at e<;>cases e)];obtain⟨V,x,i,j⟩:=b w;rw[i];exact h V x j
structure Ab8 (C:Cfg) (d:Option Tmp) (t:Trn) (g:Nat) (x:Obj) (Γ:Ctx) (Φ:Nat->Prop) (a:Act) (w:World):Prop where
 at':w.heap[g]? = some x
 st:¬ Γ.St g
 nm:∀b,Γ.nm b≠some g
 fo:¬ Φ g
 ex:∃V,t.B C V x g
 val:∀V,(∃t,d=some t/\a.tmps[t]? = some V)->t.B C V x g
theorem Aq9(S:SI C I Γ Φ st a.tmps w)(d:Option Tmp):SI C I Γ Φ { st with sl:=Bu d .bad st.sl } a.tmps w:=by
 cases d with
 | none=>exact S
 | some t=>exact⟨S.hr,S.sr.set t (λV _=>.bad V) (by simp[PV.nms]),S.g,S.inv,S.dis⟩
theorem Bx2(S:SI C I Γ Φ st a.tmps w){d:Option Tmp}{v:PV}(h:∀V,(∃t,d=some t/\a.tmps[t]? = some V)->VP Γ (A5 st.hp) w v V)(b:∀c∈v.nms,c<st.hp.length):SI C I Γ Φ { st with sl:=Bu d v st.sl } a.tmps w:=by
 cases d with
 | none=>exact S
 | some t=>exact⟨S.hr,S.sr.set t (λV hV=>h V ⟨t,rfl,hV⟩) b,S.g,S.inv,S.dis⟩
theorem Ab8.step{Γ':Ctx}{Φ':Nat->Prop}{H':List Blk}{a':Act}{w':World}{d4 d:Option Tmp}{t:Trn}{g:Nat}{x:Obj}(h:Ab8 C d4 t g x Γ Φ a w)(hs:Stp C Γ st.hp w Φ Γ' H' w' Φ')(hag:OS d a a')(hne:d4≠none->d≠d4):Ab8 C d4 t g x Γ' Φ' a' w':=by
 have hlt:g<w.heap.size:=(o0.1 h.at').1;refine⟨by rw[hs.frame g hlt h.nm h.fo];exact h.at',λe=>?_,λb e=>?_,λe=>?_,h.ex,?_⟩
 ·rcases hs.stnew g e with e|e
  ·exact h.st e
  ·omega
 ·rcases hs.own b g e with⟨_,e⟩|e
  ·exact h.nm b e
  ·omega
 ·rcases hs.foot g e with e|e
  ·exact h.fo e
  ·omega
 ·rintro V ⟨t,ht,hV⟩;have:d≠some t:=λe=>hne (by rw[ht];simp) (by rw[e,ht])
  rw[hag t this] at hV;exact h.val V ⟨t,ht,hV⟩
theorem JC{H:List Blk}(x:Blk)(g:Nat):Ah Γ (A5 H) w (Γ.upd H.length g) (A5 (H++[x])) w (· < H.length):=
 ⟨λ_ _=>rfl,λ_ h=>h,λb c=>by simp only[Ctx.upd];rw[if_neg (by omega)],λb c=>O7 c,λ_ _ _ _=>rfl,rfl⟩
theorem Stp.adopt{Γ0:Ctx}{H0 H:List Blk}{w0:World}{Φ0:Nat->Prop}{g:Nat}(x:Blk)(hs:Stp C Γ0 H0 w0 Φ0 Γ H w Φ)(hg:w0.heap.size<=g):Stp C Γ0 H0 w0 Φ0 (Γ.upd H.length g) (H++[x]) w Φ:=by
 have hl:=hs.len;refine⟨hs.os,hs.tape,hs.output,hs.size,hs.sub,hs.stnew,λb g' h=>?_,hs.foot,hs.frame,hs.yv,by simp;omega,λb hb hf=>?_⟩
 ·simp only[Ctx.upd] at h;split at h
  ·grind
  ·exact hs.own b g' h
 ·obtain⟨p1,p2,p3⟩:=hs.keep b hb hf;exact⟨by simp only[Ctx.upd];rw[if_neg (by omega)];exact p1,by rw[O7 (by omega)];exact p2,p3⟩
theorem SI.adopt(S:SI C I Γ Φ st a.tmps w){x:Blk}{g:Nat}(hlt:g<w.heap.size)(h1:¬ Γ.St g)(h2:∀b,Γ.nm b≠some g)(h3:¬ Φ g)(hb:BR (Γ.upd st.hp.length g) (A5 (st.hp++[x])) w st.hp.length x)(hn:∀c∈x.nms,c<st.hp.length+1) :
  SI C I (Γ.upd st.hp.length g) Φ { st with hp:=st.hp++[x] } a.tmps w:=by
 have M:Ah Γ (A5 st.hp) w (Γ.upd st.hp.length g) (A5 (st.hp++[x])) w (· < st.hp.length):=JC x g;refine⟨⟨λb b' g' k1 k2=>?_,λb g' h=>?_,S.hr.stlt,λb hb' c hc=>?_,λb hb'=>?_⟩,SR.grow M S.sr,S.g,S.inv,λb g' h=>?_⟩
 ·simp only[Ctx.upd] at k1 k2;split at k1<;>split at k2
  ·omega
  ·rw[<-k1] at k2;exact absurd k2 (h2 b')
  ·rw[<-k2] at k1;exact absurd k1 (h2 b)
  ·exact S.hr.inj b b' g' k1 k2
 ·simp only[Ctx.upd] at h;split at h
  ·simp only[b8] at h;subst h;exact⟨by simp;omega,hlt,h1⟩
  ·have:=S.hr.lt b g' h;exact⟨by simp;omega,this.2⟩
 ·rw[p7,ad4] at hb' ⊢;by_cases e:b=st.hp.length
  ·subst e;simp at hc;exact hn c hc
  ·have hb2:b<st.hp.length:=by omega
   rw[w8 hb2] at hc;have:=S.hr.nms b hb2 c hc;omega
 ·rw[p7,ad4] at hb';by_cases e:b=st.hp.length
  ·subst e;simpa using hb
  ·have hb2:b<st.hp.length:=by omega
   rw[w8 hb2];exact(S.hr.blk b hb2).mono M (M.nm b hb2) (λ_ _=>rfl) (λc hc=>S.hr.nms b hb2 c hc)
 ·simp only[Ctx.upd] at h;split at h
  ·simp only[b8] at h;subst h;exact h3
  ·exact S.dis b g' h
theorem Bk8{q:Ctx}{F:List Blk}{D:World}{u:Nat->Prop}{k:St Z->Option R}{d:Option Tmp}{t:Trn}{g:Nat}{x:Obj}(H:HI I)(S:SI C I Γ Φ st a.tmps w)(h:Sr C d t st k=some r)(f:Ab8 C d t g x Γ Φ a w)(l:Stp C q F D u Γ st.hp w Φ)(K:D.heap.size<=g) :
  ∃m Γ',k m=some r/\SI C I Γ' Φ m a.tmps w/\Stp C q F D u Γ' m.hp w Φ:=by
 have p:g<w.heap.size:=(o0.1 f.at').1;cases t with
 | row v=>
  have M:=S.wideSt H (St':=λy=>Γ.St y\/y=g) (λ_ h=>.inl h) (λy i=>by rcases i with i|rfl;exact λe=>(H.foot _ _ _ _ S.inv y e).2 i;exact f.fo) (λb y J=>by
   rintro(i|rfl)
   ·exact(S.hr.lt b y J).2.2 i
   ·exact f.nm b J) (λy i=>by rcases i with i|rfl;exact S.hr.stlt y i;exact p)
  exact⟨_,_,h,Bx2 M (λV hV=>.s _ _ (f.val V hV _ _ (.inr rfl) f.at')) (by simp[PV.nms]),⟨l.os,l.tape,l.output,l.size,λy i=>.inl (l.sub y i),λy i=>by rcases i with i|rfl;exact l.stnew y i;exact .inr K,l.own,l.foot,l.frame,l.yv,l.len,l.keep⟩⟩
 | var e=>
  obtain⟨_,B,a0,_,z,rfl,hz⟩:=f.ex;simp only[Sr,FE,B,if_true] at h;have n:=hz Γ (A5 st.hp) w;obtain⟨T,P,Q,X,e4,e5,e6,G⟩:=Y1 (C:=C) (C.nilT e) ((C.ti e).ks.map Bg) 0 st.hp z.cells.toList S.hr (by simpa using n.1.symm) (λj A=>by
   obtain⟨U,e,k⟩:=n.2 j A;exact⟨U,by simpa using e,k⟩) (by rw[Zl];simp)
  rw[P] at h;have N:SI C I Γ Φ { st with hp:=st.hp++T } a.tmps w:=⟨Q,SR.grow e4 S.sr,S.g,S.inv,S.dis⟩
  have O:=N.adopt (x:=.box (G7 (C.nilT e) ((C.ti e).ks.map Bg) 0 st.hp).1) p f.st f.nm f.fo ⟨g,z.cells,e,by simp[Ctx.upd],f.at',by simpa using e5.symm,λj A=>by
   obtain⟨U,f1,f2⟩:=e6 j A;exact⟨U,by simpa using f1,f2.mono (JC _ g) λc n=>G c (C0.2 ⟨j,A,n⟩)⟩⟩ (λc n=>by have:=G c n;simp only at this ⊢;omega)
  exact⟨_,_,h,Bx2 O (λV hV=>by
   obtain⟨_,_,rfl,_⟩:=f.val V hV;exact .ptrB _ 0 g J7 (by simp[Ctx.upd])) (by simp[PV.nms]),Stp.adopt _ (l.trans (X.lift Φ)) K⟩
theorem PE{all:Array Oper}{e:Nat}{c:Oper}{i:Nat}{b:List Nat}(f:all[e]? = some c)(d:Ho all e (i::b)=true):∃o,all[i]? = some o/\(∀t,o.dst=some t->t∉Bj3 c)/\(c.dst≠none->o.dst≠c.dst)/\Ho all e b=true:=by unfold Ho at d ⊢;grind
theorem LY{N:Option Nat}{n:Nat}{all:Array Oper}{E:Act->World->Prop}{M:Nat}{l:Oper}{t:Trn}{post:List Nat}{m:Ctx}{H:List Blk}{D:World}{p:Nat->Prop}{ds:List Deferred}{g:Nat}{x:Obj}{k:St Z->Option R}(A:Ask C I L Y W)(K:all[M]? = some l)(b:∀i∈post,i<all.size)(J:D.heap.size<=g)(hN:Nxt C I m p H D ds k r E):∀(c:List Nat) {Γ:Ctx} {Φ:Nat->Prop} {st:St Z} {a:Act} {w:World},(∀i∈c,i<all.size)->Ho all M c=true->Γ.yv=W->
  Og C L Y all l.dst c st (λd=>Sr C l.dst t d λB=>Ba C L Y all (post.filterMap (all[·]?)) B k)=some r->SI C I Γ Φ st a.tmps w->Ab8 C l.dst t g x Γ Φ a w->Stp C m H D p Γ st.hp w Φ->a.defers=ds->R0 (I2 N) n C.P all (P6 C all) E (c++post) a w
 | [],Γ,Φ,st,a,w,hlt,hap,hyv,h,S,hah,hs,hd=>by
  simp only[Og] at h;obtain⟨z,Γ',Q,O,f⟩:=Bk8 A.hI S h hah hs J;exact U5 A post b (f.yv.trans (hs.yv.symm.trans hyv)) Q O λd P w2 F G q1 q2 q3 q4=>hN d P w2 F G q1 (f.trans q2) q3 (q4.trans hd)
 | i::rest,Γ,Φ,st,a,w,hlt,hap,hyv,h,S,hah,hs,hd=>by
  obtain⟨o,U,T,v,e⟩:=PE K hap;simp only[Og] at h;exact DN (E:=R0 (I2 N) n C.P all (P6 C all) E (rest++post)) U (U5 A [i] (λj q=>hlt j (by simp at q;simp[q])) hyv h S λz a' w' Γ' Φ' V y X k4 u=>
   LY A K b J hN rest (λj q=>hlt j (by simp[q])) e (y.yv.trans hyv) V (Aq9 X l.dst) (hah.step y u v) (hs.trans y) (k4.trans hd))
theorem A77{K:Option Nat}{n:Nat}{all:Array Oper}{E:Act->World->Prop}{B:Nat}{l:Oper}{t:Trn}{post:List Nat}(A:Ask C I L Y W)(P:all[B]? = some l)(hg:l.guard=none)(F:Cu8 l.op)(y:∀i∈post,i<all.size):∀(c:List Nat) {Γ:Ctx} {Φ:Nat->Prop} {st:St Z} {a:Act} {w:World} {k:St Z->Option R},(∀i∈c,i<all.size)->Ho all B c=true->Γ.yv=W->
  Og C L Y all l.dst c { st with sl:=Bu l.dst .bad st.sl } (λp=>Sr C l.dst t p λz=>Ba C L Y all (post.filterMap (all[·]?)) z k)=some r->SI C I Γ Φ st a.tmps w->Ab9 C l a.eval t->Nxt C I Γ Φ st.hp w a.defers k r E->Zm (I2 K) n C.P all (P6 C all) E B post c a w:=by
 have early:∀(c:List Nat) {Γ:Ctx} {Φ:Nat->Prop} {st:St Z} {a:Act} {w:World} {k:St Z->Option R},(∀i∈c,i<all.size)->Ho all B c=true->Γ.yv=W->
   Og C L Y all l.dst c { st with sl:=Bu l.dst .bad st.sl } (λp=>Sr C l.dst t p λz=>Ba C L Y all (post.filterMap (all[·]?)) z k)=some r->SI C I Γ Φ st a.tmps w->Ab9 C l a.eval t->Nxt C I Γ Φ st.hp w a.defers k r E->
   ∀w1,O2 w w1->wpOpIn (I2 K) n C.P all QF B (λM w'=>O2 w1 w'/\R0 (I2 K) n C.P all (P6 C all) E (c++post) M w') a w1:=by
  intro c Γ Φ st a w k f m g h S d hN w1 G;refine Dg7 P hg F d λV x hV=>⟨Tk w1 x,?_⟩
  obtain⟨H,Q⟩:=S.like A.hI G;obtain⟨S2,T⟩:=H.like A.hI (Tk w1 x);refine LY (a:=a.put l.dst V) A P y G.1.2 hN c f m g h (S2.put (o:=l) (v:=.bad) (V:=V) (.bad V) (by simp[PV.nms])) ⟨I4 rfl,λe=>ae1 _ (H.hr.stlt _ e),λb e=>ae1 _ (H.hr.lt b _ e).2.1,λe=>ae1 _ (A.hI.foot _ _ _ _ H.inv _ e).1,⟨V,hV⟩,?_⟩ (Q.trans T) (put_defers _ _ _);rintro V' ⟨t,ht,q⟩;have e:V'=V:=by
   rw[ht] at q;simp only[ae3] at q;have:=(o0.1 q).1;simp at this;simpa[this] using q.symm
  rw[e];exact hV
 intro c
 induction c with
 | nil=>
  intro Γ Φ st a w k f m g h S d hN;exact early [] f m g h S d hN
 | cons i u ih=>
  intro Γ Φ st a w k f m g h S d hN;refine⟨?_,λ_=>early (i::u) f m g h S d hN⟩;obtain⟨o,hi,O,a0,D⟩:=PE P m;have S0:=Aq9 S l.dst;simp only[Og] at h;exact DN (E:=Zm (I2 K) n C.P all (P6 C all) E B post u) hi (U5 A [i] (λj J=>f j (by simp at J;simp[J])) g h S0 λa1 M w' Γ' Φ' k1 k2 k3 k4 N=>
   ih (λj J=>f j (by simp[J])) D (k2.yv.trans g) k1 k3 (by
    have e:=execOp_congr (ρ:=M.eval) (ρ':=a.eval) l (λcs b e=>by rcases F with⟨_,_,_,h⟩|⟨_,h⟩<;>rw[h] at e<;>cases e) (Ay1 N O);unfold Ab9 at d ⊢;rw[e];exact d) λp a2 w2 U X q1 q2 q3 q4=>hN p a2 w2 U X q1 (k2.trans q2) q3 (q4.trans k4))
theorem Bb3{J:Option Nat}{n id d:Nat}{b:Array Oper}{B:Oper}{Q:Exit->Act->World->Prop}{k:St Z->Option R}(A:Ask C I L Y W)(hm:C.P.follows .mixedOrders=true)(x:Bb2 C b d=true)(z:Γ.yv=W)(D:b[d]? = some B)
  (h:(Ba C L Y b ((Kb C b).filterMap (b[·]?)) st λg=>Bf1 C B g.sl λt=>
    Og C L Y b B.dst (Hp C b d) { g with sl:=Bu B.dst .bad g.sl } λm=>Sr C B.dst t m λK=>
     Ba C L Y b ((Dz C b d).filterMap (b[·]?)) K k)=some r) (S:SI C I Γ Φ st a.tmps w)
  (hN:Nxt C I Γ Φ st.hp w a.defers k r (λa' w'=>Q .normal a' w')):(ad6 id b true).wpIn (I2 J) n C.P Q a w:=by
 simp only[Bb2,c9] at x;obtain⟨P,T,h3,U,h5,h6,h7⟩:=x;rw[j5] at T U;have u:∀(j:Nat) (o:Oper) c,b[j]? = some o->o.op≠.defer c:=λj o c D e=>by
  have:=T o (by simpa using ad3 D);rw[e] at this;cases this
 have V:∀j,b.size<=j->P6 C b j<=1:=λj f=>by
  simp only[P6,ab1 f];exact j7 _
 have l:∀j,j∈Kb C b\/j∈Hp C b d\/j∈Dz C b d->j<b.size:=λj f=>JJ (U j (by
  rcases f with f|f|f<;>simp[f]))
 have hC:R0 (I2 J) n C.P b (P6 C b) (Zm (I2 J) n C.P b (P6 C b) (λa M=>∀w,O2 M w->Q .normal a w) d (Dz C b d) (Hp C b d)) (Kb C b) a w:=
  U5 A _ (λi p=>l i (.inl p)) z h S λg a1 w1 Γ1 Φ1 k1 X k3 k4=>by
   obtain⟨hg,F,v,hv,y⟩:=Bf2 k3 k1;exact A77 A D hg F (λi p=>l i (.inr (.inr p))) _ (λi p=>l i (.inr (.inl p))) h5 (X.yv.trans z) hv k3 y λm a2 w2 N O q1 q2 q3 q4 w3 H=>by
    obtain⟨S3,G⟩:=q3.like A.hI H;exact hN m a2 w3 N O q1 (X.trans (q2.trans G)) S3 (q4.trans k4)
 refine wpIn_region_any hm ?_;have q:=o6 h3;have e:b.size=(Dz C b d).length+1+(Hp C b d).length+(Kb C b).length:=by
  rw[<-q];simp only[p7,af3];omega
 rw[e];refine Nu (wr:=λj=>w9 3 (P6 C b j)) (Qn:=λa w=>Q .normal a w) (λ_ _ h=>h) _ _ _ _ (Rb (fin:=Ra .any b (P6 C b) d (Dz C b d) (Hp C b d)) P u V
  (λlisted a M hf hd hM w hw=>Ck9 P u V _ listed a M hf hd hM w hw) (Kb C b) (x3 ((Dz C b d).length+1+(Hp C b d).length+(Kb C b).length) false) a w (by rw[<-e];exact h7) (λj o D f=>?_) hC _ ⟨⟨λ_ _=>rfl,j7 _⟩,rfl,rfl,rfl⟩)
 simp only[o7,ac5] at f;split at f<;>cases f
theorem Df4{l:Option Nat}{n id:Nat}{c:Array Oper}{Q:Exit->Act->World->Prop}{k:St Z->Option R}(A:Ask C I L Y W)(f:C.P.follows .mixedOrders=true)(b:Bb1 C id c=true)(d:Γ.yv=W)(h:Bb0 C L Y id c true st k=some r)(S:SI C I Γ Φ st a.tmps w)
  (hN:Nxt C I Γ Φ st.hp w a.defers k r (λg w'=>Q .normal g w')):(ad6 id c true).wpIn (I2 l) n C.P Q a w:=by
 unfold Bb0 at h;unfold Bb1 at b;split at h
 ·rename_i e;rw[e] at b;exact B76 A f b d h S hN
 ·rename_i i e;rw[e] at b;split at h
  ·rename_i o _ j;exact Bb3 A f b d j h S hN
  ·cases h
end
def Ctx.cut(Γ:Ctx)(L:Nat):Ctx:={ Γ with St:=λg=>Γ.St g\/∃b,L<=b/\Γ.nm b=some g,nm:=λb=>if b<L then Γ.nm b else none }
def mkD(D:Nat):Deferred:={ target:=.collected D,args:=#[] }
section
variable {Z R : Type} {r : R} {C : Cfg} {I : Z -> (Nat -> Prop) -> (Nat -> Prop) -> World -> Prop} {Γ Γ' : Ctx} {Φ Φ' : Nat -> Prop} {st : St Z} {a : Act} {w w' : World} {Y : F8} {L : Yh Z} {yv : Value} {o : Oper} {H H' : List Blk} {tmps : Array Value}
def Off(Γ:Ctx)(Φ:Nat->Prop)(w:World)(g:Nat):Prop:=g<w.heap.size/\¬ Γ.St g/\(∀b,Γ.nm b≠some g)/\¬ Φ g
theorem Off.step{g:Nat}(h:Off Γ Φ w g)(s:Stp C Γ H w Φ Γ' H' w' Φ'):Off Γ' Φ' w' g/\w'.heap[g]? = w.heap[g]?:=by
 obtain⟨h1,h2,h3,h4⟩:=h;refine⟨⟨j4 h1 s.size,λq=>?_,λb q=>?_,λq=>?_⟩,s.frame g h1 h3 h4⟩
 ·rcases s.stnew g q with q|q
  ·exact h2 q
  ·omega
 ·rcases s.own b g q with⟨_,q⟩|q
  ·exact h3 b q
  ·omega
 ·rcases s.foot g q with q|q
  ·exact h4 q
  ·omega
def Mk(n0:Nat)(Γ:Ctx)(Φ:Nat->Prop)(w:World)(ds:List Deferred):Prop:=n0<=w.heap.size/\∃b:List Nat,ds=b.map mkD/\b.Nodup/\∀D∈b,n0<=D/\Off Γ Φ w D/\w.heap[D]? = some (.deferred (some []))
theorem Mk.nil{n0:Nat}(h:n0<=w.heap.size):Mk n0 Γ Φ w []:=⟨h,[],rfl,ag4,by simp⟩
theorem Mk.step{n0:Nat}{ds:List Deferred}(h:Mk n0 Γ Φ w ds)(s:Stp C Γ H w Φ Γ' H' w' Φ'):Mk n0 Γ' Φ' w' ds:=by obtain⟨h0,Ds,h1,h2,h3⟩:=h;refine⟨p4 h0 s.size,Ds,h1,h2,λD hD=>?_⟩;obtain⟨k1,k2,k3⟩:=h3 D hD;obtain⟨q1,q2⟩:=k2.step s;exact⟨k1,q1,q2.trans k3⟩
structure Vu (Γ:Ctx) (Φ:Nat->Prop) (w w':World):Prop where
 same:∀g,Γ.St g\/(∃b,Γ.nm b=some g)\/Φ g->w'.heap[g]? = w.heap[g]?
 size:w.heap.size<=w'.heap.size
 os:w'.os=w.os
 tape:w'.tape=w.tape
 output:w'.output=w.output
theorem Vu.mono(h:Vu Γ Φ w w'):Ah Γ (A5 H) w Γ (A5 H) w' (λ_=>True):=
 ⟨λg hg=>h.same g (.inl hg),λ_ h=>h,λ_ _=>rfl,λ_ _=>rfl,λb g _ hg=>F2 (h.same g (.inr (.inl ⟨b,hg⟩))),rfl⟩
theorem SI.offW(hI:HI I)(S:SI C I Γ Φ st tmps w)(h:Vu Γ Φ w w'):SI C I Γ Φ st tmps w':=by
 have hf:=hI.foot _ _ _ _ S.inv;refine⟨⟨S.hr.inj,λb g hb=>?_,λg hg=>j4 (S.hr.stlt g hg) h.size,S.hr.nms,λb hb=>(S.hr.blk b hb).mono h.mono rfl (λg hg=>h.same g (.inr (.inl ⟨b,hg⟩))) (λ_ _=>trivial)⟩,
  S.sr.mono h.mono (λc hc=>⟨trivial,S.sr.nms c hc⟩),S.g.mono (λg hg=>h.same g (.inl hg)) (λ_ h=>h),
  hI.mono _ _ _ _ _ _ S.inv (λ_ h=>h) (λg hg hp=>(hf g hp).2 hg) (λg hg=>j4 (S.hr.stlt g hg) h.size) (λg hg=>h.same g (hg.elim .inl (λq=>.inr (.inr q)))) h.size h.os h.tape h.output,S.dis⟩
 obtain⟨q1,q2,q3⟩:=S.hr.lt b g hb;exact⟨q1,j4 q2 h.size,q3⟩
structure Pg (C:Cfg) (Γ:Ctx) (H:List Blk) (w:World) (Φ:Nat->Prop) (Γ':Ctx) (H':List Blk) (w':World) (Φ':Nat->Prop):Prop where
 os:w'.os=w.os
 tape:w'.tape=w.tape
 output:w'.output=w.output
 size:w.heap.size<=w'.heap.size
 sub:∀g,Γ.St g->Γ'.St g
 own:∀b g,Γ'.nm b=some g->(b<H.length/\Γ.nm b=some g)\/w.heap.size<=g
 foot:∀g,Φ' g->Φ g\/w.heap.size<=g
 yv:Γ'.yv=Γ.yv
 len:H.length<=H'.length
 keep:∀b,b<H.length->Mh C (A5 H b)->Γ'.nm b=Γ.nm b/\A5 H' b=A5 H b/\∀g,Γ.nm b=some g->w'.shape? g=w.shape? g
theorem Stp.pg(h:Stp C Γ H w Φ Γ' H' w' Φ'):Pg C Γ H w Φ Γ' H' w' Φ':=⟨h.os,h.tape,h.output,h.size,h.sub,h.own,h.foot,h.yv,h.len,h.keep⟩
theorem Pg.trans{Γ'':Ctx}{H'':List Blk}{w'':World}{Φ'':Nat->Prop}(h:Pg C Γ H w Φ Γ' H' w' Φ')(k:Pg C Γ' H' w' Φ' Γ'' H'' w'' Φ''):Pg C Γ H w Φ Γ'' H'' w'' Φ'':=by
 have h1:=h.size;refine⟨k.os.trans h.os,k.tape.trans h.tape,k.output.trans h.output,p4 h.size k.size,λg hg=>k.sub g (h.sub g hg),λb g hb=>?_,λg hg=>?_,k.yv.trans h.yv,p4 h.len k.len,λb hb hf=>?_⟩
 ·rcases k.own b g hb with⟨_,q⟩|q
  ·exact h.own b g q
  ·exact .inr (by omega)
 ·rcases k.foot g hg with q|q
  ·exact h.foot g q
  ·exact .inr (by omega)
 ·obtain⟨k1,k2,k3⟩:=h.keep b hb hf;have h2:=h.len;obtain⟨m1,m2,m3⟩:=k.keep b (by omega) (by rw[k2];exact hf);exact⟨m1.trans k1,m2.trans k2,λg hg=>(m3 g (k1.trans hg)).trans (k3 g hg)⟩
theorem Pg.off(hH:HR Γ H w)(h:Vu Γ Φ w w'):Pg C Γ H w Φ Γ H w' Φ:=
 ⟨h.os,h.tape,h.output,h.size,λ_ h=>h,λb g hb=>.inl ⟨(hH.lt b g hb).1,hb⟩,λ_ h=>.inl h,rfl,j7 _,λb hb _=>⟨rfl,rfl,λg hg=>F2 (h.same g (.inr (.inl ⟨b,hg⟩)))⟩⟩
theorem Pg.wideSt{St':Nat->Prop}(hH:HR Γ H w)(hs:∀g,Γ.St g->St' g):Pg C Γ H w Φ { Γ with St:=St' } H w Φ:=
 ⟨rfl,rfl,rfl,j7 _,hs,λb g hb=>.inl ⟨(hH.lt b g hb).1,hb⟩,λ_ h=>.inl h,rfl,j7 _,λ_ _ _=>⟨rfl,rfl,λ_ _=>rfl⟩⟩
theorem Vu.put{l:Nat}{ob:Obj}(h:Off Γ Φ w l):Vu Γ Φ w (w.putObj l ob):=by
 refine⟨λg hg=>j6 ?_,by simp,rfl,rfl,rfl⟩;rintro rfl;rcases hg with q|⟨b,q⟩|q
 ·exact h.2.1 q
 ·exact h.2.2.1 b q
 ·exact h.2.2.2 q
theorem Off.put{g l:Nat}{ob:Obj}(h:Off Γ Φ w g):Off Γ Φ (w.putObj l ob) g:=⟨by simpa using h.1,h.2⟩
theorem Mk.put{n0 l:Nat}{ob:Obj}{rr:Loop}{ds:List Deferred}(h:Mk n0 Γ Φ w ds)(hl:w.heap[l]? = some (.loop rr)):Mk n0 Γ Φ (w.putObj l ob) ds:=by obtain⟨h0,Ds,h1,h2,h3⟩:=h;refine⟨by simpa using h0,Ds,h1,h2,λD hD=>?_⟩;obtain⟨k1,k2,k3⟩:=h3 D hD;refine⟨k1,k2.put,(j6 ?_).trans k3⟩;rintro rfl;rw[k3] at hl;cases hl
def C54(C:Cfg)(I:Z->(Nat->Prop)->(Nat->Prop)->World->Prop)(n0:Nat)(Γ:Ctx)(Φ:Nat->Prop)(H:List Blk)(w:World)(k:Out->St Z->Option R)(r:R)(Q:Exit->Act->World->Prop):Prop:=
 ∀o b c w' Γ' Φ',k o b=some r->Stp C Γ H w Φ Γ' b.hp w' Φ'->SI C I Γ' Φ' b c.tmps w'->Mk n0 Γ' Φ' w' c.defers->Q o.exit' c w'
def WP(C:Cfg)(I:Z->(Nat->Prop)->(Nat->Prop)->World->Prop)(Y:F8)(L:Yh Z)(yv:Value)(c:Code):Prop:=
 ∀{R:Type} {r:R} {b:Option Nat} {n n0:Nat} {Γ:Ctx} {Φ:Nat->Prop} {st:St Z} {a:Act} {w:World} {k:Out->St Z->Option R} {Q:Exit->Act->World->Prop},
  Γ.yv=yv->A9 C Y L c st k=some r->SI C I Γ Φ st a.tmps w->Mk n0 Γ Φ w a.defers->C54 C I n0 Γ Φ st.hp w k r Q->c.wpIn (I2 b) n C.P Q a w
def Mz(fn:FuncId)(tmps:Array Value)(c:Array Tmp)(as b:Code)(D:Nat)(s:LoopState)(p:Option Code):Loop:={ state:=s,pending:=p,fn:=fn,tmps:=tmps,params:=c,assign:=as,body:=b,defers:=D }
def jmp:Out->Code
 | .normal=>.skip
 | .exit id=>.exit id
 | .ret=>.ret
def Di8:Option Out->LoopState
 | none=>.ready
 | some _=>.done
structure RIb (C:Cfg) (I:Z->(Nat->Prop)->(Nat->Prop)->World->Prop) (Γ0:Ctx) (H0:List Blk) (w0:World) (Φ0:Nat->Prop) (sl0:List PV) (tmps:Array Value) (l D:Nat) (rc:LoopState->Option Code->Loop) (x:List Blk × Option Out × Z) (St Φ:Nat->Prop) (w:World) (Γb:Ctx) (Φb:Nat->Prop):Prop where
 si:SI C I Γb Φb { sl:=sl0,hp:=x.1,s:=x.2.2 } tmps w
 pg:Pg C Γ0 H0 w0 Φ0 Γb x.1 w Φb
 st:∀g,Γb.St g->St g
 ph:∀g,Φ g↔Φb g\/(∃b,Γb.nm b=some g)\/g=l\/g=D
 ft:∀g,Φ g->g<w.heap.size/\¬St g
 ol:Off Γb Φb w l
 od:Off Γb Φb w D
 hl:w.heap[l]? = some (.loop (rc (Di8 x.2.1) (x.2.1.map jmp)))
 hd:w.heap[D]? = some (.deferred (some []))
def RI(C:Cfg)(I:Z->(Nat->Prop)->(Nat->Prop)->World->Prop)(c:Ctx)(g:List Blk)(i:World)(e:Nat->Prop)(b:List PV)(tmps:Array Value)(l D:Nat)(h:LoopState->Option Code->Loop):(List Blk × Option Out × Z)->(Nat->Prop)->(Nat->Prop)->World->Prop:=
 λx St Φ w=>∃d f,RIb C I c g i e b tmps l D h x St Φ w d f
theorem D04{k:Ctx}{n:List Blk}{F:World}{m:Nat->Prop}{j:List PV}{l D:Nat}{B:LoopState->Option Code->Loop}(p:HI I):HI (RI C I k n F m j tmps l D B):=by
 refine⟨λx St Φ w ⟨c,d,r⟩=>r.ft,λx St Φ w St' w' ⟨c,d,r⟩ y t u f i v z A=>?_⟩;have inΦ:∀{g},d g\/(∃b,c.nm b=some g)\/g=l\/g=D->Φ g:=fun {g} h=>(r.ph g).2 h
 have O:Vu c d w w':=⟨λg e=>by
  rcases e with q|q|q
  ·exact f g (.inl (r.st g q))
  ·exact f g (.inr (inΦ (.inr (.inl q))))
  ·exact f g (.inr (inΦ (.inl q))),i,v,z,A⟩
 have up:∀{g},Off c d w g->Off c d w' g:=λh=>⟨j4 h.1 i,h.2⟩
 exact⟨c,d,r.si.offW p O,r.pg.trans (Pg.off r.si.hr O),λg e=>y g (r.st g e),r.ph,λg e=>⟨j4 (r.ft g e).1 i,λq=>t g q e⟩,up r.ol,up r.od,
  (f l (.inr (inΦ (.inr (.inr (.inl rfl)))))).trans r.hl,(f D (.inr (inΦ (.inr (.inr (.inr rfl)))))).trans r.hd⟩
end
section
variable {Z R : Type} {r : R} {C : Cfg} {I : Z -> (Nat -> Prop) -> (Nat -> Prop) -> World -> Prop} {L Γ' : Ctx} {U Y : Nat -> Prop} {W : St Z} {a : Act} {w w' : World} {K : F8} {J : Yh Z} {Q : Value} {H H' : List Blk} {O : Array Value}
theorem PJ(x:Blk):(Kl x).nms=[]:=by
 cases x with
 | box cells=>
  simp only[Kl,Blk.nms];rw[o9];intro c b;obtain⟨j,d,b⟩:=C0.1 b;simp[PV.nms] at b
 | _=>rfl
theorem PK(x:Blk):(Kl x).shp=x.shp:=by cases x<;>rfl
theorem Ck4{sh u:Nat->Option Shp}{b y:Nat}{x:Blk}(h:BR L sh w b x)(k:Γ'.nm y=L.nm b)(t:∀g,L.St g->w'.heap[g]? = w.heap[g]?)(n:∀g,L.St g->Γ'.St g)(c:∀g,L.nm b=some g->w'.heap[g]? = w.heap[g]?):BR Γ' u w' y (Kl x):=by
 cases x with
 | arr v e M A=>
  rcases h with h|⟨F,g,f,d,l,m,q,D⟩
  ·exact .inl h
  ·refine .inr ⟨F,g,f,by rw[k];exact d,by rw[c g d];exact l,m,q,λi h j B=>?_⟩;obtain⟨V,o,z⟩:=D i h j B;exact⟨V,o,z.mono t n⟩
 | box cells=>
  obtain⟨g,f,e,d,l,m,q⟩:=h;refine⟨g,f,e,by rw[k];exact d,by rw[c g d];exact l,by simpa using m,λj h=>?_⟩;obtain⟨V,o,_⟩:=q j (by simpa using h);exact⟨V,o,by rw[j1];exact .bad V⟩
 | iter s p=>
  obtain⟨g,G,d,l,m⟩:=h;exact⟨g,G,by rw[k];exact d,by rw[c g d];exact l,m⟩
 | dead=>trivial
end
section
variable {Z R : Type} {r : R} {C : Cfg} {I : Z -> (Nat -> Prop) -> (Nat -> Prop) -> World -> Prop} {Y : Ctx} {W : Nat -> Prop} {Q : St Z} {a : Act} {w : World} {J : F8} {K : Yh Z} {O : Value} {o : Oper} {H : List Blk}
theorem Af2(d:HR Y H w){L:Nat}(e:L<=H.length):Ah Y (A5 H) w (Y.cut L) (A5 (H.take L)) w (· < L):=
 ⟨λ_ _=>rfl,λ_ h=>.inl h,λb c=>by simp only[Ctx.cut];rw[if_pos c],λb c=>by simp only[A5,aa8];rw[if_pos c],λ_ _ _ _=>rfl,rfl⟩
theorem Cl4(d:HR Y H w){L:Nat}(v:L<=H.length)(j:B39 L (H.take L)=true):HR (Y.cut L) (H.take L) w:=by
 have f:=QO j;have t:(H.take L).length=L:=by rw[ac7];omega
 have key:∀b g,(Y.cut L).nm b=some g->b<L/\Y.nm b=some g:=λb g h=>by
  simp only[Ctx.cut] at h;grind
 refine⟨λb k g n l=>d.inj b k g (key b g n).2 (key k g l).2,λb g h=>?_,λg i=>?_,λb p c q=>?_,λb p=>?_⟩
 ·obtain⟨n,l⟩:=key b g h;have:=d.lt b g l;refine⟨by omega,this.2.1,?_⟩;rintro(u|⟨k,u,h4⟩)
  ·grind
  ·have:=d.inj b k g l h4;omega
 ·rcases i with i|⟨b,_,i⟩
  ·exact d.stlt g i
  ·exact(d.lt b g i).2.1
 ·grind
 ·have m:b<L:=by omega
  have e:(H.take L)[b]=H[b]'(by omega):=List.getElem_take;rw[e];have M:=Af2 d v;exact(d.blk b (by omega)).mono M (M.nm b m) (λ_ _=>rfl) (λc q=>f _ (b9 p) c (by rw[e];exact q))
theorem Bw4(M:HR Y H w){L b:Nat}(S:¬b<L){v:PV}{V:Value}(y:v = .fl b\/∃i n,v = .vw b i n)(h:VP Y (A5 H) w v V):VP (Y.cut L) (A5 (H.take L)) w (v.snap H) V/\(v.snap H).nms=[]:=by
 rcases y with rfl|⟨i,n,rfl⟩
 ·cases h with
  | flv _ e p h=>
   obtain⟨x,j,t⟩:∃x,H[b]? = some x/\x.shp = .arr true e p 0:=by simpa[A5] using h
   cases x<;>simp[Blk.shp] at t
   rename_i k z q c;obtain⟨rfl,rfl,rfl,A⟩:=t;subst A;simp only[PV.snap,j];exact⟨.s _ _ (.nil _ _),rfl⟩
  | fl _ g v e p n cap h y u d B t=>
   obtain⟨x,j,f⟩:∃x,H[b]? = some x/\x.shp = .arr v e p n:=by simpa[A5] using h
   cases x<;>simp[Blk.shp] at f
   rename_i k z q c;obtain⟨rfl,rfl,rfl,rfl⟩:=f;have l:¬(k=true/\c=[]):=by rintro⟨F,G⟩;exact y F (by rw[G];rfl)
   have D:(k&&c.isEmpty)=false:=by cases k<;>simp_all
   simp only[PV.snap,j,D];have:=ZB (i:=0) (n:=c.length) (a:=⟨g,0,none⟩) (cap:=cap) M j l u (by omega) (λ_=>by simp) d B (St':=(Y.cut L).St) (λ_ h=>aa9 h) (.inr ⟨b,by omega,u⟩);simp only[ac3,af4] at this;exact⟨.s _ _ this,rfl⟩
 ·cases h with
  | vwv _ e p _ h=>
   obtain⟨x,j,t⟩:∃x,H[b]? = some x/\x.shp = .arr true e p 0:=by simpa[A5] using h
   cases x<;>simp[Blk.shp] at t
   rename_i k z q c;obtain⟨rfl,rfl,rfl,A⟩:=t;subst A;simp only[PV.snap,j,ag6,ag8];exact⟨.s _ _ (.nil _ _),rfl⟩
  | vw _ _ _ g a cap v e p m h y u N P d B=>
   obtain⟨x,j,f⟩:∃x,H[b]? = some x/\x.shp = .arr v e p m:=by simpa[A5] using h
   cases x<;>simp[Blk.shp] at f
   rename_i k z q c;obtain⟨rfl,rfl,rfl,rfl⟩:=f;have l:¬(k=true/\c=[]):=by rintro⟨F,G⟩;exact y F (by rw[G];rfl)
   have D:(k&&c.isEmpty)=false:=by cases k<;>simp_all
   simp only[PV.snap,j,D];exact⟨.s _ _ (ZB M j l u P N d B (λ_ h=>aa9 h) (.inr ⟨b,by omega,u⟩)),rfl⟩
theorem XV(f:HR Y H w){L:Nat}(g:L<=H.length){v:PV}{V:Value}(h:VP Y (A5 H) w v V):VP (Y.cut L) (A5 (H.take L)) w (v.low H L) V/\∀c∈(v.low H L).nms,c<L:=by
 have M:=Af2 f g;have d:(∀c∈v.nms,c<L)->VP (Y.cut L) (A5 (H.take L)) w v V:=λj=>h.mono M j
 unfold PV.low;split
 ·rename_i b;split
  ·rename_i e;exact⟨d (by simpa[PV.nms] using e),by simpa[PV.nms] using e⟩
  ·rename_i e;obtain⟨k,l⟩:=Bw4 f e (.inl rfl) h;grind
 ·rename_i b i n;split
  ·rename_i e;exact⟨d (by simpa[PV.nms] using e),by simpa[PV.nms] using e⟩
  ·rename_i e;obtain⟨k,l⟩:=Bw4 f e (.inr ⟨i,n,rfl⟩) h;grind
 ·exact⟨d (by simp[PV.nms]),by simp[PV.nms]⟩
 ·exact⟨d (by simp[PV.nms]),by simp[PV.nms]⟩
 ·exact⟨d (by simp[PV.nms]),by simp[PV.nms]⟩
 ·split
  ·rename_i e;exact⟨d (by simpa[PV.nms] using e),by simpa[PV.nms] using e⟩
  ·exact⟨.bad _,by simp[PV.nms]⟩
 ·split
  ·rename_i e;exact⟨d (by simpa[PV.nms] using e),by simpa[PV.nms] using e⟩
  ·exact⟨.bad _,by simp[PV.nms]⟩
 ·split
  ·grind
  ·exact⟨.bad _,by simp[PV.nms]⟩
def Sub(Y Γ':Ctx):Prop:=(∀g,Γ'.St g->Y.St g\/∃b,Y.nm b=some g)/\∀b g,Γ'.nm b=some g->Y.nm b=some g
theorem Mk.sub{n0:Nat}{Γ':Ctx}{ds:List Deferred}(h:Mk n0 Y W w ds)(s:Sub Y Γ'):Mk n0 Γ' W w ds:=by
 obtain⟨h0,Ds,h1,h2,h3⟩:=h;refine⟨h0,Ds,h1,h2,λD hD=>?_⟩;obtain⟨k1,k2,k3⟩:=h3 D hD;refine⟨k1,⟨k2.1,λq=>?_,λb q=>k2.2.2.1 b (s.2 b D q),k2.2.2.2⟩,k3⟩;rcases s.1 D q with q|⟨b,q⟩
 ·exact k2.2.1 q
 ·exact k2.2.2.1 b q
theorem Ze{v:List Blk}{p:Ctx}{F:World}{t:Nat->Prop}{L:Nat}(G:HI I)(S:SI C I Y W Q a.tmps w)(h:Stp C p v F t Y Q.hp w W)(y:v.length<=L)(x:L<=Q.hp.length):∃ Γ',SI C I Γ' W (Y6 L Q) a.tmps w/\Stp C p v F t Γ' (Y6 L Q).hp w W/\Sub Y Γ':=by
 unfold Y6;split
 ·rename_i n;have m:(Q.hp.take L).length=L:=by rw[ac7];omega
  have N:=Cl4 S.hr x n;have l:∀b g,(Y.cut L).nm b=some g->Y.nm b=some g:=λb g h=>by
   simp only[Ctx.cut] at h;all_goals grind
  have f:∀g,(Y.cut L).St g->Y.St g\/(F.heap.size<=g/\¬W g):=λg d=>by
   rcases d with d|⟨b,M,d⟩
   ·grind
   ·refine .inr ⟨?_,S.dis b g d⟩;rcases h.own b g d with⟨q,_⟩|q
    all_goals omega
  have A:=G.foot _ _ _ _ S.inv;refine⟨Y.cut L,⟨N,⟨by simpa using S.sr.size,λc u=>?_,λi T=>?_⟩,S.g.mono (λ_ _=>rfl) (λ_ h=>aa9 h),?_,λb g d=>S.dis b g (l b g d)⟩,
   ⟨h.os,h.tape,h.output,h.size,λg d=>aa9 (h.sub g d),λg d=>?_,λb g d=>h.own b g (l b g d),h.foot,h.frame,h.yv,by rw[m];exact y,λb M P=>?_⟩,λg d=>d.elim .inl (λ⟨b,_,q⟩=>.inr ⟨b,q⟩),l⟩
  ·obtain⟨j,V,u⟩:=C0.1 u;have D:j<Q.sl.length:=by simpa using V
   obtain⟨U,e,k⟩:=S.sr.slot j D;rw[j1] at u;have:=(XV S.hr x k).2 c u;grind
  ·have B:i<Q.sl.length:=by simpa using T
   obtain⟨U,e,k⟩:=S.sr.slot i B;exact⟨U,e,by rw[j1];exact(XV S.hr x k).1⟩
  ·refine G.mono _ _ _ _ _ _ S.inv (λ_ h=>aa9 h) (λg d hp=>?_) (λg d=>N.stlt g d) (λ_ _=>rfl) (j7 _) rfl rfl rfl;all_goals grind
  ·rcases f g d with q|q
   ·exact h.stnew g q
   omega
  ·obtain⟨X,k2,k3⟩:=h.keep b M P;have z:b<L:=by omega
   refine⟨by simp only[Ctx.cut];rw[if_pos z];exact X,?_,k3⟩;rw[<-k2];simp only[A5,aa8];grind
 ·exact⟨Y,S,h,λ_ h=>.inl h,λ_ _ h=>h⟩
theorem At0{d:List Blk}{b:Ctx}{e:World}{c:Nat->Prop}(f:HI I)(S:SI C I Y W Q a.tmps w)(h:Stp C b d e c Y Q.hp w W):∃ Γ',SI C I Γ' W (Y6 d.length Q) a.tmps w/\Stp C b d e c Γ' (Y6 d.length Q).hp w W/\Sub Y Γ':=
 Ze f S h (j7 _) h.len
theorem Xm:∀(g:List Nat) (l:List PV),(Fj g l).length=l.length/\∀i (h:i<(Fj g l).length) (b:i<l.length),(Fj g l)[i]=l[i]\/(Fj g l)[i] = .bad
 | g,[]=>by
  have e:Fj g []=[]:=by unfold Fj;rfl
  grind
 | [],v::l=>by
  obtain⟨c,d⟩:=Xm [] l;refine⟨by simp[Fj,c],λi h b=>?_⟩;cases i with
  | zero=>exact .inr rfl
  | succ i=>
   have:=d i (by simpa[Fj] using h) (by simpa using b);simpa[Fj] using this
 | 0::g,v::l=>by
  obtain⟨c,d⟩:=Xm g l;refine⟨by simp[Fj,c],λi h b=>?_⟩;cases i with
  | zero=>exact .inl rfl
  | succ i=>
   have:=d i (by simpa[Fj] using h) (by simpa using b);simpa[Fj] using this
 | (n+1)::g,v::l=>by
  obtain⟨c,d⟩:=Xm (n::g) l;refine⟨by simp[Fj,c],λi h b=>?_⟩;cases i with
  | zero=>exact .inr rfl
  | succ i=>
   have:=d i (by simpa[Fj] using h) (by simpa using b);simpa[Fj] using this
theorem Bu4{sl:List PV}{b:Array Value}(g:List Nat)(h:SR Y H w sl b):SR Y H w (Fj g sl) b:=by
 obtain⟨l,m⟩:=Xm g sl;refine⟨by rw[l];exact h.size,λc d=>?_,λi n=>?_⟩
 ·obtain⟨j,p,d⟩:=C0.1 d;have k:j<sl.length:=by rw[<-l];exact p
  rcases m j p k with e|e
  ·rw[e] at d;exact h.nms c (C0.2 ⟨j,k,d⟩)
  ·rw[e] at d;simp[PV.nms] at d
 ·have f:i<sl.length:=by rw[<-l];exact n
  obtain⟨V,q,t⟩:=h.slot i f;refine⟨V,q,?_⟩;rcases m i n f with e|e
  ·grind
  ·rw[e];exact .bad V
theorem Gd(ds:Option (List Nat))(Q:St Z):(Mj ds Q).hp=Q.hp:=by cases ds<;>rfl
theorem Gc(S:SI C I Y W Q a.tmps w)(ds:Option (List Nat)):SI C I Y W (Mj ds Q) a.tmps w:=by
 cases ds with
 | none=>exact S
 | some g=>exact⟨S.hr,Bu4 g S.sr,S.g,S.inv,S.dis⟩
theorem GK:∀(l:List Nat) (m:Nat),m<=Bk5 l m
 | [],m=>j7 _
 | b::r,m=>by
  simp only[Bk5];cases h:w9 m b with
  | true=>exact p4 (Nat.le_succ_of_le (ad5 h)) (GK r (b+1))
  | false=>exact GK r m
theorem Bx5:∀(l:List Blk) (m:Nat),m<=Cc5 l m
 | [],m=>j7 _
 | b::r,m=>p4 (GK _ _) (Bx5 r _)
theorem Sk{d:List Blk}{b:Ctx}{f:World}{c:Nat->Prop}(i:HI I)(S:SI C I Y W Q a.tmps w)(h:Stp C b d f c Y Q.hp w W)(ds:Option (List Nat)){L:Nat}(j:d.length<=L):∃ Γ',SI C I Γ' W (Wv ds L Q) a.tmps w/\Stp C b d f c Γ' (Wv ds L Q).hp w W:=by
 cases ds with
 | none=>exact⟨Y,S,h⟩
 | some g=>
  have e:SI C I Y W ({ sl:=Fj g Q.sl,hp:=Q.hp,s:=Q.s }:St Z) a.tmps w:=⟨S.hr,Bu4 g S.sr,S.g,S.inv,S.dis⟩
  simp only[Wv,D27,Cy6];cases k:w9 (Cc5 Q.hp (Bk5 (C6 (Fj g Q.sl)) L)+1) Q.hp.length with
  | false=>exact⟨Y,e,h⟩
  | true=>
   have:=ad5 k;obtain⟨Γ',l,m,_⟩:=Ze (L:=Cc5 Q.hp (Bk5 (C6 (Fj g Q.sl)) L)) i e h (p4 j (p4 (GK _ _) (Bx5 _ _))) (by show Cc5 Q.hp _<=Q.hp.length;omega);grind
theorem Cz0{d:Array Value}(y:HI I)(S:SI C I Y W Q d w){L:Nat}(t:L<=Q.hp.length):∃ Γ',SI C I Γ' W (Y6 L Q) d w/\(∀g,Y.St g->Γ'.St g)/\(∀g,Γ'.St g->Y.St g\/∃b,L<=b/\Y.nm b=some g)/\
  (∀b g,Γ'.nm b=some g->Y.nm b=some g)/\Γ'.yv=Y.yv/\(∀b,b<L->Γ'.nm b=Y.nm b/\A5 (Y6 L Q).hp b=A5 Q.hp b)/\L<=(Y6 L Q).hp.length:=by
 unfold Y6;split
 ·rename_i n;have m:(Q.hp.take L).length=L:=by rw[ac7];omega
  have B:=Cl4 S.hr t n;have p:∀b g,(Y.cut L).nm b=some g->Y.nm b=some g:=λb g h=>by
   simp only[Ctx.cut] at h;grind
  have f:=y.foot _ _ _ _ S.inv;refine⟨Y.cut L,⟨B,⟨by simpa using S.sr.size,λc u=>?_,λi D=>?_⟩,S.g.mono (λ_ _=>rfl) (λ_ h=>aa9 h),?_,λb g l=>S.dis b g (p b g l)⟩,
   λ_ h=>aa9 h,λ_ h=>h,p,rfl,λb z=>⟨by simp only[Ctx.cut];rw[if_pos z],?_⟩,by rw[m];exact j7 _⟩
  ·obtain⟨j,F,u⟩:=C0.1 u;have x:j<Q.sl.length:=by simpa using F
   obtain⟨U,e,k⟩:=S.sr.slot j x;rw[j1] at u;have:=(XV S.hr t k).2 c u;show c<(Q.hp.take L).length;omega
  ·have v:i<Q.sl.length:=by simpa using D
   obtain⟨U,e,k⟩:=S.sr.slot i v;exact⟨U,e,by rw[j1];exact(XV S.hr t k).1⟩
  ·refine y.mono _ _ _ _ _ _ S.inv (λ_ h=>aa9 h) (λg l A=>?_) (λg l=>B.stlt g l) (λ_ _=>rfl) (j7 _) rfl rfl rfl;rcases l with q|⟨b,_,q⟩
   ·exact(f g A).2 q
   ·exact S.dis b g q A
  ·simp only[A5,aa8];rw[if_pos z]
 ·exact⟨Y,S,λ_ h=>h,λ_ h=>.inl h,λ_ _ h=>h,rfl,λ_ _=>⟨rfl,rfl⟩,t⟩
end
section
variable {Z R : Type} {r : R} {C : Cfg} {I : Z -> (Nat -> Prop) -> (Nat -> Prop) -> World -> Prop} {Γ Γ' : Ctx} {K O : Nat -> Prop} {Y : St Z} {a : Act} {w w' : World} {J : F8} {W : Yh Z} {L : Value} {H H' : List Blk} {tmps : Array Value}
theorem Cy3{sh b:Nat->Option Shp}{v:PV}{V:Value}(h:v.sv?.isSome=true)(c:VP Γ sh w v V)(d:∀g,Γ.St g->Γ'.St g):VP Γ' b w v V/\v.nms=[]:=by
 cases v<;>simp[PV.sv?] at h
 ·exact⟨.s _ _ (c.inv_s.mono (λ_ _=>rfl) d),rfl⟩
 ·rw[c.inv_nsl];exact⟨.nsl,rfl⟩
theorem ZW:∀{l:List PV} {c:List SV},Sg l=some c->∀v∈l,v.sv?.isSome=true
 | [],_,_,v,b=>by simp at b
 | x::l,c,h,v,b=>by
  simp only[Sg] at h;split at h
  ·rename_i p q d e;rcases p9.1 b with rfl|b
   ·rw[d];rfl
   ·exact ZW e v b
  ·cases h
theorem RS{sh sh':Nat->Option Shp}(n:∀g,Γ.St g->Γ'.St g):∀{args:List PV},Kf args=true->∀v∈args,v.nms=[]/\∀V,VP Γ sh w v V->VP Γ' sh' w v V
 | [],_,v,f=>by simp at f
 | x::r,h,v,f=>by
  have key:(x.nms=[]/\∀V,VP Γ sh w x V->VP Γ' sh' w x V)/\Kf r=true:=by
   unfold Kf at h;split at h
   ·rename_i d;cases d
   ·rename_i d;cases d;exact⟨⟨rfl,λV hV=>(Cy3 (Γ:=Γ) (Γ':=Γ') rfl hV n).1⟩,h⟩
   ·rename_i l p d;cases d;simp only[c9,p5] at h;obtain⟨⟨q,i⟩,h⟩:=h;refine⟨⟨?_,λV hV=>?_⟩,h⟩
    ·simp only[PV.nms];rw[o9];intro c b;obtain⟨j,m,b⟩:=C0.1 b;have o:=ZW i _ (b9 m);generalize l[j]=u at o b;cases u<;>simp[PV.sv?] at o<;>simp[PV.nms] at b
    ·obtain⟨A,rfl,hA,b⟩:=hV.inv_agg;refine VP.mk_agg hA λj m=>?_
     obtain⟨U,e,k⟩:=b j m;exact⟨U,e,(Cy3 (ZW i _ (b9 m)) k n).1⟩
   ·cases h
  rcases p9.1 f with rfl|f
  ·exact key.1
  ·exact RS n key.2 v f
theorem Yu:∀(c:List Nat) (b:List PV) (d:List Value) {sl:List PV} {tmps:Array Value},SR Γ H w sl tmps->b.length=d.length->(∀j (h:j<b.length),∃U,d[j]? = some U/\VP Γ (A5 H) w (b[j]) U)->(∀v∈b,v.nms=[])->
  SR Γ H w (Li sl c b) ((c.zip d).foldl (λt (p:Nat × Value)=>t.setIfInBounds p.1 p.2) tmps)
 | [],b,d,sl,tmps,h,_,_,_=>by cases b<;>exact h
 | t::c,[],[],sl,tmps,h,_,_,_=>h
 | t::c,[],_::_,_,_,_,f,_,_=>by simp at f
 | t::c,_::_,[],_,_,_,f,_,_=>by simp at f
 | t::c,v::b,V::d,sl,tmps,h,f,g,i=>by
  have l:VP Γ (A5 H) w v V:=by
   obtain⟨U,e,k⟩:=g 0 (by simp);simp only[ac6,b8] at e;subst e;exact k
  have m:=h.put (ds:=[]) ({ op:=.move (.const undef),dst:=some t,guard:=none,type:=0,after:=#[],pos:=default }:Oper) l (by rw[i v (by simp)];simp);have n:SR Γ H w (sl.set t v) (tmps.setIfInBounds t V):=m;exact Yu c b d n (by simpa using f) (λj o=>by
   obtain⟨U,e,k⟩:=g (j+1) (by simpa using o);exact⟨U,by simpa using e,by simpa using k⟩) (λv q=>i v (by simp[q]))
theorem Co1(o:Out):((Dj o).map jmp).isNone=(Dj o).isNone:=by cases o<;>rfl
theorem D05{Γ0:Ctx}{H0:List Blk}{w0:World}{Φ0:Nat->Prop}{S:List PV}{l D fn:Nat}{ps:Array Tmp}{as body:Code}(hI:HI I)(d3:Γ0.yv=L)(e5:WP C I J W L as)(e6:WP C I J W L body)
  (a7:∀c∈C6 S,c<H0.length/\Mh C (A5 H0 c)) :
  Ay0 C.P (RI C I Γ0 H0 w0 Φ0 S tmps l D (Mz fn tmps ps as body D)) (Ka ps S (λY k=>A9 C J W as Y k) (λY k=>A9 C J W body Y k)) (.func (.yield l) #[] #[]):=by
 intro args x b x' a3 f5 Γ K w Vs ⟨Γb,V,r⟩ f2 hc;obtain⟨H,d4,s1⟩:=x;unfold Ka at a3;cases d4 with
 | some o=>simp at a3
 | none=>
 dsimp only at a3;split at a3
 case isFalse=>cases a3
 rename_i f4;have c8:(do let d <-j9 (.func (.yield l) #[] #[]) Vs;invoke d.target d.args:Sem Next).run C.P w=(Instr.yield l Vs).run C.P w:=by simp[j9,invoke]
 have f6:Vs.size=(Mz fn tmps ps as body D .ready none).params.size:=by rw[hc.1,f4];rfl
 have b1:=r.hd;have b3:w.heap[l]? = some (.loop (Mz fn tmps ps as body D .ready none)):=r.hl;intro ro n o a next Q b4
 rw[c8,run_yield b3 f6,Oper.uponIn_round];refine⟨λh=>(by simp[I2,ab5] at h),roundIn_of_wpIn trivial ?_⟩;have inΦ:∀{g},V g\/(∃b,Γb.nm b=some g)\/g=l\/g=D->K g:=fun {g} h=>(r.ph g).2 h
 have B:∀{g},K g->¬ Γ.St g:=fun {g} h=>(r.ft g h).2
 let ΓB:Ctx:={ Γb with St:=Γ.St }
 have SB:SI C I ΓB V { sl:=S,hp:=H,s:=s1 } tmps w:=r.si.wideSt hI r.st (λg f hp=>B (inΦ (.inl hp)) f) (λb g f hs=>B (inΦ (.inr (.inl ⟨b,f⟩))) hs) f2;have a4:=RS (Γ:=Γ) (Γ':=ΓB) (sh:=λ_=>none) (sh':=A5 H) (w:=w) (λ_ h=>h) f5;have e4:=Yu ps.toList args Vs.toList SB.sr (by rw[ab9];exact hc.1.symm) (λj hj=>by
  obtain⟨U,e,k⟩:=hc.2 j hj;exact⟨U,by simpa using e,(a4 _ (b9 hj)).2 U k⟩) (λv hv=>(a4 v hv).1)
 have b2:(ps.zip Vs).foldl (λtmps (t,a)=>tmps.setIfInBounds t a) tmps=(ps.toList.zip Vs.toList).foldl (λt (p:Nat × Value)=>t.setIfInBounds p.1 p.2) tmps:=by
  rw[<-Array.foldl_toList,Array.toList_zip]
 have SA:SI C I ΓB V { sl:=Li S ps.toList args,hp:=H,s:=s1 } ((ps.zip Vs).foldl (λtmps (t,a)=>tmps.setIfInBounds t a) tmps) w:=⟨SB.hr,by rw[b2];exact e4,SB.g,SB.inv,SB.dis⟩
 have a9:ΓB.yv=L:=r.pg.yv.trans d3;have g0:Off ΓB V w l:=⟨r.ol.1,B (inΦ (.inr (.inr (.inl rfl)))),r.ol.2.2⟩
 have f9:Off ΓB V w D:=⟨r.od.1,B (inΦ (.inr (.inr (.inr rfl)))),r.od.2.2⟩
 have e9:=hI.foot _ _ _ _ SA.inv;refine e5 (n0:=0) (a:={ tmps:=(ps.zip Vs).foldl (λtmps (t,a)=>tmps.setIfInBounds t a) tmps,defers:=[] }) a9 a3 SA (Mk.nil (Nat.zero_le _)) ?_;intro o1 g1 a1 w1 Γ1 Φ1 h1 i S1 f3;cases o1 with
 | exit id=>cases h1
 | ret=>cases h1
 | normal=>
 dsimp only at h1;obtain⟨b6,d8⟩:=g0.step i;obtain⟨f7,d6⟩:=f9.step i;have c6:w1.heap[l]? = some (.loop (Mz fn tmps ps as body D .ready none)):=d8.trans b3;show ∃w₂,(Instr.beginRound l).run C.P w1 = .ok () w₂/\body.wpIn (I2 (some l)) (n-1) C.P (roundPost C.P l _) a1 w₂;refine⟨_,run_beginRound c6 rfl,?_⟩;have O1:Vu Γ1 Φ1 w1 (w1.putObj l (.loop { Mz fn tmps ps as body D .ready none with state:=.busy })):=Vu.put b6;have S2:=S1.offW hI O1;refine e6 (i.yv.trans a9) h1 S2 (f3.put c6) ?_;intro o2 m a2 w3 T u h2 A S3 _;simp only[b8,v7] at h2;obtain⟨rfl,rfl⟩:=h2;obtain⟨b7,d9⟩:=(Off.put (ob:=.loop { Mz fn tmps ps as body D .ready none with state:=.busy }) (l:=l) b6).step A;obtain⟨f8,d7⟩:=(Off.put (ob:=.loop { Mz fn tmps ps as body D .ready none with state:=.busy }) (l:=l) f7).step A;have f0:w3.heap[l]? = some (.loop { Mz fn tmps ps as body D .ready none with state:=.busy }):=d9.trans (ad1 b6.1);have X:=run_endRound (P:=C.P) ((Dj o2).map jmp) f0;have c1:D≠l:=by
  rintro rfl;rw[b3] at b1;cases b1
 obtain⟨F,N⟩:∃F,w3.putObj l (.loop { { Mz fn tmps ps as body D .ready none with state:=.busy } with state:=if ((Dj o2).map jmp).isNone then .ready else .done,pending:=(Dj o2).map jmp })=F:=⟨_,rfl⟩
 rw[N] at X;have O3:Vu T u w3 F:=by rw[<-N];exact Vu.put b7
 have c0:Off T u F l:=by rw[<-N];exact b7.put
 have b5:Off T u F D:=by rw[<-N];exact f8.put
 have S4:=S3.offW hI O3;have c7:H.length<=m.hp.length:=p4 i.len A.len;obtain⟨z,S5,t1,t2,t3,t4,t5,t6⟩:=Cz0 hI S4 c7;have e1:(Y6 H.length m).s=m.s:=by unfold Y6;split<;>rfl
 have y:Pg C ΓB H w V T m.hp F u:=i.pg.trans ((Pg.off S1.hr O1).trans (A.pg.trans (Pg.off S3.hr O3)));have P1:Pg C Γ0 H0 w0 Φ0 T m.hp F u:=r.pg.trans ((Pg.wideSt r.si.hr r.st).trans y);have d0:=i.st SA.hr (λg f=>(e9 g f).2);have d1:=A.st S2.hr (λg f=>(hI.foot _ _ _ _ S2.inv g f).2);have d2:∀g,ΓB.St g->F.heap[g]? = w.heap[g]?:=λg f=>by
  have q1:=i.sub g f;have q2:=A.sub g q1;rw[O3.same g (.inl q2),d1 g q1,O1.same g (.inl q1),d0 g f]
 have a6:=r.pg.len;have G:∀c,c<H0.length/\Mh C (A5 H0 c)->z.nm c=ΓB.nm c/\A5 (Y6 H.length m).hp c=A5 H c/\∀g,ΓB.nm c=some g->F.shape? g=w.shape? g:=λc ⟨c2,c3⟩=>by
  obtain⟨_,k2,_⟩:=r.pg.keep c c2 c3;have c4:c<H.length:=j4 c2 a6;obtain⟨m1,m2,m3⟩:=y.keep c c4 (by rw[k2];exact c3);obtain⟨n1,n2⟩:=t5 c c4;exact⟨n1.trans m1,n2.trans m2,m3⟩
 have M:Ah ΓB (A5 H) w z (A5 (Y6 H.length m).hp) F (λc=>c<H0.length/\Mh C (A5 H0 c)):=
  ⟨d2,λg f=>t1 g (y.sub g f),λb hb=>(G b hb).1,λb hb=>(G b hb).2.1,λb g hb f=>(G b hb).2.2 g f,t4.trans y.yv⟩
 have SF:SI C I z u { sl:=S,hp:=(Y6 H.length m).hp,s:=m.s } tmps F:=
  ⟨S5.hr,SB.sr.mono M (λc hc=>⟨a7 c hc,j4 (a7 c hc).1 (p4 a6 t6)⟩),S5.g,by have:=S5.inv;rw[e1] at this;exact this,S5.dis⟩
 have PF:Pg C Γ0 H0 w0 Φ0 z (Y6 H.length m).hp F u:=⟨P1.os,P1.tape,P1.output,P1.size,λg f=>t1 g (P1.sub g f),λb g hb=>P1.own b g (t3 b g hb),P1.foot,t4.trans P1.yv,p4 a6 t6,λb hb hf=>by
  obtain⟨k1,k2,k3⟩:=P1.keep b hb hf;obtain⟨n1,n2⟩:=t5 b (j4 hb a6);exact⟨n1.trans k1,n2.trans k2,k3⟩⟩
 have a0:∀{g},Off T u F g->Off z u F g:=fun {g} h=>⟨h.1,λq=>by
  rcases t2 g q with q|⟨b,_,q⟩
  ·exact h.2.1 q
  ·exact h.2.2.1 b q,λb q=>h.2.2.1 b (t3 b g q),h.2.2.2⟩
 have f1:F.heap[l]? = some (.loop (Mz fn tmps ps as body D (Di8 (Dj o2)) ((Dj o2).map jmp))):=by
  rw[<-N,ad1 b7.1];cases o2<;>rfl
 have e7:F.heap[D]? = some (.deferred (some [])):=by
  rw[<-N,j6 c1,d7,j6 c1,d6];exact b1
 have e8:=hI.foot _ _ _ _ SF.inv;have RB:RIb C I Γ0 H0 w0 Φ0 S tmps l D (Mz fn tmps ps as body D) ((Y6 H.length m).hp,Dj o2,m.s) z.St (λg=>u g\/(∃b,z.nm b=some g)\/g=l\/g=D) F z u:=by
  refine⟨SF,PF,λ_ h=>h,λ_=>Iff.rfl,λg f=>?_,a0 c0,a0 b5,f1,e7⟩;rcases f with q|⟨b,q⟩|rfl|rfl
  ·exact e8 g q
  ·have:=SF.hr.lt b g q;exact⟨this.2.1,this.2.2⟩
  ·exact⟨c0.1,(a0 c0).2.1⟩
  ·exact⟨b5.1,(a0 b5).2.1⟩
 have a5:=i.size;have e2:∀{g},(w1.putObj l (.loop { Mz fn tmps ps as body D .ready none with state:=.busy })).heap.size<=g->w.heap.size<=g:=fun {g} q=>p4 (p4 a5 O1.size) q
 have e3:∀{g},g<w.heap.size->g<(w1.putObj l (.loop { Mz fn tmps ps as body D .ready none with state:=.busy })).heap.size:=fun {g} q=>j4 q (p4 a5 O1.size)
 have b0:next (a.put o.dst (.bool ((Dj o2).map jmp).isNone)) F:=by
  refine b4 _ _ ⟨by rw[Co1],z.St,_,⟨z,u,RB⟩,λg f=>t1 g (y.sub g f),λg f=>?_,λg f=>?_,λg f hp=>?_,y.size,y.os,y.tape,y.output,SF.hr.stlt⟩
  ·have d5:T.St g->Γ.St g\/w.heap.size<=g:=λq=>by
    rcases A.stnew g q with q|q
    ·exact i.stnew g q
    ·exact .inr (e2 q)
   rcases t2 g f with q|⟨b,hb,q⟩
   ·exact d5 q
   ·rcases A.own b g q with⟨_,q⟩|q
    ·rcases i.own b g q with⟨q',_⟩|q
     ·simp only at q';omega
     ·exact .inr q
    ·exact .inr (e2 q)
  ·rcases f with q|⟨b,q⟩|rfl|rfl
   ·rcases y.foot g q with q|q
    ·exact .inl (inΦ (.inl q))
    ·exact .inr q
   ·rcases y.own b g (t3 b g q) with⟨_,q⟩|q
    ·exact .inl (inΦ (.inr (.inl ⟨b,q⟩)))
    ·exact .inr q
   ·exact .inl (inΦ (.inr (.inr (.inl rfl))))
   ·exact .inl (inΦ (.inr (.inr (.inr rfl))))
  ·have c5:g≠l:=λe=>hp (inΦ (.inr (.inr (.inl e))))
   have n1:∀b,ΓB.nm b≠some g:=λb q=>hp (inΦ (.inr (.inl ⟨b,q⟩)))
   have p1:¬V g:=λq=>hp (inΦ (.inl q))
   have n2:∀b,Γ1.nm b≠some g:=λb q=>by
    rcases i.own b g q with⟨_,q⟩|q
    ·exact n1 b q
    ·omega
   have p2:¬ Φ1 g:=λq=>by
    rcases i.foot g q with q|q
    ·exact p1 q
    ·omega
   rw[<-N,j6 c5,A.frame g (e3 f) n2 p2,j6 c5,i.frame g f n1 p1]
 cases o2 with
 | normal=>exact⟨_,_,X,b0⟩
 | exit id=>exact⟨_,_,X,b0⟩
 | ret=>exact⟨_,_,X,b0⟩
end
section
variable {Z R S : Type} (C : Cfg) (g : R -> Option S)
theorem F5(c:Bool)(k:Option R):(need c k).bind g=need c (k.bind g):=by cases c<;>rfl
theorem D6(b:Bool)(k:Bool->Option R):(Ke b k).bind g=Ke b λt=>(k t).bind g:=by cases b<;>rfl
theorem G5(b:Bool)(x y:Option R):(cond b x y).bind g=cond b (x.bind g) (y.bind g):=by cases b<;>rfl
theorem J4(p:Prop)[Decidable p](x y:Option R):(if p then x else y).bind g=if p then x.bind g else y.bind g:=by split<;>rfl
theorem E8:∀(t:Tr) (k:PV->List Blk->Option R),(Ht t k).bind g=Ht t λv H=>(k v H).bind g
 | .ret v H,k=>rfl
 | .need c t,k=>by cases c;rfl;exact E8 t k
 | .split c a b,k=>by cases c;exact E8 b k;exact E8 a k
 | .fail,_=>rfl
theorem PL(op:BinOp)(t:Nat)(x y:PV)(H:List Blk)(k:PV->Option R):(Ae5 C op t x y H k).bind g=Ae5 C op t x y H λv=>(k v).bind g:=by unfold Ae5;((try dsimp only);(repeat' (first|rfl|split|(simp only[F5,D6,G5,J4,E8,j2,j0]))))
theorem At1(op:UnOp)(x:PV)(k:PV->Option R):(unK op x k).bind g=unK op x λv=>(k v).bind g:=by unfold unK;((try dsimp only);(repeat' (first|rfl|split|(simp only[F5,D6,G5,J4,E8,j2,j0]))))
theorem LI(t:TI)(a:PV)(H:List Blk)(k:PV->Option R):(LH t a H k).bind g=LH t a H λv=>(k v).bind g:=by unfold LH;((try dsimp only);(repeat' (first|rfl|split|(simp only[F5,D6,G5,J4,E8,j2,j0]))))
theorem EY(t:TI)(a v:PV)(H:List Blk)(k:List Blk->Option R):(CV t a v H k).bind g=CV t a v H λv=>(k v).bind g:=by unfold CV;((try dsimp only);(repeat' (first|rfl|split|(simp only[F5,D6,G5,J4,E8,j2,j0]))))
theorem Oc(t:Nat)(x i:PV)(H:List Blk)(k:PV->Option R):(Dd C t x i H k).bind g=Dd C t x i H λv=>(k v).bind g:=by unfold Dd;((try dsimp only);(repeat' (first|rfl|split|(simp only[F5,D6,G5,J4,E8,j2,j0]))))
theorem DX(t:Nat)(x i:PV)(k:PV->Option R):(BT C t x i k).bind g=BT C t x i λv=>(k v).bind g:=by unfold BT;((try dsimp only);(repeat' (first|rfl|split|(simp only[F5,D6,G5,J4,E8,j2,j0]))))
theorem Ar6(t:Nat)(x:PV)(b a c:Option PV)(H:List Blk)(k:PV->Option R):(CT C t x b a c H k).bind g=CT C t x b a c H λv=>(k v).bind g:=by unfold CT;((try dsimp only);(repeat' (first|rfl|split|(simp only[F5,D6,G5,J4,E8,j2,j0]))))
theorem NC(b n:Nat)(c a d:Option PV)(k:PV->Option R):(Gn b n c a d k).bind g=Gn b n c a d λv=>(k v).bind g:=by unfold Gn;((try dsimp only);(repeat' (first|rfl|split|(simp only[F5,D6,G5,J4,E8,j2,j0]))))
theorem VJ(t:Nat)(sl:List PV)(s x:PV)(H:List Blk)(k:PV->List PV->List Blk->Option R):(Qx C t sl s x H k).bind g=Qx C t sl s x H λv a b=>(k v a b).bind g:=by unfold Qx;((try dsimp only);(repeat' (first|rfl|split|(simp only[F5,D6,G5,J4,E8,j2,j0]))))
theorem A16(t:Nat)(d x:PV)(H:List Blk)(k:PV->List Blk->Option R):(PQ C t d x H k).bind g=PQ C t d x H λv a=>(k v a).bind g:=by unfold PQ;((try dsimp only);(repeat' (first|rfl|split|(simp only[F5,D6,G5,J4,E8,j2,j0]))))
theorem A15(b a:Nat)(x:PV)(H:List Blk)(k:PV->Option R):(PP C b a x H k).bind g=PP C b a x H λv=>(k v).bind g:=by unfold PP;((try dsimp only);(repeat' (first|rfl|split|(simp only[F5,D6,G5,J4,E8,j2,j0]))))
theorem Ae6(b a:Nat)(x:PV)(k:PV->Option R):(AV C b a x k).bind g=AV C b a x λv=>(k v).bind g:=by unfold AV;((try dsimp only);(repeat' (first|rfl|split|(simp only[F5,D6,G5,J4,E8,j2,j0]))))
theorem B37(x:PV)(t:Nat)(H:List Blk)(k:PV->Option R):(B36 C x t H k).bind g=B36 C x t H λv=>(k v).bind g:=by unfold B36;((try dsimp only);(repeat' (first|rfl|split|(simp only[F5,D6,G5,J4,E8,j2,j0]))))
theorem DI(t:Nat)(parts:List (Nat × PV))(k:PV->Option R):(AU C t parts k).bind g=AU C t parts λv=>(k v).bind g:=by unfold AU;((try dsimp only);(repeat' (first|rfl|split|(simp only[F5,D6,G5,J4,E8,j2,j0]))))
theorem Km(t len:Nat)(parts:List (Nat × PV))(H:List Blk)(k:PV->List Blk->Option R):(Bi C t len parts H k).bind g=Bi C t len parts H λv a=>(k v a).bind g:=by unfold Bi;((try dsimp only);(repeat' (first|rfl|split|(simp only[F5,D6,G5,J4,E8,j2,j0]))))
theorem Of(t:Nat)(l c:PV)(H:List Blk)(k:PV->List Blk->Option R):(Dg C t l c H k).bind g=Dg C t l c H λv a=>(k v a).bind g:=by unfold Dg;((try dsimp only);(repeat' (first|rfl|split|(simp only[F5,D6,G5,J4,E8,j2,j0]))))
theorem Xn(a:Bool)(l:List PV)(k:PV->Option R):(Ms a l k).bind g=Ms a l λv=>(k v).bind g:=by unfold Ms;((try dsimp only);(repeat' (first|rfl|split|(simp only[F5,D6,G5,J4,E8,j2,j0]))))
theorem Ob(t:Nat)(x:PV)(f:Nat)(k:PV->Option R):(Db C t x f k).bind g=Db C t x f λv=>(k v).bind g:=by unfold Db;((try dsimp only);(repeat' (first|rfl|split|(simp only[F5,D6,G5,J4,E8,j2,j0]))))
theorem DR(t:Nat)(x:PV)(f:Nat)(k:PV->Option R):(BL C t x f k).bind g=BL C t x f λv=>(k v).bind g:=by unfold BL;((try dsimp only);(repeat' (first|rfl|split|(simp only[F5,D6,G5,J4,E8,j2,j0]))))
theorem NR(b:Builtin)(c:List Nat)(args:List PV)(a:St Z)(k:PV->St Z->Option R):(Kn C b c args a k).bind g=Kn C b c args a λv s=>(k v s).bind g:=by
 unfold Kn;split
 ·rw[B37]
 ·split
  ·rw[VJ]
  ·rfl
 ·rw[A16]
 ·rw[Xn]
 ·rw[Xn]
 ·rfl
theorem AT(e:Nat)(cells:List PV)(H:List Blk)(k:PV->List Blk->Option R):(FE C e cells H k).bind g=FE C e cells H λv a=>(k v a).bind g:=by unfold FE;((try dsimp only);(repeat' (first|rfl|split|(simp only[F5,D6,G5,J4,E8,j2,j0]))))
theorem JX(a:F8)(c:Yh Z)(f:Nat)(args:List PV)(b:St Z)(k:PV->St Z->Option R):(Wh C a c f args b k).bind g=Wh C a c f args b λv s=>(k v s).bind g:=by
 unfold Wh;split
 ·split
  ·rw[E8]
   congr 1;funext v H;rw[F5]
  ·rfl
 ·((try dsimp only);(repeat' (first|rfl|split|(simp only[F5,D6,G5,J4,E8,j2,j0]))))
theorem C49(x:Option (Bool × Z))(k:Bool->Z->Option R):(ydK x k).bind g=ydK x λb s=>(k b s).bind g:=by unfold ydK;((try dsimp only);(repeat' (first|rfl|split|(simp only[F5,D6,G5,J4,E8,j2,j0]))))
theorem A13(a:F8)(c:Yh Z)(f:PV)(args:List PV)(b:St Z)(k:PV->St Z->Option R):(DM C a c f args b k).bind g=DM C a c f args b λv s=>(k v s).bind g:=by
 unfold DM;split
 ·rw[JX]
 ·rw[JX]
 ·split
  ·rw[C49]
  ·rfl
 ·rfl
theorem Aj7(a:F8)(c:Yh Z)(o:Oper)(b:St Z)(k:St Z->Option R):(opK C a c o b k).bind g=opK C a c o b λs=>(k s).bind g:=by
 unfold opK;dsimp only;split<;>(first|rfl|(simp only[AT,DI,Km,LI,EY,PL,At1,Of,Ob,DR,Oc,DX];done)|skip)
 all_goals ((try dsimp only);(repeat' (first|rfl|split|(simp only[F5,D6,G5,J4,E8,j2,j0]))));all_goals (first|rfl|skip);all_goals (simp only[NR,A13,AT,DI,Km,LI,EY,PL,At1,Of,Ob,DR,Oc,DX,Ae6,A15,Ar6,NC,F5,D6])
theorem La(e:F8)(f:Yh Z)(all:Array Oper):∀(l:List Oper) (d:St Z) (k:St Z->Option R),(Ba C e f all l d k).bind g=Ba C e f all l d λs=>(k s).bind g
 | [],d,k=>rfl
 | o::a,d,k=>by
  simp only[Ba];have c:=La e f all a;split
  ·rw[Aj7];congr 1;funext s;exact c s k
  ·split
   ·split
    ·rw[D6];congr 1;funext b;split
     ·rw[Aj7];congr 1;funext s;exact c s k
     ·exact c _ k
    ·exact c _ k
    ·rfl
   ·rfl
theorem B91(o:Oper)(sl:List PV)(k:Trn->Option R):(Bf1 C o sl k).bind g=Bf1 C o sl λv=>(k v).bind g:=by
 unfold Bf1
 repeat' (first|rfl|split|rw[F5])
theorem Bk7(d:Option Nat)(t:Trn)(a:St Z)(k:St Z->Option R):(Sr C d t a k).bind g=Sr C d t a λs=>(k s).bind g:=by
 unfold Sr;split
 ·rfl
 ·exact AT C g _ _ _ _
theorem LX(c:F8)(e:Yh Z)(all:Array Oper)(d:Option Nat):∀(l:List Nat) (b:St Z) (k:St Z->Option R),(Og C c e all d l b k).bind g=Og C c e all d l b λs=>(k s).bind g
 | [],b,k=>rfl
 | i::a,b,k=>by
  simp only[Og];rw[La]
  congr 1;funext s
  exact LX c e all d a _ k
theorem B75(b:F8)(c:Yh Z)(id:Nat)(a:Array Oper)(d:Bool)(e:St Z)(k:St Z->Option R):(Bb0 C b c id a d e k).bind g=Bb0 C b c id a d e λs=>(k s).bind g:=by
 unfold Bb0;split
 ·exact La C g b c a _ e k
 ·split
  ·rw[La];congr 1;funext s;rw[B91];congr 1;funext v;rw[LX];congr 1;funext s2;rw[Bk7];congr 1;funext s3;exact La C g b c a _ _ k
  ·rfl
theorem LJ(L:Nat)(ds:Option (List Nat))(b:St Z->(Out->St Z->Option R)->Option R)(a:St Z->(Out->St Z->Option S)->Option S)(d:∀c k,(b c k).bind g=a c λo s=>(k o s).bind g):∀(n:Nat) (c:St Z) (k:Out->St Z->Option R),(C7 L ds b n c k).bind g=C7 L ds a n c λo s=>(k o s).bind g
 | 0,c,k=>rfl
 | n+1,c,k=>by
  simp only[C7];rw[d]
  congr 1;funext o s
  cases o with
  | normal=>exact LJ L ds b a d n _ k
  | exit id=>rfl
  | ret=>rfl
theorem Ym{ps:Array Tmp}{sl0:List PV}{as bd:St Z->(Out->St Z->Option R)->Option R}{as' bd':St Z->(Out->St Z->Option S)->Option S}(b:∀a k,(as a k).bind g=as' a λo s=>(k o s).bind g)(c:∀a k,(bd a k).bind g=bd' a λo s=>(k o s).bind g) :
  ∀(L:List (List PV)) (H:List Blk) (s:Z) (k:Option Out->List Blk->Z->Option R),(Ax ps sl0 as bd L H s k).bind g=Ax ps sl0 as' bd' L H s λp H s=>(k p H s).bind g
 | [],H,s,k=>rfl
 | x::xs,H,s,k=>by
  simp only[Ax];split
  ·rw[b]
   congr 1;funext o st1
   cases o with
   | normal=>
    dsimp only;rw[c]
    congr 1;funext o2 st2
    cases o2 with
    | normal=>exact Ym b c xs _ _ k
    | exit id=>rfl
    | ret=>rfl
   | exit id=>rfl
   | ret=>rfl
  ·rfl
theorem Al0(b:F8)(f:PV)(c:St Z)(d:List PV->Yh (List Blk × Option Out × Z)){sR:List PV->List (List PV)->List Blk->Z->(Option Out->List Blk->Z->Option R)->Option R}{sR':List PV->List (List PV)->List Blk->Z->(Option Out->List Blk->Z->Option S)->Option S}
  (e:∀a L H s k,(sR a L H s k).bind g=sR' a L H s λp H s=>(k p H s).bind g) (k:Out->St Z->Option R):(Uv C b f c d sR k).bind g=Uv C b f c d sR' λo s=>(k o s).bind g:=by
 unfold Uv;split
 ·split
  ·unfold A99;split
   ·split
    ·rw[F5,e];rfl
    ·rfl
   ·rfl
  ·unfold Xy;((try dsimp only);(repeat' (first|rfl|split|(simp only[F5,D6,G5,J4,E8,j2,j0]))))
 ·rfl
end
theorem DQ{Z:Type}(C:Cfg)(h:F8)(n:Yh Z):∀(c:Code) {R S:Type} (g:R->Option S) (e:St Z) (k:Out->St Z->Option R),(A9 C h n c e k).bind g=A9 C h n c e λo s=>(k o s).bind g:=by
 intro c
 induction c with
 | skip=>intros;rfl
 | label l=>intros;rfl
 | region id q d=>intro R S g e k;simp only[A9];rw[B75]
 | seq a b i m=>
  intro R S g e k;simp only[A9];rw[i]
  congr 1;funext o s
  cases o with
  | normal=>exact m g s k
  | exit id=>rfl
  | ret=>rfl
 | cond c a b i m=>
  intro R S g e k;simp only[A9];split
  ·rw[D6];congr 1;funext t;rw[G5,i,m]
  ·rfl
 | block id a p=>
  intro R S g e k;simp only[A9];rw[p]
  congr 1;funext o s
  cases o with
  | normal=>rfl
  | exit j=>dsimp only;split<;>rfl
  | ret=>rfl
 | loop a p=>
  intro R S g e k;simp only[A9];exact LJ g _ _ _ _ (λe k=>p g e k) _ _ _
 | scope a p=>intro R S g e k;simp only[A9];rw[p]
 | exit id=>intros;rfl
 | ret=>intros;rfl
 | rangeFunc f ps a b i m=>
  intro R S g e k;simp only[A9];exact Al0 C g h (opnd C e.sl f) e _ (sR:=λsl0=>Ax ps sl0 (λe k=>A9 C h n a e k) (λe k=>A9 C h n b e k)) (sR':=λsl0=>Ax ps sl0 (λe k=>A9 C h n a e k) (λe k=>A9 C h n b e k))
   (λsl0 L H s k=>Ym (ps:=ps) (sl0:=sl0) g (as:=λe k=>A9 C h n a e k) (bd:=λe k=>A9 C h n b e k) (as':=λe k=>A9 C h n a e k) (bd':=λe k=>A9 C h n b e k) (λe k=>i g e k) (λe k=>m g e k) L H s k) k
 | _=>intros;rfl
theorem KL{Z R:Type}{C:Cfg}{a:F8}{d:Yh Z}{c:Code}{b:St Z}{k:Out->St Z->Option R}{r:R}(h:A9 C a d c b k=some r):∃o s,A9 C a d c b (λo s=>some (o,s))=some (o,s)/\k o s=some r:=by
 have:=DQ C a d c (λp:Out × St Z=>k p.1 p.2) b (λo s=>some (o,s));simp only[j0] at this;rw[<-this] at h;cases e:A9 C a d c b (λo s=>some (o,s)) with
 | none=>rw[e] at h;cases h
 | some p=>rw[e] at h;exact⟨p.1,p.2,rfl,h⟩
theorem PY{Z R:Type}{C:Cfg}{a:F8}{d:Yh Z}{c:Code}{b:St Z}{k:Out->St Z->Option R}{o:Out}{s:St Z}(h:A9 C a d c b (λo s=>some (o,s))=some (o,s)):A9 C a d c b k=k o s:=by have:=DQ C a d c (λp:Out × St Z=>k p.1 p.2) b (λo s=>some (o,s));rw[h] at this;exact this.symm
def Ctx.hide(Γ:Ctx)(ns:List Nat):Ctx:={ Γ with nm:=λb=>if b∈ns then none else Γ.nm b }
def Ctx.reyv(Γ:Ctx)(y:Value)(hy:y.oneCell'=true):Ctx:={ Γ with yv:=y,yv1:=hy }
section
variable {Z R : Type} {r : R} {C : Cfg} {I : Z -> (Nat -> Prop) -> (Nat -> Prop) -> World -> Prop} {Γ Γ' : Ctx} {K T : Nat -> Prop} {Y : St Z} {a : Act} {w w' : World} {W : F8} {J : Yh Z} {X : Value} {H H' : List Blk} {N : Array Value}
theorem Nx:∀{l:List PV},yfL l=true->∀v∈l,v.yf=true
 | [],_,v,b=>by simp at b
 | x::r,h,v,b=>by
  simp only[yfL,c9] at h;rcases p9.1 b with rfl|b
  ·exact h.1
  ·exact Nx h.2 v b
theorem VP.reyv{sh:Nat->Option Shp}{y:Value}{hy:y.oneCell'=true}{v:PV}{V:Value}(h:VP Γ sh w v V):v.yf=true->VP (Γ.reyv y hy) sh w v V:=by
 induction h with
 | s v V h=>intro _;exact .s v V h
 | nsl=>intro _;exact .nsl
 | flv b e sz h=>intro _;exact .flv b e sz h
 | fl b g v e sz n cap h hv hg hcap hm hs=>intro _;exact .fl b g v e sz n cap h hv hg hcap hm hs
 | vwv b e sz i h=>intro _;exact .vwv b e sz i h
 | vw b i n g a cap v e sz m h hv hg ha hi hcap hm=>intro _;exact .vw b i n g a cap v e sz m h hv hg ha hi hcap hm
 | ptrA b i off g v e sz n h hg=>intro _;exact .ptrA b i off g v e sz n h hg
 | ptrB b off g h hg=>intro _;exact .ptrB b off g h hg
 | fnr g x y A B As Bs hf hA hB ha hb hx hy ihx ihy=>
  intro hc;simp only[PV.yf,c9] at hc;exact .fnr g x y A B As Bs hf hA hB ha hb (λj h=>ihx j h (Nx hc.1 _ (b9 h))) (λj h=>ihy j h (Nx hc.2 _ (b9 h)))
 | it b g h hg=>intro _;exact .it b g h hg
 | yd=>intro h;simp[PV.yf] at h
 | agg l A As hA ha hl ih=>
  intro hc;simp only[PV.yf] at hc;exact .agg l A As hA ha (λj h=>ih j h (Nx hc _ (b9 h)))
 | tup l A As hA ha hl ih=>
  intro hc;simp only[PV.yf] at hc;exact .tup l A As hA ha (λj h=>ih j h (Nx hc _ (b9 h)))
 | bad V=>intro _;exact .bad V
mutual
theorem PV.yf_rn(f:Nat->Nat):∀v:PV,(v.rn f).yf=v.yf
 | .s _=>rfl
 | .nsl=>rfl
 | .fl b=>rfl
 | .vw b _ _=>rfl
 | .ptr b _ _=>rfl
 | .fnr _ x y=>by simp only[PV.rn,PV.yf,DF f x,DF f y]
 | .it b=>rfl
 | .yd=>rfl
 | .agg l=>by simp only[PV.rn,PV.yf,DF f l]
 | .tup l=>by simp only[PV.rn,PV.yf,DF f l]
 | .bad=>rfl
theorem DF(f:Nat->Nat):∀l:List PV,yfL (rnL f l)=yfL l
 | []=>rfl
 | v::r=>by simp only[rnL,yfL,PV.yf_rn f v,DF f r]
end
theorem Blk.yf_rn(f:Nat->Nat)(x:Blk):(x.rn f).yf=x.yf:=by cases x<;>simp[Blk.rn,Blk.yf,DF]
theorem BR.reyv{sh:Nat->Option Shp}{b:Nat}{x:Blk}{y:Value}{hy:y.oneCell'=true}(h:BR Γ sh w b x)(hx:x.yf=true):BR (Γ.reyv y hy) sh w b x:=by
 cases x with
 | arr v e sz els=>exact h
 | box cells=>
  simp only[Blk.yf] at hx;obtain⟨g,cur,e,h1,h2,h3,h4⟩:=h;refine⟨g,cur,e,h1,h2,h3,λj h=>?_⟩;obtain⟨V,e1,e2⟩:=h4 j h;exact⟨V,e1,e2.reyv (Nx hx _ (b9 h))⟩
 | iter s p=>exact h
 | dead=>exact h
theorem HR.reyv{y:Value}{hy:y.oneCell'=true}(h:HR Γ H w)(hx:∀b (h:b<H.length),(H[b]).yf=true):HR (Γ.reyv y hy) H w:=
 ⟨h.inj,h.lt,h.stlt,h.nms,λb hb=>(h.blk b hb).reyv (hx b hb)⟩
theorem LK:∀(H:List Blk) (n:Nat),∀b (h:b<H.length),(n+b)∈Bn C H n\/Ee C H[b]=true
 | [],n,b,h=>by simp at h
 | x::r,n,0,_=>by
  cases c:Ee C x with
  | true=>exact .inr c
  | false=>exact .inl (by simp[Bn,c])
 | x::r,n,b+1,h=>by
  have:=LK r (n+1) b (by simpa using h);rw[show n+1+b=n+(b+1) by omega] at this;rcases this with q|q
  ·refine .inl ?_;simp only[Bn];cases Ee C x with
   | true=>exact q
   | false=>exact ad7 _ q
  ·exact .inr (by simpa using q)
theorem QH{d:List Nat}(c:∀b,b∉d->A5 H' b=A5 H b):Ah Γ (A5 H) w (Γ.hide d) (A5 H') w (·∉d):=
 ⟨λ_ _=>rfl,λ_ h=>h,λb e=>by simp only[Ctx.hide];rw[if_neg e],c,λ_ _ _ _=>rfl,rfl⟩
theorem C76{f:List Nat}(o:HR Γ H w)(v:f.Nodup)(u:∀b∈f,b<H.length):(N5 f H).length=H.length/\(∀b,b∉f->A5 (N5 f H) b=A5 H b)/\(∀b,b∈f->A5 (N5 f H) b=some .dead)/\HR (Γ.hide f) (N5 f H) w:=by
 obtain⟨i,x,q⟩:=Pr (Γ:=Γ) (sh:=A5 H) (w:=w) f H;obtain⟨A,t⟩:=Jj f (x6 f.length .dead) (R2 f H) v (by simp) (λb d=>by rw[i];exact u b d);have k:(N5 f H).length=H.length:=by rw[N5,A,i]
 have j:∀b,b∉f->(N5 f H)[b]? = (R2 f H)[b]?:=λb d=>by rw[N5,t,if_neg d]
 have l:∀b,b∈f->(N5 f H)[b]? = some .dead:=λb d=>by
  rw[N5,t,if_pos d,List.getElem?_replicate,if_pos (ac1 d)]
 have p:∀b,b∉f->A5 (N5 f H) b=A5 H b:=λb d=>by
  rw[<-x b];simp only[A5,j b d]
 have M:=QH (Γ:=Γ) (H:=H) (w:=w) p;have m:∀b g,(Γ.hide f).nm b=some g->b∉f/\Γ.nm b=some g:=λb g h=>by
  simp only[Ctx.hide] at h;split at h
  ·cases h
  ·exact⟨‹_›,h⟩
 refine⟨k,p,λb d=>by simp only[A5,l b d];rfl,⟨λb B g D F=>o.inj b B g (m b g D).2 (m B g F).2,λb g h=>?_,o.stlt,λb d c n=>?_,λb d=>?_⟩⟩
 ·obtain⟨y,z,G⟩:=o.lt b g (m b g h).2;exact⟨by rw[k];exact y,z,G⟩
 ·rw[k] at d ⊢;by_cases h:b∈f
  ·have:=l b h;rw[a8 (by rw[k];exact d)] at this;simp only[b8] at this;rw[this] at n;simp[Blk.nms] at n
  ·have e:=j b h;rw[a8 (by rw[k];exact d),a8 (by rw[i];exact d)] at e;simp only[b8] at e;rw[e] at n;exact o.nms b d c ((q b (by rw[i];exact d) d).1 c n).2
 ·rw[k] at d;by_cases h:b∈f
  ·have:=l b h;rw[a8 (by rw[k];exact d)] at this;simp only[b8] at this;rw[this];trivial
  ·have e:=j b h;rw[a8 (by rw[k];exact d),a8 (by rw[i];exact d)] at e;simp only[b8] at e;rw[e];obtain⟨y,z⟩:=q b (by rw[i];exact d) d;exact(z b (o.blk b d)).mono M (M.nm b h) (λ_ _=>rfl) (λc n=>(y c n).1)
theorem AR{b:Obj}{g:Nat}(h:g<w.heap.size):(w.alloc b).heap[g]? = w.heap[g]?:=by show(w.heap.push b)[g]? = w.heap[g]?;rw[Array.getElem?_push];rw[if_neg (by omega)]
theorem Sn{v:PV}{V:Value}{sh:Nat->Option Shp}{f:Nat}{first b:List PV}(h:Ro v=some (f,first,b))(i:VP Γ sh w v V):∃A B,V = .func (.func f) A B/\CR Γ sh w first A/\CR Γ sh w b B/\∀c∈C6 (first++b),c∈v.nms:=by
 have g:∀(l:List SV),C6 (l.map PV.s)=[]:=λl=>by
  rw[o9];intro c d;obtain⟨j,k,d⟩:=C0.1 d;simp[PV.nms] at d
 unfold Ro at h;split at h
 ·simp only[b8,v7] at h;obtain⟨rfl,rfl,rfl⟩:=h;obtain⟨A,B,rfl,hA,e⟩:=i.inv_fn';exact⟨A,B,rfl,hA,e,λc d=>by rw[N8,g,g] at d;simp at d⟩
 ·simp only[b8,v7] at h;obtain⟨rfl,rfl,rfl⟩:=h;obtain⟨A,B,rfl,hA,e⟩:=i.inv_fnr';exact⟨A,B,rfl,hA,e,λc d=>by rw[N8] at d;simpa[PV.nms] using d⟩
 ·cases h
theorem VP.ndead{sh:Nat->Option Shp}{v:PV}{V:Value}(h:VP Γ sh w v V):∀c∈v.nms,sh c≠some .dead:=by
 induction h with
 | s v V h=>intro c hc;simp[PV.nms] at hc
 | nsl=>intro c hc;simp[PV.nms] at hc
 | flv b e sz h=>intro c hc;simp[PV.nms] at hc;subst hc;rw[h];simp
 | fl b g v e sz n cap h hv hg hcap hm hs=>intro c hc;simp[PV.nms] at hc;subst hc;rw[h];simp
 | vwv b e sz i h=>intro c hc;simp[PV.nms] at hc;subst hc;rw[h];simp
 | vw b i n g a cap v e sz m h hv hg ha hi hcap hm=>intro c hc;simp[PV.nms] at hc;subst hc;rw[h];simp
 | ptrA b i off g v e sz n h hg=>intro c hc;simp[PV.nms] at hc;subst hc;rw[h];simp
 | ptrB b off g h hg=>intro c hc;simp[PV.nms] at hc;subst hc;rw[h];simp
 | fnr g x y A B As Bs hf hA hB ha hb hx hy ihx ihy=>
  intro c hc;simp only[PV.nms,o8] at hc;rcases hc with hc|hc
  ·obtain⟨j,hj,hc⟩:=C0.1 hc;exact ihx j hj c hc
  ·obtain⟨j,hj,hc⟩:=C0.1 hc;exact ihy j hj c hc
 | it b g h hg=>intro c hc;simp[PV.nms] at hc;subst hc;rw[h];simp
 | yd=>intro c hc;simp[PV.nms] at hc
 | agg l A As hA ha hl ih=>intro c hc;simp only[PV.nms] at hc;obtain⟨j,hj,hc⟩:=C0.1 hc;exact ih j hj c hc
 | tup l A As hA ha hl ih=>intro c hc;simp only[PV.nms] at hc;obtain⟨j,hj,hc⟩:=C0.1 hc;exact ih j hj c hc
 | bad V=>intro c hc;simp[PV.nms] at hc
theorem BR.ndead{sh:Nat->Option Shp}{b:Nat}{x:Blk}(h:BR Γ sh w b x):∀c∈x.nms,sh c≠some .dead:=by
 cases x with
 | box cells=>
  intro c hc;simp only[Blk.nms] at hc;obtain⟨j,hj,hc⟩:=C0.1 hc;obtain⟨g,cur,e,h1,h2,h3,h4⟩:=h;obtain⟨V,_,e2⟩:=h4 j hj;exact e2.ndead c hc
 | arr v e sz els=>intro c hc;simp[Blk.nms] at hc
 | iter s p=>intro c hc;simp[Blk.nms] at hc
 | dead=>intro c hc;simp[Blk.nms] at hc
theorem MH{n n0:Nat}{g:Operand}{ps:Array Tmp}{as body:Code}{k:Out->St Z->Option R}{Q:Exit->Act->World->Prop}{f9:F8}{f:Nat}{first a0:List PV}{m:List Nat}(A:Ask C I W J X)(h9:Bv C f9)(l2:Γ.yv=X)(i6:WP C I W J X as)(i9:WP C I W J X body)
  (l0:Ro (opnd C Y.sl g)=some (f,first,a0)) (f6:m.Nodup) (c1:∀c∈C6 (first++a0),c∈m) (a4:∀b∈m,b<Y.hp.length)
  (h:Xy C f9 f first a0 m Y (λl4=>Ka ps l4 (λY k=>A9 C W J as Y k) (λY k=>A9 C W J body Y k)) k=some r) (S:SI C I Γ K Y a.tmps w) (hM:Mk n0 Γ K w a.defers) (hP:C54 C I n0 Γ K Y.hp w k r Q) :
  (ag0 g ps as body).wpIn (I2 none) n C.P Q a w:=by
 have hv:=(S.opnd g).1;have hvn:=(S.opnd g).2;obtain⟨FA,FB,i0,j3,k0,l9⟩:=Sn l0 hv;unfold Xy at h;split at h
 case isFalse=>cases h
 rename_i b6;simp only[c9,j5] at b6;obtain⟨⟨⟨k4,f7⟩,l1⟩,d7⟩:=b6;split at h
 case h_2=>cases h
 rename_i ret Hc H1 a2 s' f1;refine wpIn_rangeFunc (λfn _=>?_);obtain⟨F,b0⟩:∃F,(w.alloc (.deferred (some []))).alloc (.loop (Mz fn a.tmps ps as body w.heap.size .ready none))=F:=⟨_,rfl⟩
 have l6:F.heap.size=w.heap.size+2:=by rw[<-b0];simp
 have a5:∀g,g<w.heap.size->F.heap[g]? = w.heap[g]?:=λg G=>by
  rw[<-b0,AR (by simp;omega),AR G]
 have k8:F.heap[w.heap.size+1]? = some (.loop (Mz fn a.tmps ps as body w.heap.size .ready none)):=by
  rw[<-b0];have:=ae0 (w.alloc (.deferred (some []))) (.loop (Mz fn a.tmps ps as body w.heap.size .ready none));rwa [World.size_alloc] at this
 have k5:F.heap[w.heap.size]? = some (.deferred (some [])):=by
  rw[<-b0,AR (by simp)];exact ae0 w _
 have ho:F.os=w.os/\F.tape=w.tape/\F.output=w.output:=by rw[<-b0];exact⟨rfl,rfl,rfl⟩
 obtain⟨S1,m4⟩:=S.wide A.hI (St':=Γ.St) a5 (by omega) (λ_ h=>h) (λ_ h=>.inl h) (λg G=>by have:=S.hr.stlt g G;omega) ho.1 ho.2.1 ho.2.2;have S1:SI C I Γ K Y a.tmps F:=S1;have k6:=A.hI.foot _ _ _ _ S.inv;have e4:∀{g},w.heap.size<=g->g<F.heap.size->Off Γ K F g:=fun {g} h1 h2=>⟨h2,λq=>by have:=S.hr.stlt g q;omega,λb q=>by have:=(S.hr.lt b g q).2.1;omega,λq=>by have:=(k6 g q).1;omega⟩
 have d4:Off Γ K F (w.heap.size+1):=e4 (by omega) (by omega);have d3:Off Γ K F w.heap.size:=e4 (by omega) (by omega);obtain⟨dl,c3,g0,e6⟩:=C76 S1.hr f6 a4;have d0:=Mo (Γ:=Γ) (sh:=A5 Y.hp) (w:=F) (m++Bn C Y.hp 0) Y.sl;have f3:=QH (Γ:=Γ) (H:=Y.hp) (H':=N5 m Y.hp) (w:=F) c3;have a1:∀c∈C6 (K9 (m++Bn C Y.hp 0) Y.sl),c∉m/\c<Y.hp.length/\Ee C (Y.hp.getD c .dead)=true:=λc u=>by
  obtain⟨B,q2⟩:=d0.2.1 c u;have q3:=S.sr.nms c q2;simp only[o8,not_or] at B;refine⟨B.1,q3,?_⟩;have e:Y.hp.getD c .dead=Y.hp[c]:=by rw[o5,a8 q3];rfl
  rw[e];rcases LK (C:=C) Y.hp 0 c q3 with q|q
  ·rw[ac2] at q;exact absurd q B.2
  ·exact q
 have g3:SR (Γ.hide m) (N5 m Y.hp) F (K9 (m++Bn C Y.hp 0) Y.sl) a.tmps:=by
  have h0:SR Γ Y.hp F (K9 (m++Bn C Y.hp 0) Y.sl) a.tmps:=⟨by rw[d0.1];exact S1.sr.size,λc u=>(a1 c u).2.1,λi hi=>by
   have c0:i<Y.sl.length:=by rw[<-d0.1];exact hi
   obtain⟨V,e1,e2⟩:=S1.sr.slot i c0;exact⟨V,e1,d0.2.2 i hi c0 V e2⟩⟩
  exact h0.mono f3 (λc u=>⟨(a1 c u).1,by rw[dl];exact(a1 c u).2.1⟩)
 have M:∀{b g},(Γ.hide m).nm b=some g->b∉m/\Γ.nm b=some g:=fun {b g} h=>by
  simp only[Ctx.hide] at h;split at h
  ·cases h
  ·exact⟨‹_›,h⟩
 have SS:SI C I (Γ.hide m) K { sl:=K9 (m++Bn C Y.hp 0) Y.sl,hp:=N5 m Y.hp,s:=Y.s } a.tmps F:=⟨e6,g3,S1.g,S1.inv,λb g p=>S1.dis b g (M p).2⟩
 have g7:∀c∈C6 (K9 (m++Bn C Y.hp 0) Y.sl),c<(N5 m Y.hp).length/\Mh C (A5 (N5 m Y.hp) c):=λc u=>by
  obtain⟨B,q2,q3⟩:=a1 c u;exact⟨by rw[dl];exact q2,by rw[c3 c B];exact(KM q2).1 q3⟩
 have e3:∀{g},Off Γ K F g->Off (Γ.hide m) K F g:=fun {g} h=>⟨h.1,h.2.1,λb q=>h.2.2.1 b (M q).2,h.2.2.2⟩
 let Φc:Nat->Prop:=λg=>K g\/(∃b,(Γ.hide m).nm b=some g)\/g=w.heap.size+1\/g=w.heap.size
 have h8:RI C I (Γ.hide m) (N5 m Y.hp) F K (K9 (m++Bn C Y.hp 0) Y.sl) a.tmps (w.heap.size+1) w.heap.size (Mz fn a.tmps ps as body w.heap.size) (N5 m Y.hp,none,Y.s) Γ.St Φc F:=by
  refine⟨Γ.hide m,K,SS,Stp.pg (Stp.refl e6),λ_ h=>h,λ_=>Iff.rfl,λg G=>?_,e3 d4,e3 d3,k8,k5⟩;rcases G with q|⟨b,q⟩|rfl|rfl
  ·have:=A.hI.foot _ _ _ _ S1.inv g q;exact this
  ·have:=e6.lt b g q;exact⟨this.2.1,this.2.2⟩
  ·exact⟨d4.1,d4.2.1⟩
  ·exact⟨d3.1,d3.2.1⟩
 have i3:=Bt8 S1.hr f6 a4 k4;have a3:=λb (h:b∈m)=>Hi h
 have f5:(R5 Y.hp m).length=m.length:=by simp[R5]
 let y:Value:=.func (.yield (w.heap.size+1)) #[] #[];have b1:y.oneCell'=true:=rfl;have g2:HR ((Γ.lent m).reyv y b1) (R5 Y.hp m) F:=i3.reyv (λb p=>by
  have i7:b<m.length:=by rw[<-f5];exact p
  simp only[R5,j1,Blk.yf_rn];exact l1 _ (b9 i7))
 have e5:∀{l:List PV} {V:Array Value},CR Γ (A5 Y.hp) w l V->yfL l=true->(∀c∈C6 l,c∈m)->CR ((Γ.lent m).reyv y b1) (A5 (R5 Y.hp m)) F (rnL (H5 m) l) V:=fun {l V} u hy hn=>by
  have g5:CR Γ (A5 Y.hp) F l V:=u.mono (Γ':=Γ) (H':=Y.hp) (DB S.hr a5 (λ_ h=>h)) (λ_ _=>trivial);rw[CM];refine⟨by rw[p6];exact g5.1,λj hj=>?_⟩;have f4:j<l.length:=by simpa using hj
  obtain⟨U,e,q⟩:=g5.2 j f4;refine⟨U,e,?_⟩;rw[j1];refine VP.reyv (VP.rn (Γ:=Γ) (Γ':=Γ.lent m) rfl q (.inr λ_ h=>h) (λc u=>?_)) (by rw[PV.yf_rn];exact Nx hy _ (b9 f4));have c7:=hn c (C0.2 ⟨j,f4,u⟩);obtain⟨B,q2⟩:=a3 c c7;exact⟨Xj c7,by rw[Pv a4 B,q2]⟩
 have l5:∀(x z:List PV),yfL (x++z)=(yfL x&&yfL z):=λx z=>by
  induction x with
  | nil=>simp[yfL]
  | cons v x ih=>simp[yfL,ih,Bool.and_assoc]
 rw[l5,c9] at f7;have f0:CR ((Γ.lent m).reyv y b1) (A5 (R5 Y.hp m)) F (rnL (H5 m) first++.yd::rnL (H5 m) a0) (FA++#[y]++FB):=by
  have h1:=e5 j3 f7.1 (λc u=>c1 c (by rw[N8];simp[u]));have h2:=e5 k0 f7.2 (λc u=>c1 c (by rw[N8];simp[u]));have h3:CR ((Γ.lent m).reyv y b1) (A5 (R5 Y.hp m)) F [.yd] #[y]:=CR.one .yd;have:=(h1.append h3).append h2;simpa using this
 have e9:∀c∈C6 (rnL (H5 m) first++.yd::rnL (H5 m) a0),c<(R5 Y.hp m).length:=λc u=>by
  have:c∈(C6 (first++a0)).map (H5 m):=by
   rw[N8] at u;simp only[C6,PV.nms,ab7,Ix,o8] at u;rw[N8,ad2,o8];exact u
  obtain⟨d,hd,rfl⟩:=x9.1 this;rw[f5];exact(a3 d (c1 d hd)).1
 have a7:∀{i g},(Γ.lent m).nm i=some g->∃hi:i<m.length,Γ.nm m[i]=some g:=fun {i g} h=>by
  simp only[Ctx.lent] at h;cases hi:m[i]? with
  | none=>rw[hi] at h;simp at h
  | some b=>
   obtain⟨h1,h2⟩:=aa4.1 hi;rw[hi] at h;exact⟨h1,by rw[h2];exact h⟩
 have c5:=h9 _ _ _ y (D04 A.hI) (D05 (fn:=fn) (ps:=ps) (as:=as) (body:=body) (l:=w.heap.size+1) (D:=w.heap.size) (tmps:=a.tmps) (w0:=F) (Φ0:=K) (Γ0:=Γ.hide m) A.hI l2 i6 i9 g7) f _ _ _ ret Hc _ f1 ((Γ.lent m).reyv y b1) Φc F (FA++#[y]++FB) rfl g2 S1.g h8 (λi g hi=>by
  obtain⟨k7,c8⟩:=a7 hi;rintro(q|⟨b,q⟩|rfl|rfl)
  ·exact S1.dis _ g c8 q
  ·obtain⟨B,q2⟩:=M q;have:=S1.hr.inj _ _ g c8 q2;exact B (this▸b9 k7)
  ·exact d4.2.2.1 _ c8
  ·exact d3.2.2.1 _ c8) f0 e9
 have c6:=Zj (ro:=none) (n:=n) (Au d7) c5;refine⟨w.heap.size+1,[mkD w.heap.size],F,{ target:=.fn (.func f) FB,args:=FA++#[y] },F,f,FA++#[y]++FB,F,?_,?_,λ_ _=>trivial,?_,λh=>by simp[I2,ab5] at h,c6.mono ?_⟩
 ·rw[<-b0];exact run_enterLoop_outer _ _ _ _ _
 ·simp[resolve,i0,j9];rfl
 ·show(callFunc f (FA++#[y]++FB)).run C.P F=_;exact Au d7
 rintro e W2 ⟨V,rfl,Γ1,Φ1,hs,b4,m5,l8,⟨Γb,Φb,r1⟩,b7⟩;have g8:=r1.hl;have d6:=run_endLoop (P:=C.P) g8 (by cases a2<;>simp[Mz,Di8]);obtain⟨w4,d2⟩:∃w4,W2.putObj (w.heap.size+1) (.loop { Mz fn a.tmps ps as body w.heap.size (Di8 a2) (a2.map jmp) with state:=.exhausted })=w4:=⟨_,rfl⟩
 rw[d2] at d6;have O:Vu Γb Φb W2 w4:=by rw[<-d2];exact Vu.put r1.ol
 have c2:w4.heap.size=W2.heap.size:=by rw[<-d2];simp
 have h4:∀g,g≠w.heap.size+1->w4.heap[g]? = W2.heap[g]?:=λg G=>by rw[<-d2];exact j6 G
 have inΦ:∀{g},Φb g\/(∃b,Γb.nm b=some g)\/g=w.heap.size+1\/g=w.heap.size->Φ1 g:=fun {g} h=>(r1.ph g).2 h
 have S5:=(r1.si.offW A.hI O).wideSt A.hI (St':=Γ1.St) r1.st (λg G hp=>(r1.ft g (inΦ (.inl hp))).2 G) (λb g p G=>(r1.ft g (inΦ (.inr (.inl ⟨b,p⟩)))).2 G) (λg G=>by rw[c2];exact b4.stlt g G);have d1:Y.hp.length<=H1.length:=by have:=r1.pg.len;rw[dl] at this;exact this
 have d5:m.length<=Hc.length:=by have:=hs.len;rw[p6] at this;exact this
 obtain⟨l3,h7⟩:=Jj m (m.map λb=>cond (Ee C (Y.hp.getD b .dead)) (Kl (Hc.getD (H5 m b) .dead)) .dead) H1 f6 (by simp) (λb p=>j4 (a4 b p) d1);generalize e8:Ae4 C m Y.hp Hc H1=H2 at h;have a6:H2.length=H1.length:=by rw[<-e8];exact l3
 have e7:∀b (p:b∈m),H2[b]? = some (cond (Ee C (Y.hp.getD b .dead)) (Kl (Hc.getD (H5 m b) .dead)) .dead):=λb p=>by
  rw[<-e8];simp only[Ae4];rw[h7,if_pos p,x7];have e:m.idxOf b=H5 m b:=rfl;rw[e,a8 (a3 b p).1,(a3 b p).2];rfl
 have b3:∀b,b∉m->H2[b]? = H1[b]?:=λb p=>by
  rw[<-e8];simp only[Ae4];rw[h7,if_neg p]
 let Γf:Ctx:={ St:=Γ1.St,nm:=λb=>if b∈m then (if Ee C (Y.hp.getD b .dead)=true then Γ1.nm (H5 m b) else none) else Γb.nm b,yv:=Γ.yv,yv1:=Γ.yv1 }
 have b2:∀{b},b∈m->Ee C (Y.hp.getD b .dead)=true->Γf.nm b=Γ1.nm (H5 m b):=fun {b} h1 h2=>by simp only[Γf];rw[if_pos h1,if_pos h2]
 have g1:∀{b},b∈m->¬Ee C (Y.hp.getD b .dead)=true->Γf.nm b=none:=fun {b} h1 h2=>by simp only[Γf];rw[if_pos h1,if_neg h2]
 have a9:∀{b},b∉m->Γf.nm b=Γb.nm b:=fun {b} h1=>by simp only[Γf];rw[if_neg h1]
 have L:∀{b g},Γf.nm b=some g->(b∈m/\Γ1.nm (H5 m b)=some g)\/(b∉m/\Γb.nm b=some g):=fun {b g} h=>by
  by_cases p:b∈m
  ·by_cases hf:Ee C (Y.hp.getD b .dead)=true
   ·rw[b2 p hf] at h;exact .inl ⟨p,h⟩
   ·rw[g1 p hf] at h;cases h
  ·rw[a9 p] at h;exact .inr ⟨p,h⟩
 have h5:∀c,c∈m->A5 H1 c=some .dead:=λc u=>by
  obtain⟨_,k2,_⟩:=r1.pg.keep c (by rw[dl];exact a4 c u) (by rw[g0 c u];trivial);rw[k2];exact g0 c u
 have d9:∀b,b∉m->A5 H2 b=A5 H1 b:=λb p=>by simp only[A5,b3 b p]
 have Mf:Ah { Γb with St:=Γ1.St } (A5 H1) w4 Γf (A5 H2) w4 (·∉m):=⟨λ_ _=>rfl,λ_ h=>h,λb p=>a9 p,d9,λ_ _ _ _=>rfl,(r1.pg.yv:Γb.yv=Γ.yv).symm⟩
 have i4:HR Γf H2 w4:=by
  refine⟨λb b' g h1 h2=>?_,λb g p=>?_,λg G=>by rw[c2];exact b4.stlt g G,λb p c u=>?_,λb p=>?_⟩
  ·rcases L h1 with⟨p1,B⟩|⟨p1,B⟩<;>rcases L h2 with⟨p2,q2⟩|⟨p2,q2⟩
   ·have:=b4.inj _ _ g B q2;have e1:=(a3 b p1).2;have e2:=(a3 b' p2).2;rw[<-e1,<-e2];simp only[this]
   ·exact absurd (inΦ (.inr (.inl ⟨b',q2⟩))) (b7 _ g B)
   ·exact absurd (inΦ (.inr (.inl ⟨b,B⟩))) (b7 _ g q2)
   ·exact r1.si.hr.inj b b' g B q2
  ·rcases L p with⟨p1,B⟩|⟨p1,B⟩
   ·have:=b4.lt _ g B;exact⟨by rw[a6];exact j4 (a4 b p1) d1,by rw[c2];exact this.2.1,this.2.2⟩
   ·have:=S5.hr.lt b g B;exact⟨by rw[a6];exact this.1,this.2⟩
  ·by_cases t:b∈m
   ·have e:=e7 b t;rw[a8 p] at e;simp only[b8] at e;rw[e] at u;cases hf:Ee C (Y.hp.getD b .dead) with
    | true=>rw[hf,cond_true,PJ] at u;simp at u
    | false=>rw[hf] at u;simp[Blk.nms] at u
   ·have e:=b3 b t;have b5:b<H1.length:=by rw[<-a6];exact p
    rw[a8 p,a8 b5] at e;simp only[b8] at e;rw[e] at u;rw[a6];exact S5.hr.nms b b5 c u
  ·by_cases t:b∈m
   ·have e:=e7 b t;rw[a8 p] at e;simp only[b8] at e;rw[e];cases hf:Ee C (Y.hp.getD b .dead) with
    | true=>
     rw[cond_true];have hi:H5 m b<Hc.length:=j4 (a3 b t).1 d5;rw[Ww hi];refine Ck4 (b4.blk _ hi) (b2 t hf) (λg G=>h4 g ?_) (λ_ h=>h) (λg G=>h4 g ?_)
     ·rintro rfl;exact(r1.ft _ (inΦ (.inr (.inr (.inl rfl))))).2 G
     ·rintro rfl;exact b7 _ _ G (inΦ (.inr (.inr (.inl rfl))))
    | false=>trivial
   ·have e:=b3 b t;have b5:b<H1.length:=by rw[<-a6];exact p
    rw[a8 p,a8 b5] at e;simp only[b8] at e;rw[e];have hB:=S5.hr.blk b b5;exact hB.mono Mf (a9 t) (λ_ _=>rfl) (λc u c7=>hB.ndead c u (h5 c c7))
 have g4:SR Γf H2 w4 (K9 (m++Bn C Y.hp 0) Y.sl) a.tmps:=S5.sr.mono Mf (λc u=>⟨(a1 c u).1,by rw[a6];exact j4 (a1 c u).2.1 d1⟩);have SF:SI C I Γf Φb { sl:=K9 (m++Bn C Y.hp 0) Y.sl,hp:=H2,s:=s' } a.tmps w4:=⟨i4,g4,S5.g,S5.inv,λb g p=>by
  rcases L p with⟨_,B⟩|⟨_,B⟩
  ·exact λq=>b7 _ g B (inΦ (.inl q))
  ·exact S5.dis b g B⟩
 have l7:=hs.size;have f8:Stp C Γ Y.hp w K Γf H2 w4 Φb:=by
  refine⟨O.os.trans (hs.os.trans ho.1),O.tape.trans (hs.tape.trans ho.2.1),O.output.trans (hs.output.trans ho.2.2),by omega,λg G=>hs.sub g G,λg G=>?_,λb g p=>?_,λg G=>?_,λg G hn hp=>?_,rfl,by rw[a6];exact d1,λb p hf=>?_⟩
  ·rcases hs.stnew g G with q|q
   ·exact .inl q
   ·exact .inr (by omega)
  ·rcases L p with⟨p1,B⟩|⟨p1,B⟩
   ·rcases hs.own _ g B with⟨_,q⟩|q
    ·obtain⟨i1,i2⟩:=a7 q;rw[(a3 b p1).2] at i2;exact .inl ⟨a4 b p1,i2⟩
    ·exact .inr (by omega)
   ·rcases r1.pg.own b g B with⟨q,q'⟩|q
    ·exact .inl ⟨by rw[<-dl];exact q,(M q').2⟩
    ·exact .inr (by omega)
  ·rcases r1.pg.foot g G with q|q
   ·exact .inl q
   ·exact .inr (by omega)
  ·have np:¬ Φc g:=by
    rintro(q|⟨b,q⟩|q|q)
    ·exact hp q
    ·exact hn b (M q).2
    ·omega
    ·omega
   rw[h4 g (by omega),hs.frame g (by omega) (λb q=>by obtain⟨_,i2⟩:=a7 q;exact hn _ i2) np,a5 g G]
  ·by_cases t:b∈m
   ·have g6:=(KM (C:=C) (H:=Y.hp) p).2 hf;obtain⟨B,q2⟩:=a3 b t;have hi:H5 m b<(R5 Y.hp m).length:=by rw[f5];exact B
    have h6:A5 (R5 Y.hp m) (H5 m b)=A5 Y.hp b:=by rw[Pv a4 B,q2]
    obtain⟨k1,k2,k3⟩:=hs.keep _ hi (by show Mh C (A5 (R5 Y.hp m) _);rw[h6];exact hf);have k2:A5 Hc (H5 m b)=A5 (R5 Y.hp m) (H5 m b):=k2;have d8:((Γ.lent m).reyv y b1).nm (H5 m b)=Γ.nm b:=Xj t;refine⟨(b2 t g6).trans (k1.trans d8),?_,λg G=>?_⟩
    ·have c0:H5 m b<Hc.length:=j4 B d5;simp only[A5,e7 b t,g6,cond_true,v8,PK,Ww c0];show some (Hc[H5 m b]).shp=A5 Y.hp b;rw[<-h6,<-k2];simp only[A5,a8 c0,v8]
    ·have e1:=k3 g (d8.trans G);have f2:=S.hr.lt b g G;rw[F2 (h4 g (by omega)),e1,F2 (a5 g f2.2.1)]
   ·obtain⟨k1,k2,k3⟩:=r1.pg.keep b (by rw[dl];exact p) (by rw[c3 b t];exact hf);have hh:(Γ.hide m).nm b=Γ.nm b:=by simp only[Ctx.hide];rw[if_neg t]
    refine⟨(a9 t).trans (k1.trans hh),by rw[d9 b t,k2,c3 b t],λg G=>?_⟩;have f2:=S.hr.lt b g G;rw[F2 (h4 g (by omega)),k3 g (hh.trans G),F2 (a5 g f2.2.1)]
 have i5:Mk n0 Γf Φb w4 (mkD w.heap.size::a.defers):=by
  obtain⟨m0,Ds,m1,m2,m3⟩:=hM;refine⟨by omega,w.heap.size::Ds,by rw[m1];rfl,ab8.2 ⟨λg9=>?_,m2⟩,λD hD=>?_⟩
  ·have:=(m3 _ g9).2.1.1;omega
  ·rcases p9.1 hD with rfl|hD
   ·refine⟨m0,⟨by omega,(r1.ft _ (inΦ (.inr (.inr (.inr rfl))))).2,λb q=>?_,r1.od.2.2.2⟩,by rw[h4 _ (by omega)];exact r1.hd⟩;rcases L q with⟨_,B⟩|⟨_,B⟩
    ·exact b7 _ _ B (inΦ (.inr (.inr (.inr rfl))))
    ·exact r1.od.2.2.1 b B
   ·obtain⟨k1,k2,k3⟩:=m3 D hD;obtain⟨B,q2⟩:=k2.step f8;exact⟨k1,B,q2.trans k3⟩
 have c4:=hP (a2.getD .normal) { sl:=K9 (m++Bn C Y.hp 0) Y.sl,hp:=H2,s:=s' } { a with defers:=mkD w.heap.size::a.defers } w4 Γf Φb h f8 SF i5;refine⟨a2.map jmp,w4,d6,?_⟩;cases a2 with
 | none=>exact c4
 | some o=>
  cases o with
  | normal=>exact wpIn_skip c4
  | exit id=>exact wpIn_exit c4
  | ret=>exact wpIn_ret c4
theorem EJ{m:Array Tmp}{d:List PV}{as c:Code}:∀(L:List (List PV)) (H:List Blk) (s:Z) {k:Option Out->List Blk->Z->Option R},Ax m d (λY k=>A9 C W J as Y k) (λY k=>A9 C W J c Y k) L H s k=some r->
  ∃H' b f,Dq (Ka m d (λY k=>A9 C W J as Y k) (λY k=>A9 C W J c Y k)) L (H,none,s)=some (H',b,f)/\k b H' f=some r
 | [],H,s,k,h=>⟨H,none,s,rfl,h⟩
 | x::xs,H,s,k,h=>by
  simp only[Ax] at h;split at h
  case isFalse=>cases h
  rename_i u;obtain⟨o,v,n,g⟩:=KL h;cases o with
  | exit id=>cases g
  | ret=>cases g
  | normal=>
  obtain⟨l,e,p,i⟩:=KL g;have j:Ka m d (λY k=>A9 C W J as Y k) (λY k=>A9 C W J c Y k) x (H,none,s)=some ((Dj l).isNone,((Y6 H.length e).hp,Dj l,e.s)):=by
   simp only[Ka];rw[if_pos u,PY n];dsimp only;rw[PY p]
  cases l with
  | normal=>
   obtain⟨H',b,f,q,t⟩:=EJ xs _ _ i;refine⟨H',b,f,?_,t⟩;simp only[Dq,j];exact q
  | exit id=>exact⟨_,_,_,by simp only[Dq,j];rfl,i⟩
  | ret=>exact⟨_,_,_,by simp only[Dq,j];rfl,i⟩
theorem B71{n n0:Nat}{g:Operand}{F:Array Tmp}{as i:Code}{k:Out->St Z->Option R}{Q:Exit->Act->World->Prop}(A:Ask C I W J X)(y:Γ.yv=X)(q:WP C I W J X as)(t:WP C I W J X i)
  (h:Uv C W (opnd C Y.sl g) Y (λp=>Ka F p (λY k=>A9 C W J as Y k) (λY k=>A9 C W J i Y k)) (λp=>Ax F p (λY k=>A9 C W J as Y k) (λY k=>A9 C W J i Y k)) k=some r) (S:SI C I Γ K Y a.tmps w) (O:Mk n0 Γ K w a.defers) (P:C54 C I n0 Γ K Y.hp w k r Q) :
  (ag0 g F as i).wpIn (I2 none) n C.P Q a w:=by
 have hvn:=(S.opnd g).2;have hv:=(S.opnd g).1;unfold Uv at h;split at h
 case h_2=>cases h
 rename_i f first d o;obtain⟨FA,FB,a0,a1,a2,M⟩:=Sn o hv;have v:=EI Y.hp (C6 (first++d));have m:=QZ Y.hp (C6 (first++d));have u:∀b∈Cr Y.hp (C6 (first++d)),b<Y.hp.length:=QY Y.hp (C6 (first++d)) (· < Y.hp.length) (λb B c D=>by
  have e:Y.hp.getD b .dead=Y.hp[b]:=by rw[o5,a8 B];rfl
  rw[e] at D;exact S.hr.nms b B c D) (λc D=>hvn c (M c D))
 generalize Cr Y.hp (C6 (first++d))=l at *;split at h
 ·rename_i pf hS;unfold A99 at h;split at h
  case isFalse=>cases h
  rename_i j;rw[c9] at j;split at h
  case h_2=>cases h
  rename_i cL L hL;obtain⟨rfl,h⟩:=C5 h;obtain⟨H',z,s',U,V⟩:=EJ L _ _ h;refine MH A A.hX.s y q t o v m u ?_ S O P;unfold Xy;rw[if_pos j.1];have G:(l.map λb=>(Y.hp.getD b .dead).rn (H5 l)).all QI=true:=by
   rw[List.all_map,j5];intro b B;have:=j5.1 j.2 b B;simp only[Function.comp];generalize Y.hp.getD b .dead=x at this;cases x<;>simp_all [QI,Blk.rn]
  have e:clS C (List Blk × Option Out × Z) (Ka F (K9 (l++Bn C Y.hp 0) Y.sl) (λY k=>A9 C W J as Y k) (λY k=>A9 C W J i Y k)) f (rnL (H5 l) first++PV.yd::rnL (H5 l) d) (l.map λb=>(Y.hp.getD b .dead).rn (H5 l)) (N5 l Y.hp,none,Y.s)=some (.tup [],(l.map λb=>(Y.hp.getD b .dead).rn (H5 l)).map Kl,(H',z,s')):=by
   simp only[clS,hS];rw[if_pos G,hL];simp only[U]
  rw[e];exact V
 ·exact MH A A.hC y q t o v m u h S O P
end
section
variable {Z R : Type} {r : R} {C : Cfg} {I : Z -> (Nat -> Prop) -> (Nat -> Prop) -> World -> Prop} {Y : Ctx} {W : Nat -> Prop} {L : St Z} {a : Act} {w : World} {J : F8} {U : Yh Z} {K : Value} {o : Oper} {H : List Blk}
theorem B11(A:Ask C I J U K)(hm:C.P.follows .mixedOrders=true):∀(c:Code) {ro:Option Nat} {n n0:Nat} {rf:Bool} {R:Type} {r:R} {Y:Ctx} {W:Nat->Prop} {L:St Z} {a:Act} {w:World} {k:Out->St Z->Option R} {Q:Exit->Act->World->Prop},
  (rf=true->ro=none)->U1 C rf c=true->Y.yv=K->A9 C J U c L k=some r->SI C I Y W L a.tmps w->Mk n0 Y W w a.defers->C54 C I n0 Y W L.hp w k r Q->c.wpIn (I2 ro) n C.P Q a w:=by
 intro c
 induction c with
 | skip=>intro ro n n0 rf R r Y W L a w k Q p b f h S B u;exact wpIn_skip (u .normal L a w Y W h (Stp.refl S.hr) S B)
 | label l=>intro ro n n0 rf R r Y W L a w k Q p b f h S B u;exact wpIn_label (u .normal L a w Y W h (Stp.refl S.hr) S B)
 | region id T d=>
  intro ro n n0 rf R r Y W L a w k Q p b f h S B u;cases d with
  | false=>
   have h:Ba C J U T T.toList L (λq=>k .normal (Wv (C.keepR id) L.hp.length q))=some r:=by
    simp only[A9,Bb0] at h;split at h
    ·exact h
    ·cases h
   refine wpIn_region_list (YF A T.toList f h S ?_);intro q G w' Γ' i v z D F;obtain⟨N,V,M⟩:=Sk A.hI D z (C.keepR id) (j7 _);exact u .normal _ G w' N i v M V (by rw[F];exact B.step M)
  | true=>
   simp only[U1,Bool.not_true,ag5] at b;refine Df4 A hm b f h S ?_;intro q G w' Γ' i v z D F;obtain⟨N,V,M⟩:=Sk A.hI D z (C.keepR id) (j7 _);exact u .normal _ G w' N i v M V (by rw[F];exact B.step M)
 | seq x y O P=>
  intro ro n n0 rf R r Y W L a w k Q p b f h S B u;simp only[U1,c9] at b;refine wpIn_seq (O p b.1 f h S B ?_);intro o q G w' Γ' i v z D F;cases o with
  | normal=>exact P p b.2 (z.yv.trans f) v D F λo2 a3 a2 w2 N Φ2 k1 k2 k3 k4=>u o2 a3 a2 w2 N Φ2 k1 (z.trans k2) k3 k4
  | exit id=>exact u (.exit id) q G w' Γ' i v z D F
  | ret=>exact u .ret q G w' Γ' i v z D F
 | cond c x y O P=>
  intro ro n n0 rf R r Y W L a w k Q p b f h S B u;simp only[U1,c9] at b;simp only[A9] at h;split at h
  ·rename_i t hc;have hv:=(S.opnd c).1;rw[hc] at hv;have hb:=hv.inv_bool;cases t with
   | true=>exact wpIn_cond hb (O p b.1 f h S B u)
   | false=>exact wpIn_cond hb (P p b.2 f h S B u)
  ·cases h
 | block id x ih=>
  intro ro n n0 rf R r Y W L a w k Q p b f h S B u;refine wpIn_block (ih p b f h S B ?_);intro o q G w' Γ' i v z D F;cases o with
  | normal=>exact u .normal q G w' Γ' i v z D F
  | exit j=>
   simp only[Out.exit',Exit.inBlock];dsimp only at v;split at v
   ·rename_i e;rw[if_pos e];exact u .normal q G w' Γ' i v z D F
   ·rename_i e;rw[if_neg e];exact u (.exit j) q G w' Γ' i v z D F
  | ret=>exact u .ret q G w' Γ' i v z D F
 | loop x ih=>
  intro ro n n0 rf R r Y W L a w k Q p b f h S B u;simp only[A9] at h;refine Bm6 (λm G w'=>∃q Γ' i,C7 L.hp.length (C.keep (Ag8 x)) (λL k=>A9 C J U x L k) m q k=some r/\Stp C Y L.hp w W Γ' q.hp w' i/\SI C I Γ' i q G.tmps w'/\Mk n0 Γ' i w' G.defers) C.lf ⟨_,Y,W,h,by rw[Gd];exact Stp.refl S.hr,Gc S _,B⟩ ?_;rintro m a1 w1 ⟨a4,Γ1,Φ1,v,z,D,F⟩;cases m with
  | zero=>simp[C7] at v
  | succ m=>
   simp only[C7] at v;refine ih p b (z.yv.trans f) v D F ?_;intro o q G w' Γ' i k1 k2 k3 k4;cases o with
   | normal=>
    obtain⟨N,V,M,X⟩:=At0 A.hI k3 (z.trans k2);have a0:=Mk.sub k4 X;exact⟨m,Nat.lt_succ_self m,_,N,i,k1,by rw[Gd];exact M,Gc V _,a0⟩
   | exit j=>exact u (.exit j) _ G w' Γ' i k1 (by rw[Gd];exact z.trans k2) (Gc k3 _) k4
   | ret=>exact u .ret _ G w' Γ' i k1 (by rw[Gd];exact z.trans k2) (Gc k3 _) k4
 | exit id=>intro ro n n0 rf R r Y W L a w k Q p b f h S B u;exact wpIn_exit (u (.exit id) _ a w Y W h (by rw[Gd];exact Stp.refl S.hr) (Gc S _) B)
 | ret=>intro ro n n0 rf R r Y W L a w k Q p b f h S B u;exact wpIn_ret (u .ret _ a w Y W h (by rw[Gd];exact Stp.refl S.hr) (Gc S _) B)
 | scope x ih=>
  intro ro n n0 rf R r Y W L a w k Q p b f h S B u;refine At8 (ih (Q:=λe a w=>(∀l,e≠.goto l)/\Q e a w) p b f h S B ?_);intro o q G w' Γ' i v z D F;exact⟨λl=>by cases o<;>simp[Out.exit'],u o q G w' Γ' i v z D F⟩
 | rangeFunc g ps x y O P=>
  intro ro n n0 rf R r Y W L a w k Q p b f h S B u;simp only[U1,c9] at b;obtain⟨⟨rfl,hx⟩,hy⟩:=b;obtain rfl:=p rfl;simp only[A9] at h;exact B71 A f (fun {R r ro n n0 Y W L a w k Q} v z D F h5=>O (rf:=false) (λh=>by cases h) hx v z D F h5) (fun {R r ro n n0 Y W L a w k Q} v z D F h5=>P (rf:=false) (λh=>by cases h) hy v z D F h5) h S B u
 | _=>intro ro n n0 rf R r Y W L a w k Q p b f h S B u;simp[A9] at h
end
section
variable {Z R : Type} {r : R} {C : Cfg} {I : Z -> (Nat -> Prop) -> (Nat -> Prop) -> World -> Prop} {L : Ctx} {W : Nat -> Prop} {Y : St Z} {a : Act} {w : World} {O : F8} {J : Yh Z} {K : Value} {o : Oper} {H : List Blk}
def CJ(b:Array Value):ResultVar->Sem Value
 | .tmp t=>pure (b.getD t undef)
 | .cell a t=>do loadVar t (<-asAddr (b.getD a undef))
theorem Bc0(fn:Func)(b:Array Value):results fn b=(fn.results.toList.mapM (CJ b) >>= λl=>pure (if h:l.length=1 then l[0] else .tuple l.toArray)):=by
 unfold results;have:∀(c:Array ResultVar),(c.mapM (CJ b) >>= λd=>(pure (if h:d.size=1 then d[0] else .tuple d):Sem Value))=(c.toList.mapM (CJ b) >>= λl=>pure (if h:l.length=1 then l[0] else .tuple l.toArray)):=by
  intro c;rw[Array.mapM_eq_mapM_toList,map_eq_pure_bind,bind_assoc]
  congr 1
 exact this fn.results
theorem QB(S:SR L H w Y.sl a.tmps)(t:Nat):VP L (A5 H) w (Y.sl.getD t (.tup [])) (a.tmps.getD t undef)/\∀c∈(Y.sl.getD t (.tup [])).nms,c<H.length:=by
 by_cases h:t<Y.sl.length
 ·obtain⟨V,e,k⟩:=S.slot t h;have g:∀c∈(Y.sl[t]).nms,c<H.length:=λc f=>S.nms c (C0.2 ⟨t,h,f⟩)
  simp_all
 ·have b:Y.sl.getD t (.tup []) = .tup []:=by rw[o5,ab4 (af5 h)];rfl
  have d:a.tmps.getD t undef=undef:=by rw[o7,ab1 (by rw[S.size];exact af5 h)];rfl
  rw[b,d];exact⟨Ih,by simp[PV.nms,C6]⟩
def LR(L:Ctx)(sh:Nat->Option Shp)(w:World):List PV->List Value->Prop
 | [],[]=>True
 | v::r,V::q=>VP L sh w v V/\LR L sh w r q
 | _,_=>False
theorem LR.len{sh:Nat->Option Shp}:∀{l:List PV} {A:List Value},LR L sh w l A->A.length=l.length
 | [],[],_=>rfl
 | v::r,V::q,h=>by simp[LR.len h.2]
 | [],_::_,h=>h.elim
 | _::_,[],h=>h.elim
theorem LR.CR{sh:Nat->Option Shp}:∀{l:List PV} {A:List Value},LR L sh w l A->∀j (h:j<l.length),∃U,A[j]? = some U/\VP L sh w (l[j]) U
 | [],[],_,j,h=>by simp at h
 | v::r,V::q,h,0,_=>⟨V,rfl,h.1⟩
 | v::r,V::q,h,j+1,hj=>by
  obtain⟨U,e,k⟩:=LR.CR h.2 j (by simpa using hj);grind
 | [],_::_,h,_,_=>h.elim
 | _::_,[],h,_,_=>h.elim
theorem Db7{t:TypeId}{A V:Value}{w':World}(h:(ah0 t A).run C.P w' = .ok V w'):(do loadVar t (<-asAddr A):Sem Value).run C.P w' = .ok V w':=by
 simp only[ah0] at h;unfold Instr.sureAddr at h;split at h
 ·exact h
 simp_all
theorem Uw(j:HR L H w)(S:SR L H w Y.sl a.tmps):∀(n:List ResultVar) {k:List PV->Option R},FG C Y.sl H n k=some r->
  ∃e d,k e=some r/\(n.mapM (CJ a.tmps)).run C.P w = .ok d w/\LR L (A5 H) w e d/\∀c∈C6 e,c<H.length
 | [],k,h=>⟨[],[],h,by simp,trivial,by simp[C6]⟩
 | .tmp t::b,k,h=>by
  simp only[FG] at h;obtain⟨e,d,g,m,i,q⟩:=Uw j S b h;obtain⟨f,p⟩:=QB S t;refine⟨_,a.tmps.getD t undef::d,g,?_,⟨f,i⟩,λc l=>?_⟩
  ·rw[ag2];simp only[CJ,ae7,Sem.run_pure,ad9,m]
  ·simp only[C6,o8] at l;grind
 | .cell x t::b,k,h=>by
  simp only[FG] at h;obtain⟨f,p⟩:=QB S x;obtain⟨v,u,A,V,z,y⟩:=DZ j h f;obtain⟨e,d,g,m,i,q⟩:=Uw j S b u;refine⟨_,V::d,g,?_,⟨z,i⟩,λc l=>?_⟩
  ·rw[ag2];have:=Db7 (y w (Ext.refl w));rw[show CJ a.tmps (.cell x t)=(do loadVar t (<-asAddr (a.tmps.getD x undef)):Sem Value) from rfl];rw[ae7,this];simp_all
  ·simp only[C6,o8] at l;grind
theorem Aj9{b:List PV}{c:Nat}(h:c∈(Cf b).nms):c∈C6 b:=by
 unfold Cf at h;split at h
 ·simp[C6,h]
 ·exact h
theorem Dd3{f:List PV}{b:List Value}(h:LR L (A5 H) w f b):VP L (A5 H) w (Cf f) (if h:b.length=1 then b[0] else .tuple b.toArray):=by
 have c:=h.len;unfold Cf;split
 ·rename_i v;cases b with
  | nil=>simp at c
  | cons V q=>
   cases q with
   | nil=>exact h.1
   | cons _ _=>simp at c
 ·rename_i d;have:b.length≠1:=by
   intro e;rw[e] at c
   match f,c with
   | [v],_=>exact d v rfl
  rw[dif_neg this];refine VP.mk_tup (by simpa using c) λj g=>?_
  obtain⟨U,e,k⟩:=h.CR j g;grind
def Oo(C:Cfg):Prop:=∀ f fn c,C.okf f=true->C.P.funcs[f]? = some fn->fn.body=some c->Cl0 C c=true/\(fn.name == "runtime.NumGoroutine")=false
theorem Pl{f:Nat}{fn:Func}{c:Code}{d:Array Value}(g:C.P.funcs[f]? = some fn)(e:fn.body=some c)(h:(fn.name == "runtime.NumGoroutine")=false):(callFunc f d).run C.P w = .ok (.enter f d) w:=by
 have b:¬ fn.name = "runtime.NumGoroutine":=by simpa using h
 simp[callFunc,g,e,b,ad9]
theorem C64{args:List PV}{d:Array Value}{n:Nat}(e:CR L (A5 H) w args d)(i:∀c∈C6 args,c<H.length) :
  SR L H w (args++x6 (n-args.length) (.tup [])) (d++x3 (n-d.size) undef):=by
 have h:CR L (A5 H) w (x6 (n-args.length) (.tup [])) (x3 (n-d.size) undef):=⟨by simp[e.1],λj f=>by
  simp only[List.length_replicate] at f;refine⟨undef,by rw[e.1];simp[f],?_⟩;simp only[List.getElem_replicate];exact Ih⟩
 have g:=e.append h;refine⟨g.1,λc b=>?_,g.2⟩;rw[N8,o8] at b;rcases b with b|b
 ·exact i c b
 ·obtain⟨j,f,b⟩:=C0.1 b;simp[PV.nms,C6] at b
theorem Stp.put{Γ0 Γ':Ctx}{H0 H':List Blk}{w0 w':World}{Φ0 Φ':Nat->Prop}{D:Nat}{ob:Obj}(h:Stp C Γ0 H0 w0 Φ0 Γ' H' w' Φ')(hD:w0.heap.size<=D)(hO:Off Γ' Φ' w' D):Stp C Γ0 H0 w0 Φ0 Γ' H' (w'.putObj D ob) Φ':=by
 refine⟨h.os,h.tape,h.output,by rw[World.putObj_size];exact h.size,h.sub,h.stnew,h.own,h.foot,λg hg hn hp=>?_,h.yv,h.len,λb hb hf=>?_⟩
 ·rw[j6 (by omega)];exact h.frame g hg hn hp
 ·obtain⟨k1,k2,k3⟩:=h.keep b hb hf;refine⟨k1,k2,λg hg=>?_⟩;rw[<-k3 g hg];refine F2 (j6 ?_);rintro rfl;exact hO.2.2.1 b (k1.trans hg)
theorem Bt7{F:Fence}{n:Nat}{fn:Func}{l:Ending->World->Prop}{f Γ':Ctx}{k:List Blk}{j:World}{g c:Nat->Prop}{d:St Z}{b:Array Value}(q:HI I)
  (t:∀w',SI C I Γ' c d b w'->Stp C f k j g Γ' d.hp w' c->∃V,(results fn b).run C.P w' = .ok V w'/\l (.returned V) w') :
  ∀(e:List Nat) (w:World),e.Nodup->(∀D∈e,j.heap.size<=D/\Off Γ' c w D/\w.heap[D]? = some (.deferred (some [])))->SI C I Γ' c d b w->Stp C f k j g Γ' d.hp w c->LeavesInM F n C.P fn b l (e.map mkD) .returning w
 | [],w,_,_,S,h=>t w S h
 | D::e,w,y,p,S,h=>by
  obtain⟨u,m,v⟩:=p D (by simp);refine⟨by simp,.inl ⟨D,w.putObj D (.deferred none),rfl,run_takeDeferred v,?_⟩⟩;have i:=ab8.1 y;refine Bt7 q t e _ i.2 (λE x=>?_) (S.offW q (Vu.put m)) (h.put u m);obtain⟨z,A,B⟩:=p E (by simp[x]);refine⟨z,A.put,(j6 ?_).trans B⟩;grind
theorem Kp(hX:XOK C)(hO:Oo C)(hm:C.P.follows .mixedOrders=true):∀d,Bv C (evC C d)
 | 0=>λZ I J K D hy g args H s ret j k h=>by simp[evC] at h
 | d+1=>λZ I J K D hy g args H s ret j k h L W w u S hH hg hi A G hn=>by
  have ih:=Kp hX hO hm d;simp only[evC] at h;split at h
  ·rename_i fn P M;split at h
   ·rename_i c F;obtain⟨m,p⟩:=hO g fn c P M F;intro ro n o a next Q N
    rw[Pl M F p];simp only[ac4];refine⟨λh=>(by simp[I2,ab5] at h),?_⟩;have key:CallsIn ab5 (n-1) C.P g u w λe i=>∃V,e = .returned V/\Eb C I L H w W ret j k V i:=by
     refine callsIn_of_wp_marks M F trivial ?_;have S0:SI C I L W { sl:=args++x6 (fn.ntmps-args.length) (.tup []),hp:=H,s:=s } (u++x3 (fn.ntmps-u.size) undef) w:=⟨hH,C64 G hn,hg,hi,A⟩
     refine B11 (ro:=none) (rf:=true) (n:=n-1) (n0:=w.heap.size) (a:={ tmps:=u++x3 (fn.ntmps-u.size) undef,defers:=[] }) ⟨D,ih,hX,hy⟩ hm c (λ_=>rfl) m S h S0 (Mk.nil (j7 _)) ?_;intro o f y w' Γ' t T U q ⟨_,Ds,k4,k5,k6⟩
     suffices z:∀w',SI C I Γ' t f y.tmps w'->Stp C L H w W Γ' f.hp w' t->FG C f.sl f.hp fn.results.toList (λv=>some (Cf v,f.hp,f.s))=some (ret,j,k)->∃V,(results fn y.tmps).run C.P w' = .ok V w'/\∃x,af8 V = .returned x/\Eb C I L H w W ret j k x w' by
      have l:FG C f.sl f.hp fn.results.toList (λv=>some (Cf v,f.hp,f.s))=some (ret,j,k)->LeavesInM (I2 none) (n-1) C.P fn y.tmps (λe i=>∃V,e = .returned V/\Eb C I L H w W ret j k V i) y.defers .returning w':=λh=>by
       rw[k4];exact Bt7 D (λw' a b=>z w' a b h) Ds w' k5 k6 q U
      cases o with
      | normal=>exact l T
      | ret=>exact l T
      | exit id=>cases T
     intro w' q U;have z:∀(h:FG C f.sl f.hp fn.results.toList (λv=>some (Cf v,f.hp,f.s))=some (ret,j,k)),∃V,(results fn y.tmps).run C.P w' = .ok V w'/\∃x,af8 V = .returned x/\Eb C I L H w W ret j k x w':=λh=>by
      obtain⟨v,Us,X,h2,h3,h4⟩:=Uw q.hr q.sr _ h;simp only[b8,v7] at X;obtain⟨rfl,rfl,rfl⟩:=X;refine⟨_,?_,_,rfl,Γ',t,U,q.hr,Dd3 h3,λc G=>h4 c (Aj9 G),q.inv,q.dis⟩;rw[Bc0,ae7,h2];rfl
     omega
    have B:CallsIn (I2 ro) (n-1) C.P g u w λe i=>∃V,e = .returned V/\Eb C I L H w W ret j k V i:=key
    refine B.mono ?_;grind
   ·cases h
  ·cases h
end
end
section
open Go Go.ChangeShapes Go.RowKit Go.WideShapes
inductive Ty where
 | bool
 | int (k:IntKind)
 | str
 | slice (e:List Ty)
 deriving Inhabited
def Cz4(P:Program)(f:Nat->Option (List Ty)):List Field->Nat->Option (List Ty)
 | [],_=>some []
 | x::r,off=>if x.offset==off then match f x.type with
   | some a=>if P.cellsOf x.type==a.length then match Cz4 P f r (off+a.length) with
    | some b=>some (a++b)
    | none=>none else none
   | none=>none else none
def Ep(P:Program):Nat->Nat->Option (List Ty)
 | 0,_=>none
 | d+1,t=>match P.underlying t with
  | some .bool=>some [.bool]
  | some (.int k)=>some [.int k]
  | some .string=>some [.str]
  | some (.slice e)=>match Ep P d e with
   | some a=>if P.cellsOf e==a.length&&decide (0<a.length) then some [.slice a] else none
   | none=>none
  | some (.struct b)=>match Cz4 P (Ep P d) b.toList 0 with
   | some r=>if P.cellsOf t==r.length then some r else none
   | none=>none
  | some (.array n e)=>match Ep P d e with
   | some a=>if P.cellsOf e==a.length&&P.cellsOf t==n*a.length then some (x6 n a).flatten else none
   | none=>none
  | _=>none
mutual
def Ty.of:Ty->SV->Prop
 | .bool,v=>∃b,v = .bool b
 | .int k,v=>∃n,v = .int k n/\k.min<=n/\n<=k.max
 | .str,v=>∃l,v = .str l/\l.length<=maxLen
 | .slice e,v=>v = .sl true false e.length []\/∃els,v = .sl false false e.length els/\els.length<=maxLen/\∀el∈els,Ty.ofL e el
def Ty.ofL:List Ty->List SV->Prop
 | [],l=>l=[]
 | t::r,l=>∃v q,l=v::q/\t.of v/\Ty.ofL r q
end
theorem Ty.ofL_len:∀{ts:List Ty} {l:List SV},Ty.ofL ts l->l.length=ts.length
 | [],l,h=>by simp only[Ty.ofL] at h;subst h;rfl
 | t::r,l,h=>by
  simp only[Ty.ofL] at h;obtain⟨v,q,rfl,_,hq⟩:=h;simp[Ty.ofL_len hq]
theorem Ty.ofL_append:∀{a b:List Ty} {x y:List SV},Ty.ofL a x->Ty.ofL b y->Ty.ofL (a++b) (x++y)
 | [],b,x,y,h,k=>by simp only[Ty.ofL] at h;subst h;exact k
 | t::r,b,x,y,h,k=>by
  simp only[Ty.ofL] at h;obtain⟨v,q,rfl,hv,hq⟩:=h;simp only[List.cons_append,Ty.ofL];exact⟨v,q++y,rfl,hv,Ty.ofL_append hq k⟩
def CVS(St:Nat->Prop)(w:World)(l:List SV)(A:List Value):Prop:=A.length=l.length/\∀j (h:j<l.length),∃U,A[j]? = some U/\VS St w (l[j]) U
theorem CVS.append{St:Nat->Prop}{w:World}{x y:List SV}{X Y:List Value}(hx:CVS St w x X)(hy:CVS St w y Y):CVS St w (x++y) (X++Y):=by
 refine⟨by simp[hx.1,hy.1],λj hj=>?_⟩;by_cases h:j<x.length
 ·obtain⟨U,e,k⟩:=hx.2 j h;exact⟨U,by rw[aa3 (by rw[hx.1];exact h)];exact e,by rw[w8 h];exact k⟩
 ·obtain⟨U,e,k⟩:=hy.2 (j-x.length) (by simp at hj;omega);exact⟨U,by rw[y9 (by rw[hx.1];omega),hx.1];exact e,by rw[aa5 (by omega)];exact k⟩
theorem CVS.one{St:Nat->Prop}{w:World}{v:SV}{V:Value}(h:VS St w v V):CVS St w [v] [V]:=⟨rfl,λj hj=>by
 have:j=0:=by simpa using hj
 subst this;exact⟨V,rfl,h⟩⟩
theorem Cb8{w:World}{a:Addr}{V:Value}(h:w.cell? a=some V):a.spot=none/\a.block<w.heap.size:=by
 unfold ah6 at h;split at h
 ·rename_i c t e b;refine⟨?_,(o0.1 b).1⟩;cases d:a.spot with
  | none=>rfl
  | some x=>rw[d] at h;simp at h
 ·cases h
theorem Ad3{a:Addr}(h:a.spot=none)(n:Nat):a.add n=⟨a.block,a.off+n,none⟩:=by
 unfold Addr.add;split
 ·rename_i b;subst b;cases a;simp_all
 ·rfl
theorem C57{a:Addr}{m n:Nat}(h:a.spot=none):(a.add m).add n=⟨a.block,a.off+m+n,none⟩:=by rw[Ad3 h,Ad3 rfl]
theorem RW{H:Type}{enc:TypeId × Value->H}{P:Program}{w:World}{base:Nat}{sp:Nat->Bool}{held:Bool}{f:Nat->Option (List Ty)}{m:Nat}
  (q:∀t c g x,f t=some c->ac9 enc P w base sp held m t g=some x->∃d,Ty.ofL c d/\CVS (· < w.heap.size) w d g) (g:List Value) :
  ∀(n:List Field) (off:Nat) (c:List Ty),Cz4 P f n off=some c->(∀(i:Nat) (fl:Field),n[i]? = some fl->∃y,ac9 enc P w base sp held m fl.type ((g.drop fl.offset).take (P.cellsOf fl.type))=some y)->
   ∃d,Ty.ofL c d/\CVS (· < w.heap.size) w d ((g.drop off).take c.length)
 | [],off,c,h,_=>by
  simp only[Cz4,b8] at h;subst h;exact⟨[],rfl,by simp,λj F=>by simp at F⟩
 | x::r,off,c,h,k=>by
  simp only[Cz4] at h;split at h
  ·rename_i l;simp only[beq_iff_eq] at l;split at h
   ·rename_i a B;split at h
    ·rename_i o;simp only[beq_iff_eq] at o;split at h
     ·rename_i b C;simp only[b8] at h;subst h;obtain⟨y,p⟩:=k 0 x rfl;rw[l,o] at p;obtain⟨G,u,v⟩:=q _ _ _ _ B p;obtain⟨I,z,A⟩:=RW q g r _ b C (λi fl D=>k (i+1) fl (by simpa using D));refine⟨G++I,Ty.ofL_append u z,?_⟩;have:=v.append A;have e:(g.drop off).take (a++b).length=(g.drop off).take a.length++(g.drop (off+a.length)).take b.length:=by
       rw[p7,ag7,ag1]
      rw[e];exact this
     ·cases h
    ·cases h
   ·cases h
  ·cases h
theorem Ad4{H:Type}{enc:TypeId × Value->H}{P:Program}{w:World}{base:Nat}{sp:Nat->Bool}{held:Bool}{e m:Nat}{a:List Ty}(c:List Value)
  (g:∀c x,ac9 enc P w base sp held m e c=some x->∃b,Ty.ofL a b/\CVS (· < w.heap.size) w b c) (f:P.cellsOf e=a.length) :
  ∀(n k:Nat),(∀i,k<=i->i<k+n->∃y,ac9 enc P w base sp held m e ((c.drop (i*P.cellsOf e)).take (P.cellsOf e))=some y)->
   ∃b,Ty.ofL (x6 n a).flatten b/\CVS (· < w.heap.size) w b ((c.drop (k*a.length)).take (n*a.length))
 | 0,k,_=>⟨[],by simp[Ty.ofL],by simp,λj r=>by simp at r⟩
 | n+1,k,hall=>by
  obtain⟨y,t⟩:=hall k (j7 _) (by omega);obtain⟨u,h,d⟩:=g _ _ t;obtain⟨v,l,o⟩:=Ad4 c g f n (k+1) (λi p q=>hall i (by omega) (by omega));rw[f] at d;refine⟨u++v,?_,?_⟩
  ·rw[List.replicate_succ,List.flatten_cons];exact Ty.ofL_append h l
  ·have:=d.append o;have e:(c.drop (k*a.length)).take ((n+1)*a.length)=(c.drop (k*a.length)).take a.length++(c.drop ((k+1)*a.length)).take (n*a.length):=by
    rw[show(n+1)*a.length=a.length+n*a.length by rw[ad8,Nat.one_mul,Nat.add_comm],ag7,ag1,show k*a.length+a.length=(k+1)*a.length by rw[ad8,Nat.one_mul]]
   rw[e];exact this
theorem GD{H:Type}{enc:TypeId × Value->H}{P:Program}{w:World}{base:Nat}{sp:Nat->Bool}{held:Bool}:∀(n t:Nat) (q:List Ty) (m:Nat) (C:List Value) (x:DataW H × List MemPlace),Ep P n t=some q->
  ac9 enc P w base sp held m t C=some x->∃p,Ty.ofL q p/\CVS (· < w.heap.size) w p C
 | 0,t,q,m,C,x,h,_=>by simp[Ep] at h
 | n+1,t,q,m,C,x,h,hd=>by
  simp only[Ep] at h;split at h
  ·rename_i B;simp only[b8] at h;subst h;obtain⟨b,rfl,_⟩:=DataW.trod_bool B hd;exact⟨[.bool b],by simp[Ty.ofL,Ty.of],CVS.one (.bool b)⟩
  ·rename_i k B;simp only[b8] at h;subst h;obtain⟨b,rfl,_,S⟩:=DataW.trod_int B hd;simp only[Lit.wf,c9,decide_eq_true_eq] at S;exact⟨[.int k b],by simp[Ty.ofL,Ty.of,S],CVS.one (.int k b)⟩
  ·rename_i B;simp only[b8] at h;subst h;obtain⟨b,rfl,_,S⟩:=DataW.trod_string B hd;exact⟨[.str b.data.toList],by simpa[Ty.ofL,Ty.of] using S,CVS.one (.str b)⟩
  ·rename_i e B;split at h
   ·rename_i a V;split at h
    ·rename_i F;simp only[c9,beq_iff_eq,decide_eq_true_eq] at F;simp only[b8] at h;subst h;rcases DataW.trod_slice B hd with⟨rfl,_⟩|⟨g,len,cap,T,a1,Q,_,rfl,_,hb,hl,hm,G,D,_,_⟩
     ·exact⟨[.sl true false a.length []],by simp[Ty.ofL,Ty.of],CVS.one (.nil _ _)⟩
     ·have v:∀i,i<len->∃M d,w.cells? base (g.add (i*a.length)) a.length=some d/\Ty.ofL a M/\CVS (· < w.heap.size) w M d:=λi f=>by
       have u:=D i f;rw[a8 (by omega),F.1,Option.bind_eq_some_iff] at u;obtain⟨d,o,K⟩:=u;obtain⟨M,h4,h5⟩:=GD n e a Q d _ V K;exact⟨M,d,o,h4,h5⟩
      by_cases h0:len=0
      ·subst h0;exact⟨[.sl false false a.length []],by simp[Ty.ofL,Ty.of],CVS.one (.emp _ _ _ _ (by simp) hm)⟩
      ·let c:List (List SV):=(List.range len).attach.map λi=>af0 (v i.1 (ag3.1 i.2))
       have N:c.length=len:=by simp[c]
       have l:∀i (f:i<c.length),∃d,w.cells? base (g.add (i*a.length)) a.length=some d/\Ty.ofL a (c[i])/\CVS (· < w.heap.size) w (c[i]) d:=λi f=>by
        have z:i<len:=by omega
        have e:c[i]=af0 (v i z):=by simp[c]
        rw[e];exact Classical.choose_spec (v i z)
       have A:g.spot=none/\g.block<w.heap.size:=by
        obtain⟨d,u,o,K⟩:=l 0 (by omega);obtain⟨_,Y,J⟩:=ae8 u;have:=J 0 F.2;rw[a8 (by omega)] at this;simp only[ah1,Addr.add,if_true] at this;exact Cb8 this
       have D:∀i (f:i<c.length),(c[i]).length=a.length:=λi f=>by
        obtain⟨d,u,o,K⟩:=l i f;exact Ty.ofL_len o
       have y:∀i (f:i<c.length) j (I:j<(c[i]).length),∃U,w.cell? ⟨g.block,g.off+i*a.length+j,none⟩=some U/\VS (· < w.heap.size) w (c[i][j]) U:=λi f j I=>by
        obtain⟨d,u,o,K⟩:=l i f;obtain⟨_,Y,J⟩:=ae8 u;have X:j<a.length:=by rw[<-D i f];exact I
        obtain⟨U,L,R⟩:=K.2 j I;refine⟨U,?_,R⟩;rw[<-L,<-J j X,C57 A.1]
       refine⟨[.sl false false a.length c],?_,CVS.one ?_⟩
       ·simp only[Ty.ofL,Ty.of];refine⟨_,[],rfl,.inr ⟨c,rfl,by omega,λM a0=>?_⟩,rfl⟩;obtain⟨i,f,rfl⟩:=List.getElem_of_mem a0;obtain⟨d,u,o,K⟩:=l i f;exact o
       ·have e:g=⟨g.block,g.off,none⟩:=by cases g;simp_all
        rw[e];refine .sl false c g.block g.off len cap a.length (λi j=>(w.cell? ⟨g.block,g.off+i*a.length+j,none⟩).getD undef) N.symm hl hm (by simp) A.2 D (λi f j I=>?_) (λi f j I=>?_)
        ·obtain⟨U,L,R⟩:=y i f j I;rw[L];rfl
        ·obtain⟨U,L,R⟩:=y i f j I;rw[L];exact R
    ·cases h
   ·cases h
  ·rename_i fs B;split at h
   ·rename_i r hr;split at h
    ·rename_i F;simp only[beq_iff_eq] at F;simp only[b8] at h;subst h;obtain⟨xs,Q,_,_,G,O,W⟩:=DataW.trod_struct B hd;obtain⟨p,u,o⟩:=RW (λt q C x=>GD n t q Q C x) C fs.toList 0 r hr (λi fl f=>by
      have z:fs[i]? = some fl:=by simpa using f
      have:=W i fl z;have Z:i<xs.length:=by rw[O];exact(o0.1 z).1
      rw[a8 Z] at this;exact⟨_,this⟩)
     refine⟨p,u,?_⟩;rw[ac3,ad0 (by omega)] at o;exact o
    ·cases h
   ·cases h
  ·rename_i k e B;split at h
   ·rename_i a V;split at h
    ·rename_i F;simp only[c9,beq_iff_eq] at F;simp only[b8] at h;subst h;obtain⟨xs,Q,_,_,G,O,W⟩:=DataW.trod_array B hd;obtain⟨p,u,o⟩:=Ad4 C (λC x=>GD n e a Q C x V) F.1 k 0 (λi _ f=>by
      have:=W i (by omega);rw[a8 (by omega)] at this;exact⟨_,this⟩)
     refine⟨p,u,?_⟩;rw[ah1,ac3,ad0 (by omega)] at o;exact o
    ·cases h
   ·cases h
  ·cases h
def Nz(P:Program)(t:Nat):Bool:=match P.underlying t with
 | some (.struct _)=>true
 | some (.array _ _)=>true
 | _=>false
def Si(P:Program)(t:Nat)(v:PV):Prop:=∃a l,Ep P 20 t=some a/\Ty.ofL a l/\((Nz P t=true/\v = .agg (l.map .s))\/(Nz P t=false/\∃x,l=[x]/\v = .s x))
def Lp(P:Program):List Nat->List PV->Prop
 | [],l=>l=[]
 | t::r,l=>∃v q,l=v::q/\Si P t v/\Lp P r q
theorem Si.nms{P:Program}{t:Nat}{v:PV}(h:Si P t v):v.nms=[]:=by
 obtain⟨tys,l,_,_,h⟩:=h;rcases h with⟨_,rfl⟩|⟨_,x,_,rfl⟩
 ·simp only[PV.nms];rw[o9];intro c hc;obtain⟨j,hj,hc⟩:=C0.1 hc;simp[PV.nms] at hc
 ·rfl
theorem Lp.nms{P:Program}:∀{ts:List Nat} {l:List PV},Lp P ts l->C6 l=[]
 | [],l,h=>by simp only[Lp] at h;subst h;rfl
 | t::r,l,h=>by
  simp only[Lp] at h;obtain⟨v,q,rfl,h1,h2⟩:=h;simp[C6,h1.nms,h2.nms]
section
variable {H : Type} {enc : TypeId × Value -> H} {P : Program} {w : World}
theorem Dd1{v:Value}{r:Reach}{b:Nat}{t:Nat}(e:Nz P t=false)(Ok:aa1 P w r b t v):∀a,v = .agg a->False:=by
 rintro a rfl;simp only[aa1,Cell.okWide] at Ok;unfold Nz at e;split at Ok
 ·grind
 ·grind
 ·revert Ok
  cases c:P.underlying t with
  | none=>simp[Cell.ok,c]
  | some d=>cases d<;>simp[Cell.ok,c]
theorem Cs3{Γ:Ctx}{sh:Nat->Option Shp}{sp:Nat->Bool}{held:Bool}{r:Reach}{b y t:Nat}{v:Value}{d:DataW H}{F:List MemPlace}(hΓ:∀g,g<w.heap.size->Γ.St g)(i:(Ep P 20 t).isSome=true)(Ok:aa1 P w r b t v)(A:DataW.Trod enc P w y sp held t v d F) :
  ∃u,Si P t u/\VP Γ sh w u v:=by
 obtain⟨c,p⟩:=p5.1 i;obtain⟨m,D⟩:=A;obtain⟨a,q,f⟩:=GD 20 t c m _ _ p D;have lift:∀{x:SV} {V:Value},VS (· < w.heap.size) w x V->VS Γ.St w x V:=λh=>h.mono (λ_ _=>rfl) hΓ
 cases n:Nz P t with
 | true=>
  refine⟨.agg (a.map .s),⟨c,a,p,q,.inl ⟨n,rfl⟩⟩,?_⟩;have:∃l,v = .agg l:=by
   unfold Nz at n;simp only[aa1] at Ok;grind
  obtain⟨l,rfl⟩:=this;simp only[Value.cells] at f;refine VP.mk_agg (by simpa using f.1) λj B=>?_
  have o:j<a.length:=by simpa using B
  obtain⟨U,e,k⟩:=f.2 j o;exact⟨U,by simpa using e,by rw[j1];exact .s _ _ (lift k)⟩
 | false=>
  have z:v.cells = #[v]:=by
   have:=Dd1 n Ok;cases v with
   | agg l=>exact(this l rfl).elim
   | _=>rfl
  rw[z] at f;have C:a.length=1:=by have:=f.1;simpa using this.symm
  obtain⟨x,rfl⟩:∃x,a=[x]:=by
   match a,C with
   | [x],_=>exact⟨x,rfl⟩
  obtain⟨U,e,k⟩:=f.2 0 (by simp);simp only[ac6,b8] at e;subst e;exact⟨.s x,⟨c,[x],p,q,.inr ⟨n,x,rfl,rfl⟩⟩,.s _ _ (lift k)⟩
theorem RA{Γ:Ctx}{sh:Nat->Option Shp}{sp:Nat->Bool}{held:Bool}{r:Reach}{b x:Nat}(hΓ:∀g,g<w.heap.size->Γ.St g):∀(f:List Nat) (i:List Value) (ds:List (DataW H)) (n:List MemPlace),(∀t∈f,(Ep P 20 t).isSome=true)->(∀(j:Nat) t v,f[j]? = some t->i[j]? = some v->aa1 P w r b t v)->ab6 enc P w x sp held f i ds n->
  ∃a,Lp P f a/\i.length=a.length/\ds.length=f.length/\∀j (h:j<a.length),∃U,i[j]? = some U/\VP Γ sh w (a[j]) U
 | [],i,ds,n,_,_,h=>by
  obtain⟨rfl,rfl,_⟩:=trodAll_nil h;exact⟨[],rfl,rfl,rfl,λj l=>by simp at l⟩
 | t::f,i,ds,n,c,Ok,h=>by
  obtain⟨v,o,d,m,p,q,rfl,rfl,rfl,C,D⟩:=trodAll_cons h;obtain⟨u,I,J⟩:=Cs3 (Γ:=Γ) (sh:=sh) hΓ (c t (by simp)) (Ok 0 t v rfl rfl) C;obtain⟨a,y,z,A,B⟩:=RA (Γ:=Γ) (sh:=sh) hΓ f o m q (λt F=>c t (by simp[F])) (λj t v l G=>Ok (j+1) t v (by simpa using l) (by simpa using G)) D;refine⟨u::a,⟨u,a,rfl,I,y⟩,by simp[z],by simp[A],λj l=>?_⟩;cases j with
  | zero=>exact⟨v,rfl,J⟩
  | succ j=>
   obtain⟨U,e,k⟩:=B j (by simpa using l);grind
theorem JD(g:laidOutB P=true){w':World}{ts:List Nat}{vs:List Value}{ds:List (DataW H)}{ps:List MemPlace}:∀{ts:List Nat} {vs:List Value} {ds:List (DataW H)} {ps:List MemPlace},(∀t∈ts,P.readableRec t=true/\t<P.types.size)->ab6 enc P w 0 (λ_=>true) true ts vs ds ps->(∀x∈ps,w.sameAt w' x)->∀sp:Nat->Bool,(∀x∈ps,sp x.block=true)->
  ab6 enc P w' 0 sp true ts vs ds ps
 | [],vs,ds,ps,_,h,_,sp,_=>by
  obtain⟨rfl,rfl,rfl⟩:=trodAll_nil h;exact trodAll_mk0
 | t::ts,vs,ds,ps,e,h,i,sp,b=>by
  obtain⟨v,f,d,c,p,q,rfl,rfl,rfl,j,k⟩:=trodAll_cons h;refine⟨p,q,WideElems.Trod_stays g (e t (by simp)).1 (e t (by simp)).2 j (λx a=>i x (by simp[a])) (λx a=>b x (by simp[a])),JD g (w':=w') (ts:=ts) (vs:=f) (ds:=c) (ps:=q) (λt l=>e t (by simp[l])) k (λx a=>i x (by simp[a])) sp (λx a=>b x (by simp[a])),rfl⟩
theorem NZ{f:Func}{s:ChangeSpec}{c fresh d k:Bool}{W m:World}{args:Array Value}{v:Value}{ds n:List (DataW H)}{a pa pv:List MemPlace}
  (u:ah2 enc P f.params.toList s.vars c W args.toList ds n a)
  (i:∀(b:Nat) (sp:Nat->Bool) (B:Bool),ab6 enc P m b sp B f.resultTypes.toList (v.resultList f.resultTypes.size) (s.fn H (ds++n)).results [])
  (e:∀sp:Nat->Bool,(∀p∈a,sp p.block=true)->ab6 enc P m 0 sp true f.params.toList args.toList (s.fn H (ds++n)).args pa)
  (g:∀sp:Nat->Bool,(∀p∈a,sp p.block=true)->DataW.TrodVars enc P m sp s.vars (s.fn H (ds++n)).vars pv)
  (l:a=pa++pv) (z:Below W.heap.size W m)
  (y:∀(j:Nat) (t:TypeId) (r:Value),f.resultTypes[j]? = some t->(v.resultList f.resultTypes.size)[j]? = some r->aa1 P m .any 0 t r) :
  s.post enc P f c fresh d k W args v m:=by
 have h:∀p∈a,(λb=>decide (b<W.heap.size)) p.block=true:=λp o=>by simpa using u.lt p o
 refine⟨ds,n,a,[],pa,pv,u,i _ _ _,e _ h,g _ h,z.frame _,λ_=>?_⟩;have x:=u.lt;obtain⟨_,_,_,_,_,D,C⟩:=u;refine⟨y,_,_,([]++pa)++pv,⟨[]++pa,pv,trodAll_append (e _ (λ_ _=>rfl)) (i _ _ _),g _ (λ_ _=>rfl),rfl,?_,?_⟩,?_⟩
 ·intro b off o;have q:MemPlace.cell b off∈a:=by rw[l];simpa using o
  rw[z.frozen (x _ q)];exact D b off q
 ·intro A;have:=C A;rw[l] at this;simpa using this
 ·intro p o _;rw[l];simpa using o
end
theorem Bl2{P:Program}{f:Nat}{a:Array Value}{w:World}{R:Value->World->Prop}(b:(callFunc f a).run P w = .ok (.enter f a) w)(h:T2 P ((callFunc f a).run P w) R):Calls P f a w λe w'=>∃V,e = .returned V/\R V w':=by
 rw[b] at h;have:=h none 1 { op:=.move (.const undef),dst:=some 0,guard:=none,type:=0,after:=#[],pos:=default } { tmps:=#[undef],defers:=[] } (λg w'=>∃V,g.tmps[0]? = some V/\R V w') (λ_ _ _=>False) (λV w' k=>⟨V,by simp[ae3],k⟩);rw[ac4] at this;have j:CallsIn ab5 0 P f a w _:=this.2;refine(callsIn_wide.1 j).mono λe w' d=>?_
 cases e with
 | returned v=>
  obtain⟨V,i,l⟩:=d;simp[ae3] at i;grind
 | panicked c=>exact d.elim
 | outgrown=>obtain⟨_,_,h⟩:=d;exact h.elim
def noY:Yh Unit:=λ_ _=>none
theorem Cl1{H:Type}{enc:TypeId × Value->H}{C:Cfg}{f R:Nat}{fn:Func}{c:Code}{s:ChangeSpec}{apart fresh handsOn again:Bool}(hX:XOK C)(hO:Oo C)(hm:C.P.follows .mixedOrders=true)(hl:laidOutB C.P=true)(I:C.P.funcs[f]? = some fn)(hb:fn.body=some c)(r:(fn.name == "runtime.NumGoroutine")=false)
  (Q:∀t∈fn.params.toList,(C.P.readableRec t=true/\t<C.P.types.size)/\(Ep C.P 20 t).isSome=true) (n:fn.resultTypes = #[R]) (a:C.P.underlying R=some .bool) (i:s.vars=[])
  (y:∀ds:List (DataW H),ds.length=fn.params.toList.length->s.fn H ds = { results:=[.lit (.bool true)],args:=ds })
  (G:∀args,Lp C.P fn.params.toList args->∃d D,evC C d Unit noY f args [] ()=some (.s (.bool true),D,()))
  (W:World) (Z:GOK C (· < W.heap.size) W) (base:Nat) (args:Array Value) (ds S:List (DataW H)) (l:List MemPlace)
  (Ok:∀(j:Nat) t v,fn.params[j]? = some t->args[j]? = some v->aa1 C.P W .any base t v)
  (O:ah2 enc C.P fn.params.toList s.vars apart W args.toList ds S l) :
  Calls C.P f args W λe F=>∃v,e = .returned v/\s.post enc C.P fn apart fresh handsOn again W args v F:=by
 have o:=O;obtain⟨p,q,hA,hV,rfl,a0,a1⟩:=O;rw[i] at hV;obtain⟨rfl,rfl⟩:=trodVars_none hV;let Γ:Ctx:={ St:=(· < W.heap.size),nm:=λ_=>none,yv:=.nilFunc,yv1:=rfl }
 obtain⟨B,N,T,X,Y⟩:=RA (Γ:=Γ) (sh:=A5 []) (λ_ h=>h) fn.params.toList args.toList ds p (λt L=>(Q t L).2) (λj t v J M=>Ok j t v (by simpa using J) (by simpa using M)) hA;obtain⟨d,D,P⟩:=G B N;have hS:=Kp hX hO hm d Unit I0 noY .nilFunc Cf5 Cf6 f B [] () _ D () P Γ noΦ W args rfl (Lv (λ_=>rfl) (λ_ h=>h)) Z (λ_ h=>h) (λb g h=>by cases h)
  ⟨by rw[<-ab9];exact T,λj J=>by obtain⟨U,e,k⟩:=Y j J;exact⟨U,by simpa using e,k⟩⟩ (by rw[N.nms];simp)
 refine(Bl2 (Pl I hb r) hS).mono ?_;rintro e F ⟨V,rfl,Γ',Φ',z,hH,M,_⟩;have hV:=M.inv_bool;subst hV;have m:Below W.heap.size W F:=⟨z.os,z.tape,z.output,z.size,λk hk=>z.frame k hk (λb=>by simp[Γ]) (λx=>x)⟩
 simp only[x4] at o;refine⟨_,rfl,?_⟩;have u:=y ds X;have K:=o.lt;refine NZ (pa:=p) (pv:=[]) o (λb sp P=>?_) (λsp A=>?_) (λsp _=>?_) (by simp) m ?_
 ·rw[x4,u,n];exact trodAll_cons_mk (shut_bool a _) trodAll_mk0
 ·rw[x4,u];exact JD hl (w:=W) (ts:=fn.params.toList) (vs:=args.toList) (ds:=ds) (ps:=p) (λt L=>(Q t L).1) hA (λx hx=>m.same (K x hx)) sp A
 ·rw[x4,u,i];rfl
 ·exact ok_one n rfl (okWide_bool_mk a _)
end
section
open Go
def B3(P:Program)(G:GT)(g:Nat)(pf:List PV->Tr):Prop:=
 ∀args ret c,L9 (pf args)=some (ret,c)->∀C:Cfg,C.P=P->C.G=G->∀a w d,(∀b,a.nm b=none)->HR a [] w->GOK C a.St w->CR a (A5 []) w args d->
  T2 P ((callFunc g d).run P w) (Eb C I0 a [] w noΦ ret c ())
theorem Qq{C₀:Cfg}{g:Nat}{pf:List PV->Tr}(y:XOK C₀)(x:Oo C₀)(B:C₀.P.follows .mixedOrders=true)
  (h:∀args ret c,L9 (pf args)=some (ret,c)->C6 args=[]/\∃d,evC C₀ d Unit noY g args [] ()=some (ret,c,())):B3 C₀.P C₀.G g pf:=by
 intro args ret c o C F f p w t n v u A;obtain⟨m,d,k⟩:=h args ret c o;have e:GOK C₀ p.St w:=u.congr f.symm;refine(Kp y x B d Unit I0 noY p.yv Cf5 Cf6 g args [] () ret c () k p noΦ w t rfl v e (λ_ h=>h) (λb g h=>by rw[n] at h;cases h) A (by rw[m];simp)).mono ?_;rintro V w' ⟨q,r,a,i,D,hvn,l,j⟩;exact⟨q,r,⟨a.os,a.tape,a.output,a.size,a.sub,a.stnew,a.own,a.foot,a.frame,a.yv,a.len,λb z=>by simp at z⟩,i,D,hvn,l,j⟩
def Tr.snap:Tr->Tr
 | .ret v H=>cond (v.snap H).nms.isEmpty (.ret (v.snap H) []) .fail
 | .need c t=>.need c t.snap
 | .split c a b=>.split c a.snap b.snap
 | .fail=>.fail
theorem Tr.snap_res:∀{t:Tr} {v:PV} {H:List Blk},L9 t.snap=some (v,H)->∃v' H',L9 t=some (v',H')/\v=v'.snap H'/\H=[]/\v.nms=[]
 | .ret v' H',v,H,h=>by
  simp only[Tr.snap] at h;cases he:(v'.snap H').nms.isEmpty with
  | false=>rw[he] at h;cases h
  | true=>
   rw[he] at h;simp only[cond_true,L9,Ht,b8,v7] at h;obtain⟨rfl,rfl⟩:=h;exact⟨v',H',rfl,rfl,rfl,aa0.1 he⟩
 | .need c t,v,H,h=>by
  cases c with
  | true=>exact Tr.snap_res (t:=t) h
  | false=>cases h
 | .split c a b,v,H,h=>by
  cases c with
  | true=>exact Tr.snap_res (t:=a) h
  | false=>exact Tr.snap_res (t:=b) h
 | .fail,_,_,h=>by cases h
theorem B3.snap{P:Program}{G:GT}{g:Nat}{pf:List PV->Tr}(h:B3 P G g pf):B3 P G g (λargs=>(pf args).snap):=by
 intro args ret Hc hpf C hP hGe Γ w Vs hnm hH hG hc;obtain⟨ret',Hc',hpf',rfl,rfl,hnr⟩:=Tr.snap_res hpf;refine(h args ret' Hc' hpf' C hP hGe Γ w Vs hnm hH hG hc).mono ?_;rintro V w' ⟨Γ1,Φ1,hs,hH1,hv,hvn,hi1,hd1⟩;let Γ2:Ctx:={ Γ1.all with nm:=λ_=>none }
 have hlt:∀g,Γ2.St g->g<w'.heap.size:=λg hg=>by
  rcases hg with hg|⟨b,hb⟩
  ·exact hH1.stlt g hg
  ·exact(hH1.lt b g hb).2.1
 refine⟨Γ2,Φ1,⟨hs.os,hs.tape,hs.output,hs.size,λg hg=>.inl (hs.sub g hg),λg hg=>?_,λb g h=>by simp[Γ2] at h,hs.foot,hs.frame,hs.yv,j7 _,λb hb=>by simp at hb⟩,
  Lv (λ_=>rfl) hlt,?_,by rw[hnr];simp,hi1,λb g h=>by simp[Γ2] at h⟩
 ·rcases hg with hg|⟨b,hb⟩
  ·exact hs.stnew g hg
  ·rcases hs.own b g hb with⟨h',_⟩|h'
   all_goals grind
 ·exact VP.mono (Γ:=Γ1.all) (Γ':=Γ2) (w:=w') (w':=w') (sh:=A5 Hc') (ok:=λ_=>False) ⟨λ_ _=>rfl,λ_ h=>h,λ_ h=>h.elim,λ_ h=>h.elim,λ_ _ h=>h.elim,rfl⟩ (hv.snap hH1) (by rw[hnr];simp)
def As8:List (Nat × (List PV->Tr))->Nat->Option (List PV->Tr)
 | [],_=>none
 | (g,a)::r,n=>cond (x5 n g) (some a) (As8 r n)
def M5(P:Program)(G:GT):List (Nat × (List PV->Tr))->Prop
 | []=>True
 | (g,a)::r=>B3 P G g a/\M5 P G r
theorem M5.x1{C:Cfg}{l:List (Nat × (List PV->Tr))}(hl:C.X=As8 l)(h:M5 C.P C.G l):D06 C:=by
 intro g pf args ret Hc hg hpf Γ w Vs hnm hH hG hc;rw[hl] at hg;have key:∀l:List (Nat × (List PV->Tr)),M5 C.P C.G l->As8 l g=some pf->B3 C.P C.G g pf:=by
  intro l
  induction l with
  | nil=>intro _ h;cases h
  | cons e r ih=>
   intro h1 h2;obtain⟨n,q⟩:=e;simp only[As8] at h2;cases hb:x5 g n with
   | true=>
    rw[hb] at h2;simp only[cond_true,b8] at h2;have:=o6 hb;subst this;subst h2;exact h1.1
   | false=>
    rw[hb] at h2;exact ih h1.2 h2
 exact key l h hg args ret Hc hpf C rfl rfl Γ w Vs hnm hH hG hc
theorem KO{C a:Cfg}(h:C.P=a.P):Mh C=Mh a:=by
 funext s
 unfold Mh;split
 ·simp only[Pp,Cfg.sh,h]
 ·rfl
 ·rfl
theorem Stp.congr{C C':Cfg}(h:C.P=C'.P){Γ Γ':Ctx}{H H':List Blk}{w w':World}{Φ Φ':Nat->Prop}(s:Stp C Γ H w Φ Γ' H' w' Φ'):Stp C' Γ H w Φ Γ' H' w' Φ':=
 ⟨s.os,s.tape,s.output,s.size,s.sub,s.stnew,s.own,s.foot,s.frame,s.yv,s.len,λb hb hf=>s.keep b hb (by rw[KO h];exact hf)⟩
def DG(P:Program)(G:GT)(g:Nat)(i:List PV->List Blk->Tr):Prop:=
 ∀C:Cfg,C.P=P->C.G=G->∀(Z:Type) (I:Z->(Nat->Prop)->(Nat->Prop)->World->Prop) (j:Yh Z) (h:Value),HI I->Ay0 P I j h->
  ∀args H s ret e,L9 (i args H)=some (ret,e)->∀a d w f,a.yv=h->HR a H w->GOK C a.St w->I s a.St d w->(∀b g,a.nm b=some g->¬d g)->CR a (A5 H) w args f->(∀c∈C6 args,c<H.length)->
   T2 P ((callFunc g f).run P w) (Eb C I a H w d ret e s)
def Bn5(P:Program)(G:GT)(g:Nat)(j:List PV->List Blk->Option (Bool × List (List PV))):Prop:=
 ∀C:Cfg,C.P=P->C.G=G->∀(Z:Type) (I:Z->(Nat->Prop)->(Nat->Prop)->World->Prop) (h:Yh Z) (i:Value),HI I->Ay0 P I h i->
  ∀args H L s f,j args H=some (true,L)->H.all QI=true->Dq h L s=some f->∀a d w e,a.yv=i->HR a H w->GOK C a.St w->I s a.St d w->(∀b g,a.nm b=some g->¬d g)->CR a (A5 H) w args e->(∀c∈C6 args,c<H.length)->
   T2 P ((callFunc g e).run P w) (Eb C I a H w d (.tup []) (H.map Kl) f)
theorem Ck5{C o:Cfg}{Z:Type}{I:Z->(Nat->Prop)->(Nat->Prop)->World->Prop}{S:Ctx}{H B:List Blk}{w w':World}{Φ:Nat->Prop}{s':Z}{V:Value}(hP:o.P=C.P)(hb:H.all QI=true)(hH:HR S H w)(h:Eb o I S H w Φ (.tup []) B s' V w'):Eb C I S H w Φ (.tup []) (H.map Kl) s' V w':=by
 obtain⟨n,T,l,G,k2,k3,k4,k5⟩:=h;have z:∀b g,(if b<H.length then n.nm b else none)=some g->b<H.length/\n.nm b=some g:=λb g h=>by grind
 have p:(H.map Kl).length=H.length:=p6 _;refine⟨{ n with nm:=λb=>if b<H.length then n.nm b else none },T,⟨l.os,l.tape,l.output,l.size,l.sub,l.stnew,λb g v=>l.own b g (z b g v).2,l.foot,l.frame,l.yv,by rw[p];exact j7 _,λb f hf=>?_⟩,
  ⟨λb U g K M=>G.inj b U g (z b g K).2 (z U g M).2,λb g v=>?_,G.stlt,λb f c Y=>?_,λb f=>?_⟩,?_,by simp[PV.nms,C6],k4,λb g v=>k5 b g (z b g v).2⟩
 ·obtain⟨m1,Q,R⟩:=l.keep b f (by rw[KO hP];exact hf);refine⟨by simp only;rw[if_pos f];exact m1,?_,R⟩;simp only[A5,x7];cases H[b]? with
  | none=>rfl
  | some x=>exact congrArg some (PK x)
 ·obtain⟨q1,q2⟩:=z b g v;have:=G.lt b g q2;grind
 ·rw[j1,PJ] at Y;simp at Y
 ·rw[p] at f;rw[j1];have k:=j5.1 hb _ (b9 f);have X:=hH.blk b f;cases r:H[b] with
  | box cells=>
   rw[r] at X;obtain⟨g,a0,e,K,M,W,_⟩:=X;obtain⟨m1,Q,R⟩:=l.keep b f (by simp only[A5,a8 f,r];exact trivial);have y:b<B.length:=j4 f l.len;have u:=G.blk b y;have i:(B[b]).shp = .box:=by
    simp only[A5,a8 f,a8 y,v8,b8] at Q;rw[Q,r];rfl
   cases F:B[b] with
   | box D=>
    rw[F] at u;obtain⟨J,m,e',L,t,a1,a2⟩:=u;have N:J=g:=by grind
    subst N;have q:=R J K;simp only[World.shape?,M,t,b8,v7] at q;refine⟨J,m,e',by simp only;rw[if_pos f];exact L,t,by rw[q.2,W];simp,λj O=>?_⟩;have P:j<m.size:=by rw[q.2,W];simpa using O
    exact⟨m[j],aa2 P,by rw[j1];exact .bad _⟩
   | arr a b c d=>rw[F] at i;cases i
   | iter a b=>rw[F] at i;cases i
   | dead=>rw[F] at i;cases i
  | arr a b c d=>rw[r] at k;cases k
  | iter a b=>rw[r] at k;cases k
  | dead=>rw[r] at k;cases k
 ·obtain⟨A,rfl,hA,a3⟩:=k2.inv_tup;exact VP.mk_tup hA λj O=>by simp at O
theorem Ar0{C₀:Cfg}{g:Nat}{m:List PV->List Blk->Option (Bool × List (List PV))}(t:XOK C₀)(q:Oo C₀)(z:C₀.P.follows .mixedOrders=true)
  (h:∀args H L,m args H=some (true,L)->∀(Z:Type) (e:Yh Z) (s c:Z),Dq e L s=some c->∃d f,evC C₀ d Z e g args H s=some (.tup [],f,c)):Bn5 C₀.P C₀.G g m:=by
 intro C r o Z I e F p D args H L s c j u b G J w n k l x y a v A;obtain⟨d,f,i⟩:=h args H L j Z e s c b;exact(Kp t q z d Z I e F p D g args H s _ f c i G J w n k l (x.congr o.symm) y a v A).mono λV w' B=>Ck5 r.symm u l B
def CY{a:Type}:List (Nat × a)->Nat->Option a
 | [],_=>none
 | (g,b)::r,n=>cond (x5 n g) (some b) (CY r n)
theorem NF{b:Type}:∀{l:List (Nat × b)} {g:Nat} {a:b},CY l g=some a->(g,a)∈l
 | [],_,_,h=>by cases h
 | (n,q)::r,g,a,h=>by
  simp only[CY] at h;cases c:x5 g n with
  | true=>
   simp_all
  | false=>
   rw[c] at h;exact ad7 _ (NF h)
def Oz(P:Program)(G:GT):List (Nat × (List PV->List Blk->Tr))->Prop
 | []=>True
 | (g,a)::r=>DG P G g a/\Oz P G r
def Oq(P:Program)(G:GT):List (Nat × (List PV->List Blk->Option (Bool × List (List PV))))->Prop
 | []=>True
 | (g,a)::r=>Bn5 P G g a/\Oq P G r
theorem Oz.mem{P:Program}{G:GT}:∀{l:List (Nat × (List PV->List Blk->Tr))} {g:Nat} {pf:List PV->List Blk->Tr},Oz P G l->(g,pf)∈l->DG P G g pf
 | [],_,_,_,hm=>by simp at hm
 | (n,q)::r,g,pf,h,hm=>by
  rcases p9.1 hm with e|hm
  ·cases e;exact h.1
  ·exact Oz.mem h.2 hm
theorem Oq.mem{P:Program}{G:GT}:∀{l:List (Nat × (List PV->List Blk->Option (Bool × List (List PV))))} {g:Nat} {pf:List PV->List Blk->Option (Bool × List (List PV))},Oq P G l->(g,pf)∈l->Bn5 P G g pf
 | [],_,_,_,hm=>by simp at hm
 | (n,q)::r,g,pf,h,hm=>by
  rcases p9.1 hm with e|hm
  ·cases e;exact h.1
  ·exact Oq.mem h.2 hm
theorem Oz.ok{C:Cfg}{l:List (Nat × (List PV->List Blk->Tr))}(hl:C.Y=CY l)(h:Oz C.P C.G l):Bv C (clY C):=by
 intro Z I yh yv hI hy g args H s ret Hc s' hcl Γ Φ w Vs hyv hH hg hi hd hc hn;simp only[clY,hl] at hcl;split at hcl
 ·rename_i pf hpf;split at hcl
  ·rename_i r' h' hr;simp only[b8,v7] at hcl;obtain⟨rfl,rfl,rfl⟩:=hcl;exact h.mem (NF hpf) C rfl rfl Z I yh yv hI hy args H s _ _ hr Γ Φ w Vs hyv hH hg hi hd hc hn
  grind
 ·cases hcl
theorem Oq.ok{C:Cfg}{l:List (Nat × (List PV->List Blk->Option (Bool × List (List PV))))}(hl:C.S=CY l)(h:Oq C.P C.G l):Bv C (clS C):=by
 intro Z I yh yv hI hy g args H s ret Hc s' hcl Γ Φ w Vs hyv hH hg hi hd hc hn;simp only[clS,hl] at hcl;split at hcl
 ·rename_i pf hpf;split at hcl
  ·rename_i hb;split at hcl
   ·rename_i L hL;split at hcl
    ·rename_i s2 hr;simp only[b8,v7] at hcl;obtain⟨rfl,rfl,rfl⟩:=hcl;exact h.mem (NF hpf) C rfl rfl Z I yh yv hI hy args H L s _ hL hb hr Γ Φ w Vs hyv hH hg hi hd hc hn
    grind
   grind
  grind
 ·cases hcl
theorem Vt{C:Cfg}{lx:List (Nat × (List PV->Tr))}{ly:List (Nat × (List PV->List Blk->Tr))}{ls:List (Nat × (List PV->List Blk->Option (Bool × List (List PV))))}(a:C.X=As8 lx)(b:C.Y=CY ly)(c:C.S=CY ls)(x:M5 C.P C.G lx)(y:Oz C.P C.G ly)(s:Oq C.P C.G ls):XOK C:=
 ⟨M5.x1 a x,Oz.ok b y,Oq.ok c s⟩
theorem M5.ok{C:Cfg}{l:List (Nat × (List PV->Tr))}(hl:C.X=As8 l)(h:M5 C.P C.G l)(h2:C.Y=CY []:=by rfl)(h3:C.S=CY []:=by rfl):XOK C:=
 Vt hl h2 h3 h trivial trivial
def okL:List Nat->Nat->Bool
 | [],_=>false
 | a::r,n=>x5 n a||okL r n
def A75(C:Cfg)(l:List Nat):Bool:=l.all λf=>match C.P.funcs[f]? with
 | some fn=>match fn.body with
  | some c=>Cl0 C c && !(fn.name == "runtime.NumGoroutine")
  | none=>true
 | none=>true
theorem I9{C:Cfg}{l:List Nat}(d:C.okf=okL l)(h:A75 C l=true):Oo C:=by
 intro f fn c b g e;have key:∀l:List Nat,okL l f=true->f∈l:=by
  intro l
  induction l with
  | nil=>intro h;cases h
  | cons a r j=>
   intro h;simp only[okL,y5] at h;rcases h with h|h
   all_goals simp_all
 have i:f∈l:=key l (by rw[<-d];exact b);simp only[A75,j5] at h;grind
def cd:List Nat->Code->Code
 | [],c=>c
 | 0::p,.seq a _=>cd p a
 | 1::p,.seq _ b=>cd p b
 | 0::p,.cond _ a _=>cd p a
 | 1::p,.cond _ _ b=>cd p b
 | 0::p,.block _ a=>cd p a
 | 0::p,.loop a=>cd p a
 | 0::p,.scope a=>cd p a
 | 0::p,.rangeFunc _ _ a _=>cd p a
 | 1::p,.rangeFunc _ _ _ b=>cd p b
 | _,_=>.skip
def G2:List Nat->Code->Code->Code
 | [],b,_=>b
 | 0::p,b,.seq x y=>.seq (G2 p b x) y
 | 1::p,b,.seq x y=>.seq x (G2 p b y)
 | 0::p,b,.cond c x y=>.cond c (G2 p b x) y
 | 1::p,b,.cond c x y=>.cond c x (G2 p b y)
 | 0::p,b,.block id x=>.block id (G2 p b x)
 | 0::p,b,.loop x=>.loop (G2 p b x)
 | 0::p,b,.scope x=>.scope (G2 p b x)
 | 0::p,b,.rangeFunc g a x y=>.rangeFunc g a (G2 p b x) y
 | 1::p,b,.rangeFunc g a x y=>.rangeFunc g a x (G2 p b y)
 | _,_,c=>c
def C3(f:Func):Code:=f.body.getD .skip
section
variable {Z R : Type}
def bd(C:Cfg)(a:F8)(d:Yh Z)(c:Code):St Z->(Out->St Z->Option R)->Option R:=λb k=>A9 C a d c b k
def D9(C:Cfg)(c:F8)(d:Yh Z)(b:Code)(k:Out->St Z->Option R):Out->St Z->Option R:=λo a=>match o with
 | .normal=>A9 C c d b a k
 | o=>k o a
def E0(id:Nat)(k:Out->St Z->Option R):Out->St Z->Option R:=λo a=>match o with
 | .exit j=>if j=id then k .normal a else k (.exit j) a
 | o=>k o a
def F0(C:Cfg)(fn:Func):Out->St Z->Option (PV × List Blk × Z):=λo a=>match o with
 | .normal=>FG C a.sl a.hp fn.results.toList λb=>some (Cf b,a.hp,a.s)
 | .ret=>FG C a.sl a.hp fn.results.toList λb=>some (Cf b,a.hp,a.s)
 | _=>none
def lpK(L:Nat)(ds:Option (List Nat))(a:St Z->(Out->St Z->Option R)->Option R)(n:Nat)(k:Out->St Z->Option R):Out->St Z->Option R:=λo b=>match o with
 | .normal=>C7 L ds a n (Mj ds (Y6 L b)) k
 | o=>k o (Mj ds b)
end
theorem Ds9{C:Cfg}{d f:Nat}{fn:Func}{Z:Type}{e:Yh Z}{args:List PV}{H:List Blk}{s:Z}(h:C.P.funcs[f]? = some fn)(g:C.okf f=true)(a:fn.body=some (C3 fn)) :
  evC C (d+1) Z e f args H s=A9 C (evC C d) e (C3 fn) { sl:=args++x6 (fn.ntmps-args.length) (.tup []),hp:=H,s:=s } (F0 C fn):=by
 simp only[evC,g,h];split
 ·rename_i c b;rw[b] at a;simp only[b8] at a;rw[<-a];rfl
 ·rename_i b;rw[b] at a;cases a
theorem evE{C:Cfg}{d f:Nat}{fn:Func}{Z:Type}{a:Yh Z}{args:List PV}{H:List Blk}{s:Z}(h:(C.P.funcs[f]?,C.okf f,fn.body)=(some fn,true,some (C3 fn))) :
  evC C (d+1) Z a f args H s=A9 C (evC C d) a (C3 fn) { sl:=args++x6 (fn.ntmps-args.length) (.tup []),hp:=H,s:=s } (F0 C fn):=by
 simp only[v7] at h;exact Ds9 h.1 h.2.1 h.2.2
def Js:List Nat->List Blk->List Blk
 | [],H=>H
 | i::r,H=>Js r (H.set i .dead)
def A17(a:List Nat)(ret:PV)(H:List Blk):Bool:=a.all λi=>!(ret.nms.contains i)&&(Js a H).all λb=>!(b.nms.contains i)
theorem DO:∀(b:List Nat) (H:List Blk),(Js b H).length=H.length/\∀i (h:i<(Js b H).length) (c:i<H.length),(i∈b/\(Js b H)[i] = .dead)\/(i∉b/\(Js b H)[i]=H[i])
 | [],H=>⟨rfl,λi h c=>.inr ⟨by simp,rfl⟩⟩
 | a::r,H=>by
  obtain⟨d,e⟩:=DO r (H.set a .dead);simp only[Js];grind
theorem Eb.dead{C:Cfg}{Γ:Ctx}{w w':World}{ret:PV}{Hc:List Blk}{V:Value}{idx:List Nat}(h:Eb C I0 Γ [] w noΦ ret Hc () V w')(hok:A17 idx ret Hc=true):Eb C I0 Γ [] w noΦ ret (Js idx Hc) () V w':=by
 obtain⟨Γ1,Φ1,hs,hH1,hv,hvn,hi1,hd1⟩:=h;obtain⟨hl,hsp⟩:=DO idx Hc;simp only[A17,j5,c9,y8,List.contains_iff_mem,<-Bool.not_eq_true] at hok;let Γ2:Ctx:={ Γ1 with nm:=λb=>if b∈idx then none else Γ1.nm b }
 have hnm:∀b g,Γ2.nm b=some g->b∉idx/\Γ1.nm b=some g:=λb g h=>by
  simp only[Γ2] at h;split at h
  ·cases h
  ·exact⟨‹_›,h⟩
 have M:Ah Γ1 (A5 Hc) w' Γ2 (A5 (Js idx Hc)) w' (·∉idx):=⟨λ_ _=>rfl,λ_ h=>h,λb hb=>by simp only[Γ2];rw[if_neg hb],λb hb=>by
  simp only[A5];by_cases hlt:b<Hc.length
  ·rcases hsp b (by omega) hlt with⟨q,_⟩|⟨_,q⟩
   ·exact absurd q hb
   ·rw[a8 (by omega),a8 hlt,q]
  ·rw[ab4 (by omega),ab4 (by omega)],λ_ _ _ _=>rfl,rfl⟩
 refine⟨Γ2,Φ1,⟨hs.os,hs.tape,hs.output,hs.size,hs.sub,hs.stnew,λb g h=>hs.own b g (hnm b g h).2,hs.foot,hs.frame,hs.yv,Nat.zero_le _,λb hb=>by simp at hb⟩,
  ⟨λb b' g h1 h2=>hH1.inj b b' g (hnm b g h1).2 (hnm b' g h2).2,λb g h=>by have:=hH1.lt b g (hnm b g h).2;rw[hl];exact this,hH1.stlt,λb hb c hc=>?_,λb hb=>?_⟩,
  hv.mono M (λb hb hi=>by have:=(hok b hi).1;exact this hb),λc hc=>by rw[hl];exact hvn c hc,hi1,λb g h=>hd1 b g (hnm b g h).2⟩
 ·have hlt:b<Hc.length:=by omega
  rcases hsp b hb hlt with⟨_,q⟩|⟨_,q⟩
  ·rw[q] at hc;simp[Blk.nms] at hc
  ·rw[q] at hc;rw[hl];exact hH1.nms b hlt c hc
 ·have hlt:b<Hc.length:=by omega
  rcases hsp b hb hlt with⟨_,q⟩|⟨q0,q⟩
  ·rw[q];trivial
  ·rw[q];refine(hH1.blk b hlt).mono M (M.nm b q0) (λ_ _=>rfl) (λc hc hi=>?_);have:=(hok c hi).2 _ (b9 hb);rw[q] at this;exact this hc
theorem Cm{C₀:Cfg}{g:Nat}{pf:List PV->Tr}(y:XOK C₀)(u:Oo C₀)(B:C₀.P.follows .mixedOrders=true)
  (h:∀args ret i,L9 (pf args)=some (ret,i)->C6 args=[]/\∃d e c,evC C₀ d Unit noY g args [] ()=some (ret,e,())/\A17 c ret e=true/\Js c e=i):B3 C₀.P C₀.G g pf:=by
 intro args ret i f C v j D w o m t q z;obtain⟨l,d,e,c,k,A,rfl⟩:=h args ret i f;have p:=Qq (C₀:=C₀) (g:=g) (pf:=λa=>match L9 (pf a) with|some _=>(match evC C₀ d Unit noY g a [] () with|some (r,H,_)=>cond (C6 a).isEmpty (.ret r H) .fail|none=>.fail)|none=>.fail) y u B (λa r H b=>by
  split at b
  ·split at b
   ·rename_i G H' _ F;cases n:(C6 a).isEmpty with
    | true=>
     rw[n] at b;simp only[cond_true,L9,Ht,b8,v7] at b;grind
    | false=>rw[n] at b;cases b
   ·cases b
  ·cases b)
 refine(p args ret e ?_ C v j D w o m t q z).mono λV w' x=>x.dead A
 dsimp only;rw[f];dsimp only;rw[k];dsimp only;rw[l];rfl
theorem Ab5{C₀:Cfg}{g:Nat}{pf:List PV->Tr}(y:XOK C₀)(v:Oo C₀)(A:C₀.P.follows .mixedOrders=true)
  (h:∀args ret f,L9 (pf args)=some (ret,f)->C6 args=[]/\f=[]/\ret.nms=[]/\∃d b e,evC C₀ d Unit noY g args [] ()=some (b,e,())/\b.snap e=ret):B3 C₀.P C₀.G g pf:=by
 intro args ret f n C x i B w p l u t z;obtain⟨k,rfl,m,d,b,e,j,rfl⟩:=h args ret f n;have q:=Qq (C₀:=C₀) (g:=g) (pf:=λa=>match evC C₀ d Unit noY g a [] () with|some (r,H,_)=>cond (C6 a).isEmpty (.ret r H) .fail|none=>.fail) y v A (λa r H c=>by
  split at c
  ·rename_i F H' _ D;cases o:(C6 a).isEmpty with
   | true=>
    rw[o] at c;simp only[cond_true,L9,Ht,b8,v7] at c;grind
   | false=>rw[o] at c;cases c
  ·cases c)
 refine q.snap args (b.snap e) [] ?_ C x i B w p l u t z;dsimp only;rw[j];dsimp only;rw[k];simp only[List.isEmpty_nil,cond_true,Tr.snap,m];rfl
end
end Go.Proofs.YtfkhfkjcidamaaaGreatDoor.E
