/-
  Parts of the proof, merged by a program of the prover's own; no condition.
-/
import Derived.Test.YtiodfnbjmmdlmaaGreatDoorKCE1
import Derived.Lib.SlBytesConst
import Derived.Sort.QuietThIn
import Derived.TacticsIn
open Bool renaming and_eq_true->c8,or_eq_true->o7,not_eq_true'->v8,false_eq_true->y7,false_or->ah9,not_true->ai0
open List renaming getElem?_eq_getElem->c9,getElem_map->j0,all_eq_true->j2,getElem_mem->j4,getD_eq_getElem?_getD->j9,length_append->k9,getElem?_eq_some_iff->o5,length_map->p7,map_cons->s9,mem_append->w8,length_cons->x4,getElem_append_left->x5,mem_cons->x6,getElem?_append_right->y8,getElem?_map->aa1,length_eq_zero_iff->aa5,isEmpty_iff->ab4,mem_map->ab5,getElem?_append_left->ab6,getElem_append_right->ab7,length_erase_of_mem->ab9,append_nil->ac2,foldl_cons->ac3,mem_filter->ac4,length_pos_of_mem->ad0,nodup_cons->ae0,mem_map_of_mem->ae1,map_nil->ae2,getElem?_take->ae4,take_of_length_le->ae9,nil_append->af2,length_singleton->af3,filterMap_cons->af6,length_pos_iff->af7,filter_congr->ag2,map_map->ag3,any_eq_true->ag6,filter_cons->ag7,getElem_inj->ag8,map_append->ah3,mem_range->ah6,nodup_nil->ah7,range->ah8,set_comm->ai3,filter->ai8,length->ai9
open Nat renaming eq_of_beq_eq_true->j1,le_refl->o6,ble->o8,zero_add->x7,beq->x9,lt_irrefl->aa3,mul_le_mul_right->ab0,lt_of_lt_of_le->ac6,add_mul->ac7,le_of_ble_eq_true->ad5,le_trans->ae3,add_sub_cancel_left->ae7,beq_refl->ai6
open Option.some renaming injEq->j5,inj->aa0
open Array renaming getD_eq_getD_getElem?->j6,getElem?_eq_some_iff->j8,toList_map->w9,getElem?_eq_getElem->y9,replicate->aa9,getElem?_replicate->ab8,getElem?_eq_none->ac8,getElem?_toList->ad3,mem_of_getElem?->ad4,size_append->ag0
open Go.Region renaming ready->j7,wanted->o0,noSelect->y5,Mode->aa2,binds->ad1
open Go.MapKept renaming run_checkKey->o9,run_getObj_map->w6,run_findKey->w7,run_setObj_map->aa8,IsKey->ac0,bytes_beq->ag4
open Go.Deferred renaming ofValue->p9
open Decidable renaming byContradiction->s8
open Option renaming map_some->v7,isNone_iff_eq_none->z7,isSome_iff_exists->aa4,bind_some->ad6,getD_some->ah1
open Go.Oper renaming semAt_eq->x8,uponIn->aa6,quietAtIn->ab1,wpIn->ae8,quietUponIn->ah0
open Go.Instr renaming lookup->aa7,findNow->ad7,mapUpdate->ad9,alloc->ah2,sureAddr->ah5,extract->ai1,makeMap->ai2,loadAt->ai5
open Go.Result renaming andThen->ab2
open Go.Act renaming put_comm->ab3,put->af9
open Go.Builtin renaming delete_->ac1,zeroCells->ac9,append_->ad8
open Go.Result.ok renaming injEq->ac5
open Go.World renaming shape?->ad2,cell?->af5
open Go.Code renaming region->ae5
open Prod.mk renaming injEq->ae6
open Go.Sem renaming run_bind->af0,run_pure->af1
open Prod renaming snd->af4
open Or renaming inl->af8
open Go.CallsIn renaming mono->ag1
open Go.RoundIn renaming mono->ag5
open Go.Next.value renaming injEq->ag9
open Ne renaming symm->ah4
open Go.StepsIn renaming trans->ai4
open List.Pairwise renaming filter->ai7
open Go.RowsIn renaming mono->aj1
open Go.Fence renaming wide->aj2
namespace Go.Proofs.YtiodfnbjmmdlmaaGreatDoor.E
set_option linter.all false
section
open Go
section
variable {Γ : Ctx} {H : List Blk} {w : World} {R : Type} {r : R} {C : Cfg}
def Els(St:Nat->Prop)(w:World)(n:Nat)(a:List (List SV))(b:List Value):Prop:=
 b.length=a.length*n/\∀i (h:i<a.length),(a[i]).length=n/\∀j (c:j<(a[i]).length),∃U,b[i*n+j]? = some U/\VS St w (a[i][j]) U
theorem Lf.toEls{P:Program}{n:Nat}{X:Value}{news:List (List SV)}{Vs:List Value}(h:Lf P Γ w n X news Vs):Els Γ.St w n news Vs:=⟨h.size,h.els⟩
theorem Els.append{St:Nat->Prop}{n:Nat}{a b:List (List SV)}{A B:List Value}(ha:Els St w n a A)(hb:Els St w n b B):Els St w n (a++b) (A++B):=by
 refine⟨by rw[k9,k9,ha.1,hb.1,ac7],λi hi=>?_⟩;rw[k9] at hi;by_cases h:i<a.length
 ·have e:(a++b)[i]'(by rw[k9];exact hi)=a[i]:=x5 h;refine⟨by rw[e];exact(ha.2 i h).1,λj hj=>?_⟩;have hj':j<(a[i]).length:=by rw[<-e];exact hj
  obtain⟨U,e1,k⟩:=(ha.2 i h).2 j hj';grind
 ·have h':i-a.length<b.length:=by omega
  have e:(a++b)[i]'(by rw[k9];exact hi)=b[i-a.length]:=ab7 (by omega);refine⟨by rw[e];exact(hb.2 _ h').1,λj hj=>?_⟩;have hj':j<(b[i-a.length]).length:=by rw[<-e];exact hj
  obtain⟨U,e1,k⟩:=(hb.2 _ h').2 j hj';refine⟨U,?_,by simp only[e];exact k⟩;have hle:a.length*n<=i*n:=ab0 _ (by omega);rw[y8 (by rw[ha.1];omega),ha.1,<-e1]
  congr 1
  rw[Nat.sub_mul];omega
theorem Els.mono{St St':Nat->Prop}{w':World}{n:Nat}{els:List (List SV)}{Vs:List Value}(h:Els St w n els Vs)(hs:∀g,St g->w'.heap[g]? = w.heap[g]?)(hsub:∀g,St g->St' g):Els St' w' n els Vs:=
 ⟨h.1,λi hi=>⟨(h.2 i hi).1,λj hj=>by obtain⟨U,e,k⟩:=(h.2 i hi).2 j hj;exact⟨U,e,k.mono hs hsub⟩⟩⟩
theorem BR.els{Γ':Ctx}{sh:Nat->Option Shp}{w':World}{b g e n:Nat}{v:Bool}{els:List (List SV)}{Vs:List Value}{cur:Array Value}(hg:Γ'.nm b=some g)(hh:w'.heap[g]? = some (.cells cur e (0,0)))(hE:Els Γ'.St w' n els Vs)(hne:¬(v=true/\els=[]))
  (hc:∀q,q<Vs.length->cur[q]? = Vs[q]?) (hl:Vs.length<=cur.size):BR Γ' sh w' b (.arr v e n els):=by
 refine .inr ⟨hne,g,cur,hg,hh,by rw[<-hE.1];exact hl,λi hi=>(hE.2 i hi).1,λi hi j hj=>?_⟩;obtain⟨U,e1,k⟩:=(hE.2 i hi).2 j hj;exact⟨U,by rw[hc _ (o5.1 e1).1];exact e1,k⟩
theorem Xf{n m bytes:Nat}(h:n+m<=68719476736)(a:bytes<=512):(n+m)*bytes<=140737488355328:=by have:(n+m)*bytes<=68719476736*512:=Nat.mul_le_mul h a;omega
theorem Gs{need cap e:Nat}(h:need<=68719476736):need<=grownCap w need cap e/\grownCap w need cap e<=maxLen:=
 ⟨grownCap_ge _ _ _ _,grownCap_le_maxLen _ _ _ _ (by simp only[maxLen];omega)⟩
theorem Vz{olds Vs:List Value}{z:Array Value}{k n m size:Nat}(c:z.size=size)(a:olds.length=n*size)(hV:Vs.length=m*size)(d:n+m<=k) :
  (olds.toArray++Vs.toArray++ac9 z (k-(n+m))).size=k*size/\(∀q,q<(olds++Vs).length->(olds.toArray++Vs.toArray++ac9 z (k-(n+m)))[q]? = (olds++Vs)[q]?):=by
 refine⟨?_,λq b=>?_⟩
 ·simp only[ag0,List.size_toArray,size_zeroCells,c,a,hV,<-ac7]
  congr 1;omega
 ·rw[Array.getElem?_append_left (by simpa using b)];simp
theorem Cs5{z:Bool}{d:Nat}{b:List (List SV)}{S:Value}(h:VS Γ.St w (.sl z true d b) S):∃A,S = .slice A b.length b.length/\(z=true->A=none/\b=[])/\(z=false->A≠none)/\∀i (h:i<b.length),(b[i]).length=d:=by
 cases h with
 | nil=>exact⟨none,rfl,λ_=>⟨rfl,rfl⟩,by simp,λi h=>by simp at h⟩
 | emp _ _ a cap f e=>
  simp_all
 | sl _ _ g off n cap q j o c e f l m k p=>
  simp_all
theorem CC{t u ty e:Nat}{z:Bool}{els a:List (List SV)}{S X:Value}{A:Option Addr}{sl:List PV}{tmps:Array Value}(l:HR Γ H w)(U:C.P.underlying t=some (.slice e))(hu:JA (C.sh u)=true)(J:(C.ti e).ok=true)
  (hS:S = .slice A els.length els.length) (D:SlV Γ w S els) (hz:z=true->A=none/\els=[]) (j:∀i (h:i<els.length),(els[i]).length=(C.ti e).ks.length) {B:List Value} (y:Lf C.P Γ w (C.ti e).ks.length X a B)
  (I:z=true\/a≠[]) (Q:els.length+a.length<=68719476736) :
  WV C Γ H w sl tmps (ad8 #[t,u] ty #[S,X]) (.fl H.length) sl (H++[.arr z e (C.ti e).ks.length (els++a)]):=by
 obtain⟨ud,q,v⟩:=Sg hu;obtain⟨ie,dd,Z,N,hd,L,p,F,O,a0,M,c⟩:=Au J;subst hS;by_cases G:a=[]
 ·subst G;rcases I with h|h
  ·obtain⟨rfl,rfl⟩:=hz h;subst h;have b:=X2 (P:=C.P) (w:=w) (ty:=ty) (n:=0) (cap:=0) (base:=none) U q v N (by rw[c];exact y) (o6 _) (w':=w) rfl;exact⟨_,w,Γ,b,QD l,Ak8 l rfl (.inl ⟨rfl,rfl⟩),SR.grow (Sq _ l),.flv _ e (C.ti e).ks.length (by rw[F3];rfl),by simp[PV.nms]⟩
  ·exact absurd rfl h
 ·have hm:0<a.length:=af7.2 G;obtain⟨olds,x⟩:=Lf.slice (P:=C.P) D j;have K:olds.take (els.length*(C.ti e).ks.length)=olds:=ae9 (by rw[x.size];exact o6 _);have b:=De (P:=C.P) (w:=w) (ty:=ty) (olds:=olds) U q v N L (by rw[c];exact y) (λw' hw=>by have:=x.first els.length (o6 _) w' hw;rw[K] at this;rw[c];exact this) (by omega) (by simp only[maxLen];omega) (Xf Q F);obtain⟨f,m⟩:=Gs (w:=w) (need:=els.length+a.length) (cap:=els.length) (e:=e) Q;generalize grownCap w (els.length+a.length) els.length e=V at b f m;obtain⟨W,Y⟩:=Vz (z:=Z.cells) (by rw[<-p,c]) x.size y.size f;generalize T:olds.toArray++B.toArray++ac9 Z.cells (V-(els.length+a.length))=row at b W Y;have d:(w.drew.alloc (.cells row e)).heap=w.heap.push (.cells row e):=rfl;have hE:=(x.toEls.append y.toEls).mono (w':=w.drew.alloc (.cells row e)) (λg hg=>E7 d (l.stlt g hg)) (λ_ h=>h);have o:¬(z=true/\els++a=[]):=by rintro⟨_,h⟩;simp at h;exact G h.2
  have k:(olds++B).length<=row.size:=by grind
  refine Cd l b d rfl rfl rfl (BR.els (g:=w.heap.size) (cur:=row) (by simp[Ctx.upd]) (E6 d) hE o Y k) (by simp[Blk.nms]) ?_ (by simp[PV.nms]);refine .fl H.length w.heap.size z e (C.ti e).ks.length (els.length+a.length) V ?_ (λ_=>by omega) (by simp[Ctx.upd]) f m ?_
  ·rw[F3];simp[Blk.shp]
  ·simp only[ad2,E6 d,W]
theorem Ab3{t u ty e b A sz:Nat}{v:Bool}{a d:List (List SV)}{S X:Value}{sl:List PV}{B:Array Value}(D:HR Γ H w)(ht:C.P.underlying t=some (.slice e))(hu:JA (C.sh u)=true)(b7:(C.ti e).ok=true)(hb:H[b]? = some (.arr v A sz a))(b6:Cu C A=false)
  (Q:(v=true/\a=[])\/(A=e/\sz=(C.ti e).ks.length)) (hS:VP Γ (A1 H) w (.fl b) S) {Vs:List Value} (T:Lf C.P Γ w (C.ti e).ks.length X d Vs) (hr:a.length+d.length<=68719476736) :
  WV C Γ H w sl B (ad8 #[t,u] ty #[S,X]) (.fl b) (U0 b sl) ((H.map (Blk.kill b)).set b (.arr v e (C.ti e).ks.length (a++d))):=by
 obtain⟨ud,a4,a5⟩:=Sg hu;obtain⟨ie,dd,zv,V,hd,c1,a9,b2,c3,c7,c2,x⟩:=Au b7;have f:=(o5.1 hb).1;have K:¬Fl C (A1 H b):=by
  simp only[A1,hb,v7,Blk.shp,Fl,b6];simp
 have c5:b<((H.map (Blk.kill b)).set b (.arr v e (C.ti e).ks.length (a++d))).length:=by simpa using f
 have grow:∀(base:Option Addr) (cap:Nat),S = .slice base a.length cap->cap<a.length+d.length->SlV Γ w S a->(∀i (h:i<a.length),(a[i]).length=(C.ti e).ks.length)->
   WV C Γ H w sl B (ad8 #[t,u] ty #[S,X]) (.fl b) (U0 b sl) ((H.map (Blk.kill b)).set b (.arr v e (C.ti e).ks.length (a++d))):=by
  intro base cap b1 I Y l;subst b1;obtain⟨olds,W⟩:=Lf.slice (P:=C.P) Y l;have b8:olds.take (a.length*(C.ti e).ks.length)=olds:=ae9 (by rw[W.size];exact o6 _);have m:=De (P:=C.P) (w:=w) (ty:=ty) (olds:=olds) ht a4 a5 V c1 (by rw[x];exact T) (λw' hw=>by have:=W.first a.length (o6 _) w' hw;rw[b8] at this;rw[x];exact this) I (by simp only[maxLen];omega) (Xf hr b2);obtain⟨a0,a8⟩:=Gs (w:=w) (need:=a.length+d.length) (cap:=cap) (e:=e) hr;generalize grownCap w (a.length+d.length) cap e=kc at m a0 a8;obtain⟨r1,r2⟩:=Vz (z:=zv.cells) (by rw[<-a9,x]) W.size T.size a0;generalize c4:olds.toArray++Vs.toArray++ac9 zv.cells (kc-(a.length+d.length))=row at m r1 r2;have G:(w.drew.alloc (.cells row e)).heap=w.heap.push (.cells row e):=rfl;have N:∀g,Γ.St g->(w.drew.alloc (.cells row e)).heap[g]? = w.heap[g]?:=λg p=>E7 G (D.stlt g p)
  have hE:=(W.toEls.append T.toEls).mono (w':=w.drew.alloc (.cells row e)) N (λ_ h=>h);have b3:0<a.length+d.length:=by omega
  have J:¬(v=true/\a++d=[]):=by rintro⟨_,h⟩;have:=congrArg ai9 h;simp at this;simp[this] at b3
  have M:(olds++Vs).length<=row.size:=by grind
  have L:(Γ.re b (some w.heap.size)).nm b=some w.heap.size:=by simp[Ctx.re]
  obtain⟨s1,s2,s3⟩:=FI (C:=C) (y:=.arr v e (C.ti e).ks.length (a++d)) (ng:=some w.heap.size) (w':=w.drew.alloc (.cells row e)) D f K (λg p=>by
    simp only[j5] at p;subst p;refine⟨by rw[G];simp,λhs=>aa3 _ (D.stlt _ hs),λc _ Q=>aa3 _ (D.lt c _ Q).2.1⟩)
   (λg p=>by simp only[j5] at p;subst p;exact .inr (o6 _)) (λk O _=>E7 G O) (by rw[G];simp) rfl rfl rfl
   (BR.els (g:=w.heap.size) (cur:=row) L (E6 G) hE J r2 M) rfl
  refine⟨_,_,_,m,s1,s2,s3 sl B,?_,by simpa[PV.nms] using f⟩;refine .fl b w.heap.size v e (C.ti e).ks.length (a.length+d.length) kc ?_ (λ_=>by omega) L a0 a8 ?_
  ·rw[Ti f,if_pos rfl];simp[Blk.shp]
  ·simp only[ad2,E6 G,r1]
 cases hS with
 | flv _ e2 b0 h'=>
  obtain⟨rfl,_,_,h4⟩:=K6 hb h';obtain rfl:=aa5.1 h4;by_cases hn:d=[]
  ·subst hn;have m:=X2 (P:=C.P) (w:=w) (ty:=ty) (n:=0) (cap:=0) (base:=none) ht a4 a5 V (by rw[x];exact T) (o6 _) (w':=w) rfl;obtain⟨s1,s2,s3⟩:=FI (C:=C) (y:=.arr true e (C.ti e).ks.length ([]++[])) (ng:=Γ.nm b) (w':=w) D f K (λg p=>⟨(D.lt b g p).2.1,(D.lt b g p).2.2,λc Q Z=>Q (D.inj c b g Z p)⟩)
    (λg p=>.inl p) (λ_ _ _=>rfl) (o6 _) rfl rfl rfl (.inl ⟨rfl,rfl⟩) rfl
   exact⟨_,_,_,m,s1,s2,s3 sl B,.flv b e (C.ti e).ks.length (by rw[Ti f,if_pos rfl];rfl),by simpa[PV.nms] using f⟩
  ·have hm:0<d.length:=af7.2 hn;refine grow none 0 rfl (by simpa using hm) ⟨none,0,rfl,o6 _,Nat.zero_le _,λ_=>rfl,λh=>absurd rfl h⟩ (λi h=>by simp at h)
 | fl _ g v' e2 b0 n' cap h' hv p I hm hs=>
  have Y:=Tk (C:=C) D (VP.fl b g v' e2 b0 n' cap h' hv p I hm hs) (show Cz H (.fl b)=some a by simp only[Cz,hb]);obtain⟨rfl,rfl,rfl,rfl⟩:=K6 hb h';have a2:¬(v=true/\a=[]):=by rintro⟨q1,q2⟩;exact hv q1 (by rw[q2];rfl)
  rcases Q with Q|⟨rfl,rfl⟩
  ·exact absurd Q a2
  ·obtain⟨g',cur,a7,hh,M,l,a6⟩:=D.arr' hb a2;rw[p] at a7;cases a7;by_cases F:a.length+d.length<=cap
   ·have b4:cur.size=cap*(C.ti A).ks.length:=by
     have:=hs;simp only[ad2,hh,j5,ae6,true_and] at this;exact this
    have a1:a.length*(C.ti A).ks.length+Vs.length<=cur.size:=by
     rw[T.size,b4,<-ac7];exact ab0 _ F
    obtain⟨w',r1,r2,r3,r4,r5,r6,r7,r8⟩:=J3 (P:=C.P) (o:=a.length*(C.ti A).ks.length) hh a1 T.one;have m:=X2 (P:=C.P) (w:=w) (ty:=ty) (n:=a.length) (cap:=cap) (base:=some ⟨g,0,none⟩) ht a4 a5 V (by rw[x];exact T) F (w':=w') (by simp only;rw[J9,x,x7];exact r1);have N:∀k,Γ.St k->w'.heap[k]? = w.heap[k]?:=λk O=>r3 k (λe=>(D.lt b g p).2.2 (e▸O))
    have W:Els Γ.St w (C.ti A).ks.length a (cur.toList.take (a.length*(C.ti A).ks.length)):=by
     refine⟨by simp;omega,λi V=>⟨l i V,λj hj=>?_⟩⟩;obtain⟨U,e1,k⟩:=a6 i V j hj;refine⟨U,?_,k⟩;have c6:j<(C.ti A).ks.length:=by rw[<-l i V];exact hj
     have:(i+1)*(C.ti A).ks.length<=a.length*(C.ti A).ks.length:=ab0 _ V;rw[ac7] at this;rw[ae4,if_pos (by omega)];simpa using e1
    have hE:=(W.append T.toEls).mono (w':=w') N (λ_ h=>h);have J:¬(v=true/\a++d=[]):=by rintro⟨h1,h⟩;simp at h;exact a2 ⟨h1,h.1⟩
    have L:(Γ.re b (some g)).nm b=some g:=by simp[Ctx.re]
    have a3:(cur.toList.take (a.length*(C.ti A).ks.length)).length=a.length*(C.ti A).ks.length:=W.1;obtain⟨s1,s2,s3⟩:=FI (C:=C) (y:=.arr v A (C.ti A).ks.length (a++d)) (ng:=some g) (w':=w') D f K (λk O=>by
      simp only[j5] at O;subst O;refine⟨by have:=(D.lt b g p).2.1;omega,(D.lt b g p).2.2,λc Q Z=>Q (D.inj c b g Z p)⟩)
     (λk O=>by simp only[j5] at O;subst O;exact .inl p) (λk O b5=>r3 k (λe=>b5 (e▸p))) (by omega) r5 r6 r7
     (BR.els L r2 hE J (λq hq=>by
      rw[k9,a3] at hq;simp only[List.getElem?_toArray];rw[K7 _ _ _ (by simpa using a1)];by_cases b9:q<a.length*(C.ti A).ks.length
      ·rw[if_neg (by omega),ab6 (by omega),ae4,if_pos b9]
      ·rw[if_pos (by omega),y8 (by omega),a3]) (by rw[k9,a3];simpa[D4] using a1)) rfl
    refine⟨_,_,_,m,s1,s2,s3 sl B,?_,by simpa[PV.nms] using f⟩;refine .fl b g v A (C.ti A).ks.length (a.length+d.length) cap ?_ (λc0=>?_) L F hm ?_
    ·rw[Ti f,if_pos rfl];simp[Blk.shp]
    ·have:=hv c0;omega
    ·rw[r8];exact hs
   ·exact grow _ cap rfl (by omega) Y l
theorem Oi{t u ty:Nat}{sl:List PV}{s x:PV}{S X:Value}{k:PV->List PV->List Blk->Option R}{tmps:Array Value}(j:HR Γ H w)(F:JA (C.sh u)=true)(h:Dg C t sl s x H k=some r)(n:VP Γ (A1 H) w s S)(J:VP Γ (A1 H) w x X) :
  ∃v m H',k v m H'=some r/\WV C Γ H w sl tmps (ad8 #[t,u] ty #[S,X]) v m H':=by
 unfold Dg at h;split at h
 ·rename_i e B;have D:=G5 B;split at h
  ·rename_i a;simp only[c8] at a;obtain⟨a,l⟩:=a;split at h
   ·rename_i G f;obtain⟨L,p⟩:=KD (C:=C) j J l f;split at h
    ·obtain⟨c,g⟩:=C3 h;simp only[I4,decide_eq_true_eq] at c;obtain rfl:=n.inv_nsl;have:=CC (C:=C) (t:=t) (u:=u) (ty:=ty) (z:=true) (els:=[]) (A:=none) (sl:=sl) (tmps:=tmps) j D F a rfl ⟨none,0,rfl,o6 _,Nat.zero_le _,λ_=>rfl,λh=>absurd rfl h⟩ (λ_=>⟨rfl,rfl⟩) (λi h=>by simp at h) p (.inl rfl) (by simpa using c);exact⟨_,_,_,g,this⟩
    ·rename_i z N els;split at h
     ·rename_i y;subst y;obtain⟨c,g⟩:=C3 h;simp only[I4,c8,o7,decide_eq_true_eq,v8,List.isEmpty_eq_false_iff] at c;obtain⟨A,rfl,K,_,d⟩:=Cs5 n.inv_s;have o:=Tk (C:=C) j n (show Cz H (.s (.sl z true (C.ti e).ks.length els))=some els from rfl);exact⟨_,_,_,g,CC (C:=C) j D F a rfl o K d p c.1 c.2⟩
     ·cases h
    ·rename_i b;split at h
     ·rename_i v M O els I;split at h
      ·rename_i q;simp only[c8,v8,o7,decide_eq_true_eq,ab4] at q;obtain⟨c,g⟩:=C3 h;simp only[I4,decide_eq_true_eq] at c;exact⟨_,_,_,g,Ab3 (C:=C) j D F a I q.1 q.2.symm n p c⟩
      ·cases h
     ·cases h
    ·cases h
   ·cases h
  ·cases h
 ·cases h
end
section
variable {Γ : Ctx} {H : List Blk} {w : World} {R : Type} {r : R} {C : Cfg}
theorem Zq{sh:Nat->Option Shp}(s:ByteArray):∀(l:List (List UInt8 × PV)) (c:List MapEntry) (n:Nat),MR Γ sh w l c->
  (V3 l s.data.toList=false/\ad7 .string (.string s) c n=some none/\Gu l s.data.toList=l/\∀v V b,VP Γ sh w v V->MR Γ sh w (Ah l s.data.toList v) (c++[⟨.string s,V,b⟩]))\/
  (V3 l s.data.toList=true/\∃i E,ad7 .string (.string s) c n=some (some (n+i,E.val))/\c[i]? = some E/\E.key = .string s/\VP Γ sh w (U1 .bad l s.data.toList) E.val/\MR Γ sh w (Gu l s.data.toList) (c.eraseIdx i)/\
   ∀v V,VP Γ sh w v V->MR Γ sh w (Ah l s.data.toList v) (c.modify i λe=>{ e with key:=.string s,val:=V }))
 | [],[],n,_=>.inl ⟨rfl,rfl,rfl,λv V b j=>⟨⟨⟨s,rfl,rfl⟩,j⟩,trivial⟩⟩
 | e::l,E::c,n,h=>by
  obtain⟨⟨⟨f,m,d⟩,j⟩,x⟩:=h;have g:Instr.sameNow .string (.string s) E.key=some (s==f):=by rw[m];rfl
  have heq:(s==f)=(s.data.toList==e.1):=by
   rw[<-d,Bool.eq_iff_iff];simp only[ag4,beq_iff_eq];constructor
   ·rintro rfl;rfl
   ·intro h;have e:s.data=f.data:=Array.toList_inj.1 h;cases s;cases f;simp_all
  cases a:(s.data.toList==e.1) with
  | true=>
   rw[a] at heq;have A:e.1=s.data.toList:=(eq_of_beq a).symm;have y:s=f:=(ag4 s f).1 heq;subst y;refine .inr ⟨by simp only[V3,a,cond_true],0,E,by simp[ad7,g,heq],rfl,m,by simpa only[U1,a,cond_true] using j,by simpa only[Gu,a,cond_true,List.eraseIdx_zero,List.tail_cons] using x,λv V k=>?_⟩;simp only[Ah,a,cond_true];exact⟨⟨⟨s,rfl,A.symm⟩,k⟩,x⟩
  | false=>
   rw[a] at heq;rcases Zq s l c (n+1) x with⟨o,p,q,t⟩|⟨o,i,z,p,q,u,t,B,D⟩
   ·refine .inl ⟨by simp only[V3,a,cond_false,o],by simp[ad7,g,heq,p],by simp only[Gu,a,cond_false,q],λv V b k=>?_⟩;simp only[Ah,a,cond_false];exact⟨⟨⟨f,m,d⟩,j⟩,t v V b k⟩
   ·refine .inr ⟨by simp only[V3,a,cond_false,o],i+1,z,by simp[ad7,g,heq,p];omega,by simpa using q,u,by simpa only[U1,a,cond_false] using t,?_,λv V k=>?_⟩
    ·simp only[Gu,a,cond_false,List.eraseIdx_cons_succ];exact⟨⟨⟨f,m,d⟩,j⟩,B⟩
    ·simp only[Ah,a,cond_false,List.modify_succ_cons];exact⟨⟨⟨f,m,d⟩,j⟩,D v V k⟩
 | [],_::_,_,h=>h.elim
 | _::_,[],_,h=>h.elim
theorem JM:∀(l:List (List UInt8 × PV)) (q:List UInt8),∀c∈(U1 .bad l q).nms,c∈C6 (l.map af4)
 | [],q,c,a=>by simp[U1,PV.nms] at a
 | e::l,q,c,a=>by
  simp only[U1] at a;simp only[s9,C6,w8];cases b:(q==e.1) with
  | true=>rw[b] at a;exact .inl a
  | false=>rw[b] at a;exact .inr (JM l q c a)
theorem JP(v:PV):∀(l:List (List UInt8 × PV)) (q:List UInt8),∀c∈C6 ((Ah l q v).map af4),c∈C6 (l.map af4)\/c∈v.nms
 | [],q,c,a=>by simp only[Ah,s9,ae2,C6,ac2] at a;exact .inr a
 | e::l,q,c,a=>by
  simp only[Ah] at a;cases b:(q==e.1) with
  | true=>
   rw[b] at a;simp only[cond_true,s9,C6,w8] at a ⊢;exact a.elim .inr (λh=>.inl (.inr h))
  | false=>
   rw[b] at a;simp only[cond_false,s9,C6,w8] at a ⊢;rcases a with h|h
   ·exact .inl (.inl h)
   ·exact(JP v l q c h).elim (λh=>.inl (.inr h)) .inr
theorem JK:∀(l:List (List UInt8 × PV)) (q:List UInt8),∀c∈C6 ((Gu l q).map af4),c∈C6 (l.map af4)
 | [],q,c,a=>a
 | e::l,q,c,a=>by
  simp only[Gu] at a;simp only[s9,C6,w8];cases b:(q==e.1) with
  | true=>rw[b] at a;exact .inr a
  | false=>
   rw[b] at a;simp only[cond_false,s9,C6,w8] at a;exact a.imp id (JK l q c)
theorem HR.mp'(hH:HR Γ H w){b:Nat}{ents:List (List UInt8 × PV)}{X:Value}(hb:H[b]? = some (.mp ents))(hx:VP Γ (A1 H) w (.it b) X) :
  ∃g es ck,Γ.nm b=some g/\X = .map (some g)/\w.heap[g]? = some (.map es ck)/\MR Γ (A1 H) w ents es.toList/\∀c∈C6 (ents.map af4),c<H.length:=by
 obtain⟨g,hg,rfl⟩:=Ak2 hb hx;obtain⟨hlt,hbe⟩:=o5.1 hb;have hB:=hH.blk b hlt;rw[hbe] at hB;obtain⟨g',es,ck,h1,h2,h3⟩:=hB;rw[hg] at h1;cases h1;exact⟨g,es,ck,hg,rfl,h2,h3,λc hc=>hH.nms b hlt c (by rw[hbe];exact hc)⟩
theorem Mn{t:Nat}{k:PV->List Blk->Option R}{sl:List PV}{tmps:Array Value}(b:HR Γ H w)(h:It C t H k=some r) :
  ∃v H',k v H'=some r/\WV C Γ H w sl tmps (ai2 t none) v sl H'/\∃V o,(ai2 t none).run C.P w = .ok V (w.alloc o):=by
 unfold It at h;split at h
 ·rename_i d e _;split at h
  ·have a:(w.alloc (.map #[] 0)).heap=w.heap.push (.map #[] 0):=rfl;cases c:(C.ti e).ks.all CK.scal with
   | true=>
    rw[c] at h;refine⟨_,_,h,Cd b (V:=.map (some w.heap.size)) (o:=.map #[] 0) (w':=w.alloc (.map #[] 0)) rfl a rfl rfl rfl ⟨w.heap.size,#[],0,by simp[Ctx.upd],E6 a,trivial⟩ (by simp[Blk.nms]) ?_ (by simp[PV.nms]),_,_,rfl⟩;exact .mpv _ _ (by rw[F3];rfl) (by simp[Ctx.upd])
   | false=>
    rw[c] at h;refine⟨_,_,h,Cd b (V:=.map (some w.heap.size)) (o:=.map #[] 0) (w':=w.alloc (.map #[] 0)) rfl a rfl rfl rfl ⟨w.heap.size,#[],0,by simp[Ctx.upd],E6 a,trivial⟩ (by simp[Blk.nms,C6]) ?_ (by simp[PV.nms]),_,_,rfl⟩;exact .mpv _ _ (by rw[F3];rfl) (by simp[Ctx.upd])
  ·cases h
 ·cases h
theorem Bh3{t:Nat}{v:PV}{V:Value}(h:okV (C.ti t) v=true)(z:VP Γ (A1 H) w v V):VP Γ (A1 H) w (asV (C.ti t) v) V/\∀c∈(asV (C.ti t) v).nms,c∈v.nms:=by
 simp only[okV,c8,beq_iff_eq] at h;obtain⟨n,o,x⟩:=h;have o:=j1 o;have u:=QN x;have g:∀j (a:j<(W7 (C.ti t) v.cells 0).length),∃(b:j<v.cells.length) (q:j<(C.ti t).ks.length),(W7 (C.ti t) v.cells 0)[j]=(v.cells[j]).as ((C.ti t).ks[j])/\(v.cells[j]).has ((C.ti t).ks[j])=true:=λj a=>by
  have i:j<(C.ti t).ks.length:=by rw[M5] at a;exact a
  have b:=u j i;rw[x7] at b;have f:=QM x j i;rw[x7,U8 b] at f;exact⟨b,i,by simp[W7,c9 b],f⟩
 have m:∀c∈C6 (W7 (C.ti t) v.cells 0),c∈v.nms:=λc d=>by
  obtain⟨j,a,d⟩:=C4.1 d;obtain⟨b,q,e,_⟩:=g j a;rw[e] at d;exact PV.cells_nms c (C4.2 ⟨j,b,PV.as_nms c d⟩)
 have k:(W7 (C.ti t) v.cells 0).length=v.cells.length:=by rw[M5,o]
 unfold asV;rw[EF];cases y:(C.ti t).agg with
 | true=>
  rw[y] at n;simp only[if_true];refine⟨?_,by simpa[PV.nms] using m⟩;cases v with
  | agg l=>
   obtain⟨A,rfl,hA,d⟩:=z.inv_agg;refine VP.mk_agg (by rw[k];exact hA) λj a=>?_
   obtain⟨b,q,e,f⟩:=g j a;obtain⟨U,B,F⟩:=d j b;exact⟨U,B,by rw[e];exact F.as f⟩
  | _=>cases n
 | false=>
  rw[y] at n;simp only[y7,if_false];split
  ·rename_i D;have a:0<(W7 (C.ti t) v.cells 0).length:=by rw[M5];omega
   rw[U8 a];refine⟨?_,λc d=>m c (C4.2 ⟨0,a,d⟩)⟩;obtain⟨b,q,e,f⟩:=g 0 a;have p:v.cells[0]=v:=by
    cases v with
    | agg l=>cases n
    | bad=>exact absurd b (by simp[PV.cells])
    | _=>rfl
   rw[e];generalize (C.ti t).ks[0]=c at f ⊢;simp only[p] at f ⊢;exact z.as f
  ·exact⟨.bad V,by simp[PV.nms]⟩
theorem By5{sh:Nat->Option Shp}{t:Nat}(h:(C.ti t).ok=true)(b:SU C t=true):∃i Z,C.P.info? t=some i/\i.zero=some Z/\VP Γ sh w (Za (C.ti t)) Z/\(Za (C.ti t)).nms=[]:=by
 obtain⟨i,z,g,l,o,a⟩:=Cc (Γ:=Γ) (sh:=sh) (w:=w) h;obtain⟨_,_,_,j⟩:=I8 h;have n:=Jj (C.ti t).ks;refine⟨i,z,g,l,?_⟩;simp only[SU,g,v7,l] at b;unfold Za;cases f:(C.ti t).agg with
 | true=>
  rw[f] at b;simp only[if_true];refine⟨?_,by simpa[PV.nms] using n⟩;cases z with
  | agg A=>exact VP.mk_agg a.1 a.2
  | _=>cases b
 | false=>
  rw[f] at b;simp only[y7,if_false];split
  ·rename_i c m;rw[m] at a;obtain⟨U,e,k⟩:=a.2 0 (by simp);have d:z.cells[0]? = some z:=by
    cases z<;>first|rfl|(simp at b)
   rw[d] at e;cases e;refine⟨by simpa using k,?_⟩;cases c<;>rfl
  ·exact⟨.bad z,rfl⟩
section
variable {L Y : Type} (f : L -> Y)
theorem JN:∀(l:List (List UInt8 × L)) (q:List UInt8),V3 (l.map λe=>(e.1,f e.2)) q=V3 l q
 | [],_=>rfl
 | e::l,q=>by simp only[s9,V3,JN l q]
theorem JL(d:L):∀(l:List (List UInt8 × L)) (q:List UInt8),U1 (f d) (l.map λe=>(e.1,f e.2)) q=f (U1 d l q)
 | [],_=>rfl
 | e::l,q=>by simp only[s9,U1,JL d l q];cases q==e.1<;>rfl
theorem JO(v:L):∀(l:List (List UInt8 × L)) (q:List UInt8),Ah (l.map λe=>(e.1,f e.2)) q (f v)=(Ah l q v).map λe=>(e.1,f e.2)
 | [],_=>rfl
 | e::l,q=>by simp only[s9,Ah,JO v l q];cases q==e.1<;>rfl
theorem JJ:∀(l:List (List UInt8 × L)) (q:List UInt8),Gu (l.map λe=>(e.1,f e.2)) q=(Gu l q).map λe=>(e.1,f e.2)
 | [],_=>rfl
 | e::l,q=>by simp only[s9,Gu,JJ l q];cases q==e.1<;>rfl
end
theorem EM{b:Type}(d a:b):∀(l:List (List UInt8 × b)) (q:List UInt8),V3 l q=true->U1 d l q=U1 a l q
 | [],_,h=>by cases h
 | e::l,q,h=>by
  simp only[V3,U1] at h ⊢;cases c:(q==e.1) with
  | true=>rfl
  | false=>rw[c] at h;exact EM d a l q h
theorem Bb0{t:TI}{l:List SV}(i:B82 t l=true)(o:t.ks.all CK.scal=true)(k:t.ok=true):okV t (svV t.agg l)=true/\asV t (svV t.agg l)=RF t true l\/RF t true l = .bad:=by
 have key:∀c,c.scal=true->∀x:SV,(PV.s x).as c=Ca4 true x c:=λc b x=>by cases c<;>first|rfl|cases b
 have e:∀c,c.scal=true->∀x:SV,x.has c=true->(PV.s x).has c=true:=λc b x h=>by cases c<;>first|exact h|cases b
 simp only[B82,c8,j2] at i;have a:=j1 i.1;have f:∀{c j},(c,j)∈t.ks.zipIdx->c.scal=true/\j<l.length:=fun {c j} h=>by
  have:=List.mem_zipIdx_iff_getElem?.1 h;exact⟨j2.1 o c (List.mem_of_getElem? this),by rw[a];exact(o5.1 this).1⟩
 have d:∀j,j<l.length->(l.map PV.s).getD j .bad = .s (l.getD j .nilp):=λj v=>by simp[v]
 cases g:t.agg with
 | true=>
  left
  refine⟨?_,?_⟩
  ·simp only[okV,svV,cond_true,PV.isAgg,g,beq_self_eq_true,PV.cells,p7,c8,okP,k,j2,true_and];refine⟨i.1,λp n=>?_⟩;obtain⟨c,j⟩:=p;obtain⟨q,u⟩:=f n;have:=i.2 _ n;simp only[x7];rw[d j u];exact e c q _ this
  ·simp only[asV,Kw,g,if_true,svV,cond_true,PV.cells,RF]
   congr 1
   refine List.map_congr_left λp n=>?_
   obtain⟨c,j⟩:=p;obtain⟨q,u⟩:=f n;simp only[x7];rw[d j u];exact key c q _
 | false=>
  match l,a with
  | [],a=>
   right
   have:t.ks=[]:=aa5.1 a.symm;simp[RF,g,this]
  | x::y::z,a=>
   right
   match h:t.ks,a with
   | [],a=>cases a
   | [c],a=>cases a
   | _::_::_,_=>simp[RF,g,h]
  | [x],a=>
   left
   obtain⟨c,b⟩:∃c,t.ks=[c]:=by
    match h:t.ks with
    | []=>rw[h] at a;cases a
    | [c]=>exact⟨c,rfl⟩
    | _::_::_=>rw[h] at a;cases a
   have m:c.scal=true:=by rw[b] at o;simpa using o
   have A:x.has c=true:=by
    have:=i.2 (c,0) (by rw[b];simp);simpa using this
   refine⟨?_,?_⟩
   ·simp only[okV,svV,cond_false,PV.isAgg,g,beq_self_eq_true,PV.cells,b,okP,k,c8,true_and];exact⟨rfl,by simpa using e c m x A⟩
   ·simp only[asV,Kw,g,y7,if_false,svV,cond_false,PV.cells,RF,b];exact key c m x
theorem Ao5{t:TI}{l:List SV}(b:t.ks.all CK.scal=true):RF t false l=Za t:=by
 have key:∀c,c.scal=true->∀x:SV,Ca4 false x c=P3 c:=λc a x=>by cases c<;>first|rfl|cases a
 unfold RF Za;split
 ·congr 1
  refine List.ext_getElem (by simp) λj d e=>?_
  simp only[j0,List.getElem_zipIdx];exact key _ (j2.1 b _ (j4 _)) _
 ·split
  ·rename_i c a;exact key c (j2.1 b c (by rw[a];simp)) _
  ·rfl
theorem Bn7{sh:Nat->Option Shp}{v:PV}{V:Value}(ok b:Bool)(h:VP Γ sh w v V):VP Γ sh w (Yc ok v b) (if ok then .tuple #[V,.bool b] else V)/\∀c∈(Yc ok v b).nms,c∈v.nms:=by
 cases ok with
 | true=>
  refine⟨VP.mk_tup rfl λj d=>?_,λc a=>by simpa[Yc,PV.nms,C6] using a⟩
  match j,d with
  | 0,_=>exact⟨V,rfl,h⟩
  | 1,_=>exact⟨_,rfl,.s _ _ (.bool b)⟩
 | false=>exact⟨h,λc a=>a⟩
theorem HR.ms'(hH:HR Γ H w){b:Nat}{a:Bool}{ents:List (List UInt8 × List SV)}{X:Value}(hb:H[b]? = some (.ms a ents))(hx:VP Γ (A1 H) w (.it b) X) :
  ∃g es ck,Γ.nm b=some g/\X = .map (some g)/\w.heap[g]? = some (.map es ck)/\MR Γ (A1 H) w (msP a ents) es.toList:=by
 obtain⟨g,hg,rfl⟩:=Ak3 hb hx;obtain⟨hlt,hbe⟩:=o5.1 hb;have hB:=hH.blk b hlt;rw[hbe] at hB;obtain⟨g',es,ck,h1,h2,h3⟩:=hB;rw[hg] at h1;cases h1;exact⟨g,es,ck,hg,rfl,h2,h3⟩
theorem Yd{sh:Nat->Option Shp}{t p e g l:Nat}{ok:Bool}{Z:Value}{d:Array MapEntry}{s:ByteArray}{a:List (List UInt8 × PV)}(o:C.P.underlying t=some (.map p e))(f:C.P.underlying p=some .string)(k:∀w':World,(zeroValue e).run C.P w' = .ok Z w')(m:w.heap[g]? = some (.map d l))(j:MR Γ sh w a d.toList) :
  (V3 a s.data.toList=false/\∀w':World,Ext w w'->(aa7 t (.map (some g)) (.string s) ok).run C.P w' = .ok (if ok then .tuple #[Z,.bool false] else Z) w')\/
  (V3 a s.data.toList=true/\∃V,VP Γ sh w (U1 .bad a s.data.toList) V/\∀w':World,Ext w w'->(aa7 t (.map (some g)) (.string s) ok).run C.P w' = .ok (if ok then .tuple #[V,.bool true] else V) w'):=by
 have b:∀w':World,Ext w w'->w'.heap[g]? = some (.map d l):=λw' c=>(c g (j8.1 m).1).trans m
 rcases Zq s a d.toList 0 j with⟨h,i,_⟩|⟨h,n,E,i,u,v,q,_⟩
 ·refine .inl ⟨h,λw' c=>?_⟩;simp[aa7,run_underlying o,w6 (b w' c),o9 (n:=9999) f (show ac0 .string (.string s) from trivial),w7 f i,k]
 ·refine .inr ⟨h,E.val,q,λw' c=>?_⟩;simp[aa7,run_underlying o,w6 (b w' c),o9 (n:=9999) f (show ac0 .string (.string s) from trivial),w7 f i]
theorem GW{t:Nat}{x i:PV}{X I:Value}{ok:Bool}{k:PV->Option R}(hH:HR Γ H w)(h:Ns C t x i ok H k=some r)(T:VP Γ (A1 H) w x X)(hi:VP Γ (A1 H) w i I) :
  ∃v,k v=some r/\QV C.P Γ H w (aa7 t X I ok) v:=by
 unfold Ns at h;split at h
 case h_2=>cases h
 rename_i kt e q S;obtain⟨s,rfl,rfl⟩:=hi.inv_str;have P:=Km S;split at h
 case h_2=>cases h
 rename_i O;have F:=Y8 O;split at h
 case isFalse=>cases h
 rename_i m;simp only[c8] at m;obtain⟨ii,Z,N,hZ,U,W⟩:=By5 (Γ:=Γ) (sh:=A1 H) (w:=w) m.1 m.2;have z:∀w':World,(zeroValue e).run C.P w' = .ok Z w':=λw'=>by simp[zeroValue,typeInfo,N,hZ]
 have out:∀{Y:PV->Option R} {b:Bool} {v:PV} {V:Value},Y (Yc ok v b)=some r->VP Γ (A1 H) w v V->(∀c∈v.nms,c<H.length)->(∀w':World,Ext w w'->(aa7 t X (.string s) ok).run C.P w' = .ok (if ok then .tuple #[V,.bool b] else V) w')->∃v,Y v=some r/\QV C.P Γ H w (aa7 t X (.string s) ok) v:=fun {Y} {b} {v} {V} f j h3 h4=>by
  obtain⟨l1,l2⟩:=Bn7 ok b j;exact⟨_,f,λc A=>h3 c (l2 c A),_,l1,h4⟩
 have y:∀c∈(Za (C.ti e)).nms,c<H.length:=by rw[W];simp
 split at h
 ·obtain rfl:=T.inv_nilm;refine out h U y λw' _=>?_
  simp[aa7,run_underlying P,o9 (n:=9999) F (show ac0 .string (.string s) from trivial),w7 (k:=.string s) (l:=[]) (a:=none) F rfl,z]
 ·rename_i b;split at h
  ·rename_i a d L;obtain⟨g,es,ck,hg,rfl,M,u⟩:=hH.ms' L T;split at h
   ·rename_i B;simp only[c8,beq_iff_eq] at B;obtain⟨B,rfl⟩:=B;obtain⟨D,p⟩:=C3 h;have e1:=JN (svV (C.ti e).agg) d s.data.toList;rcases Yd (ok:=ok) (s:=s) P F z M u with⟨f,j⟩|⟨f,V,G,j⟩
    ·rw[show V3 d s.data.toList=false from e1.symm.trans f] at p;rw[Ao5 B] at p;exact out p U y j
    ·have K:V3 d s.data.toList=true:=e1.symm.trans f;rw[K] at D p;simp only[ai0,ah9] at D;rw[EM .bad (svV (C.ti e).agg []) _ _ f,show U1 (svV (C.ti e).agg []) (msP (C.ti e).agg d) s.data.toList=svV (C.ti e).agg (U1 [] d s.data.toList) from JL _ _ _ _] at G;rcases Bb0 D B m.1 with⟨o1,o2⟩|o
     ·obtain⟨v1,J⟩:=Bh3 o1 G;rw[o2] at v1 J;exact out p v1 (λc A=>by have:=J c A;rw[RU] at this;simp at this) j
     ·rw[o] at p;exact out p (.bad V) (by simp[PV.nms]) j
   ·cases h
  ·rename_i d L;obtain⟨g,es,ck,hg,rfl,M,u,Q⟩:=hH.mp' L T;rcases Yd (ok:=ok) (s:=s) P F z M u with⟨f,j⟩|⟨f,V,G,j⟩
   ·rw[f] at h;exact out h U y j
   ·rw[f] at h;simp only[Cx,cond_true] at h;obtain⟨D,p⟩:=C3 h;obtain⟨v1,J⟩:=Bh3 D G;exact out p v1 (λc A=>Q c (JM _ _ c (J c A))) j
  ·cases h
 ·cases h
theorem Sp{m:Sem Value}{b g D:Nat}{x y:Blk}{F e:Array MapEntry}{d:List (List UInt8 × PV)}{f:Nat}{V:Value}{v:PV}{sl:List PV}{n:Array Value}(t:HR Γ H w)(z:H[b]? = some x)(o:Γ.nm b=some g)(A:w.heap[g]? = some (.map F D))(j:y.shp=x.shp)
  (G:m.run C.P w = .ok V { w with heap:=w.heap.setIfInBounds g (.map e f) }) (p:MR Γ (A1 H) w d e.toList) (I:∀c∈y.nms,c<H.length) (K:y = .mp d\/∃a l,y = .ms a l/\d=msP a l) (J:∀sh w,VP Γ sh w v V) (hvn:v.nms=[]):WV C Γ H w sl n m v sl (H.set b y):=by
 obtain⟨q,B⟩:=MapKept.heap_set (o':=.map e f) A;have i:({ w with heap:=w.heap.setIfInBounds g (.map e f) }:World).shape? g=w.shape? g:=by simp only[ad2,q,A]
 have M:=Bu (w':={ w with heap:=w.heap.setIfInBounds g (.map e f) }) (y:=y) t z o j B i;have h:=p.imp (Γ':=Γ) λu _ U k=>k.mono M λ_ _=>trivial
 refine Ji t G z o j B i (by simp) rfl rfl rfl ?_ I (J _ _) (by simp[hvn]);rcases K with rfl|⟨a,l,rfl,rfl⟩
 ·exact⟨g,e,f,o,q,h⟩
 ·exact⟨g,e,f,o,q,h⟩
theorem XV{sh:Nat->Option Shp}{t u e g d:Nat}{c:Array MapEntry}{s:ByteArray}{a:List (List UInt8 × PV)}{v:PV}{V:Value}(p:C.P.underlying t=some (.map u e))(j:C.P.underlying u=some .string)(i:w.heap[g]? = some (.map c d))(o:MR Γ sh w a c.toList)(q:VP Γ sh w v V) :
  ∃f k,(do ad9 t (.map (some g)) (.string s) V;pure undef:Sem Value).run C.P w = .ok undef { w with heap:=w.heap.setIfInBounds g (.map f k) }/\MR Γ sh w (Ah a s.data.toList v) f.toList:=by
 have b:ac0 .string (.string s):=trivial;rcases Zq s a c.toList 0 o with⟨x,h,_,m⟩|⟨x,n,E,h,y,m,A,_,z⟩
 ·refine⟨c.push ⟨.string s,V,d⟩,d+1,?_,by simpa using m v V d q⟩;simp[ad9,run_underlying p,w6 i,o9 (n:=9999) j b,w7 j h,aa8 _ i]
 ·rw[x7] at h;have l:c[n]? = some E:=by simpa using y
  refine⟨c.modify n λe=>{ e with key:=.string s,val:=V },d,?_,by simpa using z v V q⟩;simp[ad9,run_underlying p,w6 i,o9 (n:=9999) j b,w7 j h,l,m,MapKept.run_keyThatStays b,aa8 _ i]
theorem HA{t:Nat}{m x v:PV}{M X V:Value}{k:List Blk->Option R}{sl:List PV}{tmps:Array Value}(y:HR Γ H w)(h:Nu C t m x v H k=some r)(O:VP Γ (A1 H) w m M)(Y:VP Γ (A1 H) w x X)(L:VP Γ (A1 H) w v V)(hvn:∀c∈v.nms,c<H.length) :
  ∃H',k H'=some r/\WV C Γ H w sl tmps (do ad9 t M X V;pure undef) (.tup []) sl H':=by
 unfold Nu at h;split at h
 case h_2=>cases h
 rename_i Z e b q K;obtain⟨s,rfl,rfl⟩:=Y.inv_str;have P:=Km K;split at h
 ·rename_i a f n o;split at h
  ·rename_i l u;obtain⟨g,W,Q,F,rfl,p,i⟩:=y.ms' o O;have N:VP Γ (A1 H) w (svV a l) V:=by
    unfold plC at u;split at u
    ·rename_i vs;obtain⟨A,rfl,hA,D⟩:=L.inv_agg;obtain⟨S,T⟩:=L8 (As:=A.toList) u (by simpa using hA.symm) (λj G=>by obtain⟨U,e,k⟩:=D j G;exact⟨U,by simpa using e,k⟩);simp only[svV,cond_true];refine VP.mk_agg (by simpa using S.symm) λj G=>?_
     obtain⟨U,e,k⟩:=T j (by simpa using G);exact⟨U,by simpa using e,by rw[j0];exact .s _ _ k⟩
    ·cases u;exact L
    ·cases u
   obtain⟨B,z,J,d⟩:=XV (s:=s) P (Y8 n) p i N;exact⟨_,h,Sp y o F p rfl J d (by simp[Blk.nms]) (.inr ⟨a,_,rfl,JO _ _ _ _⟩) (λ_ _=>V6) rfl⟩
  ·cases h
 ·rename_i f n o;obtain⟨g,W,Q,F,rfl,p,i,I⟩:=y.mp' o O;obtain⟨B,z,J,d⟩:=XV (s:=s) P (Y8 n) p i L;exact⟨_,h,Sp y o F p rfl J d (λc D=>(JP v f _ c D).elim (I c) (hvn c)) (.inl rfl) (λ_ _=>V6) rfl⟩
 ·cases h
theorem VA{sh:Nat->Option Shp}{t p e g k ty:Nat}{ts:List Nat}{c:Array MapEntry}{s:ByteArray}{a:List (List UInt8 × PV)}(o:C.P.underlying t=some (.map p e))(j:C.P.underlying p=some .string)(i:w.heap[g]? = some (.map c k))(f:MR Γ sh w a c.toList) :
  ∃d l,(ac1 (t::ts).toArray ty #[.map (some g),.string s]).run C.P w = .ok (.tuple #[]) { w with heap:=w.heap.setIfInBounds g (.map d l) }/\MR Γ sh w (Gu a s.data.toList) d.toList:=by
 have b:ac0 .string (.string s):=trivial;rcases Zq s a c.toList 0 f with⟨q,h,m,u⟩|⟨q,n,E,h,m,u,x,v,_⟩
 ·refine⟨c,k,?_,by rw[m];exact f⟩;simp[ac1,run_underlying o,w6 i,o9 (n:=9999) j b,w7 j h,aa8 _ i]
 ·rw[x7] at h;refine⟨c.eraseIdxIfInBounds n,k,?_,by simpa using v⟩;simp[ac1,run_underlying o,w6 i,o9 (n:=9999) j b,w7 j h,aa8 _ i]
theorem GZ{t ty:Nat}{ts:List Nat}{m x:PV}{M X:Value}{k:List Blk->Option R}{sl:List PV}{tmps:Array Value}(p:HR Γ H w)(h:Nt C t m x H k=some r)(D:VP Γ (A1 H) w m M)(P:VP Γ (A1 H) w x X) :
  ∃H',k H'=some r/\WV C Γ H w sl tmps (ac1 (t::ts).toArray ty #[M,X]) (.tup []) sl H':=by
 unfold Nt at h;split at h
 case h_2=>cases h
 rename_i Q e q I;obtain⟨s,rfl,rfl⟩:=P.inv_str;have J:=Km I;have f:∀sh w,VP Γ sh w (.tup []) (.tuple #[]):=λ_ _=>VP.mk_tup rfl λj O=>by simp at O
 split at h
 ·rename_i o;have y:=Y8 o;obtain rfl:=D.inv_nilm;exact⟨_,h,(QV.val (V:=.tuple #[]) rfl (f _ _) λw' _=>by simp[ac1,run_underlying J,o9 (n:=9999) y (show ac0 .string (.string s) from trivial)]).wv p⟩
 ·rename_i b o;have y:=Y8 o;split at h
  ·rename_i a i u;obtain⟨g,L,K,B,rfl,v,l⟩:=p.ms' u D;obtain⟨A,z,G,d⟩:=VA (s:=s) (ts:=ts) (ty:=ty) J y v l;exact⟨_,h,Sp p u B v rfl G d (by simp[Blk.nms]) (.inr ⟨a,_,rfl,JJ _ _ _⟩) f rfl⟩
  ·rename_i i u;obtain⟨g,L,K,B,rfl,v,l,F⟩:=p.mp' u D;obtain⟨A,z,G,d⟩:=VA (s:=s) (ts:=ts) (ty:=ty) J y v l;exact⟨_,h,Sp p u B v rfl G d (λc N=>F c (JK i _ c N)) (.inl rfl) f rfl⟩
  ·cases h
 ·cases h
end
section
variable {W R : Type} {r : R} {C : Cfg} {I : W -> (Nat -> Prop) -> (Nat -> Prop) -> World -> Prop} {Y : Ctx} {Q : Nat -> Prop} {L : St W} {a : Act} {w : World} {J : E3} {Z : Yh W} {o : Oper} {k : St W -> Option R}
theorem SI.opnd(S:SI C I Y Q L a.tmps w)(x:Operand):VP Y (A1 L.hp) w (opnd C L.sl x) (a.eval x)/\∀c∈(opnd C L.sl x).nms,c<L.hp.length:=
 Al1 (ds:=a.defers) S.g S.sr x
def Bz2(C:Cfg)(I:W->(Nat->Prop)->(Nat->Prop)->World->Prop)(Y:Ctx)(Q:Nat->Prop)(L:St W)(a:Act)(w:World)(o:Oper)(k:St W->Option R)(r:R):Prop:=
 ∃V b,k b=some r/\(∀w':World,Ext w w'->(execOp a.eval o).run C.P w' = .ok (.value V) w')/\SI C I Y Q b (a.put o.dst V).tmps w/\Stp C Y L.hp w noΦ Y b.hp w noΦ
theorem SI.put(S:SI C I Y Q L a.tmps w){v:PV}{V:Value}(hv:VP Y (A1 L.hp) w v V)(hn:∀c∈v.nms,c<L.hp.length):SI C I Y Q { L with sl:=L0 o.dst v L.sl } (a.put o.dst V).tmps w:=
 ⟨S.hr,S.sr.put (ds:=a.defers) o hv hn,S.g,S.inv,S.dis⟩
theorem QV.out{m:Sem Value}{v:PV}(S:SI C I Y Q L a.tmps w)(h:QV C.P Y L.hp w m v)(hk:k { L with sl:=L0 o.dst v L.sl } = some r)(he:execOp a.eval o=(do pure (.value (<-m)))):Bz2 C I Y Q L a w o k r:=by obtain⟨hn,V,hv,hq⟩:=h;refine⟨V,_,hk,λw' hw=>?_,S.put hv hn,Stp.refl S.hr⟩;rw[he];simp[hq w' hw]
theorem QV0.out{m:Sem Value}{v:PV}(S:SI C I Y Q L a.tmps w)(h:QV0 C.P Y L.hp w m v)(hk:k { L with sl:=L0 o.dst v L.sl } = some r)(he:execOp a.eval o=(do pure (.value (<-m)))) :
  ∃V st',k st'=some r/\(∀w':World,(execOp a.eval o).run C.P w' = .ok (.value V) w')/\SI C I Y Q st' (a.put o.dst V).tmps w/\Stp C Y L.hp w noΦ Y st'.hp w noΦ:=by
 obtain⟨hn,V,hv,hq⟩:=h;refine⟨V,_,hk,λw'=>?_,S.put hv hn,Stp.refl S.hr⟩;rw[he];simp[hq w']
theorem QV.pure{P:Program}{H:List Blk}{v:PV}{V:Value}(hv:VP Y (A1 H) w v V)(hn:∀c∈v.nms,c<H.length):QV P Y H w (pure V) v:=⟨hn,V,hv,λ_ _=>rfl⟩
theorem SI.ov(S:SI C I Y Q L a.tmps w)(x:Option Operand):OV Y (A1 L.hp) w (Mu (Go.Proofs.YtiodfnbjmmdlmaaGreatDoor.E.opnd C L.sl) x) (x.map a.eval):=by
 cases x with
 | none=>trivial
 | some x=>exact(S.opnd x).1
theorem Bx{b c:Type}{f:b->c}{x:Option b}:(Mu f x).isSome=x.isSome:=by cases x<;>rfl
theorem SI.parts(S:SI C I Y Q L a.tmps w):∀(ps:List (Nat × Operand)),PR Y (A1 L.hp) w (ps.map λ(i,x)=>(i,Go.Proofs.YtiodfnbjmmdlmaaGreatDoor.E.opnd C L.sl x)) (ps.map λ(i,x)=>(i,a.eval x))/\∀p∈(ps.map λ(i,x)=>(i,Go.Proofs.YtiodfnbjmmdlmaaGreatDoor.E.opnd C L.sl x)),∀c∈p.2.nms,c<L.hp.length
 | []=>⟨trivial,by simp⟩
 | (i,x)::ps=>by
  obtain⟨h1,h2⟩:=S.parts ps;refine⟨⟨rfl,(S.opnd x).1,h1⟩,λp hp=>?_⟩;rcases x6.1 hp with rfl|hp
  ·exact(S.opnd x).2
  grind
theorem SI.list(S:SI C I Y Q L a.tmps w)(xs:Array Operand):CR Y (A1 L.hp) w (xs.toList.map (Go.Proofs.YtiodfnbjmmdlmaaGreatDoor.E.opnd C L.sl)) (xs.map a.eval)/\∀c∈C6 (xs.toList.map (Go.Proofs.YtiodfnbjmmdlmaaGreatDoor.E.opnd C L.sl)),c<L.hp.length:=by
 refine⟨⟨by simp,λj hj=>?_⟩,λc hc=>?_⟩
 ·have hj':j<xs.size:=by simpa using hj
  exact⟨a.eval xs[j],by simp[hj'],by simpa using(S.opnd xs[j]).1⟩
 ·obtain⟨j,hj,hm⟩:=C4.1 hc;have hj':j<xs.size:=by simpa using hj
  exact(S.opnd xs[j]).2 c (by simpa using hm)
theorem Ak1{f:Nat}{x y:List PV}{A B:Array Value}{sh:Nat->Option Shp}(c:CR Y sh w x A)(d:CR Y sh w y B):VP Y sh w (Bo3 (.func f) x y) (.func (.func f) A B):=by
 unfold Bo3;split
 ·rename_i xs p m n;obtain⟨g,h⟩:=L8 (As:=A.toList) m (by simpa using c.1.symm) (λj b=>by obtain⟨U,e,k⟩:=c.2 j b;exact⟨U,by simpa using e,k⟩);obtain⟨i,l⟩:=L8 (As:=B.toList) n (by simpa using d.1.symm) (λj b=>by obtain⟨U,e,k⟩:=d.2 j b;exact⟨U,by simpa using e,k⟩);refine .s _ _ (.fn _ xs p A B (λj=>A.getD j undef) (λj=>B.getD j undef) (by simp) (by simpa using g.symm) (by simpa using i.symm) (λj b=>?_) (λj b=>?_) (λj b=>?_) (λj b=>?_))
  ·simp_all
  ·simp_all
  ·obtain⟨U,e,k⟩:=h j b;simp_all
  ·obtain⟨U,e,k⟩:=l j b;simp_all
 ·refine .fnr _ x y A B (λj=>A.getD j undef) (λj=>B.getD j undef) (by simp) c.1 d.1 (λj b=>?_) (λj b=>?_) (λj b=>?_) (λj b=>?_)
  ·obtain⟨U,e,_⟩:=c.2 j b;rw[j6,e];rfl
  ·obtain⟨U,e,_⟩:=d.2 j b;rw[j6,e];rfl
  ·obtain⟨U,e,k⟩:=c.2 j b;rw[j6,e];exact k
  ·obtain⟨U,e,k⟩:=d.2 j b;rw[j6,e];exact k
theorem Bo4{f:Fn}{x y:List PV}:∀c∈(Bo3 f x y).nms,c∈C6 x\/c∈C6 y:=by
 intro c b;unfold Bo3 at b;split at b
 ·simp[PV.nms] at b
 ·simpa[PV.nms] using b
theorem Cf5{c d:Type}{f:c->d}{xs:Array c}{x:d}(h:xs.toList.map f=[x]):∃b,xs = #[b]/\f b=x:=by obtain⟨l⟩:=xs;simp_all
theorem TS{e g:Type}{f:e->g}{xs:Array e}{x y:g}(h:xs.toList.map f=[x,y]):∃c d,xs = #[c,d]/\f c=x/\f d=y:=by
 obtain⟨l⟩:=xs
 match l,h with
 | [a,b],h=>exact⟨a,b,rfl,by simpa using h⟩
theorem P7{ρ:Operand->Value}{c:Call}{b:Builtin}(e:o.op = .call c)(d:c.callee = .builtin b) :
  ∃f,execOp ρ o=builtin b c.argTypes o.type f (c.args.map ρ):=by
 simp only[execOp,e,resolve,d,pure_bind,invoke];exact⟨_,rfl⟩
theorem SI.args_ints(S:SI C I Y Q L a.tmps w){xs:Array Operand}{kd:IntKind}{x y:Int}(h:xs.toList.map (Go.Proofs.YtiodfnbjmmdlmaaGreatDoor.E.opnd C L.sl)=[.s (.int kd x),.s (.int kd y)]):xs.map a.eval = #[.int kd x,.int kd y]:=by obtain⟨x0,y0,rfl,e1,e2⟩:=TS h;have h1:=(S.opnd x0).1;have h2:=(S.opnd y0).1;rw[e1] at h1;rw[e2] at h2;simp[h1.inv_int,h2.inv_int]
theorem Nw(l:I9 C o.op=true)(h:opK C J Z o L k=some r)(S:SI C I Y Q L a.tmps w):Bz2 C I Y Q L a w o k r:=by
 unfold opK at h;dsimp only at h;split at h
 ·rename_i x d;exact(QV.pure (P:=C.P) (S.opnd x).1 (S.opnd x).2).out S h (by simp[execOp,d])
 ·rename_i x d;split at h
  ·rename_i q;have j:=(S.opnd x).1;rw[q] at j;refine⟨a.eval x,_,h,λw' hw=>by simp only[execOp,d,af1],⟨Ak8 S.hr rfl (.inl ⟨rfl,rfl⟩),?_,S.g,S.inv,S.dis⟩,QD S.hr⟩;refine SR.put (ds:=a.defers) (SR.grow (Sq _ S.hr) S.sr) o ?_ (by simp[PV.nms]);rw[j.inv_nsl];exact .flv _ _ _ (by rw[F3];rfl)
  ·exact(QV.pure (P:=C.P) (S.opnd x).1 (S.opnd x).2).out S h (by simp[execOp,d])
 ·rename_i c x y d;split at h
  ·rename_i t u;have j:=(S.opnd c).1;rw[u] at j;have hb:=j.inv_bool;have z:execOp a.eval o=(do Pure.pure (Next.value (if <-asBool (a.eval c) then a.eval x else a.eval y))):=by simp[execOp,d]
   cases t with
   | true=>
    simp only[Cx,cond_true] at h;refine⟨_,_,h,λw' hw=>?_,S.put (S.opnd x).1 (S.opnd x).2,Stp.refl S.hr⟩;rw[z,hb];simp[asBool]
   | false=>
    simp only[Cx,cond_false] at h;refine⟨_,_,h,λw' hw=>?_,S.put (S.opnd y).1 (S.opnd y).2,Stp.refl S.hr⟩;rw[z,hb];simp[asBool]
  ·cases h
 ·rename_i d;rw[d] at l;simp[I9] at l
 ·rename_i d;rw[d] at l;simp[I9] at l
 ·rename_i t parts d;obtain⟨M,N⟩:=S.parts parts.toList;obtain⟨v,m,j⟩:=Rc (ps:=parts.map λ(i,x)=>(i,a.eval x)) h (by rw[w9];exact M) N;exact j.qv.out S m (by simp[execOp,d])
 ·rename_i d;rw[d] at l;simp[I9] at l
 ·rename_i t x d;obtain⟨v,m,j⟩:=Yb S.hr h (S.opnd x).1;exact j.out S m (by simp[execOp,d])
 ·rename_i d;rw[d] at l;simp[I9] at l
 ·rename_i x d;split at h
  ·rename_i hn;have j:=(S.opnd x).1;refine⟨a.eval x,_,h,λw' hw=>?_,S.put j (S.opnd x).2,Stp.refl S.hr⟩;simp only[execOp,d];unfold Ak7 at hn;split at hn
   ·rename_i q;rw[q] at j;obtain⟨ad,e⟩:=j.inv_ptr;simp_all
   ·rename_i q;rw[q] at j;obtain⟨ad,e⟩:=j.inv_sp;simp_all
   ·rename_i q;rw[q] at j;obtain⟨A,B,e⟩:=j.inv_fn;simp_all
   ·rename_i q;rw[q] at j;obtain⟨A,B,e⟩:=j.inv_fnr;simp_all
   grind
  ·cases h
 ·rename_i op t x y _ d;obtain⟨v,m,j⟩:=CF (ox:=x) (oy:=y) h (S.opnd x).1 (S.opnd y).1;exact j.qv.out S m (by simp only[execOp,d])
 ·rename_i op t x d;obtain⟨v,m,j⟩:=Bc7 (P:=C.P) h (S.opnd x).1;exact j.out S m (by simp only[execOp,d])
 ·rename_i a7 a5 x d;split at h
  ·rename_i e G;rw[d] at l;simp[I9,G] at l
  ·obtain⟨v,m,j⟩:=UW S.hr h (S.opnd x).1;exact j.out S m (by simp only[execOp,d])
 ·rename_i g x y d;obtain⟨M,N⟩:=S.list x;obtain⟨h3,h4⟩:=S.list y;exact(QV.pure (P:=C.P) (Ak1 M h3) (λc u=>(Bo4 c u).elim (N c) (h4 c))).out S h (by simp[execOp,d,Instr.makeFunc])
 ·rename_i d;rw[d] at l;simp[I9] at l
 ·rename_i t x lo hi mx d;have T:=S.ov lo;have O:=S.ov hi;have X:=S.ov mx;split at h
  ·rename_i n e b G q;split at h
   ·rename_i v e' sz a6 hb;split at h
    ·rename_i u;obtain⟨M,N⟩:=C3 h;simp only[decide_eq_true_eq] at M;have j:=(S.opnd x).1;rw[q] at j;obtain⟨v,m,j⟩:=Kz S.hr N G u.1 u.2.1 hb M (by omega) (by simp only[maxLen];omega) j T O X;exact j.qv.out S m (by simp only[execOp,d])
    grind
   ·cases h
  ·split at h
   ·rename_i hm;obtain⟨v,m,j⟩:=Tl S.hr h (S.opnd x).1 (S.opnd x).2 T O X (by rw[Bx,Bx];intro h;simpa[h] using hm);exact j.qv.out S m (by simp only[execOp,d])
   ·cases h
 ·rename_i t x f d;obtain⟨v,m,j⟩:=Im h (S.opnd x).1 (S.opnd x).2;exact j.qv.out S m (by simp only[execOp,d])
 ·rename_i t x f d;obtain⟨v,m,j⟩:=PA h (S.opnd x).1 (S.opnd x).2;exact j.out S m (by simp only[execOp,d])
 ·rename_i t x i d;obtain⟨v,m,j⟩:=Iq S.hr h (S.opnd x).1 (S.opnd i).1 (S.opnd x).2;exact j.qv.out S m (by simp only[execOp,d])
 ·rename_i t x i d;obtain⟨v,m,j⟩:=PI h (S.opnd x).1 (S.opnd i).1 (S.opnd x).2;exact j.out S m (by simp only[execOp,d])
 ·rename_i d;rw[d] at l;simp[I9] at l
 ·rename_i d;rw[d] at l;simp[I9] at l
 ·rename_i d;rw[d] at l;simp[I9] at l
 ·rename_i t x i ok d;obtain⟨v,m,j⟩:=GW S.hr h (S.opnd x).1 (S.opnd i).1;exact j.out S m (by simp only[execOp,d])
 ·rename_i d;rw[d] at l;simp[I9] at l
 ·rename_i t i d;split at h
  ·rename_i vs q;split at h
   ·rename_i v a3;have j:=(S.opnd t).1;have hn:=(S.opnd t).2;rw[q] at j hn;obtain⟨A,e,hA,u⟩:=j.inv_tup;obtain⟨V,a1⟩:=o5.1 a3;obtain⟨U,e1,k1⟩:=u i V;rw[a1] at k1;refine⟨U,_,h,λw' hw=>?_,S.put k1 (λc u=>hn c (by simp only[PV.nms];exact C4.2 ⟨i,V,by rw[a1];exact u⟩)),Stp.refl S.hr⟩;simp only[execOp,d,e,ai1,e1];rfl
   ·cases h
  ·cases h
 ·rename_i c d;split at h
  ·rename_i b p;unfold Ce at h;dsimp only at h;split at h
   ·rename_i t D x a2 F;obtain⟨x0,a4,rfl⟩:=Cf5 F;obtain⟨v,m,j⟩:=Ai7 (ts:=D) (ty:=o.type) S.hr h (S.opnd x0).1;refine j.out S m ?_;obtain⟨cs,z⟩:=P7 (ρ:=a.eval) d p;have a0:c.argTypes=(t::D).toArray:=by rw[<-a2]
    rw[z,a4,a0];simp[builtin]
   ·rw[d] at l;simp[I9,p] at l
   ·rw[d] at l;simp[I9,p] at l
   ·obtain⟨v,x,y,kd,m,K,j⟩:=On (P:=C.P) (Γ:=Y) (H:=L.hp) (w:=w) c.argTypes o.type h;refine j.out S m ?_;obtain⟨cs,z⟩:=P7 (ρ:=a.eval) d p;rw[z,S.args_ints K];simp[builtin]
   ·obtain⟨v,x,y,kd,m,K,j⟩:=On (P:=C.P) (Γ:=Y) (H:=L.hp) (w:=w) c.argTypes o.type h;refine j.out S m ?_;obtain⟨cs,z⟩:=P7 (ρ:=a.eval) d p;rw[z,S.args_ints K];simp[builtin]
   ·rw[d] at l;simp[I9,p] at l
   ·rw[d] at l;simp[I9,p] at l
   ·cases h
  ·rename_i p;rw[d] at l;simp[I9,p] at l
  ·cases h
 ·cases h
theorem A09{t q:Nat}{op:BinOp}{x y:Operand}(c:o.op = .binOp op t x y q)(h:opK C J Z o L k=some r)(S:SI C I Y Q L a.tmps w) :
  ∃V b,k b=some r/\(∀w':World,(execOp a.eval o).run C.P w' = .ok (.value V) w')/\SI C I Y Q b (a.put o.dst V).tmps w/\Stp C Y L.hp w noΦ Y b.hp w noΦ:=by
 simp only[opK,c] at h;obtain⟨v,d,e⟩:=CF (ox:=x) (oy:=y) h (S.opnd x).1 (S.opnd y).1;exact e.out S d (by simp only[execOp,c])
theorem VK{t f:Nat}{x:Operand}(c:o.op = .fieldAddr t x f)(h:opK C J Z o L k=some r)(S:SI C I Y Q L a.tmps w) :
  ∃V b,k b=some r/\(∀w':World,(execOp a.eval o).run C.P w' = .ok (.value V) w')/\SI C I Y Q b (a.put o.dst V).tmps w/\Stp C Y L.hp w noΦ Y b.hp w noΦ:=by
 simp only[opK,c] at h;obtain⟨v,d,e⟩:=Im h (S.opnd x).1 (S.opnd x).2;exact e.out S d (by simp only[execOp,c])
theorem UH{t:Nat}{parts:Array (Nat × Operand)}(c:o.op = .build t parts)(h:opK C J Z o L k=some r)(S:SI C I Y Q L a.tmps w) :
  ∃V b,k b=some r/\(∀w':World,(execOp a.eval o).run C.P w' = .ok (.value V) w')/\SI C I Y Q b (a.put o.dst V).tmps w/\Stp C Y L.hp w noΦ Y b.hp w noΦ:=by
 simp only[opK,c] at h;obtain⟨d,e⟩:=S.parts parts.toList;obtain⟨v,f,g⟩:=Rc (ps:=parts.map λ(i,x)=>(i,a.eval x)) h (by rw[w9];exact d) e;exact g.out S f (by simp only[execOp,c])
theorem WK{t:Nat}{x i:Operand}(c:o.op = .indexAddr t x i)(h:opK C J Z o L k=some r)(S:SI C I Y Q L a.tmps w) :
  ∃V b,k b=some r/\(∀w':World,(execOp a.eval o).run C.P w' = .ok (.value V) w')/\SI C I Y Q b (a.put o.dst V).tmps w/\Stp C Y L.hp w noΦ Y b.hp w noΦ:=by
 simp only[opK,c] at h;obtain⟨v,d,e⟩:=Iq S.hr h (S.opnd x).1 (S.opnd i).1 (S.opnd x).2;exact e.out S d (by simp only[execOp,c])
theorem YJ{t:Nat}{x:Operand}{y u z:Option Operand}(c:o.op = .slice t x y u z)(h:opK C J Z o L k=some r)(S:SI C I Y Q L a.tmps w) :
  ∃V d,k d=some r/\(∀w':World,(execOp a.eval o).run C.P w' = .ok (.value V) w')/\SI C I Y Q d (a.put o.dst V).tmps w/\Stp C Y L.hp w noΦ Y d.hp w noΦ:=by
 simp only[opK,c] at h;have i:=S.ov y;have g:=S.ov u;have j:=S.ov z;split at h
 ·rename_i n e b m G;split at h
  ·rename_i v H K A D;split at h
   ·rename_i q;obtain⟨p,B⟩:=C3 h;simp only[decide_eq_true_eq] at p;have f:=(S.opnd x).1;rw[G] at f;obtain⟨v,l,f⟩:=Kz S.hr B m q.1 q.2.1 D p (by omega) (by simp only[maxLen];omega) f i g j;exact f.out S l (by simp only[execOp,c])
   ·cases h
  ·cases h
 ·split at h
  ·rename_i F;obtain⟨v,l,f⟩:=Tl S.hr h (S.opnd x).1 (S.opnd x).2 i g j (by rw[Bx,Bx];intro h;simpa[h] using F);exact f.out S l (by simp only[execOp,c])
  ·cases h
end
def Vn:Op->Bool
 | .call c=>match c.callee with
  | .builtin _=>false
  | _=>true
 | _=>false
section
variable {W R : Type} {r : R} {C : Cfg} {I : W -> (Nat -> Prop) -> (Nat -> Prop) -> World -> Prop} {Q : Ctx} {Y : Nat -> Prop} {L : St W} {a : Act} {w : World} {J : E3} {U : Yh W} {o : Oper} {k : St W -> Option R}
def Bz0(C:Cfg)(I:W->(Nat->Prop)->(Nat->Prop)->World->Prop)(Q:Ctx)(Y:Nat->Prop)(L:St W)(a:Act)(w:World)(o:Oper)(k:St W->Option R)(r:R):Prop:=
 ∃V w' Γ' b,k b=some r/\((execOp a.eval o).run C.P w = .ok (.value V) w'\/(V=undef/\(execOp a.eval o).run C.P w = .ok .skip w'))/\SI C I Γ' Y b (a.put o.dst V).tmps w'/\Stp C Q L.hp w Y Γ' b.hp w' Y
theorem Stp.lift{Γ':Ctx}{H H':List Blk}{w':World}(h:Stp C Q H w noΦ Γ' H' w' noΦ)(Y:Nat->Prop):Stp C Q H w Y Γ' H' w' Y:=
 ⟨h.os,h.tape,h.output,h.size,h.sub,h.stnew,h.own,λ_ h=>.inl h,λg hg hn _=>h.frame g hg hn (λx=>x),h.yv,h.len,h.keep⟩
theorem Bz2.loud(h:Bz2 C I Q Y L a w o k r):Bz0 C I Q Y L a w o k r:=by obtain⟨V,st',h1,h2,h3,h4⟩:=h;exact⟨V,w,Q,st',h1,.inl (h2 w (Ext.refl w)),h3,h4.lift Y⟩
theorem SI.after(hI:HI I)(S:SI C I Q Y L a.tmps w){w':World}{Γ':Ctx}{H':List Blk}{sl':List PV}{v:PV}{V:Value}(h:Stp C Q L.hp w noΦ Γ' H' w' noΦ)(hr:HR Γ' H' w')(hs:SR Q L.hp w L.sl a.tmps->SR Γ' H' w' sl' a.tmps)(hv:VP Γ' (A1 H') w' v V)(hn:∀c∈v.nms,c<H'.length) :
  SI C I Γ' Y { sl:=L0 o.dst v sl',hp:=H',s:=L.s } (a.put o.dst V).tmps w':=
 S.step hI (h.lift Y) (λg hg=>h.frame g (hI.foot _ _ _ _ S.inv g hg).1 (λb hb=>S.dis b g hb hg) (λx=>x)) hr ((hs S.sr).put (ds:=a.defers) o hv hn)
theorem WV.out{m:Sem Value}{v:PV}{sl':List PV}{H':List Blk}(hI:HI I)(S:SI C I Q Y L a.tmps w)(h:WV C Q L.hp w L.sl a.tmps m v sl' H')(hk:k { sl:=L0 o.dst v sl',hp:=H',s:=L.s } = some r)(he:execOp a.eval o=(do pure (.value (<-m)))):Bz0 C I Q Y L a w o k r:=by obtain⟨V,w',Γ',h1,h2,h3,h4,h5,h6⟩:=h;refine⟨V,w',Γ',_,hk,.inl ?_,S.after hI h2 h3 h4 h5 h6,h2.lift Y⟩;simp_all
theorem WV.outU{m:Sem Unit}{v:PV}{sl':List PV}{H':List Blk}(hI:HI I)(S:SI C I Q Y L a.tmps w)(h:WV C Q L.hp w L.sl a.tmps (do m;pure undef) v sl' H')(hk:k { sl:=L0 o.dst v sl',hp:=H',s:=L.s } = some r)(he:execOp a.eval o=(do m;pure .skip)):Bz0 C I Q Y L a w o k r:=by
 obtain⟨V,w',Γ',h1,h2,h3,h4,h5,h6⟩:=h;have key:V=undef/\m.run C.P w = .ok () w':=by
  simp only[af0] at h1;cases hm:m.run C.P w with
  | ok u w1=>rw[hm] at h1;simp at h1;exact⟨h1.1.symm,by rw[h1.2]⟩
  | halt x w1=>rw[hm] at h1;simp[ab2] at h1
 refine⟨V,w',Γ',_,hk,.inr ⟨key.1,?_⟩,S.after hI h2 h3 h4 h5 h6,h2.lift Y⟩;simp_all
theorem XH(D:HI I)(hq:Vn o.op=false)(h:opK C J U o L k=some r)(S:SI C I Q Y L a.tmps w):Bz0 C I Q Y L a w o k r:=by
 by_cases g:I9 C o.op=true
 ·exact(Nw g h S).loud
 have h0:=h;unfold opK at h;dsimp only at h;split at h
 ·rename_i f;exact absurd (by rw[f];rfl) g
 ·rename_i f;exact absurd (by rw[f];rfl) g
 ·rename_i f;exact absurd (by rw[f];rfl) g
 ·rename_i e f;by_cases H:(C.ti e).ok=true
  ·obtain⟨i,z,hi,hz,a2,a0⟩:=Cc (Γ:=Q) (sh:=A1 L.hp) (w:=w) H;obtain⟨v,H',q,j⟩:=CG (V:=z) (sl:=L.sl) (tmps:=a.tmps) (m:=ah2 e true (.tuple #[])) S.hr h a0 (by rw[Jj];simp) (by simp[ah2,zeroValue,typeInfo,hi,hz,newVar,newRow]);exact j.out D S q (by simp only[execOp,f])
  ·simp[Vd,H] at h
 ·rename_i e x f;split at h
  ·rename_i K;by_cases H:(C.ti e).ok=true
   ·obtain⟨i,hi,a2,a3⟩:=I8 H;have P:(opnd C L.sl x).cells≠[]:=by intro e;rw[e] at K;simp at K;omega
    obtain⟨v,H',q,j⟩:=CG (V:=a.eval x) (sl:=L.sl) (tmps:=a.tmps) (m:=Instr.box e (a.eval x)) S.hr h ((S.opnd x).1.cells' P) (λc hc=>(S.opnd x).2 c (PV.cells_nms c hc)) (by simp[Instr.box,newVar,newRow]);exact j.out D S q (by simp only[execOp,f])
   ·simp[Vd,H] at h
  ·cases h
 ·rename_i f;exact absurd (by rw[f];rfl) g
 ·rename_i t len parts f;obtain⟨h1,h2⟩:=S.parts parts.toList;cases T:C.stab t with
  | true=>
   simp only[T,cond_true] at h;obtain⟨v,q,j,_⟩:=Ib (ps:=parts.map λ(i,x)=>(i,a.eval x)) (sl:=L.sl) (tmps:=a.tmps) S.hr h (by rw[w9];exact h1);exact j.out D S q (by simp only[execOp,f])
  | false=>
  simp only[T,cond_false] at h;obtain⟨v,H',q,j,_⟩:=Gg (ps:=parts.map λ(i,x)=>(i,a.eval x)) (sl:=L.sl) (tmps:=a.tmps) S.hr h (by rw[w9];exact h1);exact j.out D S q (by simp only[execOp,f])
 ·rename_i f;exact absurd (by rw[f];rfl) g
 ·rename_i t x y f;obtain⟨H',q,j⟩:=RS (sl:=L.sl) (tmps:=a.tmps) S.hr h (S.opnd x).1 (S.opnd y).1 (S.opnd y).2;exact j.outU D S q (by simp only[execOp,f])
 ·rename_i f;exact absurd (by rw[f];rfl) g
 ·rename_i f;exact absurd (by rw[f];rfl) g
 ·rename_i f;exact absurd (by rw[f];rfl) g
 ·rename_i a6 a4 x f;split at h
  ·obtain⟨v,q,j⟩:=NF (sl:=L.sl) (tmps:=a.tmps) S.hr h (S.opnd x).1;exact j.out D S q (by simp only[execOp,f])
  ·rename_i P;refine absurd ?_ g;rw[f];simp only[I9]
   done
 ·rename_i f;exact absurd (by rw[f];rfl) g
 ·rename_i t l c f;obtain⟨v,H',q,j⟩:=Wh (sl:=L.sl) (tmps:=a.tmps) S.hr h (S.opnd l).1 (S.opnd c).1;exact j.out D S q (by simp only[execOp,f])
 ·rename_i f;exact absurd (by rw[f];rfl) g
 ·rename_i f;exact absurd (by rw[f];rfl) g
 ·rename_i f;exact absurd (by rw[f];rfl) g
 ·rename_i f;exact absurd (by rw[f];rfl) g
 ·rename_i f;exact absurd (by rw[f];rfl) g
 ·rename_i t x f;split at h
  ·rename_i l hx;split at h
   ·rename_i a1;have j:=(S.opnd x).1;rw[hx] at j;obtain⟨s,e,rfl⟩:=j.inv_str;have:=Bq4 (C:=C) (s:=s) (sl:=L.sl) (tmps:=a.tmps) S.hr (Y8 a1);exact this.out D S h (by simp only[execOp,f,e])
   ·cases h
  ·cases h
 ·rename_i it f;split at h
  ·rename_i b hx;have j:=(S.opnd it).1;rw[hx] at j;split at h
   ·rename_i l p hb;by_cases X:p<l.length
    ·simp only[X,decide_true,Cx,cond_true] at h;have:=B75 (C:=C) (ty:=o.type) (sl:=L.sl) (tmps:=a.tmps) S.hr j hb X;exact this.out D S h (by simp only[execOp,f])
    ·simp only[X,decide_false,Cx,cond_false] at h;have:=XE (C:=C) (ty:=o.type) S.hr j hb X;exact(this.out S h (by simp only[execOp,f])).loud
   ·cases h
  ·cases h
 ·rename_i t f;obtain⟨v,H',q,j,_⟩:=Mn (sl:=L.sl) (tmps:=a.tmps) S.hr h;exact j.out D S q (by simp only[execOp,f,Option.map_none])
 ·rename_i f;exact absurd (by rw[f];rfl) g
 ·rename_i t m x y f;obtain⟨H',q,j⟩:=HA (sl:=L.sl) (tmps:=a.tmps) S.hr h (S.opnd m).1 (S.opnd x).1 (S.opnd y).1 (S.opnd y).2;exact j.outU D S q (by simp only[execOp,f])
 ·rename_i f;exact absurd (by rw[f];rfl) g
 ·rename_i c f;split at h
  ·rename_i b B;unfold Ce at h;dsimp only at h;split at h
   ·exact absurd (by rw[f];simp[I9,B]) g
   ·rename_i t u s x F n;obtain⟨s0,O,G,rfl,rfl⟩:=TS n;have A:c.argTypes=[t,u].toArray:=by rw[<-F]
    split at h
    ·rename_i hu;obtain⟨v,a5,H',q,j⟩:=Oi (ty:=o.type) (tmps:=a.tmps) S.hr hu h (S.opnd s0).1 (S.opnd O).1;refine j.out D S q ?_;obtain⟨Z,N⟩:=P7 (ρ:=a.eval) f B;rw[N,G,A];simp[builtin]
    grind
   ·rename_i t u d x F n;obtain⟨s0,O,G,rfl,rfl⟩:=TS n;have A:c.argTypes=[t,u].toArray:=by rw[<-F]
    obtain⟨v,H',q,j⟩:=UX (u:=u) (ty:=o.type) (sl:=L.sl) (tmps:=a.tmps) S.hr h (S.opnd s0).1 (S.opnd O).1;refine j.out D S q ?_;obtain⟨Z,N⟩:=P7 (ρ:=a.eval) f B;rw[N,G,A];simp[builtin]
   ·exact absurd (by rw[f];simp[I9,B]) g
   ·exact absurd (by rw[f];simp[I9,B]) g
   ·rename_i t x F n;obtain⟨O,G,rfl⟩:=Cf5 n;have A:c.argTypes = #[t]:=by rw[<-F]
    obtain⟨H',q,j⟩:=OR (ty:=o.type) (sl:=L.sl) (tmps:=a.tmps) S.hr h (S.opnd O).1;refine j.out D S q ?_;obtain⟨Z,N⟩:=P7 (ρ:=a.eval) f B;rw[N,G,A];simp[builtin]
   ·rename_i t M m x F n;obtain⟨m0,O,G,rfl,rfl⟩:=TS n;have A:c.argTypes=(t::M).toArray:=by rw[<-F]
    obtain⟨H',q,j⟩:=GZ (ts:=M) (ty:=o.type) (sl:=L.sl) (tmps:=a.tmps) S.hr h (S.opnd m0).1 (S.opnd O).1;refine j.out D S q ?_;obtain⟨Z,N⟩:=P7 (ρ:=a.eval) f B;rw[N,G,A];simp[builtin]
   ·cases h
  ·rename_i B;rw[f] at hq;simp[Vn,B] at hq
  ·cases h
 ·cases h
end
theorem Kl(f:Nat->Nat)(l:List PV):rnL f l=l.map (PV.rn f):=by
 induction l with
 | nil=>rfl
 | cons v r a=>simp[rnL,a]
theorem Ap(H:List Blk)(l:List PV):O2 H l=l.map (PV.snap H):=by
 induction l with
 | nil=>rfl
 | cons v r a=>simp[O2,a]
theorem Bc{l:List PV}(h:Hm l=true):∀v∈l,v.clean=true:=by
 induction l with
 | nil=>simp
 | cons a l b=>
  simp only[Hm,c8] at h;grind
mutual
theorem PV.rn_nms(f:Nat->Nat):∀v:PV,(v.rn f).nms=v.nms.map f
 | .s _=>rfl
 | .nsl=>rfl
 | .fl b=>rfl
 | .vw b _ _=>rfl
 | .ptr b _ _=>rfl
 | .fnr _ x y=>by simp only[PV.rn,PV.nms,ah3,Dp f x,Dp f y]
 | .it b=>rfl
 | .yd=>rfl
 | .agg l=>by simp only[PV.rn,PV.nms,Dp f l]
 | .tup l=>by simp only[PV.rn,PV.nms,Dp f l]
 | .bad=>rfl
theorem Dp(f:Nat->Nat):∀l:List PV,C6 (rnL f l)=(C6 l).map f
 | []=>rfl
 | v::r=>by simp only[rnL,C6,ah3,PV.rn_nms f v,Dp f r]
end
theorem Blk.rn_nms(f:Nat->Nat)(x:Blk):(x.rn f).nms=x.nms.map f:=by
 have e:∀l:List PV,l.map (PV.rn f)=rnL f l:=λl=>(Kl f l).symm
 cases x<;>simp only[Blk.rn,Blk.nms,Dp,HB,ag3,ae2]
 rename_i ents;rw[<-Dp,<-e,ag3];rfl
theorem Blk.rn_shp(f:Nat->Nat)(x:Blk):(x.rn f).shp=x.shp:=by cases x<;>rfl
theorem VS.clean{St St':Nat->Prop}{w w':World}{v:SV}{V:Value}(h:VS St w v V)(hc:v.plain=true):VS St' w' v V:=by
 cases h with
 | bool=>exact .bool _
 | int=>exact .int _ _
 | str=>exact .str _
 | nilp=>exact .nilp
 | nilm=>exact .nilm
 | nilf=>exact .nilf
 | nil=>simp[SV.plain] at hc
 | emp=>simp[SV.plain] at hc
 | sl=>simp[SV.plain] at hc
 | sp=>simp[SV.plain] at hc
 | fn=>simp[SV.plain] at hc
theorem VP.rn{f:Nat->Nat}{Γ Γ':Ctx}{sh sh':Nat->Option Shp}{w:World}(hyv:Γ'.yv=Γ.yv){v:PV}{V:Value}(h:VP Γ sh w v V) :
  (v.clean=true\/∀g,Γ.St g->Γ'.St g)->(∀b∈v.nms,Γ'.nm (f b)=Γ.nm b/\sh' (f b)=sh b)->VP Γ' sh' w (v.rn f) V:=by
 induction h with
 | s v V h=>
  intro hc _;rcases hc with hc|hc
  ·refine .s _ _ (h.clean ?_);cases v<;>simp_all [PV.clean,SV.plain]
  ·exact .s _ _ (h.mono (λ_ _=>rfl) hc)
 | nsl=>intro _ _;exact .nsl
 | flv b e sz h=>intro _ hn;exact .flv _ e sz (by rw[(hn b (by simp[PV.nms])).2];exact h)
 | fl b g v e sz n cap h hv hg hcap hm hs=>
  intro _ hn;have o:=hn b (by simp[PV.nms]);exact .fl _ g v e sz n cap (by rw[o.2];exact h) hv (by rw[o.1];exact hg) hcap hm hs
 | vwv b e sz i h=>intro _ hn;exact .vwv _ e sz i (by rw[(hn b (by simp[PV.nms])).2];exact h)
 | vw b i n g a cap v e sz m h hv hg ha hi hcap hm=>
  intro _ hn;have o:=hn b (by simp[PV.nms]);exact .vw _ i n g a cap v e sz m (by rw[o.2];exact h) hv (by rw[o.1];exact hg) ha hi hcap hm
 | ptrA b i off g v e sz n h hg=>
  intro _ hn;have o:=hn b (by simp[PV.nms]);exact .ptrA _ i off g v e sz n (by rw[o.2];exact h) (by rw[o.1];exact hg)
 | ptrB b off g h hg=>
  intro _ hn;have o:=hn b (by simp[PV.nms]);exact .ptrB _ off g (by rw[o.2];exact h) (by rw[o.1];exact hg)
 | fnr g x y A B As Bs hf hA hB ha hb hx hy ihx ihy=>
  intro hc hn;simp only[PV.rn,Kl];refine .fnr g _ _ A B As Bs hf (by simpa using hA) (by simpa using hB) (λj h=>ha j (by simpa using h)) (λj h=>hb j (by simpa using h)) (λj h=>?_) (λj h=>?_)
  ·have hj:j<x.length:=by simpa using h
   rw[j0];refine ihx j hj (hc.imp (λe=>?_) id) (λb hb=>hn b (by simp only[PV.nms,w8];exact .inl (C4.2 ⟨j,hj,hb⟩)));simp only[PV.clean,c8] at e;exact Bc e.1 _ (j4 hj)
  ·have hj:j<y.length:=by simpa using h
   rw[j0];refine ihy j hj (hc.imp (λe=>?_) id) (λb hb=>hn b (by simp only[PV.nms,w8];exact .inr (C4.2 ⟨j,hj,hb⟩)));simp only[PV.clean,c8] at e;exact Bc e.2 _ (j4 hj)
 | it b g h hg=>
  intro _ hn;have o:=hn b (by simp[PV.nms]);exact .it _ g (by rw[o.2];exact h) (by rw[o.1];exact hg)
 | mpv b g h hg=>
  intro _ hn;have o:=hn b (by simp[PV.nms]);exact .mpv _ g (by rw[o.2];exact h) (by rw[o.1];exact hg)
 | yd=>intro _ _;rw[<-hyv];exact .yd
 | agg l A As hA ha hl ih=>
  intro hc hn;simp only[PV.rn,Kl];refine .agg _ A As (by simpa using hA) (λj h=>ha j (by simpa using h)) (λj h=>?_);have hj:j<l.length:=by simpa using h
  rw[j0];refine ih j hj (hc.imp (λe=>?_) id) (λb hb=>hn b (by simp only[PV.nms];exact C4.2 ⟨j,hj,hb⟩));simp only[PV.clean] at e;exact Bc e _ (j4 hj)
 | tup l A As hA ha hl ih=>
  intro hc hn;simp only[PV.rn,Kl];refine .tup _ A As (by simpa using hA) (λj h=>ha j (by simpa using h)) (λj h=>?_);have hj:j<l.length:=by simpa using h
  rw[j0];refine ih j hj (hc.imp (λe=>?_) id) (λb hb=>hn b (by simp only[PV.nms];exact C4.2 ⟨j,hj,hb⟩));simp only[PV.clean] at e;exact Bc e _ (j4 hj)
 | bad V=>intro _ _;exact .bad V
theorem Cl5(f:Nat->Nat)(a:Bool)(l:List SV):(svV a l).rn f=svV a l:=by
 cases a with
 | true=>simp only[svV,cond_true,PV.rn,Kl,ag3];rfl
 | false=>simp only[svV,cond_false];split<;>rfl
theorem Bc2{a:Bool}{l:List SV}(h:l.all SV.plain=true):(svV a l).clean=true:=by
 have key:∀x:SV,x.plain=true->(PV.s x).clean=true:=λx b=>by cases x<;>first|rfl|cases b
 cases a with
 | true=>
  simp only[svV,cond_true,PV.clean]
  induction l with
  | nil=>rfl
  | cons x l c=>
   simp only[List.all_cons,c8] at h;simp only[s9,Hm,c8];exact⟨key x h.1,c h.2⟩
 | false=>
  simp only[svV,cond_false];split
  ·rename_i x;exact key x (by simpa using h)
  ·rfl
theorem BR.rn{f:Nat->Nat}{Γ Γ':Ctx}{sh sh':Nat->Option Shp}{w:World}(hyv:Γ'.yv=Γ.yv){b b':Nat}{x:Blk}(h:BR Γ sh w b x)(hc:x.clean=true\/∀g,Γ.St g->Γ'.St g)(hb:Γ'.nm b'=Γ.nm b)
  (hn:∀c∈x.nms,Γ'.nm (f c)=Γ.nm c/\sh' (f c)=sh c):BR Γ' sh' w b' (x.rn f):=by
 cases x with
 | arr v e sz els=>
  rcases h with h|⟨hn,g,cur,h1,h2,h3,h4,h5⟩
  ·exact .inl h
  ·refine .inr ⟨hn,g,cur,by rw[hb];exact h1,h2,h3,h4,λi hi j hj=>?_⟩;obtain⟨V,e1,e2⟩:=h5 i hi j hj;refine⟨V,e1,?_⟩;rcases hc with hc|hc
   ·simp only[Blk.clean,j2] at hc;exact e2.clean (hc _ (j4 hi) _ (j4 hj))
   ·exact e2.mono (λ_ _=>rfl) hc
 | box cells=>
  obtain⟨g,cur,e,h1,h2,h3,h4⟩:=h;simp only[Blk.rn,Kl];refine⟨g,cur,e,by rw[hb];exact h1,h2,by simpa using h3,λj hj=>?_⟩;have hj':j<cells.length:=by simpa using hj
  obtain⟨V,e1,e2⟩:=h4 j hj';rw[j0];refine⟨V,e1,e2.rn hyv (hc.imp (λe=>?_) id) (λc hc=>hn c (by simp only[Blk.nms];exact C4.2 ⟨j,hj',hc⟩))⟩;simp only[Blk.clean] at e;exact Bc e _ (j4 hj')
 | iter s p=>
  obtain⟨g,s',h1,h2,h3⟩:=h;exact⟨g,s',by rw[hb];exact h1,h2,h3⟩
 | mp ents=>
  obtain⟨g,es,ck,h1,h2,h3⟩:=h;exact⟨g,es,ck,by rw[hb];exact h1,h2,h3.map λv hv V k=>k.rn hyv (hc.imp (λe=>Bc e v hv) id) λc hc=>hn c (Wi hv c hc)⟩
 | ms a ents=>
  obtain⟨g,es,ck,h1,h2,h3⟩:=h;refine⟨g,es,ck,by rw[hb];exact h1,h2,h3.imp λv hv V k=>?_⟩;obtain⟨e,he,rfl⟩:=Zu hv;have:=k.rn (f:=f) (sh':=sh') hyv (hc.imp (λq=>Bc2 (j2.1 q e he)) id) (λc hc=>by rw[RU] at hc;simp at hc);rwa [Cl5] at this
 | dead=>trivial
theorem Ak0{l:List Nat}{b c:Nat}:c∈Cr l b↔c∈l\/c=b:=by
 unfold Cr;split
 ·rename_i h;have a:b∈l:=by simpa using h
  exact⟨.inl,λh=>h.elim id (λe=>e▸a)⟩
 ·simp
theorem Fq:∀(xs a:List Nat) (c:Nat),c∈xs.foldl Cr a↔c∈a\/c∈xs
 | [],a,c=>by simp
 | x::xs,a,c=>by rw[ac3,Fq xs,Ak0,x6,or_assoc]
theorem NA{l:List Nat}{b:Nat}(h:l.Nodup):(Cr l b).Nodup:=by
 unfold Cr;split
 ·exact h
 ·rename_i a;rw[List.nodup_append];refine⟨h,by simp,λx d y c e=>?_⟩;simp at c;subst c;subst e;simp at a;exact a d
theorem Jm:∀(xs a:List Nat),a.Nodup->(xs.foldl Cr a).Nodup
 | [],a,h=>h
 | x::xs,a,h=>by rw[ac3];exact Jm xs _ (NA h)
theorem FY(H:List Blk):∀(l a:List Nat),a.Nodup->(l.foldl (λa b=>((H.getD b .dead).nms).foldl Cr a) a).Nodup
 | [],a,h=>h
 | x::l,a,h=>by rw[ac3];exact FY H l _ (Jm _ _ h)
theorem YR(H:List Blk):∀(l a:List Nat) c,c∈a->c∈l.foldl (λa b=>((H.getD b .dead).nms).foldl Cr a) a
 | [],a,c,h=>h
 | x::l,a,c,h=>by rw[ac3];exact YR H l _ c ((Fq _ _ _).2 (.inl h))
theorem YP(H:List Blk)(p:Nat->Prop)(f:∀b,p b->∀c∈(H.getD b .dead).nms,p c):∀(l a:List Nat),(∀c∈a,p c)->(∀c∈l,p c)->∀c∈l.foldl (λa b=>((H.getD b .dead).nms).foldl Cr a) a,p c
 | [],a,h,_=>h
 | x::l,a,h,e=>by
  rw[ac3];refine YP H p f l _ (λc d=>?_) (λc d=>e c (by simp[d]));rcases(Fq _ _ _).1 d with d|d
  ·exact h c d
  ·exact f x (e x (by simp)) c d
theorem Kk(H:List Blk)(p:List Nat->Prop)(a:∀l,p l->p (FH H l)):∀n l,p l->p (RA H n l)
 | 0,l,h=>h
 | n+1,l,h=>by
  unfold RA;cases x9 (FH H l).length l.length with
  | true=>exact h
  | false=>exact Kk H p a n _ (a l h)
theorem Yk(H:List Blk)(l:List Nat):(Az H l).Nodup:=
 Kk H List.Nodup (λ_ h=>FY H _ _ h) _ _ (Jm _ _ ah7)
theorem JW(H:List Blk)(l:List Nat):∀c∈l,c∈Az H l:=λc a=>
 Kk H (c∈·) (λ_ h=>YR H _ _ c h) _ _ ((Fq _ _ _).2 (.inr a))
theorem JV(H:List Blk)(l:List Nat)(p:Nat->Prop)(g:∀b,p b->∀c∈(H.getD b .dead).nms,p c)(f:∀c∈l,p c):∀c∈Az H l,p c:=by
 have d:∀c∈l.foldl Cr [],p c:=λc e=>by
  rcases(Fq _ _ _).1 e with h|h
  ·simp at h
  ·exact f c h
 have step:∀m,(∀c∈m,p c)->∀c∈FH H m,p c:=λm a=>YP H p g m m a a
 exact Kk H (λm=>∀c∈m,p c) step _ _ d
theorem GP{H:List Blk}{a:List Nat}(h:Cg H a=true):∀b∈a,∀c∈(H.getD b .dead).nms,c∈a:=by intro b d c e;simp only[Cg,j2] at h;simpa using h b d c e
theorem Y2{c:List Nat}{b:Nat}(h:b∈c):∃a:F7 c b<c.length,c[F7 c b]=b:=by have a:c.idxOf b<c.length:=List.idxOf_lt_length_of_mem h;exact⟨a,List.getElem_idxOf a⟩
theorem Ke{Γ:Ctx}{sh:Nat->Option Shp}{w:World}:∀(a:List Nat) (sl:List PV),(J4 a sl).length=sl.length/\(∀c∈C6 (J4 a sl),c∉a/\c∈C6 sl)/\
  ∀i (h:i<(J4 a sl).length) (f:i<sl.length) V,VP Γ sh w (sl[i]) V->VP Γ sh w ((J4 a sl)[i]) V
 | [],sl=>⟨rfl,λc g=>⟨by simp,g⟩,λi h f V k=>k⟩
 | b::a,sl=>by
  obtain⟨n,o,p⟩:=Ke (Γ:=Γ) (sh:=sh) (w:=w) a (U0 b sl);have j:(U0 b sl).length=sl.length:=by rw[Ag];simp
  have e:J4 (b::a) sl=J4 a (U0 b sl):=rfl;refine⟨by rw[e,n,j],λc g=>?_,λi h f V k=>?_⟩
  ·rw[e] at g;obtain⟨q,l⟩:=o c g;refine⟨?_,Z3 b sl c l⟩;rintro d;rcases x6.1 d with rfl|d
   ·exact Q1 c sl l
   ·exact q d
  ·simp only[e];refine p i (by rw[e] at h;exact h) (by rw[j];exact f) V ?_;have m:(U0 b sl)[i]'(by rw[j];exact f)=(sl[i]).kill b:=by simp[Ag]
   rw[m];exact k.kill b
theorem Mj{Γ:Ctx}{sh:Nat->Option Shp}{w:World}:∀(a:List Nat) (H:List Blk),(O9 a H).length=H.length/\(∀b,A1 (O9 a H) b=A1 H b)/\
  ∀i (h:i<(O9 a H).length) (g:i<H.length),(∀c∈((O9 a H)[i]).nms,c∉a/\c∈(H[i]).nms)/\∀b,BR Γ sh w b (H[i])->BR Γ sh w b ((O9 a H)[i])
 | [],H=>⟨rfl,λ_=>rfl,λi h g=>⟨λc f=>⟨by simp,f⟩,λb l=>l⟩⟩
 | k::a,H=>by
  obtain⟨p,q,r⟩:=Mj (Γ:=Γ) (sh:=sh) (w:=w) a (H.map (Blk.kill k));have n:(H.map (Blk.kill k)).length=H.length:=by simp
  have e:O9 (k::a) H=O9 a (H.map (Blk.kill k)):=rfl;refine⟨by rw[e,p,n],λb=>by rw[e,q,FO],λi h g=>?_⟩;have j:i<(H.map (Blk.kill k)).length:=by rw[n];exact g
  obtain⟨t,u⟩:=r i (by rw[e] at h;exact h) j;have m:(H.map (Blk.kill k))[i]=(H[i]).kill k:=by simp
  refine⟨λc f=>?_,λb l=>?_⟩
  ·simp only[e] at f;obtain⟨v,o⟩:=t c f;rw[m] at o;obtain⟨x,y⟩:=Blk.kill_nms' c o;refine⟨?_,y⟩;rintro d;rcases x6.1 d with rfl|d
   ·exact x rfl
   ·exact v d
  ·simp only[e];exact u b (by rw[m];exact l.kill)
theorem Ha:∀(a:List Nat) (xs H:List Blk),a.Nodup->xs.length=a.length->(∀b∈a,b<H.length)->(S8 H a xs).length=H.length/\
  ∀b,(S8 H a xs)[b]? = if b∈a then xs[a.idxOf b]? else H[b]?
 | [],xs,H,_,f,_=>by cases xs<;>simp[S8]
 | n::a,[],H,_,f,_=>by simp at f
 | n::a,x::xs,H,i,f,d=>by
  obtain⟨j,k⟩:=Ha a xs (H.set n x) (ae0.1 i).2 (by simpa using f) (λb c=>by simpa using d b (by simp[c]));have e:S8 H (n::a) (x::xs)=S8 (H.set n x) a xs:=rfl;refine⟨by rw[e,j];simp,λb=>?_⟩;rw[e,k];have l:n∉a:=(ae0.1 i).1;by_cases c:b∈a
  ·have g:n≠b:=by rintro rfl;exact l c
   rw[if_pos c,if_pos (by simp[c]),List.idxOf_cons];have:(n==b)=false:=by simpa using g
   simp[this]
  ·rw[if_neg c,List.getElem?_set];by_cases e:n=b
   ·subst e;rw[if_pos rfl,if_pos (d n (by simp)),if_pos (by simp)];simp
   ·rw[if_neg e,if_neg (by simp only[x6,not_or];exact⟨λh=>e h.symm,c⟩)]
def D6(a:Option Nat):Fence:={ aj2 with round:=a }
def M4(P:Program)(b:Result Next)(R:Value->World->Prop):Prop:=
 ∀(c:Option Nat) (n:Nat) (o:Oper) (a:Act) (next:Act->World->Prop) (Q:Exit->Act->World->Prop),(∀V w',R V w'->next (a.put o.dst V) w')->o.uponIn (D6 c) n P a next Q b
theorem M4.mono{P:Program}{res:Result Next}{R R':Value->World->Prop}(h:M4 P res R)(hr:∀V w',R V w'->R' V w'):M4 P res R':=
 λro n o a next Q hn=>h ro n o a next Q λV w' hR=>hn V w' (hr V w' hR)
def Y0{e:Type}(C:Cfg)(I:e->(Nat->Prop)->(Nat->Prop)->World->Prop)(h:Ctx)(H:List Blk)(w:World)(i:Nat->Prop)(ret:PV)(d:List Blk)(f:e)(V:Value)(w':World):Prop:=
 ∃ Γ' a,Stp C h H w i Γ' d w' a/\HR Γ' d w'/\VP Γ' (A1 d) w' ret V/\(∀c∈ret.nms,c<d.length)/\I f Γ'.St a w'/\∀b g,Γ'.nm b=some g->¬a g
def Ab1{i:Type}(P:Program)(I:i->(Nat->Prop)->(Nat->Prop)->World->Prop)(j:Yh i)(k:Value):Prop:=
 ∀args s b h,j args s=some (b,h)->Hv args=true->∀a e w f,I s a.St e w->(∀g,a.St g->g<w.heap.size)->CR a (λ_=>none) w args f->
  M4 P ((do let d <-p9 k f;invoke d.target d.args).run P w) λV w'=>V = .bool b/\∃St' c,I h St' c w'/\(∀g,a.St g->St' g)/\(∀g,St' g->a.St g\/w.heap.size<=g)/\(∀g,c g->e g\/w.heap.size<=g)/\
   (∀g,g<w.heap.size->¬e g->w'.heap[g]? = w.heap[g]?)/\w.heap.size<=w'.heap.size/\w'.os=w.os/\w'.tape=w.tape/\w'.output=w.output/\∀g,St' g->g<w'.heap.size
def Aa(C:Cfg)(l:E3):Prop:=
 ∀(e:Type) (I:e->(Nat->Prop)->(Nat->Prop)->World->Prop) (j:Yh e) (k:Value),HI I->Ab1 C.P I j k->
  ∀g args H s ret f i,l e j g args H s=some (ret,f,i)->∀a d w h,a.yv=k->HR a H w->GOK C a.St w->I s a.St d w->(∀b g,a.nm b=some g->¬d g)->CR a (A1 H) w args h->(∀c∈C6 args,c<H.length)->
   M4 C.P ((callFunc g h).run C.P w) (Y0 C I a H w d ret f i)
def I0:Unit->(Nat->Prop)->(Nat->Prop)->World->Prop:=λ_ _ a _=>∀g,¬a g
def Cq1(C:Cfg):Prop:=
 ∀g e args ret c,C.X g=some e->J2 (e args)=some (ret,c)->∀a w d,(∀b,a.nm b=none)->HR a [] w->GOK C a.St w->CR a (A1 []) w args d->
  M4 C.P ((callFunc g d).run C.P w) (Y0 C I0 a [] w noΦ ret c ())
def clY(C:Cfg):E3:=λ_ _ g args H s=>match C.Y g with
 | some a=>match J2 (a args H) with
  | some (r,h)=>some (r,h,s)
  | none=>none
 | none=>none
def P0{b:Type}(c:Yh b):List (List PV)->b->Option b
 | [],s=>some s
 | x::xs,s=>match c x s with
  | some (true,a)=>P0 c xs a
  | some (false,a)=>some a
  | none=>none
def clS(C:Cfg):E3:=λ_ c g args H s=>match C.S g with
 | some a=>if H.all DU=true then match a args H with
  | some (true,L)=>match P0 c L s with
   | some b=>some (.tup [],H.map Gf,b)
   | none=>none
  | _=>none
  else none
 | none=>none
def I5(w w':World):Prop:=(Ext w w'/\w.heap.size<=w'.heap.size)/\w'.os=w.os/\w'.tape=w.tape/\w'.output=w.output
def By3:SV->Value->Value->Array Value
 | .nilp,S,_=>#[S]
 | _,S,X=>#[S,X]
def TN(P:Program)(g:Nat)(d:SV->List (List SV)->Bool × List (List SV)):Prop:=
 ∀(St:Nat->Prop) (w:World) (x:SV) (X:Value) (a:List (List SV)),VS St w x X->(d x a).1=true->
  (a=[]->M4 P ((callFunc g (By3 x (.slice none 0 0) X)).run P w) λV w'=>V=undef/\(d x a).2=[]/\I5 w w')/\
  ∀f c e l cap,w.heap[f]? = some (.cells c e (0,0))->c.size=cap*l->a.length<=cap->cap<=maxLen->¬St f->(∀g,St g->g<w.heap.size)->
   (∀i (h:i<a.length),(a[i]).length=l)->(∀i (h:i<a.length) j (m:j<(a[i]).length),∃V,c[i*l+j]? = some V/\VS St w (a[i][j]) V)->
   M4 P ((callFunc g (By3 x (.slice (some ⟨f,0,none⟩) a.length cap) X)).run P w) λV w'=>V=undef/\(d x a).2.length=a.length/\
    ∃w1 b,w1.heap[f]? = some (.cells b e (0,0))/\b.size=c.size/\(∀k,k≠f->w1.heap[k]? = w.heap[k]?)/\w1.heap.size=w.heap.size/\w1.os=w.os/\w1.tape=w.tape/\w1.output=w.output/\
     (∀i (h:i<(d x a).2.length),((d x a).2[i]).length=l)/\(∀i (h:i<(d x a).2.length) j (m:j<((d x a).2[i]).length),∃V,b[i*l+j]? = some V/\VS St w1 ((d x a).2[i][j]) V)/\I5 w1 w'
structure XOK (C:Cfg):Prop where
 x:Cq1 C
 y:Aa C (clY C)
 s:Aa C (clS C)
 z:∀g pf,C.Z g=some pf->TN C.P g pf
section
variable {Γ : Ctx} {H : List Blk} {w : World} {C : Cfg}
def Ctx.all(Γ:Ctx):Ctx:={ Γ with St:=λg=>Γ.St g\/∃b,Γ.nm b=some g }
theorem RD{St':Nat->Prop}{b e f i n:Nat}{v:Bool}{c:List (List SV)}{a:Addr}{cap g:Nat}(K:HR Γ H w)(M:H[b]? = some (.arr v e f c))(y:¬(v=true/\c=[]))(N:Γ.nm b=some g)(Q:i+n<=c.length)(L:n≠0->a=⟨g,i*f,none⟩)(o:n<=cap)(G:cap<=maxLen)(z:∀g,Γ.St g->St' g)(u:St' g) :
  VS St' w (.sl false false f ((c.drop i).take n)) (.slice (some a) n cap):=by
 by_cases I:n=0
 ·subst I;rw[List.take_zero];exact .emp false f a cap (by simp) G
 ·rw[L I];obtain⟨O,d,B,D,P,J,F⟩:=K.arr' M y;rw[N] at B;cases B;have p:((c.drop i).take n).length=n:=by simp;omega
  have h:∀k (l:k<((c.drop i).take n).length),∃m:i+k<c.length,((c.drop i).take n)[k]=c[i+k]:=λk l=>by grind
  have t:∀k,k<d.size->w.cell? ⟨g,k,none⟩=d[k]?:=λk _=>cell_of_row w g k d e (0,0) D
  refine .sl false _ g (i*f) n cap f (λk j=>d.getD (i*f+k*f+j) undef) p.symm o G (by simp) u (λk l=>?_) (λk l j x=>?_) (λk l j x=>?_)
  ·obtain⟨m,e⟩:=h k l;rw[e];exact J _ m
  ·obtain⟨m,e⟩:=h k l;obtain⟨V,r,A⟩:=F _ m j (by rw[<-e];exact x);have q:d[i*f+k*f+j]? = some V:=by rw[<-r,ac7]
   rw[cell_of_row w g _ d _ (0,0) D,q];simp[j6,q]
  ·obtain⟨m,e⟩:=h k l;obtain⟨V,r,A⟩:=F _ m j (by rw[<-e];exact x);have q:d[i*f+k*f+j]? = some V:=by rw[<-r,ac7]
   simp only[e,j6,q];exact A.mono (λ_ _=>rfl) z
theorem VP.toAll{sh:Nat->Option Shp}{v:PV}{V:Value}(h:VP Γ sh w v V):VP Γ.all sh w v V:=
 h.mono (Γ':=Γ.all) (ok:=λ_=>True) ⟨λ_ _=>rfl,λ_ h=>af8 h,λ_ _=>rfl,λ_ _=>rfl,λ_ _ _ _=>rfl,rfl⟩ (λ_ _=>trivial)
theorem VP.snap(hH:HR Γ H w){v:PV}{V:Value}(h:VP Γ (A1 H) w v V):VP Γ.all (A1 H) w (v.snap H) V:=by
 generalize hsh:A1 H=sh at h
 induction h with
 | s v V h=>exact(VP.s v V h).toAll
 | nsl=>exact .s _ _ (.nil _ _)
 | flv b e sz h=>
  subst hsh;obtain⟨x,hx,hs⟩:∃x,H[b]? = some x/\x.shp = .arr true e sz 0:=by simpa[A1] using h
  cases x<;>simp[Blk.shp] at hs
  rename_i v' e' sz' els;obtain⟨rfl,rfl,rfl,h4⟩:=hs;subst h4;simp only[PV.snap,hx];exact .s _ _ (.nil _ _)
 | fl b g v e sz n cap h hv hg hcap hm hs=>
  subst hsh;obtain⟨x,hx,hs'⟩:∃x,H[b]? = some x/\x.shp = .arr v e sz n:=by simpa[A1] using h
  cases x<;>simp[Blk.shp] at hs'
  rename_i v' e' sz' els;obtain⟨rfl,rfl,rfl,rfl⟩:=hs';have hne:¬(v'=true/\els=[]):=by rintro⟨q1,q2⟩;exact hv q1 (by rw[q2];rfl)
  have hz:(v'&&els.isEmpty)=false:=by grind
  simp only[PV.snap,hx,hz];have:=RD (i:=0) (n:=els.length) (a:=⟨g,0,none⟩) (cap:=cap) hH hx hne hg (by omega) (λ_=>by simp) hcap hm (St':=Γ.all.St) (λ_ h=>af8 h) (.inr ⟨b,hg⟩);simp only[List.drop_zero,List.take_length] at this;exact .s _ _ this
 | vwv b e sz i h=>
  subst hsh;obtain⟨x,hx,hs⟩:∃x,H[b]? = some x/\x.shp = .arr true e sz 0:=by simpa[A1] using h
  cases x<;>simp[Blk.shp] at hs
  rename_i v' e' sz' els;obtain⟨rfl,rfl,rfl,h4⟩:=hs;subst h4;simp only[PV.snap,hx,List.drop_nil,List.take_nil];exact .s _ _ (.nil _ _)
 | vw b i n g a cap v e sz m h hv hg ha hi hcap hm=>
  subst hsh;obtain⟨x,hx,hs'⟩:∃x,H[b]? = some x/\x.shp = .arr v e sz m:=by simpa[A1] using h
  cases x<;>simp[Blk.shp] at hs'
  rename_i v' e' sz' els;obtain⟨rfl,rfl,rfl,rfl⟩:=hs';have hne:¬(v'=true/\els=[]):=by rintro⟨q1,q2⟩;exact hv q1 (by rw[q2];rfl)
  have hz:(v'&&els.isEmpty)=false:=by grind
  simp only[PV.snap,hx,hz];exact .s _ _ (RD hH hx hne hg hi ha hcap hm (λ_ h=>af8 h) (.inr ⟨b,hg⟩))
 | ptrA b i off g v e sz n h hg=>exact(VP.ptrA b i off g v e sz n h hg).toAll
 | ptrB b off g h hg=>exact(VP.ptrB b off g h hg).toAll
 | fnr f x y A B As Bs hf hA hB ha hb hx hy ihx ihy=>exact(VP.fnr f x y A B As Bs hf hA hB ha hb hx hy).toAll
 | it b g h hg=>exact(VP.it b g h hg).toAll
 | mpv b g h hg=>exact(VP.mpv b g h hg).toAll
 | yd=>exact .yd
 | agg l A As hA ha hl ih=>
  simp only[PV.snap,Ap];refine .agg _ A As (by simpa using hA) (λj h=>ha j (by simpa using h)) (λj h=>?_);grind
 | tup l A As hA ha hl ih=>exact(VP.tup l A As hA ha hl).toAll
 | bad V=>exact .bad V
theorem JZ{l:List PV}(h:Ym l=false):∀v∈l,v.rows=false:=by
 induction l with
 | nil=>simp
 | cons a l b=>
  simp only[Ym,Bool.or_eq_false_iff] at h;grind
theorem VP.snap_plain{sh:Nat->Option Shp}{v:PV}{V:Value}(h:VP Γ sh w v V):v.rows=false->VP Γ sh w (v.snap H) V/\∀c∈(v.snap H).nms,c∈v.nms:=by
 induction h with
 | nsl=>intro _;exact⟨.s _ _ (.nil _ _),by simp[PV.snap,PV.nms]⟩
 | flv b e sz h=>intro hr;simp[PV.rows] at hr
 | fl b g v e sz n cap h hv hg hcap hm hs=>intro hr;simp[PV.rows] at hr
 | vwv b e sz i h=>intro hr;simp[PV.rows] at hr
 | vw b i n g a cap v e sz m h hv hg ha hi hcap hm=>intro hr;simp[PV.rows] at hr
 | agg l A As hA ha hl ih=>
  intro hr;simp only[PV.rows] at hr;have hr':=JZ hr;simp only[PV.snap,Ap];refine⟨.agg _ A As (by simpa using hA) (λj h=>ha j (by simpa using h)) (λj h=>?_),λc hc=>?_⟩
  ·grind
  ·simp only[PV.nms] at hc ⊢;obtain⟨j,hj,hc⟩:=C4.1 hc;rw[j0] at hc;exact C4.2 ⟨j,by simpa using hj,(ih j (by simpa using hj) (hr' _ (j4 _))).2 c hc⟩
 | s v V h=>intro _;exact⟨.s v V h,λc hc=>hc⟩
 | ptrA b i off g v e sz n h hg=>intro _;exact⟨.ptrA b i off g v e sz n h hg,λc hc=>hc⟩
 | ptrB b off g h hg=>intro _;exact⟨.ptrB b off g h hg,λc hc=>hc⟩
 | fnr f x y A B As Bs hf hA hB ha hb hx hy ihx ihy=>intro _;exact⟨.fnr f x y A B As Bs hf hA hB ha hb hx hy,λc hc=>hc⟩
 | it b g h hg=>intro _;exact⟨.it b g h hg,λc hc=>hc⟩
 | mpv b g h hg=>intro _;exact⟨.mpv b g h hg,λc hc=>hc⟩
 | yd=>intro _;exact⟨.yd,λc hc=>hc⟩
 | tup l A As hA ha hl ih=>intro _;exact⟨.tup l A As hA ha hl,λc hc=>hc⟩
 | bad V=>intro _;exact⟨.bad V,λc hc=>hc⟩
theorem CR.snap(hH:HR Γ H w){l:List PV}{A:Array Value}(h:CR Γ (A1 H) w l A):CR Γ.all (A1 H) w (O2 H l) A:=by rw[Ap];refine⟨by rw[p7];exact h.1,λj hj=>?_⟩;obtain⟨U,e,k⟩:=h.2 j (by simpa using hj);exact⟨U,e,by rw[j0];exact k.snap hH⟩
theorem CR.snap_plain{l:List PV}{A:Array Value}(h:CR Γ (A1 H) w l A)(hr:Ym l=false):CR Γ (A1 H) w (O2 H l) A/\∀c∈C6 (O2 H l),c∈C6 l:=by
 have hr':=JZ hr;rw[Ap];refine⟨⟨by rw[p7];exact h.1,λj hj=>?_⟩,λc hc=>?_⟩
 ·obtain⟨U,e,k⟩:=h.2 j (by simpa using hj);exact⟨U,e,by rw[j0];exact(k.snap_plain (hr' _ (j4 _))).1⟩
 ·obtain⟨j,hj,hc⟩:=C4.1 hc;rw[j0] at hc;have hj':j<l.length:=by simpa using hj
  obtain⟨U,e,k⟩:=h.2 j hj';exact C4.2 ⟨j,hj',(k.snap_plain (hr' _ (j4 _))).2 c hc⟩
theorem VP.snapP(hH:HR Γ H w){v:PV}{V:Value}(h:VP Γ (A1 H) w v V):VP Γ.all (A1 H) w (v.snapP H) V:=by
 unfold PV.snapP;split
 ·rename_i b off;split
  ·rename_i cells hb;split
   ·rename_i vs hvs;obtain⟨g,cur,e,hg,hh,hcur,hcells,_⟩:=hH.box' hb;have hV:V = .pointer (some ⟨g,off,none⟩):=by
     cases h with
     | ptrA _ _ _ g' v e sz n h' hg'=>simp[A1,hb,Blk.shp] at h'
     | ptrB _ _ g' h' hg'=>rw[hg] at hg';cases hg';rfl
    subst hV;have hl:(O2 H cells).length=cells.length:=by rw[Ap,p7]
    obtain⟨f1,f2⟩:=L8 (Γ:=Γ.all) (w:=w) (sh:=A1 H) (As:=cur.toList) hvs (by rw[hl];simpa using hcur.symm) (λj hj=>by
     obtain⟨U,e1,k⟩:=hcells j (by omega);refine⟨U,by simpa using e1,?_⟩;have e2:(O2 H cells)[j]=(cells[j]'(by omega)).snap H:=by simp only[Ap,j0]
     rw[e2];exact k.snap hH)
    refine .s _ _ ?_;have hvl:vs.length=cells.length:=by rw[f1];simpa using hcur
    have:=VS.sp (St:=Γ.all.St) (w:=w) [vs] 0 off g 0 vs.length (λ_ j=>cur.getD j undef) (.inr ⟨b,hg⟩) (λi hi=>by
      have:i=0:=by simpa using hi
      subst this;rfl) (λi hi j hj=>?_) (λi hi j hj=>?_)
    ·simpa using this
    ·have:i=0:=by simpa using hi
     subst this;have hj':j<cur.size:=by rw[hcur,<-hvl];exact hj
     simp[af5,hh,hj']
    ·have:i=0:=by simpa using hi
     subst this;have hj1:j<vs.length:=hj;obtain⟨U,e1,k⟩:=f2 j hj1;have e3:cur.getD j undef=U:=by rw[j6,<-ad3,e1];rfl
     rw[e3];exact k
   ·exact h.toAll
  ·exact h.toAll
 ·exact h.snap hH
theorem VP.snapA(hH:HR Γ H w){v:PV}{V:Value}(h:VP Γ (A1 H) w v V):VP Γ.all (A1 H) w (v.snapA H) V:=by
 unfold PV.snapA;split
 ·rename_i f x y;split
  ·rename_i a b ha hb;cases h with
   | fnr _ _ _ A B As Bs hf hA hB hAs hBs hx hy=>
    obtain⟨p1,p2⟩:=L8 (Γ:=Γ.all) (w:=w) (sh:=A1 H) (As:=A.toList) ha (by simp[hA]) (λj hj=>by
     have hj':j<x.length:=by simpa using hj
     exact⟨As j,by simpa using hAs j hj',by rw[j0];exact(hx j hj').snapP hH⟩)
    obtain⟨q1,q2⟩:=L8 (Γ:=Γ.all) (w:=w) (sh:=A1 H) (As:=B.toList) hb (by simp[hB]) (λj hj=>by
     have hj':j<y.length:=by simpa using hj
     exact⟨Bs j,by simpa using hBs j hj',by rw[j0];exact(hy j hj').snapP hH⟩)
    have ex:a.length=x.length:=by rw[p1];simpa using hA
    have ey:b.length=y.length:=by rw[q1];simpa using hB
    refine .s _ _ (VS.fn f a b A B As Bs hf (by rw[hA,ex]) (by rw[hB,ey]) (λj hj=>hAs j (by omega)) (λj hj=>hBs j (by omega)) (λj hj=>?_) (λj hj=>?_))
    ·obtain⟨U,e,k⟩:=p2 j hj;have:U=As j:=by
      have h1:=hAs j (by omega);rw[ad3,h1] at e;exact(aa0 e).symm
     rw[<-this];exact k
    ·obtain⟨U,e,k⟩:=q2 j hj;have:U=Bs j:=by
      have h1:=hBs j (by omega);rw[ad3,h1] at e;exact(aa0 e).symm
     rw[<-this];exact k
  ·exact h.toAll
 ·exact h.snapP hH
theorem CR.argX(hH:HR Γ H w){l:List PV}{A:Array Value}(h:CR Γ (A1 H) w l A):CR Γ.all (A1 H) w (argX H l) A:=by
 unfold E.argX;cases (C6 (O2 H l)).isEmpty with
 | true=>exact h.snap hH
 | false=>
  refine⟨by simpa using h.1,λj hj=>?_⟩;simp only[cond_false,p7] at hj;obtain⟨U,e,k⟩:=h.2 j hj;exact⟨U,e,by simp only[cond_false,j0];exact k.snapA hH⟩
theorem CR.argX_plain{l:List PV}{A:Array Value}(h:CR Γ (A1 H) w l A)(hp:Wm H l=true):CR Γ (A1 H) w (E.argX H l) A:=by unfold Wm at hp;rw[c8,v8] at hp;unfold E.argX;rw[hp.1];exact(h.snap_plain hp.2).1
theorem CR.bare{Γ':Ctx}{sh sh':Nat->Option Shp}{l:List PV}{A:Array Value}(h:CR Γ sh w l A)(hn:C6 l=[])(hst:∀g,Γ.St g->Γ'.St g)(hyv:Γ'.yv=Γ.yv):CR Γ' sh' w l A:=
 ⟨h.1,λj hj=>by
  obtain⟨U,e,k⟩:=h.2 j hj;refine⟨U,e,k.mono (ok:=λ_=>False) ⟨λ_ _=>rfl,hst,λ_ h=>h.elim,λ_ h=>h.elim,λ_ _ h=>h.elim,hyv⟩ (λb hb=>?_)⟩;have:b∈C6 l:=C4.2 ⟨j,hj,hb⟩;rw[hn] at this;simp at this⟩
theorem Xc{St':Nat->Prop}{w':World}(d:HR Γ H w)(a:∀g,g<w.heap.size->w'.heap[g]? = w.heap[g]?)(e:∀g,Γ.St g->St' g):V8 Γ (A1 H) w { Γ with St:=St' } (A1 H) w' (λ_=>True):=
 ⟨λg c=>a g (d.stlt g c),e,λ_ _=>rfl,λ_ _=>rfl,λb g _ c=>D8 (a g (d.lt b g c).2.1),rfl⟩
theorem Cc0{St':Nat->Prop}{w':World}(c:HR Γ H w)(a:∀g,g<w.heap.size->w'.heap[g]? = w.heap[g]?)(i:w.heap.size<=w'.heap.size)(h:∀g,Γ.St g->St' g)(j:∀g,St' g->Γ.St g\/w.heap.size<=g)(e:∀g,St' g->g<w'.heap.size):HR { Γ with St:=St' } H w':=by refine⟨c.inj,λb g d=>?_,e,c.nms,λb f=>(c.blk b f).mono (Xc c a h) rfl (λg d=>a g (c.lt b g d).2.1) (λ_ _=>trivial)⟩;have:=c.lt b g d;grind
theorem Bu7{St':Nat->Prop}{w':World}{Φ:Nat->Prop}(e:HR Γ H w)(a:∀g,g<w.heap.size->w'.heap[g]? = w.heap[g]?)(d:w.heap.size<=w'.heap.size)(l:∀g,Γ.St g->St' g)(k:∀g,St' g->Γ.St g\/w.heap.size<=g)(f:w'.os=w.os)(i:w'.tape=w.tape)(j:w'.output=w.output) :
  Stp C Γ H w Φ { Γ with St:=St' } H w' Φ:=
 ⟨f,i,j,d,l,k,λb g c=>.inl ⟨(e.lt b g c).1,c⟩,λ_ h=>.inl h,λg c _ _=>a g c,rfl,o6 _,λb m n=>⟨rfl,rfl,λg c=>D8 (a g (e.lt b g c).2.1)⟩⟩
end
section
variable {U R : Type} {r : R} {C : Cfg} {I : U -> (Nat -> Prop) -> (Nat -> Prop) -> World -> Prop} {Q : Ctx} {W : Nat -> Prop} {Y : St U} {J : Array Value} {w : World} {Z : E3} {O : Yh U} {K : Value}
def SX(C:Cfg)(I:U->(Nat->Prop)->(Nat->Prop)->World->Prop)(Q:Ctx)(W:Nat->Prop)(Y:St U)(J:Array Value)(w:World)(k:PV->St U->Option R)(r:R)(V:Value)(w':World):Prop:=
 ∃v a Γ' b,k v a=some r/\Stp C Q Y.hp w W Γ' a.hp w' b/\SI C I Γ' b a J w'/\VP Γ' (A1 a.hp) w' v V/\∀c∈v.nms,c<a.hp.length
theorem Jq{a:Ctx}(d:∀b,a.nm b=none)(c:∀g,a.St g->g<w.heap.size):HR a [] w:=
 ⟨λb e g h=>(by rw[d] at h;cases h),λb g h=>(by rw[d] at h;cases h),c,λb h=>by simp at h,λb h=>by simp at h⟩
theorem SI.wide(hI:HI I)(S:SI C I Q W Y J w){St':Nat->Prop}{w':World}(hold:∀g,g<w.heap.size->w'.heap[g]? = w.heap[g]?)(hsz:w.heap.size<=w'.heap.size)(hs:∀g,Q.St g->St' g)(hn:∀g,St' g->Q.St g\/w.heap.size<=g)(hlt:∀g,St' g->g<w'.heap.size)
  (h1:w'.os=w.os) (h2:w'.tape=w.tape) (h3:w'.output=w.output):SI C I { Q with St:=St' } W Y J w'/\Stp C Q Y.hp w W { Q with St:=St' } Y.hp w' W:=by
 have hstp:=Bu7 (C:=C) (Φ:=W) S.hr hold hsz hs hn h1 h2 h3;refine⟨?_,hstp⟩;have:=S.step hI hstp (λg hg=>hold g (hI.foot _ _ _ _ S.inv g hg).1) (Cc0 S.hr hold hsz hs hn hlt) (S.sr.mono (Xc S.hr hold hs) (λc hc=>⟨trivial,S.sr.nms c hc⟩));exact this
theorem SI.wideSt(hI:HI I)(S:SI C I Q W Y J w){St':Nat->Prop}(hs:∀g,Q.St g->St' g)(hd:∀g,St' g->¬W g)(hn:∀b g,Q.nm b=some g->¬St' g)(hlt:∀g,St' g->g<w.heap.size):SI C I { Q with St:=St' } W Y J w:=by
 have M:V8 Q (A1 Y.hp) w { Q with St:=St' } (A1 Y.hp) w (λ_=>True):=⟨λ_ _=>rfl,hs,λ_ _=>rfl,λ_ _=>rfl,λ_ _ _ _=>rfl,rfl⟩
 refine⟨⟨S.hr.inj,λb g hb=>?_,hlt,S.hr.nms,λb hb=>(S.hr.blk b hb).mono M rfl (λ_ _=>rfl) (λ_ _=>trivial)⟩,
  S.sr.mono M (λc hc=>⟨trivial,S.sr.nms c hc⟩),S.g.mono (λ_ _=>rfl) hs,hI.mono _ _ _ _ _ _ S.inv hs hd hlt (λ_ _=>rfl) (o6 _) rfl rfl rfl,S.dis⟩
 obtain⟨q1,q2,_⟩:=S.hr.lt b g hb;exact⟨q1,q2,hn b g hb⟩
theorem Ab2(S:SI C I Q W Y J w):∀g,Q.all.St g->g<w.heap.size:=by
 rintro g (h|⟨b,h⟩)
 ·exact S.hr.stlt g h
 ·exact(S.hr.lt b g h).2.1
theorem Bf2:HI I0:=⟨λ_ _ W _ h g a=>absurd a (h g),λ_ _ W _ _ _ h _ _ _ _ _ _ _ _=>h⟩
theorem Bf3{P:Program}{K:Value}:Ab1 P I0 (λ_ _=>none) K:=λ_ _ _ _ h=>by cases h
theorem Wy{ret:PV}{u:List Blk}{k:PV->St U->Option R}{St0:Nat->Prop}{T:Result Next}(hI:HI I)(S:SI C I Q W Y J w)(a5:∀g,Q.St g->St0 g)(a0:(∀g,St0 g->Q.St g)\/(ret.clean=true/\u.all Blk.clean=true))
  (a2:M4 C.P T (Y0 C I0 { Q with St:=St0,nm:=λ_=>none } [] w noΦ ret u ()))
  (hk:k (ret.rn (Y.hp.length + ·)) { sl:=Y.sl,hp:=Y.hp++u.map (Blk.rn (Y.hp.length + ·)),s:=Y.s } = some r):M4 C.P T (λV w'=>SX C I Q W Y J w k r V w'/\I5 w w'):=by
 let Γc:Ctx:={ Q with St:=St0,nm:=λ_=>none }
 refine a2.mono ?_;rintro V w' ⟨n,Φ1,l,f,hv,hvn,a8,a7⟩;have e:∀k,k<w.heap.size->w'.heap[k]? = w.heap[k]?:=λk hk=>l.frame k hk (λb=>by simp) (λx=>x)
 generalize hL:Y.hp.length=L at *;have p:∀i g,n.nm i=some g->i<u.length/\w.heap.size<=g/\g<w'.heap.size:=λi g h=>by
  refine⟨(f.lt i g h).1,?_,(f.lt i g h).2.1⟩;rcases l.own i g h with⟨h',_⟩|h'
  ·simp at h'
  ·exact h'
 obtain⟨t,D,m,H,B⟩:∃t:Nat->Prop,(∀g,Q.St g->t g)/\(∀g,t g->Q.St g\/(w.heap.size<=g/\n.St g))/\(∀g,t g->g<w'.heap.size)/\((∀g,n.St g->t g)\/(ret.clean=true/\u.all Blk.clean=true)):=by
  rcases a0 with h|h
  ·refine⟨n.St,λg a=>l.sub g (a5 g a),λg a=>?_,λg a=>f.stlt g a,.inl λ_ h=>h⟩;rcases l.stnew g a with q|q
   ·exact .inl (h g q)
   ·exact .inr ⟨q,a⟩
  ·exact⟨Q.St,λ_ h=>h,λ_ h=>.inl h,λg a=>ac6 (S.hr.stlt g a) l.size,.inr h⟩
 let Γ2:Ctx:={ Q with St:=t,nm:=λb=>if b<L then Q.nm b else n.nm (b-L) }
 let o:List Blk:=Y.hp++u.map (Blk.rn (L + ·));have a3:∀i,i<u.length->A1 o (L+i)=A1 u i:=λi hi=>by
  simp only[o,A1];rw[y8 (by omega),hL,ae7,aa1,Option.map_map]
  congr 1
  funext x
  exact Blk.rn_shp _ x
 have M:V8 Q (A1 Y.hp) w Γ2 (A1 o) w' (· < L):=⟨λg a=>e g (S.hr.stlt g a),D,λb A=>by simp only[Γ2];rw[if_pos A],λb A=>L9 (by omega),λb g A a=>D8 (e g (S.hr.lt b g a).2.1),rfl⟩
 have y:∀i,i<u.length->Γ2.nm (L+i)=n.nm i:=λi hi=>by simp only[Γ2];rw[if_neg (by omega),ae7]
 have a4:Γ2.yv=n.yv:=by have:=l.yv;exact this.symm
 have j:o.length=L+u.length:=by simp[o,hL]
 have a6:HR Γ2 o w':=by
  refine⟨λb b' g N P=>?_,λb g h=>?_,H,λb A c z=>?_,λb A=>?_⟩
  ·simp only[Γ2] at N P;split at N<;>split at P
   ·exact S.hr.inj b b' g N P
   ·have:=(S.hr.lt b g N).2.1;have:=(p _ g P).2.1;omega
   ·have:=(S.hr.lt b' g P).2.1;have:=(p _ g N).2.1;omega
   ·have:=f.inj _ _ g N P;omega
  ·rw[j];simp only[Γ2] at h;split at h
   ·have:=S.hr.lt b g h;refine⟨by omega,by have:=l.size;omega,λG=>?_⟩;rcases m g G with q|q
    ·exact this.2.2 q
    ·omega
   ·have:=p _ g h;refine⟨by omega,this.2.2,λG=>?_⟩;rcases m g G with q|q
    ·have:=S.hr.stlt g q;omega
    ·exact(f.lt _ g h).2.2 q.2
  ·rw[j] at A ⊢;by_cases X:b<L
   ·have:o[b]'(by omega)=Y.hp[b]'(by omega):=x5 (by omega);rw[this] at z;have:=S.hr.nms b (by omega) c z;omega
   ·have:o[b]'(by omega)=(u[b-L]'(by omega)).rn (L + ·):=by
     simp only[o];rw[ab7 (by omega),j0];simp[hL]
    rw[this,Blk.rn_nms] at z;obtain⟨d,hd,rfl⟩:=ab5.1 z;have:=f.nms _ (by omega) d hd;omega
  ·rw[j] at A;by_cases X:b<L
   ·have:o[b]'(by omega)=Y.hp[b]'(by omega):=x5 (by omega);rw[this];exact(S.hr.blk b (by omega)).mono M (M.nm b X) (λg a=>e g (S.hr.lt b g a).2.1) (λc v=>by have:=S.hr.nms b (by omega) c v;omega)
   ·have:o[b]'(by omega)=(u[b-L]'(by omega)).rn (L + ·):=by
     simp only[o];rw[ab7 (by omega),j0];simp[hL]
    rw[this];refine(f.blk _ (by omega)).rn a4 (by
     rcases B with h|h
     ·exact .inr h
     ·exact .inl (j2.1 h.2 _ (j4 _))) ?_ (λc v=>?_)
    ·have:=y (b-L) (by omega);rw[show L+(b-L)=b by omega] at this;exact this
    ·have a1:=f.nms _ (by omega) c v;exact⟨y c a1,a3 c a1⟩
 have F:Stp C Q Y.hp w W Γ2 o w' W:=by
  refine⟨l.os,l.tape,l.output,l.size,D,λg a=>(m g a).imp (λh=>h) (λh=>h.1),λb g h=>?_,λ_ h=>.inl h,λg a _ _=>e g a,rfl,by omega,λb A hf=>⟨M.nm b (by omega),M.shp b (by omega),λg a=>M.hs b g (by omega) a⟩⟩;simp only[Γ2] at h;split at h
  ·exact .inl ⟨by omega,h⟩
  ·exact .inr (p _ g h).2.1
 have S':=S.step hI F (λg a=>e g (hI.foot _ _ _ _ S.inv g a).1) a6 (S.sr.mono M (λc v=>by have:=S.sr.nms c v;omega));refine⟨⟨_,_,Γ2,W,hk,F,S',?_,λc v=>?_⟩,⟨e,l.size⟩,l.os,l.tape,l.output⟩
 ·exact hv.rn a4 (by rcases B with h|h;exact .inr h;exact .inl h.1) (λc v=>⟨y c (hvn c v),a3 c (hvn c v)⟩)
 ·rw[PV.rn_nms] at v;obtain⟨d,hd,rfl⟩:=ab5.1 v;have:=hvn d hd;show L+d<o.length;omega
theorem UJ{g:Nat}{args:List PV}{e:Array Value}{ret:PV}{d:List Blk}{k:PV->St U->Option R}(n:HI I)(l:Aa C Z)(S:SI C I Q W Y J w)(o:CR Q (A1 Y.hp) w args e)(a:C6 (O2 Y.hp args)=[])(j:Z Unit (λ_ _=>none) g (O2 Y.hp args) [] ()=some (ret,d,()))
  (c:ret.clean=true) (m:d.all Blk.clean=true) (p:k (ret.rn (Y.hp.length + ·)) { sl:=Y.sl,hp:=Y.hp++d.map (Blk.rn (Y.hp.length + ·)),s:=Y.s } = some r):M4 C.P ((callFunc g e).run C.P w) (SX C I Q W Y J w k r):=by
 have f:=o.snap S.hr;let Γc:Ctx:={ Q.all with nm:=λ_=>none }
 have i:CR Γc (A1 []) w (O2 Y.hp args) e:=f.bare a (λ_ h=>h) rfl;exact(Wy n S (St0:=Q.all.St) (λ_ h=>af8 h) (.inr ⟨c,m⟩)
  (l Unit I0 _ Q.yv Bf2 Bf3 g _ [] () ret d () j Γc noΦ w e rfl (Jq (λ_=>rfl) (Ab2 S)) (S.g.mono (λ_ _=>rfl) (λ_ h=>af8 h)) (λ_ h=>h) (λb g h=>by cases h) i (by rw[a];simp)) p).mono λ_ _ h=>h.1
theorem CQ{g:Nat}{args:List PV}{d:Array Value}{j:List PV->Tr}{ret:PV}{c:List Blk}{k:PV->St U->Option R}(m:HI I)(n:XOK C)(S:SI C I Q W Y J w)(o:CR Q (A1 Y.hp) w args d)(p:C.X g=some j)(i:J2 (j (argX Y.hp args))=some (ret,c))
  (f:C6 (argX Y.hp args)=[]) (l:Wm Y.hp args=true\/(ret.clean=true/\c.all Blk.clean=true)) (q:k (ret.rn (Y.hp.length + ·)) { sl:=Y.sl,hp:=Y.hp++c.map (Blk.rn (Y.hp.length + ·)),s:=Y.s } = some r):M4 C.P ((callFunc g d).run C.P w) (λV w'=>SX C I Q W Y J w k r V w'/\I5 w w'):=by
 by_cases t:Wm Y.hp args=true
 ·have a:=o.argX_plain t;let Γc:Ctx:={ Q with nm:=λ_=>none }
  have b:CR Γc (A1 []) w (argX Y.hp args) d:=a.bare f (λ_ h=>h) rfl;exact Wy m S (St0:=Q.St) (λ_ h=>h) (.inl λ_ h=>h) (n.x g j _ ret c p i Γc w d (λ_=>rfl) (Jq (λ_=>rfl) S.hr.stlt) S.g b) q
 ·have e:ret.clean=true/\c.all Blk.clean=true:=by rcases l with h|h;exact absurd h t;exact h
  have a:=o.argX S.hr;let Γc:Ctx:={ Q.all with nm:=λ_=>none }
  have b:CR Γc (A1 []) w (argX Y.hp args) d:=a.bare f (λ_ h=>h) rfl;exact Wy m S (St0:=Q.all.St) (λ_ h=>af8 h) (.inr e) (n.x g j _ ret c p i Γc w d (λ_=>rfl) (Jq (λ_=>rfl) (Ab2 S)) (S.g.mono (λ_ _=>rfl) (λ_ h=>af8 h)) b) q
theorem UL{g:Nat}{args:List PV}{e:Array Value}{f:List PV->Tr}{ret:PV}{a:List Blk}{k:PV->St U->Option R}(i:HI I)(j:XOK C)(S:SI C I Q W Y J w)(l:CR Q (A1 Y.hp) w args e)(m:C.X g=some f)(d:J2 (f (argX Y.hp args))=some (ret,a))
  (c:C6 (argX Y.hp args)=[]) (b:Wm Y.hp args=true\/(ret.clean=true/\a.all Blk.clean=true)) (n:k (ret.rn (Y.hp.length + ·)) { sl:=Y.sl,hp:=Y.hp++a.map (Blk.rn (Y.hp.length + ·)),s:=Y.s } = some r):M4 C.P ((callFunc g e).run C.P w) (SX C I Q W Y J w k r):=
 (CQ i j S l m d c b n).mono λ_ _ h=>h.1
end
def Ctx.lent(Γ:Ctx)(ns:List Nat):Ctx:={ Γ with nm:=λi=>(ns[i]?).bind Γ.nm }
def Ctx.back(Γ Γ1:Ctx)(ns:List Nat)(L:Nat)(d:Bool):Ctx:=
 { St:=Γ1.St,nm:=λb=>if b∈ns then Γ1.nm (F7 ns b) else if b<L then Γ.nm b else if d=true then none else Γ1.nm (ns.length+(b-L)),yv:=Γ.yv,yv1:=Γ.yv1 }
section
variable {W R : Type} {r : R} {C : Cfg} {I : W -> (Nat -> Prop) -> (Nat -> Prop) -> World -> Prop} {Q : Ctx} {H : List Blk} {J : Nat -> Prop} {Y : St W} {Z : Array Value} {w : World} {X : E3} {K : Yh W} {O : Value}
def L7(H:List Blk)(a:List Nat):List Blk:=a.map λb=>(H.getD b .dead).rn (F7 a)
theorem Nr{a:List Nat}{b:Nat}(h:b∈a):(Q.lent a).nm (F7 a b)=Q.nm b:=by obtain⟨c,d⟩:=Y2 h;simp only[Ctx.lent,c9 c,d,ad6]
theorem Ir{a:List Nat}(c:∀b∈a,b<H.length){i:Nat}(d:i<a.length):A1 (L7 H a) i=A1 H a[i]:=by have:=c _ (j4 d);simp only[A1,L7,aa1,c9 d,v7,Blk.rn_shp,c9 this];rw[j9,c9 this];rfl
theorem PQ{a:List Nat}(p:HR Q H w)(y:a.Nodup)(k:∀b∈a,b<H.length)(x:Cg H a=true):HR (Q.lent a) (L7 H a) w:=by
 have n:=GP x;have key:∀i g,(Q.lent a).nm i=some g->∃h:i<a.length,Q.nm a[i]=some g:=λi g h=>by
  simp only[Ctx.lent] at h;cases f:a[i]? with
  | none=>rw[f] at h;simp at h
  | some b=>
   obtain⟨u,v⟩:=o5.1 f;rw[f] at h;exact⟨u,by rw[v];exact h⟩
 have l:∀b (h:b∈a),H.getD b .dead=H[b]'(k b h):=λb h=>by rw[j9,c9 (k b h)];rfl
 refine⟨λi j g u v=>?_,λi g h=>?_,p.stlt,λi f c q=>?_,λi f=>?_⟩
 ·obtain⟨f,t⟩:=key i g u;obtain⟨F,z⟩:=key j g v;have:=p.inj _ _ g t z;exact(ag8 y).1 this
 ·obtain⟨f,t⟩:=key i g h;have:=p.lt _ g t;exact⟨by simpa[L7] using f,this.2⟩
 ·simp only[L7,p7] at f ⊢;simp only[L7,j0,Blk.rn_nms] at q;obtain⟨d,A,rfl⟩:=ab5.1 q;exact(Y2 (n _ (j4 f) d A)).1
 ·simp only[L7,p7] at f;have o:=j4 f;have e:(L7 H a)[i]'(by simpa[L7] using f)=(H[a[i]]'(k _ o)).rn (F7 a):=by
   simp only[L7,j0,l _ o]
  rw[e];refine BR.rn (Γ:=Q) (Γ':=Q.lent a) (b':=i) rfl (p.blk _ (k _ o)) (.inr λ_ h=>h) ?_ (λc q=>?_)
  ·simp only[Ctx.lent,c9 f,ad6]
  ·have m:c∈a:=n _ o c (by rw[l _ o];exact q);obtain⟨B,D⟩:=Y2 m;exact⟨Nr m,by rw[Ir k B,D]⟩
theorem JH{L:Nat}{H:List Blk}(h:A71 L H=true):∀x∈H,∀c∈x.nms,c<L:=by intro x b c a;simp only[A71,j2,decide_eq_true_eq] at h;exact h x b c a
theorem DH{b:Nat}(a:b<H.length):Ci C (H.getD b .dead)=true↔Fl C (A1 H b):=by
 have e:H.getD b .dead=H[b]:=by rw[j9,c9 a];rfl
 rw[e];simp only[A1,c9 a,v7];cases H[b]<;>simp[Ci,Fl,Blk.shp]
theorem Xj{g:Nat}{T:List PV}{Vs:Array Value}{ret:PV}{z:List Blk}{s':W}{k:PV->St W->Option R}(hI:HI I)(hC:Aa C X)(hy:Ab1 C.P I K O)(f9:Q.yv=O)(S:SI C I Q J Y Z w)(m:CR Q (A1 Y.hp) w T Vs)(hn:∀c∈C6 T,c<Y.hp.length)
  (e9:Cg Y.hp (Az Y.hp (C6 T))=true) (c3:X W K g (rnL (F7 (Az Y.hp (C6 T))) T) (L7 Y.hp (Az Y.hp (C6 T))) Y.s=some (ret,z,s'))
  (hk:k (Ga (O9 ((Az Y.hp (C6 T)).filter λb=>!Ci C (Y.hp.getD b .dead)) Y.hp) (Az Y.hp (C6 T)) ret z).1
   { sl:=J4 ((Az Y.hp (C6 T)).filter λb=>!Ci C (Y.hp.getD b .dead)) Y.sl,hp:=(Ga (O9 ((Az Y.hp (C6 T)).filter λb=>!Ci C (Y.hp.getD b .dead)) Y.hp) (Az Y.hp (C6 T)) ret z).2,s:=s' } = some r) :
  M4 C.P ((callFunc g Vs).run C.P w) (SX C I Q J Y Z w k r):=by
 have d0:=Yk Y.hp (C6 T);have c0:=JW Y.hp (C6 T);have P:∀b∈Az Y.hp (C6 T),b<Y.hp.length:=JV Y.hp (C6 T) (· < Y.hp.length) (λb l c m=>by
  have e:Y.hp.getD b .dead=Y.hp[b]:=by rw[j9,c9 l];rfl
  rw[e] at m;exact S.hr.nms b l c m) hn
 generalize Az Y.hp (C6 T)=a at *;have e7:=PQ S.hr d0 P e9;have u:=λb (h:b∈a)=>Y2 h
 have c2:CR (Q.lent a) (A1 (L7 Y.hp a)) w (rnL (F7 a) T) Vs:=by
  rw[Kl];refine⟨by rw[p7];exact m.1,λj hj=>?_⟩;have d5:j<T.length:=by simpa using hj
  obtain⟨U,e,q⟩:=m.2 j d5;refine⟨U,e,?_⟩;rw[j0];refine VP.rn (Γ:=Q) (Γ':=Q.lent a) rfl q (.inr λ_ h=>h) (λc m=>?_);have a0:=c0 c (C4.2 ⟨j,d5,m⟩);obtain⟨q1,q2⟩:=u c a0;exact⟨Nr a0,by rw[Ir P q1,q2]⟩
 have c1:∀c∈C6 (rnL (F7 a) T),c<(L7 Y.hp a).length:=λc m=>by
  rw[Dp] at m;obtain⟨d,hd,rfl⟩:=ab5.1 m;simpa[L7] using(u d (c0 d hd)).1
 refine(hC W I K O hI hy g _ _ _ ret z s' c3 (Q.lent a) J w Vs f9 e7 S.g S.inv (λi g h=>?_) c2 c1).mono ?_
 ·simp only[Ctx.lent] at h;cases t:a[i]? with
  | none=>rw[t] at h;simp at h
  | some b=>rw[t] at h;exact S.dis b g h
 rintro V w' ⟨Γ1,Φ1,hs,p,hv,hvn,f0,d3⟩;generalize hL:Y.hp.length=L at *;generalize d6:(a.filter λb=>!Ci C (Y.hp.getD b .dead))=ks at *;obtain⟨F,g0,e4⟩:=Mj (Γ:=Q) (sh:=A1 Y.hp) (w:=w) ks Y.hp;have g4:(L7 Y.hp a).length=a.length:=by simp[L7]
 have g5:a.length<=z.length:=by have:=hs.len;omega
 simp only[Ga,F,hL] at hk;generalize hf:Jp a L=f at *;have f1:∀i (h:i<a.length),f i=a[i]:=λi h=>by rw[<-hf];simp only[Jp,if_pos h];exact U8 h
 have f2:∀i,¬i<a.length->f i=L+(i-a.length):=λi h=>by rw[<-hf];simp only[Jp,if_neg h]
 generalize hd:((ret.rn f).nms.all (· < L)&&A71 L ((z.take a.length).map (Blk.rn f)))=d at hk;let E:List Blk:=cond d [] ((z.drop a.length).map (Blk.rn f));have c7:((z.take a.length).map (Blk.rn f)).length=a.length:=by simp;omega
 obtain⟨b3,e6⟩:=Ha a ((z.take a.length).map (Blk.rn f)) (O9 ks Y.hp) d0 c7 (λb l=>by rw[F];have:=P b l;omega);have hE:(cond d (S8 (O9 ks Y.hp) a ((z.take a.length).map (Blk.rn f))) (S8 (O9 ks Y.hp) a ((z.take a.length).map (Blk.rn f))++(z.drop a.length).map (Blk.rn f)))=S8 (O9 ks Y.hp) a ((z.take a.length).map (Blk.rn f))++E:=by
  cases d<;>simp[E]
 rw[hE] at hk;generalize b5:S8 (O9 ks Y.hp) a ((z.take a.length).map (Blk.rn f))++E=H2 at hk;have b6:H2.length=L+E.length:=by rw[<-b5,k9,b3,F,hL]
 have b4:E.length=if d=true then 0 else z.length-a.length:=by cases d<;>simp[E]
 have g1:∀b (l:b∈a),H2[b]? = some ((z[F7 a b]'(by have:=(u b l).1;omega)).rn f):=λb l=>by
  have d2:=P b l;rw[<-b5,ab6 (by rw[b3,F,hL];exact d2),e6,if_pos l];have t:=(u b l).1;have e:a.idxOf b=F7 a b:=rfl;rw[e,aa1,ae4,if_pos t,c9 (by omega)];rfl
 have g2:∀b,b<L->b∉a->H2[b]? = (O9 ks Y.hp)[b]?:=λb l o=>by
  rw[<-b5,ab6 (by rw[b3,F,hL];exact l),e6,if_neg o]
 have g3:∀b,L<=b->(l:b<H2.length)->d=false/\∃h:a.length+(b-L)<z.length,H2[b]? = some ((z[a.length+(b-L)]).rn f):=λb n l=>by
  have v:d=false:=by
   rcases Bool.eq_false_or_eq_true d with h|h
   ·rw[b6,b4,h] at l;simp at l;omega
   ·exact h
  have h':a.length+(b-L)<z.length:=by rw[b6,b4,v] at l;simp at l;omega
  refine⟨v,h',?_⟩;rw[<-b5,y8 (by rw[b3,F,hL];exact n),b3,F,hL];simp only[E,v,cond_false,aa1,List.getElem?_drop,c9 h',v7]
 let Γ2:=Q.back Γ1 a L d;have G:∀i,i<z.length->(i<a.length\/d=false)->Γ2.nm (f i)=Γ1.nm i/\A1 H2 (f i)=A1 z i/\f i<H2.length:=λi t D=>by
  by_cases h:i<a.length
  ·rw[f1 i h];have hm:=j4 h;have b8:F7 a a[i]=i:=by
    obtain⟨q1,q2⟩:=u _ hm;exact(ag8 d0).1 q2
   refine⟨by simp only[Γ2,Ctx.back,if_pos hm,b8],?_,by have:=P _ hm;omega⟩;simp only[A1,g1 _ hm,v7,Blk.rn_shp,b8,c9 t]
  ·have v:d=false:=by rcases D with D|D;exact absurd D h;exact D
   have n:L+(i-a.length)<H2.length:=by rw[b6,b4,v];simp;omega
   have f4:L+(i-a.length)∉a:=λhm=>by have:=P _ hm;omega
   rw[f2 i h];refine⟨?_,?_,n⟩
   ·simp only[Γ2,Ctx.back,if_neg f4,v];rw[if_neg (by omega),if_neg (by simp)]
    congr 1;omega
   ·obtain⟨_,h',e⟩:=g3 _ (by omega) n;have e2:a.length+(L+(i-a.length)-L)=i:=by omega
    simp only[A1,e,v7,Blk.rn_shp,c9 t]
    congr 2
    simp only[e2]
 have b7:∀c∈ret.nms,c<a.length\/d=false:=λc m=>by
  cases c4:d with
  | false=>exact .inr rfl
  | true=>
   rw[c4] at hd;simp only[c8,j2,decide_eq_true_eq] at hd;refine .inl (s8 λh=>?_);have:=hd.1 (f c) (by rw[PV.rn_nms];exact ae1 m);rw[f2 c h] at this;omega
 have b0:∀i (t:i<a.length),∀c∈(z[i]'(by omega)).nms,c<a.length\/d=false:=λi t c m=>by
  cases c4:d with
  | false=>exact .inr rfl
  | true=>
   rw[c4] at hd;simp only[c8] at hd;refine .inl (s8 λh=>?_);have d8:(z[i]'(by omega)).rn f∈(z.take a.length).map (Blk.rn f):=ae1 (by rw[List.mem_take_iff_getElem];exact⟨i,by omega,rfl⟩);have:=JH hd.2 _ d8 (f c) (by rw[Blk.rn_nms];exact ae1 m);rw[f2 c h] at this;omega
 have hΓc:∀i g,(Q.lent a).nm i=some g->∃h:i<a.length,Q.nm a[i]=some g:=λi g h=>by
  simp only[Ctx.lent] at h;cases t:a[i]? with
  | none=>rw[t] at h;simp at h
  | some b=>
   obtain⟨q1,q2⟩:=o5.1 t;rw[t] at h;exact⟨q1,by rw[q2];exact h⟩
 have c5:=hI.foot _ _ _ _ S.inv;have b9:∀b g,b∉a->Q.nm b=some g->w'.heap[g]? = w.heap[g]?:=λb g l D=>hs.frame g (S.hr.lt b g D).2.1 (λi t=>by
  obtain⟨N,B⟩:=hΓc i g t;have:=S.hr.inj _ _ g B D;exact l (this▸j4 N)) (S.dis b g D)
 have d9:∀g,Q.St g->w'.heap[g]? = w.heap[g]?:=λg D=>hs.frame g (S.hr.stlt g D) (λi t=>by
  obtain⟨N,B⟩:=hΓc i g t;exact(S.hr.lt _ g B).2.2 D) (λhp=>(c5 g hp).2 D)
 have a6:∀i g,Γ1.nm i=some g->(∃h:i<a.length,Q.nm a[i]=some g)\/w.heap.size<=g:=λi g h=>by
  rcases hs.own i g h with⟨_,h⟩|h
  ·exact .inl (hΓc i g h)
  ·exact .inr h
 have d7:∀b,b∈a->b∉ks->Fl C (A1 Y.hp b):=λb l a5=>by
  rw[<-d6] at a5;have d2:=P b l;rw[<-DH (by omega)];simp only[ac4,not_and,v8] at a5;simpa using a5 l
 have b1:∀b,b∈a->Fl C (A1 Y.hp b)->Γ2.nm b=Q.nm b/\A1 H2 b=A1 Y.hp b/\∀g,Q.nm b=some g->w'.shape? g=w.shape? g:=λb l c6=>by
  obtain⟨q1,q2⟩:=u b l;have e:=Ir (H:=Y.hp) (λb l=>by have:=P b l;omega) q1;rw[q2] at e;obtain⟨k1,k2,k3⟩:=hs.keep (F7 a b) (by omega) (by rw[e];exact c6);rw[Nr l] at k1 k3;refine⟨by simp only[Γ2,Ctx.back,if_pos l];exact k1,?_,k3⟩;have e5:A1 z (F7 a b)=some (z[F7 a b]'(by omega)).shp:=by
   simp only[A1];rw[c9 (by omega)];rfl
  rw[<-e,<-k2,e5];simp only[A1,g1 b l,v7,Blk.rn_shp]
 have M:V8 Q (A1 Y.hp) w Γ2 (A1 H2) w' (λc=>c<L/\c∉ks):=by
  have key:∀c,c<L->c∉ks->Γ2.nm c=Q.nm c/\A1 H2 c=A1 Y.hp c/\∀g,Q.nm c=some g->w'.shape? g=w.shape? g:=λc m e8=>by
   by_cases a0:c∈a
   ·exact b1 c a0 (d7 c a0 e8)
   ·refine⟨by simp only[Γ2,Ctx.back,if_neg a0,if_pos m],?_,λg D=>D8 (b9 c g a0 D)⟩;rw[<-g0 c];simp only[A1,g2 c m a0]
  exact⟨d9,hs.sub,λc m=>(key c m.1 m.2).1,λc m=>(key c m.1 m.2).2.1,λc g m D=>(key c m.1 m.2).2.2 g D,rfl⟩
 have b2:Γ2.yv=Γ1.yv:=by have:=hs.yv;exact this.symm
 have f5:HR Γ2 H2 w':=by
  refine⟨λb b' g N B=>?_,λb g h=>?_,p.stlt,λb l c a7=>?_,λb l=>?_⟩
  ·simp only[Γ2,Ctx.back] at N B;have a8:∀x y,x∈a->Γ1.nm (F7 a x)=some g->y∉a->Q.nm y=some g->False:=λx y hx e1 f8 e2=>by
    rcases a6 _ g e1 with⟨q1,q2⟩|q
    ·have:=S.hr.inj _ _ g q2 e2;exact f8 (this▸j4 q1)
    ·have:=(S.hr.lt y g e2).2.1;omega
   have a9:∀x i,Q.nm x=some g->¬i<a.length->Γ1.nm i=some g->False:=λx i e1 t e2=>by
    rcases a6 _ g e2 with⟨q1,_⟩|q
    ·exact t q1
    ·have:=(S.hr.lt x g e1).2.1;omega
   split at N
   ·rename_i l;split at B
    ·rename_i a4;have:=p.inj _ _ g N B;rw[<-(u b l).2,<-(u b' a4).2];simp only[this]
    ·rename_i a4;split at B
     ·exact(a8 b b' l N a4 B).elim
     ·split at B
      ·cases B
      ·have:=p.inj _ _ g N B;have:=(u b l).1;omega
   ·rename_i l;split at N
    ·rename_i n;split at B
     ·rename_i a4;exact(a8 b' b a4 B l N).elim
     ·split at B
      ·exact S.hr.inj b b' g N B
      ·split at B
       ·cases B
       ·exact(a9 b _ N (by omega) B).elim
    ·rename_i n;split at N
     ·cases N
     ·split at B
      ·rename_i a4;have:=p.inj _ _ g N B;have:=(u b' a4).1;omega
      ·split at B
       ·exact(a9 b' _ B (by omega) N).elim
       ·have:=p.inj _ _ g N B;omega
  ·simp only[Γ2,Ctx.back] at h ⊢;split at h
   ·rename_i l;have:=p.lt _ g h;have:=P b l;exact⟨by omega,(p.lt _ g h).2.1,(p.lt _ g h).2.2⟩
   ·split at h
    ·rename_i n;have N:=S.hr.lt b g h;refine⟨by omega,by have:=hs.size;omega,λf6=>?_⟩;rcases hs.stnew g f6 with q|q
     ·exact N.2.2 q
     ·omega
    ·rename_i n;split at h
     ·cases h
     ·rename_i v;have N:=p.lt _ g h;refine⟨?_,N.2.1,N.2.2⟩;rw[b6,b4,if_neg v];omega
  ·by_cases o:b∈a
   ·have e:=g1 b o;rw[c9 l] at e;simp only[j5] at e;rw[e,Blk.rn_nms] at a7;obtain⟨c',A,rfl⟩:=ab5.1 a7;have t:=(u b o).1;exact(G c' (p.nms _ (by omega) c' A) (b0 _ t c' A)).2.2
   ·by_cases n:b<L
    ·have e:=g2 b n o;rw[c9 l,c9 (by rw[F,hL];exact n)] at e;simp only[j5] at e;rw[e] at a7;have:=((e4 b (by rw[F,hL];exact n) (by omega)).1 c a7).2;have:=S.hr.nms b (by omega) c this;omega
    ·obtain⟨v,h',e⟩:=g3 b (by omega) l;rw[c9 l] at e;simp only[j5] at e;rw[e,Blk.rn_nms] at a7;obtain⟨c',A,rfl⟩:=ab5.1 a7;exact(G c' (p.nms _ h' c' A) (.inr v)).2.2
  ·by_cases o:b∈a
   ·have e:=g1 b o;rw[c9 l] at e;simp only[j5] at e;rw[e];have t:=(u b o).1;refine(p.blk _ (by omega)).rn b2 (.inr λ_ h=>h) (by simp only[Γ2,Ctx.back,if_pos o]) (λc' A=>?_);have:=G c' (p.nms _ (by omega) c' A) (b0 _ t c' A);exact⟨this.1,this.2.1⟩
   ·by_cases n:b<L
    ·have e:=g2 b n o;rw[c9 l,c9 (by rw[F,hL];exact n)] at e;simp only[j5] at e;rw[e];have q:=e4 b (by rw[F,hL];exact n) (by omega);refine(q.2 b (S.hr.blk b (by omega))).mono M (by simp only[Γ2,Ctx.back,if_neg o,if_pos n]) (λg D=>b9 b g o D) (λc m=>?_);have:=q.1 c m;exact⟨by have:=S.hr.nms b (by omega) c this.2;omega,this.1⟩
    ·obtain⟨v,h',e⟩:=g3 b (by omega) l;rw[c9 l] at e;simp only[j5] at e;rw[e];refine(p.blk _ h').rn b2 (.inr λ_ h=>h) ?_ (λc' A=>?_)
     ·simp only[Γ2,Ctx.back,if_neg o,if_neg n,v];simp
     ·have:=G c' (p.nms _ h' c' A) (.inr v);exact⟨this.1,this.2.1⟩
 have e3:Stp C Q Y.hp w J Γ2 H2 w' Φ1:=by
  refine⟨hs.os,hs.tape,hs.output,hs.size,hs.sub,hs.stnew,λb g h=>?_,hs.foot,λg D f3 hp=>hs.frame g D (λi t=>?_) hp,rfl,by omega,λb l c6=>?_⟩
  ·simp only[Γ2,Ctx.back] at h;split at h
   ·rename_i l;rcases a6 _ g h with⟨q1,q2⟩|q
    ·have hh:a[F7 a b]=b:=(u b l).2;rw[hh] at q2;exact .inl ⟨by have:=P b l;omega,q2⟩
    ·exact .inr q
   ·split at h
    ·exact .inl ⟨by omega,h⟩
    ·split at h
     ·cases h
     ·rcases a6 _ g h with⟨q1,_⟩|q
      ·omega
      ·exact .inr q
  ·obtain⟨_,q2⟩:=hΓc i g t;exact f3 _ q2
  ·by_cases o:b∈a
   ·exact b1 b o c6
   ·have a5:b∉ks:=λh=>o (by rw[<-d6] at h;exact(ac4.1 h).1)
    exact⟨M.nm b ⟨by omega,a5⟩,M.shp b ⟨by omega,a5⟩,λg D=>M.hs b g ⟨by omega,a5⟩ D⟩
 have f7:SR Γ2 H2 w' (J4 ks Y.sl) Z:=by
  obtain⟨d1,a2,a3⟩:=Ke (Γ:=Q) (sh:=A1 Y.hp) (w:=w) ks Y.sl;refine⟨by rw[d1];exact S.sr.size,λc m=>by have:=S.sr.nms c (a2 c m).2;omega,λi t=>?_⟩;have d4:i<Y.sl.length:=by rw[d1] at t;exact t
  obtain⟨U,e,q⟩:=S.sr.slot i d4;refine⟨U,e,(a3 i t d4 U q).mono M λc m=>?_⟩;have hm:=a2 c (C4.2 ⟨i,t,m⟩);exact⟨by have:=S.sr.nms c hm.2;omega,hm.1⟩
 refine⟨_,_,Γ2,Φ1,hk,e3,⟨f5,f7,S.g.mono d9 hs.sub,f0,λb g h=>?_⟩,?_,λc m=>?_⟩
 ·intro hp;simp only[Γ2,Ctx.back] at h;split at h
  ·exact d3 _ g h hp
  ·split at h
   ·rcases hs.foot g hp with q|q
    ·exact S.dis b g h q
    ·have:=(S.hr.lt b g h).2.1;omega
   ·split at h
    ·cases h
    ·exact d3 _ g h hp
 ·exact hv.rn b2 (.inr λ_ h=>h) (λc m=>by
   have:=G c (hvn c m) (b7 c m);exact⟨this.1,this.2.1⟩)
 ·rw[PV.rn_nms] at m;obtain⟨c',A,rfl⟩:=ab5.1 m;exact(G c' (hvn c' A) (b7 c' A)).2.2
end
section
variable {σ R : Type} {r : R} {C : Cfg} {I : σ -> (Nat -> Prop) -> (Nat -> Prop) -> World -> Prop} {Γ : Ctx} {L : Nat -> Prop} {st : St σ} {a : Act} {w : World} {cl : E3} {yh : Yh σ} {yv : Value} {o : Oper}
structure Ask (C:Cfg) (I:σ->(Nat->Prop)->(Nat->Prop)->World->Prop) (cl:E3) (yh:Yh σ) (yv:Value):Prop where
 hI:HI I
 hC:Aa C cl
 hX:XOK C
 hy:Ab1 C.P I yh yv
theorem As5{g b:Nat}{args:List PV}{d:SV->List (List SV)->Bool × List (List SV)}{x:SV}(h:By4 C g args=some (d,b,x)):C.Z g=some d/\(args=[.fl b,.s x]/\x≠.nilp\/args=[.fl b]/\x = .nilp):=by
 unfold By4 at h;split at h
 ·rename_i c;split at h
  ·cases h
  ·rename_i e;simp only[j5,ae6] at h;obtain⟨rfl,rfl,rfl⟩:=h;exact⟨c,.inl ⟨rfl,e⟩⟩
 ·rename_i c;simp only[j5,ae6] at h;obtain⟨rfl,rfl,rfl⟩:=h;exact⟨c,.inr ⟨rfl,rfl⟩⟩
 ·cases h
theorem SI.like'{tmps:Array Value}(hI:HI I)(S:SI C I Γ L st tmps w){w':World}(h:I5 w w'):SI C I Γ L st tmps w'/\Stp C Γ st.hp w L Γ st.hp w' L:=
 S.wide hI (St':=Γ.St) h.1.1 h.1.2 (λ_ h=>h) (λ_ h=>.inl h) (λg hg=>ac6 (S.hr.stlt g hg) h.1.2) h.2.1 h.2.2.1 h.2.2.2
theorem UM{args:List PV}{g b e sz:Nat}{v:Bool}{Y:SV->List (List SV)->Bool × List (List SV)}{x:SV}{d:List (List SV)}{p m:Array Value}{k:PV->St σ->Option R}(hI:HI I)(hz:TN C.P g Y)(S:SI C I Γ L st m w)(D:st.hp[b]? = some (.arr v e sz d))(u:CR Γ (A1 st.hp) w args p)(t:args=[.fl b,.s x]/\x≠.nilp\/args=[.fl b]/\x = .nilp)(hp:(Y x d).1=true)
  (O:k (.tup []) { sl:=st.sl,hp:=st.hp.set b (.arr v e sz (Y x d).2),s:=st.s } = some r):M4 C.P ((callFunc g p).run C.P w) (SX C I Γ L st m w k r):=by
 obtain⟨U,X,rfl,J,hx⟩:∃U X,p=By3 x U X/\VP Γ (A1 st.hp) w (.fl b) U/\VS Γ.St w x X:=by
  rcases t with⟨rfl,l⟩|⟨rfl,rfl⟩
  ·obtain⟨U,e1,J⟩:=u.2 0 (by simp);obtain⟨X,e2,h2⟩:=u.2 1 (by simp);refine⟨U,X,?_,J,h2.inv_s⟩;have hV:p = #[U,X]:=by
    have hs:p.size=2:=u.1;grind
   rw[hV];cases x<;>first|rfl|exact absurd rfl l
  ·obtain⟨U,e1,J⟩:=u.2 0 (by simp);refine⟨U,.pointer none,?_,J,.nilp⟩;have hs:p.size=1:=u.1;show p = #[U];grind
 obtain⟨z1,z2⟩:=hz Γ.St w x X d hx hp;have T:∀{s:Shp},A1 st.hp b=some s->s = .arr v e sz d.length:=λh=>by
  simp only[A1,D,v7,Blk.shp,j5] at h;exact h.symm
 have a0:VP Γ (A1 st.hp) w (.fl b) U:=J;cases a0 with
 | flv _ H f h=>
  have:=T h;simp only[Shp.arr.injEq] at this;obtain⟨rfl,rfl,rfl,Z⟩:=this;have Z:=aa5.1 Z.symm;refine(z1 Z).mono ?_;rintro V w' ⟨rfl,hn,hl⟩;have Q:st.hp.set b (.arr true H f (Y x d).2)=st.hp:=by
   rw[hn];rw[Z] at D;apply List.ext_getElem?;grind
  rw[Q] at O;obtain⟨S1,a3⟩:=S.like' hI hl;exact⟨_,_,Γ,L,O,a3,S1,V6,by simp[PV.nms,C6]⟩
 | fl _ q v' H f n cap h hv y K hm hs=>
  have:=T h;simp only[Shp.arr.injEq] at this;obtain⟨rfl,rfl,rfl,rfl⟩:=this;have l:¬(v'=true/\d=[]):=by rintro⟨q1,q2⟩;exact hv q1 (by rw[q2];rfl)
  obtain⟨g',F,N,hh,A,z,M⟩:=S.hr.arr' D l;obtain rfl:q=g':=by rw[y] at N;exact aa0 N
  have a1:F.size=cap*f:=by
   simp only[ad2,hh,j5,ae6,true_and] at hs;exact hs
  refine(z2 q F H f cap hh a1 K hm (S.hr.lt b q y).2.2 S.hr.stlt z M).mono ?_;rintro V w' ⟨rfl,i,w1,G,q1,q2,q3,q4,q5,q6,q7,q8,q9,a5⟩;have j:(Blk.arr v' H f (Y x d).2).shp=(Blk.arr v' H f d).shp:=by simp only[Blk.shp,i]
  have B:w1.shape? q=w.shape? q:=by simp only[ad2,q1,hh,q2]
  have P:w.heap.size<=w1.heap.size:=by omega
  have W:=KK (C:=C) S.hr D y j q3 B P q5 q6 q7;have a2:=ZJ S.hr D y j q3 B P (.inr ⟨λhz=>l ⟨hz.1,by
    have:=congrArg ai9 hz.2;rw[i] at this;exact aa5.1 this⟩,q,G,y,q1,by rw[i,q2];exact A,q8,q9⟩) (by simp[Blk.nms])
  have S1:=S.step hI (W.lift L) (λk O=>q3 k (λek=>S.dis b q y (ek▸O))) a2 (S.sr.mono (Bu S.hr D y j q3 B) (λc u=>⟨trivial,by simpa using S.sr.nms c u⟩));obtain⟨S2,a4⟩:=S1.like' hI a5;exact⟨_,_,Γ,L,O,(W.lift L).trans a4,S2,V6,by simp[PV.nms,C6]⟩
theorem Xi{g:Nat}{args:List PV}{D i:Array Value}{k:PV->St σ->Option R}(A:Ask C I cl yh yv)(z:Γ.yv=yv)(h:Rd C cl yh g args st k=some r)(S:SI C I Γ L st i w)(q:CR Γ (A1 st.hp) w args D)(Q:∀c∈C6 args,c<st.hp.length) :
  M4 C.P ((callFunc g D).run C.P w) (SX C I Γ L st i w k r):=by
 unfold Rd at h;split at h
 ·rename_i B M;split at h
  ·rename_i l;obtain⟨ret,m,d,h⟩:=Y6 h;have d:J2 (B (argX st.hp args))=some (ret,m):=by
    cases J:C.xp g with
    | true=>rw[J] at d;exact(Z5 d).1
    | false=>rw[J] at d;exact d
   obtain⟨n,p⟩:=C3 h;exact UL A.hI A.hX S q M d (ab4.1 l) (by simpa only[o7,c8] using n) p
  ·cases h
 ·split at h
  ·rename_i B b x O;obtain⟨F,j⟩:=As5 O;split at h
   ·rename_i v e W K P;obtain⟨n,p⟩:=C3 h;exact UM A.hI (A.hX.z g B F) S P q j n p
   ·cases h
  dsimp only at h;split at h
  ·rename_i H;split at h
   ·rename_i t;have key:CR Γ (A1 st.hp) w (cond (C.lend g) args (O2 st.hp args)) D/\∀c∈C6 (cond (C.lend g) args (O2 st.hp args)),c<st.hp.length:=by
     cases G:C.lend g with
     | true=>exact⟨q,Q⟩
     | false=>
      rw[G] at H;have T:Ym args=false:=by simpa using H
      obtain⟨U,V⟩:=q.snap_plain T;grind
    split at h
    ·rename_i B N;obtain⟨ret,m,d,h⟩:=Y6 h;refine Xj (s':=st.s) A.hI A.hX.y A.hy z S key.1 key.2 t ?_ h;simp only[clY,N];rw[show J2 (B _ (L7 st.hp _))=some (ret,m) from d]
    ·split at h
     ·rename_i ret m s' f;exact Xj A.hI A.hC A.hy z S key.1 key.2 t f h
     ·cases h
   ·cases h
  ·split at h
   ·rename_i l;split at h
    ·rename_i ret m u f;split at h
     ·rename_i y;obtain⟨n,p⟩:=C3 h;exact UJ A.hI A.hC S q (ab4.1 l) f y n p
     ·cases h
    ·cases h
   ·cases h
theorem CR.append{sh:Nat->Option Shp}{x y:List PV}{X Y:Array Value}(hx:CR Γ sh w x X)(hy:CR Γ sh w y Y):CR Γ sh w (x++y) (X++Y):=by
 refine⟨by rw[ag0,k9,hx.1,hy.1],λj hj=>?_⟩;rw[k9] at hj;by_cases h:j<x.length
 ·obtain⟨U,e,k⟩:=hx.2 j h;grind
 ·obtain⟨U,e,k⟩:=hy.2 (j-x.length) (by omega);refine⟨U,by rw[Array.getElem?_append_right (by rw[hx.1];omega),hx.1];exact e,?_⟩;grind
theorem L3(x y:List PV):C6 (x++y)=C6 x++C6 y:=by
 induction x with
 | nil=>rfl
 | cons a x b=>simp[C6,b]
theorem VP.inv_fn'{sh:Nat->Option Shp}{V:Value}{f:Fn}{x y:List SV}(h:VP Γ sh w (.s (.fn f x y)) V):∃A B,V = .func f A B/\CR Γ sh w (x.map .s) A/\CR Γ sh w (y.map .s) B:=by
 have hs:=h.inv_s;cases hs with
 | fn _ _ _ A B As Bs hf hA hB ha hb hx hy=>
  refine⟨A,B,rfl,⟨by simpa using hA,λj hj=>?_⟩,⟨by simpa using hB,λj hj=>?_⟩⟩
  ·have hj':j<x.length:=by simpa using hj
   exact⟨As j,ha j hj',by rw[j0];exact .s _ _ (hx j hj')⟩
  ·have hj':j<y.length:=by simpa using hj
   exact⟨Bs j,hb j hj',by rw[j0];exact .s _ _ (hy j hj')⟩
theorem VP.inv_fnr'{sh:Nat->Option Shp}{V:Value}{f:Fn}{x y:List PV}(h:VP Γ sh w (.fnr f x y) V):∃A B,V = .func f A B/\CR Γ sh w x A/\CR Γ sh w y B:=by
 cases h with
 | fnr _ _ _ A B As Bs hf hA hB ha hb hx hy=>exact⟨A,B,rfl,⟨hA,λj hj=>⟨As j,ha j hj,hx j hj⟩⟩,⟨hB,λj hj=>⟨Bs j,hb j hj,hy j hj⟩⟩⟩
theorem KE{sh:Nat->Option Shp}:∀{args:List PV} {Vs:List Value},Hv args=true->args.length=Vs.length->(∀j (h:j<args.length),∃U,Vs[j]? = some U/\VP Γ sh w (args[j]) U)->∀j (h:j<args.length),∃U,Vs[j]? = some U/\VP Γ (λ_=>none) w (args[j]) U
 | [],Vs,_,_,_=>λj h=>by simp at h
 | v::r,[],_,n,_=>by simp at n
 | v::r,U::z,c,n,y=>by
  have t:VP Γ sh w v U:=by
   obtain⟨q,e,k⟩:=y 0 (by simp);grind
  have B:∀j (h:j<r.length),∃U,z[j]? = some U/\VP Γ sh w (r[j]) U:=λj d=>by
   obtain⟨q,e,k⟩:=y (j+1) (by simpa using d);grind
  have key:Hv r=true/\VP Γ (λ_=>none) w v U:=by
   unfold Hv at c;split at c
   ·grind
   ·rename_i m;cases m;exact⟨c,.s _ _ t.inv_s⟩
   ·rename_i l G m;cases m;simp only[c8,aa4] at c;obtain⟨⟨g,p⟩,c⟩:=c;refine⟨c,?_⟩;obtain⟨A,rfl,hA,i⟩:=t.inv_agg;refine VP.mk_agg hA λj d=>?_
    obtain⟨U,e,k⟩:=i j d;refine⟨U,e,?_⟩;have:(l[j]).nms=[]:=by
     have:∀(l:List PV) g,Ge l=some g->∀v∈l,v.nms=[]:=by
      intro l
      induction l with
      | nil=>intro _ _ v f;simp at f
      | cons x l F=>
       intro g h v f;simp only[Ge] at h;split at h
       ·rename_i a b u D;rcases x6.1 f with rfl|f
        ·unfold PV.sv? at u;split at u
         ·rfl
         ·rfl
         grind
        grind
       grind
     exact this l g p _ (j4 d)
    exact k.mono (Γ':=Γ) (ok:=λ_=>False) ⟨λ_ _=>rfl,λ_ h=>h,λ_ h=>h.elim,λ_ h=>h.elim,λ_ _ h=>h.elim,rfl⟩ (by rw[this];simp)
   grind
  intro j d;cases j with
  | zero=>exact⟨U,rfl,by simpa using key.2⟩
  | succ j=>
   obtain⟨q,e,k⟩:=KE key.1 (by simpa using n) B j (by simpa using d);grind
theorem UK{f:PV}{D:Value}{args:List PV}{Vs n:Array Value}{k:PV->St σ->Option R}(A:Ask C I cl yh yv)(u:Γ.yv=yv)(h:Xk C cl yh f args st k=some r)(S:SI C I Γ L st n w)(K:VP Γ (A1 st.hp) w f D)(p:∀c∈f.nms,c<st.hp.length)
  (i:CR Γ (A1 st.hp) w args Vs) (Y:∀c∈C6 args,c<st.hp.length) :
  M4 C.P ((do let d <-p9 D Vs;invoke d.target d.args).run C.P w) (SX C I Γ L st n w k r):=by
 unfold Xk at h;split at h
 ·rename_i g first v;obtain⟨F,B,rfl,G,H⟩:=K.inv_fn';have:=Xi A u h S ((G.append i).append H) (λc i=>by
   rw[L3,L3,EN,EN] at i;simp only[af2,ac2] at i;exact Y c i)
  simpa[p9,invoke] using this
 ·rename_i g first v;obtain⟨F,B,rfl,G,H⟩:=K.inv_fnr';have:=Xi A u h S ((G.append i).append H) (λc i=>by
   rw[L3,L3] at i;simp only[w8] at i;simp only[PV.nms,w8] at p;rcases i with(i|i)|i
   ·exact p c (.inl i)
   ·exact Y c i
   ·exact p c (.inr i))
  simpa[p9,invoke] using this
 ·split at h
  ·rename_i z;unfold ydK at h;split at h
   ·rename_i b s' P;have J:D=yv:=by
     cases K;exact u
    subst J;refine(A.hy args st.s b s' P z Γ L w Vs S.inv S.hr.stlt ⟨i.1,?_⟩).mono ?_
    ·intro j N;obtain⟨U,e,q⟩:=KE (Vs:=Vs.toList) z (by simpa using i.1.symm) (λj N=>by obtain⟨U,e,k⟩:=i.2 j N;exact⟨U,by simpa using e,k⟩) j N;exact⟨U,by simpa using e,q⟩
    ·rintro V w' ⟨rfl,St',W,hi,Q,Z,q3,T,q5,q6,q7,q8,q9⟩;have t:=A.hI.foot _ _ _ _ S.inv;have m:∀b g,Γ.nm b=some g->w'.heap[g]? = w.heap[g]?:=λb g l=>T g (S.hr.lt b g l).2.1 (S.dis b g l)
     have y:∀g,Γ.St g->w'.heap[g]? = w.heap[g]?:=λg l=>T g (S.hr.stlt g l) (λx=>(t g x).2 l)
     let Γ2:Ctx:={ Γ with St:=St' }
     have M:V8 Γ (A1 st.hp) w Γ2 (A1 st.hp) w' (λ_=>True):=⟨y,Q,λ_ _=>rfl,λ_ _=>rfl,λb g _ l=>D8 (m b g l),rfl⟩
     have O:HR Γ2 st.hp w':=by
      refine⟨S.hr.inj,λb g l=>?_,q9,S.hr.nms,λb X=>(S.hr.blk b X).mono M rfl (λg l=>m b g l) (λ_ _=>trivial)⟩;have:=S.hr.lt b g l;refine⟨this.1,by omega,λh=>?_⟩;rcases Z g h with h|h
      ·exact this.2.2 h
      ·omega
     refine⟨_,_,Γ2,W,h,⟨q6,q7,q8,q5,Q,Z,λb g l=>.inl ⟨(S.hr.lt b g l).1,l⟩,q3,λg l _ x=>T g l x,rfl,o6 _,λb X _=>⟨rfl,rfl,λg l=>D8 (m b g l)⟩⟩,
      ⟨O,S.sr.mono M (λc i=>⟨trivial,S.sr.nms c i⟩),S.g.mono y Q,hi,λb g l x=>?_⟩,.bool _,by simp[PV.nms]⟩
     rcases q3 g x with h|h
     ·exact S.dis b g l h
     ·have:=(S.hr.lt b g l).2.1;omega
   ·cases h
  ·cases h
 ·cases h
def Nxt(C:Cfg)(I:σ->(Nat->Prop)->(Nat->Prop)->World->Prop)(Γ:Ctx)(L:Nat->Prop)(H:List Blk)(w:World)(ds:List Deferred)(k:St σ->Option R)(r:R)(next:Act->World->Prop):Prop:=
 ∀b d w' Γ' c,k b=some r->Stp C Γ H w L Γ' b.hp w' c->SI C I Γ' c b d.tmps w'->d.defers=ds->next d w'
theorem put_defers(a:Act)(d:Option Tmp)(v:Value):(a.put d v).defers=a.defers:=by cases d<;>rfl
theorem QP{ro:Option Nat}{n:Nat}{k:St σ->Option R}{next:Act->World->Prop}{Q:Exit->Act->World->Prop}(A:Ask C I cl yh yv)(u:Γ.yv=yv)(h:opK C cl yh o st k=some r)(S:SI C I Γ L st a.tmps w)(hN:Nxt C I Γ L st.hp w a.defers k r next) :
  o.wpIn (D6 ro) n C.P a w next Q:=by
 refine⟨λ_ _=>trivial,?_⟩;have t:∀c,o.op≠.defer c:=λc e=>by simp[opK,e] at h
 rw[x8 _ _ _ t];by_cases i:Vn o.op=true
 ·obtain⟨c,g⟩:∃c,o.op = .call c:=by
   unfold Vn at i;split at i
   ·exact⟨_,‹_›⟩
   ·cases i
  have p:=h;simp only[opK,g] at p;split at p
  ·rename_i b D;rw[g] at i;simp[Vn,D] at i
  ·rename_i f H;obtain⟨F,q⟩:=S.list c.args;have:=UK A u p S (S.opnd f).1 (S.opnd f).2 F q;have G:execOp a.eval o=(do let d <-p9 (a.eval f) (c.args.map a.eval);invoke d.target d.args):=by simp only[execOp,g,resolve,H]
   rw[G];refine this ro n o a next Q ?_
   rintro V w' ⟨v,m,Γ',x,J,K,l,M,N⟩;exact hN _ (a.put o.dst V) w' Γ' x J K ⟨l.hr,l.sr.put (ds:=a.defers) o M N,l.g,l.inv,l.dis⟩ (put_defers _ _ _)
  ·cases p
 ·obtain⟨V,w',Γ',m,y,j,z,B⟩:=XH A.hI (by simpa using i) h S;have q:=hN m (a.put o.dst V) w' Γ' L y B z (put_defers _ _ _);rcases j with j|⟨rfl,j⟩
  ·rw[j];exact q
  ·rw[j];exact q
theorem SR.set{Γ:Ctx}{H:List Blk}{sl:List PV}{tmps:Array Value}(h:SR Γ H w sl tmps)(g:Nat){v:PV}(hv:∀V,tmps[g]? = some V->VP Γ (A1 H) w v V)(hn:∀c∈v.nms,c<H.length):SR Γ H w (sl.set g v) tmps:=by
 refine⟨by simpa using h.size,λc hc=>?_,λi hi=>?_⟩
 ·obtain⟨j,hj,hc⟩:=C4.1 hc;rw[List.getElem_set] at hc;split at hc
  ·grind
  ·exact h.nms c (C4.2 ⟨j,by simpa using hj,hc⟩)
 ·have hi':i<sl.length:=by simpa using hi
  obtain⟨U,e1,e2⟩:=h.slot i hi';grind
theorem Nx{F:Option Nat}{n:Nat}{Q:Exit->Act->World->Prop}{all:Array Oper}(A:Ask C I cl yh yv):∀(c:List Oper) {Γ:Ctx} {L:Nat->Prop} {st:St σ} {a:Act} {w:World} {k:St σ->Option R},Γ.yv=yv->Bn C cl yh all c st k=some r->SI C I Γ L st a.tmps w->
  Nxt C I Γ L st.hp w a.defers k r (λt w'=>Q .normal t w')->wpListIn (D6 F) n C.P all Q c a w
 | [],Γ,L,st,a,w,k,hyv,h,S,hN=>hN st a w Γ L h (Stp.refl S.hr) S rfl
 | o::c,Γ,L,st,a,w,k,hyv,h,S,hN=>by
  have run:∀{st:St σ},SI C I Γ L st a.tmps w->Nxt C I Γ L st.hp w a.defers k r (λt w'=>Q .normal t w')->opK C cl yh o st (λl=>Bn C cl yh all c l k)=some r->o.wpIn (D6 F) n C.P a w (wpListIn (D6 F) n C.P all Q c) Q:=λS hN h=>
   QP A hyv h S λl t w' Γ' Φ' W N X Y=>Nx A c (N.yv.trans hyv) W X λJ P w2 K M k1 k2 k3 k4=>hN J P w2 K M k1 (N.trans k2) k3 (k4.trans Y)
  have skip:∀{st:St σ},SI C I Γ L st a.tmps w->Nxt C I Γ L st.hp w a.defers k r (λt w'=>Q .normal t w')->Bn C cl yh all c { st with sl:=L0 o.dst (.tup []) st.sl } k=some r->wpListIn (D6 F) n C.P all Q c (a.put o.dst undef) w:=fun {st} S hN h=>
   Nx A c (st:={ st with sl:=L0 o.dst (.tup []) st.sl }) hyv h (S.put (o:=o) V6 (by simp[PV.nms,C6])) (by rw[put_defers];exact hN)
  simp only[wpListIn];simp only[Bn] at h;split at h
  ·rename_i u;have hw:o0 o (yielded all a.tmps)=true:=by simp[o0,u]
   grind
  ·rename_i j m u;split at h
   ·rename_i g x;have z:∀b,a.tmps[g]? = some (.bool b)->yielded all a.tmps j=some b:=λb e=>by simp[yielded,x,e]
    have y:(∀b,a.tmps[g]?≠some (.bool b))->yielded all a.tmps j=none:=λa1=>by
     simp only[yielded,x,ad6]
    have d:∀v,st.sl.getD g (.tup [])=v->∀V,a.tmps[g]? = some V->VP Γ (A1 st.hp) w v V:=λv hv V hV=>by
     have p:g<st.sl.length:=by rw[<-S.sr.size];exact(j8.1 hV).1
     obtain⟨U,G,T⟩:=S.sr.slot g p;grind
    split at h
    ·rename_i b D;have p:g<st.sl.length:=s8 λa0=>by grind
     obtain⟨U,G,T⟩:=S.sr.slot g p;have Z:=(d _ D U G).inv_bool;subst Z;have f:yielded all a.tmps j=some b:=z b G;have O:SI C I Γ L { st with sl:=st.sl.set g (.s (.bool b)) } a.tmps w:=⟨S.hr,S.sr.set g (d _ D) (by simp[PV.nms]),S.g,S.inv,S.dis⟩
     have q:(if (b==m)=true then opK C cl yh o { st with sl:=st.sl.set g (.s (.bool b)) } (λl=>Bn C cl yh all c l k) else Bn C cl yh all c { st with sl:=L0 o.dst (.tup []) (st.sl.set g (.s (.bool b))) } k)=some r:=by
      cases b<;>exact h
     by_cases i:b=m
     ·rw[if_pos (by simpa using i)] at q;rw[if_pos (by simp[o0,u,f,i])];grind
     ·rw[if_neg (by simpa using i)] at q;rw[if_neg (by simp[o0,u,f,i])];exact⟨λ_ _=>trivial,skip O hN q⟩
    ·rename_i D;have f:yielded all a.tmps j=none:=y λb H=>by
      obtain⟨B,e,_⟩:=(d _ D _ H).inv_tup;cases e
     rw[if_neg (by simp[o0,u,f])];exact⟨λ_ _=>trivial,skip S hN h⟩
    grind
   ·cases h
theorem Ck1{N:Option Nat}{n:Nat}{Q:Exit->Act->World->Prop}{all:Array Oper}{g p:Oper}{f:List Oper}{k:St σ->Option R}(A:Ask C I cl yh yv)(M:Γ.yv=yv)(u:WL C g p=true)
  (h:A69 C g p st.sl (λv=>Bn C cl yh all f { st with sl:=L0 p.dst v (L0 g.dst .bad st.sl) } k)=some r) (S:SI C I Γ L st a.tmps w) (hN:Nxt C I Γ L st.hp w a.defers k r (λa' w'=>Q .normal a' w')):wpListIn (D6 N) n C.P all Q (g::p::f) a w:=by
 unfold A69 at h;split at h
 ·rename_i t len parts s d x j l;unfold WL at u;rw[j,l] at u;split at u
  ·rename_i t' l' p' s' d' x' G H q1 q2;cases q1;cases q2;simp only[c8] at u;obtain⟨hs,hd,K,m⟩:=u;obtain rfl:=j1 hs;obtain rfl:=j1 hd;have K:g.dst=some x:=by simpa using K
   obtain⟨q,h⟩:=C3 h;have q:=ad5 q;obtain⟨p1,p2⟩:=S.parts parts.toList;let b:Value:=.slice (some ⟨w.heap.size,0,none⟩) len len;obtain⟨v,e,B,hk,Z,Y,hW⟩:=Lr (ps:=parts.map λ(i,x)=>(i,a.eval x)) (sl:=L0 g.dst .bad st.sl) (tmps:=(a.put g.dst b).tmps) S.hr h (by rw[w9];exact p1);have D:C.P.underlying e=some (.int .u8):=by
    have J:C.sh d = .slice e:=by simp only[Cfg.sh,FM,Z]
    rw[J] at m;dsimp only at m;split at m
    ·rename_i h8;exact Wt h8
    ·cases m
   have W:=Lib.run_convert_bytes_const (P:=C.P) w d e B len len Z D;simp only[wpListIn];rw[if_pos (by simp[o0,G])];refine⟨λ_ _=>trivial,?_⟩;rw[x8 _ _ _ (λc e=>by rw[j] at e;cases e)];have h1:(execOp a.eval g).run C.P w = .ok (.value b) (w.alloc (.cells B e)):=by simp only[execOp,j];simp[Y,b]
   rw[h1];show wpListIn (D6 N) n C.P all Q (p::f) (a.put g.dst b) (w.alloc (.cells B e));simp only[wpListIn];rw[if_pos (by simp[o0,H])];refine⟨λ_ _=>trivial,?_⟩;rw[x8 _ _ _ (λc e=>by rw[l] at e;cases e)];have F:(a.put g.dst b).eval (.tmp x)=b:=by
    have h0:a.tmps.size=st.sl.length:=S.sr.size;have h9:x+1<=st.sl.length:=q;have:x<a.tmps.size:=by rw[h0];exact h9
    rw[K];simp[af9,Act.eval,this]
   have h2:(execOp (a.put g.dst b).eval p).run C.P (w.alloc (.cells B e)) = .ok (.value b) (w.alloc (.cells B e (B.size,B.size+1))):=by
    simp only[execOp,l,F];simp[b,W]
   rw[h2];show wpListIn (D6 N) n C.P all Q f ((a.put g.dst b).put p.dst b) (w.alloc (.cells B e (B.size,B.size+1)));have X:(do let v <-Instr.buildSlice d len (parts.map λ(i,x)=>(i,a.eval x));convert d d v:Sem Value).run C.P w = .ok b (w.alloc (.cells B e (B.size,B.size+1))):=by
    simp[Y,W,b]
   obtain⟨V,w',Γ',y,z,g3,g4,g5,g6⟩:=hW _ (B.size,B.size+1) X;rw[X] at y;obtain⟨rfl,rfl⟩:b=V/\w.alloc (.cells B e (B.size,B.size+1))=w':=by
    simp only[ac5] at y;exact y
   have S1:SI C I Γ L { st with sl:=L0 g.dst .bad st.sl } (a.put g.dst b).tmps w:=S.put (o:=g) (v:=.bad) (V:=b) (.bad b) (by simp[PV.nms]);have S2:=S1.after (o:=p) (v:=v) A.hI z g3 g4 g5 g6;exact Nx A f (st:={ st with sl:=L0 p.dst v (L0 g.dst .bad st.sl) }) (z.yv.trans M) hk S2 (λO a2 w2 T U k1 k2 k3 k4=>hN O a2 w2 T U k1 ((z.lift L).trans k2) k3 (k4.trans (by rw[put_defers,put_defers])))
  ·cases u
 ·cases h
theorem Ca0{i:Option Nat}{n:Nat}{Q:Exit->Act->World->Prop}{all:Array Oper}{k:St σ->Option R}(A:Ask C I cl yh yv):∀(l:List Oper),Γ.yv=yv->An7 C cl yh all st k l=some r->SI C I Γ L st a.tmps w->
  Nxt C I Γ L st.hp w a.defers k r (λg w'=>Q .normal g w')->wpListIn (D6 i) n C.P all Q l a w
 | [],b,h,S,hN=>Nx A [] b h S hN
 | [o],b,h,S,hN=>Nx A [o] b h S hN
 | e::f::c,b,h,S,hN=>by
  simp only[An7] at h;cases d:WL C e f with
  | true=>rw[d] at h;exact Ck1 A b d h S hN
  | false=>rw[d] at h;exact Nx A (e::f::c) b h S hN
end
section quiet
variable {F : Fence} {n : Nat} {P : Program} {Y : Array Oper} {L : aa2} {K : World -> Prop}
theorem Ar5{c:Code}{Q:Exit->Act->World->Prop}{a:Act}{w:World}(J:Nat->Act->World->Prop)(N:Nat)(u:J N a w)
  (round:∀m a w,J m a w->c.wpIn F n P (Exit.then (λq w'=>∃D,D<m/\J D q w') Q) a w):(Code.loop c).wpIn F n P Q a w:=by
 intro b k y C z B;have key:∀j a w,J j a w->∃e q w',Q e q w'/\ArrivesIn (Machine.fenced P F) P (lone (b.atR a (.code c::.inLoop c::k)) y w) b k y e q w':=by
  intro j
  induction j using Nat.strongRecOn with
  | _ j H=>
   intro a w G;obtain⟨e,f,g,i,d⟩:=round j a w G b (.inLoop c::k) y C z B;cases e with
   | normal=>
    obtain⟨m,A,o⟩:=i;obtain⟨t,r,v,p,h⟩:=H m A f g o;exact⟨t,r,v,p,.of_steps (ai4 d (.one (fenced_calm z B rfl) stepR_inLoop)) h⟩
   | exit id=>exact⟨_,f,g,i,.pass (x:=.inLoop c) rfl (λ_ _=>.inl (by simp)) d⟩
   | goto l=>exact⟨_,f,g,i,.pass (x:=.inLoop c) rfl (λ_ _=>.inl (by simp)) d⟩
   | ret=>exact⟨_,f,g,i,.pass (x:=.inLoop c) rfl (λ_ _=>.inl (by simp)) d⟩
   | panic I=>exact⟨_,f,g,i,.pass (x:=.inLoop c) rfl (λ_ _=>.inl (by simp)) d⟩
   | outgrown=>exact⟨_,f,g,i,.pass (x:=.inLoop c) rfl (λ_ _=>.inl (by simp)) d⟩
 obtain⟨e,q,w',i,d⟩:=key N a w u;exact⟨e,q,w',i,.of_steps (.one (fenced_calm z B rfl) stepR_loop) d⟩
theorem Z8{b:Frame}{a:Act}{k:List Item}{d:List Frame}{w:World}{c:Code}:step P (lone (b.atR a (.code (.scope c)::k)) d w) = .next (lone (b.atR a (.code c::.inScope c::k)) d w):=
 step_lone_go (by simp[stepG,stepG.exec,Frame.atR])
theorem HJ{b:Frame}{a:Act}{k:List Item}{d:List Frame}{w:World}{c:Code}:step P (lone (b.atR a (.inScope c::k)) d w) = .next (lone (b.atR a k) d w):=
 step_lone_go (by simp[stepG,stepG.exec,Frame.atR])
theorem ZH{c:Code}{Q:Exit->Act->World->Prop}{a:Act}{w:World}(h:c.wpIn F n P (λe a w=>(∀l,e≠.goto l)/\Q e a w) a w):(Code.scope c).wpIn F n P Q a w:=by
 intro b k u t o q;have i:(lone (b.atR a (.code (.scope c)::k)) u w).fenced P F:=fenced_calm o q rfl;obtain⟨e,f,g,⟨z,j⟩,d⟩:=h b (.inScope c::k) u t o q;cases e with
 | normal=>exact⟨.normal,f,g,j,.head i Z8 (ai4 d (.one (fenced_calm o q rfl) HJ))⟩
 | exit id=>
  have v:exitTo id (.inScope c::k)=exitTo id k:=by simp[exitTo]
  exact⟨.exit id,f,g,j,λA p=>.head i Z8 (d.1 A (by rw[v];exact p)),
   λr p=>let⟨m,x,y⟩:=d.2 r (by rw[v];exact p);⟨m,x,.head i Z8 y⟩⟩
 | goto l=>exact absurd rfl (z l)
 | ret=>exact⟨_,f,g,j,.of_steps (.one i Z8) d⟩
 | panic B=>exact⟨_,f,g,j,.of_steps (.one i Z8) d⟩
 | outgrown=>exact⟨_,f,g,j,.of_steps (.one i Z8) d⟩
end quiet
section
variable {Q R : Type} {r : R} {C : Cfg} {I : Q -> (Nat -> Prop) -> (Nat -> Prop) -> World -> Prop} {Γ : Ctx} {Y : Nat -> Prop} {L : St Q} {a : Act} {w : World} {W : E3} {J : Yh Q} {U : Value} {o : Oper}
theorem SI.like(hI:HI I)(S:SI C I Γ Y L a.tmps w){w':World}(h:I5 w w'):SI C I Γ Y L a.tmps w'/\Stp C Γ L.hp w Y Γ L.hp w' Y:=
 S.like' hI h
def IJ:PV->Value
 | .s (.bool b)=>.bool b
 | .s (.int k n)=>.int k n
 | .s (.str l)=>.string ⟨l.toArray⟩
 | _=>undef
def B15:PV->Value
 | .tup l=>.tuple (l.map IJ).toArray
 | v=>IJ v
theorem VB{Γ:Ctx}{sh:Nat->Option Shp}{w:World}{v:PV}{V:Value}(h:VP Γ sh w v V)(b:v.det1=true):V=IJ v:=by
 cases h with
 | s x V c=>
  cases c<;>simp[PV.det1,SV.det] at b<;>simp[IJ]
 | _=>simp[PV.det1] at b
theorem B16{Γ:Ctx}{sh:Nat->Option Shp}{w:World}{v:PV}{V:Value}(h:VP Γ sh w v V)(b:v.det=true):V=B15 v:=by
 cases h with
 | s x V i=>exact VB (sh:=sh) (.s x V i) b
 | tup l A k hA f g=>
  simp only[PV.det,j2] at b;simp only[B15]
  congr 1
  apply Array.ext
  ·simp[hA]
  ·intro j d m;have c:j<l.length:=by rw[<-hA];exact d
   have e:=f j c;rw[y9 d] at e;simp only[j5] at e;simp only[List.getElem_toArray,j0];rw[e];exact VB (g j c) (b _ (j4 c))
 | _=>simp[PV.det] at b
theorem OX{Γ:Ctx}{sh:Nat->Option Shp}{w:World}{v:PV}(b:v.det1=true):VP Γ sh w v (IJ v)/\v.nms=[]:=by
 cases v with
 | s x=>
  cases x<;>simp[PV.det1,SV.det] at b
  ·exact⟨.s _ _ (.bool _),rfl⟩
  ·exact⟨.s _ _ (.int _ _),rfl⟩
  ·rename_i l;have:=VS.str (St:=Γ.St) (w:=w) (⟨l.toArray⟩:ByteArray);simp only at this;exact⟨.s _ _ this,rfl⟩
 | _=>simp[PV.det1] at b
theorem Ci5{Γ:Ctx}{sh:Nat->Option Shp}{w:World}{v:PV}(b:v.det=true):VP Γ sh w v (B15 v)/\v.nms=[]:=by
 cases v with
 | s x=>exact OX (v:=.s x) b
 | tup l=>
  simp only[PV.det,j2] at b;refine⟨VP.mk_tup (by simp) λj e=>⟨IJ (l[j]),by simp[e],(OX (b _ (j4 e))).1⟩,?_⟩;simp only[PV.nms];rw[List.eq_nil_iff_forall_not_mem];intro c d;obtain⟨j,e,d⟩:=C4.1 d;rw[(OX (Γ:=Γ) (sh:=sh) (w:=w) (b _ (j4 e))).2] at d;simp at d
 | _=>simp[PV.det] at b
theorem Ci6{v:PV}(b:v.det=true)(f:Nat->Nat):v.rn f=v:=by
 cases v with
 | s x=>rfl
 | tup l=>
  simp only[PV.det,j2] at b;simp only[PV.rn]
  congr 1
  induction l with
  | nil=>rfl
  | cons a r d=>
   simp only[rnL];have c:=b a (by simp);have:a.rn f=a:=by cases a<;>simp[PV.det1] at c<;>rfl
   grind
 | _=>simp[PV.det] at b
theorem X7{P:Program}{g:Nat}{Vs:Array Value}{w:World}(h:Vx P g=true):(callFunc g Vs).run P w = .ok (.enter g Vs) w:=by
 unfold Vx at h;split at h
 ·rename_i fn e;simp only[c8,v8,aa4] at h;obtain⟨⟨c,d⟩,f⟩:=h
  have b:¬ fn.name = "runtime.NumGoroutine":=by simpa using f
  simp[callFunc,e,d,b,ab2]
 ·cases h
theorem Tv{P:Program}{ro:Option Nat}{n f:Nat}{d:Array Value}{w:World}{R:Value->World->Prop}(b:(callFunc f d).run P w = .ok (.enter f d) w)(h:M4 P ((callFunc f d).run P w) R):CallsIn (D6 ro) (n-1) P f d w λe w'=>∃V,e = .returned V/\R V w':=by
 rw[b] at h;have:=h ro n { op:=.move (.const undef),dst:=some 0,guard:=none,type:=0,after:=#[],pos:=default } { tmps:=#[undef],defers:=[] } (λi w'=>∃V,i.tmps[0]? = some V/\R V w') (λ_ _ _=>False) (λV w' k=>⟨V,by simp[af9],k⟩);rw[Oper.uponIn_enter] at this;refine this.2.mono λe w' g=>?_
 cases e with
 | returned v=>
  obtain⟨V,j,l⟩:=g;simp[af9] at j;grind
 | panicked c=>exact g.elim
 | outgrown=>obtain⟨_,_,h⟩:=g;exact h.elim
theorem A81{ro:Option Nat}{n:Nat}{k:St Q->Option R}(X:HI I)(Z:XOK C)(u:Iv C o.op=true)(h:opK C W J o L k=some r)(S:SI C I Γ Y L a.tmps w) :
  ∃V v,k v=some r/\(∀w',I5 w w'->o.quietAtIn (D6 ro) n C.P a (I5 w') w' V)/\SI C I Γ Y v (a.put o.dst V).tmps w/\Stp C Γ L.hp w noΦ Γ v.hp w noΦ:=by
 obtain⟨c,q⟩:∃c,o.op = .call c:=by
  unfold Iv at u;grind
 rw[q] at u;simp only[Iv] at u;split at u
 ·rename_i g j;simp only[c8,aa4] at u;obtain⟨⟨M,pf,m⟩,l⟩:=u;simp only[opK,q,j,opnd,Xk,Rd,m,M,cond_true,ae2,af2,ac2] at h;split at h
  ·rename_i G;obtain⟨ret,Hc,t,h⟩:=Y6 h;obtain⟨t,f,rfl⟩:=Z5 t;obtain⟨h1,N⟩:=C3 h;simp only[ae2,ac2,Ci6 f] at N;have O:=Ci5 (Γ:=Γ) (sh:=A1 L.hp) (w:=w) f;refine⟨B15 ret,_,N,λw' K=>?_,S.put O.1 (by rw[O.2];simp),Stp.refl S.hr⟩;obtain⟨A,_⟩:=S.like X K;obtain⟨hc,hn⟩:=A.list c.args;have B:=hc.argX A.hr;let Γc:Ctx:={ Γ.all with nm:=λ_=>none }
   have D:CR Γc (A1 []) w' (argX L.hp (c.args.toList.map (opnd C L.sl))) (c.args.map a.eval):=B.bare (ab4.1 G) (λ_ h=>h) rfl;have p:=Z.x g pf _ ret [] m t Γc w' _ (λ_=>rfl) (Jq (λ_=>rfl) (Ab2 A)) (A.g.mono (λ_ _=>rfl) (λ_ h=>af8 h)) D;have i:=Tv (ro:=ro) (n:=n) (X7 l) p;have F:a.eval (.func g) = .func (.func g) #[] #[]:=rfl;have he:execOp a.eval o=(do let d <-p9 (a.eval (.func g)) (c.args.map a.eval);invoke d.target d.args):=by simp only[execOp,q,resolve,j]
   unfold ab1;rw[he,F];have y:(do let d <-p9 (Value.func (.func g) #[] #[]) (c.args.map a.eval);invoke d.target d.args:Sem Next).run C.P w' = .ok (.enter g (c.args.map a.eval)) w':=by
    have:=X7 (P:=C.P) (Vs:=c.args.map a.eval) (w:=w') l;simpa[p9,invoke] using this
   rw[y];refine⟨rfl,λh=>(by simp[D6,aj2] at h),i.mono ?_⟩;rintro e a0 ⟨V,rfl,Γ1,Φ1,z,T,H,_⟩;have:=B16 H f;subst this;exact⟨rfl,⟨λg hg=>z.frame g hg (λb=>by simp[Γc]) (λx=>x),z.size⟩,z.os,z.tape,z.output⟩
  ·cases h
 ·cases u
def Out.exit':Out->Exit
 | .normal=>.normal
 | .exit id=>.exit id
 | .ret=>.ret
end
theorem Va{a b:Nat}(h:a<=b):o8 a b=true:=by rw[Nat.ble_eq];exact h
theorem Lq{a b:Nat}(h:o8 a b=true):a<=b:=by rw[Nat.ble_eq] at h;exact h
theorem I5.refl(w:World):I5 w w:=⟨⟨λ_ _=>rfl,o6 _⟩,rfl,rfl,rfl⟩
theorem I5.trans{a b c:World}(h:I5 a b)(k:I5 b c):I5 a c:=
 ⟨⟨λg hg=>(k.1.1 g (ac6 hg h.1.2)).trans (h.1.1 g hg),ae3 h.1.2 k.1.2⟩,k.2.1.trans h.2.1,k.2.2.1.trans h.2.2.1,k.2.2.2.trans h.2.2.2⟩
def Hw(D:Nat->Prop)(w w':World):Prop:=((∀g,g<w.heap.size->¬D g->w'.heap[g]? = w.heap[g]?)/\w.heap.size<=w'.heap.size)/\w'.os=w.os/\w'.tape=w.tape/\w'.output=w.output
theorem I5.x{D:Nat->Prop}{a b:World}(h:I5 a b):Hw D a b:=⟨⟨λg hg _=>h.1.1 g hg,h.1.2⟩,h.2⟩
theorem Hw.trans{D:Nat->Prop}{a b c:World}(h:Hw D a b)(k:Hw D b c):Hw D a c:=
 ⟨⟨λg hg hd=>(k.1.1 g (ac6 hg h.1.2) hd).trans (h.1.1 g hg hd),ae3 h.1.2 k.1.2⟩,k.2.1.trans h.2.1,k.2.2.1.trans h.2.2.1,k.2.2.2.trans h.2.2.2⟩
def RQ(D:Nat->Prop)(q:Nat)(a b:World):Prop:=(q=1->I5 a b)/\(q=2->Hw D a b)
theorem RQ.of{D:Nat->Prop}{q:Nat}{a b:World}(h:I5 a b):RQ D q a b:=⟨λ_=>h,λ_=>h.x⟩
theorem RQ.trans{D:Nat->Prop}{q:Nat}{a b c:World}(h:RQ D q a b)(k:RQ D q b c):RQ D q a c:=⟨λe=>(h.1 e).trans (k.1 e),λe=>(h.2 e).trans (k.2 e)⟩
def qK(k:Nat)(f:Bool):Nat:=cond (x9 k 1) (cond f 2 1) 0
section
variable {F : Fence} {n : Nat} {P : Program} {L : Array Oper} {Y : aa2} {D : Nat -> Prop} {far : Nat -> Bool}
def QF:Exit->Act->World->Prop:=λ_ _ _=>False
theorem Cc1{o:Oper}{a:Act}{w:World}{N:Act->World->Prop}{Q:Exit->Act->World->Prop}(h:o.wpIn F n P a w N QF):o.wpIn F n P a w N Q:=by
 unfold ae8 at *;refine⟨h.1,?_⟩;have h:=h.2;generalize (o.semAt F.round a.eval).run P w=r at *;cases r with
 | ok x w'=>
  cases x<;>simp only[aa6] at h ⊢
  case value=>exact h
  case skip=>exact h
  case defer=>exact h
  case enter=>exact⟨h.1,ag1 h.2 λe d b=>by
   cases e with
   | returned u=>exact b
   | panicked c=>exact b.elim
   | outgrown=>obtain⟨_,_,h⟩:=b;exact h.elim⟩
  case row=>exact h
  case round=>exact⟨h.1,ag5 h.2 λe d b=>by
   cases e with
   | returned u=>exact b
   | panicked c=>exact b.elim
   | outgrown=>obtain⟨_,_,h⟩:=b;exact h.elim⟩
 | halt x w'=>
  cases x<;>simp only[aa6] at h ⊢
  case panic=>exact h.elim
theorem Be4{i:Nat}{a:Act}{w:World}{N:Act->World->Prop}{Q:Exit->Act->World->Prop}(h:wpOpIn F n P L QF i N a w):wpOpIn F n P L Q i N a w:=by
 unfold wpOpIn at *;split
 ·grind
 ·rename_i o b;simp only[b] at h;split
  ·rename_i c;simp only[c,if_true] at h;exact Cc1 h
  grind
def YQ(F:Fence)(n:Nat)(P:Program)(L:Array Oper)(D:Nat->Prop)(q:Nat)(b:World)(o:Oper)(v:Value)(a:Act):Prop:=
 o.askedIn F P a (λw=>RQ D q b w)/\
 ((o0 o (yielded L a.tmps)=true/\∀w,RQ D q b w->o.quietAtIn F n P a (I5 w) w v)\/
  (o0 o (yielded L a.tmps)=false/\v=undef))
theorem YQ.step{q:Nat}{w0 w1:World}{o:Oper}{v:Value}{a:Act}(h:YQ F n P L D q w0 o v a)(hl:RQ D q w0 w1):YQ F n P L D q w1 o v a:=
 ⟨λw hw=>h.1 w (hl.trans hw),h.2.imp (λh=>⟨h.1,λw hw=>h.2 w (hl.trans hw)⟩) (λh=>h)⟩
theorem YQ.of_same{q:Nat}{w0:World}{o:Oper}{v:Value}{a a':Act}(hy:YQ F n P L D q w0 o v a)(he:execOp a'.eval o=execOp a.eval o)
  (hw:o0 o (yielded L a'.tmps)=o0 o (yielded L a.tmps)) (hb:∀w,o.about P w a'.eval=o.about P w a.eval):YQ F n P L D q w0 o v a':=by
 unfold YQ ab1 Oper.askedIn at *;rw[he,hw];exact⟨λw hc f hf=>hy.1 w hc f (by rw[<-hb w];exact hf),hy.2⟩
theorem YQ.wpOpIn{q:Nat}{w0 w:World}{i:Nat}{o:Oper}{v:Value}{a:Act}(hi:L[i]? = some o)(hnd:∀c,o.op≠.defer c)(hy:YQ F n P L D q w0 o v a)(hw:RQ D q w0 w){K:Act->World->Prop}(h:∀w',I5 w w'->K (a.put o.dst v) w'):wpOpIn F n P L QF i K a w:=by
 unfold Go.wpOpIn;simp only[hi];rcases hy.2 with⟨hwt,hv⟩|⟨hwt,rfl⟩
 ·simp only[hwt,if_true];have h3:=hv w hw;unfold ab1 at h3;unfold ae8;refine⟨hy.1 w hw,?_⟩;rw[x8 _ _ _ hnd];generalize (execOp a.eval o).run P w=r at *;cases r with
  | ok x w'=>
   cases x<;>simp only[ah0] at h3<;>simp only[aa6]
   case value u=>
    obtain⟨e1,e2⟩:=h3;rw[e1,e2];exact h _ (I5.refl w)
   case skip=>
    obtain⟨e1,e2⟩:=h3;rw[e1,<-e2];exact h _ (I5.refl w)
   case enter f args=>
    obtain⟨e1,hd,hc⟩:=h3;rw[e1];exact⟨hd,hc.mono λe w'' ⟨he,hw''⟩=>by subst he;exact h _ hw''⟩
  | halt x w'=>simp only[ah0] at h3
 ·simp only[hwt,y7,if_false];exact⟨hy.1 w hw,h _ (I5.refl w)⟩
theorem ZI{q:Nat}{A:World}{j:Nat}{i k:Oper}{v:Value}(Q:L[j]? = some k)(H:i.apart L k=true)
  (J:∀C b,i.op≠.select C b) (M:∀C b,k.op≠.select C b) (y:∀c,k.op≠.defer c) {K:Act->World->Prop} {a:Act} {w:World}
  (o:YQ F n P L D q A i v a) (h:wpOpIn F n P L QF j K (a.put i.dst v) w) :
  wpOpIn F n P L QF j (λO w'=>YQ F n P L D q A i v O/\K (O.put i.dst v) w') a w:=by
 obtain⟨B,p,G⟩:=Oper.apart_spec H;have g:∀(a:Act),YQ F n P L D q A i v a->∀u,YQ F n P L D q A i v (a.put k.dst u):=λa o u=>
  o.of_same (execOp_put i J a k.dst u G) (wanted_put i a k.dst u G) (λw=>about_put i w a k.dst u G)
 unfold wpOpIn at *;simp only[Q] at *;rw[wanted_put k a i.dst v B,about_put k w a i.dst v B] at h;split
 ·rename_i N;simp only[N,if_true] at h;unfold ae8 at *;rw[about_put k w a i.dst v B] at h;refine⟨h.1,?_⟩;have h:=h.2;rw[x8 _ _ _ y,execOp_put k M a i.dst v B] at h;rw[x8 _ _ _ y];have I:∀d w',(execOp a.eval k).run P w≠.ok (.defer d) w'\/True:=λ_ _=>.inr trivial
  generalize R:(execOp a.eval k).run P w=r at *;cases r with
  | ok x w'=>
   cases x<;>simp only[aa6] at h ⊢
   case value u=>exact⟨g a o u,by rw[<-ab3 a v u p];exact h⟩
   case skip=>exact⟨g a o _,by rw[<-ab3 a v undef p];exact h⟩
   case defer d=>
    have t:∀d,YQ F n P L D q A i v { a with defers:=d::a.defers }:=λd=>o.of_same rfl rfl (λ_=>rfl)
    refine⟨g _ (t d) _,?_⟩;rw[<-ab3 _ v undef p,<-Act.put_defers];exact h
   case enter f args=>
    refine⟨h.1,ag1 h.2 λe z m=>?_⟩;cases e with
    | returned u=>exact⟨g a o u,by rw[<-ab3 a v u p];exact m⟩
    | panicked c=>exact m
    | outgrown=>exact m
   case row row args=>exact⟨h.1,aj1 h.2 λu z m=>⟨g a o u,by rw[<-ab3 a v u p];exact m⟩⟩
   case round l f tmps assign body=>
    refine⟨h.1,ag5 h.2 λe z m=>?_⟩;cases e with
    | returned u=>exact⟨g a o u,by rw[<-ab3 a v u p];exact m⟩
    | panicked c=>exact m
    | outgrown=>exact m
  | halt x w'=>
   cases x<;>simp only[aa6] at h ⊢
   case panic u=>exact h
 ·rename_i N;simp only[N] at h;exact⟨h.1,g a o _,by rw[<-ab3 a v undef p];exact h.2⟩
def wpR(F:Fence)(n:Nat)(P:Program)(Y:aa2)(L:Array Oper)(D:Nat->Prop)(wr c:Nat->Bool)(b:Act->World->Prop):Nat->Array Bool->Act->World->Prop
 | 0,listed,a,w=>j7 Y L listed=[]/\b a w
 | f+1,listed,a,w=>(j7 Y L listed=[]->b a w)/\
  ∀i∈j7 Y L listed,wpOpIn F n P L QF i (λd w'=>(wr i=false->I5 w w')/\(c i=true->Hw D w w')/\∀w1,I5 w' w1->wpR F n P Y L D wr c b f (listed.setIfInBounds i true) d w1) a w
theorem Dy{wr d:Nat->Bool}{Q:Exit->Act->World->Prop}{Qn:Act->World->Prop}(b:∀a w,Qn a w->Q .normal a w):∀(f:Nat) (listed:Array Bool) (a:Act) (w:World),wpR F n P Y L D wr d Qn f listed a w->wpAnyIn F n P Y L Q f listed a w
 | 0,_,_,_,h=>⟨h.1,b _ _ h.2⟩
 | f+1,_,_,_,h=>⟨λe=>b _ _ (h.1 e),λi g=>Be4 (wpOpIn_mono (λc w' h=>Dy b f _ c w' (h.2.2 w' (I5.refl w'))) (h.2 i g))⟩
def DC(Y:aa2)(L:Array Oper)(listed:Array Bool):Prop:=∀j o,L[j]? = some o->listed.getD j false=true->∀e∈o.after,ad1 Y e=true->listed.getD e.on false=true
theorem VW{listed:Array Bool}{i j:Nat}(h:(listed.setIfInBounds i true).getD j false=true):j=i\/listed.getD j false=true:=by by_cases a:i=j;all_goals simp_all
theorem DC.set{listed:Array Bool}{i:Nat}(h:DC Y L listed)(hi:i∈j7 Y L listed):DC Y L (listed.setIfInBounds i true):=by
 intro j o ho hj e he hb;refine getD_set_true ?_;rcases VW hj with rfl|hj
 ·obtain⟨_,o',ho',hall⟩:=mem_ready.1 hi;grind
 ·exact h j o ho hj e he hb
def GK(Y:aa2)(L:Array Oper):Nat->Nat->Nat->Bool
 | 0,_,_=>false
 | f+1,j,i=>match L[j]? with
  | some o=>(o.after.toList.any λe=>ad1 Y e&&x9 e.on i)||(o.after.toList.any λe=>ad1 Y e&&GK Y L f e.on i)
  | none=>false
theorem Yz{listed:Array Bool}{i:Nat}(d:DC Y L listed)(k:listed.getD i false=false):∀f j,GK Y L f j i=true->listed.getD j false=false/\j∉j7 Y L listed
 | 0,j,h=>by cases h
 | f+1,j,h=>by
  simp only[GK] at h;split at h
  ·rename_i o m;have key:∃e∈o.after,ad1 Y e=true/\listed.getD e.on false=false:=by
    rw[o7,ag6,ag6] at h;rcases h with⟨e,b,a⟩|⟨e,b,a⟩
    ·rw[c8] at a;have:=j1 a.2;grind
    ·rw[c8] at a;exact⟨e,by simpa using b,a.1,(Yz d k f e.on a.2).1⟩
   obtain⟨e,b,a,g⟩:=key;refine⟨?_,λq=>?_⟩
   ·cases l:listed.getD j false with
    | false=>rfl
    | true=>rw[d j o m l e b a] at g;cases g
   ·obtain⟨_,o',p,c⟩:=mem_ready.1 q;grind
  ·cases h
theorem Ts{listed:Array Bool}{i:Nat}(h:i∈j7 Y L listed):listed.getD i false=false:=by have a:=(mem_ready.1 h).1;grind
theorem Be5{wr K:Nat->Bool}{Qn:Act->World->Prop}{q:Nat}{i:Nat}{G:Oper}{v:Value}(N:L[i]? = some G)(y:∀(j:Nat) (o:Oper) J b,L[j]? = some o->o.op≠.select J b)(B:∀(j:Nat) (o:Oper) c,L[j]? = some o->o.op≠.defer c) :
  ∀(f:Nat) (listed:Array Bool) (a:Act) (V:World),
   (∀j A,L[j]? = some A->j≠i->listed.getD j true=false->(∀e∈A.after,ad1 Y e=true->e.on≠i)->G.apart L A=true)->
   (∀j,j≠i->listed.getD j true=false->wr j=true->(q=1\/(q=2/\K j=false))->GK Y L L.size j i=true)->DC Y L listed->
   i∈j7 Y L listed->YQ F n P L D q V G v a->
   (∀w,I5 V w->wpR F n P Y L D wr K Qn f (listed.setIfInBounds i true) (a.put G.dst v) w)->∀w,I5 V w->wpR F n P Y L D wr K Qn (f+1) listed a w:=by
 intro f
 induction f with
 | zero=>
  intro listed a V _ _ _ C W H w z;refine⟨λh=>(by rw[h] at C;cases C),λj I=>?_⟩;by_cases d:j=i
  ·subst d;exact W.wpOpIn N (λc=>B j G c N) (.of z) λw' p=>⟨λ_=>p,λ_=>p.x,λw1 M=>H w1 (z.trans (p.trans M))⟩
  ·have:=ready_mono I d;rw[(H w z).1] at this;cases this
 | succ f ih=>
  intro listed a V l U hd C W H w z;refine⟨λh=>(by rw[h] at C;cases C),λj I=>?_⟩;by_cases d:j=i
  ·subst d;exact W.wpOpIn N (λc=>B j G c N) (.of z) λw' p=>⟨λ_=>p,λ_=>p.x,λw1 M=>H w1 (z.trans (p.trans M))⟩
  ·have M:=(H w z).2 j (ready_mono I d);obtain⟨x,A,t,a3⟩:=mem_ready.1 I;have O:=Ts C;have R:∀e∈A.after,ad1 Y e=true->e.on≠i:=λe he hb heq=>by grind
   have h2:=ZI t (l j A t d x R) (λJ b=>y i G J b N) (λJ b=>y j A J b t) (λc=>B j A c t) (W.step (w1:=w) (.of z)) M;have m:∀{k:Nat},k≠i->(listed.setIfInBounds j true).getD k true=false->listed.getD k true=false:=fun {k} g u=>by
    by_cases a4:j=k;all_goals simp_all
   refine wpOpIn_mono (λa' w' h3=>?_) h2;obtain⟨a2,p,Q,hR⟩:=h3;refine⟨p,Q,λw1 Z=>?_⟩;have X:RQ D q w w':=by
    cases T:wr j with
    | false=>exact .of (p T)
    | true=>
     have r:(q=1\/(q=2/\K j=false))->False:=λS=>(Yz hd O L.size j (U j d x T S)).2 I
     refine⟨λS=>(r (.inl S)).elim,λS=>?_⟩;cases hf:K j with
     | true=>exact Q hf
     | false=>exact(r (.inr ⟨S,hf⟩)).elim
   refine ih (listed.setIfInBounds j true) a' w' (λk ok hk g u r=>l k ok hk g (m g u) r) (λk g u a1=>U k g (m g u) a1) (hd.set I) (ready_mono C (ah4 d)) (a2.step X) (λw2 a0=>?_) w1 Z;rw[Array.setIfInBounds_comm _ _ d];exact hR w2 a0
def J5(F:Fence)(n:Nat)(P:Program)(L:Array Oper)(D:Nat->Prop)(far:Nat->Bool)(kind:Nat->Nat)(E:Act->World->Prop):List Nat->Act->World->Prop
 | [],a,c=>E a c
 | i::b,a,c=>(kind i<=1->∃o v,L[i]? = some o/\YQ F n P L D (qK (kind i) (far i)) c o v a/\J5 F n P L D far kind E b (a.put o.dst v) c)/\
  (2<=kind i->∀w,I5 c w->wpOpIn F n P L QF i (λd w'=>(kind i=2->I5 w w')/\(far i=true->Hw D w w')/\J5 F n P L D far kind E b d w') a w)
def VU(Y:aa2)(L:Array Oper)(far:Nat->Bool)(kind:Nat->Nat)(i:Nat)(listed:Array Bool):Bool:=
 (j7 Y L listed).contains i&&(Region.free Y L listed i&&(x9 (kind i) 0||(ah8 L.size).all λj=>x9 j i||(listed.getD j true||(!(o8 3 (kind j))||((far i&&far j)||GK Y L L.size j i)))))
def Vo(Y:aa2)(L:Array Oper)(far:Nat->Bool)(kind:Nat->Nat)(a:Array Bool->Bool):List Nat->Array Bool->Bool
 | [],listed=>a listed
 | i::r,listed=>cond (o8 (kind i) 1) (VU Y L far kind i listed) ((j7 Y L listed)==[i])&&Vo Y L far kind a r (listed.setIfInBounds i true)
def NZ(Y:aa2)(L:Array Oper)(far:Nat->Bool)(kind:Nat->Nat):List Nat->Array Bool->Bool:=Vo Y L far kind λlisted=>(j7 Y L listed).isEmpty
theorem Ag0{kind:Nat->Nat}{z:Act->World->Prop}(K:y5 L=true)(x:∀(j:Nat) (o:Oper) c,L[j]? = some o->o.op≠.defer c)(I:∀j,L.size<=j->kind j<=1){i b:Nat}{listed:Array Bool}{a:Act}{m:World}{o:Oper}{v:Value}
  (A:VU Y L far kind i listed=true) (B:DC Y L listed) (C:L[i]? = some o) (N:YQ F n P L D (qK (kind i) (far i)) m o v a)
  (h:DC Y L (listed.setIfInBounds i true)->∀w,I5 m w->wpR F n P Y L D (λj=>o8 3 (kind j)) far z b (listed.setIfInBounds i true) (a.put o.dst v) w):∀w,I5 m w->wpR F n P Y L D (λj=>o8 3 (kind j)) far z (b+1) listed a w:=by
 intro w M;simp only[VU,c8] at A;obtain⟨J,G,e⟩:=A;have g:i∈j7 Y L listed:=by simpa using J
 refine Be5 (q:=qK (kind i) (far i)) C (Region.noSelect_spec K) x b listed a m (Region.free_spec C G) (λj t y k d=>?_) B g N (h (B.set g)) w M;have f:kind i=1:=by
  cases l:x9 (kind i) 1 with
  | true=>exact j1 l
  | false=>simp[qK,l] at d
 have p:(far i&&far j)=false:=by
  rw[f] at d;cases r:far i with
  | false=>rfl
  | true=>
   rcases d with d|⟨_,d⟩
   ·rw[r] at d;cases d
   ·rw[d];rfl
 rw[f] at e;simp only[show x9 1 0=false from rfl,ah9,j2,ah6] at e;have u:j<L.size:=s8 λH=>by
  have:=I j (by omega);have O:=Lq k;omega
 have:=e j u;rw[show x9 j i=false by cases l:x9 j i with|false=>rfl|true=>exact absurd (j1 l) t,y,k,p] at this;simpa using this
theorem Jv{kind:Nat->Nat}{Qn E:Act->World->Prop}{fin:Array Bool->Bool}{m:Nat}(C:y5 L=true)(k:∀(j:Nat) (o:Oper) c,L[j]? = some o->o.op≠.defer c)(B:∀j,L.size<=j->kind j<=1)
  (d:∀listed a f,fin listed=true->DC Y L listed->E a f->∀w,I5 f w->wpR F n P Y L D (λj=>o8 3 (kind j)) far Qn m listed a w) :
  ∀(b:List Nat) (listed:Array Bool) (a:Act) (f:World),Vo Y L far kind fin b listed=true->DC Y L listed->J5 F n P L D far kind E b a f->∀w,I5 f w->wpR F n P Y L D (λj=>o8 3 (kind j)) far Qn (m+b.length) listed a w
 | [],listed,a,f,r,t,h,w,u=>d listed a f r t h w u
 | i::b,listed,a,f,r,t,h,w,u=>by
  simp only[Vo,c8] at r;obtain⟨e,q⟩:=r;simp only[J5] at h;show wpR F n P Y L D _ _ Qn (m+b.length+1) listed a w;by_cases g:kind i<=1
  ·rw[show o8 (kind i) 1=true from Va g,cond_true] at e;obtain⟨o,v,M,N,J⟩:=h.1 g;exact Ag0 C k B e t M N (λy w1 l=>Jv C k B d b _ _ f q y J w1 l) w u
  ·rw[show o8 (kind i) 1=false by cases K:o8 (kind i) 1 with|false=>rfl|true=>exact absurd (Lq K) g,cond_false] at e;have H:j7 Y L listed=[i]:=by simpa using e
   refine⟨λG=>(by rw[H] at G;cases G),λj z=>?_⟩;have A:j=i:=by rw[H] at z;simpa using z
   subst A;refine wpOpIn_mono (λI w' x=>?_) (h.2 (by omega) w u);refine⟨λp=>x.1 ?_,x.2.1,λw1 l=>Jv C k B d b _ I w' q (t.set z) x.2.2 w1 l⟩;have:¬ 3<=kind j:=λh=>by dsimp only at p;rw[Va h] at p;cases p
   omega
def Ub(F:Fence)(n:Nat)(P:Program)(L:Array Oper)(D:Nat->Prop)(far:Nat->Bool)(kind:Nat->Nat)(E:Act->World->Prop)(e:Nat)(post:List Nat):List Nat->Act->World->Prop
 | [],a,c=>∀w,I5 c w->wpOpIn F n P L QF e (λd w'=>I5 w w'/\J5 F n P L D far kind E post d w') a w
 | i::b,a,c=>J5 F n P L D far kind (Ub F n P L D far kind E e post b) [i] a c/\
  (2<=kind i->∀w,I5 c w->wpOpIn F n P L QF e (λd w'=>I5 w w'/\J5 F n P L D far kind E ((i::b)++post) d w') a w)
def Nm(Y:aa2)(L:Array Oper)(far:Nat->Bool)(kind:Nat->Nat)(a:Nat)(post:List Nat):List Nat->Array Bool->Bool
 | [],listed=>(j7 Y L listed==[a])&&NZ Y L far kind post (listed.setIfInBounds a true)
 | i::r,listed=>cond (o8 (kind i) 1) (VU Y L far kind i listed)
   ((j7 Y L listed).contains i&&((j7 Y L listed).all (λj=>x9 j i||x9 j a)&&NZ Y L far kind ((i::r)++post) (listed.setIfInBounds a true)))&&Nm Y L far kind a post r (listed.setIfInBounds i true)
theorem Bi9{kind:Nat->Nat}{y:Act->World->Prop}{J:Nat}{post:List Nat}(R:y5 L=true)(t:∀(j:Nat) (o:Oper) c,L[j]? = some o->o.op≠.defer c)(Q:∀j,L.size<=j->kind j<=1) :
  ∀(k:List Nat) (listed:Array Bool) (a:Act) (l:World),Nm Y L far kind J post k listed=true->DC Y L listed->Ub F n P L D far kind (λa l=>∀w,I5 l w->y a w) J post k a l->∀w,I5 l w->wpR F n P Y L D (λj=>o8 3 (kind j)) far y (post.length+1+k.length) listed a w:=by
 have p:∀(listed:Array Bool) (a:Act) (l:World),(j7 Y L listed).isEmpty=true->DC Y L listed->(∀w,I5 l w->y a w)->∀w,I5 l w->wpR F n P Y L D (λj=>o8 3 (kind j)) far y 0 listed a w:=
  λlisted a l h _ W w u=>⟨by simpa using h,W w u⟩
 intro k
 induction k with
 | nil=>
  intro listed a l A G h w u;simp only[Nm,c8] at A;obtain⟨b,m⟩:=A;have S:j7 Y L listed=[J]:=by simpa using b
  show wpR F n P Y L D _ _ y (post.length+1) listed a w;refine⟨λH=>(by rw[S] at H;cases H),λj q=>?_⟩;have g:j=J:=by rw[S] at q;simpa using q
  subst g;refine wpOpIn_mono (λz w' f=>⟨λ_=>f.1,λ_=>f.1.x,λw1 d=>?_⟩) (h w u);have:=Jv R t Q p post _ z w' m (G.set q) f.2 w1 d;rwa [x7] at this
 | cons i e T=>
  intro listed a l A G h w u;simp only[Nm,c8] at A;obtain⟨b,m⟩:=A;simp only[Ub] at h;obtain⟨M,V⟩:=h;simp only[J5] at M;show wpR F n P Y L D _ _ y (post.length+1+e.length+1) listed a w;by_cases r:kind i<=1
  ·rw[show o8 (kind i) 1=true from Va r,cond_true] at b;obtain⟨o,v,I,X,U⟩:=M.1 r;exact Ag0 R t Q b G I X (λN w1 d=>T _ _ l m N U w1 d) w u
  ·rw[show o8 (kind i) 1=false by cases C:o8 (kind i) 1 with|false=>rfl|true=>exact absurd (Lq C) r,cond_false] at b;simp only[c8,j2,o7] at b;obtain⟨O,B,K⟩:=b;have I:i∈j7 Y L listed:=by simpa using O
   refine⟨λH=>(by rw[H] at I;cases I),λj q=>?_⟩;rcases B j q with C|C
   ·have g:=j1 C;subst g;refine wpOpIn_mono (λz w' f=>?_) (M.2 (by omega) w u);refine⟨λx=>f.1 ?_,f.2.1,λw1 d=>T _ z w' m (G.set q) f.2.2 w1 d⟩;have:¬ 3<=kind j:=λh=>by dsimp only at x;rw[Va h] at x;cases x
    omega
   ·have g:=j1 C;subst g;refine wpOpIn_mono (λz w' f=>⟨λ_=>f.1,λ_=>f.1.x,λw1 d=>?_⟩) (V (by omega) w u);have:=Jv R t Q p ((i::e)++post) _ z w' K (G.set q) f.2 w1 d;rw[x7] at this;rw[show post.length+1+e.length=((i::e)++post).length by rw[k9,x4];omega];exact this
def HM(d:Option Tmp)(a b:Act):Prop:=∀t,d≠some t->b.tmps[t]? = a.tmps[t]?
theorem T3(a:Act)(d:Option Tmp)(v:Value):HM d a (a.put d v):=λt b=>by
 cases d with
 | none=>rfl
 | some d=>
  have:d≠t:=λe=>b (by rw[e])
  simp[af9,this]
theorem Ar4{o:Oper}{a:Act}{w:World}{N:Act->World->Prop}(h:o.wpIn F n P a w N QF):o.wpIn F n P a w (λf w'=>HM o.dst a f/\N f w') QF:=by
 unfold ae8 at *;refine⟨h.1,?_⟩;have h:=h.2;generalize (o.semAt F.round a.eval).run P w=r at *;cases r with
 | ok x w'=>
  cases x<;>simp only[aa6] at h ⊢
  case value=>exact⟨T3 _ _ _,h⟩
  case skip=>exact⟨T3 _ _ _,h⟩
  case defer=>
   refine⟨λt g=>?_,h⟩;exact T3 { a with defers:=_ } o.dst undef t g
  case enter=>exact⟨h.1,ag1 h.2 λe d b=>by
   cases e with
   | returned u=>exact⟨T3 _ _ _,b⟩
   | panicked c=>exact b.elim
   | outgrown=>obtain⟨_,_,h⟩:=b;exact h.elim⟩
  case row=>exact⟨h.1,aj1 h.2 λu d b=>⟨T3 _ _ _,b⟩⟩
  case round=>exact⟨h.1,ag5 h.2 λe d b=>by
   cases e with
   | returned u=>exact⟨T3 _ _ _,b⟩
   | panicked c=>exact b.elim
   | outgrown=>obtain⟨_,_,h⟩:=b;exact h.elim⟩
 | halt x w'=>
  cases x<;>simp only[aa6] at h ⊢
  omega
theorem SM{i:Nat}{o:Oper}(d:L[i]? = some o){a:Act}{w:World}{N:Act->World->Prop}(h:wpOpIn F n P L QF i N a w):wpOpIn F n P L QF i (λc w'=>HM o.dst a c/\N c w') a w:=by
 unfold wpOpIn at *;simp only[d] at h ⊢;split
 ·rename_i b;simp only[b,if_true] at h;exact Ar4 h
 ·rename_i b;simp only[b] at h;exact⟨h.1,T3 _ _ _,h.2⟩
theorem Lv{kind:Nat->Nat}{E:Act->World->Prop}{i:Nat}{o:Oper}(j:L[i]? = some o){a:Act}{k:World}(h:J5 F n P L D far kind (λc w'=>HM o.dst a c->E c w') [i] a k):J5 F n P L D far kind E [i] a k:=by
 simp only[J5] at h ⊢;refine⟨λg=>?_,λg w l=>?_⟩
 ·obtain⟨o',v,b,d,f⟩:=h.1 g;obtain rfl:=aa0 (j.symm.trans b);exact⟨_,v,b,d,f (T3 _ _ _)⟩
 ·exact wpOpIn_mono (λc w' ⟨b,d,e,f⟩=>⟨d,e,f b⟩) (SM j (h.2 g w l))
theorem Tx{id:Nat}{Q:Exit->Act->World->Prop}{kind:Nat->Nat}{ord:List Nat}{a:Act}{w:World}(k:P.follows .mixedOrders=true)(p:y5 L=true)(f:∀(j:Nat) (o:Oper) c,L[j]? = some o->o.op≠.defer c)(i:∀j,L.size<=j->kind j<=1)
  (b:ord.length=L.size) (g:NZ .any L far kind ord (aa9 L.size false)=true) (h:J5 F n P L D far kind (λa d=>∀w,I5 d w->Q .normal a w) ord a w):(ae5 id L true).wpIn F n P Q a w:=by
 refine wpIn_region_any k ?_;rw[<-b,<-x7 ord.length];refine Dy (λ_ _ h=>h) _ _ _ _ (Jv (Qn:=λa w=>Q .normal a w) (m:=0) (fin:=λlisted=>(j7 .any L listed).isEmpty) (E:=λa d=>∀w,I5 d w->Q .normal a w) p f i (λlisted a d h _ l w q=>⟨by simpa using h,l w q⟩) ord _ a w (by rw[x7,b];exact g) (λj o r e=>?_) h _ (I5.refl w));simp only[j6,ab8] at e;split at e<;>cases e
def Ba(F:Fence)(n:Nat)(P:Program)(L:Array Oper)(D:Nat->Prop)(far:Nat->Bool)(kind:Nat->Nat)(E:Act->World->Prop)(fl:List Nat):Nat->List Nat->Act->World->Prop
 | _,[],a,b=>E a b
 | 0,_::_,_,_=>False
 | m+1,i::rest,a,b=>(kind i<=1->∃o v,L[i]? = some o/\YQ F n P L D (qK (kind i) (far i)) b o v a/\Ba F n P L D far kind E fl m rest (a.put o.dst v) b)/\
  (2<=kind i->∀w,I5 b w->wpOpIn F n P L QF i (λc w'=>(kind i=2->I5 w w')/\(far i=true->Hw D w w')/\Ba F n P L D far kind E fl m rest c w') a w/\
   ∀f,okN fl f=true->f∈rest->wpOpIn F n P L QF f (λc w'=>I5 w w'/\Ba F n P L D far kind E fl m (i::rest.erase f) c w') a w)
def Gi(Y:aa2)(L:Array Oper)(far:Nat->Bool)(kind:Nat->Nat)(fl:List Nat):Nat->List Nat->Array Bool->Bool
 | _,[],listed=>(j7 Y L listed).isEmpty
 | 0,_::_,_=>false
 | m+1,i::rest,listed=>cond (o8 (kind i) 1) (VU Y L far kind i listed)
   ((j7 Y L listed).contains i&&((j7 Y L listed).all (λj=>x9 j i||(okN fl j&&okN rest j)) &&
    rest.all (λf=>!(okN fl f&&(j7 Y L listed).contains f)||Gi Y L far kind fl m (i::rest.erase f) (listed.setIfInBounds f true)))) &&
   Gi Y L far kind fl m rest (listed.setIfInBounds i true)
theorem Sw:∀{l:List Nat} {i:Nat},okN l i=true↔i∈l
 | [],i=>by simp[okN]
 | a::r,i=>by
  simp only[okN,o7,x6,Sw (l:=r)];constructor
  ·rintro(h|h)
   ·exact .inl (j1 h)
   ·exact .inr h
  ·rintro(rfl|h)
   ·exact .inl (ai6 _)
   ·exact .inr h
theorem Bi8{kind:Nat->Nat}{C:Act->World->Prop}{fl:List Nat}(Z:y5 L=true)(R:∀(j:Nat) (o:Oper) c,L[j]? = some o->o.op≠.defer c)(X:∀j,L.size<=j->kind j<=1) :
  ∀(m:Nat) (seq:List Nat) (listed:Array Bool) (a:Act) (q:World),Gi Y L far kind fl m seq listed=true->DC Y L listed->Ba F n P L D far kind (λa q=>∀w,I5 q w->C a w) fl m seq a q->∀w,I5 q w->wpR F n P Y L D (λj=>o8 3 (kind j)) far C seq.length listed a w:=by
 intro m
 induction m with
 | zero=>
  intro seq listed a q r z h w y;cases seq with
  | nil=>exact⟨by simpa[Gi] using r,h w y⟩
  | cons i b=>cases r
 | succ m S=>
  intro seq listed a q r z h w y;cases seq with
  | nil=>exact⟨by simpa[Gi] using r,h w y⟩
  | cons i b=>
   simp only[Gi,c8] at r;obtain⟨d,u⟩:=r;simp only[Ba] at h;obtain⟨V,W⟩:=h;show wpR F n P Y L D _ _ C (b.length+1) listed a w;by_cases l:kind i<=1
   ·rw[show o8 (kind i) 1=true from Va l,cond_true] at d;obtain⟨o,v,A,hy,U⟩:=V l;exact Ag0 Z R X d z A hy (λM w1 e=>S _ _ _ q u M U w1 e) w y
   ·rw[show o8 (kind i) 1=false by cases t:o8 (kind i) 1 with|false=>rfl|true=>exact absurd (Lq t) l,cond_false] at d;simp only[c8,j2,o7] at d;obtain⟨N,x,H⟩:=d;have A:i∈j7 Y L listed:=by simpa using N
    obtain⟨J,K⟩:=W (by omega) w y;refine⟨λT=>(by rw[T] at A;cases A),λj B=>?_⟩;rcases x j B with t|⟨t,I⟩
    ·have Q:=j1 t;subst Q;refine wpOpIn_mono (λG w' g=>?_) J;refine⟨λp=>g.1 ?_,g.2.1,λw1 e=>S _ _ G w' u (z.set B) g.2.2 w1 e⟩;have:¬ 3<=kind j:=λh=>by dsimp only at p;rw[Va h] at p;cases p
     omega
    ·have f:j∈b:=Sw.1 I;refine wpOpIn_mono (λG w' g=>⟨λ_=>g.1,λ_=>g.1.x,λw1 e=>?_⟩) (K j t f);have k:=H j f;have O:(j7 Y L listed).contains j=true:=by simpa using B
     rw[t,O] at k;simp only[Bool.and_self,ai0,y7,false_or] at k;have:=S _ _ G w' k (z.set B) g.2 w1 e;rw[x4,ab9 f] at this;have hp:0<b.length:=ad0 f;rwa [show b.length-1+1=b.length by omega] at this
end
section
variable {X R : Type} {r : R} {C : Cfg} {I : X -> (Nat -> Prop) -> (Nat -> Prop) -> World -> Prop} {Γ : Ctx} {Φ : Nat -> Prop} {st : St X} {a : Act} {w : World} {Z : E3} {O : Yh X} {N : Value} {o : Oper}
theorem Ao4{P:Program}{m:Sem Next}{w w1 b:World}{x y:Next}(h:m.run P w = .ok x w1)(k:m.run P w = .ok y b):x=y/\w1=b:=by grind
theorem Ey(w:World)(x:Obj):I5 w (w.alloc x):=⟨⟨λg b=>E7 (w':=w.alloc x) (o:=x) rfl b,by rw[show(w.alloc x).heap=w.heap.push x from rfl];simp⟩,rfl,rfl,rfl⟩
theorem HT{Γ:Ctx}{e:Nat}{ev:Operand->Value}(b:(C.ti e).ok=true)(c:o.op = .alloc e):∃z:Value,(execOp ev o).run C.P w = .ok (.value (.pointer (some ⟨w.heap.size,0,none⟩))) (w.alloc (.cells z.cells e))/\(∀(Γ:Ctx) sh w,CR Γ sh w ((C.ti e).ks.map P3) z.cells)/\∃i,C.P.info? e=some i/\i.zero=some z:=by
 obtain⟨i,z,d,f,_,_⟩:=Cc (Γ:=Γ) (sh:=λ_=>none) (w:=w) b;refine⟨z,?_,λΓ' sh w'=>?_,i,d,f⟩
 ·simp only[execOp,c];simp[ah2,zeroValue,typeInfo,d,f,newVar,newRow]
 ·obtain⟨k,l,g,j,_,h⟩:=Cc (Γ:=Γ') (sh:=sh) (w:=w') b;grind
theorem Ck5{P:Option Nat}{n:Nat}{k:St X->Option R}{next:Act->World->Prop}{Q:Exit->Act->World->Prop}(A:Ask C I Z O N)(a0:Γ.yv=N)(B:VH C o.op=true)(h:opK C Z O o st k=some r)(S:SI C I Γ Φ st a.tmps w)(hN:Nxt C I Γ Φ st.hp w a.defers k r (λa' w'=>I5 w w'->next a' w')) :
  o.wpIn (D6 P) n C.P a w next Q:=by
 refine⟨λ_ _=>trivial,?_⟩;have M:∀c,o.op≠.defer c:=λc e=>by simp[opK,e] at h
 rw[x8 _ _ _ M];unfold VH at B;have add:Vn o.op=false->(∃m x,(execOp a.eval o).run C.P w = .ok (.value m) (w.alloc x))->o.uponIn (D6 P) n C.P a next Q ((execOp a.eval o).run C.P w):=λy ⟨m,x,K⟩=>by
  obtain⟨V,w',Γ',l,H,u,h3,h4⟩:=XH A.hI y h S;have Y:=hN l (a.put o.dst V) w' Γ' Φ H h4 h3 (put_defers _ _ _);rcases u with u|⟨rfl,u⟩
  ·obtain⟨_,rfl⟩:=Ao4 u K;rw[u];exact Y (Ey w x)
  grind
 split at B
 ·rename_i t len parts b;refine add (by rw[b];rfl) ?_;simp only[opK,b] at h;obtain⟨p1,p2⟩:=S.parts parts.toList;cases F:C.stab t with
  | true=>
   simp only[F,cond_true] at h;obtain⟨v,W,hv,m,x,f⟩:=Ib (ps:=parts.map λ(i,x)=>(i,a.eval x)) (sl:=st.sl) (tmps:=a.tmps) S.hr h (by rw[w9];exact p1);refine⟨m,x,?_⟩;simp only[execOp,b];simp[f]
  | false=>
  simp only[F,cond_false] at h;obtain⟨v,H',W,hv,m,x,f⟩:=Gg (ps:=parts.map λ(i,x)=>(i,a.eval x)) (sl:=st.sl) (tmps:=a.tmps) S.hr h (by rw[w9];exact p1);refine⟨m,x,?_⟩;simp only[execOp,b];simp[f]
 ·rename_i e b;refine add (by rw[b];rfl) ?_;by_cases D:(C.ti e).ok=true
  ·obtain⟨z,hr,_⟩:=HT (Γ:=Γ) (ev:=a.eval) (w:=w) D b;exact⟨_,_,hr⟩
  ·simp[opK,b,Vd,D] at h
 ·rename_i t b;refine add (by rw[b];rfl) ?_;simp only[opK,b] at h;obtain⟨v,H',W,hv,m,x,f⟩:=Mn (sl:=st.sl) (tmps:=a.tmps) S.hr h;refine⟨m,x,?_⟩;simp only[execOp,b];simp[f]
 ·rename_i c b;split at B
  ·rename_i g p;simp only[c8,aa4] at B;obtain⟨⟨pf,q⟩,U⟩:=B;simp only[opK,b,p,opnd,Xk,Rd,q,ae2,af2,ac2] at h;split at h
   ·rename_i L;obtain⟨ret,Hc,j,h⟩:=Y6 h;have j:J2 (pf (argX st.hp (c.args.toList.map (opnd C st.sl))))=some (ret,Hc):=by
     cases hx:C.xp g with
     | true=>rw[hx] at j;exact(Z5 j).1
     | false=>rw[hx] at j;exact j
    obtain⟨H,u⟩:=C3 h;obtain⟨hc,Y⟩:=S.list c.args;have key:=CQ (k:=λv l=>k { l with sl:=L0 o.dst v l.sl }) A.hI A.hX S hc q j (ab4.1 L) (by simpa only[o7,c8] using H) u;have J:execOp a.eval o=(do let d <-p9 (a.eval (.func g)) (c.args.map a.eval);invoke d.target d.args):=by simp only[execOp,b,resolve,p]
    have f:(execOp a.eval o).run C.P w=(callFunc g (c.args.map a.eval)).run C.P w:=by
     rw[J];have e:a.eval (.func g) = .func (.func g) #[] #[]:=rfl;rw[e];simp[p9,invoke]
    rw[f];refine key P n o a next Q ?_
    rintro V w' ⟨⟨v,l,Γ',T,k1,k2,G,k4,k5⟩,K⟩;exact hN _ (a.put o.dst V) w' Γ' T k1 k2 ⟨G.hr,G.sr.put (ds:=a.defers) o k4 k5,G.g,G.inv,G.dis⟩ (put_defers _ _ _) K
   ·cases h
  ·cases B
 ·cases B
theorem EA(C:Cfg)(op:Op):(Y3 C op=0/\((∃x,op = .move x\/op = .assign x\/(∃y z,op = .pick x y z)\/∃i,op = .extract x i)\/(∃x,op = .nilCheck x)\/(∃t x d c e,op = .slice t x d c e)\/(∃t x f,op = .fieldAddr t x f)\/(∃t x i,op = .indexAddr t x i)\/(∃t p,op = .build t p)\/∃b t x y q,op = .binOp b t x y q))\/(Y3 C op=1/\Tc C op=true)\/(Y3 C op=2/\VH C op=true)\/Y3 C op=3:=by unfold Y3;grind
theorem Ci0{k:St X->Option R}(J:(∃x,o.op = .move x\/o.op = .assign x\/(∃y z,o.op = .pick x y z)\/∃i,o.op = .extract x i)\/(∃x,o.op = .nilCheck x)\/(∃t x m j n,o.op = .slice t x m j n)\/(∃t x f,o.op = .fieldAddr t x f)\/(∃t x i,o.op = .indexAddr t x i)\/(∃t p,o.op = .build t p)\/∃b t x y q,o.op = .binOp b t x y q)(h:opK C Z O o st k=some r)(S:SI C I Γ Φ st a.tmps w) :
  ∃V d,k d=some r/\(∀w':World,(execOp a.eval o).run C.P w' = .ok (.value V) w')/\SI C I Γ Φ d (a.put o.dst V).tmps w/\Stp C Γ st.hp w noΦ Γ d.hp w noΦ:=by
 rcases J with⟨x,c⟩|⟨x,c⟩|⟨t,x,m,j,n,c⟩|⟨t,x,f,c⟩|⟨t,x,i,c⟩|⟨t,p,c⟩|⟨b,t,x,y,q,c⟩
 ·obtain⟨V,d,D,F,G,H⟩:=Nw (a:=a) (show I9 C o.op=true by rcases c with h|h|⟨_,_,h⟩|⟨_,h⟩<;>rw[h]<;>rfl) h S;refine⟨V,d,D,λw'=>?_,G,H⟩;have e:=F w (Ext.refl w);rcases c with c|c|⟨y,z,c⟩|⟨i,c⟩<;>simp only[execOp,c] at e ⊢
  ·cases e;rfl
  ·cases e;rfl
  ·generalize a.eval x=v at e ⊢;cases v<;>simp[asBool] at e ⊢
   exact e
  ·unfold ai1 at e ⊢;split at e
   ·split at e
    ·cases e;simp_all
    ·cases e
   ·cases e
 ·simp only[opK,c] at h;split at h
  ·rename_i l;have g:=(S.opnd x).1;refine⟨a.eval x,_,h,λw'=>?_,S.put g (S.opnd x).2,Stp.refl S.hr⟩;simp only[execOp,c];unfold Ak7 at l;split at l
   ·rename_i c;rw[c] at g;obtain⟨u,e⟩:=g.inv_ptr;simp_all
   ·rename_i c;rw[c] at g;obtain⟨u,e⟩:=g.inv_sp;simp_all
   ·rename_i c;rw[c] at g;obtain⟨A,B,e⟩:=g.inv_fn;simp_all
   ·rename_i c;rw[c] at g;obtain⟨A,B,e⟩:=g.inv_fnr;simp_all
   grind
  ·cases h
 ·exact YJ (a:=a) c h S
 ·exact VK (a:=a) c h S
 ·exact WK (a:=a) c h S
 ·exact UH (a:=a) c h S
 ·exact A09 (a:=a) c h S
def Bf4(C:Cfg)(I:X->(Nat->Prop)->(Nat->Prop)->World->Prop)(Γ:Ctx)(Φ:Nat->Prop)(H:List Blk)(w:World)(ds:List Deferred)(k:St X->Option R)(r:R)(q:Prop)(next:Act->World->Prop):Prop:=
 ∀b d w' Γ' c,k b=some r->Stp C Γ H w Φ Γ' b.hp w' c->SI C I Γ' c b d.tmps w'->d.defers=ds->(q->∀g,Γ'.St g->Γ.St g)->next d w'
theorem Nxt.q{H:List Blk}{ds:List Deferred}{k:St X->Option R}{q:Prop}{next:Act->World->Prop}(h:Nxt C I Γ Φ H w ds k r next):Bf4 C I Γ Φ H w ds k r q next:=λst' a' w' Γ' Φ' h1 h2 h3 h4 _=>h st' a' w' Γ' Φ' h1 h2 h3 h4
theorem Bp{ro:Option Nat}{n:Nat}{all:Array Oper}{E:Act->World->Prop}{D:Nat->Prop}{far:Nat->Bool}(A:Ask C I Z O N):∀(c:List Nat) {Γ:Ctx} {Φ:Nat->Prop} {st:St X} {a:Act} {w:World} {k:St X->Option R},(∀i∈c,i<all.size/\far i=false)->Γ.yv=N->
  Bn C Z O all (c.filterMap (all[·]?)) st k=some r->SI C I Γ Φ st a.tmps w->Bf4 C I Γ Φ st.hp w a.defers k r (∀j∈c,E2 C all j<=1) E->J5 (D6 ro) n C.P all D far (E2 C all) E c a w
 | [],Γ,Φ,st,a,w,k,f,hyv,h,S,hN=>hN st a w Γ Φ h (Stp.refl S.hr) S rfl (λ_ _ h=>h)
 | i::c,Γ,Φ,st,a,w,k,f,hyv,h,S,hN=>by
  have a8:=(f i (by simp)).1;have L:=(f i (by simp)).2;obtain⟨o,ho⟩:∃o,all[i]? = some o:=⟨all[i],y9 a8⟩
  have u:∀j∈c,j<all.size/\far j=false:=λj hj=>f j (by simp[hj])
  rw[af6,ho] at h;have a0:E2 C all i=Y3 C o.op:=by simp only[E2,ho]
  have run:∀{st:St X},o0 o (yielded all a.tmps)=true->SI C I Γ Φ st a.tmps w->Bf4 C I Γ Φ st.hp w a.defers k r (∀j∈i::c,E2 C all j<=1) E->opK C Z O o st (λd=>Bn C Z O all (c.filterMap (all[·]?)) d k)=some r->J5 (D6 ro) n C.P all D far (E2 C all) E (i::c) a w:=fun {st} m S hN h=>by
   have a3:Y3 C o.op<=1->∃V d,Bn C Z O all (c.filterMap (all[·]?)) d k=some r/\YQ (D6 ro) n C.P all D (qK (Y3 C o.op) (far i)) w o V a/\SI C I Γ Φ d (a.put o.dst V).tmps w/\Stp C Γ st.hp w Φ Γ d.hp w Φ:=λY=>by
    rcases EA C o.op with⟨Q,hb⟩|⟨Q,x⟩|⟨Q,_⟩|Q
    ·obtain⟨V,d,F,z,G,H⟩:=Ci0 (a:=a) hb h S;refine⟨V,d,F,⟨λ_ _ _ _=>trivial,.inl ⟨m,λw' _=>?_⟩⟩,G,H.lift Φ⟩;unfold ab1;rw[z w'];exact⟨rfl,rfl⟩
    ·rw[Q];simp only[Tc,o7] at x;rcases x with x|x
     ·obtain⟨V,d,F,z,G,H⟩:=Nw (a:=a) x h S;refine⟨V,d,F,⟨λ_ _ _ _=>trivial,.inl ⟨m,λw' a1=>?_⟩⟩,G,H.lift Φ⟩;unfold ab1;rw[z w' (a1.1 (by rw[L];rfl)).1.1];exact⟨rfl,rfl⟩
     ·obtain⟨V,d,F,z,G,H⟩:=A81 (ro:=ro) (n:=n) (a:=a) A.hI A.hX x h S;exact⟨V,d,F,⟨λ_ _ _ _=>trivial,.inl ⟨m,λw' a1=>z w' (a1.1 (by rw[L];rfl))⟩⟩,G,H.lift Φ⟩
    all_goals omega
   simp only[J5];rw[a0];refine⟨λY=>?_,λa9 w1 J=>?_⟩
   ·obtain⟨V,d,F,z,G,H⟩:=a3 Y;exact⟨o,V,ho,z,Bp A c u hyv F G λp W w2 q t k1 k2 k3 k4 k5=>hN p W w2 q t k1 (H.trans k2) k3 (k4.trans (put_defers _ _ _)) λx=>k5 λj hj=>x j (by simp[hj])⟩
   ·obtain⟨S1,M⟩:=S.like A.hI J;unfold wpOpIn;simp only[ho,m,if_true];rcases EA C o.op with⟨Q,_⟩|⟨Q,_⟩|⟨Q,hx⟩|Q
    ·omega
    ·omega
    ·exact Ck5 A hyv hx h S1 λd a' w' Γ' Φ' F z G H hl=>⟨λ_=>hl,λe=>(by rw[L] at e;cases e),Bp A c u (z.yv.trans hyv) F G λp W w2 q t k1 k2 k3 k4 _=>hN p W w2 q t k1 (M.trans (z.trans k2)) k3 (k4.trans H) λx=>absurd (x i (by simp)) (by rw[a0];omega)⟩
    ·exact QP A hyv h S1 λd a' w' Γ' Φ' F z G H=>⟨λe=>by omega,λe=>(by rw[L] at e;cases e),Bp A c u (z.yv.trans hyv) F G λp W w2 q t k1 k2 k3 k4 _=>hN p W w2 q t k1 (M.trans (z.trans k2)) k3 (k4.trans H) λx=>absurd (x i (by simp)) (by rw[a0];omega)⟩
  have skip:∀{st:St X},o0 o (yielded all a.tmps)=false->SI C I Γ Φ st a.tmps w->Bf4 C I Γ Φ st.hp w a.defers k r (∀j∈i::c,E2 C all j<=1) E->Bn C Z O all (c.filterMap (all[·]?)) { st with sl:=L0 o.dst (.tup []) st.sl } k=some r->J5 (D6 ro) n C.P all D far (E2 C all) E (i::c) a w:=fun {st} m S hN h=>by
   simp only[J5];have go:∀{w1:World},I5 w w1->J5 (D6 ro) n C.P all D far (E2 C all) E c (a.put o.dst undef) w1:=fun {w1} J=>by
    obtain⟨S1,M⟩:=S.like A.hI J;exact Bp A c (st:={ st with sl:=L0 o.dst (.tup []) st.sl }) u hyv h (S1.put (o:=o) V6 (by simp[PV.nms,C6])) λp W w2 q t k1 k2 k3 k4 k5=>hN p W w2 q t k1 (M.trans k2) k3 (k4.trans (put_defers _ _ _)) λx=>k5 λj hj=>x j (by simp[hj])
   refine⟨λY=>⟨o,undef,ho,⟨λ_ _ _ _=>trivial,.inr ⟨m,rfl⟩⟩,go (I5.refl w)⟩,λa9 w1 J=>?_⟩;unfold wpOpIn;simp only[ho,m,y7,if_false];exact⟨λ_ _=>trivial,λ_=>I5.refl w1,λ_=>(I5.refl w1).x,go J⟩
  simp only[Bn] at h;split at h
  ·rename_i hg;exact run (by simp[o0,hg]) S hN h
  ·rename_i j T hg;split at h
   ·rename_i g a4;have a6:∀b,a.tmps[g]? = some (.bool b)->yielded all a.tmps j=some b:=λb e=>by simp[yielded,a4,e]
    have a5:(∀b,a.tmps[g]?≠some (.bool b))->yielded all a.tmps j=none:=λb1=>by
     simp only[yielded,a4,ad6]
    have l:∀v,st.sl.getD g (.tup [])=v->∀V,a.tmps[g]? = some V->VP Γ (A1 st.hp) w v V:=λv hv V hV=>by
     have f:g<st.sl.length:=by rw[<-S.sr.size];exact(j8.1 hV).1
     obtain⟨U,e1,e2⟩:=S.sr.slot g f;grind
    split at h
    ·rename_i b hb;have f:g<st.sl.length:=s8 λb0=>by grind
     obtain⟨U,e1,e2⟩:=S.sr.slot g f;have hU:=(l _ hb U e1).inv_bool;subst hU;have y:yielded all a.tmps j=some b:=a6 b e1;have S':SI C I Γ Φ { st with sl:=st.sl.set g (.s (.bool b)) } a.tmps w:=⟨S.hr,S.sr.set g (l _ hb) (by simp[PV.nms]),S.g,S.inv,S.dis⟩
     have P:(if (b==T)=true then opK C Z O o { st with sl:=st.sl.set g (.s (.bool b)) } (λd=>Bn C Z O all (c.filterMap (all[·]?)) d k) else Bn C Z O all (c.filterMap (all[·]?)) { st with sl:=L0 o.dst (.tup []) (st.sl.set g (.s (.bool b))) } k)=some r:=by
      cases b<;>exact h
     by_cases K:b=T
     ·rw[if_pos (by simpa using K)] at P;exact run (by simp[o0,hg,y,K]) S' hN P
     ·rw[if_neg (by simpa using K)] at P;exact skip (by simp[o0,hg,y,K]) S' hN P
    ·rename_i hb;have y:yielded all a.tmps j=none:=a5 λb a7=>by
      obtain⟨B,e,_⟩:=(l _ hb _ a7).inv_tup;cases e
     exact skip (by simp[o0,hg,y]) S hN h
    grind
   ·cases h
def Ck3:Op->Bool
 | .defer _=>false
 | _=>true
def Q3:Option (List Nat × List Nat)->Nat->Bool
 | none,_=>false
 | some f,i=>okN f.1 i
def Bq8(C:Cfg)(c:Option (List Nat × List Nat))(b:Array Oper):Bool:=
 y5 b&&(b.toList.all (λo=>Ck3 o.op)&&(x9 (Oq C b.toList).length b.size&&((Oq C b.toList).all (λi=>o8 (i+1) b.size)&&NZ .any b (Q3 c) (E2 C b) (Oq C b.toList) (aa9 b.size false))))
def Ws(o:Oper):List Nat:=o.op.operands.toList.filterMap λx=>match x with | .tmp t=>some t|_=>none
def Ft(b:Array Oper)(f:Nat)(c:List Nat):Bool:=match b[f]? with
 | some e=>(match e.dst with|some _=>true|none=>false)&&c.all λi=>match b[i]? with
  | some o=>(match o.dst with|some d=>!(Ws e).contains d&&!(e.dst==some d)|none=>true)
  | none=>false
 | none=>false
def Ao0(C:Cfg)(d:Option (List Nat × List Nat))(b:Array Oper)(c:Nat):Bool:=
 y5 b&&(b.toList.all (λo=>Ck3 o.op)&&(x9 (R1 C b++(Fu C b c++c::Bz C b c)).length b.size&&((R1 C b++(Fu C b c++c::Bz C b c)).all (λi=>o8 (i+1) b.size) &&
  (Ft b c (Fu C b c)&&(x9 (E2 C b c) 2&&Vo .any b (Q3 d) (E2 C b) (Nm .any b (Q3 d) (E2 C b) c (Bz C b c) (Fu C b c)) (R1 C b) (aa9 b.size false))))))
def QE:List Nat->Bool
 | []=>true
 | a::r=>!(okN r a)&&QE r
def Bh2(b:Array Oper)(fl seq:List Nat):Bool:=fl.all λf=>match b[f]? with
 | some c=>seq.all λi=>x9 i f||(match b[i]? with
  | some d=>(match d.dst with|some q=>!(Ws c).contains q&&!(c.dst==some q)|none=>true)
  | none=>false)
 | none=>false
def Ao1(C:Cfg)(c:Option (List Nat × List Nat))(b:Array Oper)(fl:List Nat):Bool:=
 y5 b&&(b.toList.all (λo=>Ck3 o.op)&&(x9 (R1 C b++O0 C b).length b.size&&((R1 C b++O0 C b).all (λi=>o8 (i+1) b.size) &&
  (Bh2 b fl (O0 C b)&&(fl.all (λf=>x9 (E2 C b f) 2)&&(QE (O0 C b)&&Vo .any b (Q3 c) (E2 C b) (Gi .any b (Q3 c) (E2 C b) fl (O0 C b).length (O0 C b)) (R1 C b) (aa9 b.size false)))))))
def An9(C:Cfg)(id:Nat)(b:Array Oper):Bool:=match C.rowR id with
 | none=>match C.rowsR id with
  | none=>Bq8 C (C.farR id) b
  | some fl=>Ao1 C (C.farR id) b fl
 | some i=>o8 b.size i||Ao0 C (C.farR id) b i
def R9(C:Cfg)(c:Bool):Code->Bool
 | .region id e d=>!d||An9 C id e
 | .seq a b=>R9 C c a&&R9 C c b
 | .cond _ a b=>R9 C c a&&R9 C c b
 | .block _ a=>R9 C c a
 | .loop a=>R9 C c a
 | .scope a=>R9 C c a
 | .rangeFunc _ _ a b=>R9 C c a&&R9 C c b
 | _=>true
def Bj4(C:Cfg)(c:Code):Bool:=R9 C true c
def DX(Γ:Ctx)(w:World)(c:Option (List Nat × List Nat)):Nat->Prop:=λg=>w.heap.size<=g\/∃f b,c=some f/\okN f.2 b=true/\Γ.nm b=some g
theorem Om{P:Program}{t g o:Nat}{d:TypeDesc}{i:TypeInfo}{w l:World}{V:Value}(u:P.underlying t=some d)(F:P.info? t=some i)(k:0<i.size)(D:l.heap[g]? = w.heap[g]?)(B:∀j,j<i.size->∃U,w.cell? ⟨g,o+j,none⟩=some U)
  (h:(loadVar t ⟨g,o,none⟩).run P w = .ok V w):(loadVar t ⟨g,o,none⟩).run P l = .ok V l:=by
 let b:Nat->Value:=λj=>(w.cell? ⟨g,o+j,none⟩).getD undef
 have c:∀j,j<i.size->w.cell? ⟨g,o+j,none⟩=some (b j):=λj G=>by obtain⟨U,e⟩:=B j G;simp[b,e]
 have run:∀W:World,(∀j,W.cell? ⟨g,j,none⟩=w.cell? ⟨g,j,none⟩)->(loadVar t ⟨g,o,none⟩).run P W = .ok (if Fp d=true then .agg ((ah8 i.size).map b).toArray else b 0) W:=λW q=>by
  by_cases m:Fp d=true
  ·have f:=run_loadCells_list (P:=P) W ⟨g,o,none⟩ ((ah8 i.size).map b) (λj v x=>by
    rw[J9,q];simp only[aa1,Option.map_eq_some_iff] at x;obtain⟨a,y,z⟩:=x;obtain⟨A,p⟩:=o5.1 y;simp at A p;subst p z;exact c j (by omega))
   simp only[p7,List.length_range] at f;simp[loadVar,Et u,m,sizeOf,typeInfo,F,f]
  ·have n:=c 0 k;rw[Nat.add_zero] at n;simp only[Bool.not_eq_true] at m;simp[loadVar,Et u,m,q,n]
 rw[run w λ_=>rfl] at h;rw[run l λj=>by simp only[af5,D]];simp only[ac5,and_true] at h ⊢;exact h
section
variable {Y : Ctx} {L : List Blk} {W : World} {J : Nat -> Prop}
theorem A33{f:List Nat × List Nat}{b g:Nat}{cells:List PV}(l:HR Y L W)(q:Stp C Y L W J Γ st.hp w Φ)(d:Cj8 C (L.getD b .dead)=true)(p:okN f.2 b=false)(j:Γ.nm b=some g):¬DX Y W (some f) g:=by
 have h:b<L.length:=s8 λk=>by
  rw[j9,List.getElem?_eq_none (by omega)] at d;cases d
 have i:Fl C (A1 L b):=by
  rw[j9,c9 h,ah1] at d;unfold A1;rw[c9 h];cases m:L[b] with
  | box c=>simp[Blk.shp,Fl]
  | arr v t u n=>rw[m] at d;exact d
  | _=>rw[m] at d;cases d
 have e:=(q.keep b h i).1;rw[e] at j;rintro(k|⟨f',b',rfl',hb',hg'⟩)
 ·have:=(l.lt b g j).2.1;omega
 ·cases rfl';have:=l.inj b b' g j hg';subst this;rw[p] at hb';cases hb'
theorem Bl0{f:List Nat × List Nat}{p:Bool}{t:Nat}{x:Operand}{V:Value}{w2:World}{k:St X->Option R}(G:o.op = .load t x)(l:Xs C f p L st.hp st.sl o=true)(b1:p=true->∀g,Γ.St g->Y.St g)(h:opK C Z O o st k=some r)(S:SI C I Γ Φ st a.tmps w)(hF:HR Y L W)(hs:Stp C Y L W J Γ st.hp w Φ)
  (hl:Hw (DX Y W (some f)) w w2) (K:(execOp a.eval o).run C.P w = .ok (.value V) w):(execOp a.eval o).run C.P w2 = .ok (.value V) w2:=by
 unfold Xs at l;rw[G] at l;simp only at l;split at l
 ·rename_i b i off hx;simp only[c8,v8] at l;obtain⟨_,h1,h2,h3⟩:=l;have m:=(S.opnd x).1;rw[hx] at m;obtain⟨g,q,H,hA,P,B⟩:∃g q,Γ.nm b=some g/\a.eval x = .pointer (some ⟨g,q,none⟩)/\(C.ti t).ok=true/\∀j,j<(C.ti t).ks.length->∃U,w.cell? ⟨g,q+j,none⟩=some U:=by
   rw[j9] at h2;cases Q:st.hp[b]? with
   | none=>rw[Q] at h2;cases h2
   | some y=>
    rw[Q] at h2;cases y with
    | box cells=>
     obtain⟨g,H,hc,_⟩:=S.hr.box (C:=C) Q;simp only[opK,G,hx,Ol,Q] at h;split at h
     ·rename_i a0;subst a0;obtain⟨u,_⟩:=C3 h;have a1:=QN u;refine⟨g,off,H,?_,by simp only[okP,c8] at u;exact u.1,λj hj=>?_⟩
      ·generalize a.eval x=A at m;cases m with
       | ptrA _ _ _ g' v e sz n h' c=>simp[A1,Q,Blk.shp] at h'
       | ptrB _ _ g' h' c=>rw[H] at c;cases c;rfl
      ·obtain⟨U,e,_⟩:=hc (off+j) (a1 j hj);exact⟨U,by simpa using e⟩
     ·cases h
    | arr v e sz F=>
     simp only[opK,G,hx,Ol,Q] at h;have a5:∀q,(¬(v=true/\F=[]))->q+(C.ti t).ks.length<=F.length*sz->(∀g,Γ.nm b=some g->a.eval x = .pointer (some ⟨g,q,none⟩))->(C.ti t).ok=true->∃g q,Γ.nm b=some g/\a.eval x = .pointer (some ⟨g,q,none⟩)/\(C.ti t).ok=true/\∀j,j<(C.ti t).ks.length->∃U,w.cell? ⟨g,q+j,none⟩=some U:=λq b0 hq hA P=>by
      obtain⟨g,a4,H,hh,a3,_⟩:=S.hr.arr' Q b0;refine⟨g,q,H,hA g H,P,λj hj=>?_⟩;have a1:q+j<a4.size:=by omega
      exact⟨a4[q+j],by simp[af5,hh,a1]⟩
     have hA:∀g,Γ.nm b=some g->a.eval x = .pointer (some ⟨g,i*sz+off,none⟩):=λg H=>by
      generalize a.eval x=A at m;cases m with
      | ptrA _ _ _ g' v' e' b4 n h' c=>
       obtain⟨rfl,rfl,rfl,rfl⟩:=K6 Q h';rw[H] at c;cases c;rfl
      | ptrB _ _ g' h' c=>simp[A1,Q,Blk.shp] at h'
     split at h
     ·rename_i a9;obtain⟨u,_⟩:=C3 h;simp only[c8,decide_eq_true_eq] at u;refine a5 _ (by rintro⟨_,rfl⟩;simp at u) ?_ hA (by have:=u.2;simp only[okS,c8] at this;exact this.1.1);have:(i+1)*sz<=F.length*sz:=ab0 sz u.1;rw[ac7,Nat.one_mul] at this;omega
     ·split at h
      ·rename_i a0;obtain⟨rfl,rfl⟩:=a0;obtain⟨u,_⟩:=C3 h;simp only[c8,decide_eq_true_eq] at u;have T:(C.ti t).ok=true:=by have:=u.2;simp only[okS,c8] at this;exact this.1.1
       obtain⟨_,_,_,_,_,_,a3,_,D,_,_,M⟩:=Au T;refine a5 _ (by rintro⟨_,rfl⟩;have:=u.1;rw[List.length_nil,Nat.zero_mul] at this;omega) (by omega) hA T
      ·cases h
    | _=>cases h2
  have a2:=A33 (f:=f) (cells:=[]) hF hs h1 h3 H;have hh:w2.heap[g]? = w.heap[g]?:=hl.1.1 g (S.hr.lt b g H).2.1 a2;simp only[execOp,G,hA,ai5,ah5,af0,af1,ab2] at K ⊢;cases hv:(loadVar t ⟨g,q,none⟩).run C.P w with
  | halt e w'=>rw[hv] at K;simp at K
  | ok V' w'=>
   rw[hv] at K;simp only[ac5,ag9] at K;obtain⟨rfl,rfl⟩:=K;obtain⟨i,d,z,hi,hd,_,a3,_,D,_,_,M⟩:=Au P;rw[Om hd hi D hh (λj hj=>B j (by omega)) hv]
 ·rename_i F i off hx;simp only[c8] at l;have m:=(S.opnd x).1;rw[hx] at m;have a8:=m.inv_s;simp only[opK,G,hx,Ol] at h;obtain⟨u,_⟩:=C3 h;simp only[okS,c8,decide_eq_true_eq] at u;obtain⟨hi,⟨P,a9⟩,_⟩:=u;obtain⟨g,q,hA,a7,B⟩:∃g q,a.eval x = .pointer (some ⟨g,q,none⟩)/\Γ.St g/\∀j,j<(C.ti t).ks.length->∃U,w.cell? ⟨g,q+j,none⟩=some U:=by
   generalize a.eval x=A at a8;cases a8 with
   | sp _ _ _ g b2 sz Vs H hl hc hv=>
    refine⟨g,_,rfl,H,λj hj=>⟨Vs i (off+j),?_⟩⟩;have M:(F.getD i []).length=(F[i]).length:=by rw[j9,c9 hi,ah1]
    have:=hc i hi (off+j) (by omega);rw[Nat.add_assoc];exact this
  have a6:=b1 l.2 g a7;have a2:¬DX Y W (some f) g:=by
   rintro(b3|⟨f',b',_,_,c⟩)
   ·have:=hF.stlt g a6;omega
   ·exact(hF.lt b' g c).2.2 a6
  have hh:w2.heap[g]? = w.heap[g]?:=hl.1.1 g (S.hr.stlt g a7) a2;simp only[execOp,G,hA,ai5,ah5,af0,af1,ab2] at K ⊢;cases hv:(loadVar t ⟨g,q,none⟩).run C.P w with
  | halt e w'=>rw[hv] at K;simp at K
  | ok V' w'=>
   rw[hv] at K;simp only[ac5,ag9] at K;obtain⟨rfl,rfl⟩:=K;obtain⟨i,d,z,hi,hd,_,a3,_,D,_,_,M⟩:=Au P;rw[Om hd hi D hh (λj hj=>B j (by omega)) hv]
 ·cases l
theorem A34{f:List Nat × List Nat}{p:Bool}{t:Nat}{x y:Operand}{k:St X->Option R}(q:o.op = .store t x y)(d:Xs C f p L st.hp st.sl o=true)(h:opK C Z O o st k=some r)(S:SI C I Γ Φ st a.tmps w)(hs:Stp C Y L W J Γ st.hp w Φ) :
  ∃w',(execOp a.eval o).run C.P w = .ok .skip w'/\Hw (DX Y W (some f)) w w':=by
 unfold Xs at d;rw[q] at d;simp only at d;split at d
 ·rename_i b off hx;simp only[c8,o7] at d;obtain⟨_,B,D⟩:=d;obtain⟨cells,V⟩:∃cells,st.hp[b]? = some (.box cells):=by
   rw[j9] at B;cases he:st.hp[b]? with
   | none=>rw[he] at B;cases B
   | some y=>
    rw[he] at B;cases y with
    | box c=>exact⟨c,rfl⟩
    | _=>cases B
  obtain⟨g,a8,e,hg,hh,G,_,_⟩:=S.hr.box' V;have hA:a.eval x = .pointer (some ⟨g,off,none⟩):=by
   have T:=(S.opnd x).1;rw[hx] at T;generalize a.eval x=A at T;cases T with
   | ptrA _ _ _ K v e sz n h' m=>simp[A1,V,Blk.shp] at h'
   | ptrB _ _ K h' m=>rw[hg] at m;cases m;rfl
  simp only[opK,q,hx,Qg,V,if_true] at h;split at h
  ·rename_i hc;obtain⟨a6,i,H⟩:=hc;obtain⟨h4,_⟩:=C3 h;simp only[decide_eq_true_eq] at h4;obtain⟨i0,hi,a5,a7⟩:=I8 a6;have hv:=(S.opnd y).1;have a4:(opnd C st.sl y).cells≠[]:=by intro e;rw[e] at i;simp at i;omega
   have z:=hv.cells' a4;have F:(opnd C st.sl y).cells.length=(a.eval y).cells.toList.length:=by simpa using z.1.symm
   have a1:∀j (h:j<(opnd C st.sl y).cells.length),∃U,(a.eval y).cells.toList[j]? = some U/\VP Γ (A1 st.hp) w ((opnd C st.sl y).cells[j]) U:=λj hj=>by
    obtain⟨U,e,k⟩:=z.2 j hj;grind
   have M:=Au2 F H a1;have Q:(a.eval y).cells.size=i0.size:=by rw[z.1,i,a5]
   obtain⟨w',r1,r2,r3,r4,r5,r6,r7,r8⟩:=J3 (P:=C.P) (o:=off) hh (vs:=(a.eval y).cells.toList) (by rw[<-F,i,G];exact h4) M;have l:=Dt hi Q r1;refine⟨w',?_,⟨λK m a3=>r3 K λe=>a3 ?_,by omega⟩,r5,r6,r7⟩
   ·simp only[execOp,q,hA];simp only[af0] at l ⊢;cases hq:(Instr.storeAt t (.pointer (some ⟨g,off,none⟩)) (a.eval y)).run C.P w with
    | halt e w'=>rw[hq] at l;simp[ab2] at l
    | ok u w2=>
     rw[hq] at l;simp only[ab2,af1,ac5,true_and] at l;rw[l];rfl
   ·subst e;rcases hs.own b _ hg with⟨a9,a0⟩|a2
    ·rcases D with D|D
     ·exact .inr ⟨f,b,rfl,D,a0⟩
     ·have:=Lq D;omega
    ·exact .inl a2
  ·cases h
 ·cases d
def unb:Blk->Blk | .box _=>.dead | .mp _=>.dead|b=>b
def nob(H:List Blk):List Blk:=H.map unb
theorem Nv(H:List Blk)(b:Nat):(nob H)[b]? = (H[b]?).map unb:=aa1 ..
theorem A30(H:List Blk):∀v:PV,Cz (nob H) v=Cz H v
 | .fl b=>by simp only[Cz,Nv];cases H[b]? with|none=>rfl|some x=>cases x<;>rfl
 | .vw b i n=>by simp only[Cz,Nv];cases H[b]? with|none=>rfl|some x=>cases x<;>rfl
 | .s v=>by cases v<;>rfl
 | .nsl | .ptr _ _ _ | .fnr _ _ _ | .it _ | .yd | .agg _ | .tup _ | .bad=>rfl
theorem Bb9(n:Nat)(H:List Blk):∀v:PV,Aq n (nob H) v=Aq n H v
 | .fl b=>by simp only[Aq,Nv];cases H[b]? with|none=>rfl|some x=>cases x<;>rfl
 | .vw b i m=>by simp only[Aq,Nv];cases H[b]? with|none=>rfl|some x=>cases x<;>rfl
 | .s v=>by cases v<;>rfl
 | .nsl | .ptr _ _ _ | .fnr _ _ _ | .it _ | .yd | .agg _ | .tup _ | .bad=>rfl
theorem Ak6(H:List Blk)(v:PV):Mr (nob H) v=Mr H v:=by
 cases v with
 | s x=>cases x<;>rfl
 | _=>unfold Mr;exact A30 H _
def Rb(H:List Blk)(b:Nat):Bool:=PK (H.getD b .dead)
theorem CH{H:List Blk}{b:Nat}{v:Bool}{e d:Nat}{c:List (List SV)}(h:H[b]? = some (.arr v e d c)):Rb H b=false:=by simp[Rb,h,PK]
theorem Bb8{n:Nat}{H:List Blk}{v:PV}(h:Aq n H v=true):∀c∈v.nms,Rb H c=false:=by
 intro c d;cases v with
 | fl b=>
  obtain rfl:c=b:=by simpa[PV.nms] using d
  simp only[Aq] at h;split at h
  ·rename_i e;exact CH e
  ·cases h
 | vw b i m=>
  obtain rfl:c=b:=by simpa[PV.nms] using d
  simp only[Aq] at h;split at h
  ·rename_i e;exact CH e
  ·cases h
 | s x=>simp[PV.nms] at d
 | nsl=>simp[PV.nms] at d
 | _=>simp[Aq] at h
theorem TR{H:List Blk}{t:Nat}{sl:List PV}{s x:PV}{k:PV->List PV->List Blk->Option R}(h:Dg C t sl s x H k=some r) :
  (∃u,Dg C t sl s x (nob H) (λ_ _ _=>some ())=some u)/\(∀c∈s.nms,Rb H c=false)/\∀c∈x.nms,Rb H c=false:=by
 unfold Dg at h ⊢;simp only[Bb9,Ak6,Nv];split at h
 ·split at h
  ·rename_i d;rw[if_pos d];simp only[c8] at d;have i:=Bb8 d.2;split at h
   ·rename_i l p;split at h
    ·obtain⟨e,_⟩:=C3 h;exact⟨⟨(),by simp only[need,e];rfl⟩,by simp[PV.nms],i⟩
    ·split at h
     ·rename_i g;obtain⟨e,_⟩:=C3 h;exact⟨⟨(),by simp only[need,e,g,if_true];rfl⟩,by simp[PV.nms],i⟩
     ·cases h
    ·rename_i b;split at h
     ·rename_i v n q m j;split at h
      ·rename_i f;obtain⟨e,_⟩:=C3 h;refine⟨⟨(),by simp only[j,v7,unb,if_pos f,need,e];rfl⟩,λc f=>?_,i⟩;obtain rfl:c=b:=by simpa[PV.nms] using f
       exact CH j
      ·cases h
     ·cases h
    ·cases h
   ·cases h
  ·cases h
 ·cases h
def A80(Γ:Ctx)(H:List Blk):Ctx:={ Γ with nm:=λb=>if Rb H b then none else Γ.nm b }
theorem So(Γ:Ctx)(H:List Blk)(w:World):V8 Γ (A1 H) w (A80 Γ H) (A1 (nob H)) w (λb=>Rb H b=false):=
 ⟨λ_ _=>rfl,λ_ h=>h,λb d=>by simp only[A80];rw[d];rfl,λb d=>by
  simp only[A1,Nv];simp only[Rb,j9] at d;cases e:H[b]? with
  | none=>rfl
  | some x=>rw[e] at d;cases x with
   | box c=>cases d
   | mp c=>cases d
   | _=>rfl,λ_ _ _ _=>rfl,rfl⟩
theorem Ch0{Γ:Ctx}{w:World}{H:List Blk}(i:HR Γ H w):HR (A80 Γ H) (nob H) w:=by
 have d:∀b g,(A80 Γ H).nm b=some g->Rb H b=false/\Γ.nm b=some g:=λb g h=>by
  simp only[A80] at h;split at h
  ·cases h
  ·rename_i l;exact⟨by simpa using l,h⟩
 refine⟨λb m g n p=>i.inj b m g (d b g n).2 (d m g p).2,λb g h=>by have:=i.lt b g (d b g h).2;exact⟨by simpa[nob] using this.1,this.2⟩,i.stlt,λb k c f=>?_,λb k=>?_⟩
 ·simp only[nob,j0] at f;cases j:H[b]'(by simpa[nob] using k)<;>rw[j] at f<;>simp[unb,Blk.nms] at f
 ·have e:b<H.length:=by simpa[nob] using k
  have:=i.blk b e;simp only[nob,j0];cases j:H[b] with
  | box c=>trivial
  | mp c=>trivial
  | _=>
   rw[j] at this;have l:Rb H b=false:=by simp[Rb,e,j,PK]
   exact this.mono (So Γ H w) ((So Γ H w).nm b l) (λ_ _=>rfl) (λc f=>by simp[Blk.nms] at f)
theorem Af7{f:List Nat × List Nat}{c:Call}{k:St X->Option R}(l:o.op = .call c)(j:c.callee = .builtin .append)(M:∀b,b<L.length->okN f.2 b=true\/Rb st.hp b=true)(h:opK C Z O o st k=some r)(S:SI C I Γ Φ st a.tmps w)(hF:HR Y L W)(U:Stp C Y L W J Γ st.hp w Φ) :
  ∃V w',(execOp a.eval o).run C.P w = .ok (.value V) w'/\Hw (DX Y W (some f)) w w':=by
 have key:∀(H:List Nat) (args:List PV),c.argTypes.toList=H->c.args.toList.map (opnd C st.sl)=args->Ce C .append H args st (λv p=>k { p with sl:=L0 o.dst v p.sl })=some r->
   ∃V w',(execOp a.eval o).run C.P w = .ok (.value V) w'/\Hw (DX Y W (some f)) w w':=by
  intro H args F e h;unfold Ce at h;dsimp only at h;split at h
  ·contradiction
  ·rename_i t u s x _;obtain⟨s0,x0,G,rfl,rfl⟩:=TS e;have n:c.argTypes=[t,u].toArray:=by rw[<-F]
   split at h
   ·rename_i hu;obtain⟨⟨u1,K⟩,n1,n2⟩:=TR h;obtain⟨v,a0,H',hk,hv⟩:=Oi (ty:=o.type) (tmps:=a.tmps) (Ch0 S.hr) hu K ((S.opnd s0).1.mono (So Γ st.hp w) n1) ((S.opnd x0).1.mono (So Γ st.hp w) n2);obtain⟨V,w',Γ',m,d,_⟩:=hv;refine⟨V,w',?_,⟨⟨λg Q D=>d.frame g Q (λb y=>D ?_) (λx=>x),d.size⟩,d.os,d.tape,d.output⟩⟩
    ·obtain⟨cs,P⟩:=P7 (ρ:=a.eval) l j;rw[P,G,n];simp[builtin,m]
    ·have i:Rb st.hp b=false/\Γ.nm b=some g:=by
      simp only[A80] at y;split at y
      ·cases y
      ·rename_i T;exact⟨by simpa using T,y⟩
     rcases U.own b g i.2 with⟨z,A⟩|B
     ·refine .inr ⟨f,b,rfl,?_,A⟩;rcases M b z with q|q
      ·exact q
      ·rw[i.1] at q;cases q
     ·exact .inl B
   ·cases h
  all_goals contradiction
 simp only[opK,l,j] at h;exact key _ _ rfl rfl h
theorem ES{ro:Option Nat}{n:Nat}{all:Array Oper}{E:Act->World->Prop}{f:List Nat × List Nat}(A:Ask C I Z O N)(hF:HR Y L W):∀(l:List Nat) {p:Bool} {Γ:Ctx} {Φ:Nat->Prop} {st:St X} {a:Act} {w:World} {k:St X->Option R},(∀i∈l,i<all.size)->Γ.yv=N->(p=true->∀g,Γ.St g->Y.St g)->
  Sx C Z O all f L p l st k=some r->SI C I Γ Φ st a.tmps w->Stp C Y L W J Γ st.hp w Φ->Nxt C I Γ Φ st.hp w a.defers k r E->J5 (D6 ro) n C.P all (DX Y W (some f)) (Q3 (some f)) (E2 C all) E l a w
 | [],p,Γ,Φ,st,a,w,k,hlt,hyv,hst,h,S,hs,hN=>hN st a w Γ Φ h (Stp.refl S.hr) S rfl
 | i::l,p,Γ,Φ,st,a,w,k,hlt,hyv,hst,h,S,hs,hN=>by
  have a0:=hlt i (by simp);obtain⟨o,ho⟩:∃o,all[i]? = some o:=⟨all[i],y9 a0⟩
  simp only[Sx] at h;obtain⟨hc,h⟩:=C3 h;have next:Bf4 C I Γ Φ st.hp w a.defers (λq=>Sx C Z O all f L (p&&o8 (E2 C all i) 1) l q k) r (∀j∈[i],E2 C all j<=1) (J5 (D6 ro) n C.P all (DX Y W (some f)) (Q3 (some f)) (E2 C all) E l):=λq a' w' Γ' z k1 k2 k3 k4 k5=>
   ES A hF l (λj H=>hlt j (by simp[H])) (k2.yv.trans hyv) (λhp g hg=>by
    simp only[c8] at hp;exact hst hp.1 g (k5 (λj H=>by simp at H;subst H;exact ad5 hp.2) g hg)) k1 k3 (hs.trans k2) λa4 a2 w2 Γ2 Φ2 q1 q2 q3 q4=>hN a4 a2 w2 Γ2 Φ2 q1 (k2.trans q2) q3 (q4.trans k4)
  cases G:Q3 (some f) i with
  | false=>
   have:=Bp (ro:=ro) (n:=n) (D:=DX Y W (some f)) (far:=Q3 (some f)) A [i] (λj H=>by simp at H;subst H;exact⟨a0,G⟩) hyv h S next
   simp only[J5] at this ⊢;exact this
  | true=>
   have d:Xs C f p L st.hp st.sl o=true:=by
    have e:okN f.1 i=true:=G;rw[ho] at hc;simpa[e] using hc
   have hg:o.guard=none:=by
    unfold Xs at d;split at d
    ·split at d
     ·simp only[c8,z7] at d;exact d.1
     ·simp only[c8,z7] at d;exact d.1
     ·cases d
    ·split at d
     ·simp only[c8,z7] at d;exact d.1
     ·cases d
    ·split at d
     ·simp only[c8,z7] at d;exact d.1
     ·cases d
    ·cases d
   have U:o0 o (yielded all a.tmps)=true:=by simp[o0,hg]
   have h:opK C Z O o st (λq=>Sx C Z O all f L (p&&o8 (E2 C all i) 1) l q k)=some r:=by
    rw[af6,ho] at h;simp only[List.filterMap_nil,Bn,hg] at h;exact h
   simp only[J5,G];have M:E2 C all i=Y3 C o.op:=by simp only[E2,ho]
   rw[M];have F:(∃t x,o.op = .load t x)\/(∃t x y,o.op = .store t x y)\/∃c,o.op = .call c/\c.callee = .builtin .append/\∀b,b<L.length->okN f.2 b=true\/Rb st.hp b=true:=by
    unfold Xs at d;split at d
    ·rename_i t x e;exact .inl ⟨t,x,e⟩
    ·rename_i t x y e;exact .inr (.inl ⟨t,x,y,e⟩)
    ·rename_i c e;split at d
     ·rename_i v;simp only[c8,j2,ah6,o7] at d;exact .inr (.inr ⟨c,e,v,d.2⟩)
     ·cases d
    ·cases d
   rcases F with⟨t,x,m⟩|⟨t,x,y,m⟩|⟨c,m,v,hd⟩
   ·have K:Y3 C o.op=1:=by rw[m];rfl
    rw[K];refine⟨λ_=>?_,λa1=>by omega⟩;obtain⟨V,q,h1,h2,h3,h4⟩:=Nw (a:=a) (show I9 C o.op=true by rw[m];rfl) h S;refine⟨o,V,ho,⟨λ_ _ _ _=>trivial,.inl ⟨U,λw' a3=>?_⟩⟩,next q (a.put o.dst V) w Γ Φ h1 (h4.lift Φ) h3 (put_defers _ _ _) (λ_ _ h=>h)⟩;unfold ab1;rw[Bl0 m d hst h S hF hs (a3.2 rfl) (h2 w (Ext.refl w))];exact⟨rfl,rfl⟩
   ·have K:Y3 C o.op=3:=by rw[m];rfl
    rw[K];refine⟨λa1=>by omega,λ_ w1 T=>?_⟩;obtain⟨S1,u⟩:=S.like A.hI T;obtain⟨w2,hr,hx⟩:=A34 m d h S1 (hs.trans u);have P:=QP (ro:=ro) (n:=n) (Q:=QF) A hyv h S1 λq a' w' Γ' z q1 q2 q3 q4=>next q a' w' Γ' z q1 (u.trans q2) q3 q4 λhq=>absurd (hq i (by simp)) (by rw[M,K];omega)
    unfold wpOpIn;simp only[ho,U,if_true];unfold ae8 at P ⊢;refine⟨P.1,?_⟩;have B:=P.2;rw[x8 _ _ _ (λc e=>by rw[m] at e;cases e),hr] at B ⊢;simp only[aa6] at B ⊢;exact⟨λe=>by omega,λ_=>hx,B⟩
   ·have K:Y3 C o.op=3:=by rw[m];simp[Y3,Tc,I9,Iv,VH,v]
    rw[K];refine⟨λa1=>by omega,λ_ w1 T=>?_⟩;obtain⟨S1,u⟩:=S.like A.hI T;obtain⟨V,w2,hr,hx⟩:=Af7 m v hd h S1 hF (hs.trans u);have P:=QP (ro:=ro) (n:=n) (Q:=QF) A hyv h S1 λq a' w' Γ' z q1 q2 q3 q4=>next q a' w' Γ' z q1 (u.trans q2) q3 q4 λhq=>absurd (hq i (by simp)) (by rw[M,K];omega)
    unfold wpOpIn;simp only[ho,U,if_true];unfold ae8 at P ⊢;refine⟨P.1,?_⟩;have B:=P.2;rw[x8 _ _ _ (λc e=>by rw[m] at e;cases e),hr] at B ⊢;simp only[aa6] at B ⊢;exact⟨λe=>by omega,λ_=>hx,B⟩
theorem Y5{t:Option Nat}{n:Nat}{all:Array Oper}{E:Act->World->Prop}{e:Option (List Nat × List Nat)}(A:Ask C I Z O N)(l:HR Y L W)(b:List Nat){p:Bool}{Γ:Ctx}{Φ:Nat->Prop}{st:St X}{a:Act}{w:World}{k:St X->Option R}(c:∀i∈b,i<all.size)(d:Γ.yv=N)(j:p=true->∀g,Γ.St g->Y.St g)
  (h:Db C Z O all e L p b st k=some r) (S:SI C I Γ Φ st a.tmps w) (q:Stp C Y L W J Γ st.hp w Φ) (hN:Nxt C I Γ Φ st.hp w a.defers k r E):J5 (D6 t) n C.P all (DX Y W e) (Q3 e) (E2 C all) E b a w:=by
 cases e with
 | none=>exact Bp A b (λi m=>⟨c i m,rfl⟩) d h S hN.q
 | some f=>exact ES A l b c d j h S q hN
end
theorem Ba8{T:Option Nat}{n id:Nat}{b:Array Oper}{Q:Exit->Act->World->Prop}{k:St X->Option R}(A:Ask C I Z O N)(H:C.P.follows .mixedOrders=true){f:Option (List Nat × List Nat)}(d:Bq8 C f b=true)(p:Γ.yv=N)(h:Db C Z O b f st.hp true (Oq C b.toList) st k=some r)(S:SI C I Γ Φ st a.tmps w)
  (hN:Nxt C I Γ Φ st.hp w a.defers k r (λg w'=>Q .normal g w')):(ae5 id b true).wpIn (D6 T) n C.P Q a w:=by
 simp only[Bq8,c8] at d;obtain⟨y,u,z,v,B⟩:=d;rw[j2] at u v;refine Tx (D:=DX Γ w f) (far:=Q3 f) (kind:=E2 C b) (ord:=Oq C b.toList) H y (λj o c J e=>?_) (λj G=>?_) (j1 z) B (Y5 A S.hr _ (λi F=>Lq (v i F)) p (λ_ _ h=>h) h S (Stp.refl S.hr) λq g w' Γ' t K L M P w1 m=>?_)
 case refine_3=>
  obtain⟨x,l⟩:=M.like A.hI m;exact hN q g w1 Γ' t K (L.trans l) x P
 ·have:=u o (by simpa using ad4 J);rw[e] at this;cases this
 ·simp only[E2,ac8 G];exact o6 _
def Bas(b:Nat->Prop)(c:World)(St:Nat->Prop)(w:World):Prop:=∀q,b q->St q/\w.heap[q]? = c.heap[q]?
def Trn.B(C:Cfg)(Sb:Nat->Prop)(wb:World)(V:Value)(x:Obj)(g:Nat):Trn->Prop
 | .row v=>∀(St:Nat->Prop) (w1:World),Bas Sb wb St w1->St g->w1.heap[g]? = some x->VS St w1 v V
 | .var e=>(C.ti e).ok=true/\(∀n el,C.sh e≠.array n el)/\V = .pointer (some ⟨g,0,none⟩)/\∃z:Value,x = .cells z.cells e/\∀(Γ:Ctx) sh w,CR Γ sh w ((C.ti e).ks.map P3) z.cells
def Qq(C:Cfg)(b:Nat->Prop)(d:World)(o:Oper)(c:Operand->Value)(t:Trn):Prop:=∀w:World,∃V x,(execOp c o).run C.P w = .ok (.value V) (w.alloc x)/\t.B C b d V x w.heap.size
def XZ(op:Op):Prop:=(∃t len b,op = .buildSlice t len b)\/∃e,op = .alloc e
theorem FJ{k:Trn->Option R}(S:SI C I Γ Φ st a.tmps w)(h:XY C o st.sl k=some r):o.guard=none/\XZ o.op/\∃t,k t=some r/\Qq C Γ.St w o a.eval t:=by
 unfold XY at h;split at h
 ·rename_i e l c;refine⟨l,.inr ⟨_,c⟩,?_⟩;split at h
  ·cases h
  ·rename_i u;obtain⟨b,h⟩:=C3 h;refine⟨_,h,λw1=>?_⟩;obtain⟨z,T,A,_⟩:=HT (Γ:=Γ) (ev:=a.eval) (w:=w1) b c;exact⟨_,_,T,b,u,rfl,z,rfl,A⟩
 ·rename_i t len parts l c;refine⟨l,.inl ⟨_,_,_,c⟩,?_⟩;split at h
  ·rename_i e u;split at h
   ·rename_i b;simp only[c8,decide_eq_true_eq] at b;obtain⟨⟨b,d⟩,a0⟩:=b;split at h
    ·rename_i out Y;split at h
     ·rename_i vs L;refine⟨_,h,?_⟩;obtain⟨hp,_⟩:=S.parts parts.toList;obtain⟨i,z,m,hz,y,H⟩:=Cc (Γ:=Γ) (sh:=A1 st.hp) (w:=w) b;obtain⟨_,_,_,a1⟩:=I8 b;have K:0<(C.ti e).ks.length:=by rename_i T A;omega
      have W:=PZ H (by simpa using K) len;rw[p7] at W;obtain⟨B,Q,G,e3⟩:=Be (place':=λj=>some (j*i.size,i.size)) (λj off size n h0=>by rw[y];exact n) Y W hp;obtain⟨f1,f2⟩:=L8 (As:=B.toList) L (by simpa using G.1.symm) (λj n=>by
       obtain⟨U,e,k⟩:=G.2 j n;exact⟨U,by simpa using e,k⟩)
      have D:B.size=len*(C.ti e).ks.length:=by
       have q:∀{place:Nat->Option (Nat × Nat)} {F:List (Nat × PV)} {cells out:List PV},Ax place cells F=some out->out.length=cells.length:=by
        intro place F
        induction F with
        | nil=>intro cells out h;simp only[Ax,j5] at h;rw[h]
        | cons p F ih=>
         intro cells out h;obtain⟨i,v⟩:=p;simp only[Ax] at h;split at h
         ·split at h
          ·rw[ih h,D4]
          grind
         grind
       rw[G.1,q Y,Cj,p7]
      have f:vs.length=len*(C.ti e).ks.length:=by rw[f1,Array.length_toList,D]
      intro M;have hr:=Y7 (P:=C.P) M len (parts.map λ(i,x)=>(i,a.eval x)) B (G5 u) m hz (by rw[y];exact d) (by rw[y] at Q ⊢;rw[w9];exact Q);refine⟨.slice (some ⟨M.heap.size,0,none⟩) len len,.cells B e,by simp only[execOp,c];simp[hr],λSt w1 V J hx=>?_⟩;refine .sl true _ M.heap.size 0 len len _ (λi j=>(B[i*(C.ti e).ks.length+j]?).getD undef) (by rw[R8]) (o6 _) (by simp only[maxLen];omega) (λ_=>rfl) J (λi m=>(Z1 _ _ _ f i m).1) (λi m j n=>?_) (λi m j n=>?_)
      ·obtain⟨A,_⟩:=(Z1 _ _ _ f i m).2 j n;have:i*(C.ti e).ks.length+j<B.size:=by rw[D,<-f];exact A
       simp[af5,hx,this]
      ·obtain⟨A,e4⟩:=(Z1 _ _ _ f i m).2 j n;obtain⟨U,e5,k5⟩:=f2 _ A;rw[e4];have e6:(B[i*(C.ti e).ks.length+j]?).getD undef=U:=by grind
       rw[e6];exact k5.mono (λg l=>(V g l).2) (λg l=>(V g l).1)
     grind
    grind
   ·cases h
  ·cases h
 ·cases h
theorem Pd{d:Option Tmp}{a b:Act}(h:HM d a b){c:Oper}(f:∀t,d=some t->t∉Ws c):∀x∈c.op.operands,b.eval x=a.eval x:=by
 intro x g;cases x with
 | tmp t=>
  have:d≠some t:=λe=>f t e (List.mem_filterMap.2 ⟨.tmp t,by simpa using g,rfl⟩)
  have e:=h t this;simp only[Act.eval,j6,e]
 | _=>rfl
theorem Ay0{q:Option Nat}{n:Nat}{all:Array Oper}{i:Nat}{d:Oper}{t:Trn}{g:Nat->Prop}{j:World}(p:all[i]? = some d)(m:d.guard=none)(f:XZ d.op)(b:Qq C g j d a.eval t){K:Act->World->Prop}
  (h:∀V x,t.B C g j V x w.heap.size->K (a.put d.dst V) (w.alloc x)):wpOpIn (D6 q) n C.P all QF i K a w:=by
 unfold wpOpIn;simp only[p];rw[if_pos (by simp[o0,m])];refine⟨λ_ _=>trivial,?_⟩;rw[x8 _ _ _ (λc e=>by rcases f with⟨_,_,_,h⟩|⟨_,h⟩<;>rw[h] at e<;>cases e)];obtain⟨V,x,k,l⟩:=b w;rw[k];exact h V x l
structure AI (C:Cfg) (Sb:Nat->Prop) (wb:World) (d:Option Tmp) (t:Trn) (g:Nat) (x:Obj) (Γ:Ctx) (Φ:Nat->Prop) (a:Act) (w:World):Prop where
 at':w.heap[g]? = some x
 st:¬ Γ.St g
 nm:∀b,Γ.nm b≠some g
 fo:¬ Φ g
 ex:∃V,t.B C Sb wb V x g
 val:∀V,(∃t,d=some t/\a.tmps[t]? = some V)->t.B C Sb wb V x g
 base:Bas Sb wb Γ.St w
theorem FL(S:SI C I Γ Φ st a.tmps w)(d:Option Tmp):SI C I Γ Φ { st with sl:=L0 d .bad st.sl } a.tmps w:=by
 cases d with
 | none=>exact S
 | some t=>exact⟨S.hr,S.sr.set t (λV _=>.bad V) (by simp[PV.nms]),S.g,S.inv,S.dis⟩
theorem AB(S:SI C I Γ Φ st a.tmps w){d:Option Tmp}{v:PV}(h:∀V,(∃t,d=some t/\a.tmps[t]? = some V)->VP Γ (A1 st.hp) w v V)(b:∀c∈v.nms,c<st.hp.length):SI C I Γ Φ { st with sl:=L0 d v st.sl } a.tmps w:=by
 cases d with
 | none=>exact S
 | some t=>exact⟨S.hr,S.sr.set t (λV hV=>h V ⟨t,rfl,hV⟩) b,S.g,S.inv,S.dis⟩
theorem AI.step{Γ':Ctx}{Φ':Nat->Prop}{H':List Blk}{a':Act}{w':World}{d4 d:Option Tmp}{t:Trn}{g:Nat}{x:Obj}{Sb:Nat->Prop}{wb:World}(h:AI C Sb wb d4 t g x Γ Φ a w)(hs:Stp C Γ st.hp w Φ Γ' H' w' Φ')(hst:∀q,Γ.St q->w'.heap[q]? = w.heap[q]?)(hag:HM d a a')(hne:d4≠none->d≠d4):AI C Sb wb d4 t g x Γ' Φ' a' w':=by
 have hlt:g<w.heap.size:=(j8.1 h.at').1;refine⟨by rw[hs.frame g hlt h.nm h.fo];exact h.at',λe=>?_,λb e=>?_,λe=>?_,h.ex,?_,λq hq=>⟨hs.sub q (h.base q hq).1,(hst q (h.base q hq).1).trans (h.base q hq).2⟩⟩
 ·rcases hs.stnew g e with e|e
  ·exact h.st e
  ·omega
 ·rcases hs.own b g e with⟨_,e⟩|e
  ·exact h.nm b e
  ·omega
 ·rcases hs.foot g e with e|e
  ·exact h.fo e
  ·omega
 ·rintro V ⟨t,ht,hV⟩;have:d≠some t:=λe=>hne (by rw[ht];simp) (by rw[e,ht])
  rw[hag t this] at hV;exact h.val V ⟨t,ht,hV⟩
theorem Pc{H:List Blk}(x:Blk)(g:Nat):V8 Γ (A1 H) w (Γ.upd H.length g) (A1 (H++[x])) w (· < H.length):=
 ⟨λ_ _=>rfl,λ_ h=>h,λb c=>by simp only[Ctx.upd];rw[if_neg (by omega)],λb c=>L9 c,λ_ _ _ _=>rfl,rfl⟩
theorem Stp.adopt{Γ0:Ctx}{H0 H:List Blk}{w0:World}{Φ0:Nat->Prop}{g:Nat}(x:Blk)(hs:Stp C Γ0 H0 w0 Φ0 Γ H w Φ)(hg:w0.heap.size<=g):Stp C Γ0 H0 w0 Φ0 (Γ.upd H.length g) (H++[x]) w Φ:=by
 have hl:=hs.len;refine⟨hs.os,hs.tape,hs.output,hs.size,hs.sub,hs.stnew,λb g' h=>?_,hs.foot,hs.frame,hs.yv,by simp;omega,λb hb hf=>?_⟩
 ·simp only[Ctx.upd] at h;split at h
  ·grind
  ·exact hs.own b g' h
 ·obtain⟨p1,p2,p3⟩:=hs.keep b hb hf;exact⟨by simp only[Ctx.upd];rw[if_neg (by omega)];exact p1,by rw[L9 (by omega)];exact p2,p3⟩
theorem SI.adopt(S:SI C I Γ Φ st a.tmps w){x:Blk}{g:Nat}(hlt:g<w.heap.size)(h1:¬ Γ.St g)(h2:∀b,Γ.nm b≠some g)(h3:¬ Φ g)(hb:BR (Γ.upd st.hp.length g) (A1 (st.hp++[x])) w st.hp.length x)(hn:∀c∈x.nms,c<st.hp.length+1) :
  SI C I (Γ.upd st.hp.length g) Φ { st with hp:=st.hp++[x] } a.tmps w:=by
 have M:V8 Γ (A1 st.hp) w (Γ.upd st.hp.length g) (A1 (st.hp++[x])) w (· < st.hp.length):=Pc x g;refine⟨⟨λb b' g' k1 k2=>?_,λb g' h=>?_,S.hr.stlt,λb hb' c hc=>?_,λb hb'=>?_⟩,SR.grow M S.sr,S.g,S.inv,λb g' h=>?_⟩
 ·simp only[Ctx.upd] at k1 k2;split at k1<;>split at k2
  ·omega
  ·rw[<-k1] at k2;exact absurd k2 (h2 b')
  ·rw[<-k2] at k1;exact absurd k1 (h2 b)
  ·exact S.hr.inj b b' g' k1 k2
 ·simp only[Ctx.upd] at h;split at h
  ·simp only[j5] at h;subst h;exact⟨by simp;omega,hlt,h1⟩
  ·have:=S.hr.lt b g' h;exact⟨by simp;omega,this.2⟩
 ·rw[k9,af3] at hb' ⊢;by_cases e:b=st.hp.length
  ·subst e;simp at hc;exact hn c hc
  ·have hb2:b<st.hp.length:=by omega
   rw[x5 hb2] at hc;have:=S.hr.nms b hb2 c hc;omega
 ·rw[k9,af3] at hb';by_cases e:b=st.hp.length
  ·subst e;simpa using hb
  ·have hb2:b<st.hp.length:=by omega
   rw[x5 hb2];exact(S.hr.blk b hb2).mono M (M.nm b hb2) (λ_ _=>rfl) (λc hc=>S.hr.nms b hb2 c hc)
 ·simp only[Ctx.upd] at h;split at h
  ·simp only[j5] at h;subst h;exact h3
  ·exact S.dis b g' h
theorem Aq0{k:St X->Option R}{d:Option Tmp}{t:Trn}{g:Nat}{x:Obj}{Y:Nat->Prop}{wb:World}(K:HI I)(S:SI C I Γ Φ st a.tmps w)(h:Jf C d t st k=some r)(f:AI C Y wb d t g x Γ Φ a w) :
  ∃m Γ',k m=some r/\SI C I Γ' Φ m a.tmps w/\∀{u:Ctx} {H:List Blk} {G:World} {A:Nat->Prop},Stp C u H G A Γ st.hp w Φ->G.heap.size<=g->Stp C u H G A Γ' m.hp w Φ:=by
 have p:g<w.heap.size:=(j8.1 f.at').1;cases t with
 | row v=>
  have P:=S.wideSt K (St':=λy=>Γ.St y\/y=g) (λ_ h=>.inl h) (λy i=>by rcases i with i|rfl;exact λe=>(K.foot _ _ _ _ S.inv y e).2 i;exact f.fo) (λb y L=>by
   rintro(i|rfl)
   ·exact(S.hr.lt b y L).2.2 i
   ·exact f.nm b L) (λy i=>by rcases i with i|rfl;exact S.hr.stlt y i;exact p)
  exact⟨_,_,h,AB P (λV hV=>.s _ _ (f.val V hV _ _ (λq M=>⟨.inl (f.base q M).1,(f.base q M).2⟩) (.inr rfl) f.at')) (by simp[PV.nms]),λl D=>⟨l.os,l.tape,l.output,l.size,λy i=>.inl (l.sub y i),λy i=>by rcases i with i|rfl;exact l.stnew y i;exact .inr D,l.own,l.foot,l.frame,l.yv,l.len,l.keep⟩⟩
 | var e=>
  obtain⟨_,F,a0,_,z,rfl,hz⟩:=f.ex;simp only[Jf,Vd,F,if_true] at h;have n:=hz Γ (A1 st.hp) w;obtain⟨T,e1,e2,e3,e4,e5,e6,J⟩:=Q9 (C:=C) (C.nilT e) ((C.ti e).ks.map P3) 0 st.hp z.cells.toList S.hr (by simpa using n.1.symm) (λj B=>by
   obtain⟨U,e,k⟩:=n.2 j B;exact⟨U,by simpa using e,k⟩) (by rw[Jj];simp)
  rw[e1] at h;have Q:SI C I Γ Φ { st with hp:=st.hp++T } a.tmps w:=⟨e2,SR.grow e4 S.sr,S.g,S.inv,S.dis⟩
  have W:=Q.adopt (x:=.box (F5 (C.nilT e) ((C.ti e).ks.map P3) 0 st.hp).1) p f.st f.nm f.fo ⟨g,z.cells,e,by simp[Ctx.upd],f.at',by simpa using e5.symm,λj B=>by
   obtain⟨U,f1,f2⟩:=e6 j B;exact⟨U,by simpa using f1,f2.mono (Pc _ g) λc n=>J c (C4.2 ⟨j,B,n⟩)⟩⟩ (λc n=>by have:=J c n;simp only at this ⊢;omega)
  exact⟨_,_,h,AB W (λV hV=>by
   obtain⟨_,_,rfl,_⟩:=f.val V hV;exact .ptrB _ 0 g F3 (by simp[Ctx.upd])) (by simp[PV.nms]),λl D=>Stp.adopt _ (l.trans (e3.lift Φ)) D⟩
theorem HU{all:Array Oper}{e:Nat}{c:Oper}{i:Nat}{b:List Nat}(f:all[e]? = some c)(d:Ft all e (i::b)=true):∃o,all[i]? = some o/\(∀t,o.dst=some t->t∉Ws c)/\(c.dst≠none->o.dst≠c.dst)/\Ft all e b=true:=by unfold Ft at d ⊢;grind
section
variable {W : Ctx} {Q : List Blk} {Y : World} {J : Nat -> Prop} {L : Option (List Nat × List Nat)}
theorem EU{Sb:Nat->Prop}{wb:World}{ro:Option Nat}{n:Nat}{all:Array Oper}{E:Act->World->Prop}{i4:Nat}{q:Oper}{t:Trn}{post:List Nat}{u:Ctx}{P:List Blk}{H:World}{v:Nat->Prop}{ds:List Deferred}{g:Nat}{x:Obj}{k:St X->Option R}(A:Ask C I Z O N)(z:HR W Q Y)(V:all[i4]? = some q)(b:∀i∈post,i<all.size)(U:H.heap.size<=g)(m:Y.heap.size<=g)(hN:Nxt C I u v P H ds k r E):∀(d:List Nat) {Γ:Ctx} {Φ:Nat->Prop} {st:St X} {a:Act} {w:World},(∀i∈d,i<all.size)->Ft all i4 d=true->Γ.yv=N->
  Ky C Z O all L Q q.dst d st (λf=>Jf C q.dst t f λG=>Db C Z O all L Q false post G k)=some r->SI C I Γ Φ st a.tmps w->AI C Sb wb q.dst t g x Γ Φ a w->Stp C u P H v Γ st.hp w Φ->Stp C W Q Y J Γ st.hp w Φ->a.defers=ds->J5 (D6 ro) n C.P all (DX W Y L) (Q3 L) (E2 C all) E (d++post) a w
 | [],Γ,Φ,st,a,w,hlt,hap,hyv,h,S,hah,hs,hsF,hd=>by
  simp only[Ky] at h;obtain⟨F,Γ',h',S',c⟩:=Aq0 A.hI S h hah;have c:=@c;have T:=c hs U;have h2:=c hsF m;exact Y5 A z post b (T.yv.trans (hs.yv.symm.trans hyv)) (λe=>by cases e) h' S' h2 λf a2 w2 K M q1 q2 q3 q4=>hN f a2 w2 K M q1 (T.trans q2) q3 (q4.trans hd)
 | i::rest,Γ,Φ,st,a,w,hlt,hap,hyv,h,S,hah,hs,hsF,hd=>by
  obtain⟨o,hi,a0,D,l⟩:=HU V hap;simp only[Ky] at h;exact Lv (E:=J5 (D6 ro) n C.P all (DX W Y L) (Q3 L) (E2 C all) E (rest++post)) hi (Y5 A z [i] (λj y=>hlt j (by simp at y;simp[y])) hyv (λe=>by cases e) h S hsF λF a' w' Γ' Φ' k1 p k3 k4 B=>
   EU A z V b U m hN rest (λj y=>hlt j (by simp[y])) l (p.yv.trans hyv) k1 (FL k3 q.dst) (hah.step p (p.st S.hr λg h=>(A.hI.foot _ _ _ _ S.inv g h).2) B D) (hs.trans p) (hsF.trans p) (k4.trans hd))
theorem Al2{Sb:Nat->Prop}{wb:World}{ro:Option Nat}{n:Nat}{all:Array Oper}{E:Act->World->Prop}{M:Nat}{p:Oper}{t:Trn}{post:List Nat}(A:Ask C I Z O N)(hF:HR W Q Y)(ho:all[M]? = some p)(hg:p.guard=none)(U:XZ p.op)(H:∀i∈post,i<all.size):∀(c:List Nat) {Γ:Ctx} {Φ:Nat->Prop} {st:St X} {a:Act} {w:World} {k:St X->Option R},(∀i∈c,i<all.size)->Ft all M c=true->Γ.yv=N->
  Ky C Z O all L Q p.dst c { st with sl:=L0 p.dst .bad st.sl } (λz=>Jf C p.dst t z λK=>Db C Z O all L Q false post K k)=some r->SI C I Γ Φ st a.tmps w->Stp C W Q Y J Γ st.hp w Φ->Bas Sb wb Γ.St w->Qq C Sb wb p a.eval t->Nxt C I Γ Φ st.hp w a.defers k r E->Ub (D6 ro) n C.P all (DX W Y L) (Q3 L) (E2 C all) E M post c a w:=by
 have early:∀(c:List Nat) {Γ:Ctx} {Φ:Nat->Prop} {st:St X} {a:Act} {w:World} {k:St X->Option R},(∀i∈c,i<all.size)->Ft all M c=true->Γ.yv=N->
   Ky C Z O all L Q p.dst c { st with sl:=L0 p.dst .bad st.sl } (λz=>Jf C p.dst t z λK=>Db C Z O all L Q false post K k)=some r->SI C I Γ Φ st a.tmps w->Stp C W Q Y J Γ st.hp w Φ->Bas Sb wb Γ.St w->Qq C Sb wb p a.eval t->Nxt C I Γ Φ st.hp w a.defers k r E->
   ∀w1,I5 w w1->wpOpIn (D6 ro) n C.P all QF M (λa' w'=>I5 w1 w'/\J5 (D6 ro) n C.P all (DX W Y L) (Q3 L) (E2 C all) E (c++post) a' w') a w1:=by
  intro c Γ Φ st a w k l u m h S f y d hN w1 D;refine Ay0 ho hg U d λV x hV=>⟨Ey w1 x,?_⟩
  obtain⟨P,a0⟩:=S.like A.hI D;obtain⟨S2,a1⟩:=P.like A.hI (Ey w1 x);refine EU (a:=a.put p.dst V) A hF ho H D.1.2 (ae3 f.size D.1.2) hN c l u m h (S2.put (o:=p) (v:=.bad) (V:=V) (.bad V) (by simp[PV.nms])) ⟨E6 rfl,λe=>aa3 _ (P.hr.stlt _ e),λb e=>aa3 _ (P.hr.lt b _ e).2.1,λe=>aa3 _ (A.hI.foot _ _ _ _ P.inv _ e).1,⟨V,hV⟩,?_,λq F=>⟨(y q F).1,by rw[E7 (w':=w1.alloc x) (o:=x) rfl (P.hr.stlt q (y q F).1),D.1.1 q (S.hr.stlt q (y q F).1)];exact(y q F).2⟩⟩ (a0.trans a1) (f.trans (a0.trans a1)) (put_defers _ _ _);rintro V' ⟨t,ht,B⟩;have e:V'=V:=by
   rw[ht] at B;simp only[af9] at B;have:=(j8.1 B).1;simp at this;simpa[this] using B.symm
  rw[e];exact hV
 intro c
 induction c with
 | nil=>
  intro Γ Φ st a w k l u m h S f y d hN;exact early [] l u m h S f y d hN
 | cons i G ih=>
  intro Γ Φ st a w k l u m h S f y d hN;refine⟨?_,λ_=>early (i::G) l u m h S f y d hN⟩;obtain⟨o,hi,a4,a5,T⟩:=HU ho u;have S0:=FL S p.dst;simp only[Ky] at h;exact Lv (E:=Ub (D6 ro) n C.P all (DX W Y L) (Q3 L) (E2 C all) E M post G) hi (Y5 A hF [i] (λj hj=>l j (by simp at hj;simp[hj])) m (λe=>by cases e) h S0 f λa6 a' w' Γ' Φ' k1 k2 k3 k4 a3=>
   ih (λj hj=>l j (by simp[hj])) T (k2.yv.trans m) k1 k3 (f.trans k2) (λq F=>⟨k2.sub q (y q F).1,(k2.st S.hr (λg h=>(A.hI.foot _ _ _ _ S.inv g h).2) q (y q F).1).trans (y q F).2⟩) (by
    have e:=execOp_congr (ρ:=a'.eval) (ρ':=a.eval) p (λcs b e=>by rcases U with⟨_,_,_,h⟩|⟨_,h⟩<;>rw[h] at e<;>cases e) (Pd a3 a4);unfold Qq at d ⊢;rw[e];exact d) λz a2 w2 Γ2 Φ2 q1 q2 q3 q4=>hN z a2 w2 Γ2 Φ2 q1 (k2.trans q2) q3 (q4.trans k4))
end
theorem Ao2{M:Option Nat}{n id d:Nat}{b:Array Oper}{F:Oper}{Q:Exit->Act->World->Prop}{k:St X->Option R}(A:Ask C I Z O N)(hm:C.P.follows .mixedOrders=true){g:Option (List Nat × List Nat)}(z:Ao0 C g b d=true)(D:Γ.yv=N)(G:b[d]? = some F)
  (h:(Db C Z O b g st.hp true (R1 C b) st λl=>XY C F l.sl λt=>
    Ky C Z O b g st.hp F.dst (Fu C b d) { l with sl:=L0 F.dst .bad l.sl } λp=>Jf C F.dst t p λP=>
     Db C Z O b g st.hp false (Bz C b d) P k)=some r) (S:SI C I Γ Φ st a.tmps w)
  (hN:Nxt C I Γ Φ st.hp w a.defers k r (λa' w'=>Q .normal a' w')):(ae5 id b true).wpIn (D6 M) n C.P Q a w:=by
 simp only[Ao0,c8] at z;obtain⟨W,Y,h3,h4,h5,h6,h7⟩:=z;rw[j2] at Y h4;have y:∀(j:Nat) (o:Oper) c,b[j]? = some o->o.op≠.defer c:=λj o c G e=>by
  have:=Y o (by simpa using ad4 G);rw[e] at this;cases this
 have hk:∀j,b.size<=j->E2 C b j<=1:=λj f=>by
  simp only[E2,ac8 f];exact o6 _
 have m:∀j,j∈R1 C b\/j∈Fu C b d\/j∈Bz C b d->j<b.size:=λj f=>Lq (h4 j (by
  rcases f with f|f|f<;>simp[f]))
 have hC:J5 (D6 M) n C.P b (DX Γ w g) (Q3 g) (E2 C b) (Ub (D6 M) n C.P b (DX Γ w g) (Q3 g) (E2 C b) (λa T=>∀w,I5 T w->Q .normal a w) d (Bz C b d) (Fu C b d)) (R1 C b) a w:=
  Y5 A S.hr _ (λi u=>m i (.inl u)) D (λ_ _ h=>h) h S (Stp.refl S.hr) λl a1 w1 Γ1 Φ1 k1 L k3 k4=>by
   obtain⟨hg,H,v,hv,B⟩:=FJ k3 k1;exact Al2 A S.hr G hg H (λi u=>m i (.inr (.inr u))) _ (λi u=>m i (.inr (.inl u))) h5 (L.yv.trans D) hv k3 L (λq hq=>⟨hq,rfl⟩) B λp a2 w2 U V q1 q2 q3 q4 w3 K=>by
    obtain⟨S3,J⟩:=q3.like A.hI K;exact hN p a2 w3 U V q1 (L.trans (q2.trans J)) S3 (q4.trans k4)
 refine wpIn_region_any hm ?_;have x:=j1 h3;have e:b.size=(Bz C b d).length+1+(Fu C b d).length+(R1 C b).length:=by
  rw[<-x];simp only[k9,x4];omega
 rw[e];refine Dy (wr:=λj=>o8 3 (E2 C b j)) (Qn:=λa w=>Q .normal a w) (λ_ _ h=>h) _ _ _ _ (Jv (fin:=Nm .any b (Q3 g) (E2 C b) d (Bz C b d) (Fu C b d)) W y hk
  (λlisted a T hf hd hM w hw=>Bi9 W y hk _ listed a T hf hd hM w hw) (R1 C b) (aa9 ((Bz C b d).length+1+(Fu C b d).length+(R1 C b).length) false) a w (by rw[<-e];exact h7) (λj o G f=>?_) hC _ ⟨⟨λ_ _=>rfl,o6 _⟩,rfl,rfl,rfl⟩)
 simp only[j6,ab8] at f;split at f<;>cases f
end
theorem Ba3(d e:Option Nat)(sl:List PV):L0 d .bad (L0 e .bad sl)=L0 e .bad (L0 d .bad sl):=by
 cases d<;>cases e<;>simp only[L0]
 rename_i d e;by_cases h:d=e
 ·rw[h]
 ·exact ai3 _ _ (λq=>h q.symm)
theorem Ba2(d:Option Nat)(sl:List PV):L0 d .bad (L0 d .bad sl)=L0 d .bad sl:=by cases d<;>simp[L0]
theorem EK:∀{c:List (Nat × Option Nat × Trn)} {seq:List Nat} {sl:List PV} {f:Nat} {d:Option Nat} {t:Trn},lkT c f=some (d,t)->f∈seq->L0 d .bad (Mp c seq sl)=Mp c seq sl
 | [],seq,sl,f,d,t,h,_=>by cases h
 | e::r,seq,sl,f,d,t,h,g=>by
  unfold lkT at h;unfold Mp;cases a:x9 f e.1 with
  | true=>
   rw[a,cond_true] at h;have h:=aa0 h;have b:=j1 a;rw[<-b,Sw.2 g,cond_true,h];exact Ba2 _ _
  | false=>
   rw[a,cond_false] at h;have i:=EK (sl:=sl) h g;cases okN seq e.1 with
   | false=>exact i
   | true=>rw[cond_true,Ba3,i]
section
variable {Z R : Type} {r : R} {C : Cfg} {I : Z -> (Nat -> Prop) -> (Nat -> Prop) -> World -> Prop} {Γ : Ctx} {Φ : Nat -> Prop} {J : St Z} {a : Act} {w : World} {K : E3} {O : Yh Z} {X : Value} {o : Oper}
theorem EJ:∀(b:List (Nat × Option Nat × Trn)) (seq:List Nat),SI C I Γ Φ J a.tmps w->SI C I Γ Φ { J with sl:=Mp b seq J.sl } a.tmps w
 | [],seq,S=>S
 | e::r,seq,S=>by
  have:=EJ r seq S;unfold Mp;cases okN seq e.1 with
  | false=>exact this
  | true=>exact FL this e.2.1
theorem YW{k:St Z->Option R}{d:Option Tmp}{t:Trn}{g:Nat}{x:Obj}{Sb:Nat->Prop}{wb:World}(W:HI I)(S:SI C I Γ Φ J a.tmps w)(h:Jf C d t J k=some r)(f:AI C Sb wb d t g x Γ Φ a w) :
  ∃p Γ',k p=some r/\SI C I Γ' Φ p a.tmps w/\(∀{F:Ctx} {P:List Blk} {N:World} {G:Nat->Prop},Stp C F P N G Γ J.hp w Φ->N.heap.size<=g->Stp C F P N G Γ' p.hp w Φ)/\
   (∃v,p.sl=L0 d v J.sl)/\(∀q,Γ.St q->Γ'.St q)/\Γ'.yv=Γ.yv/\∀u,u≠g->(Γ'.St u->Γ.St u)/\∀b,Γ'.nm b=some u->∃b',Γ.nm b'=some u:=by
 have D:g<w.heap.size:=(j8.1 f.at').1;cases t with
 | row v=>
  have Y:=S.wideSt W (St':=λy=>Γ.St y\/y=g) (λ_ h=>.inl h) (λy i=>by rcases i with i|rfl;exact λe=>(W.foot _ _ _ _ S.inv y e).2 i;exact f.fo) (λb y n=>by
   rintro(i|rfl)
   ·exact(S.hr.lt b y n).2.2 i
   ·exact f.nm b n) (λy i=>by rcases i with i|rfl;exact S.hr.stlt y i;exact D)
  exact⟨_,_,h,AB Y (λV hV=>.s _ _ (f.val V hV _ _ (λq m=>⟨.inl (f.base q m).1,(f.base q m).2⟩) (.inr rfl) f.at')) (by simp[PV.nms]),λl L=>⟨l.os,l.tape,l.output,l.size,λy i=>.inl (l.sub y i),λy i=>by rcases i with i|rfl;exact l.stnew y i;exact .inr L,l.own,l.foot,l.frame,l.yv,l.len,l.keep⟩,
   ⟨_,rfl⟩,λq m=>.inl m,rfl,λu A=>⟨λm=>m.resolve_right A,λb n=>⟨b,n⟩⟩⟩
 | var e=>
  obtain⟨_,M,a0,_,z,rfl,hz⟩:=f.ex;simp only[Jf,Vd,M,if_true] at h;have B:=hz Γ (A1 J.hp) w;obtain⟨T,e1,e2,e3,e4,e5,e6,Q⟩:=Q9 (C:=C) (C.nilT e) ((C.ti e).ks.map P3) 0 J.hp z.cells.toList S.hr (by simpa using B.1.symm) (λj H=>by
   obtain⟨U,e,k⟩:=B.2 j H;exact⟨U,by simpa using e,k⟩) (by rw[Jj];simp)
  rw[e1] at h;have S1:SI C I Γ Φ { J with hp:=J.hp++T } a.tmps w:=⟨e2,SR.grow e4 S.sr,S.g,S.inv,S.dis⟩
  have S2:=S1.adopt (x:=.box (F5 (C.nilT e) ((C.ti e).ks.map P3) 0 J.hp).1) D f.st f.nm f.fo ⟨g,z.cells,e,by simp[Ctx.upd],f.at',by simpa using e5.symm,λj H=>by
   obtain⟨U,f1,f2⟩:=e6 j H;exact⟨U,by simpa using f1,f2.mono (Pc _ g) λc B=>Q c (C4.2 ⟨j,H,B⟩)⟩⟩ (λc B=>by have:=Q c B;simp only at this ⊢;omega)
  exact⟨_,_,h,AB S2 (λV hV=>by
   obtain⟨_,_,rfl,_⟩:=f.val V hV;exact .ptrB _ 0 g F3 (by simp[Ctx.upd])) (by simp[PV.nms]),λl L=>Stp.adopt _ (l.trans (e3.lift Φ)) L,
   ⟨_,rfl⟩,λq m=>m,rfl,λu A=>⟨λm=>m,λb n=>by
    simp only[Ctx.upd] at n;split at n
    ·exact absurd (aa0 n).symm A
    ·exact⟨b,n⟩⟩⟩
def Zl(b:Nat->Option (Nat × Obj))(f:Nat)(p:Nat × Obj):Nat->Option (Nat × Obj):=λj=>if j=f then some p else b j
def Zc(b:Nat->Option (Nat × Obj))(f:Nat):Nat->Option (Nat × Obj):=λj=>if j=f then none else b j
abbrev Cw(b:Nat->Option (Nat × Obj))(seq:List Nat):List Nat:=seq.filter λj=>(b j).isNone
theorem Ca3{Dn:Nat->Option (Nat × Obj)}{seq:List Nat}(c:seq.Nodup)(f:Nat)(p:Nat × Obj):Cw (Zl Dn f p) seq=(Cw Dn seq).erase f:=by
 have b:List.Nodup (Cw Dn seq):=ai7 _ c;rw[b.erase_eq_filter,List.filter_filter];refine ag2 λj _=>?_
 unfold Zl;by_cases h:j=f
 ·simp[h]
 ·simp[h]
theorem Ca2{b:Nat->Option (Nat × Obj)}{seq:List Nat}{f:Nat}(c:f∉seq):Cw (Zc b f) seq=Cw b seq:=by
 refine ag2 λj d=>?_
 unfold Zc;have:j≠f:=by
  rintro rfl;exact c d
 rw[if_neg this]
structure PT (C:Cfg) (all:Array Oper) (ts:List (Nat × Option Nat × Trn)) (Sb:Nat->Prop) (wb w0 wF:World) (seq:List Nat) (Dn:Nat->Option (Nat × Obj)) (Γ:Ctx) (Φ:Nat->Prop) (a:Act) (w:World) (sl:List PV):Prop where
 lt:∀i∈seq,i<all.size
 nd:seq.Nodup
 fl:∀f∈seq,∀d t,lkT ts f=some (d,t)->E2 C all f=2/\(∃o,all[f]? = some o/\o.guard=none/\XZ o.op/\o.dst=d/\(Dn f=none->Qq C Sb wb o a.eval t))/\L0 d .bad sl=sl
 ap:∀i∈seq,∀f∈seq,i≠f->∀d t,lkT ts f=some (d,t)->∀oi og,all[i]? = some oi->all[f]? = some og->(∀q,oi.dst=some q->q∉Ws og)/\(og.dst≠none->oi.dst≠og.dst)
 base:Bas Sb wb Γ.St w
 dn:∀f g x,Dn f=some (g,x)->f∈seq/\w0.heap.size<=g/\wF.heap.size<=g/\∃d t,lkT ts f=some (d,t)/\AI C Sb wb d t g x Γ Φ a w
 dist:∀f f' g x x',Dn f=some (g,x)->Dn f'=some (g,x')->f=f'
section
variable {Y : Ctx} {Q : List Blk} {L : World} {W : Nat -> Prop} {fd : Option (List Nat × List Nat)}
theorem Al3{ro:Option Nat}{n:Nat}{all:Array Oper}{E:Act->World->Prop}{ts:List (Nat × Option Nat × Trn)}{Sb:Nat->Prop}{wb:World}{Γ0:Ctx}{H0:List Blk}{w0:World}{Φ0:Nat->Prop}{ds:List Deferred}{k:St Z->Option R}(A:Ask C I K O X)(hF:HR Y Q L)(hN:Nxt C I Γ0 Φ0 H0 w0 ds k r E) :
  ∀(N:Nat) (seq:List Nat) (Dn:Nat->Option (Nat × Obj)) {Γ:Ctx} {Φ:Nat->Prop} {J:St Z} {a:Act} {w:World},seq.length+(Cw Dn seq).length<=N->∀m,(Cw Dn seq).length<=m->PT C all ts Sb wb w0 L seq Dn Γ Φ a w J.sl->Γ.yv=X->
  Oo C K O all fd Q ts seq J k=some r->SI C I Γ Φ J a.tmps w->Stp C Γ0 H0 w0 Φ0 Γ J.hp w Φ->Stp C Y Q L W Γ J.hp w Φ->a.defers=ds->
  Ba (D6 ro) n C.P all (DX Y L fd) (Q3 fd) (E2 C all) E (ts.map (·.1)) m (Cw Dn seq) a w:=by
 have nil:∀{Γ:Ctx} {Φ:Nat->Prop} {J:St Z} {a:Act} {w:World} (m:Nat),k J=some r->SI C I Γ Φ J a.tmps w->Stp C Γ0 H0 w0 Φ0 Γ J.hp w Φ->a.defers=ds->Ba (D6 ro) n C.P all (DX Y L fd) (Q3 fd) (E2 C all) E (ts.map (·.1)) m [] a w:=λm h S hs hd=>by
  cases m<;>exact hN _ _ _ _ _ h hs S hd
 have d3:∀{l:List (Nat × Option Nat × Trn)} {f:Nat},f∈l.map (·.1)->∃d t,lkT l f=some (d,t):=by
  intro l
  induction l with
  | nil=>intro f h;cases h
  | cons e r ih=>
   intro f h;unfold lkT;cases hb:x9 f e.1 with
   | true=>exact⟨e.2.1,e.2.2,rfl⟩
   | false=>
    rcases x6.1 h with h|h
    ·rw[h,ai6] at hb;cases hb
    ·exact ih h
 intro N
 induction N with
 | zero=>
  intro seq Dn Γ Φ J a w b8 m hm p b2 h S hs a7 hd;have:seq=[]:=List.eq_nil_of_length_eq_zero (by omega);subst this;exact nil m h S hs hd
 | succ N ih=>
  intro seq Dn Γ Φ J a w b8 m hm p b2 h S hs a7 hd;cases seq with
  | nil=>exact nil m h S hs hd
  | cons i c=>
   have a6:=ae0.1 p.nd;have b7:∀f,f∈i::c->Dn f=none->∀d t,lkT ts f=some (d,t)->∀w1,I5 w w1->∀m',((Cw Dn (i::c)).erase f).length<=m'->
     wpOpIn (D6 ro) n C.P all QF f (λa' w'=>I5 w1 w'/\Ba (D6 ro) n C.P all (DX Y L fd) (Q3 fd) (E2 C all) E (ts.map (·.1)) m' ((Cw Dn (i::c)).erase f) a' w') a w1:=by
    intro f D c2 d t a1 w1 B m' d4;obtain⟨_,⟨o,ho,hg,e7,rfl,b1⟩,c4⟩:=p.fl f D d t a1;have b1:=b1 c2;refine Ay0 ho hg e7 b1 λV x hV=>⟨Ey w1 x,?_⟩
    obtain⟨S1,c0⟩:=S.like A.hI B;obtain⟨S2,c1⟩:=S1.like A.hI (Ey w1 x);have S3:=S2.put (o:=o) (v:=.bad) (V:=V) (.bad V) (by simp[PV.nms]);have e:({ J with sl:=L0 o.dst .bad J.sl }:St Z)=J:=by rw[c4]
    rw[e] at S3;have a8:∀q,Γ.St q->(w1.alloc x).heap[q]? = w.heap[q]?:=λq P=>by
     rw[E7 (w':=w1.alloc x) (o:=x) rfl (S1.hr.stlt q P),B.1.1 q (S.hr.stlt q P)]
    have u:=Ca3 (Dn:=Dn) p.nd f (w1.heap.size,x);have a0:f∈Cw Dn (i::c):=ac4.2 ⟨D,by rw[c2];rfl⟩;have d2:=ab9 a0;have e9:=ad0 a0;rw[<-u] at d4 ⊢;refine ih (i::c) (Zl Dn f (w1.heap.size,x)) (by rw[u,d2];omega) m' d4 ⟨p.lt,p.nd,λf' c5 U T z=>?_,p.ap,λq P=>⟨(p.base q P).1,(a8 q (p.base q P).1).trans (p.base q P).2⟩,λf' g x' M=>?_,λf1 f2 g x1 x2 h1 h2=>?_⟩ b2 h S3 (hs.trans (c0.trans c1)) (a7.trans (c0.trans c1)) (by rw[put_defers];exact hd)
    ·obtain⟨q1,⟨o',F,b0,G,a3,H⟩,q3⟩:=p.fl f' c5 U T z;refine⟨q1,⟨o',F,b0,G,a3,λM=>?_⟩,q3⟩;have y:f≠f':=λe=>by subst e;simp[Zl] at M
     have d8:Dn f'=none:=by simpa[Zl,ah4 y] using M
     have a9:=p.ap f D f' c5 y U T z o o' ho F;have e:=execOp_congr (ρ:=(a.put o.dst V).eval) (ρ':=a.eval) o' (λcs b e=>by rcases G with⟨_,_,_,h⟩|⟨_,h⟩<;>rw[h] at e<;>cases e) (Pd (T3 a o.dst V) a9.1);have hr:=H d8;unfold Qq at hr ⊢;rw[e];exact hr
    ·by_cases b9:f'=f
     ·subst b9;have M:(w1.heap.size,x)=(g,x'):=by simpa[Zl] using M
      cases M;refine⟨D,ae3 hs.size B.1.2,ae3 a7.size B.1.2,o.dst,t,a1,E6 rfl,λe=>aa3 _ (S1.hr.stlt _ e),λb e=>aa3 _ (S1.hr.lt b _ e).2.1,λe=>aa3 _ (A.hI.foot _ _ _ _ S1.inv _ e).1,⟨V,hV⟩,?_,λq P=>⟨(p.base q P).1,(a8 q (p.base q P).1).trans (p.base q P).2⟩⟩;rintro V' ⟨T,ht,b3⟩;have e:V'=V:=by
       rw[ht] at b3;simp only[af9] at b3;have:=(j8.1 b3).1;simp at this;simpa[this] using b3.symm
      rw[e];exact hV
     ·have M:Dn f'=some (g,x'):=by simpa[Zl,b9] using M
      obtain⟨q1,q2,q3,U,T,q4,q5⟩:=p.dn f' g x' M;obtain⟨_,⟨o',F,_,_,rfl,_⟩,_⟩:=p.fl f' q1 U T q4;exact⟨q1,q2,q3,_,T,q4,q5.step (c0.trans c1) a8 (T3 a o.dst V) (p.ap f D f' q1 (ah4 b9) _ T q4 o o' ho F).2⟩
    ·have d7:∀f3 x3,f3≠f->Dn f3=some (w1.heap.size,x3)->False:=λf3 x3 _ d9=>by
      obtain⟨_,_,_,_,_,_,q5⟩:=p.dn f3 _ x3 d9;have:=(j8.1 q5.at').1;have:=B.1.2;omega
     by_cases e1:f1=f
     ·by_cases e2:f2=f
      ·rw[e1,e2]
      ·have h1:(w1.heap.size,x)=(g,x1):=by simpa[Zl,e1] using h1
       have h2:Dn f2=some (g,x2):=by simpa[Zl,e2] using h2
       cases h1;exact(d7 f2 x2 e2 h2).elim
     ·have h1:Dn f1=some (g,x1):=by simpa[Zl,e1] using h1
      by_cases e2:f2=f
      ·have h2:(w1.heap.size,x)=(g,x2):=by simpa[Zl,e2] using h2
       cases h2;exact(d7 f1 x1 e1 h1).elim
      ·have h2:Dn f2=some (g,x2):=by simpa[Zl,e2] using h2
       exact p.dist f1 f2 g x1 x2 h1 h2
   cases a2:Dn i with
   | some gx=>
    obtain⟨g,x⟩:=gx;obtain⟨q1,q2,q3,d,t,q4,q5⟩:=p.dn i g x a2;simp only[Oo,q4] at h;obtain⟨e8,Γ',h',S',d5,⟨v,hv⟩,b6,d6,b5⟩:=YW A.hI S h q5;have u:Cw Dn (i::c)=Cw (Zc Dn i) c:=by
     rw[Ca2 a6.1];show ai8 _ _=_;rw[ag7,a2];rfl
    rw[u] at hm ⊢;have e3:c.length+(Cw (Zc Dn i) c).length<=N:=by
     rw[u,x4] at b8;omega
    obtain⟨_,⟨oi,e6,_,_,e5,_⟩,_⟩:=p.fl i q1 d t q4;refine ih c (Zc Dn i) e3 m hm ⟨λj hj=>p.lt j (by simp[hj]),a6.2,λf D U T z=>?_,λj hj f D=>p.ap j (by simp[hj]) f (by simp[D]),λq P=>⟨b6 q (p.base q P).1,(p.base q P).2⟩,λf g' x' M=>?_,λf1 f2 g' x1 x2 h1 h2=>?_⟩ (d6.trans b2) h' S' (d5 hs q2) (d5 a7 q3) hd
    ·obtain⟨p1,⟨o',F,b0,G,a3,H⟩,p3⟩:=p.fl f (by simp[D]) U T z;have y:i≠f:=λe=>a6.1 (e▸D)
     refine⟨p1,⟨o',F,b0,G,a3,λM=>H (by simpa[Zc,ah4 y] using M)⟩,?_⟩;rw[hv];have a9:=(p.ap i q1 f (by simp[D]) y U T z oi o' e6 F).2;cases U with
     | none=>rfl
     | some U=>
      cases d with
      | none=>exact p3
      | some d=>
       have e4:d≠U:=λe=>a9 (by rw[a3];simp) (by rw[e5,a3,e])
       simp only[L0] at p3 ⊢;rw[ai3 _ _ e4,p3]
    ·have y:f≠i:=λe=>by subst e;simp[Zc] at M
     have M:Dn f=some (g',x'):=by simpa[Zc,y] using M
     obtain⟨p1,p2,p3,U,T,p4,p5⟩:=p.dn f g' x' M;have d0:g'≠g:=λe=>y (p.dist f i g' x' x M (by rw[e];exact a2))
     have D:f∈c:=(x6.1 p1).resolve_left y;refine⟨D,p2,p3,U,T,p4,p5.at',λe=>p5.st ((b5 g' d0).1 e),λb e=>?_,p5.fo,p5.ex,p5.val,λq P=>⟨b6 q (p5.base q P).1,(p5.base q P).2⟩⟩;obtain⟨b',e'⟩:=(b5 g' d0).2 b e;exact p5.nm b' e'
    ·have n1:f1≠i:=λe=>by subst e;simp[Zc] at h1
     have n2:f2≠i:=λe=>by subst e;simp[Zc] at h2
     exact p.dist f1 f2 g' x1 x2 (by simpa[Zc,n1] using h1) (by simpa[Zc,n2] using h2)
   | none=>
    have u:Cw Dn (i::c)=i::Cw Dn c:=by
     show ai8 _ _=_;rw[ag7,a2];rfl
    have a5:∀f,f∈Cw Dn c->(Cw Dn (i::c)).erase f=i::(Cw Dn c).erase f:=λf D=>by
     have y:i≠f:=λe=>a6.1 (by rw[e];exact(ac4.1 D).1)
     rw[u,List.erase_cons_tail (by simpa using y)]
    have b4:(Cw Dn (i::c)).erase i=Cw Dn c:=by rw[u];simp
    cases m with
    | zero=>rw[u] at hm;simp at hm
    | succ m=>
     rw[u,x4] at hm;have a4:∀w1,I5 w w1->∀f,okN (ts.map (·.1)) f=true->f∈Cw Dn c->wpOpIn (D6 ro) n C.P all QF f (λa' w'=>I5 w1 w'/\Ba (D6 ro) n C.P all (DX Y L fd) (Q3 fd) (E2 C all) E (ts.map (·.1)) m (i::(Cw Dn c).erase f) a' w') a w1:=λw1 B f D a0=>by
      obtain⟨d,t,a1⟩:=d3 (Sw.1 D);obtain⟨c6,c7⟩:=ac4.1 a0;have:=b7 f (by simp[c6]) (by simpa using c7) d t a1 w1 B m (by rw[a5 f a0,x4,ab9 a0];have:=ad0 a0;omega);rwa [a5 f a0] at this
     cases a1:lkT ts i with
     | some dt=>
      obtain⟨d,t⟩:=dt;have f0:=(p.fl i (by simp) d t a1).1;rw[u];simp only[Ba];refine⟨λhk=>(by omega),λ_ w1 B=>⟨?_,a4 w1 B⟩⟩;have:=b7 i (by simp) a2 d t a1 w1 B m (by rw[b4];omega);rw[b4] at this;exact wpOpIn_mono (λa' w' h3=>⟨λ_=>h3.1,λ_=>h3.1.x,h3.2⟩) this
     | none=>
      simp only[Oo,a1] at h;have d1:=p.lt i (by simp);obtain⟨o,ho⟩:∃o,all[i]? = some o:=⟨all[i],y9 d1⟩
      have hc:J5 (D6 ro) n C.P all (DX Y L fd) (Q3 fd) (E2 C all) (Ba (D6 ro) n C.P all (DX Y L fd) (Q3 fd) (E2 C all) E (ts.map (·.1)) m (Cw Dn c)) [i] a w:=
       Lv ho (Y5 A hF [i] (λj hj=>by rw[List.mem_singleton] at hj;rw[hj];exact d1) b2 (λe=>by cases e) h S a7 λe8 a' w' Γ' Φ' k1 k2 k3 k4 c3=>by
        have a8:∀q,Γ.St q->w'.heap[q]? = w.heap[q]?:=k2.st S.hr λg h=>(A.hI.foot _ _ _ _ S.inv g h).2
        refine ih c Dn (by rw[u,x4,x4] at b8;omega) m (by omega) ⟨λj hj=>p.lt j (by simp[hj]),a6.2,λf D U T z=>?_,λj hj f D=>p.ap j (by simp[hj]) f (by simp[D]),λq P=>⟨k2.sub q (p.base q P).1,(a8 q (p.base q P).1).trans (p.base q P).2⟩,λf g x M=>?_,p.dist⟩ (k2.yv.trans b2) k1 (EJ ts c k3) (hs.trans k2) (a7.trans k2) (k4.trans hd)
        ·obtain⟨p1,⟨o',F,b0,G,a3,H⟩,_⟩:=p.fl f (by simp[D]) U T z;have y:i≠f:=λe=>a6.1 (e▸D)
         have a9:=p.ap i (by simp) f (by simp[D]) y U T z o o' ho F;refine⟨p1,⟨o',F,b0,G,a3,λM=>?_⟩,EK z D⟩;have e:=execOp_congr (ρ:=a'.eval) (ρ':=a.eval) o' (λcs b e=>by rcases G with⟨_,_,_,h⟩|⟨_,h⟩<;>rw[h] at e<;>cases e) (Pd c3 a9.1);have hr:=H M;unfold Qq at hr ⊢;rw[e];exact hr
        ·obtain⟨p1,p2,p3,U,T,p4,p5⟩:=p.dn f g x M;have y:i≠f:=λe=>by rw[e,M] at a2;cases a2
         have D:f∈c:=(x6.1 p1).resolve_left (ah4 y);obtain⟨_,⟨o',F,_,_,rfl,_⟩,_⟩:=p.fl f p1 U T p4;exact⟨D,p2,p3,_,T,p4,p5.step k2 a8 c3 (p.ap i (by simp) f p1 y _ T p4 o o' ho F).2⟩)
      rw[u];simp only[Ba];simp only[J5] at hc;exact⟨hc.1,λhk w1 B=>⟨hc.2 hk w1 B,a4 w1 B⟩⟩
end
theorem Yv{g:Array Oper}(S:SI C I Γ Φ J a.tmps w):∀(fl:List Nat) {k:List (Nat × Option Nat × Trn)->Option R},Yu C g J.sl fl k=some r->
  ∃i,k i=some r/\i.map (·.1)=fl/\∀f d t,lkT i f=some (d,t)->f∈fl/\∃o,g[f]? = some o/\o.guard=none/\XZ o.op/\o.dst=d/\Qq C Γ.St w o a.eval t
 | [],k,h=>⟨[],h,rfl,λf d t h=>by cases h⟩
 | f::fl,k,h=>by
  simp only[Yu] at h;split at h
  ·rename_i o x;obtain⟨v,l,t,h,c⟩:=FJ S h;obtain⟨i,p,q,u⟩:=Yv S fl h;refine⟨(f,o.dst,t)::i,p,by rw[s9,q],λm n A b=>?_⟩;unfold lkT at b;cases j:x9 m f with
   | true=>
    rw[j,cond_true] at b;have e:=aa0 b;cases e;obtain rfl:=j1 j;exact⟨by simp,o,x,v,l,rfl,c⟩
   | false=>
    rw[j,cond_false] at b;obtain⟨y,z⟩:=u m n A b;exact⟨by simp[y],z⟩
  ·cases h
theorem Sr:∀{l:List Nat},QE l=true->l.Nodup
 | [],_=>ah7
 | a::r,h=>by
  simp only[QE,c8,v8] at h;exact ae0.2 ⟨λb=>(by rw[Sw.2 b] at h;cases h.1),Sr h.2⟩
theorem XX{ro:Option Nat}{n id:Nat}{b:Array Oper}{fl:List Nat}{Q:Exit->Act->World->Prop}{k:St Z->Option R}(A:Ask C I K O X)(hm:C.P.follows .mixedOrders=true){fd:Option (List Nat × List Nat)}(M:Ao1 C fd b fl=true)(P:Γ.yv=X)
  (h:(Db C K O b fd J.hp true (R1 C b) J λl=>Yu C b l.sl fl λts=>Oo C K O b fd J.hp ts (O0 C b) { l with sl:=Mp ts (O0 C b) l.sl } k)=some r) (S:SI C I Γ Φ J a.tmps w)
  (hN:Nxt C I Γ Φ J.hp w a.defers k r (λa' w'=>Q .normal a' w')):(ae5 id b true).wpIn (D6 ro) n C.P Q a w:=by
 simp only[Ao1,c8] at M;obtain⟨h1,h2,h3,h4,m,h6,W,h7⟩:=M;rw[j2] at h2 h4 h6;have L:∀(j:Nat) (o:Oper) c,b[j]? = some o->o.op≠.defer c:=λj o c ho e=>by
  have:=h2 o (by simpa using ad4 ho);rw[e] at this;cases this
 have hk:∀j,b.size<=j->E2 C b j<=1:=λj p=>by
  simp only[E2,ac8 p];exact o6 _
 have G:∀j,j∈R1 C b\/j∈O0 C b->j<b.size:=λj p=>Lq (h4 j (by
  rcases p with p|p<;>simp[p]))
 have Y:∀i∈O0 C b,∀f∈fl,i≠f->∀U T,b[i]? = some U->b[f]? = some T->(∀q,U.dst=some q->q∉Ws T)/\(T.dst≠none->U.dst≠T.dst):=λi y f D z U T a4 a3=>by
  unfold Bh2 at m;rw[j2] at m;have m:=m f D;rw[a3] at m;simp only[j2,o7] at m;have m:=(m i y).resolve_left (λe=>z (j1 e));rw[a4] at m;dsimp only at m;cases hd:U.dst with
  | none=>exact⟨λq hq=>(by cases hq),λhn e=>hn e.symm⟩
  | some q=>
   rw[hd] at m;simp only[c8,v8,beq_eq_false_iff_ne,List.contains_eq_mem,decide_eq_false_iff_not] at m;exact⟨λq' a5=>(by cases a5;exact m.1),λ_ e=>m.2 e.symm⟩
 have hC:J5 (D6 ro) n C.P b (DX Γ w fd) (Q3 fd) (E2 C b) (Ba (D6 ro) n C.P b (DX Γ w fd) (Q3 fd) (E2 C b) (λa w0=>∀w,I5 w0 w->Q .normal a w) fl (O0 C b).length (O0 C b)) (R1 C b) a w:=
  Y5 A S.hr _ (λi y=>G i (.inl y)) P (λ_ _ h=>h) h S (Stp.refl S.hr) λl a1 w1 B V k1 k2 k3 k4=>by
   obtain⟨ts,a0,H,N⟩:=Yv k3 fl k1;have v:Cw (λ_=>none) (O0 C b)=O0 C b:=List.filter_eq_self.2 λ_ _=>rfl
   have:=Al3 (ro:=ro) (n:=n) (all:=b) (E:=λa w0=>∀w,I5 w0 w->Q .normal a w) (ts:=ts) (Sb:=B.St) (wb:=w1) (Γ0:=B) (H0:=l.hp) (w0:=w1) (Φ0:=V) (ds:=a1.defers) (k:=k) (fd:=fd) A S.hr (λa8 a2 w2 Γ2 Φ2 q1 q2 q3 q4 w3 a7=>by
    obtain⟨S3,a6⟩:=q3.like A.hI a7;exact hN a8 a2 w3 Γ2 Φ2 q1 (k2.trans (q2.trans a6)) S3 (q4.trans k4)) _ (O0 C b) (λ_=>none) (Γ:=B) (Φ:=V) (J:={ l with sl:=Mp ts (O0 C b) l.sl }) (a:=a1) (w:=w1) (o6 _) (O0 C b).length (by rw[v];exact o6 _)
    ⟨λi y=>G i (.inr y),Sr W,λf D d t u=>by
     obtain⟨p1,o,p2,p3,p4,p5,p6⟩:=N f d t u;exact⟨j1 (h6 f p1),⟨o,p2,p3,p4,p5,λ_=>p6⟩,EK u D⟩,λi y f D z d t u=>Y i y f (N f d t u).1 z,λq hq=>⟨hq,rfl⟩,λf g x h=>(by cases h),λf f' g x x' h=>(by cases h)⟩
    (k2.yv.trans P) a0 (EJ ts _ k3) (Stp.refl k3.hr) k2 rfl
   rwa [v,H] at this
 refine wpIn_region_any hm ?_;have F:=j1 h3;have e:b.size=(O0 C b).length+(R1 C b).length:=by
  rw[<-F,k9];omega
 rw[e];refine Dy (wr:=λj=>o8 3 (E2 C b j)) (Qn:=λa w=>Q .normal a w) (λ_ _ h=>h) _ _ _ _ (Jv (fin:=Gi .any b (Q3 fd) (E2 C b) fl (O0 C b).length (O0 C b)) h1 L hk
  (λlisted a w0 D hd hM w hw=>Bi8 h1 L hk _ _ listed a w0 D hd hM w hw) (R1 C b) (aa9 ((O0 C b).length+(R1 C b).length) false) a w (by rw[<-e];exact h7) (λj o ho p=>?_) hC _ ⟨⟨λ_ _=>rfl,o6 _⟩,rfl,rfl,rfl⟩)
 simp only[j6,ab8] at p;split at p<;>cases p
theorem Ca1{m:Option Nat}{n id:Nat}{e:Array Oper}{Q:Exit->Act->World->Prop}{k:St Z->Option R}(A:Ask C I K O X)(f:C.P.follows .mixedOrders=true)(b:An9 C id e=true)(d:Γ.yv=X)(h:An8 C K O id e true J k=some r)(S:SI C I Γ Φ J a.tmps w)
  (hN:Nxt C I Γ Φ J.hp w a.defers k r (λl w'=>Q .normal l w')):(ae5 id e true).wpIn (D6 m) n C.P Q a w:=by
 unfold An8 at h;unfold An9 at b;split at h
 ·rename_i g;rw[g] at b;dsimp only at h b;split at h
  ·rename_i c;rw[c] at b;exact Ba8 A f b d h S hN
  ·rename_i fl c;rw[c] at b;exact XX A f b d h S hN
 ·rename_i i g;rw[g] at b;split at h
  ·rename_i o _ j;refine Ao2 A f ?_ d j h S hN;rw[o7] at b;rcases b with b|b
   ·have:=(j8.1 j).1;have:=ad5 b;omega
   ·exact b
  ·cases h
end
end
end Go.Proofs.YtiodfnbjmmdlmaaGreatDoor.E
