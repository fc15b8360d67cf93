/-
  Parts of the proof, merged by a program of the prover's own; no condition.
-/
import Derived.Test.YtigcfngmhpofjaaGreatDoorKTN1
import Derived.RangeFuncRecord
import Derived.Sort.QuietThIn
import Derived.TacticsIn
open Bool renaming and_eq_true->a7,or_eq_true->o5,not_eq_true'->s7,false_eq_true->v8,false_or->af9
open List renaming getElem?_eq_getElem->a8,getElem_map->b7,getElem_mem->b8,all_eq_true->c9,getD_eq_getElem?_getD->j0,length_append->j2,getElem?_eq_some_iff->j4,map_cons->o9,length_map->p6,mem_append->p7,eq_nil_iff_forall_not_mem->p9,getElem_append_left->r9,getElem?_append_right->s9,getElem?_take->u0,getElem?_map->u4,mem_cons->u5,length_eq_zero_iff->u7,isEmpty_iff->x7,mem_map->x8,getElem?_append_left->y7,getElem_append_right->y8,append_nil->aa0,foldl_cons->aa1,mem_map_of_mem->ab6,map_nil->ab7,length_take->ab9,take_of_length_le->ac3,nil_append->ac6,length_singleton->ac8,filterMap_cons->ad2,length_pos_iff->ad3,map_map->ad6,any_eq_true->ad9,getElem_inj->ae0,length_cons->ae1,take_length->ae2,map_append->ae9,mem_filter->af0,nodup_cons->af1,drop_zero->af5,mem_range->af6,nodup_nil->af7,range->af8,drop_nil->ag2,take_nil->ag3,length->ag7
open Option.some renaming injEq->b9,inj->af2
open Nat renaming le_refl->h9,lt_of_lt_of_le->j3,eq_of_beq_eq_true->j7,le_trans->k9,ble->o8,zero_add->s5,le_of_ble_eq_true->w9,mul_le_mul_right->x3,beq->x9,add_mul->aa3,lt_irrefl->ab0,add_sub_cancel_left->ac0,zero_le->ae7
open Array renaming getD_eq_getD_getElem?->j1,getElem?_eq_some_iff->j8,toList_map->s8,getElem?_eq_getElem->y5,replicate->ab2,getElem?_replicate->ab8,getElem?_eq_none->ac2,mem_of_getElem?->ac7,length_toList->ad1,size_append->ad4
open Go.Region renaming wanted->j5,ready->j6,Mode->v7,noSelect->w8,binds->aa5
open Go.Deferred renaming ofValue->j9
open Go.MapKept renaming run_checkKey->o0,run_getObj_map->p4,run_findKey->p5,run_setObj_map->w6,IsKey->y9,bytes_beq->ad7
open Decidable renaming byContradiction->o3
open Option renaming map_some->o6,isSome_iff_exists->s6,isNone_iff_eq_none->u3,bind_some->aa8,getD_some->ae5
open Go.World renaming putObj_heap_other->o7,putObj_heap_same->aa6,shape?->aa7,cell?->ae8
open Go.Oper renaming semAt_eq->u6,uponIn->u9,quietAtIn->x4,wpIn->ac1,quietUponIn->ae4
open Go.Instr renaming lookup->w5,findNow->aa9,mapUpdate->ab4,alloc->ae6,sureAddr->af4,extract->ag0,makeMap->ag1,loadAt->ag6
open Go.Result renaming andThen->x5
open Go.Act renaming put_comm->x6,put->ag5
open Go.Builtin renaming delete_->z7,zeroCells->aa4,append_->ab3
open Or renaming inl->aa2
open Prod.mk renaming injEq->ab1
open Go.Result.ok renaming injEq->ab5
open Go.Sem renaming run_bind->ac4,run_pure->ac5
open Go.Code renaming region->ac9
open Prod renaming snd->ad0
open Go.CallsIn renaming mono->ad5
open Go.RoundIn renaming mono->ad8
open Go.Next.value renaming injEq->ae3
open Go.Fence renaming wide->af3
open Go.StepsIn renaming trans->ag4
open Go.RowsIn renaming mono->ag8
namespace Go.Proofs.YtigcfngmhpofjaaGreatDoor.E
set_option linter.all false
section
open Go
section
variable {Γ : Ctx} {H : List Blk} {w : World} {R : Type} {r : R} {C : Cfg}
def Els(St:Nat->Prop)(w:World)(n:Nat)(a:List (List SV))(b:List Value):Prop:=
 b.length=a.length*n/\∀i (h:i<a.length),(a[i]).length=n/\∀j (c:j<(a[i]).length),∃U,b[i*n+j]? = some U/\VS St w (a[i][j]) U
theorem Gc.toEls{P:Program}{n:Nat}{X:Value}{news:List (List SV)}{Vs:List Value}(h:Gc P Γ w n X news Vs):Els Γ.St w n news Vs:=⟨h.size,h.els⟩
theorem Els.append{St:Nat->Prop}{n:Nat}{a b:List (List SV)}{A B:List Value}(ha:Els St w n a A)(hb:Els St w n b B):Els St w n (a++b) (A++B):=by
 refine⟨by rw[j2,j2,ha.1,hb.1,aa3],λi hi=>?_⟩;rw[j2] at hi;by_cases h:i<a.length
 ·have e:(a++b)[i]'(by rw[j2];exact hi)=a[i]:=r9 h;refine⟨by rw[e];exact(ha.2 i h).1,λj hj=>?_⟩;have hj':j<(a[i]).length:=by rw[<-e];exact hj
  obtain⟨U,e1,k⟩:=(ha.2 i h).2 j hj';grind
 ·have h':i-a.length<b.length:=by omega
  have e:(a++b)[i]'(by rw[j2];exact hi)=b[i-a.length]:=y8 (by omega);refine⟨by rw[e];exact(hb.2 _ h').1,λj hj=>?_⟩;have hj':j<(b[i-a.length]).length:=by rw[<-e];exact hj
  obtain⟨U,e1,k⟩:=(hb.2 _ h').2 j hj';refine⟨U,?_,by simp only[e];exact k⟩;have hle:a.length*n<=i*n:=x3 _ (by omega);rw[s9 (by rw[ha.1];omega),ha.1,<-e1]
  congr 1
  rw[Nat.sub_mul];omega
theorem Els.mono{St St':Nat->Prop}{w':World}{n:Nat}{els:List (List SV)}{Vs:List Value}(h:Els St w n els Vs)(hs:∀g,St g->w'.heap[g]? = w.heap[g]?)(hsub:∀g,St g->St' g):Els St' w' n els Vs:=
 ⟨h.1,λi hi=>⟨(h.2 i hi).1,λj hj=>by obtain⟨U,e,k⟩:=(h.2 i hi).2 j hj;exact⟨U,e,k.mono hs hsub⟩⟩⟩
theorem BR.els{Γ':Ctx}{sh:Nat->Option Shp}{w':World}{b g e n:Nat}{v:Bool}{els:List (List SV)}{Vs:List Value}{cur:Array Value}(hg:Γ'.nm b=some g)(hh:w'.heap[g]? = some (.cells cur e (0,0)))(hE:Els Γ'.St w' n els Vs)(hne:¬(v=true/\els=[]))
  (hc:∀q,q<Vs.length->cur[q]? = Vs[q]?) (hl:Vs.length<=cur.size):BR Γ' sh w' b (.arr v e n els):=by
 refine .inr ⟨hne,g,cur,hg,hh,by rw[<-hE.1];exact hl,λi hi=>(hE.2 i hi).1,λi hi j hj=>?_⟩;obtain⟨U,e1,k⟩:=(hE.2 i hi).2 j hj;exact⟨U,by rw[hc _ (j4.1 e1).1];exact e1,k⟩
theorem Oy{n m bytes:Nat}(h:n+m<=68719476736)(a:bytes<=512):(n+m)*bytes<=140737488355328:=by have:(n+m)*bytes<=68719476736*512:=Nat.mul_le_mul h a;omega
theorem Cl{need cap e:Nat}(h:need<=68719476736):need<=grownCap w need cap e/\grownCap w need cap e<=maxLen:=
 ⟨grownCap_ge _ _ _ _,grownCap_le_maxLen _ _ _ _ (by simp only[maxLen];omega)⟩
theorem Od{olds Vs:List Value}{z:Array Value}{k n m size:Nat}(d:z.size=size)(b:olds.length=n*size)(a:Vs.length=m*size)(e:n+m<=k) :
  (olds.toArray++Vs.toArray++aa4 z (k-(n+m))).size=k*size/\(∀q,q<(olds++Vs).length->(olds.toArray++Vs.toArray++aa4 z (k-(n+m)))[q]? = (olds++Vs)[q]?):=by
 refine⟨?_,λq c=>?_⟩
 ·simp only[ad4,List.size_toArray,size_zeroCells,d,b,a,<-aa3]
  congr 1;omega
 ·rw[Array.getElem?_append_left (by simpa using c)];simp
theorem Av3{z:Bool}{d:Nat}{b:List (List SV)}{S:Value}(h:VS Γ.St w (.sl z true d b) S):∃A,S = .slice A b.length b.length/\(z=true->A=none/\b=[])/\(z=false->A≠none)/\∀i (h:i<b.length),(b[i]).length=d:=by
 cases h with
 | nil=>exact⟨none,rfl,λ_=>⟨rfl,rfl⟩,by simp,λi h=>by simp at h⟩
 | emp _ _ a cap f e=>
  simp_all
 | sl _ _ g off n cap q j o c e f l m k p=>
  simp_all
theorem Sd{t u ty e:Nat}{z:Bool}{els a:List (List SV)}{S X:Value}{A:Option Addr}{sl:List PV}{tmps:Array Value}(l:HR Γ H w)(U:C.P.underlying t=some (.slice e))(hu:Xc (C.sh u)=true)(J:(C.ti e).ok=true)
  (hS:S = .slice A els.length els.length) (D:SlV Γ w S els) (hz:z=true->A=none/\els=[]) (j:∀i (h:i<els.length),(els[i]).length=(C.ti e).ks.length) {B:List Value} (y:Gc C.P Γ w (C.ti e).ks.length X a B)
  (I:z=true\/a≠[]) (Q:els.length+a.length<=68719476736) :
  WV C Γ H w sl tmps (ab3 #[t,u] ty #[S,X]) (.fl H.length) sl (H++[.arr z e (C.ti e).ks.length (els++a)]):=by
 obtain⟨ud,q,v⟩:=Lc hu;obtain⟨ie,dd,Z,N,hd,L,p,F,O,a0,M,c⟩:=V4 J;subst hS;by_cases G:a=[]
 ·subst G;rcases I with h|h
  ·obtain⟨rfl,rfl⟩:=hz h;subst h;have b:=Q4 (P:=C.P) (w:=w) (ty:=ty) (n:=0) (cap:=0) (base:=none) U q v N (by rw[c];exact y) (h9 _) (w':=w) rfl;exact⟨_,w,Γ,b,BG l,LT l rfl (.inl ⟨rfl,rfl⟩),SR.grow (Ln _ l),.flv _ e (C.ti e).ks.length (by rw[D8];rfl),by simp[PV.nms]⟩
  ·exact absurd rfl h
 ·have hm:0<a.length:=ad3.2 G;obtain⟨olds,x⟩:=Gc.slice (P:=C.P) D j;have K:olds.take (els.length*(C.ti e).ks.length)=olds:=ac3 (by rw[x.size];exact h9 _);have b:=Ad (P:=C.P) (w:=w) (ty:=ty) (olds:=olds) U q v N L (by rw[c];exact y) (λw' hw=>by have:=x.first els.length (h9 _) w' hw;rw[K] at this;rw[c];exact this) (by omega) (by simp only[maxLen];omega) (Oy Q F);obtain⟨f,m⟩:=Cl (w:=w) (need:=els.length+a.length) (cap:=els.length) (e:=e) Q;generalize grownCap w (els.length+a.length) els.length e=V at b f m;obtain⟨W,Y⟩:=Od (z:=Z.cells) (by rw[<-p,c]) x.size y.size f;generalize T:olds.toArray++B.toArray++aa4 Z.cells (V-(els.length+a.length))=row at b W Y;have d:(w.drew.alloc (.cells row e)).heap=w.heap.push (.cells row e):=rfl;have hE:=(x.toEls.append y.toEls).mono (w':=w.drew.alloc (.cells row e)) (λg hg=>C8 d (l.stlt g hg)) (λ_ h=>h);have o:¬(z=true/\els++a=[]):=by rintro⟨_,h⟩;simp at h;exact G h.2
  have k:(olds++B).length<=row.size:=by grind
  refine Y7 l b d rfl rfl rfl (BR.els (g:=w.heap.size) (cur:=row) (by simp[Ctx.upd]) (C7 d) hE o Y k) (by simp[Blk.nms]) ?_ (by simp[PV.nms]);refine .fl H.length w.heap.size z e (C.ti e).ks.length (els.length+a.length) V ?_ (λ_=>by omega) (by simp[Ctx.upd]) f m ?_
  ·rw[D8];simp[Blk.shp]
  ·simp only[aa7,C7 d,W]
theorem JI{t u ty e b A sz:Nat}{v:Bool}{a d:List (List SV)}{S X:Value}{sl:List PV}{B:Array Value}(D:HR Γ H w)(ht:C.P.underlying t=some (.slice e))(hu:Xc (C.sh u)=true)(c2:(C.ti e).ok=true)(hb:H[b]? = some (.arr v A sz a))(c1:Et C A=false)
  (Q:(v=true/\a=[])\/(A=e/\sz=(C.ti e).ks.length)) (hS:VP Γ (A0 H) w (.fl b) S) {Vs:List Value} (T:Gc C.P Γ w (C.ti e).ks.length X d Vs) (hr:a.length+d.length<=68719476736) :
  WV C Γ H w sl B (ab3 #[t,u] ty #[S,X]) (.fl b) (N9 b sl) ((H.map (Blk.kill b)).set b (.arr v e (C.ti e).ks.length (a++d))):=by
 obtain⟨ud,a4,a5⟩:=Lc hu;obtain⟨ie,dd,zv,V,hd,c6,b1,b4,c8,d3,c7,x⟩:=V4 c2;have f:=(j4.1 hb).1;have K:¬Dg C (A0 H b):=by
  simp only[A0,hb,o6,Blk.shp,Dg,c1];simp
 have d1:b<((H.map (Blk.kill b)).set b (.arr v e (C.ti e).ks.length (a++d))).length:=by simpa using f
 have grow:∀(base:Option Addr) (cap:Nat),S = .slice base a.length cap->cap<a.length+d.length->SlV Γ w S a->(∀i (h:i<a.length),(a[i]).length=(C.ti e).ks.length)->
   WV C Γ H w sl B (ab3 #[t,u] ty #[S,X]) (.fl b) (N9 b sl) ((H.map (Blk.kill b)).set b (.arr v e (C.ti e).ks.length (a++d))):=by
  intro base cap b3 I Y l;subst b3;obtain⟨olds,W⟩:=Gc.slice (P:=C.P) Y l;have c3:olds.take (a.length*(C.ti e).ks.length)=olds:=ac3 (by rw[W.size];exact h9 _);have m:=Ad (P:=C.P) (w:=w) (ty:=ty) (olds:=olds) ht a4 a5 V c6 (by rw[x];exact T) (λw' hw=>by have:=W.first a.length (h9 _) w' hw;rw[c3] at this;rw[x];exact this) I (by simp only[maxLen];omega) (Oy hr b4);obtain⟨a0,b0⟩:=Cl (w:=w) (need:=a.length+d.length) (cap:=cap) (e:=e) hr;generalize grownCap w (a.length+d.length) cap e=kc at m a0 b0;obtain⟨r1,r2⟩:=Od (z:=zv.cells) (by rw[<-b1,x]) W.size T.size a0;generalize d0:olds.toArray++Vs.toArray++aa4 zv.cells (kc-(a.length+d.length))=row at m r1 r2;have G:(w.drew.alloc (.cells row e)).heap=w.heap.push (.cells row e):=rfl;have N:∀g,Γ.St g->(w.drew.alloc (.cells row e)).heap[g]? = w.heap[g]?:=λg p=>C8 G (D.stlt g p)
  have hE:=(W.toEls.append T.toEls).mono (w':=w.drew.alloc (.cells row e)) N (λ_ h=>h);have b5:0<a.length+d.length:=by omega
  have J:¬(v=true/\a++d=[]):=by rintro⟨_,h⟩;have:=congrArg ag7 h;simp at this;simp[this] at b5
  have M:(olds++Vs).length<=row.size:=by grind
  have L:(Γ.re b (some w.heap.size)).nm b=some w.heap.size:=by simp[Ctx.re]
  obtain⟨s1,s2,s3⟩:=CC (C:=C) (y:=.arr v e (C.ti e).ks.length (a++d)) (ng:=some w.heap.size) (w':=w.drew.alloc (.cells row e)) D f K (λg p=>by
    simp only[b9] at p;subst p;refine⟨by rw[G];simp,λhs=>ab0 _ (D.stlt _ hs),λc _ Q=>ab0 _ (D.lt c _ Q).2.1⟩)
   (λg p=>by simp only[b9] at p;subst p;exact .inr (h9 _)) (λk O _=>C8 G O) (by rw[G];simp) rfl rfl rfl
   (BR.els (g:=w.heap.size) (cur:=row) L (C7 G) hE J r2 M) rfl
  refine⟨_,_,_,m,s1,s2,s3 sl B,?_,by simpa[PV.nms] using f⟩;refine .fl b w.heap.size v e (C.ti e).ks.length (a.length+d.length) kc ?_ (λ_=>by omega) L a0 b0 ?_
  ·rw[Mh f,if_pos rfl];simp[Blk.shp]
  ·simp only[aa7,C7 G,r1]
 cases hS with
 | flv _ e2 b2 h'=>
  obtain⟨rfl,_,_,h4⟩:=H5 hb h';obtain rfl:=u7.1 h4;by_cases hn:d=[]
  ·subst hn;have m:=Q4 (P:=C.P) (w:=w) (ty:=ty) (n:=0) (cap:=0) (base:=none) ht a4 a5 V (by rw[x];exact T) (h9 _) (w':=w) rfl;obtain⟨s1,s2,s3⟩:=CC (C:=C) (y:=.arr true e (C.ti e).ks.length ([]++[])) (ng:=Γ.nm b) (w':=w) D f K (λg p=>⟨(D.lt b g p).2.1,(D.lt b g p).2.2,λc Q Z=>Q (D.inj c b g Z p)⟩)
    (λg p=>.inl p) (λ_ _ _=>rfl) (h9 _) rfl rfl rfl (.inl ⟨rfl,rfl⟩) rfl
   exact⟨_,_,_,m,s1,s2,s3 sl B,.flv b e (C.ti e).ks.length (by rw[Mh f,if_pos rfl];rfl),by simpa[PV.nms] using f⟩
  ·have hm:0<d.length:=ad3.2 hn;refine grow none 0 rfl (by simpa using hm) ⟨none,0,rfl,h9 _,ae7 _,λ_=>rfl,λh=>absurd rfl h⟩ (λi h=>by simp at h)
 | fl _ g v' e2 b2 n' cap h' hv p I hm hs=>
  have Y:=Mi (C:=C) D (VP.fl b g v' e2 b2 n' cap h' hv p I hm hs) (show Ab H (.fl b)=some a by simp only[Ab,hb]);obtain⟨rfl,rfl,rfl,rfl⟩:=H5 hb h';have a2:¬(v=true/\a=[]):=by rintro⟨q1,q2⟩;exact hv q1 (by rw[q2];rfl)
  rcases Q with Q|⟨rfl,rfl⟩
  ·exact absurd Q a2
  ·obtain⟨g',cur,a9,hh,M,l,a6⟩:=D.arr' hb a2;rw[p] at a9;cases a9;by_cases F:a.length+d.length<=cap
   ·have b6:cur.size=cap*(C.ti A).ks.length:=by
     have:=hs;simp only[aa7,hh,b9,ab1,true_and] at this;exact this
    have a1:a.length*(C.ti A).ks.length+Vs.length<=cur.size:=by
     rw[T.size,b6,<-aa3];exact x3 _ F
    obtain⟨w',r1,r2,r3,r4,r5,r6,r7,r8⟩:=G1 (P:=C.P) (o:=a.length*(C.ti A).ks.length) hh a1 T.one;have m:=Q4 (P:=C.P) (w:=w) (ty:=ty) (n:=a.length) (cap:=cap) (base:=some ⟨g,0,none⟩) ht a4 a5 V (by rw[x];exact T) F (w':=w') (by simp only;rw[H3,x,s5];exact r1);have N:∀k,Γ.St k->w'.heap[k]? = w.heap[k]?:=λk O=>r3 k (λe=>(D.lt b g p).2.2 (e▸O))
    have W:Els Γ.St w (C.ti A).ks.length a (cur.toList.take (a.length*(C.ti A).ks.length)):=by
     refine⟨by simp;omega,λi V=>⟨l i V,λj hj=>?_⟩⟩;obtain⟨U,e1,k⟩:=a6 i V j hj;refine⟨U,?_,k⟩;have d2:j<(C.ti A).ks.length:=by rw[<-l i V];exact hj
     have:(i+1)*(C.ti A).ks.length<=a.length*(C.ti A).ks.length:=x3 _ V;rw[aa3] at this;rw[u0,if_pos (by omega)];simpa using e1
    have hE:=(W.append T.toEls).mono (w':=w') N (λ_ h=>h);have J:¬(v=true/\a++d=[]):=by rintro⟨h1,h⟩;simp at h;exact a2 ⟨h1,h.1⟩
    have L:(Γ.re b (some g)).nm b=some g:=by simp[Ctx.re]
    have a3:(cur.toList.take (a.length*(C.ti A).ks.length)).length=a.length*(C.ti A).ks.length:=W.1;obtain⟨s1,s2,s3⟩:=CC (C:=C) (y:=.arr v A (C.ti A).ks.length (a++d)) (ng:=some g) (w':=w') D f K (λk O=>by
      simp only[b9] at O;subst O;refine⟨by have:=(D.lt b g p).2.1;omega,(D.lt b g p).2.2,λc Q Z=>Q (D.inj c b g Z p)⟩)
     (λk O=>by simp only[b9] at O;subst O;exact .inl p) (λk O c0=>r3 k (λe=>c0 (e▸p))) (by omega) r5 r6 r7
     (BR.els L r2 hE J (λq hq=>by
      rw[j2,a3] at hq;simp only[List.getElem?_toArray];rw[H9 _ _ _ (by simpa using a1)];by_cases c4:q<a.length*(C.ti A).ks.length
      ·rw[if_neg (by omega),y7 (by omega),u0,if_pos c4]
      ·rw[if_pos (by omega),s9 (by omega),a3]) (by rw[j2,a3];simpa[B8] using a1)) rfl
    refine⟨_,_,_,m,s1,s2,s3 sl B,?_,by simpa[PV.nms] using f⟩;refine .fl b g v A (C.ti A).ks.length (a.length+d.length) cap ?_ (λc5=>?_) L F hm ?_
    ·rw[Mh f,if_pos rfl];simp[Blk.shp]
    ·have:=hv c5;omega
    ·rw[r8];exact hs
   ·exact grow _ cap rfl (by omega) Y l
theorem Iu{t u ty:Nat}{sl:List PV}{s x:PV}{S X:Value}{k:PV->List PV->List Blk->Option R}{tmps:Array Value}(j:HR Γ H w)(F:Xc (C.sh u)=true)(h:Ae C t sl s x H k=some r)(n:VP Γ (A0 H) w s S)(J:VP Γ (A0 H) w x X) :
  ∃v m H',k v m H'=some r/\WV C Γ H w sl tmps (ab3 #[t,u] ty #[S,X]) v m H':=by
 unfold Ae at h;split at h
 ·rename_i e B;have D:=E7 B;split at h
  ·rename_i a;simp only[a7] at a;obtain⟨a,l⟩:=a;split at h
   ·rename_i G f;obtain⟨L,p⟩:=Yi (C:=C) j J l f;split at h
    ·obtain⟨c,g⟩:=B1 h;simp only[F8,decide_eq_true_eq] at c;obtain rfl:=n.inv_nsl;have:=Sd (C:=C) (t:=t) (u:=u) (ty:=ty) (z:=true) (els:=[]) (A:=none) (sl:=sl) (tmps:=tmps) j D F a rfl ⟨none,0,rfl,h9 _,ae7 _,λ_=>rfl,λh=>absurd rfl h⟩ (λ_=>⟨rfl,rfl⟩) (λi h=>by simp at h) p (.inl rfl) (by simpa using c);exact⟨_,_,_,g,this⟩
    ·rename_i z N els;split at h
     ·rename_i y;subst y;obtain⟨c,g⟩:=B1 h;simp only[F8,a7,o5,decide_eq_true_eq,s7,List.isEmpty_eq_false_iff] at c;obtain⟨A,rfl,K,_,d⟩:=Av3 n.inv_s;have o:=Mi (C:=C) j n (show Ab H (.s (.sl z true (C.ti e).ks.length els))=some els from rfl);exact⟨_,_,_,g,Sd (C:=C) j D F a rfl o K d p c.1 c.2⟩
     ·cases h
    ·rename_i b;split at h
     ·rename_i v M O els I;split at h
      ·rename_i q;simp only[a7,s7,o5,decide_eq_true_eq,x7] at q;obtain⟨c,g⟩:=B1 h;simp only[F8,decide_eq_true_eq] at c;exact⟨_,_,_,g,JI (C:=C) j D F a I q.1 q.2.symm n p c⟩
      ·cases h
     ·cases h
    ·cases h
   ·cases h
  ·cases h
 ·cases h
end
section
variable {Γ : Ctx} {H : List Blk} {w : World} {R : Type} {r : R} {C : Cfg}
theorem Qo{sh:Nat->Option Shp}(s:ByteArray):∀(l:List (List UInt8 × PV)) (c:List MapEntry) (n:Nat),MR Γ sh w l c->
  (U5 l s.data.toList=false/\aa9 .string (.string s) c n=some none/\Co l s.data.toList=l/\∀v V b,VP Γ sh w v V->MR Γ sh w (Bt l s.data.toList v) (c++[⟨.string s,V,b⟩]))\/
  (U5 l s.data.toList=true/\∃i E,aa9 .string (.string s) c n=some (some (n+i,E.val))/\c[i]? = some E/\E.key = .string s/\VP Γ sh w (T4 .bad l s.data.toList) E.val/\MR Γ sh w (Co l s.data.toList) (c.eraseIdx i)/\
   ∀v V,VP Γ sh w v V->MR Γ sh w (Bt l s.data.toList v) (c.modify i λe=>{ e with key:=.string s,val:=V }))
 | [],[],n,_=>.inl ⟨rfl,rfl,rfl,λv V b j=>⟨⟨⟨s,rfl,rfl⟩,j⟩,trivial⟩⟩
 | e::l,E::c,n,h=>by
  obtain⟨⟨⟨f,m,d⟩,j⟩,x⟩:=h;have g:Instr.sameNow .string (.string s) E.key=some (s==f):=by rw[m];rfl
  have heq:(s==f)=(s.data.toList==e.1):=by
   rw[<-d,Bool.eq_iff_iff];simp only[ad7,beq_iff_eq];constructor
   ·rintro rfl;rfl
   ·intro h;have e:s.data=f.data:=Array.toList_inj.1 h;cases s;cases f;simp_all
  cases a:(s.data.toList==e.1) with
  | true=>
   rw[a] at heq;have A:e.1=s.data.toList:=(eq_of_beq a).symm;have y:s=f:=(ad7 s f).1 heq;subst y;refine .inr ⟨by simp only[U5,a,cond_true],0,E,by simp[aa9,g,heq],rfl,m,by simpa only[T4,a,cond_true] using j,by simpa only[Co,a,cond_true,List.eraseIdx_zero,List.tail_cons] using x,λv V k=>?_⟩;simp only[Bt,a,cond_true];exact⟨⟨⟨s,rfl,A.symm⟩,k⟩,x⟩
  | false=>
   rw[a] at heq;rcases Qo s l c (n+1) x with⟨o,p,q,t⟩|⟨o,i,z,p,q,u,t,B,D⟩
   ·refine .inl ⟨by simp only[U5,a,cond_false,o],by simp[aa9,g,heq,p],by simp only[Co,a,cond_false,q],λv V b k=>?_⟩;simp only[Bt,a,cond_false];exact⟨⟨⟨f,m,d⟩,j⟩,t v V b k⟩
   ·refine .inr ⟨by simp only[U5,a,cond_false,o],i+1,z,by simp[aa9,g,heq,p];omega,by simpa using q,u,by simpa only[T4,a,cond_false] using t,?_,λv V k=>?_⟩
    ·simp only[Co,a,cond_false,List.eraseIdx_cons_succ];exact⟨⟨⟨f,m,d⟩,j⟩,B⟩
    ·simp only[Bt,a,cond_false,List.modify_succ_cons];exact⟨⟨⟨f,m,d⟩,j⟩,D v V k⟩
 | [],_::_,_,h=>h.elim
 | _::_,[],_,h=>h.elim
theorem Xn:∀(l:List (List UInt8 × PV)) (q:List UInt8),∀c∈(T4 .bad l q).nms,c∈B3 (l.map ad0)
 | [],q,c,a=>by simp[T4,PV.nms] at a
 | e::l,q,c,a=>by
  simp only[T4] at a;simp only[o9,B3,p7];cases b:(q==e.1) with
  | true=>rw[b] at a;exact .inl a
  | false=>rw[b] at a;exact .inr (Xn l q c a)
theorem Xq(v:PV):∀(l:List (List UInt8 × PV)) (q:List UInt8),∀c∈B3 ((Bt l q v).map ad0),c∈B3 (l.map ad0)\/c∈v.nms
 | [],q,c,a=>by simp only[Bt,o9,ab7,B3,aa0] at a;exact .inr a
 | e::l,q,c,a=>by
  simp only[Bt] at a;cases b:(q==e.1) with
  | true=>
   rw[b] at a;simp only[cond_true,o9,B3,p7] at a ⊢;exact a.elim .inr (λh=>.inl (.inr h))
  | false=>
   rw[b] at a;simp only[cond_false,o9,B3,p7] at a ⊢;rcases a with h|h
   ·exact .inl (.inl h)
   ·exact(Xq v l q c h).elim (λh=>.inl (.inr h)) .inr
theorem Xl:∀(l:List (List UInt8 × PV)) (q:List UInt8),∀c∈B3 ((Co l q).map ad0),c∈B3 (l.map ad0)
 | [],q,c,a=>a
 | e::l,q,c,a=>by
  simp only[Co] at a;simp only[o9,B3,p7];cases b:(q==e.1) with
  | true=>rw[b] at a;exact .inr a
  | false=>
   rw[b] at a;simp only[cond_false,o9,B3,p7] at a;exact a.imp id (Xl l q c)
theorem HR.mp'(hH:HR Γ H w){b:Nat}{ents:List (List UInt8 × PV)}{X:Value}(hb:H[b]? = some (.mp ents))(hx:VP Γ (A0 H) w (.it b) X) :
  ∃g es ck,Γ.nm b=some g/\X = .map (some g)/\w.heap[g]? = some (.map es ck)/\MR Γ (A0 H) w ents es.toList/\∀c∈B3 (ents.map ad0),c<H.length:=by
 obtain⟨g,hg,rfl⟩:=LM hb hx;obtain⟨hlt,hbe⟩:=j4.1 hb;have hB:=hH.blk b hlt;rw[hbe] at hB;obtain⟨g',es,ck,h1,h2,h3⟩:=hB;rw[hg] at h1;cases h1;exact⟨g,es,ck,hg,rfl,h2,h3,λc hc=>hH.nms b hlt c (by rw[hbe];exact hc)⟩
theorem Gw{t:Nat}{k:PV->List Blk->Option R}{sl:List PV}{tmps:Array Value}(b:HR Γ H w)(h:Dw C t H k=some r) :
  ∃v H',k v H'=some r/\WV C Γ H w sl tmps (ag1 t none) v sl H'/\∃V o,(ag1 t none).run C.P w = .ok V (w.alloc o):=by
 unfold Dw at h;split at h
 ·rename_i d e _;split at h
  ·have a:(w.alloc (.map #[] 0)).heap=w.heap.push (.map #[] 0):=rfl;cases c:(C.ti e).ks.all CK.scal with
   | true=>
    rw[c] at h;refine⟨_,_,h,Y7 b (V:=.map (some w.heap.size)) (o:=.map #[] 0) (w':=w.alloc (.map #[] 0)) rfl a rfl rfl rfl ⟨w.heap.size,#[],0,by simp[Ctx.upd],C7 a,trivial⟩ (by simp[Blk.nms]) ?_ (by simp[PV.nms]),_,_,rfl⟩;exact .mpv _ _ (by rw[D8];rfl) (by simp[Ctx.upd])
   | false=>
    rw[c] at h;refine⟨_,_,h,Y7 b (V:=.map (some w.heap.size)) (o:=.map #[] 0) (w':=w.alloc (.map #[] 0)) rfl a rfl rfl rfl ⟨w.heap.size,#[],0,by simp[Ctx.upd],C7 a,trivial⟩ (by simp[Blk.nms,B3]) ?_ (by simp[PV.nms]),_,_,rfl⟩;exact .mpv _ _ (by rw[D8];rfl) (by simp[Ctx.upd])
  ·cases h
 ·cases h
theorem VR{t:Nat}{v:PV}{V:Value}(h:okV (C.ti t) v=true)(z:VP Γ (A0 H) w v V):VP Γ (A0 H) w (asV (C.ti t) v) V/\∀c∈(asV (C.ti t) v).nms,c∈v.nms:=by
 simp only[okV,a7,beq_iff_eq] at h;obtain⟨n,o,x⟩:=h;have o:=j7 o;have u:=BL x;have g:∀j (a:j<(Q1 (C.ti t) v.cells 0).length),∃(b:j<v.cells.length) (q:j<(C.ti t).ks.length),(Q1 (C.ti t) v.cells 0)[j]=(v.cells[j]).as ((C.ti t).ks[j])/\(v.cells[j]).has ((C.ti t).ks[j])=true:=λj a=>by
  have i:j<(C.ti t).ks.length:=by rw[J6] at a;exact a
  have b:=u j i;rw[s5] at b;have f:=BK x j i;rw[s5,O6 b] at f;exact⟨b,i,by simp[Q1,a8 b],f⟩
 have m:∀c∈B3 (Q1 (C.ti t) v.cells 0),c∈v.nms:=λc d=>by
  obtain⟨j,a,d⟩:=A9.1 d;obtain⟨b,q,e,_⟩:=g j a;rw[e] at d;exact PV.cells_nms c (A9.2 ⟨j,b,PV.as_nms c d⟩)
 have k:(Q1 (C.ti t) v.cells 0).length=v.cells.length:=by rw[J6,o]
 unfold asV;rw[Tu];cases y:(C.ti t).agg with
 | true=>
  rw[y] at n;simp only[if_true];refine⟨?_,by simpa[PV.nms] using m⟩;cases v with
  | agg l=>
   obtain⟨A,rfl,D,d⟩:=z.inv_agg;refine VP.mk_agg (by rw[k];exact D) λj a=>?_
   obtain⟨b,q,e,f⟩:=g j a;obtain⟨U,B,G⟩:=d j b;exact⟨U,B,by rw[e];exact G.as f⟩
  | _=>cases n
 | false=>
  rw[y] at n;simp only[v8,if_false];split
  ·rename_i F;have a:0<(Q1 (C.ti t) v.cells 0).length:=by rw[J6];omega
   rw[O6 a];refine⟨?_,λc d=>m c (A9.2 ⟨0,a,d⟩)⟩;obtain⟨b,q,e,f⟩:=g 0 a;have p:v.cells[0]=v:=by
    cases v with
    | agg l=>cases n
    | bad=>exact absurd b (by simp[PV.cells])
    | _=>rfl
   rw[e];generalize (C.ti t).ks[0]=c at f ⊢;simp only[p] at f ⊢;exact z.as f
  ·exact⟨.bad V,by simp[PV.nms]⟩
theorem ZS{sh:Nat->Option Shp}{t:Nat}(h:(C.ti t).ok=true)(b:CW C t=true):∃i Z,C.P.info? t=some i/\i.zero=some Z/\VP Γ sh w (Qe (C.ti t)) Z/\(Qe (C.ti t)).nms=[]:=by
 obtain⟨i,z,g,l,o,a⟩:=Y6 (Γ:=Γ) (sh:=sh) (w:=w) h;obtain⟨_,_,_,j⟩:=F9 h;have n:=Hm (C.ti t).ks;refine⟨i,z,g,l,?_⟩;simp only[CW,g,o6,l] at b;unfold Qe;cases f:(C.ti t).agg with
 | true=>
  rw[f] at b;simp only[if_true];refine⟨?_,by simpa[PV.nms] using n⟩;cases z with
  | agg A=>exact VP.mk_agg a.1 a.2
  | _=>cases b
 | false=>
  rw[f] at b;simp only[v8,if_false];split
  ·rename_i c m;rw[m] at a;obtain⟨U,e,k⟩:=a.2 0 (by simp);have d:z.cells[0]? = some z:=by
    cases z<;>first|rfl|(simp at b)
   rw[d] at e;cases e;refine⟨by simpa using k,?_⟩;cases c<;>rfl
  ·exact⟨.bad z,rfl⟩
section
variable {L Y : Type} (f : L -> Y)
theorem Xo:∀(l:List (List UInt8 × L)) (q:List UInt8),U5 (l.map λe=>(e.1,f e.2)) q=U5 l q
 | [],_=>rfl
 | e::l,q=>by simp only[o9,U5,Xo l q]
theorem Xm(d:L):∀(l:List (List UInt8 × L)) (q:List UInt8),T4 (f d) (l.map λe=>(e.1,f e.2)) q=f (T4 d l q)
 | [],_=>rfl
 | e::l,q=>by simp only[o9,T4,Xm d l q];cases q==e.1<;>rfl
theorem Xp(v:L):∀(l:List (List UInt8 × L)) (q:List UInt8),Bt (l.map λe=>(e.1,f e.2)) q (f v)=(Bt l q v).map λe=>(e.1,f e.2)
 | [],_=>rfl
 | e::l,q=>by simp only[o9,Bt,Xp v l q];cases q==e.1<;>rfl
theorem Xk:∀(l:List (List UInt8 × L)) (q:List UInt8),Co (l.map λe=>(e.1,f e.2)) q=(Co l q).map λe=>(e.1,f e.2)
 | [],_=>rfl
 | e::l,q=>by simp only[o9,Co,Xk l q];cases q==e.1<;>rfl
end
theorem Tz{b:Type}(d a:b):∀(l:List (List UInt8 × b)) (q:List UInt8),U5 l q=true->T4 d l q=T4 a l q
 | [],_,h=>by cases h
 | e::l,q,h=>by
  simp only[U5,T4] at h ⊢;cases c:(q==e.1) with
  | true=>rfl
  | false=>rw[c] at h;exact Tz d a l q h
theorem UG{t:TI}{l:List SV}(i:Ao3 t l=true)(o:t.ks.all CK.scal=true)(k:t.ok=true):okV t (svV t.agg l)=true/\asV t (svV t.agg l)=CL t true l\/CL t true l = .bad:=by
 have key:∀c,c.scal=true->∀x:SV,(PV.s x).as c=Ag3 true x c:=λc b x=>by cases c<;>first|rfl|cases b
 have e:∀c,c.scal=true->∀x:SV,x.has c=true->(PV.s x).has c=true:=λc b x h=>by cases c<;>first|exact h|cases b
 simp only[Ao3,a7,c9] at i;have a:=j7 i.1;have f:∀{c j},(c,j)∈t.ks.zipIdx->c.scal=true/\j<l.length:=fun {c j} h=>by
  have:=List.mem_zipIdx_iff_getElem?.1 h;exact⟨c9.1 o c (List.mem_of_getElem? this),by rw[a];exact(j4.1 this).1⟩
 have d:∀j,j<l.length->(l.map PV.s).getD j .bad = .s (l.getD j .nilp):=λj v=>by simp[v]
 cases g:t.agg with
 | true=>
  left
  refine⟨?_,?_⟩
  ·simp only[okV,svV,cond_true,PV.isAgg,g,beq_self_eq_true,PV.cells,p6,a7,okP,k,c9,true_and];refine⟨i.1,λp n=>?_⟩;obtain⟨c,j⟩:=p;obtain⟨q,u⟩:=f n;have:=i.2 _ n;simp only[s5];rw[d j u];exact e c q _ this
  ·simp only[asV,Fv,g,if_true,svV,cond_true,PV.cells,CL]
   congr 1
   refine List.map_congr_left λp n=>?_
   obtain⟨c,j⟩:=p;obtain⟨q,u⟩:=f n;simp only[s5];rw[d j u];exact key c q _
 | false=>
  match l,a with
  | [],a=>
   right
   have:t.ks=[]:=u7.1 a.symm;simp[CL,g,this]
  | x::y::z,a=>
   right
   match h:t.ks,a with
   | [],a=>cases a
   | [c],a=>cases a
   | _::_::_,_=>simp[CL,g,h]
  | [x],a=>
   left
   obtain⟨c,b⟩:∃c,t.ks=[c]:=by
    match h:t.ks with
    | []=>rw[h] at a;cases a
    | [c]=>exact⟨c,rfl⟩
    | _::_::_=>rw[h] at a;cases a
   have m:c.scal=true:=by rw[b] at o;simpa using o
   have A:x.has c=true:=by
    have:=i.2 (c,0) (by rw[b];simp);simpa using this
   refine⟨?_,?_⟩
   ·simp only[okV,svV,cond_false,PV.isAgg,g,beq_self_eq_true,PV.cells,b,okP,k,a7,true_and];exact⟨rfl,by simpa using e c m x A⟩
   ·simp only[asV,Fv,g,v8,if_false,svV,cond_false,PV.cells,CL,b];exact key c m x
theorem OM{t:TI}{l:List SV}(b:t.ks.all CK.scal=true):CL t false l=Qe t:=by
 have key:∀c,c.scal=true->∀x:SV,Ag3 false x c=M0 c:=λc a x=>by cases c<;>first|rfl|cases a
 unfold CL Qe;split
 ·congr 1
  refine List.ext_getElem (by simp) λj d e=>?_
  simp only[b7,List.getElem_zipIdx];exact key _ (c9.1 b _ (b8 _)) _
 ·split
  ·rename_i c a;exact key c (c9.1 b c (by rw[a];simp)) _
  ·rfl
theorem WY{sh:Nat->Option Shp}{v:PV}{V:Value}(ok b:Bool)(h:VP Γ sh w v V):VP Γ sh w (Pp ok v b) (if ok then .tuple #[V,.bool b] else V)/\∀c∈(Pp ok v b).nms,c∈v.nms:=by
 cases ok with
 | true=>
  refine⟨VP.mk_tup rfl λj d=>?_,λc a=>by simpa[Pp,PV.nms,B3] using a⟩
  match j,d with
  | 0,_=>exact⟨V,rfl,h⟩
  | 1,_=>exact⟨_,rfl,.s _ _ (.bool b)⟩
 | false=>exact⟨h,λc a=>a⟩
theorem HR.ms'(hH:HR Γ H w){b:Nat}{a:Bool}{ents:List (List UInt8 × List SV)}{X:Value}(hb:H[b]? = some (.ms a ents))(hx:VP Γ (A0 H) w (.it b) X) :
  ∃g es ck,Γ.nm b=some g/\X = .map (some g)/\w.heap[g]? = some (.map es ck)/\MR Γ (A0 H) w (msP a ents) es.toList:=by
 obtain⟨g,hg,rfl⟩:=LN hb hx;obtain⟨hlt,hbe⟩:=j4.1 hb;have hB:=hH.blk b hlt;rw[hbe] at hB;obtain⟨g',es,ck,h1,h2,h3⟩:=hB;rw[hg] at h1;cases h1;exact⟨g,es,ck,hg,rfl,h2,h3⟩
theorem Pq{sh:Nat->Option Shp}{t p e g l:Nat}{ok:Bool}{Z:Value}{d:Array MapEntry}{s:ByteArray}{a:List (List UInt8 × PV)}(o:C.P.underlying t=some (.map p e))(f:C.P.underlying p=some .string)(k:∀w':World,(zeroValue e).run C.P w' = .ok Z w')(m:w.heap[g]? = some (.map d l))(j:MR Γ sh w a d.toList) :
  (U5 a s.data.toList=false/\∀w':World,Ext w w'->(w5 t (.map (some g)) (.string s) ok).run C.P w' = .ok (if ok then .tuple #[Z,.bool false] else Z) w')\/
  (U5 a s.data.toList=true/\∃V,VP Γ sh w (T4 .bad a s.data.toList) V/\∀w':World,Ext w w'->(w5 t (.map (some g)) (.string s) ok).run C.P w' = .ok (if ok then .tuple #[V,.bool true] else V) w'):=by
 have b:∀w':World,Ext w w'->w'.heap[g]? = some (.map d l):=λw' c=>(c g (j8.1 m).1).trans m
 rcases Qo s a d.toList 0 j with⟨h,i,_⟩|⟨h,n,E,i,u,v,q,_⟩
 ·refine .inl ⟨h,λw' c=>?_⟩;simp[w5,run_underlying o,p4 (b w' c),o0 (n:=9999) f (show y9 .string (.string s) from trivial),p5 f i,k]
 ·refine .inr ⟨h,E.val,q,λw' c=>?_⟩;simp[w5,run_underlying o,p4 (b w' c),o0 (n:=9999) f (show y9 .string (.string s) from trivial),p5 f i]
theorem Vo{t:Nat}{x i:PV}{X I:Value}{ok:Bool}{k:PV->Option R}(hH:HR Γ H w)(h:Hw C t x i ok H k=some r)(T:VP Γ (A0 H) w x X)(hi:VP Γ (A0 H) w i I) :
  ∃v,k v=some r/\QV C.P Γ H w (w5 t X I ok) v:=by
 unfold Hw at h;split at h
 case h_2=>cases h
 rename_i kt e q S;obtain⟨s,rfl,rfl⟩:=hi.inv_str;have P:=Fj S;split at h
 case h_2=>cases h
 rename_i O;have F:=R8 O;split at h
 case isFalse=>cases h
 rename_i m;simp only[a7] at m;obtain⟨ii,Z,N,hZ,U,W⟩:=ZS (Γ:=Γ) (sh:=A0 H) (w:=w) m.1 m.2;have z:∀w':World,(zeroValue e).run C.P w' = .ok Z w':=λw'=>by simp[zeroValue,typeInfo,N,hZ]
 have out:∀{Y:PV->Option R} {b:Bool} {v:PV} {V:Value},Y (Pp ok v b)=some r->VP Γ (A0 H) w v V->(∀c∈v.nms,c<H.length)->(∀w':World,Ext w w'->(w5 t X (.string s) ok).run C.P w' = .ok (if ok then .tuple #[V,.bool b] else V) w')->∃v,Y v=some r/\QV C.P Γ H w (w5 t X (.string s) ok) v:=fun {Y} {b} {v} {V} f j h3 h4=>by
  obtain⟨l1,l2⟩:=WY ok b j;exact⟨_,f,λc A=>h3 c (l2 c A),_,l1,h4⟩
 have y:∀c∈(Qe (C.ti e)).nms,c<H.length:=by rw[W];simp
 split at h
 ·obtain rfl:=T.inv_nilm;refine out h U y λw' _=>?_
  simp[w5,run_underlying P,o0 (n:=9999) F (show y9 .string (.string s) from trivial),p5 (k:=.string s) (l:=[]) (a:=none) F rfl,z]
 ·rename_i b;split at h
  ·rename_i a d L;obtain⟨g,es,ck,hg,rfl,M,u⟩:=hH.ms' L T;split at h
   ·rename_i B;simp only[a7,beq_iff_eq] at B;obtain⟨B,rfl⟩:=B;obtain⟨D,p⟩:=B1 h;have e1:=Xo (svV (C.ti e).agg) d s.data.toList;rcases Pq (ok:=ok) (s:=s) P F z M u with⟨f,j⟩|⟨f,V,G,j⟩
    ·rw[show U5 d s.data.toList=false from e1.symm.trans f] at p;rw[OM B] at p;exact out p U y j
    ·have K:U5 d s.data.toList=true:=e1.symm.trans f;rw[K] at D p;simp only[Bool.not_true,af9] at D;rw[Tz .bad (svV (C.ti e).agg []) _ _ f,show T4 (svV (C.ti e).agg []) (msP (C.ti e).agg d) s.data.toList=svV (C.ti e).agg (T4 [] d s.data.toList) from Xm _ _ _ _] at G;rcases UG D B m.1 with⟨o1,o2⟩|o
     ·obtain⟨v1,J⟩:=VR o1 G;rw[o2] at v1 J;exact out p v1 (λc A=>by have:=J c A;rw[CP] at this;simp at this) j
     ·rw[o] at p;exact out p (.bad V) (by simp[PV.nms]) j
   ·cases h
  ·rename_i d L;obtain⟨g,es,ck,hg,rfl,M,u,Q⟩:=hH.mp' L T;rcases Pq (ok:=ok) (s:=s) P F z M u with⟨f,j⟩|⟨f,V,G,j⟩
   ·rw[f] at h;exact out h U y j
   ·rw[f] at h;simp only[Aa,cond_true] at h;obtain⟨D,p⟩:=B1 h;obtain⟨v1,J⟩:=VR D G;exact out p v1 (λc A=>Q c (Xn _ _ c (J c A))) j
  ·cases h
 ·cases h
theorem Lk{m:Sem Value}{b g D:Nat}{x y:Blk}{F e:Array MapEntry}{d:List (List UInt8 × PV)}{f:Nat}{V:Value}{v:PV}{sl:List PV}{n:Array Value}(t:HR Γ H w)(z:H[b]? = some x)(o:Γ.nm b=some g)(A:w.heap[g]? = some (.map F D))(j:y.shp=x.shp)
  (G:m.run C.P w = .ok V { w with heap:=w.heap.setIfInBounds g (.map e f) }) (p:MR Γ (A0 H) w d e.toList) (I:∀c∈y.nms,c<H.length) (K:y = .mp d\/∃a l,y = .ms a l/\d=msP a l) (J:∀sh w,VP Γ sh w v V) (hvn:v.nms=[]):WV C Γ H w sl n m v sl (H.set b y):=by
 obtain⟨q,B⟩:=MapKept.heap_set (o':=.map e f) A;have i:({ w with heap:=w.heap.setIfInBounds g (.map e f) }:World).shape? g=w.shape? g:=by simp only[aa7,q,A]
 have M:=Y0 (w':={ w with heap:=w.heap.setIfInBounds g (.map e f) }) (y:=y) t z o j B i;have h:=p.imp (Γ':=Γ) λu _ U k=>k.mono M λ_ _=>trivial
 refine Eg t G z o j B i (by simp) rfl rfl rfl ?_ I (J _ _) (by simp[hvn]);rcases K with rfl|⟨a,l,rfl,rfl⟩
 ·exact⟨g,e,f,o,q,h⟩
 ·exact⟨g,e,f,o,q,h⟩
theorem FY{sh:Nat->Option Shp}{t u e g d:Nat}{c:Array MapEntry}{s:ByteArray}{a:List (List UInt8 × PV)}{v:PV}{V:Value}(p:C.P.underlying t=some (.map u e))(j:C.P.underlying u=some .string)(i:w.heap[g]? = some (.map c d))(o:MR Γ sh w a c.toList)(q:VP Γ sh w v V) :
  ∃f k,(do ab4 t (.map (some g)) (.string s) V;pure undef:Sem Value).run C.P w = .ok undef { w with heap:=w.heap.setIfInBounds g (.map f k) }/\MR Γ sh w (Bt a s.data.toList v) f.toList:=by
 have b:y9 .string (.string s):=trivial;rcases Qo s a c.toList 0 o with⟨x,h,_,m⟩|⟨x,n,E,h,y,m,A,_,z⟩
 ·refine⟨c.push ⟨.string s,V,d⟩,d+1,?_,by simpa using m v V d q⟩;simp[ab4,run_underlying p,p4 i,o0 (n:=9999) j b,p5 j h,w6 _ i]
 ·rw[s5] at h;have l:c[n]? = some E:=by simpa using y
  refine⟨c.modify n λe=>{ e with key:=.string s,val:=V },d,?_,by simpa using z v V q⟩;simp[ab4,run_underlying p,p4 i,o0 (n:=9999) j b,p5 j h,l,m,MapKept.run_keyThatStays b,w6 _ i]
theorem Vt{t:Nat}{m x v:PV}{M X V:Value}{k:List Blk->Option R}{sl:List PV}{tmps:Array Value}(y:HR Γ H w)(h:Hy C t m x v H k=some r)(O:VP Γ (A0 H) w m M)(Z:VP Γ (A0 H) w x X)(L:VP Γ (A0 H) w v V)(hvn:∀c∈v.nms,c<H.length) :
  ∃H',k H'=some r/\WV C Γ H w sl tmps (do ab4 t M X V;pure undef) (.tup []) sl H':=by
 unfold Hy at h;split at h
 case h_2=>cases h
 rename_i kt e b q K;obtain⟨s,rfl,rfl⟩:=Z.inv_str;have P:=Fj K;split at h
 ·rename_i a f n o;split at h
  ·rename_i l u;obtain⟨g,W,Q,F,rfl,p,i⟩:=y.ms' o O;have N:VP Γ (A0 H) w (svV a l) V:=by
    unfold plC at u;split at u
    ·rename_i vs;obtain⟨A,rfl,Y,D⟩:=L.inv_agg;obtain⟨S,T⟩:=L9 (As:=A.toList) u (by simpa using Y.symm) (λj G=>by obtain⟨U,e,k⟩:=D j G;exact⟨U,by simpa using e,k⟩);simp only[svV,cond_true];refine VP.mk_agg (by simpa using S.symm) λj G=>?_
     obtain⟨U,e,k⟩:=T j (by simpa using G);exact⟨U,by simpa using e,by rw[b7];exact .s _ _ k⟩
    ·cases u;exact L
    ·cases u
   obtain⟨B,z,J,d⟩:=FY (s:=s) P (R8 n) p i N;exact⟨_,h,Lk y o F p rfl J d (by simp[Blk.nms]) (.inr ⟨a,_,rfl,Xp _ _ _ _⟩) (λ_ _=>P5) rfl⟩
  ·cases h
 ·rename_i f n o;obtain⟨g,W,Q,F,rfl,p,i,I⟩:=y.mp' o O;obtain⟨B,z,J,d⟩:=FY (s:=s) P (R8 n) p i L;exact⟨_,h,Lk y o F p rfl J d (λc D=>(Xq v f _ c D).elim (I c) (hvn c)) (.inl rfl) (λ_ _=>P5) rfl⟩
 ·cases h
theorem EI{sh:Nat->Option Shp}{t p e g k ty:Nat}{ts:List Nat}{c:Array MapEntry}{s:ByteArray}{a:List (List UInt8 × PV)}(o:C.P.underlying t=some (.map p e))(j:C.P.underlying p=some .string)(i:w.heap[g]? = some (.map c k))(f:MR Γ sh w a c.toList) :
  ∃d l,(z7 (t::ts).toArray ty #[.map (some g),.string s]).run C.P w = .ok (.tuple #[]) { w with heap:=w.heap.setIfInBounds g (.map d l) }/\MR Γ sh w (Co a s.data.toList) d.toList:=by
 have b:y9 .string (.string s):=trivial;rcases Qo s a c.toList 0 f with⟨q,h,m,u⟩|⟨q,n,E,h,m,u,x,v,_⟩
 ·refine⟨c,k,?_,by rw[m];exact f⟩;simp[z7,run_underlying o,p4 i,o0 (n:=9999) j b,p5 j h,w6 _ i]
 ·rw[s5] at h;refine⟨c.eraseIdxIfInBounds n,k,?_,by simpa using v⟩;simp[z7,run_underlying o,p4 i,o0 (n:=9999) j b,p5 j h,w6 _ i]
theorem Vr{t ty:Nat}{ts:List Nat}{m x:PV}{M X:Value}{k:List Blk->Option R}{sl:List PV}{tmps:Array Value}(p:HR Γ H w)(h:Hx C t m x H k=some r)(D:VP Γ (A0 H) w m M)(P:VP Γ (A0 H) w x X) :
  ∃H',k H'=some r/\WV C Γ H w sl tmps (z7 (t::ts).toArray ty #[M,X]) (.tup []) sl H':=by
 unfold Hx at h;split at h
 case h_2=>cases h
 rename_i Q e q I;obtain⟨s,rfl,rfl⟩:=P.inv_str;have J:=Fj I;have f:∀sh w,VP Γ sh w (.tup []) (.tuple #[]):=λ_ _=>VP.mk_tup rfl λj O=>by simp at O
 split at h
 ·rename_i o;have y:=R8 o;obtain rfl:=D.inv_nilm;exact⟨_,h,(QV.val (V:=.tuple #[]) rfl (f _ _) λw' _=>by simp[z7,run_underlying J,o0 (n:=9999) y (show y9 .string (.string s) from trivial)]).wv p⟩
 ·rename_i b o;have y:=R8 o;split at h
  ·rename_i a i u;obtain⟨g,L,K,B,rfl,v,l⟩:=p.ms' u D;obtain⟨A,z,G,d⟩:=EI (s:=s) (ts:=ts) (ty:=ty) J y v l;exact⟨_,h,Lk p u B v rfl G d (by simp[Blk.nms]) (.inr ⟨a,_,rfl,Xk _ _ _⟩) f rfl⟩
  ·rename_i i u;obtain⟨g,L,K,B,rfl,v,l,F⟩:=p.mp' u D;obtain⟨A,z,G,d⟩:=EI (s:=s) (ts:=ts) (ty:=ty) J y v l;exact⟨_,h,Lk p u B v rfl G d (λc N=>F c (Xl i _ c N)) (.inl rfl) f rfl⟩
  ·cases h
 ·cases h
end
section
variable {W R : Type} {r : R} {C : Cfg} {I : W -> (Nat -> Prop) -> (Nat -> Prop) -> World -> Prop} {Y : Ctx} {Q : Nat -> Prop} {L : St W} {a : Act} {w : World} {J : C9} {Z : Yh W} {o : Oper} {k : St W -> Option R}
theorem SI.opnd(S:SI C I Y Q L a.tmps w)(x:Operand):VP Y (A0 L.hp) w (opnd C L.sl x) (a.eval x)/\∀c∈(opnd C L.sl x).nms,c<L.hp.length:=
 LX (ds:=a.defers) S.g S.sr x
def ZV(C:Cfg)(I:W->(Nat->Prop)->(Nat->Prop)->World->Prop)(Y:Ctx)(Q:Nat->Prop)(L:St W)(a:Act)(w:World)(o:Oper)(k:St W->Option R)(r:R):Prop:=
 ∃V b,k b=some r/\(∀w':World,Ext w w'->(execOp a.eval o).run C.P w' = .ok (.value V) w')/\SI C I Y Q b (a.put o.dst V).tmps w/\Stp C Y L.hp w noΦ Y b.hp w noΦ
theorem SI.put(S:SI C I Y Q L a.tmps w){v:PV}{V:Value}(hv:VP Y (A0 L.hp) w v V)(hn:∀c∈v.nms,c<L.hp.length):SI C I Y Q { L with sl:=R3 o.dst v L.sl } (a.put o.dst V).tmps w:=
 ⟨S.hr,S.sr.put (ds:=a.defers) o hv hn,S.g,S.inv,S.dis⟩
theorem QV.out{m:Sem Value}{v:PV}(S:SI C I Y Q L a.tmps w)(h:QV C.P Y L.hp w m v)(hk:k { L with sl:=R3 o.dst v L.sl } = some r)(he:execOp a.eval o=(do pure (.value (<-m)))):ZV C I Y Q L a w o k r:=by obtain⟨hn,V,hv,hq⟩:=h;refine⟨V,_,hk,λw' hw=>?_,S.put hv hn,Stp.refl S.hr⟩;rw[he];simp[hq w' hw]
theorem QV0.out{m:Sem Value}{v:PV}(S:SI C I Y Q L a.tmps w)(h:QV0 C.P Y L.hp w m v)(hk:k { L with sl:=R3 o.dst v L.sl } = some r)(he:execOp a.eval o=(do pure (.value (<-m)))) :
  ∃V st',k st'=some r/\(∀w':World,(execOp a.eval o).run C.P w' = .ok (.value V) w')/\SI C I Y Q st' (a.put o.dst V).tmps w/\Stp C Y L.hp w noΦ Y st'.hp w noΦ:=by
 obtain⟨hn,V,hv,hq⟩:=h;refine⟨V,_,hk,λw'=>?_,S.put hv hn,Stp.refl S.hr⟩;rw[he];simp[hq w']
theorem QV.pure{P:Program}{H:List Blk}{v:PV}{V:Value}(hv:VP Y (A0 H) w v V)(hn:∀c∈v.nms,c<H.length):QV P Y H w (pure V) v:=⟨hn,V,hv,λ_ _=>rfl⟩
theorem SI.ov(S:SI C I Y Q L a.tmps w)(x:Option Operand):OV Y (A0 L.hp) w (Hb (Go.Proofs.YtigcfngmhpofjaaGreatDoor.E.opnd C L.sl) x) (x.map a.eval):=by
 cases x with
 | none=>trivial
 | some x=>exact(S.opnd x).1
theorem Y2{b c:Type}{f:b->c}{x:Option b}:(Hb f x).isSome=x.isSome:=by cases x<;>rfl
theorem SI.parts(S:SI C I Y Q L a.tmps w):∀(ps:List (Nat × Operand)),PR Y (A0 L.hp) w (ps.map λ(i,x)=>(i,Go.Proofs.YtigcfngmhpofjaaGreatDoor.E.opnd C L.sl x)) (ps.map λ(i,x)=>(i,a.eval x))/\∀p∈(ps.map λ(i,x)=>(i,Go.Proofs.YtigcfngmhpofjaaGreatDoor.E.opnd C L.sl x)),∀c∈p.2.nms,c<L.hp.length
 | []=>⟨trivial,by simp⟩
 | (i,x)::ps=>by
  obtain⟨h1,h2⟩:=S.parts ps;refine⟨⟨rfl,(S.opnd x).1,h1⟩,λp hp=>?_⟩;rcases u5.1 hp with rfl|hp
  ·exact(S.opnd x).2
  grind
theorem SI.list(S:SI C I Y Q L a.tmps w)(xs:Array Operand):CR Y (A0 L.hp) w (xs.toList.map (Go.Proofs.YtigcfngmhpofjaaGreatDoor.E.opnd C L.sl)) (xs.map a.eval)/\∀c∈B3 (xs.toList.map (Go.Proofs.YtigcfngmhpofjaaGreatDoor.E.opnd C L.sl)),c<L.hp.length:=by
 refine⟨⟨by simp,λj hj=>?_⟩,λc hc=>?_⟩
 ·have hj':j<xs.size:=by simpa using hj
  exact⟨a.eval xs[j],by simp[hj'],by simpa using(S.opnd xs[j]).1⟩
 ·obtain⟨j,hj,hm⟩:=A9.1 hc;have hj':j<xs.size:=by simpa using hj
  exact(S.opnd xs[j]).2 c (by simpa using hm)
theorem LK{f:Nat}{x y:List PV}{A B:Array Value}{sh:Nat->Option Shp}(c:CR Y sh w x A)(d:CR Y sh w y B):VP Y sh w (XD (.func f) x y) (.func (.func f) A B):=by
 unfold XD;split
 ·rename_i xs p m n;obtain⟨g,h⟩:=L9 (As:=A.toList) m (by simpa using c.1.symm) (λj b=>by obtain⟨U,e,k⟩:=c.2 j b;exact⟨U,by simpa using e,k⟩);obtain⟨i,l⟩:=L9 (As:=B.toList) n (by simpa using d.1.symm) (λj b=>by obtain⟨U,e,k⟩:=d.2 j b;exact⟨U,by simpa using e,k⟩);refine .s _ _ (.fn _ xs p A B (λj=>A.getD j undef) (λj=>B.getD j undef) (by simp) (by simpa using g.symm) (by simpa using i.symm) (λj b=>?_) (λj b=>?_) (λj b=>?_) (λj b=>?_))
  ·simp_all
  ·simp_all
  ·obtain⟨U,e,k⟩:=h j b;simp_all
  ·obtain⟨U,e,k⟩:=l j b;simp_all
 ·refine .fnr _ x y A B (λj=>A.getD j undef) (λj=>B.getD j undef) (by simp) c.1 d.1 (λj b=>?_) (λj b=>?_) (λj b=>?_) (λj b=>?_)
  ·obtain⟨U,e,_⟩:=c.2 j b;rw[j1,e];rfl
  ·obtain⟨U,e,_⟩:=d.2 j b;rw[j1,e];rfl
  ·obtain⟨U,e,k⟩:=c.2 j b;rw[j1,e];exact k
  ·obtain⟨U,e,k⟩:=d.2 j b;rw[j1,e];exact k
theorem XE{f:Fn}{x y:List PV}:∀c∈(XD f x y).nms,c∈B3 x\/c∈B3 y:=by
 intro c b;unfold XD at b;split at b
 ·simp[PV.nms] at b
 ·simpa[PV.nms] using b
theorem Ak4{c d:Type}{f:c->d}{xs:Array c}{x:d}(h:xs.toList.map f=[x]):∃b,xs = #[b]/\f b=x:=by obtain⟨l⟩:=xs;simp_all
theorem DN{e g:Type}{f:e->g}{xs:Array e}{x y:g}(h:xs.toList.map f=[x,y]):∃c d,xs = #[c,d]/\f c=x/\f d=y:=by
 obtain⟨l⟩:=xs
 match l,h with
 | [a,b],h=>exact⟨a,b,rfl,by simpa using h⟩
theorem L0{ρ:Operand->Value}{c:Call}{b:Builtin}(e:o.op = .call c)(d:c.callee = .builtin b) :
  ∃f,execOp ρ o=builtin b c.argTypes o.type f (c.args.map ρ):=by
 simp only[execOp,e,resolve,d,pure_bind,invoke];exact⟨_,rfl⟩
theorem SI.args_ints(S:SI C I Y Q L a.tmps w){xs:Array Operand}{kd:IntKind}{x y:Int}(h:xs.toList.map (Go.Proofs.YtigcfngmhpofjaaGreatDoor.E.opnd C L.sl)=[.s (.int kd x),.s (.int kd y)]):xs.map a.eval = #[.int kd x,.int kd y]:=by obtain⟨x0,y0,rfl,e1,e2⟩:=DN h;have h1:=(S.opnd x0).1;have h2:=(S.opnd y0).1;rw[e1] at h1;rw[e2] at h2;simp[h1.inv_int,h2.inv_int]
theorem Ic(l:G0 C o.op=true)(h:opK C J Z o L k=some r)(S:SI C I Y Q L a.tmps w):ZV C I Y Q L a w o k r:=by
 unfold opK at h;dsimp only at h;split at h
 ·rename_i x d;exact(QV.pure (P:=C.P) (S.opnd x).1 (S.opnd x).2).out S h (by simp[execOp,d])
 ·rename_i x d;split at h
  ·rename_i q;have j:=(S.opnd x).1;rw[q] at j;refine⟨a.eval x,_,h,λw' hw=>by simp only[execOp,d,ac5],⟨LT S.hr rfl (.inl ⟨rfl,rfl⟩),?_,S.g,S.inv,S.dis⟩,BG S.hr⟩;refine SR.put (ds:=a.defers) (SR.grow (Ln _ S.hr) S.sr) o ?_ (by simp[PV.nms]);rw[j.inv_nsl];exact .flv _ _ _ (by rw[D8];rfl)
  ·exact(QV.pure (P:=C.P) (S.opnd x).1 (S.opnd x).2).out S h (by simp[execOp,d])
 ·rename_i c x y d;split at h
  ·rename_i t u;have j:=(S.opnd c).1;rw[u] at j;have hb:=j.inv_bool;have z:execOp a.eval o=(do Pure.pure (Next.value (if <-asBool (a.eval c) then a.eval x else a.eval y))):=by simp[execOp,d]
   cases t with
   | true=>
    simp only[Aa,cond_true] at h;refine⟨_,_,h,λw' hw=>?_,S.put (S.opnd x).1 (S.opnd x).2,Stp.refl S.hr⟩;rw[z,hb];simp[asBool]
   | false=>
    simp only[Aa,cond_false] at h;refine⟨_,_,h,λw' hw=>?_,S.put (S.opnd y).1 (S.opnd y).2,Stp.refl S.hr⟩;rw[z,hb];simp[asBool]
  ·cases h
 ·rename_i d;rw[d] at l;simp[G0] at l
 ·rename_i d;rw[d] at l;simp[G0] at l
 ·rename_i t parts d;obtain⟨M,N⟩:=S.parts parts.toList;obtain⟨v,m,j⟩:=Kk (ps:=parts.map λ(i,x)=>(i,a.eval x)) h (by rw[s8];exact M) N;exact j.qv.out S m (by simp[execOp,d])
 ·rename_i d;rw[d] at l;simp[G0] at l
 ·rename_i t x d;obtain⟨v,m,j⟩:=Po S.hr h (S.opnd x).1;exact j.out S m (by simp[execOp,d])
 ·rename_i d;rw[d] at l;simp[G0] at l
 ·rename_i x d;split at h
  ·rename_i hn;have j:=(S.opnd x).1;refine⟨a.eval x,_,h,λw' hw=>?_,S.put j (S.opnd x).2,Stp.refl S.hr⟩;simp only[execOp,d];unfold LS at hn;split at hn
   ·rename_i q;rw[q] at j;obtain⟨ad,e⟩:=j.inv_ptr;simp_all
   ·rename_i q;rw[q] at j;obtain⟨ad,e⟩:=j.inv_sp;simp_all
   ·rename_i q;rw[q] at j;obtain⟨A,B,e⟩:=j.inv_fn;simp_all
   ·rename_i q;rw[q] at j;obtain⟨A,B,e⟩:=j.inv_fnr;simp_all
   grind
  ·cases h
 ·rename_i op t x y _ d;obtain⟨v,m,j⟩:=Sg (ox:=x) (oy:=y) h (S.opnd x).1 (S.opnd y).1;exact j.qv.out S m (by simp only[execOp,d])
 ·rename_i op t x d;obtain⟨v,m,j⟩:=UV (P:=C.P) h (S.opnd x).1;exact j.out S m (by simp only[execOp,d])
 ·rename_i a9 a5 x d;split at h
  ·rename_i e G;rw[d] at l;simp[G0,G] at l
  ·obtain⟨v,m,j⟩:=EE S.hr h (S.opnd x).1;exact j.out S m (by simp only[execOp,d])
 ·rename_i g x y d;obtain⟨M,N⟩:=S.list x;obtain⟨h3,h4⟩:=S.list y;exact(QV.pure (P:=C.P) (LK M h3) (λc u=>(XE c u).elim (N c) (h4 c))).out S h (by simp[execOp,d,Instr.makeFunc])
 ·rename_i d;rw[d] at l;simp[G0] at l
 ·rename_i t x lo hi mx d;have T:=S.ov lo;have O:=S.ov hi;have X:=S.ov mx;split at h
  ·rename_i n e b G q;split at h
   ·rename_i v e' sz a6 hb;split at h
    ·rename_i u;obtain⟨M,N⟩:=B1 h;simp only[decide_eq_true_eq] at M;have j:=(S.opnd x).1;rw[q] at j;obtain⟨v,m,j⟩:=Fy S.hr N G u.1 u.2.1 hb M (by omega) (by simp only[maxLen];omega) j T O X;exact j.qv.out S m (by simp only[execOp,d])
    grind
   ·cases h
  ·split at h
   ·rename_i hm;obtain⟨v,m,j⟩:=Mj S.hr h (S.opnd x).1 (S.opnd x).2 T O X (by rw[Y2,Y2];intro h;simpa[h] using hm);exact j.qv.out S m (by simp only[execOp,d])
   ·cases h
 ·rename_i t x f d;obtain⟨v,m,j⟩:=Dr h (S.opnd x).1 (S.opnd x).2;exact j.qv.out S m (by simp only[execOp,d])
 ·rename_i t x f d;obtain⟨v,m,j⟩:=AS h (S.opnd x).1 (S.opnd x).2;exact j.out S m (by simp only[execOp,d])
 ·rename_i t x i d;obtain⟨v,m,j⟩:=Dt S.hr h (S.opnd x).1 (S.opnd i).1 (S.opnd x).2;exact j.qv.out S m (by simp only[execOp,d])
 ·rename_i t x i d;obtain⟨v,m,j⟩:=AW h (S.opnd x).1 (S.opnd i).1 (S.opnd x).2;exact j.out S m (by simp only[execOp,d])
 ·rename_i d;rw[d] at l;simp[G0] at l
 ·rename_i d;rw[d] at l;simp[G0] at l
 ·rename_i d;rw[d] at l;simp[G0] at l
 ·rename_i t x i ok d;obtain⟨v,m,j⟩:=Vo S.hr h (S.opnd x).1 (S.opnd i).1;exact j.out S m (by simp only[execOp,d])
 ·rename_i d;rw[d] at l;simp[G0] at l
 ·rename_i t i d;split at h
  ·rename_i vs q;split at h
   ·rename_i v a3;have j:=(S.opnd t).1;have hn:=(S.opnd t).2;rw[q] at j hn;obtain⟨A,e,hA,u⟩:=j.inv_tup;obtain⟨V,a1⟩:=j4.1 a3;obtain⟨U,e1,k1⟩:=u i V;rw[a1] at k1;refine⟨U,_,h,λw' hw=>?_,S.put k1 (λc u=>hn c (by simp only[PV.nms];exact A9.2 ⟨i,V,by rw[a1];exact u⟩)),Stp.refl S.hr⟩;simp only[execOp,d,e,ag0,e1];rfl
   ·cases h
  ·cases h
 ·rename_i c d;split at h
  ·rename_i b p;unfold Y8 at h;dsimp only at h;split at h
   ·rename_i t D x a2 F;obtain⟨x0,a4,rfl⟩:=Ak4 F;obtain⟨v,m,j⟩:=LB (ts:=D) (ty:=o.type) S.hr h (S.opnd x0).1;refine j.out S m ?_;obtain⟨cs,z⟩:=L0 (ρ:=a.eval) d p;have a0:c.argTypes=(t::D).toArray:=by rw[<-a2]
    rw[z,a4,a0];simp[builtin]
   ·rw[d] at l;simp[G0,p] at l
   ·rw[d] at l;simp[G0,p] at l
   ·obtain⟨v,x,y,kd,m,K,j⟩:=Iy (P:=C.P) (Γ:=Y) (H:=L.hp) (w:=w) c.argTypes o.type h;refine j.out S m ?_;obtain⟨cs,z⟩:=L0 (ρ:=a.eval) d p;rw[z,S.args_ints K];simp[builtin]
   ·obtain⟨v,x,y,kd,m,K,j⟩:=Iy (P:=C.P) (Γ:=Y) (H:=L.hp) (w:=w) c.argTypes o.type h;refine j.out S m ?_;obtain⟨cs,z⟩:=L0 (ρ:=a.eval) d p;rw[z,S.args_ints K];simp[builtin]
   ·rw[d] at l;simp[G0,p] at l
   ·rw[d] at l;simp[G0,p] at l
   ·cases h
  ·rename_i p;rw[d] at l;simp[G0,p] at l
  ·cases h
 ·cases h
theorem RR{t q:Nat}{op:BinOp}{x y:Operand}(c:o.op = .binOp op t x y q)(h:opK C J Z o L k=some r)(S:SI C I Y Q L a.tmps w) :
  ∃V b,k b=some r/\(∀w':World,(execOp a.eval o).run C.P w' = .ok (.value V) w')/\SI C I Y Q b (a.put o.dst V).tmps w/\Stp C Y L.hp w noΦ Y b.hp w noΦ:=by
 simp only[opK,c] at h;obtain⟨v,d,e⟩:=Sg (ox:=x) (oy:=y) h (S.opnd x).1 (S.opnd y).1;exact e.out S d (by simp only[execOp,c])
theorem EQ{t f:Nat}{x:Operand}(c:o.op = .fieldAddr t x f)(h:opK C J Z o L k=some r)(S:SI C I Y Q L a.tmps w) :
  ∃V b,k b=some r/\(∀w':World,(execOp a.eval o).run C.P w' = .ok (.value V) w')/\SI C I Y Q b (a.put o.dst V).tmps w/\Stp C Y L.hp w noΦ Y b.hp w noΦ:=by
 simp only[opK,c] at h;obtain⟨v,d,e⟩:=Dr h (S.opnd x).1 (S.opnd x).2;exact e.out S d (by simp only[execOp,c])
theorem DU{t:Nat}{parts:Array (Nat × Operand)}(c:o.op = .build t parts)(h:opK C J Z o L k=some r)(S:SI C I Y Q L a.tmps w) :
  ∃V b,k b=some r/\(∀w':World,(execOp a.eval o).run C.P w' = .ok (.value V) w')/\SI C I Y Q b (a.put o.dst V).tmps w/\Stp C Y L.hp w noΦ Y b.hp w noΦ:=by
 simp only[opK,c] at h;obtain⟨d,e⟩:=S.parts parts.toList;obtain⟨v,f,g⟩:=Kk (ps:=parts.map λ(i,x)=>(i,a.eval x)) h (by rw[s8];exact d) e;exact g.out S f (by simp only[execOp,c])
theorem FF{t:Nat}{x i:Operand}(c:o.op = .indexAddr t x i)(h:opK C J Z o L k=some r)(S:SI C I Y Q L a.tmps w) :
  ∃V b,k b=some r/\(∀w':World,(execOp a.eval o).run C.P w' = .ok (.value V) w')/\SI C I Y Q b (a.put o.dst V).tmps w/\Stp C Y L.hp w noΦ Y b.hp w noΦ:=by
 simp only[opK,c] at h;obtain⟨v,d,e⟩:=Dt S.hr h (S.opnd x).1 (S.opnd i).1 (S.opnd x).2;exact e.out S d (by simp only[execOp,c])
theorem HP{t:Nat}{x:Operand}{y u z:Option Operand}(c:o.op = .slice t x y u z)(h:opK C J Z o L k=some r)(S:SI C I Y Q L a.tmps w) :
  ∃V d,k d=some r/\(∀w':World,(execOp a.eval o).run C.P w' = .ok (.value V) w')/\SI C I Y Q d (a.put o.dst V).tmps w/\Stp C Y L.hp w noΦ Y d.hp w noΦ:=by
 simp only[opK,c] at h;have i:=S.ov y;have g:=S.ov u;have j:=S.ov z;split at h
 ·rename_i n e b m G;split at h
  ·rename_i v H K A D;split at h
   ·rename_i q;obtain⟨p,B⟩:=B1 h;simp only[decide_eq_true_eq] at p;have f:=(S.opnd x).1;rw[G] at f;obtain⟨v,l,f⟩:=Fy S.hr B m q.1 q.2.1 D p (by omega) (by simp only[maxLen];omega) f i g j;exact f.out S l (by simp only[execOp,c])
   ·cases h
  ·cases h
 ·split at h
  ·rename_i F;obtain⟨v,l,f⟩:=Mj S.hr h (S.opnd x).1 (S.opnd x).2 i g j (by rw[Y2,Y2];intro h;simpa[h] using F);exact f.out S l (by simp only[execOp,c])
  ·cases h
end
def Ns:Op->Bool
 | .call c=>match c.callee with
  | .builtin _=>false
  | _=>true
 | _=>false
section
variable {W R : Type} {r : R} {C : Cfg} {I : W -> (Nat -> Prop) -> (Nat -> Prop) -> World -> Prop} {Q : Ctx} {Y : Nat -> Prop} {L : St W} {a : Act} {w : World} {J : C9} {U : Yh W} {o : Oper} {k : St W -> Option R}
def ZT(C:Cfg)(I:W->(Nat->Prop)->(Nat->Prop)->World->Prop)(Q:Ctx)(Y:Nat->Prop)(L:St W)(a:Act)(w:World)(o:Oper)(k:St W->Option R)(r:R):Prop:=
 ∃V w' Γ' b,k b=some r/\((execOp a.eval o).run C.P w = .ok (.value V) w'\/(V=undef/\(execOp a.eval o).run C.P w = .ok .skip w'))/\SI C I Γ' Y b (a.put o.dst V).tmps w'/\Stp C Q L.hp w Y Γ' b.hp w' Y
theorem Stp.lift{Γ':Ctx}{H H':List Blk}{w':World}(h:Stp C Q H w noΦ Γ' H' w' noΦ)(Y:Nat->Prop):Stp C Q H w Y Γ' H' w' Y:=
 ⟨h.os,h.tape,h.output,h.size,h.sub,h.stnew,h.own,λ_ h=>.inl h,λg hg hn _=>h.frame g hg hn (λx=>x),h.yv,h.len,h.keep⟩
theorem ZV.loud(h:ZV C I Q Y L a w o k r):ZT C I Q Y L a w o k r:=by obtain⟨V,st',h1,h2,h3,h4⟩:=h;exact⟨V,w,Q,st',h1,.inl (h2 w (Ext.refl w)),h3,h4.lift Y⟩
theorem SI.after(hI:HI I)(S:SI C I Q Y L a.tmps w){w':World}{Γ':Ctx}{H':List Blk}{sl':List PV}{v:PV}{V:Value}(h:Stp C Q L.hp w noΦ Γ' H' w' noΦ)(hr:HR Γ' H' w')(hs:SR Q L.hp w L.sl a.tmps->SR Γ' H' w' sl' a.tmps)(hv:VP Γ' (A0 H') w' v V)(hn:∀c∈v.nms,c<H'.length) :
  SI C I Γ' Y { sl:=R3 o.dst v sl',hp:=H',s:=L.s } (a.put o.dst V).tmps w':=
 S.step hI (h.lift Y) (λg hg=>h.frame g (hI.foot _ _ _ _ S.inv g hg).1 (λb hb=>S.dis b g hb hg) (λx=>x)) hr ((hs S.sr).put (ds:=a.defers) o hv hn)
theorem WV.out{m:Sem Value}{v:PV}{sl':List PV}{H':List Blk}(hI:HI I)(S:SI C I Q Y L a.tmps w)(h:WV C Q L.hp w L.sl a.tmps m v sl' H')(hk:k { sl:=R3 o.dst v sl',hp:=H',s:=L.s } = some r)(he:execOp a.eval o=(do pure (.value (<-m)))):ZT C I Q Y L a w o k r:=by obtain⟨V,w',Γ',h1,h2,h3,h4,h5,h6⟩:=h;refine⟨V,w',Γ',_,hk,.inl ?_,S.after hI h2 h3 h4 h5 h6,h2.lift Y⟩;simp_all
theorem WV.outU{m:Sem Unit}{v:PV}{sl':List PV}{H':List Blk}(hI:HI I)(S:SI C I Q Y L a.tmps w)(h:WV C Q L.hp w L.sl a.tmps (do m;pure undef) v sl' H')(hk:k { sl:=R3 o.dst v sl',hp:=H',s:=L.s } = some r)(he:execOp a.eval o=(do m;pure .skip)):ZT C I Q Y L a w o k r:=by
 obtain⟨V,w',Γ',h1,h2,h3,h4,h5,h6⟩:=h;have key:V=undef/\m.run C.P w = .ok () w':=by
  simp only[ac4] at h1;cases hm:m.run C.P w with
  | ok u w1=>rw[hm] at h1;simp at h1;exact⟨h1.1.symm,by rw[h1.2]⟩
  | halt x w1=>rw[hm] at h1;simp[x5] at h1
 refine⟨V,w',Γ',_,hk,.inr ⟨key.1,?_⟩,S.after hI h2 h3 h4 h5 h6,h2.lift Y⟩;simp_all
theorem FQ(D:HI I)(hq:Ns o.op=false)(h:opK C J U o L k=some r)(S:SI C I Q Y L a.tmps w):ZT C I Q Y L a w o k r:=by
 by_cases g:G0 C o.op=true
 ·exact(Ic g h S).loud
 have h0:=h;unfold opK at h;dsimp only at h;split at h
 ·rename_i f;exact absurd (by rw[f];rfl) g
 ·rename_i f;exact absurd (by rw[f];rfl) g
 ·rename_i f;exact absurd (by rw[f];rfl) g
 ·rename_i e f;by_cases H:(C.ti e).ok=true
  ·obtain⟨i,z,hi,hz,a2,a0⟩:=Y6 (Γ:=Q) (sh:=A0 L.hp) (w:=w) H;obtain⟨v,H',q,j⟩:=Si (V:=z) (sl:=L.sl) (tmps:=a.tmps) (m:=ae6 e true (.tuple #[])) S.hr h a0 (by rw[Hm];simp) (by simp[ae6,zeroValue,typeInfo,hi,hz,newVar,newRow]);exact j.out D S q (by simp only[execOp,f])
  ·simp[Qf,H] at h
 ·rename_i e x f;split at h
  ·rename_i K;by_cases H:(C.ti e).ok=true
   ·obtain⟨i,hi,a2,a3⟩:=F9 H;have P:(opnd C L.sl x).cells≠[]:=by intro e;rw[e] at K;simp at K;omega
    obtain⟨v,H',q,j⟩:=Si (V:=a.eval x) (sl:=L.sl) (tmps:=a.tmps) (m:=Instr.box e (a.eval x)) S.hr h ((S.opnd x).1.cells' P) (λc hc=>(S.opnd x).2 c (PV.cells_nms c hc)) (by simp[Instr.box,newVar,newRow]);exact j.out D S q (by simp only[execOp,f])
   ·simp[Qf,H] at h
  ·cases h
 ·rename_i f;exact absurd (by rw[f];rfl) g
 ·rename_i t len parts f;obtain⟨h1,h2⟩:=S.parts parts.toList;cases T:C.stab t with
  | true=>
   simp only[T,cond_true] at h;obtain⟨v,q,j,_⟩:=Dp (ps:=parts.map λ(i,x)=>(i,a.eval x)) (sl:=L.sl) (tmps:=a.tmps) S.hr h (by rw[s8];exact h1);exact j.out D S q (by simp only[execOp,f])
  | false=>
  simp only[T,cond_false] at h;obtain⟨v,H',q,j,_⟩:=Cj (ps:=parts.map λ(i,x)=>(i,a.eval x)) (sl:=L.sl) (tmps:=a.tmps) S.hr h (by rw[s8];exact h1);exact j.out D S q (by simp only[execOp,f])
 ·rename_i f;exact absurd (by rw[f];rfl) g
 ·rename_i t x y f;obtain⟨H',q,j⟩:=CO (sl:=L.sl) (tmps:=a.tmps) S.hr h (S.opnd x).1 (S.opnd y).1 (S.opnd y).2;exact j.outU D S q (by simp only[execOp,f])
 ·rename_i f;exact absurd (by rw[f];rfl) g
 ·rename_i f;exact absurd (by rw[f];rfl) g
 ·rename_i f;exact absurd (by rw[f];rfl) g
 ·rename_i a6 a4 x f;split at h
  ·obtain⟨v,q,j⟩:=AB (sl:=L.sl) (tmps:=a.tmps) S.hr h (S.opnd x).1;exact j.out D S q (by simp only[execOp,f])
  ·rename_i P;refine absurd ?_ g;rw[f];simp only[G0]
   done
 ·rename_i f;exact absurd (by rw[f];rfl) g
 ·rename_i t l c f;obtain⟨v,H',q,j⟩:=Ok (sl:=L.sl) (tmps:=a.tmps) S.hr h (S.opnd l).1 (S.opnd c).1;exact j.out D S q (by simp only[execOp,f])
 ·rename_i f;exact absurd (by rw[f];rfl) g
 ·rename_i f;exact absurd (by rw[f];rfl) g
 ·rename_i f;exact absurd (by rw[f];rfl) g
 ·rename_i f;exact absurd (by rw[f];rfl) g
 ·rename_i f;exact absurd (by rw[f];rfl) g
 ·rename_i t x f;split at h
  ·rename_i l hx;split at h
   ·rename_i a1;have j:=(S.opnd x).1;rw[hx] at j;obtain⟨s,e,rfl⟩:=j.inv_str;have:=XQ (C:=C) (s:=s) (sl:=L.sl) (tmps:=a.tmps) S.hr (R8 a1);exact this.out D S h (by simp only[execOp,f,e])
   ·cases h
  ·cases h
 ·rename_i it f;split at h
  ·rename_i b hx;have j:=(S.opnd it).1;rw[hx] at j;split at h
   ·rename_i l p hb;by_cases X:p<l.length
    ·simp only[X,decide_true,Aa,cond_true] at h;have:=Ad0 (C:=C) (ty:=o.type) (sl:=L.sl) (tmps:=a.tmps) S.hr j hb X;exact this.out D S h (by simp only[execOp,f])
    ·simp only[X,decide_false,Aa,cond_false] at h;have:=FN (C:=C) (ty:=o.type) S.hr j hb X;exact(this.out S h (by simp only[execOp,f])).loud
   ·cases h
  ·cases h
 ·rename_i t f;obtain⟨v,H',q,j,_⟩:=Gw (sl:=L.sl) (tmps:=a.tmps) S.hr h;exact j.out D S q (by simp only[execOp,f,Option.map_none])
 ·rename_i f;exact absurd (by rw[f];rfl) g
 ·rename_i t m x y f;obtain⟨H',q,j⟩:=Vt (sl:=L.sl) (tmps:=a.tmps) S.hr h (S.opnd m).1 (S.opnd x).1 (S.opnd y).1 (S.opnd y).2;exact j.outU D S q (by simp only[execOp,f])
 ·rename_i f;exact absurd (by rw[f];rfl) g
 ·rename_i c f;split at h
  ·rename_i b B;unfold Y8 at h;dsimp only at h;split at h
   ·exact absurd (by rw[f];simp[G0,B]) g
   ·rename_i t u s x F n;obtain⟨s0,O,G,rfl,rfl⟩:=DN n;have A:c.argTypes=[t,u].toArray:=by rw[<-F]
    split at h
    ·rename_i hu;obtain⟨v,a5,H',q,j⟩:=Iu (ty:=o.type) (tmps:=a.tmps) S.hr hu h (S.opnd s0).1 (S.opnd O).1;refine j.out D S q ?_;obtain⟨Z,N⟩:=L0 (ρ:=a.eval) f B;rw[N,G,A];simp[builtin]
    grind
   ·rename_i t u d x F n;obtain⟨s0,O,G,rfl,rfl⟩:=DN n;have A:c.argTypes=[t,u].toArray:=by rw[<-F]
    obtain⟨v,H',q,j⟩:=EF (u:=u) (ty:=o.type) (sl:=L.sl) (tmps:=a.tmps) S.hr h (S.opnd s0).1 (S.opnd O).1;refine j.out D S q ?_;obtain⟨Z,N⟩:=L0 (ρ:=a.eval) f B;rw[N,G,A];simp[builtin]
   ·exact absurd (by rw[f];simp[G0,B]) g
   ·exact absurd (by rw[f];simp[G0,B]) g
   ·rename_i t x F n;obtain⟨O,G,rfl⟩:=Ak4 n;have A:c.argTypes = #[t]:=by rw[<-F]
    obtain⟨H',q,j⟩:=AN (ty:=o.type) (sl:=L.sl) (tmps:=a.tmps) S.hr h (S.opnd O).1;refine j.out D S q ?_;obtain⟨Z,N⟩:=L0 (ρ:=a.eval) f B;rw[N,G,A];simp[builtin]
   ·rename_i t M m x F n;obtain⟨m0,O,G,rfl,rfl⟩:=DN n;have A:c.argTypes=(t::M).toArray:=by rw[<-F]
    obtain⟨H',q,j⟩:=Vr (ts:=M) (ty:=o.type) (sl:=L.sl) (tmps:=a.tmps) S.hr h (S.opnd m0).1 (S.opnd O).1;refine j.out D S q ?_;obtain⟨Z,N⟩:=L0 (ρ:=a.eval) f B;rw[N,G,A];simp[builtin]
   ·cases h
  ·rename_i B;rw[f] at hq;simp[Ns,B] at hq
  ·cases h
 ·cases h
end
theorem Fi(f:Nat->Nat)(l:List PV):rnL f l=l.map (PV.rn f):=by
 induction l with
 | nil=>rfl
 | cons v r a=>simp[rnL,a]
theorem Cg(H:List Blk)(l:List PV):I8 H l=l.map (PV.snap H):=by
 induction l with
 | nil=>rfl
 | cons v r a=>simp[I8,a]
theorem W6{l:List PV}(h:Dd l=true):∀v∈l,v.clean=true:=by
 induction l with
 | nil=>simp
 | cons a l b=>
  simp only[Dd,a7] at h;grind
mutual
theorem PV.rn_nms(f:Nat->Nat):∀v:PV,(v.rn f).nms=v.nms.map f
 | .s _=>rfl
 | .nsl=>rfl
 | .fl b=>rfl
 | .vw b _ _=>rfl
 | .ptr b _ _=>rfl
 | .fnr _ x y=>by simp only[PV.rn,PV.nms,ae9,Ai f x,Ai f y]
 | .it b=>rfl
 | .yd=>rfl
 | .agg l=>by simp only[PV.rn,PV.nms,Ai f l]
 | .tup l=>by simp only[PV.rn,PV.nms,Ai f l]
 | .bad=>rfl
theorem Ai(f:Nat->Nat):∀l:List PV,B3 (rnL f l)=(B3 l).map f
 | []=>rfl
 | v::r=>by simp only[rnL,B3,ae9,PV.rn_nms f v,Ai f r]
end
theorem Blk.rn_nms(f:Nat->Nat)(x:Blk):(x.rn f).nms=x.nms.map f:=by
 have e:∀l:List PV,l.map (PV.rn f)=rnL f l:=λl=>(Fi f l).symm
 cases x<;>simp only[Blk.rn,Blk.nms,Ai,Vu,ad6,ab7]
 rename_i ents;rw[<-Ai,<-e,ad6];rfl
theorem Blk.rn_shp(f:Nat->Nat)(x:Blk):(x.rn f).shp=x.shp:=by cases x<;>rfl
theorem VS.clean{St St':Nat->Prop}{w w':World}{v:SV}{V:Value}(h:VS St w v V)(hc:v.plain=true):VS St' w' v V:=by
 cases h with
 | bool=>exact .bool _
 | int=>exact .int _ _
 | str=>exact .str _
 | nilp=>exact .nilp
 | nilm=>exact .nilm
 | nilf=>exact .nilf
 | nil=>simp[SV.plain] at hc
 | emp=>simp[SV.plain] at hc
 | sl=>simp[SV.plain] at hc
 | sp=>simp[SV.plain] at hc
 | fn=>simp[SV.plain] at hc
theorem VP.rn{f:Nat->Nat}{Γ Γ':Ctx}{sh sh':Nat->Option Shp}{w:World}(hyv:Γ'.yv=Γ.yv){v:PV}{V:Value}(h:VP Γ sh w v V) :
  (v.clean=true\/∀g,Γ.St g->Γ'.St g)->(∀b∈v.nms,Γ'.nm (f b)=Γ.nm b/\sh' (f b)=sh b)->VP Γ' sh' w (v.rn f) V:=by
 induction h with
 | s v V h=>
  intro hc _;rcases hc with hc|hc
  ·refine .s _ _ (h.clean ?_);cases v<;>simp_all [PV.clean,SV.plain]
  ·exact .s _ _ (h.mono (λ_ _=>rfl) hc)
 | nsl=>intro _ _;exact .nsl
 | flv b e sz h=>intro _ hn;exact .flv _ e sz (by rw[(hn b (by simp[PV.nms])).2];exact h)
 | fl b g v e sz n cap h hv hg hcap hm hs=>
  intro _ hn;have o:=hn b (by simp[PV.nms]);exact .fl _ g v e sz n cap (by rw[o.2];exact h) hv (by rw[o.1];exact hg) hcap hm hs
 | vwv b e sz i h=>intro _ hn;exact .vwv _ e sz i (by rw[(hn b (by simp[PV.nms])).2];exact h)
 | vw b i n g a cap v e sz m h hv hg ha hi hcap hm=>
  intro _ hn;have o:=hn b (by simp[PV.nms]);exact .vw _ i n g a cap v e sz m (by rw[o.2];exact h) hv (by rw[o.1];exact hg) ha hi hcap hm
 | ptrA b i off g v e sz n h hg=>
  intro _ hn;have o:=hn b (by simp[PV.nms]);exact .ptrA _ i off g v e sz n (by rw[o.2];exact h) (by rw[o.1];exact hg)
 | ptrB b off g h hg=>
  intro _ hn;have o:=hn b (by simp[PV.nms]);exact .ptrB _ off g (by rw[o.2];exact h) (by rw[o.1];exact hg)
 | fnr g x y A B As Bs hf hA hB ha hb hx hy ihx ihy=>
  intro hc hn;simp only[PV.rn,Fi];refine .fnr g _ _ A B As Bs hf (by simpa using hA) (by simpa using hB) (λj h=>ha j (by simpa using h)) (λj h=>hb j (by simpa using h)) (λj h=>?_) (λj h=>?_)
  ·have hj:j<x.length:=by simpa using h
   rw[b7];refine ihx j hj (hc.imp (λe=>?_) id) (λb hb=>hn b (by simp only[PV.nms,p7];exact .inl (A9.2 ⟨j,hj,hb⟩)));simp only[PV.clean,a7] at e;exact W6 e.1 _ (b8 hj)
  ·have hj:j<y.length:=by simpa using h
   rw[b7];refine ihy j hj (hc.imp (λe=>?_) id) (λb hb=>hn b (by simp only[PV.nms,p7];exact .inr (A9.2 ⟨j,hj,hb⟩)));simp only[PV.clean,a7] at e;exact W6 e.2 _ (b8 hj)
 | it b g h hg=>
  intro _ hn;have o:=hn b (by simp[PV.nms]);exact .it _ g (by rw[o.2];exact h) (by rw[o.1];exact hg)
 | mpv b g h hg=>
  intro _ hn;have o:=hn b (by simp[PV.nms]);exact .mpv _ g (by rw[o.2];exact h) (by rw[o.1];exact hg)
 | yd=>intro _ _;rw[<-hyv];exact .yd
 | agg l A As hA ha hl ih=>
  intro hc hn;simp only[PV.rn,Fi];refine .agg _ A As (by simpa using hA) (λj h=>ha j (by simpa using h)) (λj h=>?_);have hj:j<l.length:=by simpa using h
  rw[b7];refine ih j hj (hc.imp (λe=>?_) id) (λb hb=>hn b (by simp only[PV.nms];exact A9.2 ⟨j,hj,hb⟩));simp only[PV.clean] at e;exact W6 e _ (b8 hj)
 | tup l A As hA ha hl ih=>
  intro hc hn;simp only[PV.rn,Fi];refine .tup _ A As (by simpa using hA) (λj h=>ha j (by simpa using h)) (λj h=>?_);have hj:j<l.length:=by simpa using h
  rw[b7];refine ih j hj (hc.imp (λe=>?_) id) (λb hb=>hn b (by simp only[PV.nms];exact A9.2 ⟨j,hj,hb⟩));simp only[PV.clean] at e;exact W6 e _ (b8 hj)
 | bad V=>intro _ _;exact .bad V
theorem Ap3(f:Nat->Nat)(a:Bool)(l:List SV):(svV a l).rn f=svV a l:=by
 cases a with
 | true=>simp only[svV,cond_true,PV.rn,Fi,ad6];rfl
 | false=>simp only[svV,cond_false];split<;>rfl
theorem UM{a:Bool}{l:List SV}(h:l.all SV.plain=true):(svV a l).clean=true:=by
 have key:∀x:SV,x.plain=true->(PV.s x).clean=true:=λx b=>by cases x<;>first|rfl|cases b
 cases a with
 | true=>
  simp only[svV,cond_true,PV.clean]
  induction l with
  | nil=>rfl
  | cons x l c=>
   simp only[List.all_cons,a7] at h;simp only[o9,Dd,a7];exact⟨key x h.1,c h.2⟩
 | false=>
  simp only[svV,cond_false];split
  ·rename_i x;exact key x (by simpa using h)
  ·rfl
theorem BR.rn{f:Nat->Nat}{Γ Γ':Ctx}{sh sh':Nat->Option Shp}{w:World}(hyv:Γ'.yv=Γ.yv){b b':Nat}{x:Blk}(h:BR Γ sh w b x)(hc:x.clean=true\/∀g,Γ.St g->Γ'.St g)(hb:Γ'.nm b'=Γ.nm b)
  (hn:∀c∈x.nms,Γ'.nm (f c)=Γ.nm c/\sh' (f c)=sh c):BR Γ' sh' w b' (x.rn f):=by
 cases x with
 | arr v e sz els=>
  rcases h with h|⟨hn,g,cur,h1,h2,h3,h4,h5⟩
  ·exact .inl h
  ·refine .inr ⟨hn,g,cur,by rw[hb];exact h1,h2,h3,h4,λi hi j hj=>?_⟩;obtain⟨V,e1,e2⟩:=h5 i hi j hj;refine⟨V,e1,?_⟩;rcases hc with hc|hc
   ·simp only[Blk.clean,c9] at hc;exact e2.clean (hc _ (b8 hi) _ (b8 hj))
   ·exact e2.mono (λ_ _=>rfl) hc
 | box cells=>
  obtain⟨g,cur,e,h1,h2,h3,h4⟩:=h;simp only[Blk.rn,Fi];refine⟨g,cur,e,by rw[hb];exact h1,h2,by simpa using h3,λj hj=>?_⟩;have hj':j<cells.length:=by simpa using hj
  obtain⟨V,e1,e2⟩:=h4 j hj';rw[b7];refine⟨V,e1,e2.rn hyv (hc.imp (λe=>?_) id) (λc hc=>hn c (by simp only[Blk.nms];exact A9.2 ⟨j,hj',hc⟩))⟩;simp only[Blk.clean] at e;exact W6 e _ (b8 hj')
 | iter s p=>
  obtain⟨g,s',h1,h2,h3⟩:=h;exact⟨g,s',by rw[hb];exact h1,h2,h3⟩
 | mp ents=>
  obtain⟨g,es,ck,h1,h2,h3⟩:=h;exact⟨g,es,ck,by rw[hb];exact h1,h2,h3.map λv hv V k=>k.rn hyv (hc.imp (λe=>W6 e v hv) id) λc hc=>hn c (Ol hv c hc)⟩
 | ms a ents=>
  obtain⟨g,es,ck,h1,h2,h3⟩:=h;refine⟨g,es,ck,by rw[hb];exact h1,h2,h3.imp λv hv V k=>?_⟩;obtain⟨e,he,rfl⟩:=Qs hv;have:=k.rn (f:=f) (sh':=sh') hyv (hc.imp (λq=>UM (c9.1 q e he)) id) (λc hc=>by rw[CP] at hc;simp at hc);rwa [Ap3] at this
 | dead=>trivial
theorem LJ{l:List Nat}{b c:Nat}:c∈Z5 l b↔c∈l\/c=b:=by
 unfold Z5;split
 ·rename_i h;have a:b∈l:=by simpa using h
  exact⟨.inl,λh=>h.elim id (λe=>e▸a)⟩
 ·simp
theorem Br:∀(xs a:List Nat) (c:Nat),c∈xs.foldl Z5 a↔c∈a\/c∈xs
 | [],a,c=>by simp
 | x::xs,a,c=>by rw[aa1,Br xs,LJ,u5,or_assoc]
theorem Zy{l:List Nat}{b:Nat}(h:l.Nodup):(Z5 l b).Nodup:=by
 unfold Z5;split
 ·exact h
 ·rename_i a;rw[List.nodup_append];refine⟨h,by simp,λx d y c e=>?_⟩;simp at c;subst c;subst e;simp at a;exact a d
theorem Ej:∀(xs a:List Nat),a.Nodup->(xs.foldl Z5 a).Nodup
 | [],a,h=>h
 | x::xs,a,h=>by rw[aa1];exact Ej xs _ (Zy h)
theorem Vd(H:List Blk):∀(l a:List Nat),a.Nodup->(l.foldl (λa b=>((H.getD b .dead).nms).foldl Z5 a) a).Nodup
 | [],a,h=>h
 | x::l,a,h=>by rw[aa1];exact Vd H l _ (Ej _ _ h)
theorem HY(H:List Blk):∀(l a:List Nat) c,c∈a->c∈l.foldl (λa b=>((H.getD b .dead).nms).foldl Z5 a) a
 | [],a,c,h=>h
 | x::l,a,c,h=>by rw[aa1];exact HY H l _ c ((Br _ _ _).2 (.inl h))
theorem HX(H:List Blk)(p:Nat->Prop)(f:∀b,p b->∀c∈(H.getD b .dead).nms,p c):∀(l a:List Nat),(∀c∈a,p c)->(∀c∈l,p c)->∀c∈l.foldl (λa b=>((H.getD b .dead).nms).foldl Z5 a) a,p c
 | [],a,h,_=>h
 | x::l,a,h,e=>by
  rw[aa1];refine HX H p f l _ (λc d=>?_) (λc d=>e c (by simp[d]));rcases(Br _ _ _).1 d with d|d
  ·exact h c d
  ·exact f x (e x (by simp)) c d
theorem Ff(H:List Blk)(p:List Nat->Prop)(a:∀l,p l->p (Uo H l)):∀n l,p l->p (CB H n l)
 | 0,l,h=>h
 | n+1,l,h=>by
  unfold CB;cases x9 (Uo H l).length l.length with
  | true=>exact h
  | false=>exact Ff H p a n _ (a l h)
theorem Pv(H:List Blk)(l:List Nat):(V9 H l).Nodup:=
 Ff H List.Nodup (λ_ h=>Vd H _ _ h) _ _ (Ej _ _ af7)
theorem Xw(H:List Blk)(l:List Nat):∀c∈l,c∈V9 H l:=λc a=>
 Ff H (c∈·) (λ_ h=>HY H _ _ c h) _ _ ((Br _ _ _).2 (.inr a))
theorem Xv(H:List Blk)(l:List Nat)(p:Nat->Prop)(g:∀b,p b->∀c∈(H.getD b .dead).nms,p c)(f:∀c∈l,p c):∀c∈V9 H l,p c:=by
 have d:∀c∈l.foldl Z5 [],p c:=λc e=>by
  rcases(Br _ _ _).1 e with h|h
  ·simp at h
  ·exact f c h
 have step:∀m,(∀c∈m,p c)->∀c∈Uo H m,p c:=λm a=>HX H p g m m a a
 exact Ff H (λm=>∀c∈m,p c) step _ _ d
theorem Vj{H:List Blk}{a:List Nat}(h:Bi H a=true):∀b∈a,∀c∈(H.getD b .dead).nms,c∈a:=by intro b d c e;simp only[Bi,c9] at h;simpa using h b d c e
theorem Bo{c:List Nat}{b:Nat}(h:b∈c):∃a:D9 c b<c.length,c[D9 c b]=b:=by have a:c.idxOf b<c.length:=List.idxOf_lt_length_of_mem h;exact⟨a,List.getElem_idxOf a⟩
theorem Ey{Γ:Ctx}{sh:Nat->Option Shp}{w:World}:∀(a:List Nat) (sl:List PV),(G3 a sl).length=sl.length/\(∀c∈B3 (G3 a sl),c∉a/\c∈B3 sl)/\
  ∀i (h:i<(G3 a sl).length) (f:i<sl.length) V,VP Γ sh w (sl[i]) V->VP Γ sh w ((G3 a sl)[i]) V
 | [],sl=>⟨rfl,λc g=>⟨by simp,g⟩,λi h f V k=>k⟩
 | b::a,sl=>by
  obtain⟨n,o,p⟩:=Ey (Γ:=Γ) (sh:=sh) (w:=w) a (N9 b sl);have j:(N9 b sl).length=sl.length:=by rw[U4];simp
  have e:G3 (b::a) sl=G3 a (N9 b sl):=rfl;refine⟨by rw[e,n,j],λc g=>?_,λi h f V k=>?_⟩
  ·rw[e] at g;obtain⟨q,l⟩:=o c g;refine⟨?_,T2 b sl c l⟩;rintro d;rcases u5.1 d with rfl|d
   ·exact L4 c sl l
   ·exact q d
  ·simp only[e];refine p i (by rw[e] at h;exact h) (by rw[j];exact f) V ?_;have m:(N9 b sl)[i]'(by rw[j];exact f)=(sl[i]).kill b:=by simp[U4]
   rw[m];exact k.kill b
theorem Gs{Γ:Ctx}{sh:Nat->Option Shp}{w:World}:∀(a:List Nat) (H:List Blk),(K8 a H).length=H.length/\(∀b,A0 (K8 a H) b=A0 H b)/\
  ∀i (h:i<(K8 a H).length) (g:i<H.length),(∀c∈((K8 a H)[i]).nms,c∉a/\c∈(H[i]).nms)/\∀b,BR Γ sh w b (H[i])->BR Γ sh w b ((K8 a H)[i])
 | [],H=>⟨rfl,λ_=>rfl,λi h g=>⟨λc f=>⟨by simp,f⟩,λb l=>l⟩⟩
 | k::a,H=>by
  obtain⟨p,q,r⟩:=Gs (Γ:=Γ) (sh:=sh) (w:=w) a (H.map (Blk.kill k));have n:(H.map (Blk.kill k)).length=H.length:=by simp
  have e:K8 (k::a) H=K8 a (H.map (Blk.kill k)):=rfl;refine⟨by rw[e,p,n],λb=>by rw[e,q,Uz],λi h g=>?_⟩;have j:i<(H.map (Blk.kill k)).length:=by rw[n];exact g
  obtain⟨t,u⟩:=r i (by rw[e] at h;exact h) j;have m:(H.map (Blk.kill k))[i]=(H[i]).kill k:=by simp
  refine⟨λc f=>?_,λb l=>?_⟩
  ·simp only[e] at f;obtain⟨v,o⟩:=t c f;rw[m] at o;obtain⟨x,y⟩:=Blk.kill_nms' c o;refine⟨?_,y⟩;rintro d;rcases u5.1 d with rfl|d
   ·exact x rfl
   ·exact v d
  ·simp only[e];exact u b (by rw[m];exact l.kill)
theorem Cu:∀(a:List Nat) (xs H:List Blk),a.Nodup->xs.length=a.length->(∀b∈a,b<H.length)->(R7 H a xs).length=H.length/\
  ∀b,(R7 H a xs)[b]? = if b∈a then xs[a.idxOf b]? else H[b]?
 | [],xs,H,_,f,_=>by cases xs<;>simp[R7]
 | n::a,[],H,_,f,_=>by simp at f
 | n::a,x::xs,H,i,f,d=>by
  obtain⟨j,k⟩:=Cu a xs (H.set n x) (af1.1 i).2 (by simpa using f) (λb c=>by simpa using d b (by simp[c]));have e:R7 H (n::a) (x::xs)=R7 (H.set n x) a xs:=rfl;refine⟨by rw[e,j];simp,λb=>?_⟩;rw[e,k];have l:n∉a:=(af1.1 i).1;by_cases c:b∈a
  ·have g:n≠b:=by rintro rfl;exact l c
   rw[if_pos c,if_pos (by simp[c]),List.idxOf_cons];have:(n==b)=false:=by simpa using g
   simp[this]
  ·rw[if_neg c,List.getElem?_set];by_cases e:n=b
   ·subst e;rw[if_pos rfl,if_pos (d n (by simp)),if_pos (by simp)];simp
   ·rw[if_neg e,if_neg (by simp only[u5,not_or];exact⟨λh=>e h.symm,c⟩)]
def D2(a:Option Nat):Fence:={ af3 with round:=a }
def J2(P:Program)(b:Result Next)(R:Value->World->Prop):Prop:=
 ∀(c:Option Nat) (n:Nat) (o:Oper) (a:Act) (next:Act->World->Prop) (Q:Exit->Act->World->Prop),(∀V w',R V w'->next (a.put o.dst V) w')->o.uponIn (D2 c) n P a next Q b
theorem J2.mono{P:Program}{res:Result Next}{R R':Value->World->Prop}(h:J2 P res R)(hr:∀V w',R V w'->R' V w'):J2 P res R':=
 λro n o a next Q hn=>h ro n o a next Q λV w' hR=>hn V w' (hr V w' hR)
def T7{e:Type}(C:Cfg)(I:e->(Nat->Prop)->(Nat->Prop)->World->Prop)(h:Ctx)(H:List Blk)(w:World)(i:Nat->Prop)(ret:PV)(d:List Blk)(f:e)(V:Value)(w':World):Prop:=
 ∃ Γ' a,Stp C h H w i Γ' d w' a/\HR Γ' d w'/\VP Γ' (A0 d) w' ret V/\(∀c∈ret.nms,c<d.length)/\I f Γ'.St a w'/\∀b g,Γ'.nm b=some g->¬a g
def JF{i:Type}(P:Program)(I:i->(Nat->Prop)->(Nat->Prop)->World->Prop)(j:Yh i)(k:Value):Prop:=
 ∀args s b h,j args s=some (b,h)->Dl args=true->∀a e w f,I s a.St e w->(∀g,a.St g->g<w.heap.size)->CR a (λ_=>none) w args f->
  J2 P ((do let d <-j9 k f;invoke d.target d.args).run P w) λV w'=>V = .bool b/\∃St' c,I h St' c w'/\(∀g,a.St g->St' g)/\(∀g,St' g->a.St g\/w.heap.size<=g)/\(∀g,c g->e g\/w.heap.size<=g)/\
   (∀g,g<w.heap.size->¬e g->w'.heap[g]? = w.heap[g]?)/\w.heap.size<=w'.heap.size/\w'.os=w.os/\w'.tape=w.tape/\w'.output=w.output/\∀g,St' g->g<w'.heap.size
def T8(C:Cfg)(l:C9):Prop:=
 ∀(e:Type) (I:e->(Nat->Prop)->(Nat->Prop)->World->Prop) (j:Yh e) (k:Value),HI I->JF C.P I j k->
  ∀g args H s ret f i,l e j g args H s=some (ret,f,i)->∀a d w h,a.yv=k->HR a H w->GOK C a.St w->I s a.St d w->(∀b g,a.nm b=some g->¬d g)->CR a (A0 H) w args h->(∀c∈B3 args,c<H.length)->
   J2 C.P ((callFunc g h).run C.P w) (T7 C I a H w d ret f i)
def I0:Unit->(Nat->Prop)->(Nat->Prop)->World->Prop:=λ_ _ a _=>∀g,¬a g
def At2(C:Cfg):Prop:=
 ∀g e args ret c,C.X g=some e->F5 (e args)=some (ret,c)->∀a w d,(∀b,a.nm b=none)->HR a [] w->GOK C a.St w->CR a (A0 []) w args d->
  J2 C.P ((callFunc g d).run C.P w) (T7 C I0 a [] w noΦ ret c ())
def clY(C:Cfg):C9:=λ_ _ g args H s=>match C.Y g with
 | some a=>match F5 (a args H) with
  | some (r,h)=>some (r,h,s)
  | none=>none
 | none=>none
def X8{b:Type}(c:Yh b):List (List PV)->b->Option b
 | [],s=>some s
 | x::xs,s=>match c x s with
  | some (true,a)=>X8 c xs a
  | some (false,a)=>some a
  | none=>none
def clS(C:Cfg):C9:=λ_ c g args H s=>match C.S g with
 | some a=>if H.all Tm=true then match a args H with
  | some (true,L)=>match X8 c L s with
   | some b=>some (.tup [],H.map Ci,b)
   | none=>none
  | _=>none
  else none
 | none=>none
def H6(w w':World):Prop:=(Ext w w'/\w.heap.size<=w'.heap.size)/\w'.os=w.os/\w'.tape=w.tape/\w'.output=w.output
def ZQ:SV->Value->Value->Array Value
 | .nilp,S,_=>#[S]
 | _,S,X=>#[S,X]
def DK(P:Program)(g:Nat)(d:SV->List (List SV)->Bool × List (List SV)):Prop:=
 ∀(St:Nat->Prop) (w:World) (x:SV) (X:Value) (a:List (List SV)),VS St w x X->(d x a).1=true->
  (a=[]->J2 P ((callFunc g (ZQ x (.slice none 0 0) X)).run P w) λV w'=>V=undef/\(d x a).2=[]/\H6 w w')/\
  ∀f c e l cap,w.heap[f]? = some (.cells c e (0,0))->c.size=cap*l->a.length<=cap->cap<=maxLen->¬St f->(∀g,St g->g<w.heap.size)->
   (∀i (h:i<a.length),(a[i]).length=l)->(∀i (h:i<a.length) j (m:j<(a[i]).length),∃V,c[i*l+j]? = some V/\VS St w (a[i][j]) V)->
   J2 P ((callFunc g (ZQ x (.slice (some ⟨f,0,none⟩) a.length cap) X)).run P w) λV w'=>V=undef/\(d x a).2.length=a.length/\
    ∃w1 b,w1.heap[f]? = some (.cells b e (0,0))/\b.size=c.size/\(∀k,k≠f->w1.heap[k]? = w.heap[k]?)/\w1.heap.size=w.heap.size/\w1.os=w.os/\w1.tape=w.tape/\w1.output=w.output/\
     (∀i (h:i<(d x a).2.length),((d x a).2[i]).length=l)/\(∀i (h:i<(d x a).2.length) j (m:j<((d x a).2[i]).length),∃V,b[i*l+j]? = some V/\VS St w1 ((d x a).2[i][j]) V)/\H6 w1 w'
structure XOK (C:Cfg):Prop where
 x:At2 C
 y:T8 C (clY C)
 s:T8 C (clS C)
 z:∀g pf,C.Z g=some pf->DK C.P g pf
section
variable {Γ : Ctx} {H : List Blk} {w : World} {C : Cfg}
def Ctx.all(Γ:Ctx):Ctx:={ Γ with St:=λg=>Γ.St g\/∃b,Γ.nm b=some g }
theorem CE{St':Nat->Prop}{b e f i n:Nat}{v:Bool}{c:List (List SV)}{a:Addr}{cap g:Nat}(K:HR Γ H w)(M:H[b]? = some (.arr v e f c))(y:¬(v=true/\c=[]))(N:Γ.nm b=some g)(Q:i+n<=c.length)(L:n≠0->a=⟨g,i*f,none⟩)(o:n<=cap)(G:cap<=maxLen)(z:∀g,Γ.St g->St' g)(u:St' g) :
  VS St' w (.sl false false f ((c.drop i).take n)) (.slice (some a) n cap):=by
 by_cases I:n=0
 ·subst I;rw[List.take_zero];exact .emp false f a cap (by simp) G
 ·rw[L I];obtain⟨O,d,B,D,P,J,F⟩:=K.arr' M y;rw[N] at B;cases B;have p:((c.drop i).take n).length=n:=by simp;omega
  have h:∀k (l:k<((c.drop i).take n).length),∃m:i+k<c.length,((c.drop i).take n)[k]=c[i+k]:=λk l=>by grind
  have t:∀k,k<d.size->w.cell? ⟨g,k,none⟩=d[k]?:=λk _=>cell_of_row w g k d e (0,0) D
  refine .sl false _ g (i*f) n cap f (λk j=>d.getD (i*f+k*f+j) undef) p.symm o G (by simp) u (λk l=>?_) (λk l j x=>?_) (λk l j x=>?_)
  ·obtain⟨m,e⟩:=h k l;rw[e];exact J _ m
  ·obtain⟨m,e⟩:=h k l;obtain⟨V,r,A⟩:=F _ m j (by rw[<-e];exact x);have q:d[i*f+k*f+j]? = some V:=by rw[<-r,aa3]
   rw[cell_of_row w g _ d _ (0,0) D,q];simp[j1,q]
  ·obtain⟨m,e⟩:=h k l;obtain⟨V,r,A⟩:=F _ m j (by rw[<-e];exact x);have q:d[i*f+k*f+j]? = some V:=by rw[<-r,aa3]
   simp only[e,j1,q];exact A.mono (λ_ _=>rfl) z
theorem VP.toAll{sh:Nat->Option Shp}{v:PV}{V:Value}(h:VP Γ sh w v V):VP Γ.all sh w v V:=
 h.mono (Γ':=Γ.all) (ok:=λ_=>True) ⟨λ_ _=>rfl,λ_ h=>aa2 h,λ_ _=>rfl,λ_ _=>rfl,λ_ _ _ _=>rfl,rfl⟩ (λ_ _=>trivial)
theorem VP.snap(hH:HR Γ H w){v:PV}{V:Value}(h:VP Γ (A0 H) w v V):VP Γ.all (A0 H) w (v.snap H) V:=by
 generalize hsh:A0 H=sh at h
 induction h with
 | s v V h=>exact(VP.s v V h).toAll
 | nsl=>exact .s _ _ (.nil _ _)
 | flv b e sz h=>
  subst hsh;obtain⟨x,hx,hs⟩:∃x,H[b]? = some x/\x.shp = .arr true e sz 0:=by simpa[A0] using h
  cases x<;>simp[Blk.shp] at hs
  rename_i v' e' sz' els;obtain⟨rfl,rfl,rfl,h4⟩:=hs;subst h4;simp only[PV.snap,hx];exact .s _ _ (.nil _ _)
 | fl b g v e sz n cap h hv hg hcap hm hs=>
  subst hsh;obtain⟨x,hx,hs'⟩:∃x,H[b]? = some x/\x.shp = .arr v e sz n:=by simpa[A0] using h
  cases x<;>simp[Blk.shp] at hs'
  rename_i v' e' sz' els;obtain⟨rfl,rfl,rfl,rfl⟩:=hs';have hne:¬(v'=true/\els=[]):=by rintro⟨q1,q2⟩;exact hv q1 (by rw[q2];rfl)
  have hz:(v'&&els.isEmpty)=false:=by grind
  simp only[PV.snap,hx,hz];have:=CE (i:=0) (n:=els.length) (a:=⟨g,0,none⟩) (cap:=cap) hH hx hne hg (by omega) (λ_=>by simp) hcap hm (St':=Γ.all.St) (λ_ h=>aa2 h) (.inr ⟨b,hg⟩);simp only[af5,ae2] at this;exact .s _ _ this
 | vwv b e sz i h=>
  subst hsh;obtain⟨x,hx,hs⟩:∃x,H[b]? = some x/\x.shp = .arr true e sz 0:=by simpa[A0] using h
  cases x<;>simp[Blk.shp] at hs
  rename_i v' e' sz' els;obtain⟨rfl,rfl,rfl,h4⟩:=hs;subst h4;simp only[PV.snap,hx,ag2,ag3];exact .s _ _ (.nil _ _)
 | vw b i n g a cap v e sz m h hv hg ha hi hcap hm=>
  subst hsh;obtain⟨x,hx,hs'⟩:∃x,H[b]? = some x/\x.shp = .arr v e sz m:=by simpa[A0] using h
  cases x<;>simp[Blk.shp] at hs'
  rename_i v' e' sz' els;obtain⟨rfl,rfl,rfl,rfl⟩:=hs';have hne:¬(v'=true/\els=[]):=by rintro⟨q1,q2⟩;exact hv q1 (by rw[q2];rfl)
  have hz:(v'&&els.isEmpty)=false:=by grind
  simp only[PV.snap,hx,hz];exact .s _ _ (CE hH hx hne hg hi ha hcap hm (λ_ h=>aa2 h) (.inr ⟨b,hg⟩))
 | ptrA b i off g v e sz n h hg=>exact(VP.ptrA b i off g v e sz n h hg).toAll
 | ptrB b off g h hg=>exact(VP.ptrB b off g h hg).toAll
 | fnr f x y A B As Bs hf hA hB ha hb hx hy ihx ihy=>exact(VP.fnr f x y A B As Bs hf hA hB ha hb hx hy).toAll
 | it b g h hg=>exact(VP.it b g h hg).toAll
 | mpv b g h hg=>exact(VP.mpv b g h hg).toAll
 | yd=>exact .yd
 | agg l A As hA ha hl ih=>
  simp only[PV.snap,Cg];refine .agg _ A As (by simpa using hA) (λj h=>ha j (by simpa using h)) (λj h=>?_);grind
 | tup l A As hA ha hl ih=>exact(VP.tup l A As hA ha hl).toAll
 | bad V=>exact .bad V
theorem Yd{l:List PV}(h:He l=false):∀v∈l,v.rows=false:=by
 induction l with
 | nil=>simp
 | cons a l b=>
  simp only[He,Bool.or_eq_false_iff] at h;grind
theorem VP.snap_plain{sh:Nat->Option Shp}{v:PV}{V:Value}(h:VP Γ sh w v V):v.rows=false->VP Γ sh w (v.snap H) V/\∀c∈(v.snap H).nms,c∈v.nms:=by
 induction h with
 | nsl=>intro _;exact⟨.s _ _ (.nil _ _),by simp[PV.snap,PV.nms]⟩
 | flv b e sz h=>intro hr;simp[PV.rows] at hr
 | fl b g v e sz n cap h hv hg hcap hm hs=>intro hr;simp[PV.rows] at hr
 | vwv b e sz i h=>intro hr;simp[PV.rows] at hr
 | vw b i n g a cap v e sz m h hv hg ha hi hcap hm=>intro hr;simp[PV.rows] at hr
 | agg l A As hA ha hl ih=>
  intro hr;simp only[PV.rows] at hr;have hr':=Yd hr;simp only[PV.snap,Cg];refine⟨.agg _ A As (by simpa using hA) (λj h=>ha j (by simpa using h)) (λj h=>?_),λc hc=>?_⟩
  ·grind
  ·simp only[PV.nms] at hc ⊢;obtain⟨j,hj,hc⟩:=A9.1 hc;rw[b7] at hc;exact A9.2 ⟨j,by simpa using hj,(ih j (by simpa using hj) (hr' _ (b8 _))).2 c hc⟩
 | s v V h=>intro _;exact⟨.s v V h,λc hc=>hc⟩
 | ptrA b i off g v e sz n h hg=>intro _;exact⟨.ptrA b i off g v e sz n h hg,λc hc=>hc⟩
 | ptrB b off g h hg=>intro _;exact⟨.ptrB b off g h hg,λc hc=>hc⟩
 | fnr f x y A B As Bs hf hA hB ha hb hx hy ihx ihy=>intro _;exact⟨.fnr f x y A B As Bs hf hA hB ha hb hx hy,λc hc=>hc⟩
 | it b g h hg=>intro _;exact⟨.it b g h hg,λc hc=>hc⟩
 | mpv b g h hg=>intro _;exact⟨.mpv b g h hg,λc hc=>hc⟩
 | yd=>intro _;exact⟨.yd,λc hc=>hc⟩
 | tup l A As hA ha hl ih=>intro _;exact⟨.tup l A As hA ha hl,λc hc=>hc⟩
 | bad V=>intro _;exact⟨.bad V,λc hc=>hc⟩
theorem CR.snap(hH:HR Γ H w){l:List PV}{A:Array Value}(h:CR Γ (A0 H) w l A):CR Γ.all (A0 H) w (I8 H l) A:=by rw[Cg];refine⟨by rw[p6];exact h.1,λj hj=>?_⟩;obtain⟨U,e,k⟩:=h.2 j (by simpa using hj);exact⟨U,e,by rw[b7];exact k.snap hH⟩
theorem CR.snap_plain{l:List PV}{A:Array Value}(h:CR Γ (A0 H) w l A)(hr:He l=false):CR Γ (A0 H) w (I8 H l) A/\∀c∈B3 (I8 H l),c∈B3 l:=by
 have hr':=Yd hr;rw[Cg];refine⟨⟨by rw[p6];exact h.1,λj hj=>?_⟩,λc hc=>?_⟩
 ·obtain⟨U,e,k⟩:=h.2 j (by simpa using hj);exact⟨U,e,by rw[b7];exact(k.snap_plain (hr' _ (b8 _))).1⟩
 ·obtain⟨j,hj,hc⟩:=A9.1 hc;rw[b7] at hc;have hj':j<l.length:=by simpa using hj
  obtain⟨U,e,k⟩:=h.2 j hj';exact A9.2 ⟨j,hj',(k.snap_plain (hr' _ (b8 _))).2 c hc⟩
theorem CR.bare{Γ':Ctx}{sh sh':Nat->Option Shp}{l:List PV}{A:Array Value}(h:CR Γ sh w l A)(hn:B3 l=[])(hst:∀g,Γ.St g->Γ'.St g)(hyv:Γ'.yv=Γ.yv):CR Γ' sh' w l A:=
 ⟨h.1,λj hj=>by
  obtain⟨U,e,k⟩:=h.2 j hj;refine⟨U,e,k.mono (ok:=λ_=>False) ⟨λ_ _=>rfl,hst,λ_ h=>h.elim,λ_ h=>h.elim,λ_ _ h=>h.elim,hyv⟩ (λb hb=>?_)⟩;have:b∈B3 l:=A9.2 ⟨j,hj,hb⟩;rw[hn] at this;simp at this⟩
theorem Ox{St':Nat->Prop}{w':World}(d:HR Γ H w)(a:∀g,g<w.heap.size->w'.heap[g]? = w.heap[g]?)(e:∀g,Γ.St g->St' g):P6 Γ (A0 H) w { Γ with St:=St' } (A0 H) w' (λ_=>True):=
 ⟨λg c=>a g (d.stlt g c),e,λ_ _=>rfl,λ_ _=>rfl,λb g _ c=>C4 (a g (d.lt b g c).2.1),rfl⟩
theorem Ah6{St':Nat->Prop}{w':World}(c:HR Γ H w)(a:∀g,g<w.heap.size->w'.heap[g]? = w.heap[g]?)(i:w.heap.size<=w'.heap.size)(h:∀g,Γ.St g->St' g)(j:∀g,St' g->Γ.St g\/w.heap.size<=g)(e:∀g,St' g->g<w'.heap.size):HR { Γ with St:=St' } H w':=by refine⟨c.inj,λb g d=>?_,e,c.nms,λb f=>(c.blk b f).mono (Ox c a h) rfl (λg d=>a g (c.lt b g d).2.1) (λ_ _=>trivial)⟩;have:=c.lt b g d;grind
theorem ZA{St':Nat->Prop}{w':World}{Φ:Nat->Prop}(e:HR Γ H w)(a:∀g,g<w.heap.size->w'.heap[g]? = w.heap[g]?)(d:w.heap.size<=w'.heap.size)(l:∀g,Γ.St g->St' g)(k:∀g,St' g->Γ.St g\/w.heap.size<=g)(f:w'.os=w.os)(i:w'.tape=w.tape)(j:w'.output=w.output) :
  Stp C Γ H w Φ { Γ with St:=St' } H w' Φ:=
 ⟨f,i,j,d,l,k,λb g c=>.inl ⟨(e.lt b g c).1,c⟩,λ_ h=>.inl h,λg c _ _=>a g c,rfl,h9 _,λb m n=>⟨rfl,rfl,λg c=>C4 (a g (e.lt b g c).2.1)⟩⟩
end
section
variable {U R : Type} {r : R} {C : Cfg} {I : U -> (Nat -> Prop) -> (Nat -> Prop) -> World -> Prop} {Q : Ctx} {W : Nat -> Prop} {Y : St U} {J : Array Value} {w : World} {K : C9} {O : Yh U} {Z : Value}
def DB(C:Cfg)(I:U->(Nat->Prop)->(Nat->Prop)->World->Prop)(Q:Ctx)(W:Nat->Prop)(Y:St U)(J:Array Value)(w:World)(k:PV->St U->Option R)(r:R)(V:Value)(w':World):Prop:=
 ∃v a Γ' b,k v a=some r/\Stp C Q Y.hp w W Γ' a.hp w' b/\SI C I Γ' b a J w'/\VP Γ' (A0 a.hp) w' v V/\∀c∈v.nms,c<a.hp.length
theorem Em{a:Ctx}(d:∀b,a.nm b=none)(c:∀g,a.St g->g<w.heap.size):HR a [] w:=
 ⟨λb e g h=>(by rw[d] at h;cases h),λb g h=>(by rw[d] at h;cases h),c,λb h=>by simp at h,λb h=>by simp at h⟩
theorem SI.wide(hI:HI I)(S:SI C I Q W Y J w){St':Nat->Prop}{w':World}(hold:∀g,g<w.heap.size->w'.heap[g]? = w.heap[g]?)(hsz:w.heap.size<=w'.heap.size)(hs:∀g,Q.St g->St' g)(hn:∀g,St' g->Q.St g\/w.heap.size<=g)(hlt:∀g,St' g->g<w'.heap.size)
  (h1:w'.os=w.os) (h2:w'.tape=w.tape) (h3:w'.output=w.output):SI C I { Q with St:=St' } W Y J w'/\Stp C Q Y.hp w W { Q with St:=St' } Y.hp w' W:=by
 have hstp:=ZA (C:=C) (Φ:=W) S.hr hold hsz hs hn h1 h2 h3;refine⟨?_,hstp⟩;have:=S.step hI hstp (λg hg=>hold g (hI.foot _ _ _ _ S.inv g hg).1) (Ah6 S.hr hold hsz hs hn hlt) (S.sr.mono (Ox S.hr hold hs) (λc hc=>⟨trivial,S.sr.nms c hc⟩));exact this
theorem SI.wideSt(hI:HI I)(S:SI C I Q W Y J w){St':Nat->Prop}(hs:∀g,Q.St g->St' g)(hd:∀g,St' g->¬W g)(hn:∀b g,Q.nm b=some g->¬St' g)(hlt:∀g,St' g->g<w.heap.size):SI C I { Q with St:=St' } W Y J w:=by
 have M:P6 Q (A0 Y.hp) w { Q with St:=St' } (A0 Y.hp) w (λ_=>True):=⟨λ_ _=>rfl,hs,λ_ _=>rfl,λ_ _=>rfl,λ_ _ _ _=>rfl,rfl⟩
 refine⟨⟨S.hr.inj,λb g hb=>?_,hlt,S.hr.nms,λb hb=>(S.hr.blk b hb).mono M rfl (λ_ _=>rfl) (λ_ _=>trivial)⟩,
  S.sr.mono M (λc hc=>⟨trivial,S.sr.nms c hc⟩),S.g.mono (λ_ _=>rfl) hs,hI.mono _ _ _ _ _ _ S.inv hs hd hlt (λ_ _=>rfl) (h9 _) rfl rfl rfl,S.dis⟩
 obtain⟨q1,q2,_⟩:=S.hr.lt b g hb;exact⟨q1,q2,hn b g hb⟩
theorem JH(S:SI C I Q W Y J w):∀g,Q.all.St g->g<w.heap.size:=by
 rintro g (h|⟨b,h⟩)
 ·exact S.hr.stlt g h
 ·exact(S.hr.lt b g h).2.1
theorem VC:HI I0:=⟨λ_ _ W _ h g a=>absurd a (h g),λ_ _ W _ _ _ h _ _ _ _ _ _ _ _=>h⟩
theorem VD{P:Program}{Z:Value}:JF P I0 (λ_ _=>none) Z:=λ_ _ _ _ h=>by cases h
theorem Ow{ret:PV}{u:List Blk}{k:PV->St U->Option R}{St0:Nat->Prop}{T:Result Next}(hI:HI I)(S:SI C I Q W Y J w)(a5:∀g,Q.St g->St0 g)(a0:(∀g,St0 g->Q.St g)\/(ret.clean=true/\u.all Blk.clean=true))
  (a2:J2 C.P T (T7 C I0 { Q with St:=St0,nm:=λ_=>none } [] w noΦ ret u ()))
  (hk:k (ret.rn (Y.hp.length + ·)) { sl:=Y.sl,hp:=Y.hp++u.map (Blk.rn (Y.hp.length + ·)),s:=Y.s } = some r):J2 C.P T (λV w'=>DB C I Q W Y J w k r V w'/\H6 w w'):=by
 let Γc:Ctx:={ Q with St:=St0,nm:=λ_=>none }
 refine a2.mono ?_;rintro V w' ⟨n,Φ1,l,f,hv,hvn,b0,a9⟩;have e:∀k,k<w.heap.size->w'.heap[k]? = w.heap[k]?:=λk hk=>l.frame k hk (λb=>by simp) (λx=>x)
 generalize hL:Y.hp.length=L at *;have p:∀i g,n.nm i=some g->i<u.length/\w.heap.size<=g/\g<w'.heap.size:=λi g h=>by
  refine⟨(f.lt i g h).1,?_,(f.lt i g h).2.1⟩;rcases l.own i g h with⟨h',_⟩|h'
  ·simp at h'
  ·exact h'
 obtain⟨t,D,m,H,B⟩:∃t:Nat->Prop,(∀g,Q.St g->t g)/\(∀g,t g->Q.St g\/(w.heap.size<=g/\n.St g))/\(∀g,t g->g<w'.heap.size)/\((∀g,n.St g->t g)\/(ret.clean=true/\u.all Blk.clean=true)):=by
  rcases a0 with h|h
  ·refine⟨n.St,λg a=>l.sub g (a5 g a),λg a=>?_,λg a=>f.stlt g a,.inl λ_ h=>h⟩;rcases l.stnew g a with q|q
   ·exact .inl (h g q)
   ·exact .inr ⟨q,a⟩
  ·exact⟨Q.St,λ_ h=>h,λ_ h=>.inl h,λg a=>j3 (S.hr.stlt g a) l.size,.inr h⟩
 let Γ2:Ctx:={ Q with St:=t,nm:=λb=>if b<L then Q.nm b else n.nm (b-L) }
 let o:List Blk:=Y.hp++u.map (Blk.rn (L + ·));have a3:∀i,i<u.length->A0 o (L+i)=A0 u i:=λi hi=>by
  simp only[o,A0];rw[s9 (by omega),hL,ac0,u4,Option.map_map]
  congr 1
  funext x
  exact Blk.rn_shp _ x
 have M:P6 Q (A0 Y.hp) w Γ2 (A0 o) w' (· < L):=⟨λg a=>e g (S.hr.stlt g a),D,λb A=>by simp only[Γ2];rw[if_pos A],λb A=>I9 (by omega),λb g A a=>C4 (e g (S.hr.lt b g a).2.1),rfl⟩
 have y:∀i,i<u.length->Γ2.nm (L+i)=n.nm i:=λi hi=>by simp only[Γ2];rw[if_neg (by omega),ac0]
 have a4:Γ2.yv=n.yv:=by have:=l.yv;exact this.symm
 have j:o.length=L+u.length:=by simp[o,hL]
 have a6:HR Γ2 o w':=by
  refine⟨λb b' g N P=>?_,λb g h=>?_,H,λb A c z=>?_,λb A=>?_⟩
  ·simp only[Γ2] at N P;split at N<;>split at P
   ·exact S.hr.inj b b' g N P
   ·have:=(S.hr.lt b g N).2.1;have:=(p _ g P).2.1;omega
   ·have:=(S.hr.lt b' g P).2.1;have:=(p _ g N).2.1;omega
   ·have:=f.inj _ _ g N P;omega
  ·rw[j];simp only[Γ2] at h;split at h
   ·have:=S.hr.lt b g h;refine⟨by omega,by have:=l.size;omega,λG=>?_⟩;rcases m g G with q|q
    ·exact this.2.2 q
    ·omega
   ·have:=p _ g h;refine⟨by omega,this.2.2,λG=>?_⟩;rcases m g G with q|q
    ·have:=S.hr.stlt g q;omega
    ·exact(f.lt _ g h).2.2 q.2
  ·rw[j] at A ⊢;by_cases X:b<L
   ·have:o[b]'(by omega)=Y.hp[b]'(by omega):=r9 (by omega);rw[this] at z;have:=S.hr.nms b (by omega) c z;omega
   ·have:o[b]'(by omega)=(u[b-L]'(by omega)).rn (L + ·):=by
     simp only[o];rw[y8 (by omega),b7];simp[hL]
    rw[this,Blk.rn_nms] at z;obtain⟨d,hd,rfl⟩:=x8.1 z;have:=f.nms _ (by omega) d hd;omega
  ·rw[j] at A;by_cases X:b<L
   ·have:o[b]'(by omega)=Y.hp[b]'(by omega):=r9 (by omega);rw[this];exact(S.hr.blk b (by omega)).mono M (M.nm b X) (λg a=>e g (S.hr.lt b g a).2.1) (λc v=>by have:=S.hr.nms b (by omega) c v;omega)
   ·have:o[b]'(by omega)=(u[b-L]'(by omega)).rn (L + ·):=by
     simp only[o];rw[y8 (by omega),b7];simp[hL]
    rw[this];refine(f.blk _ (by omega)).rn a4 (by
     rcases B with h|h
     ·exact .inr h
     ·exact .inl (c9.1 h.2 _ (b8 _))) ?_ (λc v=>?_)
    ·have:=y (b-L) (by omega);rw[show L+(b-L)=b by omega] at this;exact this
    ·have a1:=f.nms _ (by omega) c v;exact⟨y c a1,a3 c a1⟩
 have F:Stp C Q Y.hp w W Γ2 o w' W:=by
  refine⟨l.os,l.tape,l.output,l.size,D,λg a=>(m g a).imp (λh=>h) (λh=>h.1),λb g h=>?_,λ_ h=>.inl h,λg a _ _=>e g a,rfl,by omega,λb A hf=>⟨M.nm b (by omega),M.shp b (by omega),λg a=>M.hs b g (by omega) a⟩⟩;simp only[Γ2] at h;split at h
  ·exact .inl ⟨by omega,h⟩
  ·exact .inr (p _ g h).2.1
 have S':=S.step hI F (λg a=>e g (hI.foot _ _ _ _ S.inv g a).1) a6 (S.sr.mono M (λc v=>by have:=S.sr.nms c v;omega));refine⟨⟨_,_,Γ2,W,hk,F,S',?_,λc v=>?_⟩,⟨e,l.size⟩,l.os,l.tape,l.output⟩
 ·exact hv.rn a4 (by rcases B with h|h;exact .inr h;exact .inl h.1) (λc v=>⟨y c (hvn c v),a3 c (hvn c v)⟩)
 ·rw[PV.rn_nms] at v;obtain⟨d,hd,rfl⟩:=x8.1 v;have:=hvn d hd;show L+d<o.length;omega
theorem DY{g:Nat}{args:List PV}{e:Array Value}{ret:PV}{d:List Blk}{k:PV->St U->Option R}(n:HI I)(l:T8 C K)(S:SI C I Q W Y J w)(o:CR Q (A0 Y.hp) w args e)(a:B3 (I8 Y.hp args)=[])(j:K Unit (λ_ _=>none) g (I8 Y.hp args) [] ()=some (ret,d,()))
  (c:ret.clean=true) (m:d.all Blk.clean=true) (p:k (ret.rn (Y.hp.length + ·)) { sl:=Y.sl,hp:=Y.hp++d.map (Blk.rn (Y.hp.length + ·)),s:=Y.s } = some r):J2 C.P ((callFunc g e).run C.P w) (DB C I Q W Y J w k r):=by
 have f:=o.snap S.hr;let Γc:Ctx:={ Q.all with nm:=λ_=>none }
 have i:CR Γc (A0 []) w (I8 Y.hp args) e:=f.bare a (λ_ h=>h) rfl;exact(Ow n S (St0:=Q.all.St) (λ_ h=>aa2 h) (.inr ⟨c,m⟩)
  (l Unit I0 _ Q.yv VC VD g _ [] () ret d () j Γc noΦ w e rfl (Em (λ_=>rfl) (JH S)) (S.g.mono (λ_ _=>rfl) (λ_ h=>aa2 h)) (λ_ h=>h) (λb g h=>by cases h) i (by rw[a];simp)) p).mono λ_ _ h=>h.1
theorem Sp{g:Nat}{args:List PV}{d:Array Value}{j:List PV->Tr}{ret:PV}{c:List Blk}{k:PV->St U->Option R}(m:HI I)(n:XOK C)(S:SI C I Q W Y J w)(o:CR Q (A0 Y.hp) w args d)(p:C.X g=some j)(i:F5 (j (I8 Y.hp args))=some (ret,c))
  (f:B3 (I8 Y.hp args)=[]) (l:He args=false\/(ret.clean=true/\c.all Blk.clean=true)) (q:k (ret.rn (Y.hp.length + ·)) { sl:=Y.sl,hp:=Y.hp++c.map (Blk.rn (Y.hp.length + ·)),s:=Y.s } = some r):J2 C.P ((callFunc g d).run C.P w) (λV w'=>DB C I Q W Y J w k r V w'/\H6 w w'):=by
 by_cases t:He args=false
 ·have a:=(o.snap_plain t).1;let Γc:Ctx:={ Q with nm:=λ_=>none }
  have b:CR Γc (A0 []) w (I8 Y.hp args) d:=a.bare f (λ_ h=>h) rfl;exact Ow m S (St0:=Q.St) (λ_ h=>h) (.inl λ_ h=>h) (n.x g j _ ret c p i Γc w d (λ_=>rfl) (Em (λ_=>rfl) S.hr.stlt) S.g b) q
 ·have e:ret.clean=true/\c.all Blk.clean=true:=by rcases l with h|h;exact absurd h t;exact h
  have a:=o.snap S.hr;let Γc:Ctx:={ Q.all with nm:=λ_=>none }
  have b:CR Γc (A0 []) w (I8 Y.hp args) d:=a.bare f (λ_ h=>h) rfl;exact Ow m S (St0:=Q.all.St) (λ_ h=>aa2 h) (.inr e) (n.x g j _ ret c p i Γc w d (λ_=>rfl) (Em (λ_=>rfl) (JH S)) (S.g.mono (λ_ _=>rfl) (λ_ h=>aa2 h)) b) q
theorem EA{g:Nat}{args:List PV}{e:Array Value}{f:List PV->Tr}{ret:PV}{a:List Blk}{k:PV->St U->Option R}(i:HI I)(j:XOK C)(S:SI C I Q W Y J w)(l:CR Q (A0 Y.hp) w args e)(m:C.X g=some f)(d:F5 (f (I8 Y.hp args))=some (ret,a))
  (c:B3 (I8 Y.hp args)=[]) (b:He args=false\/(ret.clean=true/\a.all Blk.clean=true)) (n:k (ret.rn (Y.hp.length + ·)) { sl:=Y.sl,hp:=Y.hp++a.map (Blk.rn (Y.hp.length + ·)),s:=Y.s } = some r):J2 C.P ((callFunc g e).run C.P w) (DB C I Q W Y J w k r):=
 (Sp i j S l m d c b n).mono λ_ _ h=>h.1
end
def Ctx.lent(Γ:Ctx)(ns:List Nat):Ctx:={ Γ with nm:=λi=>(ns[i]?).bind Γ.nm }
def Ctx.back(Γ Γ1:Ctx)(ns:List Nat)(L:Nat)(d:Bool):Ctx:=
 { St:=Γ1.St,nm:=λb=>if b∈ns then Γ1.nm (D9 ns b) else if b<L then Γ.nm b else if d=true then none else Γ1.nm (ns.length+(b-L)),yv:=Γ.yv,yv1:=Γ.yv1 }
section
variable {W R : Type} {r : R} {C : Cfg} {I : W -> (Nat -> Prop) -> (Nat -> Prop) -> World -> Prop} {Q : Ctx} {H : List Blk} {J : Nat -> Prop} {Y : St W} {K : Array Value} {w : World} {X : C9} {O : Yh W} {Z : Value}
def L1(H:List Blk)(a:List Nat):List Blk:=a.map λb=>(H.getD b .dead).rn (D9 a)
theorem Le{a:List Nat}{b:Nat}(h:b∈a):(Q.lent a).nm (D9 a b)=Q.nm b:=by obtain⟨c,d⟩:=Bo h;simp only[Ctx.lent,a8 c,d,aa8]
theorem Gv{a:List Nat}(c:∀b∈a,b<H.length){i:Nat}(d:i<a.length):A0 (L1 H a) i=A0 H a[i]:=by have:=c _ (b8 d);simp only[A0,L1,u4,a8 d,o6,Blk.rn_shp,a8 this];rw[j0,a8 this];rfl
theorem QK{a:List Nat}(p:HR Q H w)(y:a.Nodup)(k:∀b∈a,b<H.length)(x:Bi H a=true):HR (Q.lent a) (L1 H a) w:=by
 have n:=Vj x;have key:∀i g,(Q.lent a).nm i=some g->∃h:i<a.length,Q.nm a[i]=some g:=λi g h=>by
  simp only[Ctx.lent] at h;cases f:a[i]? with
  | none=>rw[f] at h;simp at h
  | some b=>
   obtain⟨u,v⟩:=j4.1 f;rw[f] at h;exact⟨u,by rw[v];exact h⟩
 have l:∀b (h:b∈a),H.getD b .dead=H[b]'(k b h):=λb h=>by rw[j0,a8 (k b h)];rfl
 refine⟨λi j g u v=>?_,λi g h=>?_,p.stlt,λi f c q=>?_,λi f=>?_⟩
 ·obtain⟨f,t⟩:=key i g u;obtain⟨F,z⟩:=key j g v;have:=p.inj _ _ g t z;exact(ae0 y).1 this
 ·obtain⟨f,t⟩:=key i g h;have:=p.lt _ g t;exact⟨by simpa[L1] using f,this.2⟩
 ·simp only[L1,p6] at f ⊢;simp only[L1,b7,Blk.rn_nms] at q;obtain⟨d,A,rfl⟩:=x8.1 q;exact(Bo (n _ (b8 f) d A)).1
 ·simp only[L1,p6] at f;have o:=b8 f;have e:(L1 H a)[i]'(by simpa[L1] using f)=(H[a[i]]'(k _ o)).rn (D9 a):=by
   simp only[L1,b7,l _ o]
  rw[e];refine BR.rn (Γ:=Q) (Γ':=Q.lent a) (b':=i) rfl (p.blk _ (k _ o)) (.inr λ_ h=>h) ?_ (λc q=>?_)
  ·simp only[Ctx.lent,a8 f,aa8]
  ·have m:c∈a:=n _ o c (by rw[l _ o];exact q);obtain⟨B,D⟩:=Bo m;exact⟨Le m,by rw[Gv k B,D]⟩
theorem Xh{L:Nat}{H:List Blk}(h:Vp L H=true):∀x∈H,∀c∈x.nms,c<L:=by intro x b c a;simp only[Vp,c9,decide_eq_true_eq] at h;exact h x b c a
theorem Tc{b:Nat}(a:b<H.length):Z1 C (H.getD b .dead)=true↔Dg C (A0 H b):=by
 have e:H.getD b .dead=H[b]:=by rw[j0,a8 a];rfl
 rw[e];simp only[A0,a8 a,o6];cases H[b]<;>simp[Z1,Dg,Blk.shp]
theorem Pb{g:Nat}{T:List PV}{Vs:Array Value}{ret:PV}{z:List Blk}{s':W}{k:PV->St W->Option R}(hI:HI I)(hC:T8 C X)(hy:JF C.P I O Z)(g5:Q.yv=Z)(S:SI C I Q J Y K w)(m:CR Q (A0 Y.hp) w T Vs)(hn:∀c∈B3 T,c<Y.hp.length)
  (f4:Bi Y.hp (V9 Y.hp (B3 T))=true) (c8:X W O g (rnL (D9 (V9 Y.hp (B3 T))) T) (L1 Y.hp (V9 Y.hp (B3 T))) Y.s=some (ret,z,s'))
  (hk:k (Ch (K8 ((V9 Y.hp (B3 T)).filter λb=>!Z1 C (Y.hp.getD b .dead)) Y.hp) (V9 Y.hp (B3 T)) ret z).1
   { sl:=G3 ((V9 Y.hp (B3 T)).filter λb=>!Z1 C (Y.hp.getD b .dead)) Y.sl,hp:=(Ch (K8 ((V9 Y.hp (B3 T)).filter λb=>!Z1 C (Y.hp.getD b .dead)) Y.hp) (V9 Y.hp (B3 T)) ret z).2,s:=s' } = some r) :
  J2 C.P ((callFunc g Vs).run C.P w) (DB C I Q J Y K w k r):=by
 have d4:=Pv Y.hp (B3 T);have c5:=Xw Y.hp (B3 T);have P:∀b∈V9 Y.hp (B3 T),b<Y.hp.length:=Xv Y.hp (B3 T) (· < Y.hp.length) (λb l c m=>by
  have e:Y.hp.getD b .dead=Y.hp[b]:=by rw[j0,a8 l];rfl
  rw[e] at m;exact S.hr.nms b l c m) hn
 generalize V9 Y.hp (B3 T)=a at *;have f0:=QK S.hr d4 P f4;have u:=λb (h:b∈a)=>Bo h
 have c7:CR (Q.lent a) (A0 (L1 Y.hp a)) w (rnL (D9 a) T) Vs:=by
  rw[Fi];refine⟨by rw[p6];exact m.1,λj hj=>?_⟩;have d9:j<T.length:=by simpa using hj
  obtain⟨U,e,q⟩:=m.2 j d9;refine⟨U,e,?_⟩;rw[b7];refine VP.rn (Γ:=Q) (Γ':=Q.lent a) rfl q (.inr λ_ h=>h) (λc m=>?_);have a0:=c5 c (A9.2 ⟨j,d9,m⟩);obtain⟨q1,q2⟩:=u c a0;exact⟨Le a0,by rw[Gv P q1,q2]⟩
 have c6:∀c∈B3 (rnL (D9 a) T),c<(L1 Y.hp a).length:=λc m=>by
  rw[Ai] at m;obtain⟨d,hd,rfl⟩:=x8.1 m;simpa[L1] using(u d (c5 d hd)).1
 refine(hC W I O Z hI hy g _ _ _ ret z s' c8 (Q.lent a) J w Vs g5 f0 S.g S.inv (λi g h=>?_) c7 c6).mono ?_
 ·simp only[Ctx.lent] at h;cases t:a[i]? with
  | none=>rw[t] at h;simp at h
  | some b=>rw[t] at h;exact S.dis b g h
 rintro V w' ⟨Γ1,Φ1,hs,p,hv,hvn,f5,d7⟩;generalize hL:Y.hp.length=L at *;generalize e0:(a.filter λb=>!Z1 C (Y.hp.getD b .dead))=ks at *;obtain⟨F,g6,e8⟩:=Gs (Γ:=Q) (sh:=A0 Y.hp) (w:=w) ks Y.hp;have g7:(L1 Y.hp a).length=a.length:=by simp[L1]
 have g8:a.length<=z.length:=by have:=hs.len;omega
 simp only[Ch,F,hL] at hk;generalize hf:El a L=f at *;have f1:∀i (h:i<a.length),f i=a[i]:=λi h=>by rw[<-hf];simp only[El,if_pos h];exact O6 h
 have f2:∀i,¬i<a.length->f i=L+(i-a.length):=λi h=>by rw[<-hf];simp only[El,if_neg h]
 generalize hd:((ret.rn f).nms.all (· < L)&&Vp L ((z.take a.length).map (Blk.rn f)))=d at hk;let E:List Blk:=cond d [] ((z.drop a.length).map (Blk.rn f));have d3:((z.take a.length).map (Blk.rn f)).length=a.length:=by simp;omega
 obtain⟨b5,e9⟩:=Cu a ((z.take a.length).map (Blk.rn f)) (K8 ks Y.hp) d4 d3 (λb l=>by rw[F];have:=P b l;omega);have hE:(cond d (R7 (K8 ks Y.hp) a ((z.take a.length).map (Blk.rn f))) (R7 (K8 ks Y.hp) a ((z.take a.length).map (Blk.rn f))++(z.drop a.length).map (Blk.rn f)))=R7 (K8 ks Y.hp) a ((z.take a.length).map (Blk.rn f))++E:=by
  cases d<;>simp[E]
 rw[hE] at hk;generalize c0:R7 (K8 ks Y.hp) a ((z.take a.length).map (Blk.rn f))++E=H2 at hk;have c1:H2.length=L+E.length:=by rw[<-c0,j2,b5,F,hL]
 have b6:E.length=if d=true then 0 else z.length-a.length:=by cases d<;>simp[E]
 have g1:∀b (l:b∈a),H2[b]? = some ((z[D9 a b]'(by have:=(u b l).1;omega)).rn f):=λb l=>by
  have d6:=P b l;rw[<-c0,y7 (by rw[b5,F,hL];exact d6),e9,if_pos l];have t:=(u b l).1;have e:a.idxOf b=D9 a b:=rfl;rw[e,u4,u0,if_pos t,a8 (by omega)];rfl
 have g2:∀b,b<L->b∉a->H2[b]? = (K8 ks Y.hp)[b]?:=λb l o=>by
  rw[<-c0,y7 (by rw[b5,F,hL];exact l),e9,if_neg o]
 have g3:∀b,L<=b->(l:b<H2.length)->d=false/\∃h:a.length+(b-L)<z.length,H2[b]? = some ((z[a.length+(b-L)]).rn f):=λb n l=>by
  have v:d=false:=by
   rcases Bool.eq_false_or_eq_true d with h|h
   ·rw[c1,b6,h] at l;simp at l;omega
   ·exact h
  have h':a.length+(b-L)<z.length:=by rw[c1,b6,v] at l;simp at l;omega
  refine⟨v,h',?_⟩;rw[<-c0,s9 (by rw[b5,F,hL];exact n),b5,F,hL];simp only[E,v,cond_false,u4,List.getElem?_drop,a8 h',o6]
 let Γ2:=Q.back Γ1 a L d;have G:∀i,i<z.length->(i<a.length\/d=false)->Γ2.nm (f i)=Γ1.nm i/\A0 H2 (f i)=A0 z i/\f i<H2.length:=λi t D=>by
  by_cases h:i<a.length
  ·rw[f1 i h];have hm:=b8 h;have c3:D9 a a[i]=i:=by
    obtain⟨q1,q2⟩:=u _ hm;exact(ae0 d4).1 q2
   refine⟨by simp only[Γ2,Ctx.back,if_pos hm,c3],?_,by have:=P _ hm;omega⟩;simp only[A0,g1 _ hm,o6,Blk.rn_shp,c3,a8 t]
  ·have v:d=false:=by rcases D with D|D;exact absurd D h;exact D
   have n:L+(i-a.length)<H2.length:=by rw[c1,b6,v];simp;omega
   have f7:L+(i-a.length)∉a:=λhm=>by have:=P _ hm;omega
   rw[f2 i h];refine⟨?_,?_,n⟩
   ·simp only[Γ2,Ctx.back,if_neg f7,v];rw[if_neg (by omega),if_neg (by simp)]
    congr 1;omega
   ·obtain⟨_,h',e⟩:=g3 _ (by omega) n;have e2:a.length+(L+(i-a.length)-L)=i:=by omega
    simp only[A0,e,o6,Blk.rn_shp,a8 t]
    congr 2
    simp only[e2]
 have c2:∀c∈ret.nms,c<a.length\/d=false:=λc m=>by
  cases d0:d with
  | false=>exact .inr rfl
  | true=>
   rw[d0] at hd;simp only[a7,c9,decide_eq_true_eq] at hd;refine .inl (o3 λh=>?_);have:=hd.1 (f c) (by rw[PV.rn_nms];exact ab6 m);rw[f2 c h] at this;omega
 have b2:∀i (t:i<a.length),∀c∈(z[i]'(by omega)).nms,c<a.length\/d=false:=λi t c m=>by
  cases d0:d with
  | false=>exact .inr rfl
  | true=>
   rw[d0] at hd;simp only[a7] at hd;refine .inl (o3 λh=>?_);have e4:(z[i]'(by omega)).rn f∈(z.take a.length).map (Blk.rn f):=ab6 (by rw[List.mem_take_iff_getElem];exact⟨i,by omega,rfl⟩);have:=Xh hd.2 _ e4 (f c) (by rw[Blk.rn_nms];exact ab6 m);rw[f2 c h] at this;omega
 have hΓc:∀i g,(Q.lent a).nm i=some g->∃h:i<a.length,Q.nm a[i]=some g:=λi g h=>by
  simp only[Ctx.lent] at h;cases t:a[i]? with
  | none=>rw[t] at h;simp at h
  | some b=>
   obtain⟨q1,q2⟩:=j4.1 t;rw[t] at h;exact⟨q1,by rw[q2];exact h⟩
 have d1:=hI.foot _ _ _ _ S.inv;have c4:∀b g,b∉a->Q.nm b=some g->w'.heap[g]? = w.heap[g]?:=λb g l D=>hs.frame g (S.hr.lt b g D).2.1 (λi t=>by
  obtain⟨N,B⟩:=hΓc i g t;have:=S.hr.inj _ _ g B D;exact l (this▸b8 N)) (S.dis b g D)
 have e6:∀g,Q.St g->w'.heap[g]? = w.heap[g]?:=λg D=>hs.frame g (S.hr.stlt g D) (λi t=>by
  obtain⟨N,B⟩:=hΓc i g t;exact(S.hr.lt _ g B).2.2 D) (λhp=>(d1 g hp).2 D)
 have a6:∀i g,Γ1.nm i=some g->(∃h:i<a.length,Q.nm a[i]=some g)\/w.heap.size<=g:=λi g h=>by
  rcases hs.own i g h with⟨_,h⟩|h
  ·exact .inl (hΓc i g h)
  ·exact .inr h
 have e3:∀b,b∈a->b∉ks->Dg C (A0 Y.hp b):=λb l a5=>by
  rw[<-e0] at a5;have d6:=P b l;rw[<-Tc (by omega)];simp only[af0,not_and,s7] at a5;simpa using a5 l
 have b3:∀b,b∈a->Dg C (A0 Y.hp b)->Γ2.nm b=Q.nm b/\A0 H2 b=A0 Y.hp b/\∀g,Q.nm b=some g->w'.shape? g=w.shape? g:=λb l d2=>by
  obtain⟨q1,q2⟩:=u b l;have e:=Gv (H:=Y.hp) (λb l=>by have:=P b l;omega) q1;rw[q2] at e;obtain⟨k1,k2,k3⟩:=hs.keep (D9 a b) (by omega) (by rw[e];exact d2);rw[Le l] at k1 k3;refine⟨by simp only[Γ2,Ctx.back,if_pos l];exact k1,?_,k3⟩;have e5:A0 z (D9 a b)=some (z[D9 a b]'(by omega)).shp:=by
   simp only[A0];rw[a8 (by omega)];rfl
  rw[<-e,<-k2,e5];simp only[A0,g1 b l,o6,Blk.rn_shp]
 have M:P6 Q (A0 Y.hp) w Γ2 (A0 H2) w' (λc=>c<L/\c∉ks):=by
  have key:∀c,c<L->c∉ks->Γ2.nm c=Q.nm c/\A0 H2 c=A0 Y.hp c/\∀g,Q.nm c=some g->w'.shape? g=w.shape? g:=λc m f3=>by
   by_cases a0:c∈a
   ·exact b3 c a0 (e3 c a0 f3)
   ·refine⟨by simp only[Γ2,Ctx.back,if_neg a0,if_pos m],?_,λg D=>C4 (c4 c g a0 D)⟩;rw[<-g6 c];simp only[A0,g2 c m a0]
  exact⟨e6,hs.sub,λc m=>(key c m.1 m.2).1,λc m=>(key c m.1 m.2).2.1,λc g m D=>(key c m.1 m.2).2.2 g D,rfl⟩
 have b4:Γ2.yv=Γ1.yv:=by have:=hs.yv;exact this.symm
 have f8:HR Γ2 H2 w':=by
  refine⟨λb b' g N B=>?_,λb g h=>?_,p.stlt,λb l c a9=>?_,λb l=>?_⟩
  ·simp only[Γ2,Ctx.back] at N B;have b0:∀x y,x∈a->Γ1.nm (D9 a x)=some g->y∉a->Q.nm y=some g->False:=λx y hx e1 g4 e2=>by
    rcases a6 _ g e1 with⟨q1,q2⟩|q
    ·have:=S.hr.inj _ _ g q2 e2;exact g4 (this▸b8 q1)
    ·have:=(S.hr.lt y g e2).2.1;omega
   have b1:∀x i,Q.nm x=some g->¬i<a.length->Γ1.nm i=some g->False:=λx i e1 t e2=>by
    rcases a6 _ g e2 with⟨q1,_⟩|q
    ·exact t q1
    ·have:=(S.hr.lt x g e1).2.1;omega
   split at N
   ·rename_i l;split at B
    ·rename_i a4;have:=p.inj _ _ g N B;rw[<-(u b l).2,<-(u b' a4).2];simp only[this]
    ·rename_i a4;split at B
     ·exact(b0 b b' l N a4 B).elim
     ·split at B
      ·cases B
      ·have:=p.inj _ _ g N B;have:=(u b l).1;omega
   ·rename_i l;split at N
    ·rename_i n;split at B
     ·rename_i a4;exact(b0 b' b a4 B l N).elim
     ·split at B
      ·exact S.hr.inj b b' g N B
      ·split at B
       ·cases B
       ·exact(b1 b _ N (by omega) B).elim
    ·rename_i n;split at N
     ·cases N
     ·split at B
      ·rename_i a4;have:=p.inj _ _ g N B;have:=(u b' a4).1;omega
      ·split at B
       ·exact(b1 b' _ B (by omega) N).elim
       ·have:=p.inj _ _ g N B;omega
  ·simp only[Γ2,Ctx.back] at h ⊢;split at h
   ·rename_i l;have:=p.lt _ g h;have:=P b l;exact⟨by omega,(p.lt _ g h).2.1,(p.lt _ g h).2.2⟩
   ·split at h
    ·rename_i n;have N:=S.hr.lt b g h;refine⟨by omega,by have:=hs.size;omega,λf9=>?_⟩;rcases hs.stnew g f9 with q|q
     ·exact N.2.2 q
     ·omega
    ·rename_i n;split at h
     ·cases h
     ·rename_i v;have N:=p.lt _ g h;refine⟨?_,N.2.1,N.2.2⟩;rw[c1,b6,if_neg v];omega
  ·by_cases o:b∈a
   ·have e:=g1 b o;rw[a8 l] at e;simp only[b9] at e;rw[e,Blk.rn_nms] at a9;obtain⟨c',A,rfl⟩:=x8.1 a9;have t:=(u b o).1;exact(G c' (p.nms _ (by omega) c' A) (b2 _ t c' A)).2.2
   ·by_cases n:b<L
    ·have e:=g2 b n o;rw[a8 l,a8 (by rw[F,hL];exact n)] at e;simp only[b9] at e;rw[e] at a9;have:=((e8 b (by rw[F,hL];exact n) (by omega)).1 c a9).2;have:=S.hr.nms b (by omega) c this;omega
    ·obtain⟨v,h',e⟩:=g3 b (by omega) l;rw[a8 l] at e;simp only[b9] at e;rw[e,Blk.rn_nms] at a9;obtain⟨c',A,rfl⟩:=x8.1 a9;exact(G c' (p.nms _ h' c' A) (.inr v)).2.2
  ·by_cases o:b∈a
   ·have e:=g1 b o;rw[a8 l] at e;simp only[b9] at e;rw[e];have t:=(u b o).1;refine(p.blk _ (by omega)).rn b4 (.inr λ_ h=>h) (by simp only[Γ2,Ctx.back,if_pos o]) (λc' A=>?_);have:=G c' (p.nms _ (by omega) c' A) (b2 _ t c' A);exact⟨this.1,this.2.1⟩
   ·by_cases n:b<L
    ·have e:=g2 b n o;rw[a8 l,a8 (by rw[F,hL];exact n)] at e;simp only[b9] at e;rw[e];have q:=e8 b (by rw[F,hL];exact n) (by omega);refine(q.2 b (S.hr.blk b (by omega))).mono M (by simp only[Γ2,Ctx.back,if_neg o,if_pos n]) (λg D=>c4 b g o D) (λc m=>?_);have:=q.1 c m;exact⟨by have:=S.hr.nms b (by omega) c this.2;omega,this.1⟩
    ·obtain⟨v,h',e⟩:=g3 b (by omega) l;rw[a8 l] at e;simp only[b9] at e;rw[e];refine(p.blk _ h').rn b4 (.inr λ_ h=>h) ?_ (λc' A=>?_)
     ·simp only[Γ2,Ctx.back,if_neg o,if_neg n,v];simp
     ·have:=G c' (p.nms _ h' c' A) (.inr v);exact⟨this.1,this.2.1⟩
 have e7:Stp C Q Y.hp w J Γ2 H2 w' Φ1:=by
  refine⟨hs.os,hs.tape,hs.output,hs.size,hs.sub,hs.stnew,λb g h=>?_,hs.foot,λg D f6 hp=>hs.frame g D (λi t=>?_) hp,rfl,by omega,λb l d2=>?_⟩
  ·simp only[Γ2,Ctx.back] at h;split at h
   ·rename_i l;rcases a6 _ g h with⟨q1,q2⟩|q
    ·have hh:a[D9 a b]=b:=(u b l).2;rw[hh] at q2;exact .inl ⟨by have:=P b l;omega,q2⟩
    ·exact .inr q
   ·split at h
    ·exact .inl ⟨by omega,h⟩
    ·split at h
     ·cases h
     ·rcases a6 _ g h with⟨q1,_⟩|q
      ·omega
      ·exact .inr q
  ·obtain⟨_,q2⟩:=hΓc i g t;exact f6 _ q2
  ·by_cases o:b∈a
   ·exact b3 b o d2
   ·have a5:b∉ks:=λh=>o (by rw[<-e0] at h;exact(af0.1 h).1)
    exact⟨M.nm b ⟨by omega,a5⟩,M.shp b ⟨by omega,a5⟩,λg D=>M.hs b g ⟨by omega,a5⟩ D⟩
 have g0:SR Γ2 H2 w' (G3 ks Y.sl) K:=by
  obtain⟨d5,a2,a3⟩:=Ey (Γ:=Q) (sh:=A0 Y.hp) (w:=w) ks Y.sl;refine⟨by rw[d5];exact S.sr.size,λc m=>by have:=S.sr.nms c (a2 c m).2;omega,λi t=>?_⟩;have d8:i<Y.sl.length:=by rw[d5] at t;exact t
  obtain⟨U,e,q⟩:=S.sr.slot i d8;refine⟨U,e,(a3 i t d8 U q).mono M λc m=>?_⟩;have hm:=a2 c (A9.2 ⟨i,t,m⟩);exact⟨by have:=S.sr.nms c hm.2;omega,hm.1⟩
 refine⟨_,_,Γ2,Φ1,hk,e7,⟨f8,g0,S.g.mono e6 hs.sub,f5,λb g h=>?_⟩,?_,λc m=>?_⟩
 ·intro hp;simp only[Γ2,Ctx.back] at h;split at h
  ·exact d7 _ g h hp
  ·split at h
   ·rcases hs.foot g hp with q|q
    ·exact S.dis b g h q
    ·have:=(S.hr.lt b g h).2.1;omega
   ·split at h
    ·cases h
    ·exact d7 _ g h hp
 ·exact hv.rn b4 (.inr λ_ h=>h) (λc m=>by
   have:=G c (hvn c m) (c2 c m);exact⟨this.1,this.2.1⟩)
 ·rw[PV.rn_nms] at m;obtain⟨c',A,rfl⟩:=x8.1 m;exact(G c' (hvn c' A) (c2 c' A)).2.2
end
section
variable {σ R : Type} {r : R} {C : Cfg} {I : σ -> (Nat -> Prop) -> (Nat -> Prop) -> World -> Prop} {Γ : Ctx} {L : Nat -> Prop} {st : St σ} {a : Act} {w : World} {cl : C9} {yh : Yh σ} {yv : Value} {o : Oper}
structure Ask (C:Cfg) (I:σ->(Nat->Prop)->(Nat->Prop)->World->Prop) (cl:C9) (yh:Yh σ) (yv:Value):Prop where
 hI:HI I
 hC:T8 C cl
 hX:XOK C
 hy:JF C.P I yh yv
theorem PC{g b:Nat}{args:List PV}{d:SV->List (List SV)->Bool × List (List SV)}{x:SV}(h:ZR C g args=some (d,b,x)):C.Z g=some d/\(args=[.fl b,.s x]/\x≠.nilp\/args=[.fl b]/\x = .nilp):=by
 unfold ZR at h;split at h
 ·rename_i c;split at h
  ·cases h
  ·rename_i e;simp only[b9,ab1] at h;obtain⟨rfl,rfl,rfl⟩:=h;exact⟨c,.inl ⟨rfl,e⟩⟩
 ·rename_i c;simp only[b9,ab1] at h;obtain⟨rfl,rfl,rfl⟩:=h;exact⟨c,.inr ⟨rfl,rfl⟩⟩
 ·cases h
theorem SI.like'{tmps:Array Value}(hI:HI I)(S:SI C I Γ L st tmps w){w':World}(h:H6 w w'):SI C I Γ L st tmps w'/\Stp C Γ st.hp w L Γ st.hp w' L:=
 S.wide hI (St':=Γ.St) h.1.1 h.1.2 (λ_ h=>h) (λ_ h=>.inl h) (λg hg=>j3 (S.hr.stlt g hg) h.1.2) h.2.1 h.2.2.1 h.2.2.2
theorem EB{args:List PV}{g b e sz:Nat}{v:Bool}{Y:SV->List (List SV)->Bool × List (List SV)}{x:SV}{d:List (List SV)}{p m:Array Value}{k:PV->St σ->Option R}(hI:HI I)(hz:DK C.P g Y)(S:SI C I Γ L st m w)(D:st.hp[b]? = some (.arr v e sz d))(u:CR Γ (A0 st.hp) w args p)(t:args=[.fl b,.s x]/\x≠.nilp\/args=[.fl b]/\x = .nilp)(hp:(Y x d).1=true)
  (O:k (.tup []) { sl:=st.sl,hp:=st.hp.set b (.arr v e sz (Y x d).2),s:=st.s } = some r):J2 C.P ((callFunc g p).run C.P w) (DB C I Γ L st m w k r):=by
 obtain⟨U,X,rfl,J,hx⟩:∃U X,p=ZQ x U X/\VP Γ (A0 st.hp) w (.fl b) U/\VS Γ.St w x X:=by
  rcases t with⟨rfl,l⟩|⟨rfl,rfl⟩
  ·obtain⟨U,e1,J⟩:=u.2 0 (by simp);obtain⟨X,e2,h2⟩:=u.2 1 (by simp);refine⟨U,X,?_,J,h2.inv_s⟩;have hV:p = #[U,X]:=by
    have hs:p.size=2:=u.1;grind
   rw[hV];cases x<;>first|rfl|exact absurd rfl l
  ·obtain⟨U,e1,J⟩:=u.2 0 (by simp);refine⟨U,.pointer none,?_,J,.nilp⟩;have hs:p.size=1:=u.1;show p = #[U];grind
 obtain⟨z1,z2⟩:=hz Γ.St w x X d hx hp;have T:∀{s:Shp},A0 st.hp b=some s->s = .arr v e sz d.length:=λh=>by
  simp only[A0,D,o6,Blk.shp,b9] at h;exact h.symm
 have a0:VP Γ (A0 st.hp) w (.fl b) U:=J;cases a0 with
 | flv _ H f h=>
  have:=T h;simp only[Shp.arr.injEq] at this;obtain⟨rfl,rfl,rfl,Z⟩:=this;have Z:=u7.1 Z.symm;refine(z1 Z).mono ?_;rintro V w' ⟨rfl,hn,hl⟩;have Q:st.hp.set b (.arr true H f (Y x d).2)=st.hp:=by
   rw[hn];rw[Z] at D;apply List.ext_getElem?;grind
  rw[Q] at O;obtain⟨S1,a3⟩:=S.like' hI hl;exact⟨_,_,Γ,L,O,a3,S1,P5,by simp[PV.nms,B3]⟩
 | fl _ q v' H f n cap h hv y K hm hs=>
  have:=T h;simp only[Shp.arr.injEq] at this;obtain⟨rfl,rfl,rfl,rfl⟩:=this;have l:¬(v'=true/\d=[]):=by rintro⟨q1,q2⟩;exact hv q1 (by rw[q2];rfl)
  obtain⟨g',F,N,hh,A,z,M⟩:=S.hr.arr' D l;obtain rfl:q=g':=by rw[y] at N;exact af2 N
  have a1:F.size=cap*f:=by
   simp only[aa7,hh,b9,ab1,true_and] at hs;exact hs
  refine(z2 q F H f cap hh a1 K hm (S.hr.lt b q y).2.2 S.hr.stlt z M).mono ?_;rintro V w' ⟨rfl,i,w1,G,q1,q2,q3,q4,q5,q6,q7,q8,q9,a5⟩;have j:(Blk.arr v' H f (Y x d).2).shp=(Blk.arr v' H f d).shp:=by simp only[Blk.shp,i]
  have B:w1.shape? q=w.shape? q:=by simp only[aa7,q1,hh,q2]
  have P:w.heap.size<=w1.heap.size:=by omega
  have W:=Yn (C:=C) S.hr D y j q3 B P q5 q6 q7;have a2:=IJ S.hr D y j q3 B P (.inr ⟨λhz=>l ⟨hz.1,by
    have:=congrArg ag7 hz.2;rw[i] at this;exact u7.1 this⟩,q,G,y,q1,by rw[i,q2];exact A,q8,q9⟩) (by simp[Blk.nms])
  have S1:=S.step hI (W.lift L) (λk O=>q3 k (λek=>S.dis b q y (ek▸O))) a2 (S.sr.mono (Y0 S.hr D y j q3 B) (λc u=>⟨trivial,by simpa using S.sr.nms c u⟩));obtain⟨S2,a4⟩:=S1.like' hI a5;exact⟨_,_,Γ,L,O,(W.lift L).trans a4,S2,P5,by simp[PV.nms,B3]⟩
theorem Pa{g:Nat}{args:List PV}{D i:Array Value}{k:PV->St σ->Option R}(A:Ask C I cl yh yv)(z:Γ.yv=yv)(h:Km C cl yh g args st k=some r)(S:SI C I Γ L st i w)(q:CR Γ (A0 st.hp) w args D)(Q:∀c∈B3 args,c<st.hp.length) :
  J2 C.P ((callFunc g D).run C.P w) (DB C I Γ L st i w k r):=by
 unfold Km at h;split at h
 ·rename_i B M;split at h
  ·rename_i l;obtain⟨ret,m,d,h⟩:=R5 h;have d:F5 (B (I8 st.hp args))=some (ret,m):=by
    cases J:C.xp g with
    | true=>rw[J] at d;exact(T5 d).1
    | false=>rw[J] at d;exact d
   obtain⟨n,p⟩:=B1 h;exact EA A.hI A.hX S q M d (x7.1 l) (by simpa only[o5,s7,a7] using n) p
  ·cases h
 ·split at h
  ·rename_i B b x O;obtain⟨F,j⟩:=PC O;split at h
   ·rename_i v e W K P;obtain⟨n,p⟩:=B1 h;exact EB A.hI (A.hX.z g B F) S P q j n p
   ·cases h
  dsimp only at h;split at h
  ·rename_i H;split at h
   ·rename_i t;have key:CR Γ (A0 st.hp) w (cond (C.lend g) args (I8 st.hp args)) D/\∀c∈B3 (cond (C.lend g) args (I8 st.hp args)),c<st.hp.length:=by
     cases G:C.lend g with
     | true=>exact⟨q,Q⟩
     | false=>
      rw[G] at H;have T:He args=false:=by simpa using H
      obtain⟨U,V⟩:=q.snap_plain T;grind
    split at h
    ·rename_i B N;obtain⟨ret,m,d,h⟩:=R5 h;refine Pb (s':=st.s) A.hI A.hX.y A.hy z S key.1 key.2 t ?_ h;simp only[clY,N];rw[show F5 (B _ (L1 st.hp _))=some (ret,m) from d]
    ·split at h
     ·rename_i ret m s' f;exact Pb A.hI A.hC A.hy z S key.1 key.2 t f h
     ·cases h
   ·cases h
  ·split at h
   ·rename_i l;split at h
    ·rename_i ret m u f;split at h
     ·rename_i y;obtain⟨n,p⟩:=B1 h;exact DY A.hI A.hC S q (x7.1 l) f y n p
     ·cases h
    ·cases h
   ·cases h
theorem CR.append{sh:Nat->Option Shp}{x y:List PV}{X Y:Array Value}(hx:CR Γ sh w x X)(hy:CR Γ sh w y Y):CR Γ sh w (x++y) (X++Y):=by
 refine⟨by rw[ad4,j2,hx.1,hy.1],λj hj=>?_⟩;rw[j2] at hj;by_cases h:j<x.length
 ·obtain⟨U,e,k⟩:=hx.2 j h;grind
 ·obtain⟨U,e,k⟩:=hy.2 (j-x.length) (by omega);refine⟨U,by rw[Array.getElem?_append_right (by rw[hx.1];omega),hx.1];exact e,?_⟩;grind
theorem I4(x y:List PV):B3 (x++y)=B3 x++B3 y:=by
 induction x with
 | nil=>rfl
 | cons a x b=>simp[B3,b]
theorem VP.inv_fn'{sh:Nat->Option Shp}{V:Value}{f:Fn}{x y:List SV}(h:VP Γ sh w (.s (.fn f x y)) V):∃A B,V = .func f A B/\CR Γ sh w (x.map .s) A/\CR Γ sh w (y.map .s) B:=by
 have hs:=h.inv_s;cases hs with
 | fn _ _ _ A B As Bs hf hA hB ha hb hx hy=>
  refine⟨A,B,rfl,⟨by simpa using hA,λj hj=>?_⟩,⟨by simpa using hB,λj hj=>?_⟩⟩
  ·have hj':j<x.length:=by simpa using hj
   exact⟨As j,ha j hj',by rw[b7];exact .s _ _ (hx j hj')⟩
  ·have hj':j<y.length:=by simpa using hj
   exact⟨Bs j,hb j hj',by rw[b7];exact .s _ _ (hy j hj')⟩
theorem VP.inv_fnr'{sh:Nat->Option Shp}{V:Value}{f:Fn}{x y:List PV}(h:VP Γ sh w (.fnr f x y) V):∃A B,V = .func f A B/\CR Γ sh w x A/\CR Γ sh w y B:=by
 cases h with
 | fnr _ _ _ A B As Bs hf hA hB ha hb hx hy=>exact⟨A,B,rfl,⟨hA,λj hj=>⟨As j,ha j hj,hx j hj⟩⟩,⟨hB,λj hj=>⟨Bs j,hb j hj,hy j hj⟩⟩⟩
theorem Yj{sh:Nat->Option Shp}:∀{args:List PV} {Vs:List Value},Dl args=true->args.length=Vs.length->(∀j (h:j<args.length),∃U,Vs[j]? = some U/\VP Γ sh w (args[j]) U)->∀j (h:j<args.length),∃U,Vs[j]? = some U/\VP Γ (λ_=>none) w (args[j]) U
 | [],Vs,_,_,_=>λj h=>by simp at h
 | v::r,[],_,n,_=>by simp at n
 | v::r,U::z,c,n,y=>by
  have t:VP Γ sh w v U:=by
   obtain⟨q,e,k⟩:=y 0 (by simp);grind
  have D:∀j (h:j<r.length),∃U,z[j]? = some U/\VP Γ sh w (r[j]) U:=λj d=>by
   obtain⟨q,e,k⟩:=y (j+1) (by simpa using d);grind
  have key:Dl r=true/\VP Γ (λ_=>none) w v U:=by
   unfold Dl at c;split at c
   ·grind
   ·rename_i m;cases m;exact⟨c,.s _ _ t.inv_s⟩
   ·rename_i l H m;cases m;simp only[a7,s6] at c;obtain⟨⟨g,p⟩,c⟩:=c;refine⟨c,?_⟩;obtain⟨A,rfl,B,i⟩:=t.inv_agg;refine VP.mk_agg B λj d=>?_
    obtain⟨U,e,k⟩:=i j d;refine⟨U,e,?_⟩;have:(l[j]).nms=[]:=by
     have:∀(l:List PV) g,Fm l=some g->∀v∈l,v.nms=[]:=by
      intro l
      induction l with
      | nil=>intro _ _ v f;simp at f
      | cons x l G=>
       intro g h v f;simp only[Fm] at h;split at h
       ·rename_i a b u F;rcases u5.1 f with rfl|f
        ·unfold PV.sv? at u;split at u
         ·rfl
         ·rfl
         grind
        grind
       grind
     exact this l g p _ (b8 d)
    exact k.mono (Γ':=Γ) (ok:=λ_=>False) ⟨λ_ _=>rfl,λ_ h=>h,λ_ h=>h.elim,λ_ h=>h.elim,λ_ _ h=>h.elim,rfl⟩ (by rw[this];simp)
   grind
  intro j d;cases j with
  | zero=>exact⟨U,rfl,by simpa using key.2⟩
  | succ j=>
   obtain⟨q,e,k⟩:=Yj key.1 (by simpa using n) D j (by simpa using d);grind
theorem DZ{f:PV}{D:Value}{args:List PV}{Vs n:Array Value}{k:PV->St σ->Option R}(A:Ask C I cl yh yv)(u:Γ.yv=yv)(h:Pc C cl yh f args st k=some r)(S:SI C I Γ L st n w)(K:VP Γ (A0 st.hp) w f D)(p:∀c∈f.nms,c<st.hp.length)
  (i:CR Γ (A0 st.hp) w args Vs) (Y:∀c∈B3 args,c<st.hp.length) :
  J2 C.P ((do let d <-j9 D Vs;invoke d.target d.args).run C.P w) (DB C I Γ L st n w k r):=by
 unfold Pc at h;split at h
 ·rename_i g first v;obtain⟨F,B,rfl,G,H⟩:=K.inv_fn';have:=Pa A u h S ((G.append i).append H) (λc i=>by
   rw[I4,I4,Ub,Ub] at i;simp only[ac6,aa0] at i;exact Y c i)
  simpa[j9,invoke] using this
 ·rename_i g first v;obtain⟨F,B,rfl,G,H⟩:=K.inv_fnr';have:=Pa A u h S ((G.append i).append H) (λc i=>by
   rw[I4,I4] at i;simp only[p7] at i;simp only[PV.nms,p7] at p;rcases i with(i|i)|i
   ·exact p c (.inl i)
   ·exact Y c i
   ·exact p c (.inr i))
  simpa[j9,invoke] using this
 ·split at h
  ·rename_i z;unfold ydK at h;split at h
   ·rename_i b s' P;have J:D=yv:=by
     cases K;exact u
    subst J;refine(A.hy args st.s b s' P z Γ L w Vs S.inv S.hr.stlt ⟨i.1,?_⟩).mono ?_
    ·intro j N;obtain⟨U,e,q⟩:=Yj (Vs:=Vs.toList) z (by simpa using i.1.symm) (λj N=>by obtain⟨U,e,k⟩:=i.2 j N;exact⟨U,by simpa using e,k⟩) j N;exact⟨U,by simpa using e,q⟩
    ·rintro V w' ⟨rfl,St',W,hi,Q,Z,q3,T,q5,q6,q7,q8,q9⟩;have t:=A.hI.foot _ _ _ _ S.inv;have m:∀b g,Γ.nm b=some g->w'.heap[g]? = w.heap[g]?:=λb g l=>T g (S.hr.lt b g l).2.1 (S.dis b g l)
     have y:∀g,Γ.St g->w'.heap[g]? = w.heap[g]?:=λg l=>T g (S.hr.stlt g l) (λx=>(t g x).2 l)
     let Γ2:Ctx:={ Γ with St:=St' }
     have M:P6 Γ (A0 st.hp) w Γ2 (A0 st.hp) w' (λ_=>True):=⟨y,Q,λ_ _=>rfl,λ_ _=>rfl,λb g _ l=>C4 (m b g l),rfl⟩
     have O:HR Γ2 st.hp w':=by
      refine⟨S.hr.inj,λb g l=>?_,q9,S.hr.nms,λb X=>(S.hr.blk b X).mono M rfl (λg l=>m b g l) (λ_ _=>trivial)⟩;have:=S.hr.lt b g l;refine⟨this.1,by omega,λh=>?_⟩;rcases Z g h with h|h
      ·exact this.2.2 h
      ·omega
     refine⟨_,_,Γ2,W,h,⟨q6,q7,q8,q5,Q,Z,λb g l=>.inl ⟨(S.hr.lt b g l).1,l⟩,q3,λg l _ x=>T g l x,rfl,h9 _,λb X _=>⟨rfl,rfl,λg l=>C4 (m b g l)⟩⟩,
      ⟨O,S.sr.mono M (λc i=>⟨trivial,S.sr.nms c i⟩),S.g.mono y Q,hi,λb g l x=>?_⟩,.bool _,by simp[PV.nms]⟩
     rcases q3 g x with h|h
     ·exact S.dis b g l h
     ·have:=(S.hr.lt b g l).2.1;omega
   ·cases h
  ·cases h
 ·cases h
def Nxt(C:Cfg)(I:σ->(Nat->Prop)->(Nat->Prop)->World->Prop)(Γ:Ctx)(L:Nat->Prop)(H:List Blk)(w:World)(ds:List Deferred)(k:St σ->Option R)(r:R)(next:Act->World->Prop):Prop:=
 ∀b d w' Γ' c,k b=some r->Stp C Γ H w L Γ' b.hp w' c->SI C I Γ' c b d.tmps w'->d.defers=ds->next d w'
theorem put_defers(a:Act)(d:Option Tmp)(v:Value):(a.put d v).defers=a.defers:=by cases d<;>rfl
theorem BN{ro:Option Nat}{n:Nat}{k:St σ->Option R}{next:Act->World->Prop}{Q:Exit->Act->World->Prop}(A:Ask C I cl yh yv)(u:Γ.yv=yv)(h:opK C cl yh o st k=some r)(S:SI C I Γ L st a.tmps w)(y:Nxt C I Γ L st.hp w a.defers k r next) :
  o.wpIn (D2 ro) n C.P a w next Q:=by
 refine⟨λ_ _=>trivial,?_⟩;have t:∀c,o.op≠.defer c:=λc e=>by simp[opK,e] at h
 rw[u6 _ _ _ t];by_cases i:Ns o.op=true
 ·obtain⟨c,g⟩:∃c,o.op = .call c:=by
   unfold Ns at i;split at i
   ·exact⟨_,‹_›⟩
   ·cases i
  have p:=h;simp only[opK,g] at p;split at p
  ·rename_i b F;rw[g] at i;simp[Ns,F] at i
  ·rename_i f J;obtain⟨G,q⟩:=S.list c.args;have:=DZ A u p S (S.opnd f).1 (S.opnd f).2 G q;have H:execOp a.eval o=(do let d <-j9 (a.eval f) (c.args.map a.eval);invoke d.target d.args):=by simp only[execOp,g,resolve,J]
   rw[H];refine this ro n o a next Q ?_
   rintro V w' ⟨v,m,Γ',x,K,M,l,N,O⟩;exact y _ (a.put o.dst V) w' Γ' x K M ⟨l.hr,l.sr.put (ds:=a.defers) o N O,l.g,l.inv,l.dis⟩ (put_defers _ _ _)
  ·cases p
 ·obtain⟨V,w',Γ',m,z,j,B,D⟩:=FQ A.hI (by simpa using i) h S;have q:=y m (a.put o.dst V) w' Γ' L z D B (put_defers _ _ _);rcases j with j|⟨rfl,j⟩
  ·rw[j];exact q
  ·rw[j];exact q
theorem SR.set{Γ:Ctx}{H:List Blk}{sl:List PV}{tmps:Array Value}(h:SR Γ H w sl tmps)(g:Nat){v:PV}(hv:∀V,tmps[g]? = some V->VP Γ (A0 H) w v V)(hn:∀c∈v.nms,c<H.length):SR Γ H w (sl.set g v) tmps:=by
 refine⟨by simpa using h.size,λc hc=>?_,λi hi=>?_⟩
 ·obtain⟨j,hj,hc⟩:=A9.1 hc;rw[List.getElem_set] at hc;split at hc
  ·grind
  ·exact h.nms c (A9.2 ⟨j,by simpa using hj,hc⟩)
 ·have hi':i<sl.length:=by simpa using hi
  obtain⟨U,e1,e2⟩:=h.slot i hi';grind
theorem BO{G:Option Nat}{n:Nat}{Q:Exit->Act->World->Prop}{all:Array Oper}(A:Ask C I cl yh yv):∀(c:List Oper) {Γ:Ctx} {L:Nat->Prop} {st:St σ} {a:Act} {w:World} {k:St σ->Option R},Γ.yv=yv->Z9 C cl yh all c st k=some r->SI C I Γ L st a.tmps w->
  Nxt C I Γ L st.hp w a.defers k r (λu w'=>Q .normal u w')->wpListIn (D2 G) n C.P all Q c a w
 | [],Γ,L,st,a,w,k,hyv,h,S,m=>m st a w Γ L h (Stp.refl S.hr) S rfl
 | o::c,Γ,L,st,a,w,k,hyv,h,S,m=>by
  have run:∀{st:St σ},SI C I Γ L st a.tmps w->Nxt C I Γ L st.hp w a.defers k r (λu w'=>Q .normal u w')->opK C cl yh o st (λl=>Z9 C cl yh all c l k)=some r->o.wpIn (D2 G) n C.P a w (wpListIn (D2 G) n C.P all Q c) Q:=λS m h=>
   BN A hyv h S λl u w' Γ' Φ' X O Y Z=>BO A c (O.yv.trans hyv) X Y λK T w2 M N k1 k2 k3 k4=>m K T w2 M N k1 (O.trans k2) k3 (k4.trans Z)
  have skip:∀{st:St σ},SI C I Γ L st a.tmps w->Nxt C I Γ L st.hp w a.defers k r (λu w'=>Q .normal u w')->Z9 C cl yh all c { st with sl:=R3 o.dst (.tup []) st.sl } k=some r->wpListIn (D2 G) n C.P all Q c (a.put o.dst undef) w:=fun {st} S m h=>
   BO A c (st:={ st with sl:=R3 o.dst (.tup []) st.sl }) hyv h (S.put (o:=o) P5 (by simp[PV.nms,B3])) (by rw[put_defers];exact m)
  simp only[wpListIn];simp only[Z9] at h;split at h
  ·rename_i x;have hw:j5 o (yielded all a.tmps)=true:=by simp[j5,x]
   grind
  ·rename_i j p x;split at h
   ·rename_i g y;have D:∀b,a.tmps[g]? = some (.bool b)->yielded all a.tmps j=some b:=λb e=>by simp[yielded,y,e]
    have z:(∀b,a.tmps[g]?≠some (.bool b))->yielded all a.tmps j=none:=λa1=>by
     simp only[yielded,y,aa8]
    have d:∀v,st.sl.getD g (.tup [])=v->∀V,a.tmps[g]? = some V->VP Γ (A0 st.hp) w v V:=λv hv V hV=>by
     have q:g<st.sl.length:=by rw[<-S.sr.size];exact(j8.1 hV).1
     obtain⟨U,H,W⟩:=S.sr.slot g q;grind
    split at h
    ·rename_i b F;have q:g<st.sl.length:=o3 λa0=>by grind
     obtain⟨U,H,W⟩:=S.sr.slot g q;have hU:=(d _ F U H).inv_bool;subst hU;have f:yielded all a.tmps j=some b:=D b H;have P:SI C I Γ L { st with sl:=st.sl.set g (.s (.bool b)) } a.tmps w:=⟨S.hr,S.sr.set g (d _ F) (by simp[PV.nms]),S.g,S.inv,S.dis⟩
     have t:(if (b==p)=true then opK C cl yh o { st with sl:=st.sl.set g (.s (.bool b)) } (λl=>Z9 C cl yh all c l k) else Z9 C cl yh all c { st with sl:=R3 o.dst (.tup []) (st.sl.set g (.s (.bool b))) } k)=some r:=by
      cases b<;>exact h
     by_cases i:b=p
     ·rw[if_pos (by simpa using i)] at t;rw[if_pos (by simp[j5,x,f,i])];grind
     ·rw[if_neg (by simpa using i)] at t;rw[if_neg (by simp[j5,x,f,i])];exact⟨λ_ _=>trivial,skip P m t⟩
    ·rename_i F;have f:yielded all a.tmps j=none:=z λb J=>by
      obtain⟨B,e,_⟩:=(d _ F _ J).inv_tup;cases e
     rw[if_neg (by simp[j5,x,f])];exact⟨λ_ _=>trivial,skip S m h⟩
    grind
   ·cases h
end
section quiet
variable {F : Fence} {n : Nat} {P : Program} {Y : Array Oper} {L : v7} {K : World -> Prop}
theorem OY{c:Code}{Q:Exit->Act->World->Prop}{a:Act}{w:World}(J:Nat->Act->World->Prop)(N:Nat)(u:J N a w)
  (round:∀m a w,J m a w->c.wpIn F n P (Exit.then (λq w'=>∃D,D<m/\J D q w') Q) a w):(Code.loop c).wpIn F n P Q a w:=by
 intro b k y C z B;have key:∀j a w,J j a w->∃e q w',Q e q w'/\ArrivesIn (Machine.fenced P F) P (lone (b.atR a (.code c::.inLoop c::k)) y w) b k y e q w':=by
  intro j
  induction j using Nat.strongRecOn with
  | _ j H=>
   intro a w G;obtain⟨e,f,g,i,d⟩:=round j a w G b (.inLoop c::k) y C z B;cases e with
   | normal=>
    obtain⟨m,A,o⟩:=i;obtain⟨t,r,v,p,h⟩:=H m A f g o;exact⟨t,r,v,p,.of_steps (ag4 d (.one (fenced_calm z B rfl) stepR_inLoop)) h⟩
   | exit id=>exact⟨_,f,g,i,.pass (x:=.inLoop c) rfl (λ_ _=>.inl (by simp)) d⟩
   | goto l=>exact⟨_,f,g,i,.pass (x:=.inLoop c) rfl (λ_ _=>.inl (by simp)) d⟩
   | ret=>exact⟨_,f,g,i,.pass (x:=.inLoop c) rfl (λ_ _=>.inl (by simp)) d⟩
   | panic I=>exact⟨_,f,g,i,.pass (x:=.inLoop c) rfl (λ_ _=>.inl (by simp)) d⟩
   | outgrown=>exact⟨_,f,g,i,.pass (x:=.inLoop c) rfl (λ_ _=>.inl (by simp)) d⟩
 obtain⟨e,q,w',i,d⟩:=key N a w u;exact⟨e,q,w',i,.of_steps (.one (fenced_calm z B rfl) stepR_loop) d⟩
theorem T6{b:Frame}{a:Act}{k:List Item}{d:List Frame}{w:World}{c:Code}:step P (lone (b.atR a (.code (.scope c)::k)) d w) = .next (lone (b.atR a (.code c::.inScope c::k)) d w):=
 step_lone_go (by simp[stepG,stepG.exec,Frame.atR])
theorem Wc{b:Frame}{a:Act}{k:List Item}{d:List Frame}{w:World}{c:Code}:step P (lone (b.atR a (.inScope c::k)) d w) = .next (lone (b.atR a k) d w):=
 step_lone_go (by simp[stepG,stepG.exec,Frame.atR])
theorem IH{c:Code}{Q:Exit->Act->World->Prop}{a:Act}{w:World}(h:c.wpIn F n P (λe a w=>(∀l,e≠.goto l)/\Q e a w) a w):(Code.scope c).wpIn F n P Q a w:=by
 intro b k u t o q;have i:(lone (b.atR a (.code (.scope c)::k)) u w).fenced P F:=fenced_calm o q rfl;obtain⟨e,f,g,⟨z,j⟩,d⟩:=h b (.inScope c::k) u t o q;cases e with
 | normal=>exact⟨.normal,f,g,j,.head i T6 (ag4 d (.one (fenced_calm o q rfl) Wc))⟩
 | exit id=>
  have v:exitTo id (.inScope c::k)=exitTo id k:=by simp[exitTo]
  exact⟨.exit id,f,g,j,λA p=>.head i T6 (d.1 A (by rw[v];exact p)),
   λr p=>let⟨m,x,y⟩:=d.2 r (by rw[v];exact p);⟨m,x,.head i T6 y⟩⟩
 | goto l=>exact absurd rfl (z l)
 | ret=>exact⟨_,f,g,j,.of_steps (.one i T6) d⟩
 | panic B=>exact⟨_,f,g,j,.of_steps (.one i T6) d⟩
 | outgrown=>exact⟨_,f,g,j,.of_steps (.one i T6) d⟩
end quiet
section
variable {Q R : Type} {r : R} {C : Cfg} {I : Q -> (Nat -> Prop) -> (Nat -> Prop) -> World -> Prop} {Γ : Ctx} {Y : Nat -> Prop} {L : St Q} {a : Act} {w : World} {W : C9} {J : Yh Q} {U : Value} {o : Oper}
theorem SI.like(hI:HI I)(S:SI C I Γ Y L a.tmps w){w':World}(h:H6 w w'):SI C I Γ Y L a.tmps w'/\Stp C Γ L.hp w Y Γ L.hp w' Y:=
 S.like' hI h
def Wr:PV->Value
 | .s (.bool b)=>.bool b
 | .s (.int k n)=>.int k n
 | .s (.str l)=>.string ⟨l.toArray⟩
 | _=>undef
def Aa5:PV->Value
 | .tup l=>.tuple (l.map Wr).toArray
 | v=>Wr v
theorem EJ{Γ:Ctx}{sh:Nat->Option Shp}{w:World}{v:PV}{V:Value}(h:VP Γ sh w v V)(b:v.det1=true):V=Wr v:=by
 cases h with
 | s x V c=>
  cases c<;>simp[PV.det1,SV.det] at b<;>simp[Wr]
 | _=>simp[PV.det1] at b
theorem Aa6{Γ:Ctx}{sh:Nat->Option Shp}{w:World}{v:PV}{V:Value}(h:VP Γ sh w v V)(b:v.det=true):V=Aa5 v:=by
 cases h with
 | s x V k=>exact EJ (sh:=sh) (.s x V k) b
 | tup l A m f g i=>
  simp only[PV.det,c9] at b;simp only[Aa5]
  congr 1
  apply Array.ext
  ·simp[f]
  ·intro j d n;have c:j<l.length:=by rw[<-f];exact d
   have e:=g j c;rw[y5 d] at e;simp only[b9] at e;simp only[List.getElem_toArray,b7];rw[e];exact EJ (i j c) (b _ (b8 c))
 | _=>simp[PV.det] at b
theorem AP{Γ:Ctx}{sh:Nat->Option Shp}{w:World}{v:PV}(b:v.det1=true):VP Γ sh w v (Wr v)/\v.nms=[]:=by
 cases v with
 | s x=>
  cases x<;>simp[PV.det1,SV.det] at b
  ·exact⟨.s _ _ (.bool _),rfl⟩
  ·exact⟨.s _ _ (.int _ _),rfl⟩
  ·rename_i l;have:=VS.str (St:=Γ.St) (w:=w) (⟨l.toArray⟩:ByteArray);simp only at this;exact⟨.s _ _ this,rfl⟩
 | _=>simp[PV.det1] at b
theorem Am7{Γ:Ctx}{sh:Nat->Option Shp}{w:World}{v:PV}(b:v.det=true):VP Γ sh w v (Aa5 v)/\v.nms=[]:=by
 cases v with
 | s x=>exact AP (v:=.s x) b
 | tup l=>
  simp only[PV.det,c9] at b;refine⟨VP.mk_tup (by simp) λj e=>⟨Wr (l[j]),by simp[e],(AP (b _ (b8 e))).1⟩,?_⟩;simp only[PV.nms];rw[p9];intro c d;obtain⟨j,e,d⟩:=A9.1 d;rw[(AP (Γ:=Γ) (sh:=sh) (w:=w) (b _ (b8 e))).2] at d;simp at d
 | _=>simp[PV.det] at b
theorem Am8{v:PV}(b:v.det=true)(f:Nat->Nat):v.rn f=v:=by
 cases v with
 | s x=>rfl
 | tup l=>
  simp only[PV.det,c9] at b;simp only[PV.rn]
  congr 1
  induction l with
  | nil=>rfl
  | cons a r d=>
   simp only[rnL];have c:=b a (by simp);have:a.rn f=a:=by cases a<;>simp[PV.det1] at c<;>rfl
   grind
 | _=>simp[PV.det] at b
theorem Q8{P:Program}{g:Nat}{Vs:Array Value}{w:World}(h:Ny P g=true):(callFunc g Vs).run P w = .ok (.enter g Vs) w:=by
 unfold Ny at h;split at h
 ·rename_i fn e;simp only[a7,s7,s6] at h;obtain⟨⟨c,d⟩,f⟩:=h
  have b:¬ fn.name = "runtime.NumGoroutine":=by simpa using f
  simp[callFunc,e,d,b,x5]
 ·cases h
theorem Mq{P:Program}{ro:Option Nat}{n f:Nat}{d:Array Value}{w:World}{R:Value->World->Prop}(b:(callFunc f d).run P w = .ok (.enter f d) w)(h:J2 P ((callFunc f d).run P w) R):CallsIn (D2 ro) (n-1) P f d w λe w'=>∃V,e = .returned V/\R V w':=by
 rw[b] at h;have:=h ro n { op:=.move (.const undef),dst:=some 0,guard:=none,type:=0,after:=#[],pos:=default } { tmps:=#[undef],defers:=[] } (λi w'=>∃V,i.tmps[0]? = some V/\R V w') (λ_ _ _=>False) (λV w' k=>⟨V,by simp[ag5],k⟩);rw[Oper.uponIn_enter] at this;refine this.2.mono λe w' g=>?_
 cases e with
 | returned v=>
  obtain⟨V,j,l⟩:=g;simp[ag5] at j;grind
 | panicked c=>exact g.elim
 | outgrown=>obtain⟨_,_,h⟩:=g;exact h.elim
theorem TC{ro:Option Nat}{n:Nat}{k:St Q->Option R}(X:HI I)(Z:XOK C)(u:Dz C o.op=true)(h:opK C W J o L k=some r)(S:SI C I Γ Y L a.tmps w) :
  ∃V v,k v=some r/\(∀w',H6 w w'->o.quietAtIn (D2 ro) n C.P a (H6 w') w' V)/\SI C I Γ Y v (a.put o.dst V).tmps w/\Stp C Γ L.hp w noΦ Γ v.hp w noΦ:=by
 obtain⟨c,q⟩:∃c,o.op = .call c:=by
  unfold Dz at u;grind
 rw[q] at u;simp only[Dz] at u;split at u
 ·rename_i g j;simp only[a7,s6] at u;obtain⟨⟨M,pf,m⟩,l⟩:=u;simp only[opK,q,j,opnd,Pc,Km,m,M,cond_true,ab7,ac6,aa0] at h;split at h
  ·rename_i G;obtain⟨ret,Hc,t,h⟩:=R5 h;obtain⟨t,f,rfl⟩:=T5 t;obtain⟨h1,N⟩:=B1 h;simp only[ab7,aa0,Am8 f] at N;have O:=Am7 (Γ:=Γ) (sh:=A0 L.hp) (w:=w) f;refine⟨Aa5 ret,_,N,λw' K=>?_,S.put O.1 (by rw[O.2];simp),Stp.refl S.hr⟩;obtain⟨A,_⟩:=S.like X K;obtain⟨hc,hn⟩:=A.list c.args;have B:=hc.snap A.hr;let Γc:Ctx:={ Γ.all with nm:=λ_=>none }
   have D:CR Γc (A0 []) w' (I8 L.hp (c.args.toList.map (opnd C L.sl))) (c.args.map a.eval):=B.bare (x7.1 G) (λ_ h=>h) rfl;have p:=Z.x g pf _ ret [] m t Γc w' _ (λ_=>rfl) (Em (λ_=>rfl) (JH A)) (A.g.mono (λ_ _=>rfl) (λ_ h=>aa2 h)) D;have i:=Mq (ro:=ro) (n:=n) (Q8 l) p;have F:a.eval (.func g) = .func (.func g) #[] #[]:=rfl;have he:execOp a.eval o=(do let d <-j9 (a.eval (.func g)) (c.args.map a.eval);invoke d.target d.args):=by simp only[execOp,q,resolve,j]
   unfold x4;rw[he,F];have y:(do let d <-j9 (Value.func (.func g) #[] #[]) (c.args.map a.eval);invoke d.target d.args:Sem Next).run C.P w' = .ok (.enter g (c.args.map a.eval)) w':=by
    have:=Q8 (P:=C.P) (Vs:=c.args.map a.eval) (w:=w') l;simpa[j9,invoke] using this
   rw[y];refine⟨rfl,λh=>(by simp[D2,af3] at h),i.mono ?_⟩;rintro e a0 ⟨V,rfl,Γ1,Φ1,z,T,H,_⟩;have:=Aa6 H f;subst this;exact⟨rfl,⟨λg hg=>z.frame g hg (λb=>by simp[Γc]) (λx=>x),z.size⟩,z.os,z.tape,z.output⟩
  ·cases h
 ·cases u
def Out.exit':Out->Exit
 | .normal=>.normal
 | .exit id=>.exit id
 | .ret=>.ret
end
theorem AA{a b:Nat}(h:a<=b):o8 a b=true:=by rw[Nat.ble_eq];exact h
theorem Nk{a b:Nat}(h:o8 a b=true):a<=b:=by rw[Nat.ble_eq] at h;exact h
theorem H6.refl(w:World):H6 w w:=⟨⟨λ_ _=>rfl,h9 _⟩,rfl,rfl,rfl⟩
theorem H6.trans{a b c:World}(h:H6 a b)(k:H6 b c):H6 a c:=
 ⟨⟨λg hg=>(k.1.1 g (j3 hg h.1.2)).trans (h.1.1 g hg),k9 h.1.2 k.1.2⟩,k.2.1.trans h.2.1,k.2.2.1.trans h.2.2.1,k.2.2.2.trans h.2.2.2⟩
def Fr(D:Nat->Prop)(w w':World):Prop:=((∀g,g<w.heap.size->¬D g->w'.heap[g]? = w.heap[g]?)/\w.heap.size<=w'.heap.size)/\w'.os=w.os/\w'.tape=w.tape/\w'.output=w.output
theorem H6.x{D:Nat->Prop}{a b:World}(h:H6 a b):Fr D a b:=⟨⟨λg hg _=>h.1.1 g hg,h.1.2⟩,h.2⟩
theorem Fr.trans{D:Nat->Prop}{a b c:World}(h:Fr D a b)(k:Fr D b c):Fr D a c:=
 ⟨⟨λg hg hd=>(k.1.1 g (j3 hg h.1.2) hd).trans (h.1.1 g hg hd),k9 h.1.2 k.1.2⟩,k.2.1.trans h.2.1,k.2.2.1.trans h.2.2.1,k.2.2.2.trans h.2.2.2⟩
def RQ(D:Nat->Prop)(q:Nat)(a b:World):Prop:=(q=1->H6 a b)/\(q=2->Fr D a b)
theorem RQ.of{D:Nat->Prop}{q:Nat}{a b:World}(h:H6 a b):RQ D q a b:=⟨λ_=>h,λ_=>h.x⟩
theorem RQ.trans{D:Nat->Prop}{q:Nat}{a b c:World}(h:RQ D q a b)(k:RQ D q b c):RQ D q a c:=⟨λe=>(h.1 e).trans (k.1 e),λe=>(h.2 e).trans (k.2 e)⟩
def qK(k:Nat)(f:Bool):Nat:=cond (x9 k 1) (cond f 2 1) 0
section
variable {F : Fence} {n : Nat} {P : Program} {L : Array Oper} {Y : v7} {D : Nat -> Prop} {far : Nat -> Bool}
def QF:Exit->Act->World->Prop:=λ_ _ _=>False
theorem Ah7{o:Oper}{a:Act}{w:World}{N:Act->World->Prop}{Q:Exit->Act->World->Prop}(h:o.wpIn F n P a w N QF):o.wpIn F n P a w N Q:=by
 unfold ac1 at *;refine⟨h.1,?_⟩;have h:=h.2;generalize (o.semAt F.round a.eval).run P w=r at *;cases r with
 | ok x w'=>
  cases x<;>simp only[u9] at h ⊢
  case value=>exact h
  case skip=>exact h
  case defer=>exact h
  case enter=>exact⟨h.1,ad5 h.2 λe d b=>by
   cases e with
   | returned u=>exact b
   | panicked c=>exact b.elim
   | outgrown=>obtain⟨_,_,h⟩:=b;exact h.elim⟩
  case row=>exact h
  case round=>exact⟨h.1,ad8 h.2 λe d b=>by
   cases e with
   | returned u=>exact b
   | panicked c=>exact b.elim
   | outgrown=>obtain⟨_,_,h⟩:=b;exact h.elim⟩
 | halt x w'=>
  cases x<;>simp only[u9] at h ⊢
  case panic=>exact h.elim
theorem UW{i:Nat}{a:Act}{w:World}{N:Act->World->Prop}{Q:Exit->Act->World->Prop}(h:wpOpIn F n P L QF i N a w):wpOpIn F n P L Q i N a w:=by
 unfold wpOpIn at *;split
 ·grind
 ·rename_i o b;simp only[b] at h;split
  ·rename_i c;simp only[c,if_true] at h;exact Ah7 h
  grind
def YQ(F:Fence)(n:Nat)(P:Program)(L:Array Oper)(D:Nat->Prop)(q:Nat)(b:World)(o:Oper)(v:Value)(a:Act):Prop:=
 o.askedIn F P a (λw=>RQ D q b w)/\
 ((j5 o (yielded L a.tmps)=true/\∀w,RQ D q b w->o.quietAtIn F n P a (H6 w) w v)\/
  (j5 o (yielded L a.tmps)=false/\v=undef))
theorem YQ.step{q:Nat}{w0 w1:World}{o:Oper}{v:Value}{a:Act}(h:YQ F n P L D q w0 o v a)(hl:RQ D q w0 w1):YQ F n P L D q w1 o v a:=
 ⟨λw hw=>h.1 w (hl.trans hw),h.2.imp (λh=>⟨h.1,λw hw=>h.2 w (hl.trans hw)⟩) (λh=>h)⟩
theorem YQ.of_same{q:Nat}{w0:World}{o:Oper}{v:Value}{a a':Act}(hy:YQ F n P L D q w0 o v a)(he:execOp a'.eval o=execOp a.eval o)
  (hw:j5 o (yielded L a'.tmps)=j5 o (yielded L a.tmps)) (hb:∀w,o.about P w a'.eval=o.about P w a.eval):YQ F n P L D q w0 o v a':=by
 unfold YQ x4 Oper.askedIn at *;rw[he,hw];exact⟨λw hc f hf=>hy.1 w hc f (by rw[<-hb w];exact hf),hy.2⟩
theorem YQ.wpOpIn{q:Nat}{w0 w:World}{i:Nat}{o:Oper}{v:Value}{a:Act}(hi:L[i]? = some o)(hnd:∀c,o.op≠.defer c)(hy:YQ F n P L D q w0 o v a)(hw:RQ D q w0 w){K:Act->World->Prop}(h:∀w',H6 w w'->K (a.put o.dst v) w'):wpOpIn F n P L QF i K a w:=by
 unfold Go.wpOpIn;simp only[hi];rcases hy.2 with⟨hwt,hv⟩|⟨hwt,rfl⟩
 ·simp only[hwt,if_true];have h3:=hv w hw;unfold x4 at h3;unfold ac1;refine⟨hy.1 w hw,?_⟩;rw[u6 _ _ _ hnd];generalize (execOp a.eval o).run P w=r at *;cases r with
  | ok x w'=>
   cases x<;>simp only[ae4] at h3<;>simp only[u9]
   case value u=>
    obtain⟨e1,e2⟩:=h3;rw[e1,e2];exact h _ (H6.refl w)
   case skip=>
    obtain⟨e1,e2⟩:=h3;rw[e1,<-e2];exact h _ (H6.refl w)
   case enter f args=>
    obtain⟨e1,hd,hc⟩:=h3;rw[e1];exact⟨hd,hc.mono λe w'' ⟨he,hw''⟩=>by subst he;exact h _ hw''⟩
  | halt x w'=>simp only[ae4] at h3
 ·simp only[hwt,v8,if_false];exact⟨hy.1 w hw,h _ (H6.refl w)⟩
theorem II{q:Nat}{A:World}{j:Nat}{i k:Oper}{v:Value}(Q:L[j]? = some k)(H:i.apart L k=true)
  (J:∀C b,i.op≠.select C b) (M:∀C b,k.op≠.select C b) (y:∀c,k.op≠.defer c) {K:Act->World->Prop} {a:Act} {w:World}
  (o:YQ F n P L D q A i v a) (h:wpOpIn F n P L QF j K (a.put i.dst v) w) :
  wpOpIn F n P L QF j (λO w'=>YQ F n P L D q A i v O/\K (O.put i.dst v) w') a w:=by
 obtain⟨B,p,G⟩:=Oper.apart_spec H;have g:∀(a:Act),YQ F n P L D q A i v a->∀u,YQ F n P L D q A i v (a.put k.dst u):=λa o u=>
  o.of_same (execOp_put i J a k.dst u G) (wanted_put i a k.dst u G) (λw=>about_put i w a k.dst u G)
 unfold wpOpIn at *;simp only[Q] at *;rw[wanted_put k a i.dst v B,about_put k w a i.dst v B] at h;split
 ·rename_i N;simp only[N,if_true] at h;unfold ac1 at *;rw[about_put k w a i.dst v B] at h;refine⟨h.1,?_⟩;have h:=h.2;rw[u6 _ _ _ y,execOp_put k M a i.dst v B] at h;rw[u6 _ _ _ y];have I:∀d w',(execOp a.eval k).run P w≠.ok (.defer d) w'\/True:=λ_ _=>.inr trivial
  generalize R:(execOp a.eval k).run P w=r at *;cases r with
  | ok x w'=>
   cases x<;>simp only[u9] at h ⊢
   case value u=>exact⟨g a o u,by rw[<-x6 a v u p];exact h⟩
   case skip=>exact⟨g a o _,by rw[<-x6 a v undef p];exact h⟩
   case defer d=>
    have t:∀d,YQ F n P L D q A i v { a with defers:=d::a.defers }:=λd=>o.of_same rfl rfl (λ_=>rfl)
    refine⟨g _ (t d) _,?_⟩;rw[<-x6 _ v undef p,<-Act.put_defers];exact h
   case enter f args=>
    refine⟨h.1,ad5 h.2 λe z m=>?_⟩;cases e with
    | returned u=>exact⟨g a o u,by rw[<-x6 a v u p];exact m⟩
    | panicked c=>exact m
    | outgrown=>exact m
   case row row args=>exact⟨h.1,ag8 h.2 λu z m=>⟨g a o u,by rw[<-x6 a v u p];exact m⟩⟩
   case round l f tmps assign body=>
    refine⟨h.1,ad8 h.2 λe z m=>?_⟩;cases e with
    | returned u=>exact⟨g a o u,by rw[<-x6 a v u p];exact m⟩
    | panicked c=>exact m
    | outgrown=>exact m
  | halt x w'=>
   cases x<;>simp only[u9] at h ⊢
   case panic u=>exact h
 ·rename_i N;simp only[N] at h;exact⟨h.1,g a o _,by rw[<-x6 a v undef p];exact h.2⟩
def wpR(F:Fence)(n:Nat)(P:Program)(Y:v7)(L:Array Oper)(D:Nat->Prop)(wr c:Nat->Bool)(b:Act->World->Prop):Nat->Array Bool->Act->World->Prop
 | 0,listed,a,w=>j6 Y L listed=[]/\b a w
 | f+1,listed,a,w=>(j6 Y L listed=[]->b a w)/\
  ∀i∈j6 Y L listed,wpOpIn F n P L QF i (λd w'=>(wr i=false->H6 w w')/\(c i=true->Fr D w w')/\∀w1,H6 w' w1->wpR F n P Y L D wr c b f (listed.setIfInBounds i true) d w1) a w
theorem Fp{wr d:Nat->Bool}{Q:Exit->Act->World->Prop}{Qn:Act->World->Prop}(b:∀a w,Qn a w->Q .normal a w):∀(f:Nat) (listed:Array Bool) (a:Act) (w:World),wpR F n P Y L D wr d Qn f listed a w->wpAnyIn F n P Y L Q f listed a w
 | 0,_,_,_,h=>⟨h.1,b _ _ h.2⟩
 | f+1,_,_,_,h=>⟨λe=>b _ _ (h.1 e),λi g=>UW (wpOpIn_mono (λc w' h=>Fp b f _ c w' (h.2.2 w' (H6.refl w'))) (h.2 i g))⟩
def DC(Y:v7)(L:Array Oper)(listed:Array Bool):Prop:=∀j o,L[j]? = some o->listed.getD j false=true->∀e∈o.after,aa5 Y e=true->listed.getD e.on false=true
theorem EU{listed:Array Bool}{i j:Nat}(h:(listed.setIfInBounds i true).getD j false=true):j=i\/listed.getD j false=true:=by by_cases a:i=j;all_goals simp_all
theorem DC.set{listed:Array Bool}{i:Nat}(h:DC Y L listed)(hi:i∈j6 Y L listed):DC Y L (listed.setIfInBounds i true):=by
 intro j o ho hj e he hb;refine getD_set_true ?_;rcases EU hj with rfl|hj
 ·obtain⟨_,o',ho',hall⟩:=mem_ready.1 hi;grind
 ·exact h j o ho hj e he hb
def Vg(Y:v7)(L:Array Oper):Nat->Nat->Nat->Bool
 | 0,_,_=>false
 | f+1,j,i=>match L[j]? with
  | some o=>(o.after.toList.any λe=>aa5 Y e&&x9 e.on i)||(o.after.toList.any λe=>aa5 Y e&&Vg Y L f e.on i)
  | none=>false
theorem Qd{listed:Array Bool}{i:Nat}(d:DC Y L listed)(k:listed.getD i false=false):∀f j,Vg Y L f j i=true->listed.getD j false=false/\j∉j6 Y L listed
 | 0,j,h=>by cases h
 | f+1,j,h=>by
  simp only[Vg] at h;split at h
  ·rename_i o m;have key:∃e∈o.after,aa5 Y e=true/\listed.getD e.on false=false:=by
    rw[o5,ad9,ad9] at h;rcases h with⟨e,b,a⟩|⟨e,b,a⟩
    ·rw[a7] at a;have:=j7 a.2;grind
    ·rw[a7] at a;exact⟨e,by simpa using b,a.1,(Qd d k f e.on a.2).1⟩
   obtain⟨e,b,a,g⟩:=key;refine⟨?_,λq=>?_⟩
   ·cases l:listed.getD j false with
    | false=>rfl
    | true=>rw[d j o m l e b a] at g;cases g
   ·obtain⟨_,o',p,c⟩:=mem_ready.1 q;grind
  ·cases h
theorem Mp{listed:Array Bool}{i:Nat}(h:i∈j6 Y L listed):listed.getD i false=false:=by have a:=(mem_ready.1 h).1;grind
theorem UX{wr K:Nat->Bool}{Qn:Act->World->Prop}{q:Nat}{i:Nat}{G:Oper}{v:Value}(N:L[i]? = some G)(y:∀(j:Nat) (o:Oper) J b,L[j]? = some o->o.op≠.select J b)(B:∀(j:Nat) (o:Oper) c,L[j]? = some o->o.op≠.defer c) :
  ∀(f:Nat) (listed:Array Bool) (a:Act) (V:World),
   (∀j A,L[j]? = some A->j≠i->listed.getD j true=false->(∀e∈A.after,aa5 Y e=true->e.on≠i)->G.apart L A=true)->
   (∀j,j≠i->listed.getD j true=false->wr j=true->(q=1\/(q=2/\K j=false))->Vg Y L L.size j i=true)->DC Y L listed->
   i∈j6 Y L listed->YQ F n P L D q V G v a->
   (∀w,H6 V w->wpR F n P Y L D wr K Qn f (listed.setIfInBounds i true) (a.put G.dst v) w)->∀w,H6 V w->wpR F n P Y L D wr K Qn (f+1) listed a w:=by
 intro f
 induction f with
 | zero=>
  intro listed a V _ _ _ C W H w z;refine⟨λh=>(by rw[h] at C;cases C),λj I=>?_⟩;by_cases d:j=i
  ·subst d;exact W.wpOpIn N (λc=>B j G c N) (.of z) λw' p=>⟨λ_=>p,λ_=>p.x,λw1 M=>H w1 (z.trans (p.trans M))⟩
  ·have:=ready_mono I d;rw[(H w z).1] at this;cases this
 | succ f ih=>
  intro listed a V l U hd C W H w z;refine⟨λh=>(by rw[h] at C;cases C),λj I=>?_⟩;by_cases d:j=i
  ·subst d;exact W.wpOpIn N (λc=>B j G c N) (.of z) λw' p=>⟨λ_=>p,λ_=>p.x,λw1 M=>H w1 (z.trans (p.trans M))⟩
  ·have M:=(H w z).2 j (ready_mono I d);obtain⟨x,A,t,a3⟩:=mem_ready.1 I;have O:=Mp C;have R:∀e∈A.after,aa5 Y e=true->e.on≠i:=λe he hb heq=>by grind
   have h2:=II t (l j A t d x R) (λJ b=>y i G J b N) (λJ b=>y j A J b t) (λc=>B j A c t) (W.step (w1:=w) (.of z)) M;have m:∀{k:Nat},k≠i->(listed.setIfInBounds j true).getD k true=false->listed.getD k true=false:=fun {k} g u=>by
    by_cases a4:j=k;all_goals simp_all
   refine wpOpIn_mono (λa' w' h3=>?_) h2;obtain⟨a2,p,Q,hR⟩:=h3;refine⟨p,Q,λw1 Z=>?_⟩;have X:RQ D q w w':=by
    cases T:wr j with
    | false=>exact .of (p T)
    | true=>
     have r:(q=1\/(q=2/\K j=false))->False:=λS=>(Qd hd O L.size j (U j d x T S)).2 I
     refine⟨λS=>(r (.inl S)).elim,λS=>?_⟩;cases hf:K j with
     | true=>exact Q hf
     | false=>exact(r (.inr ⟨S,hf⟩)).elim
   refine ih (listed.setIfInBounds j true) a' w' (λk ok hk g u r=>l k ok hk g (m g u) r) (λk g u a1=>U k g (m g u) a1) (hd.set I) (ready_mono C (Ne.symm d)) (a2.step X) (λw2 a0=>?_) w1 Z;rw[Array.setIfInBounds_comm _ _ d];exact hR w2 a0
def H7(F:Fence)(n:Nat)(P:Program)(L:Array Oper)(D:Nat->Prop)(far:Nat->Bool)(kind:Nat->Nat)(E:Act->World->Prop):List Nat->Act->World->Prop
 | [],a,c=>E a c
 | i::b,a,c=>(kind i<=1->∃o v,L[i]? = some o/\YQ F n P L D (qK (kind i) (far i)) c o v a/\H7 F n P L D far kind E b (a.put o.dst v) c)/\
  (2<=kind i->∀w,H6 c w->wpOpIn F n P L QF i (λd w'=>(kind i=2->H6 w w')/\(far i=true->Fr D w w')/\H7 F n P L D far kind E b d w') a w)
def QE(Y:v7)(L:Array Oper)(far:Nat->Bool)(kind:Nat->Nat)(i:Nat)(listed:Array Bool):Bool:=
 (j6 Y L listed).contains i&&(Region.free Y L listed i&&(x9 (kind i) 0||(af8 L.size).all λj=>x9 j i||(listed.getD j true||(!(o8 3 (kind j))||((far i&&far j)||Vg Y L L.size j i)))))
def Sq(Y:v7)(L:Array Oper)(far:Nat->Bool)(kind:Nat->Nat)(a:Array Bool->Bool):List Nat->Array Bool->Bool
 | [],listed=>a listed
 | i::r,listed=>cond (o8 (kind i) 1) (QE Y L far kind i listed) ((j6 Y L listed)==[i])&&Sq Y L far kind a r (listed.setIfInBounds i true)
def AL(Y:v7)(L:Array Oper)(far:Nat->Bool)(kind:Nat->Nat):List Nat->Array Bool->Bool:=Sq Y L far kind λlisted=>(j6 Y L listed).isEmpty
theorem WN{kind:Nat->Nat}{z:Act->World->Prop}(K:w8 L=true)(x:∀(j:Nat) (o:Oper) c,L[j]? = some o->o.op≠.defer c)(I:∀j,L.size<=j->kind j<=1){i b:Nat}{listed:Array Bool}{a:Act}{m:World}{o:Oper}{v:Value}
  (A:QE Y L far kind i listed=true) (B:DC Y L listed) (C:L[i]? = some o) (N:YQ F n P L D (qK (kind i) (far i)) m o v a)
  (h:DC Y L (listed.setIfInBounds i true)->∀w,H6 m w->wpR F n P Y L D (λj=>o8 3 (kind j)) far z b (listed.setIfInBounds i true) (a.put o.dst v) w):∀w,H6 m w->wpR F n P Y L D (λj=>o8 3 (kind j)) far z (b+1) listed a w:=by
 intro w M;simp only[QE,a7] at A;obtain⟨J,G,e⟩:=A;have g:i∈j6 Y L listed:=by simpa using J
 refine UX (q:=qK (kind i) (far i)) C (Region.noSelect_spec K) x b listed a m (Region.free_spec C G) (λj t y k d=>?_) B g N (h (B.set g)) w M;have f:kind i=1:=by
  cases l:x9 (kind i) 1 with
  | true=>exact j7 l
  | false=>simp[qK,l] at d
 have p:(far i&&far j)=false:=by
  rw[f] at d;cases r:far i with
  | false=>rfl
  | true=>
   rcases d with d|⟨_,d⟩
   ·rw[r] at d;cases d
   ·rw[d];rfl
 rw[f] at e;simp only[show x9 1 0=false from rfl,af9,c9,af6] at e;have u:j<L.size:=o3 λH=>by
  have:=I j (by omega);have O:=Nk k;omega
 have:=e j u;rw[show x9 j i=false by cases l:x9 j i with|false=>rfl|true=>exact absurd (j7 l) t,y,k,p] at this;simpa using this
theorem Hr{kind:Nat->Nat}{Qn E:Act->World->Prop}{fin:Array Bool->Bool}{m:Nat}(C:w8 L=true)(k:∀(j:Nat) (o:Oper) c,L[j]? = some o->o.op≠.defer c)(B:∀j,L.size<=j->kind j<=1)
  (d:∀listed a f,fin listed=true->DC Y L listed->E a f->∀w,H6 f w->wpR F n P Y L D (λj=>o8 3 (kind j)) far Qn m listed a w) :
  ∀(b:List Nat) (listed:Array Bool) (a:Act) (f:World),Sq Y L far kind fin b listed=true->DC Y L listed->H7 F n P L D far kind E b a f->∀w,H6 f w->wpR F n P Y L D (λj=>o8 3 (kind j)) far Qn (m+b.length) listed a w
 | [],listed,a,f,r,t,h,w,u=>d listed a f r t h w u
 | i::b,listed,a,f,r,t,h,w,u=>by
  simp only[Sq,a7] at r;obtain⟨e,q⟩:=r;simp only[H7] at h;show wpR F n P Y L D _ _ Qn (m+b.length+1) listed a w;by_cases g:kind i<=1
  ·rw[show o8 (kind i) 1=true from AA g,cond_true] at e;obtain⟨o,v,M,N,J⟩:=h.1 g;exact WN C k B e t M N (λy w1 l=>Hr C k B d b _ _ f q y J w1 l) w u
  ·rw[show o8 (kind i) 1=false by cases K:o8 (kind i) 1 with|false=>rfl|true=>exact absurd (Nk K) g,cond_false] at e;have H:j6 Y L listed=[i]:=by simpa using e
   refine⟨λG=>(by rw[H] at G;cases G),λj z=>?_⟩;have A:j=i:=by rw[H] at z;simpa using z
   subst A;refine wpOpIn_mono (λI w' x=>?_) (h.2 (by omega) w u);refine⟨λp=>x.1 ?_,x.2.1,λw1 l=>Hr C k B d b _ I w' q (t.set z) x.2.2 w1 l⟩;have:¬ 3<=kind j:=λh=>by dsimp only at p;rw[AA h] at p;cases p
   omega
def Ms(F:Fence)(n:Nat)(P:Program)(L:Array Oper)(D:Nat->Prop)(far:Nat->Bool)(kind:Nat->Nat)(E:Act->World->Prop)(e:Nat)(post:List Nat):List Nat->Act->World->Prop
 | [],a,c=>∀w,H6 c w->wpOpIn F n P L QF e (λd w'=>H6 w w'/\H7 F n P L D far kind E post d w') a w
 | i::b,a,c=>H7 F n P L D far kind (Ms F n P L D far kind E e post b) [i] a c/\
  (2<=kind i->∀w,H6 c w->wpOpIn F n P L QF e (λd w'=>H6 w w'/\H7 F n P L D far kind E ((i::b)++post) d w') a w)
def Hq(Y:v7)(L:Array Oper)(far:Nat->Bool)(kind:Nat->Nat)(a:Nat)(post:List Nat):List Nat->Array Bool->Bool
 | [],listed=>(j6 Y L listed==[a])&&AL Y L far kind post (listed.setIfInBounds a true)
 | i::r,listed=>cond (o8 (kind i) 1) (QE Y L far kind i listed)
   ((j6 Y L listed).contains i&&((j6 Y L listed).all (λj=>x9 j i||x9 j a)&&AL Y L far kind ((i::r)++post) (listed.setIfInBounds a true)))&&Hq Y L far kind a post r (listed.setIfInBounds i true)
theorem VZ{kind:Nat->Nat}{y:Act->World->Prop}{J:Nat}{post:List Nat}(R:w8 L=true)(t:∀(j:Nat) (o:Oper) c,L[j]? = some o->o.op≠.defer c)(Q:∀j,L.size<=j->kind j<=1) :
  ∀(k:List Nat) (listed:Array Bool) (a:Act) (l:World),Hq Y L far kind J post k listed=true->DC Y L listed->Ms F n P L D far kind (λa l=>∀w,H6 l w->y a w) J post k a l->∀w,H6 l w->wpR F n P Y L D (λj=>o8 3 (kind j)) far y (post.length+1+k.length) listed a w:=by
 have p:∀(listed:Array Bool) (a:Act) (l:World),(j6 Y L listed).isEmpty=true->DC Y L listed->(∀w,H6 l w->y a w)->∀w,H6 l w->wpR F n P Y L D (λj=>o8 3 (kind j)) far y 0 listed a w:=
  λlisted a l h _ W w u=>⟨by simpa using h,W w u⟩
 intro k
 induction k with
 | nil=>
  intro listed a l A G h w u;simp only[Hq,a7] at A;obtain⟨b,m⟩:=A;have S:j6 Y L listed=[J]:=by simpa using b
  show wpR F n P Y L D _ _ y (post.length+1) listed a w;refine⟨λH=>(by rw[S] at H;cases H),λj q=>?_⟩;have g:j=J:=by rw[S] at q;simpa using q
  subst g;refine wpOpIn_mono (λz w' f=>⟨λ_=>f.1,λ_=>f.1.x,λw1 d=>?_⟩) (h w u);have:=Hr R t Q p post _ z w' m (G.set q) f.2 w1 d;rwa [s5] at this
 | cons i e T=>
  intro listed a l A G h w u;simp only[Hq,a7] at A;obtain⟨b,m⟩:=A;simp only[Ms] at h;obtain⟨M,V⟩:=h;simp only[H7] at M;show wpR F n P Y L D _ _ y (post.length+1+e.length+1) listed a w;by_cases r:kind i<=1
  ·rw[show o8 (kind i) 1=true from AA r,cond_true] at b;obtain⟨o,v,I,X,U⟩:=M.1 r;exact WN R t Q b G I X (λN w1 d=>T _ _ l m N U w1 d) w u
  ·rw[show o8 (kind i) 1=false by cases C:o8 (kind i) 1 with|false=>rfl|true=>exact absurd (Nk C) r,cond_false] at b;simp only[a7,c9,o5] at b;obtain⟨O,B,K⟩:=b;have I:i∈j6 Y L listed:=by simpa using O
   refine⟨λH=>(by rw[H] at I;cases I),λj q=>?_⟩;rcases B j q with C|C
   ·have g:=j7 C;subst g;refine wpOpIn_mono (λz w' f=>?_) (M.2 (by omega) w u);refine⟨λx=>f.1 ?_,f.2.1,λw1 d=>T _ z w' m (G.set q) f.2.2 w1 d⟩;have:¬ 3<=kind j:=λh=>by dsimp only at x;rw[AA h] at x;cases x
    omega
   ·have g:=j7 C;subst g;refine wpOpIn_mono (λz w' f=>⟨λ_=>f.1,λ_=>f.1.x,λw1 d=>?_⟩) (V (by omega) w u);have:=Hr R t Q p ((i::e)++post) _ z w' K (G.set q) f.2 w1 d;rw[s5] at this;rw[show post.length+1+e.length=((i::e)++post).length by rw[j2,ae1];omega];exact this
def We(d:Option Tmp)(a b:Act):Prop:=∀t,d≠some t->b.tmps[t]? = a.tmps[t]?
theorem S6(a:Act)(d:Option Tmp)(v:Value):We d a (a.put d v):=λt b=>by
 cases d with
 | none=>rfl
 | some d=>
  have:d≠t:=λe=>b (by rw[e])
  simp[ag5,this]
theorem OX{o:Oper}{a:Act}{w:World}{N:Act->World->Prop}(h:o.wpIn F n P a w N QF):o.wpIn F n P a w (λf w'=>We o.dst a f/\N f w') QF:=by
 unfold ac1 at *;refine⟨h.1,?_⟩;have h:=h.2;generalize (o.semAt F.round a.eval).run P w=r at *;cases r with
 | ok x w'=>
  cases x<;>simp only[u9] at h ⊢
  case value=>exact⟨S6 _ _ _,h⟩
  case skip=>exact⟨S6 _ _ _,h⟩
  case defer=>
   refine⟨λt g=>?_,h⟩;exact S6 { a with defers:=_ } o.dst undef t g
  case enter=>exact⟨h.1,ad5 h.2 λe d b=>by
   cases e with
   | returned u=>exact⟨S6 _ _ _,b⟩
   | panicked c=>exact b.elim
   | outgrown=>obtain⟨_,_,h⟩:=b;exact h.elim⟩
  case row=>exact⟨h.1,ag8 h.2 λu d b=>⟨S6 _ _ _,b⟩⟩
  case round=>exact⟨h.1,ad8 h.2 λe d b=>by
   cases e with
   | returned u=>exact⟨S6 _ _ _,b⟩
   | panicked c=>exact b.elim
   | outgrown=>obtain⟨_,_,h⟩:=b;exact h.elim⟩
 | halt x w'=>
  cases x<;>simp only[u9] at h ⊢
  omega
theorem CT{i:Nat}{o:Oper}(d:L[i]? = some o){a:Act}{w:World}{N:Act->World->Prop}(h:wpOpIn F n P L QF i N a w):wpOpIn F n P L QF i (λc w'=>We o.dst a c/\N c w') a w:=by
 unfold wpOpIn at *;simp only[d] at h ⊢;split
 ·rename_i b;simp only[b,if_true] at h;exact OX h
 ·rename_i b;simp only[b] at h;exact⟨h.1,S6 _ _ _,h.2⟩
theorem Pd{kind:Nat->Nat}{E:Act->World->Prop}{i:Nat}{o:Oper}(j:L[i]? = some o){a:Act}{k:World}(h:H7 F n P L D far kind (λc w'=>We o.dst a c->E c w') [i] a k):H7 F n P L D far kind E [i] a k:=by
 simp only[H7] at h ⊢;refine⟨λg=>?_,λg w l=>?_⟩
 ·obtain⟨o',v,b,d,f⟩:=h.1 g;obtain rfl:=af2 (j.symm.trans b);exact⟨_,v,b,d,f (S6 _ _ _)⟩
 ·exact wpOpIn_mono (λc w' ⟨b,d,e,f⟩=>⟨d,e,f b⟩) (CT j (h.2 g w l))
theorem Mr{id:Nat}{Q:Exit->Act->World->Prop}{kind:Nat->Nat}{ord:List Nat}{a:Act}{w:World}(k:P.follows .mixedOrders=true)(p:w8 L=true)(f:∀(j:Nat) (o:Oper) c,L[j]? = some o->o.op≠.defer c)(i:∀j,L.size<=j->kind j<=1)
  (b:ord.length=L.size) (g:AL .any L far kind ord (ab2 L.size false)=true) (h:H7 F n P L D far kind (λa d=>∀w,H6 d w->Q .normal a w) ord a w):(ac9 id L true).wpIn F n P Q a w:=by
 refine wpIn_region_any k ?_;rw[<-b,<-s5 ord.length];refine Fp (λ_ _ h=>h) _ _ _ _ (Hr (Qn:=λa w=>Q .normal a w) (m:=0) (fin:=λlisted=>(j6 .any L listed).isEmpty) (E:=λa d=>∀w,H6 d w->Q .normal a w) p f i (λlisted a d h _ l w q=>⟨by simpa using h,l w q⟩) ord _ a w (by rw[s5,b];exact g) (λj o r e=>?_) h _ (H6.refl w));simp only[j1,ab8] at e;split at e<;>cases e
end
section
variable {X R : Type} {r : R} {C : Cfg} {I : X -> (Nat -> Prop) -> (Nat -> Prop) -> World -> Prop} {Γ : Ctx} {Φ : Nat -> Prop} {st : St X} {a : Act} {w : World} {Z : C9} {O : Yh X} {N : Value} {o : Oper}
theorem OH{P:Program}{m:Sem Next}{w w1 b:World}{x y:Next}(h:m.run P w = .ok x w1)(k:m.run P w = .ok y b):x=y/\w1=b:=by grind
theorem Jh(w:World)(x:Obj):H6 w (w.alloc x):=⟨⟨λg b=>C8 (w':=w.alloc x) (o:=x) rfl b,by rw[show(w.alloc x).heap=w.heap.push x from rfl];simp⟩,rfl,rfl,rfl⟩
theorem Wi{Γ:Ctx}{e:Nat}{ev:Operand->Value}(b:(C.ti e).ok=true)(c:o.op = .alloc e):∃z:Value,(execOp ev o).run C.P w = .ok (.value (.pointer (some ⟨w.heap.size,0,none⟩))) (w.alloc (.cells z.cells e))/\(∀(Γ:Ctx) sh w,CR Γ sh w ((C.ti e).ks.map M0) z.cells)/\∃i,C.P.info? e=some i/\i.zero=some z:=by
 obtain⟨i,z,d,f,_,_⟩:=Y6 (Γ:=Γ) (sh:=λ_=>none) (w:=w) b;refine⟨z,?_,λΓ' sh w'=>?_,i,d,f⟩
 ·simp only[execOp,c];simp[ae6,zeroValue,typeInfo,d,f,newVar,newRow]
 ·obtain⟨k,l,g,j,_,h⟩:=Y6 (Γ:=Γ') (sh:=sh) (w:=w') b;grind
theorem Ao4{P:Option Nat}{n:Nat}{k:St X->Option R}{next:Act->World->Prop}{Q:Exit->Act->World->Prop}(A:Ask C I Z O N)(a0:Γ.yv=N)(B:EO C o.op=true)(h:opK C Z O o st k=some r)(S:SI C I Γ Φ st a.tmps w)(U:Nxt C I Γ Φ st.hp w a.defers k r (λa' w'=>H6 w w'->next a' w')) :
  o.wpIn (D2 P) n C.P a w next Q:=by
 refine⟨λ_ _=>trivial,?_⟩;have M:∀c,o.op≠.defer c:=λc e=>by simp[opK,e] at h
 rw[u6 _ _ _ M];unfold EO at B;have add:Ns o.op=false->(∃m x,(execOp a.eval o).run C.P w = .ok (.value m) (w.alloc x))->o.uponIn (D2 P) n C.P a next Q ((execOp a.eval o).run C.P w):=λy ⟨m,x,K⟩=>by
  obtain⟨V,w',Γ',l,H,u,h3,h4⟩:=FQ A.hI y h S;have hn:=U l (a.put o.dst V) w' Γ' Φ H h4 h3 (put_defers _ _ _);rcases u with u|⟨rfl,u⟩
  ·obtain⟨_,rfl⟩:=OH u K;rw[u];exact hn (Jh w x)
  grind
 split at B
 ·rename_i t len parts b;refine add (by rw[b];rfl) ?_;simp only[opK,b] at h;obtain⟨p1,p2⟩:=S.parts parts.toList;cases F:C.stab t with
  | true=>
   simp only[F,cond_true] at h;obtain⟨v,Y,hv,m,x,f⟩:=Dp (ps:=parts.map λ(i,x)=>(i,a.eval x)) (sl:=st.sl) (tmps:=a.tmps) S.hr h (by rw[s8];exact p1);refine⟨m,x,?_⟩;simp only[execOp,b];simp[f]
  | false=>
  simp only[F,cond_false] at h;obtain⟨v,H',Y,hv,m,x,f⟩:=Cj (ps:=parts.map λ(i,x)=>(i,a.eval x)) (sl:=st.sl) (tmps:=a.tmps) S.hr h (by rw[s8];exact p1);refine⟨m,x,?_⟩;simp only[execOp,b];simp[f]
 ·rename_i e b;refine add (by rw[b];rfl) ?_;by_cases D:(C.ti e).ok=true
  ·obtain⟨z,hr,_⟩:=Wi (Γ:=Γ) (ev:=a.eval) (w:=w) D b;exact⟨_,_,hr⟩
  ·simp[opK,b,Qf,D] at h
 ·rename_i t b;refine add (by rw[b];rfl) ?_;simp only[opK,b] at h;obtain⟨v,H',Y,hv,m,x,f⟩:=Gw (sl:=st.sl) (tmps:=a.tmps) S.hr h;refine⟨m,x,?_⟩;simp only[execOp,b];simp[f]
 ·rename_i c b;split at B
  ·rename_i g p;simp only[a7,s6] at B;obtain⟨⟨pf,q⟩,W⟩:=B;simp only[opK,b,p,opnd,Pc,Km,q,ab7,ac6,aa0] at h;split at h
   ·rename_i L;obtain⟨ret,Hc,j,h⟩:=R5 h;have j:F5 (pf (I8 st.hp (c.args.toList.map (opnd C st.sl))))=some (ret,Hc):=by
     cases hx:C.xp g with
     | true=>rw[hx] at j;exact(T5 j).1
     | false=>rw[hx] at j;exact j
    obtain⟨H,u⟩:=B1 h;obtain⟨hc,hn⟩:=S.list c.args;have key:=Sp (k:=λv l=>k { l with sl:=R3 o.dst v l.sl }) A.hI A.hX S hc q j (x7.1 L) (by simpa only[o5,s7,a7] using H) u;have J:execOp a.eval o=(do let d <-j9 (a.eval (.func g)) (c.args.map a.eval);invoke d.target d.args):=by simp only[execOp,b,resolve,p]
    have f:(execOp a.eval o).run C.P w=(callFunc g (c.args.map a.eval)).run C.P w:=by
     rw[J];have e:a.eval (.func g) = .func (.func g) #[] #[]:=rfl;rw[e];simp[j9,invoke]
    rw[f];refine key P n o a next Q ?_
    rintro V w' ⟨⟨v,l,Γ',T,k1,k2,G,k4,k5⟩,K⟩;exact U _ (a.put o.dst V) w' Γ' T k1 k2 ⟨G.hr,G.sr.put (ds:=a.defers) o k4 k5,G.g,G.inv,G.dis⟩ (put_defers _ _ _) K
   ·cases h
  ·cases B
 ·cases B
theorem Tp(C:Cfg)(op:Op):(R2 C op=0/\((∃x,op = .move x\/op = .assign x\/∃i,op = .extract x i)\/(∃x,op = .nilCheck x)\/(∃t x d c e,op = .slice t x d c e)\/(∃t x f,op = .fieldAddr t x f)\/(∃t x i,op = .indexAddr t x i)\/(∃t p,op = .build t p)\/∃b t x y q,op = .binOp b t x y q))\/(R2 C op=1/\Lu C op=true)\/(R2 C op=2/\EO C op=true)\/R2 C op=3:=by unfold R2;grind
theorem Am6{k:St X->Option R}(G:(∃x,o.op = .move x\/o.op = .assign x\/∃i,o.op = .extract x i)\/(∃x,o.op = .nilCheck x)\/(∃t x m j n,o.op = .slice t x m j n)\/(∃t x f,o.op = .fieldAddr t x f)\/(∃t x i,o.op = .indexAddr t x i)\/(∃t p,o.op = .build t p)\/∃b t x y q,o.op = .binOp b t x y q)(h:opK C Z O o st k=some r)(S:SI C I Γ Φ st a.tmps w) :
  ∃V d,k d=some r/\(∀w':World,(execOp a.eval o).run C.P w' = .ok (.value V) w')/\SI C I Γ Φ d (a.put o.dst V).tmps w/\Stp C Γ st.hp w noΦ Γ d.hp w noΦ:=by
 rcases G with⟨x,c⟩|⟨x,c⟩|⟨t,x,m,j,n,c⟩|⟨t,x,f,c⟩|⟨t,x,i,c⟩|⟨t,p,c⟩|⟨b,t,x,y,q,c⟩
 ·obtain⟨V,d,v,z,D,F⟩:=Ic (a:=a) (show G0 C o.op=true by rcases c with h|h|⟨_,h⟩<;>rw[h]<;>rfl) h S;refine⟨V,d,v,λw'=>?_,D,F⟩;have e:=z w (Ext.refl w);rcases c with c|c|⟨i,c⟩<;>simp only[execOp,c] at e ⊢
  ·cases e;rfl
  ·cases e;rfl
  ·unfold ag0 at e ⊢;split at e
   ·split at e
    ·cases e;simp_all
    ·cases e
   ·cases e
 ·simp only[opK,c] at h;split at h
  ·rename_i l;have g:=(S.opnd x).1;refine⟨a.eval x,_,h,λw'=>?_,S.put g (S.opnd x).2,Stp.refl S.hr⟩;simp only[execOp,c];unfold LS at l;split at l
   ·rename_i c;rw[c] at g;obtain⟨u,e⟩:=g.inv_ptr;simp_all
   ·rename_i c;rw[c] at g;obtain⟨u,e⟩:=g.inv_sp;simp_all
   ·rename_i c;rw[c] at g;obtain⟨A,B,e⟩:=g.inv_fn;simp_all
   ·rename_i c;rw[c] at g;obtain⟨A,B,e⟩:=g.inv_fnr;simp_all
   grind
  ·cases h
 ·exact HP (a:=a) c h S
 ·exact EQ (a:=a) c h S
 ·exact FF (a:=a) c h S
 ·exact DU (a:=a) c h S
 ·exact RR (a:=a) c h S
def VE(C:Cfg)(I:X->(Nat->Prop)->(Nat->Prop)->World->Prop)(Γ:Ctx)(Φ:Nat->Prop)(H:List Blk)(w:World)(ds:List Deferred)(k:St X->Option R)(r:R)(q:Prop)(next:Act->World->Prop):Prop:=
 ∀b d w' Γ' c,k b=some r->Stp C Γ H w Φ Γ' b.hp w' c->SI C I Γ' c b d.tmps w'->d.defers=ds->(q->∀g,Γ'.St g->Γ.St g)->next d w'
theorem Nxt.q{H:List Blk}{ds:List Deferred}{k:St X->Option R}{q:Prop}{next:Act->World->Prop}(h:Nxt C I Γ Φ H w ds k r next):VE C I Γ Φ H w ds k r q next:=λst' a' w' Γ' Φ' h1 h2 h3 h4 _=>h st' a' w' Γ' Φ' h1 h2 h3 h4
theorem X6{ro:Option Nat}{n:Nat}{all:Array Oper}{E:Act->World->Prop}{D:Nat->Prop}{far:Nat->Bool}(A:Ask C I Z O N):∀(c:List Nat) {Γ:Ctx} {Φ:Nat->Prop} {st:St X} {a:Act} {w:World} {k:St X->Option R},(∀i∈c,i<all.size/\far i=false)->Γ.yv=N->
  Z9 C Z O all (c.filterMap (all[·]?)) st k=some r->SI C I Γ Φ st a.tmps w->VE C I Γ Φ st.hp w a.defers k r (∀j∈c,E8 C all j<=1) E->H7 (D2 ro) n C.P all D far (E8 C all) E c a w
 | [],Γ,Φ,st,a,w,k,f,hyv,h,S,F=>F st a w Γ Φ h (Stp.refl S.hr) S rfl (λ_ _ h=>h)
 | i::c,Γ,Φ,st,a,w,k,f,hyv,h,S,F=>by
  have b1:=(f i (by simp)).1;have M:=(f i (by simp)).2;obtain⟨o,ho⟩:∃o,all[i]? = some o:=⟨all[i],y5 b1⟩
  have u:∀j∈c,j<all.size/\far j=false:=λj hj=>f j (by simp[hj])
  rw[ad2,ho] at h;have a1:E8 C all i=R2 C o.op:=by simp only[E8,ho]
  have run:∀{st:St X},j5 o (yielded all a.tmps)=true->SI C I Γ Φ st a.tmps w->VE C I Γ Φ st.hp w a.defers k r (∀j∈i::c,E8 C all j<=1) E->opK C Z O o st (λd=>Z9 C Z O all (c.filterMap (all[·]?)) d k)=some r->H7 (D2 ro) n C.P all D far (E8 C all) E (i::c) a w:=fun {st} m S F h=>by
   have a4:R2 C o.op<=1->∃V d,Z9 C Z O all (c.filterMap (all[·]?)) d k=some r/\YQ (D2 ro) n C.P all D (qK (R2 C o.op) (far i)) w o V a/\SI C I Γ Φ d (a.put o.dst V).tmps w/\Stp C Γ st.hp w Φ Γ d.hp w Φ:=λa0=>by
    rcases Tp C o.op with⟨T,hb⟩|⟨T,x⟩|⟨T,_⟩|T
    ·obtain⟨V,d,G,z,H,J⟩:=Am6 (a:=a) hb h S;refine⟨V,d,G,⟨λ_ _ _ _=>trivial,.inl ⟨m,λw' _=>?_⟩⟩,H,J.lift Φ⟩;unfold x4;rw[z w'];exact⟨rfl,rfl⟩
    ·rw[T];simp only[Lu,o5] at x;rcases x with x|x
     ·obtain⟨V,d,G,z,H,J⟩:=Ic (a:=a) x h S;refine⟨V,d,G,⟨λ_ _ _ _=>trivial,.inl ⟨m,λw' a3=>?_⟩⟩,H,J.lift Φ⟩;unfold x4;rw[z w' (a3.1 (by rw[M];rfl)).1.1];exact⟨rfl,rfl⟩
     ·obtain⟨V,d,G,z,H,J⟩:=TC (ro:=ro) (n:=n) (a:=a) A.hI A.hX x h S;exact⟨V,d,G,⟨λ_ _ _ _=>trivial,.inl ⟨m,λw' a3=>z w' (a3.1 (by rw[M];rfl))⟩⟩,H,J.lift Φ⟩
    all_goals omega
   simp only[H7];rw[a1];refine⟨λa0=>?_,λb2 w1 K=>?_⟩
   ·obtain⟨V,d,G,z,H,J⟩:=a4 a0;exact⟨o,V,ho,z,X6 A c u hyv G H λp Y w2 q t k1 k2 k3 k4 k5=>F p Y w2 q t k1 (J.trans k2) k3 (k4.trans (put_defers _ _ _)) λx=>k5 λj hj=>x j (by simp[hj])⟩
   ·obtain⟨S1,P⟩:=S.like A.hI K;unfold wpOpIn;simp only[ho,m,if_true];rcases Tp C o.op with⟨T,_⟩|⟨T,_⟩|⟨T,hx⟩|T
    ·omega
    ·omega
    ·exact Ao4 A hyv hx h S1 λd a' w' Γ' Φ' G z H J hl=>⟨λ_=>hl,λe=>(by rw[M] at e;cases e),X6 A c u (z.yv.trans hyv) G H λp Y w2 q t k1 k2 k3 k4 _=>F p Y w2 q t k1 (P.trans (z.trans k2)) k3 (k4.trans J) λx=>absurd (x i (by simp)) (by rw[a1];omega)⟩
    ·exact BN A hyv h S1 λd a' w' Γ' Φ' G z H J=>⟨λe=>by omega,λe=>(by rw[M] at e;cases e),X6 A c u (z.yv.trans hyv) G H λp Y w2 q t k1 k2 k3 k4 _=>F p Y w2 q t k1 (P.trans (z.trans k2)) k3 (k4.trans J) λx=>absurd (x i (by simp)) (by rw[a1];omega)⟩
  have skip:∀{st:St X},j5 o (yielded all a.tmps)=false->SI C I Γ Φ st a.tmps w->VE C I Γ Φ st.hp w a.defers k r (∀j∈i::c,E8 C all j<=1) E->Z9 C Z O all (c.filterMap (all[·]?)) { st with sl:=R3 o.dst (.tup []) st.sl } k=some r->H7 (D2 ro) n C.P all D far (E8 C all) E (i::c) a w:=fun {st} m S F h=>by
   simp only[H7];have go:∀{w1:World},H6 w w1->H7 (D2 ro) n C.P all D far (E8 C all) E c (a.put o.dst undef) w1:=fun {w1} K=>by
    obtain⟨S1,P⟩:=S.like A.hI K;exact X6 A c (st:={ st with sl:=R3 o.dst (.tup []) st.sl }) u hyv h (S1.put (o:=o) P5 (by simp[PV.nms,B3])) λp Y w2 q t k1 k2 k3 k4 k5=>F p Y w2 q t k1 (P.trans k2) k3 (k4.trans (put_defers _ _ _)) λx=>k5 λj hj=>x j (by simp[hj])
   refine⟨λa0=>⟨o,undef,ho,⟨λ_ _ _ _=>trivial,.inr ⟨m,rfl⟩⟩,go (H6.refl w)⟩,λb2 w1 K=>?_⟩;unfold wpOpIn;simp only[ho,m,v8,if_false];exact⟨λ_ _=>trivial,λ_=>H6.refl w1,λ_=>(H6.refl w1).x,go K⟩
  simp only[Z9] at h;split at h
  ·rename_i hg;exact run (by simp[j5,hg]) S F h
  ·rename_i j W hg;split at h
   ·rename_i g a5;have a9:∀b,a.tmps[g]? = some (.bool b)->yielded all a.tmps j=some b:=λb e=>by simp[yielded,a5,e]
    have a6:(∀b,a.tmps[g]?≠some (.bool b))->yielded all a.tmps j=none:=λb4=>by
     simp only[yielded,a5,aa8]
    have l:∀v,st.sl.getD g (.tup [])=v->∀V,a.tmps[g]? = some V->VP Γ (A0 st.hp) w v V:=λv hv V hV=>by
     have f:g<st.sl.length:=by rw[<-S.sr.size];exact(j8.1 hV).1
     obtain⟨U,e1,e2⟩:=S.sr.slot g f;grind
    split at h
    ·rename_i b hb;have f:g<st.sl.length:=o3 λb3=>by grind
     obtain⟨U,e1,e2⟩:=S.sr.slot g f;have hU:=(l _ hb U e1).inv_bool;subst hU;have y:yielded all a.tmps j=some b:=a9 b e1;have S':SI C I Γ Φ { st with sl:=st.sl.set g (.s (.bool b)) } a.tmps w:=⟨S.hr,S.sr.set g (l _ hb) (by simp[PV.nms]),S.g,S.inv,S.dis⟩
     have Q:(if (b==W)=true then opK C Z O o { st with sl:=st.sl.set g (.s (.bool b)) } (λd=>Z9 C Z O all (c.filterMap (all[·]?)) d k) else Z9 C Z O all (c.filterMap (all[·]?)) { st with sl:=R3 o.dst (.tup []) (st.sl.set g (.s (.bool b))) } k)=some r:=by
      cases b<;>exact h
     by_cases L:b=W
     ·rw[if_pos (by simpa using L)] at Q;exact run (by simp[j5,hg,y,L]) S' F Q
     ·rw[if_neg (by simpa using L)] at Q;exact skip (by simp[j5,hg,y,L]) S' F Q
    ·rename_i hb;have y:yielded all a.tmps j=none:=a6 λb b0=>by
      obtain⟨B,e,_⟩:=(l _ hb _ b0).inv_tup;cases e
     exact skip (by simp[j5,hg,y]) S F h
    grind
   ·cases h
def Au6:Op->Bool
 | .defer _=>false
 | _=>true
def Z0:Option (List Nat × List Nat)->Nat->Bool
 | none,_=>false
 | some f,i=>okN f.1 i
def XU(C:Cfg)(c:Option (List Nat × List Nat))(b:Array Oper):Bool:=
 w8 b&&(b.toList.all (λo=>Au6 o.op)&&(x9 (Lp C b.toList).length b.size&&((Lp C b.toList).all (λi=>o8 (i+1) b.size)&&AL .any b (Z0 c) (E8 C b) (Lp C b.toList) (ab2 b.size false))))
def OL(o:Oper):List Nat:=o.op.operands.toList.filterMap λx=>match x with | .tmp t=>some t|_=>none
def Cb(b:Array Oper)(f:Nat)(c:List Nat):Bool:=match b[f]? with
 | some e=>(match e.dst with|some _=>true|none=>false)&&c.all λi=>match b[i]? with
  | some o=>(match o.dst with|some d=>!(OL e).contains d&&!(e.dst==some d)|none=>true)
  | none=>false
 | none=>false
def NA(C:Cfg)(d:Option (List Nat × List Nat))(b:Array Oper)(c:Nat):Bool:=
 w8 b&&(b.toList.all (λo=>Au6 o.op)&&(x9 (Dj C b++(Cc C b c++c::Y4 C b c)).length b.size&&((Dj C b++(Cc C b c++c::Y4 C b c)).all (λi=>o8 (i+1) b.size) &&
  (Cb b c (Cc C b c)&&(x9 (E8 C b c) 2&&Sq .any b (Z0 d) (E8 C b) (Hq .any b (Z0 d) (E8 C b) c (Y4 C b c) (Cc C b c)) (Dj C b) (ab2 b.size false))))))
def MZ(C:Cfg)(id:Nat)(b:Array Oper):Bool:=match C.rowR id with
 | none=>XU C (C.farR id) b
 | some i=>o8 b.size i||NA C (C.farR id) b i
def M7(C:Cfg)(c:Bool):Code->Bool
 | .region id e d=>!d||MZ C id e
 | .seq a b=>M7 C c a&&M7 C c b
 | .cond _ a b=>M7 C c a&&M7 C c b
 | .block _ a=>M7 C c a
 | .loop a=>M7 C c a
 | .scope a=>M7 C c a
 | .rangeFunc _ _ a b=>M7 C c a&&M7 C c b
 | _=>true
def WD(C:Cfg)(c:Code):Bool:=M7 C true c
def DX(Γ:Ctx)(w:World)(c:Option (List Nat × List Nat)):Nat->Prop:=λg=>w.heap.size<=g\/∃f b,c=some f/\okN f.2 b=true/\Γ.nm b=some g
theorem Ix{P:Program}{t g o:Nat}{d:TypeDesc}{i:TypeInfo}{w l:World}{V:Value}(u:P.underlying t=some d)(F:P.info? t=some i)(k:0<i.size)(D:l.heap[g]? = w.heap[g]?)(B:∀j,j<i.size->∃U,w.cell? ⟨g,o+j,none⟩=some U)
  (h:(loadVar t ⟨g,o,none⟩).run P w = .ok V w):(loadVar t ⟨g,o,none⟩).run P l = .ok V l:=by
 let b:Nat->Value:=λj=>(w.cell? ⟨g,o+j,none⟩).getD undef
 have c:∀j,j<i.size->w.cell? ⟨g,o+j,none⟩=some (b j):=λj G=>by obtain⟨U,e⟩:=B j G;simp[b,e]
 have run:∀W:World,(∀j,W.cell? ⟨g,j,none⟩=w.cell? ⟨g,j,none⟩)->(loadVar t ⟨g,o,none⟩).run P W = .ok (if Bp d=true then .agg ((af8 i.size).map b).toArray else b 0) W:=λW q=>by
  by_cases m:Bp d=true
  ·have f:=run_loadCells_list (P:=P) W ⟨g,o,none⟩ ((af8 i.size).map b) (λj v x=>by
    rw[H3,q];simp only[u4,Option.map_eq_some_iff] at x;obtain⟨a,y,z⟩:=x;obtain⟨A,p⟩:=j4.1 y;simp at A p;subst p z;exact c j (by omega))
   simp only[p6,List.length_range] at f;simp[loadVar,Bc u,m,sizeOf,typeInfo,F,f]
  ·have n:=c 0 k;rw[Nat.add_zero] at n;simp only[Bool.not_eq_true] at m;simp[loadVar,Bc u,m,q,n]
 rw[run w λ_=>rfl] at h;rw[run l λj=>by simp only[ae8,D]];simp only[ab5,and_true] at h ⊢;exact h
section
variable {L : Ctx} {Y : List Blk} {W : World} {J : Nat -> Prop}
theorem SH{f:List Nat × List Nat}{b g:Nat}{cells:List PV}(l:HR L Y W)(q:Stp C L Y W J Γ st.hp w Φ)(d:An9 C (Y.getD b .dead)=true)(p:okN f.2 b=false)(j:Γ.nm b=some g):¬DX L W (some f) g:=by
 have h:b<Y.length:=o3 λk=>by
  rw[j0,List.getElem?_eq_none (by omega)] at d;cases d
 have i:Dg C (A0 Y b):=by
  rw[j0,a8 h,ae5] at d;unfold A0;rw[a8 h];cases m:Y[b] with
  | box c=>simp[Blk.shp,Dg]
  | arr v t u n=>rw[m] at d;exact d
  | _=>rw[m] at d;cases d
 have e:=(q.keep b h i).1;rw[e] at j;rintro(k|⟨f',b',rfl',hb',hg'⟩)
 ·have:=(l.lt b g j).2.1;omega
 ·cases rfl';have:=l.inj b b' g j hg';subst this;rw[p] at hb';cases hb'
theorem WM{f:List Nat × List Nat}{p:Bool}{t:Nat}{x:Operand}{V:Value}{w2:World}{k:St X->Option R}(G:o.op = .load t x)(l:Pj C f p Y st.hp st.sl o=true)(b4:p=true->∀g,Γ.St g->L.St g)(h:opK C Z O o st k=some r)(S:SI C I Γ Φ st a.tmps w)(hF:HR L Y W)(hs:Stp C L Y W J Γ st.hp w Φ)
  (hl:Fr (DX L W (some f)) w w2) (K:(execOp a.eval o).run C.P w = .ok (.value V) w):(execOp a.eval o).run C.P w2 = .ok (.value V) w2:=by
 unfold Pj at l;rw[G] at l;simp only at l;split at l
 ·rename_i b i off hx;simp only[a7,s7] at l;obtain⟨_,h1,h2,h3⟩:=l;have m:=(S.opnd x).1;rw[hx] at m;obtain⟨g,q,H,T,P,B⟩:∃g q,Γ.nm b=some g/\a.eval x = .pointer (some ⟨g,q,none⟩)/\(C.ti t).ok=true/\∀j,j<(C.ti t).ks.length->∃U,w.cell? ⟨g,q+j,none⟩=some U:=by
   rw[j0] at h2;cases Q:st.hp[b]? with
   | none=>rw[Q] at h2;cases h2
   | some y=>
    rw[Q] at h2;cases y with
    | box cells=>
     obtain⟨g,H,hc,_⟩:=S.hr.box (C:=C) Q;simp only[opK,G,hx,Iw,Q] at h;split at h
     ·rename_i a1;subst a1;obtain⟨u,_⟩:=B1 h;have a2:=BL u;refine⟨g,off,H,?_,by simp only[okP,a7] at u;exact u.1,λj hj=>?_⟩
      ·generalize a.eval x=A at m;cases m with
       | ptrA _ _ _ g' v e sz n h' c=>simp[A0,Q,Blk.shp] at h'
       | ptrB _ _ g' h' c=>rw[H] at c;cases c;rfl
      ·obtain⟨U,e,_⟩:=hc (off+j) (a2 j hj);exact⟨U,by simpa using e⟩
     ·cases h
    | arr v e sz F=>
     simp only[opK,G,hx,Iw,Q] at h;have a6:∀q,(¬(v=true/\F=[]))->q+(C.ti t).ks.length<=F.length*sz->(∀g,Γ.nm b=some g->a.eval x = .pointer (some ⟨g,q,none⟩))->(C.ti t).ok=true->∃g q,Γ.nm b=some g/\a.eval x = .pointer (some ⟨g,q,none⟩)/\(C.ti t).ok=true/\∀j,j<(C.ti t).ks.length->∃U,w.cell? ⟨g,q+j,none⟩=some U:=λq b3 hq T P=>by
      obtain⟨g,a5,H,hh,a4,_⟩:=S.hr.arr' Q b3;refine⟨g,q,H,T g H,P,λj hj=>?_⟩;have a2:q+j<a5.size:=by omega
      exact⟨a5[q+j],by simp[ae8,hh,a2]⟩
     have T:∀g,Γ.nm b=some g->a.eval x = .pointer (some ⟨g,i*sz+off,none⟩):=λg H=>by
      generalize a.eval x=A at m;cases m with
      | ptrA _ _ _ g' v' e' c0 n h' c=>
       obtain⟨rfl,rfl,rfl,rfl⟩:=H5 Q h';rw[H] at c;cases c;rfl
      | ptrB _ _ g' h' c=>simp[A0,Q,Blk.shp] at h'
     split at h
     ·rename_i b2;obtain⟨u,_⟩:=B1 h;simp only[a7,decide_eq_true_eq] at u;refine a6 _ (by rintro⟨_,rfl⟩;simp at u) ?_ T (by have:=u.2;simp only[okS,a7] at this;exact this.1.1);have:(i+1)*sz<=F.length*sz:=x3 sz u.1;rw[aa3,Nat.one_mul] at this;omega
     ·split at h
      ·rename_i a1;obtain⟨rfl,rfl⟩:=a1;obtain⟨u,_⟩:=B1 h;simp only[a7,decide_eq_true_eq] at u;have a0:(C.ti t).ok=true:=by have:=u.2;simp only[okS,a7] at this;exact this.1.1
       obtain⟨_,_,_,_,_,_,a4,_,D,_,_,M⟩:=V4 a0;refine a6 _ (by rintro⟨_,rfl⟩;have:=u.1;rw[List.length_nil,Nat.zero_mul] at this;omega) (by omega) T a0
      ·cases h
    | _=>cases h2
  have a3:=SH (f:=f) (cells:=[]) hF hs h1 h3 H;have hh:w2.heap[g]? = w.heap[g]?:=hl.1.1 g (S.hr.lt b g H).2.1 a3;simp only[execOp,G,T,ag6,af4,ac4,ac5,x5] at K ⊢;cases hv:(loadVar t ⟨g,q,none⟩).run C.P w with
  | halt e w'=>rw[hv] at K;simp at K
  | ok V' w'=>
   rw[hv] at K;simp only[ab5,ae3] at K;obtain⟨rfl,rfl⟩:=K;obtain⟨i,d,z,hi,hd,_,a4,_,D,_,_,M⟩:=V4 P;rw[Ix hd hi D hh (λj hj=>B j (by omega)) hv]
 ·rename_i F i off hx;simp only[a7] at l;have m:=(S.opnd x).1;rw[hx] at m;have b1:=m.inv_s;simp only[opK,G,hx,Iw] at h;obtain⟨u,_⟩:=B1 h;simp only[okS,a7,decide_eq_true_eq] at u;obtain⟨hi,⟨P,b2⟩,_⟩:=u;obtain⟨g,q,T,b0,B⟩:∃g q,a.eval x = .pointer (some ⟨g,q,none⟩)/\Γ.St g/\∀j,j<(C.ti t).ks.length->∃U,w.cell? ⟨g,q+j,none⟩=some U:=by
   generalize a.eval x=A at b1;cases b1 with
   | sp _ _ _ g b5 sz Vs H hl hc hv=>
    refine⟨g,_,rfl,H,λj hj=>⟨Vs i (off+j),?_⟩⟩;have M:(F.getD i []).length=(F[i]).length:=by rw[j0,a8 hi,ae5]
    have:=hc i hi (off+j) (by omega);rw[Nat.add_assoc];exact this
  have a9:=b4 l.2 g b0;have a3:¬DX L W (some f) g:=by
   rintro(b6|⟨f',b',_,_,c⟩)
   ·have:=hF.stlt g a9;omega
   ·exact(hF.lt b' g c).2.2 a9
  have hh:w2.heap[g]? = w.heap[g]?:=hl.1.1 g (S.hr.stlt g b0) a3;simp only[execOp,G,T,ag6,af4,ac4,ac5,x5] at K ⊢;cases hv:(loadVar t ⟨g,q,none⟩).run C.P w with
  | halt e w'=>rw[hv] at K;simp at K
  | ok V' w'=>
   rw[hv] at K;simp only[ab5,ae3] at K;obtain⟨rfl,rfl⟩:=K;obtain⟨i,d,z,hi,hd,_,a4,_,D,_,_,M⟩:=V4 P;rw[Ix hd hi D hh (λj hj=>B j (by omega)) hv]
 ·cases l
theorem SJ{f:List Nat × List Nat}{p:Bool}{t:Nat}{x y:Operand}{k:St X->Option R}(q:o.op = .store t x y)(d:Pj C f p Y st.hp st.sl o=true)(h:opK C Z O o st k=some r)(S:SI C I Γ Φ st a.tmps w)(hs:Stp C L Y W J Γ st.hp w Φ) :
  ∃w',(execOp a.eval o).run C.P w = .ok .skip w'/\Fr (DX L W (some f)) w w':=by
 unfold Pj at d;rw[q] at d;simp only at d;split at d
 ·rename_i b off hx;simp only[a7,o5] at d;obtain⟨_,B,D⟩:=d;obtain⟨cells,V⟩:∃cells,st.hp[b]? = some (.box cells):=by
   rw[j0] at B;cases he:st.hp[b]? with
   | none=>rw[he] at B;cases B
   | some y=>
    rw[he] at B;cases y with
    | box c=>exact⟨c,rfl⟩
    | _=>cases B
  obtain⟨g,b0,e,hg,hh,G,_,_⟩:=S.hr.box' V;have hA:a.eval x = .pointer (some ⟨g,off,none⟩):=by
   have T:=(S.opnd x).1;rw[hx] at T;generalize a.eval x=A at T;cases T with
   | ptrA _ _ _ K v e sz n h' m=>simp[A0,V,Blk.shp] at h'
   | ptrB _ _ K h' m=>rw[hg] at m;cases m;rfl
  simp only[opK,q,hx,Ka,V,if_true] at h;split at h
  ·rename_i hc;obtain⟨a6,i,H⟩:=hc;obtain⟨h4,_⟩:=B1 h;simp only[decide_eq_true_eq] at h4;obtain⟨i0,hi,a5,a9⟩:=F9 a6;have hv:=(S.opnd y).1;have a4:(opnd C st.sl y).cells≠[]:=by intro e;rw[e] at i;simp at i;omega
   have z:=hv.cells' a4;have F:(opnd C st.sl y).cells.length=(a.eval y).cells.toList.length:=by simpa using z.1.symm
   have a1:∀j (h:j<(opnd C st.sl y).cells.length),∃U,(a.eval y).cells.toList[j]? = some U/\VP Γ (A0 st.hp) w ((opnd C st.sl y).cells[j]) U:=λj hj=>by
    obtain⟨U,e,k⟩:=z.2 j hj;grind
   have M:=PQ F H a1;have Q:(a.eval y).cells.size=i0.size:=by rw[z.1,i,a5]
   obtain⟨w',r1,r2,r3,r4,r5,r6,r7,r8⟩:=G1 (P:=C.P) (o:=off) hh (vs:=(a.eval y).cells.toList) (by rw[<-F,i,G];exact h4) M;have l:=Ao hi Q r1;refine⟨w',?_,⟨λK m a3=>r3 K λe=>a3 ?_,by omega⟩,r5,r6,r7⟩
   ·simp only[execOp,q,hA];simp only[ac4] at l ⊢;cases hq:(Instr.storeAt t (.pointer (some ⟨g,off,none⟩)) (a.eval y)).run C.P w with
    | halt e w'=>rw[hq] at l;simp[x5] at l
    | ok u w2=>
     rw[hq] at l;simp only[x5,ac5,ab5,true_and] at l;rw[l];rfl
   ·subst e;rcases hs.own b _ hg with⟨b1,a0⟩|a2
    ·rcases D with D|D
     ·exact .inr ⟨f,b,rfl,D,a0⟩
     ·have:=Nk D;omega
    ·exact .inl a2
  ·cases h
 ·cases d
def unb:Blk->Blk | .box _=>.dead | .mp _=>.dead|b=>b
def nob(H:List Blk):List Blk:=H.map unb
theorem Ia(H:List Blk)(b:Nat):(nob H)[b]? = (H[b]?).map unb:=u4 ..
theorem SE(H:List Blk):∀v:PV,Ab (nob H) v=Ab H v
 | .fl b=>by simp only[Ab,Ia];cases H[b]? with|none=>rfl|some x=>cases x<;>rfl
 | .vw b i n=>by simp only[Ab,Ia];cases H[b]? with|none=>rfl|some x=>cases x<;>rfl
 | .s v=>by cases v<;>rfl
 | .nsl | .ptr _ _ _ | .fnr _ _ _ | .it _ | .yd | .agg _ | .tup _ | .bad=>rfl
theorem UJ(n:Nat)(H:List Blk):∀v:PV,V3 n (nob H) v=V3 n H v
 | .fl b=>by simp only[V3,Ia];cases H[b]? with|none=>rfl|some x=>cases x<;>rfl
 | .vw b i m=>by simp only[V3,Ia];cases H[b]? with|none=>rfl|some x=>cases x<;>rfl
 | .s v=>by cases v<;>rfl
 | .nsl | .ptr _ _ _ | .fnr _ _ _ | .it _ | .yd | .agg _ | .tup _ | .bad=>rfl
theorem LQ(H:List Blk)(v:PV):Gx (nob H) v=Gx H v:=by
 cases v with
 | s x=>cases x<;>rfl
 | _=>unfold Gx;exact SE H _
def Kj(H:List Blk)(b:Nat):Bool:=AY (H.getD b .dead)
theorem Sj{H:List Blk}{b:Nat}{v:Bool}{e d:Nat}{c:List (List SV)}(h:H[b]? = some (.arr v e d c)):Kj H b=false:=by simp[Kj,h,AY]
theorem UI{n:Nat}{H:List Blk}{v:PV}(h:V3 n H v=true):∀c∈v.nms,Kj H c=false:=by
 intro c d;cases v with
 | fl b=>
  obtain rfl:c=b:=by simpa[PV.nms] using d
  simp only[V3] at h;split at h
  ·rename_i e;exact Sj e
  ·cases h
 | vw b i m=>
  obtain rfl:c=b:=by simpa[PV.nms] using d
  simp only[V3] at h;split at h
  ·rename_i e;exact Sj e
  ·cases h
 | s x=>simp[PV.nms] at d
 | nsl=>simp[PV.nms] at d
 | _=>simp[V3] at h
theorem DM{H:List Blk}{t:Nat}{sl:List PV}{s x:PV}{k:PV->List PV->List Blk->Option R}(h:Ae C t sl s x H k=some r) :
  (∃u,Ae C t sl s x (nob H) (λ_ _ _=>some ())=some u)/\(∀c∈s.nms,Kj H c=false)/\∀c∈x.nms,Kj H c=false:=by
 unfold Ae at h ⊢;simp only[UJ,LQ,Ia];split at h
 ·split at h
  ·rename_i d;rw[if_pos d];simp only[a7] at d;have i:=UI d.2;split at h
   ·rename_i l p;split at h
    ·obtain⟨e,_⟩:=B1 h;exact⟨⟨(),by simp only[need,e];rfl⟩,by simp[PV.nms],i⟩
    ·split at h
     ·rename_i g;obtain⟨e,_⟩:=B1 h;exact⟨⟨(),by simp only[need,e,g,if_true];rfl⟩,by simp[PV.nms],i⟩
     ·cases h
    ·rename_i b;split at h
     ·rename_i v n q m j;split at h
      ·rename_i f;obtain⟨e,_⟩:=B1 h;refine⟨⟨(),by simp only[j,o6,unb,if_pos f,need,e];rfl⟩,λc f=>?_,i⟩;obtain rfl:c=b:=by simpa[PV.nms] using f
       exact Sj j
      ·cases h
     ·cases h
    ·cases h
   ·cases h
  ·cases h
 ·cases h
def TB(Γ:Ctx)(H:List Blk):Ctx:={ Γ with nm:=λb=>if Kj H b then none else Γ.nm b }
theorem Lj(Γ:Ctx)(H:List Blk)(w:World):P6 Γ (A0 H) w (TB Γ H) (A0 (nob H)) w (λb=>Kj H b=false):=
 ⟨λ_ _=>rfl,λ_ h=>h,λb d=>by simp only[TB];rw[d];rfl,λb d=>by
  simp only[A0,Ia];simp only[Kj,j0] at d;cases e:H[b]? with
  | none=>rfl
  | some x=>rw[e] at d;cases x with
   | box c=>cases d
   | mp c=>cases d
   | _=>rfl,λ_ _ _ _=>rfl,rfl⟩
theorem Al6{Γ:Ctx}{w:World}{H:List Blk}(i:HR Γ H w):HR (TB Γ H) (nob H) w:=by
 have d:∀b g,(TB Γ H).nm b=some g->Kj H b=false/\Γ.nm b=some g:=λb g h=>by
  simp only[TB] at h;split at h
  ·cases h
  ·rename_i l;exact⟨by simpa using l,h⟩
 refine⟨λb m g n p=>i.inj b m g (d b g n).2 (d m g p).2,λb g h=>by have:=i.lt b g (d b g h).2;exact⟨by simpa[nob] using this.1,this.2⟩,i.stlt,λb k c f=>?_,λb k=>?_⟩
 ·simp only[nob,b7] at f;cases j:H[b]'(by simpa[nob] using k)<;>rw[j] at f<;>simp[unb,Blk.nms] at f
 ·have e:b<H.length:=by simpa[nob] using k
  have:=i.blk b e;simp only[nob,b7];cases j:H[b] with
  | box c=>trivial
  | mp c=>trivial
  | _=>
   rw[j] at this;have l:Kj H b=false:=by simp[Kj,e,j,AY]
   exact this.mono (Lj Γ H w) ((Lj Γ H w).nm b l) (λ_ _=>rfl) (λc f=>by simp[Blk.nms] at f)
theorem KP{f:List Nat × List Nat}{c:Call}{k:St X->Option R}(l:o.op = .call c)(j:c.callee = .builtin .append)(M:∀b,b<Y.length->okN f.2 b=true\/Kj st.hp b=true)(h:opK C Z O o st k=some r)(S:SI C I Γ Φ st a.tmps w)(hF:HR L Y W)(U:Stp C L Y W J Γ st.hp w Φ) :
  ∃V w',(execOp a.eval o).run C.P w = .ok (.value V) w'/\Fr (DX L W (some f)) w w':=by
 have key:∀(H:List Nat) (args:List PV),c.argTypes.toList=H->c.args.toList.map (opnd C st.sl)=args->Y8 C .append H args st (λv p=>k { p with sl:=R3 o.dst v p.sl })=some r->
   ∃V w',(execOp a.eval o).run C.P w = .ok (.value V) w'/\Fr (DX L W (some f)) w w':=by
  intro H args F e h;unfold Y8 at h;dsimp only at h;split at h
  ·contradiction
  ·rename_i t u s x _;obtain⟨s0,x0,G,rfl,rfl⟩:=DN e;have n:c.argTypes=[t,u].toArray:=by rw[<-F]
   split at h
   ·rename_i hu;obtain⟨⟨u1,K⟩,n1,n2⟩:=DM h;obtain⟨v,a0,H',hk,hv⟩:=Iu (ty:=o.type) (tmps:=a.tmps) (Al6 S.hr) hu K ((S.opnd s0).1.mono (Lj Γ st.hp w) n1) ((S.opnd x0).1.mono (Lj Γ st.hp w) n2);obtain⟨V,w',Γ',m,d,_⟩:=hv;refine⟨V,w',?_,⟨⟨λg Q D=>d.frame g Q (λb y=>D ?_) (λx=>x),d.size⟩,d.os,d.tape,d.output⟩⟩
    ·obtain⟨cs,P⟩:=L0 (ρ:=a.eval) l j;rw[P,G,n];simp[builtin,m]
    ·have i:Kj st.hp b=false/\Γ.nm b=some g:=by
      simp only[TB] at y;split at y
      ·cases y
      ·rename_i T;exact⟨by simpa using T,y⟩
     rcases U.own b g i.2 with⟨z,A⟩|B
     ·refine .inr ⟨f,b,rfl,?_,A⟩;rcases M b z with q|q
      ·exact q
      ·rw[i.1] at q;cases q
     ·exact .inl B
   ·cases h
  all_goals contradiction
 simp only[opK,l,j] at h;exact key _ _ rfl rfl h
theorem Uf{ro:Option Nat}{n:Nat}{all:Array Oper}{E:Act->World->Prop}{f:List Nat × List Nat}(A:Ask C I Z O N)(hF:HR L Y W):∀(l:List Nat) {p:Bool} {Γ:Ctx} {Φ:Nat->Prop} {st:St X} {a:Act} {w:World} {k:St X->Option R},(∀i∈l,i<all.size)->Γ.yv=N->(p=true->∀g,Γ.St g->L.St g)->
  Lo C Z O all f Y p l st k=some r->SI C I Γ Φ st a.tmps w->Stp C L Y W J Γ st.hp w Φ->Nxt C I Γ Φ st.hp w a.defers k r E->H7 (D2 ro) n C.P all (DX L W (some f)) (Z0 (some f)) (E8 C all) E l a w
 | [],p,Γ,Φ,st,a,w,k,hlt,hyv,hst,h,S,hs,hN=>hN st a w Γ Φ h (Stp.refl S.hr) S rfl
 | i::l,p,Γ,Φ,st,a,w,k,hlt,hyv,hst,h,S,hs,hN=>by
  have a0:=hlt i (by simp);obtain⟨o,ho⟩:∃o,all[i]? = some o:=⟨all[i],y5 a0⟩
  simp only[Lo] at h;obtain⟨hc,h⟩:=B1 h;have next:VE C I Γ Φ st.hp w a.defers (λq=>Lo C Z O all f Y (p&&o8 (E8 C all i) 1) l q k) r (∀j∈[i],E8 C all j<=1) (H7 (D2 ro) n C.P all (DX L W (some f)) (Z0 (some f)) (E8 C all) E l):=λq a' w' Γ' z k1 k2 k3 k4 k5=>
   Uf A hF l (λj H=>hlt j (by simp[H])) (k2.yv.trans hyv) (λhp g hg=>by
    simp only[a7] at hp;exact hst hp.1 g (k5 (λj H=>by simp at H;subst H;exact w9 hp.2) g hg)) k1 k3 (hs.trans k2) λa4 a2 w2 Γ2 Φ2 q1 q2 q3 q4=>hN a4 a2 w2 Γ2 Φ2 q1 (k2.trans q2) q3 (q4.trans k4)
  cases G:Z0 (some f) i with
  | false=>
   have:=X6 (ro:=ro) (n:=n) (D:=DX L W (some f)) (far:=Z0 (some f)) A [i] (λj H=>by simp at H;subst H;exact⟨a0,G⟩) hyv h S next
   simp only[H7] at this ⊢;exact this
  | true=>
   have d:Pj C f p Y st.hp st.sl o=true:=by
    have e:okN f.1 i=true:=G;rw[ho] at hc;simpa[e] using hc
   have hg:o.guard=none:=by
    unfold Pj at d;split at d
    ·split at d
     ·simp only[a7,u3] at d;exact d.1
     ·simp only[a7,u3] at d;exact d.1
     ·cases d
    ·split at d
     ·simp only[a7,u3] at d;exact d.1
     ·cases d
    ·split at d
     ·simp only[a7,u3] at d;exact d.1
     ·cases d
    ·cases d
   have U:j5 o (yielded all a.tmps)=true:=by simp[j5,hg]
   have h:opK C Z O o st (λq=>Lo C Z O all f Y (p&&o8 (E8 C all i) 1) l q k)=some r:=by
    rw[ad2,ho] at h;simp only[List.filterMap_nil,Z9,hg] at h;exact h
   simp only[H7,G];have M:E8 C all i=R2 C o.op:=by simp only[E8,ho]
   rw[M];have F:(∃t x,o.op = .load t x)\/(∃t x y,o.op = .store t x y)\/∃c,o.op = .call c/\c.callee = .builtin .append/\∀b,b<Y.length->okN f.2 b=true\/Kj st.hp b=true:=by
    unfold Pj at d;split at d
    ·rename_i t x e;exact .inl ⟨t,x,e⟩
    ·rename_i t x y e;exact .inr (.inl ⟨t,x,y,e⟩)
    ·rename_i c e;split at d
     ·rename_i v;simp only[a7,c9,af6,o5] at d;exact .inr (.inr ⟨c,e,v,d.2⟩)
     ·cases d
    ·cases d
   rcases F with⟨t,x,m⟩|⟨t,x,y,m⟩|⟨c,m,v,hd⟩
   ·have K:R2 C o.op=1:=by rw[m];rfl
    rw[K];refine⟨λ_=>?_,λa1=>by omega⟩;obtain⟨V,q,h1,h2,h3,h4⟩:=Ic (a:=a) (show G0 C o.op=true by rw[m];rfl) h S;refine⟨o,V,ho,⟨λ_ _ _ _=>trivial,.inl ⟨U,λw' a3=>?_⟩⟩,next q (a.put o.dst V) w Γ Φ h1 (h4.lift Φ) h3 (put_defers _ _ _) (λ_ _ h=>h)⟩;unfold x4;rw[WM m d hst h S hF hs (a3.2 rfl) (h2 w (Ext.refl w))];exact⟨rfl,rfl⟩
   ·have K:R2 C o.op=3:=by rw[m];rfl
    rw[K];refine⟨λa1=>by omega,λ_ w1 T=>?_⟩;obtain⟨S1,u⟩:=S.like A.hI T;obtain⟨w2,hr,hx⟩:=SJ m d h S1 (hs.trans u);have P:=BN (ro:=ro) (n:=n) (Q:=QF) A hyv h S1 λq a' w' Γ' z q1 q2 q3 q4=>next q a' w' Γ' z q1 (u.trans q2) q3 q4 λhq=>absurd (hq i (by simp)) (by rw[M,K];omega)
    unfold wpOpIn;simp only[ho,U,if_true];unfold ac1 at P ⊢;refine⟨P.1,?_⟩;have B:=P.2;rw[u6 _ _ _ (λc e=>by rw[m] at e;cases e),hr] at B ⊢;simp only[u9] at B ⊢;exact⟨λe=>by omega,λ_=>hx,B⟩
   ·have K:R2 C o.op=3:=by rw[m];simp[R2,Lu,G0,Dz,EO,v]
    rw[K];refine⟨λa1=>by omega,λ_ w1 T=>?_⟩;obtain⟨S1,u⟩:=S.like A.hI T;obtain⟨V,w2,hr,hx⟩:=KP m v hd h S1 hF (hs.trans u);have P:=BN (ro:=ro) (n:=n) (Q:=QF) A hyv h S1 λq a' w' Γ' z q1 q2 q3 q4=>next q a' w' Γ' z q1 (u.trans q2) q3 q4 λhq=>absurd (hq i (by simp)) (by rw[M,K];omega)
    unfold wpOpIn;simp only[ho,U,if_true];unfold ac1 at P ⊢;refine⟨P.1,?_⟩;have B:=P.2;rw[u6 _ _ _ (λc e=>by rw[m] at e;cases e),hr] at B ⊢;simp only[u9] at B ⊢;exact⟨λe=>by omega,λ_=>hx,B⟩
theorem Bx{u:Option Nat}{n:Nat}{all:Array Oper}{E:Act->World->Prop}{e:Option (List Nat × List Nat)}(A:Ask C I Z O N)(m:HR L Y W)(b:List Nat){p:Bool}{Γ:Ctx}{Φ:Nat->Prop}{st:St X}{a:Act}{w:World}{k:St X->Option R}(c:∀i∈b,i<all.size)(d:Γ.yv=N)(j:p=true->∀g,Γ.St g->L.St g)
  (h:Dy C Z O all e Y p b st k=some r) (S:SI C I Γ Φ st a.tmps w) (t:Stp C L Y W J Γ st.hp w Φ) (l:Nxt C I Γ Φ st.hp w a.defers k r E):H7 (D2 u) n C.P all (DX L W e) (Z0 e) (E8 C all) E b a w:=by
 cases e with
 | none=>exact X6 A b (λi q=>⟨c i q,rfl⟩) d h S l.q
 | some f=>exact Uf A m b c d j h S t l
end
theorem TU{U:Option Nat}{n id:Nat}{b:Array Oper}{Q:Exit->Act->World->Prop}{k:St X->Option R}(A:Ask C I Z O N)(J:C.P.follows .mixedOrders=true){f:Option (List Nat × List Nat)}(d:XU C f b=true)(p:Γ.yv=N)(h:Dy C Z O b f st.hp true (Lp C b.toList) st k=some r)(S:SI C I Γ Φ st a.tmps w)
  (F:Nxt C I Γ Φ st.hp w a.defers k r (λg w'=>Q .normal g w')):(ac9 id b true).wpIn (D2 U) n C.P Q a w:=by
 simp only[XU,a7] at d;obtain⟨y,u,z,v,B⟩:=d;rw[c9] at u v;refine Mr (D:=DX Γ w f) (far:=Z0 f) (kind:=E8 C b) (ord:=Lp C b.toList) J y (λj o c K e=>?_) (λj H=>?_) (j7 z) B (Bx A S.hr _ (λi G=>Nk (v i G)) p (λ_ _ h=>h) h S (Stp.refl S.hr) λq g w' Γ' t L M P T w1 m=>?_)
 case refine_3=>
  obtain⟨x,l⟩:=P.like A.hI m;exact F q g w1 Γ' t L (M.trans l) x T
 ·have:=u o (by simpa using ac7 K);rw[e] at this;cases this
 ·simp only[E8,ac2 H];exact h9 _
def Bas(b:Nat->Prop)(c:World)(St:Nat->Prop)(w:World):Prop:=∀q,b q->St q/\w.heap[q]? = c.heap[q]?
def Trn.B(C:Cfg)(Sb:Nat->Prop)(wb:World)(V:Value)(x:Obj)(g:Nat):Trn->Prop
 | .row v=>∀(St:Nat->Prop) (w1:World),Bas Sb wb St w1->St g->w1.heap[g]? = some x->VS St w1 v V
 | .var e=>(C.ti e).ok=true/\(∀n el,C.sh e≠.array n el)/\V = .pointer (some ⟨g,0,none⟩)/\∃z:Value,x = .cells z.cells e/\∀(Γ:Ctx) sh w,CR Γ sh w ((C.ti e).ks.map M0) z.cells
def DD(C:Cfg)(b:Nat->Prop)(d:World)(o:Oper)(c:Operand->Value)(t:Trn):Prop:=∀w:World,∃V x,(execOp c o).run C.P w = .ok (.value V) (w.alloc x)/\t.B C b d V x w.heap.size
def YA(op:Op):Prop:=(∃t len b,op = .buildSlice t len b)\/∃e,op = .alloc e
theorem NV{k:Trn->Option R}(S:SI C I Γ Φ st a.tmps w)(h:NU C o st.sl k=some r):o.guard=none/\YA o.op/\∃t,k t=some r/\DD C Γ.St w o a.eval t:=by
 unfold NU at h;split at h
 ·rename_i e l c;refine⟨l,.inr ⟨_,c⟩,?_⟩;split at h
  ·cases h
  ·rename_i u;obtain⟨b,h⟩:=B1 h;refine⟨_,h,λw1=>?_⟩;obtain⟨z,T,A,_⟩:=Wi (Γ:=Γ) (ev:=a.eval) (w:=w1) b c;exact⟨_,_,T,b,u,rfl,z,rfl,A⟩
 ·rename_i t len parts l c;refine⟨l,.inl ⟨_,_,_,c⟩,?_⟩;split at h
  ·rename_i e u;split at h
   ·rename_i b;simp only[a7,decide_eq_true_eq] at b;obtain⟨⟨b,d⟩,a0⟩:=b;split at h
    ·rename_i out Y;split at h
     ·rename_i vs L;refine⟨_,h,?_⟩;obtain⟨hp,_⟩:=S.parts parts.toList;obtain⟨i,z,m,hz,y,H⟩:=Y6 (Γ:=Γ) (sh:=A0 st.hp) (w:=w) b;obtain⟨_,_,_,a1⟩:=F9 b;have K:0<(C.ti e).ks.length:=by rename_i T A;omega
      have W:=BD H (by simpa using K) len;rw[p6] at W;obtain⟨B,Q,G,e3⟩:=W9 (place':=λj=>some (j*i.size,i.size)) (λj off size n h0=>by rw[y];exact n) Y W hp;obtain⟨f1,f2⟩:=L9 (As:=B.toList) L (by simpa using G.1.symm) (λj n=>by
       obtain⟨U,e,k⟩:=G.2 j n;exact⟨U,by simpa using e,k⟩)
      have D:B.size=len*(C.ti e).ks.length:=by
       have q:∀{place:Nat->Option (Nat × Nat)} {F:List (Nat × PV)} {cells out:List PV},V7 place cells F=some out->out.length=cells.length:=by
        intro place F
        induction F with
        | nil=>intro cells out h;simp only[V7,b9] at h;rw[h]
        | cons p F ih=>
         intro cells out h;obtain⟨i,v⟩:=p;simp only[V7] at h;split at h
         ·split at h
          ·rw[ih h,B8]
          grind
         grind
       rw[G.1,q Y,Z2,p6]
      have f:vs.length=len*(C.ti e).ks.length:=by rw[f1,ad1,D]
      intro M;have hr:=R6 (P:=C.P) M len (parts.map λ(i,x)=>(i,a.eval x)) B (E7 u) m hz (by rw[y];exact d) (by rw[y] at Q ⊢;rw[s8];exact Q);refine⟨.slice (some ⟨M.heap.size,0,none⟩) len len,.cells B e,by simp only[execOp,c];simp[hr],λSt w1 V J hx=>?_⟩;refine .sl true _ M.heap.size 0 len len _ (λi j=>(B[i*(C.ti e).ks.length+j]?).getD undef) (by rw[M6]) (h9 _) (by simp only[maxLen];omega) (λ_=>rfl) J (λi m=>(S8 _ _ _ f i m).1) (λi m j n=>?_) (λi m j n=>?_)
      ·obtain⟨A,_⟩:=(S8 _ _ _ f i m).2 j n;have:i*(C.ti e).ks.length+j<B.size:=by rw[D,<-f];exact A
       simp[ae8,hx,this]
      ·obtain⟨A,e4⟩:=(S8 _ _ _ f i m).2 j n;obtain⟨U,e5,k5⟩:=f2 _ A;rw[e4];have e6:(B[i*(C.ti e).ks.length+j]?).getD undef=U:=by grind
       rw[e6];exact k5.mono (λg l=>(V g l).2) (λg l=>(V g l).1)
     grind
    grind
   ·cases h
  ·cases h
 ·cases h
theorem JG{d:Option Tmp}{a b:Act}(h:We d a b){c:Oper}(f:∀t,d=some t->t∉OL c):∀x∈c.op.operands,b.eval x=a.eval x:=by
 intro x g;cases x with
 | tmp t=>
  have:d≠some t:=λe=>f t e (List.mem_filterMap.2 ⟨.tmp t,by simpa using g,rfl⟩)
  have e:=h t this;simp only[Act.eval,j1,e]
 | _=>rfl
theorem Af8{q:Option Nat}{n:Nat}{all:Array Oper}{i:Nat}{d:Oper}{t:Trn}{g:Nat->Prop}{j:World}(p:all[i]? = some d)(m:d.guard=none)(f:YA d.op)(b:DD C g j d a.eval t){K:Act->World->Prop}
  (h:∀V x,t.B C g j V x w.heap.size->K (a.put d.dst V) (w.alloc x)):wpOpIn (D2 q) n C.P all QF i K a w:=by
 unfold wpOpIn;simp only[p];rw[if_pos (by simp[j5,m])];refine⟨λ_ _=>trivial,?_⟩;rw[u6 _ _ _ (λc e=>by rcases f with⟨_,_,_,h⟩|⟨_,h⟩<;>rw[h] at e<;>cases e)];obtain⟨V,x,k,l⟩:=b w;rw[k];exact h V x l
structure CY (C:Cfg) (Sb:Nat->Prop) (wb:World) (d:Option Tmp) (t:Trn) (g:Nat) (x:Obj) (Γ:Ctx) (Φ:Nat->Prop) (a:Act) (w:World):Prop where
 at':w.heap[g]? = some x
 st:¬ Γ.St g
 nm:∀b,Γ.nm b≠some g
 fo:¬ Φ g
 ex:∃V,t.B C Sb wb V x g
 val:∀V,(∃t,d=some t/\a.tmps[t]? = some V)->t.B C Sb wb V x g
 base:Bas Sb wb Γ.St w
theorem HL(S:SI C I Γ Φ st a.tmps w)(d:Option Tmp):SI C I Γ Φ { st with sl:=R3 d .bad st.sl } a.tmps w:=by
 cases d with
 | none=>exact S
 | some t=>exact⟨S.hr,S.sr.set t (λV _=>.bad V) (by simp[PV.nms]),S.g,S.inv,S.dis⟩
theorem RF(S:SI C I Γ Φ st a.tmps w){d:Option Tmp}{v:PV}(h:∀V,(∃t,d=some t/\a.tmps[t]? = some V)->VP Γ (A0 st.hp) w v V)(e:∀c∈v.nms,c<st.hp.length):SI C I Γ Φ { st with sl:=R3 d v st.sl } a.tmps w:=by
 cases d with
 | none=>exact S
 | some t=>exact⟨S.hr,S.sr.set t (λV b=>h V ⟨t,rfl,b⟩) e,S.g,S.inv,S.dis⟩
theorem CY.step{Γ':Ctx}{Φ':Nat->Prop}{H':List Blk}{a':Act}{w':World}{d4 d:Option Tmp}{t:Trn}{g:Nat}{x:Obj}{Sb:Nat->Prop}{wb:World}(h:CY C Sb wb d4 t g x Γ Φ a w)(hs:Stp C Γ st.hp w Φ Γ' H' w' Φ')(hst:∀q,Γ.St q->w'.heap[q]? = w.heap[q]?)(hag:We d a a')(hne:d4≠none->d≠d4):CY C Sb wb d4 t g x Γ' Φ' a' w':=by
 have hlt:g<w.heap.size:=(j8.1 h.at').1;refine⟨by rw[hs.frame g hlt h.nm h.fo];exact h.at',λe=>?_,λb e=>?_,λe=>?_,h.ex,?_,λq hq=>⟨hs.sub q (h.base q hq).1,(hst q (h.base q hq).1).trans (h.base q hq).2⟩⟩
 ·rcases hs.stnew g e with e|e
  ·exact h.st e
  ·omega
 ·rcases hs.own b g e with⟨_,e⟩|e
  ·exact h.nm b e
  ·omega
 ·rcases hs.foot g e with e|e
  ·exact h.fo e
  ·omega
 ·rintro V ⟨t,ht,hV⟩;have:d≠some t:=λe=>hne (by rw[ht];simp) (by rw[e,ht])
  rw[hag t this] at hV;exact h.val V ⟨t,ht,hV⟩
theorem Rz{H:List Blk}(x:Blk)(g:Nat):P6 Γ (A0 H) w (Γ.upd H.length g) (A0 (H++[x])) w (· < H.length):=
 ⟨λ_ _=>rfl,λ_ h=>h,λb c=>by simp only[Ctx.upd];rw[if_neg (by omega)],λb c=>I9 c,λ_ _ _ _=>rfl,rfl⟩
theorem Stp.adopt{Γ0:Ctx}{H0 H:List Blk}{w0:World}{Φ0:Nat->Prop}{g:Nat}(x:Blk)(hs:Stp C Γ0 H0 w0 Φ0 Γ H w Φ)(hg:w0.heap.size<=g):Stp C Γ0 H0 w0 Φ0 (Γ.upd H.length g) (H++[x]) w Φ:=by
 have hl:=hs.len;refine⟨hs.os,hs.tape,hs.output,hs.size,hs.sub,hs.stnew,λb g' h=>?_,hs.foot,hs.frame,hs.yv,by simp;omega,λb hb hf=>?_⟩
 ·simp only[Ctx.upd] at h;split at h
  ·grind
  ·exact hs.own b g' h
 ·obtain⟨p1,p2,p3⟩:=hs.keep b hb hf;exact⟨by simp only[Ctx.upd];rw[if_neg (by omega)];exact p1,by rw[I9 (by omega)];exact p2,p3⟩
theorem SI.adopt(S:SI C I Γ Φ st a.tmps w){x:Blk}{g:Nat}(hlt:g<w.heap.size)(h1:¬ Γ.St g)(h2:∀b,Γ.nm b≠some g)(h3:¬ Φ g)(hb:BR (Γ.upd st.hp.length g) (A0 (st.hp++[x])) w st.hp.length x)(hn:∀c∈x.nms,c<st.hp.length+1) :
  SI C I (Γ.upd st.hp.length g) Φ { st with hp:=st.hp++[x] } a.tmps w:=by
 have M:P6 Γ (A0 st.hp) w (Γ.upd st.hp.length g) (A0 (st.hp++[x])) w (· < st.hp.length):=Rz x g;refine⟨⟨λb b' g' k1 k2=>?_,λb g' h=>?_,S.hr.stlt,λb hb' c hc=>?_,λb hb'=>?_⟩,SR.grow M S.sr,S.g,S.inv,λb g' h=>?_⟩
 ·simp only[Ctx.upd] at k1 k2;split at k1<;>split at k2
  ·omega
  ·rw[<-k1] at k2;exact absurd k2 (h2 b')
  ·rw[<-k2] at k1;exact absurd k1 (h2 b)
  ·exact S.hr.inj b b' g' k1 k2
 ·simp only[Ctx.upd] at h;split at h
  ·simp only[b9] at h;subst h;exact⟨by simp;omega,hlt,h1⟩
  ·have:=S.hr.lt b g' h;exact⟨by simp;omega,this.2⟩
 ·rw[j2,ac8] at hb' ⊢;by_cases e:b=st.hp.length
  ·subst e;simp at hc;exact hn c hc
  ·have hb2:b<st.hp.length:=by omega
   rw[r9 hb2] at hc;have:=S.hr.nms b hb2 c hc;omega
 ·rw[j2,ac8] at hb';by_cases e:b=st.hp.length
  ·subst e;simpa using hb
  ·have hb2:b<st.hp.length:=by omega
   rw[r9 hb2];exact(S.hr.blk b hb2).mono M (M.nm b hb2) (λ_ _=>rfl) (λc hc=>S.hr.nms b hb2 c hc)
 ·simp only[Ctx.upd] at h;split at h
  ·simp only[b9] at h;subst h;exact h3
  ·exact S.dis b g' h
theorem OU{k:St X->Option R}{d:Option Tmp}{t:Trn}{g:Nat}{x:Obj}{Sb:Nat->Prop}{wb:World}(L:HI I)(S:SI C I Γ Φ st a.tmps w)(h:Ja C d t st k=some r)(f:CY C Sb wb d t g x Γ Φ a w) :
  ∃m Γ',k m=some r/\SI C I Γ' Φ m a.tmps w/\∀{u:Ctx} {J:List Blk} {H:World} {A:Nat->Prop},Stp C u J H A Γ st.hp w Φ->H.heap.size<=g->Stp C u J H A Γ' m.hp w Φ:=by
 have p:g<w.heap.size:=(j8.1 f.at').1;cases t with
 | row v=>
  have Q:=S.wideSt L (St':=λy=>Γ.St y\/y=g) (λ_ h=>.inl h) (λy i=>by rcases i with i|rfl;exact λe=>(L.foot _ _ _ _ S.inv y e).2 i;exact f.fo) (λb y M=>by
   rintro(i|rfl)
   ·exact(S.hr.lt b y M).2.2 i
   ·exact f.nm b M) (λy i=>by rcases i with i|rfl;exact S.hr.stlt y i;exact p)
  exact⟨_,_,h,RF Q (λV D=>.s _ _ (f.val V D _ _ (λq P=>⟨.inl (f.base q P).1,(f.base q P).2⟩) (.inr rfl) f.at')) (by simp[PV.nms]),λl F=>⟨l.os,l.tape,l.output,l.size,λy i=>.inl (l.sub y i),λy i=>by rcases i with i|rfl;exact l.stnew y i;exact .inr F,l.own,l.foot,l.frame,l.yv,l.len,l.keep⟩⟩
 | var e=>
  obtain⟨_,G,a0,_,z,rfl,hz⟩:=f.ex;simp only[Ja,Qf,G,if_true] at h;have n:=hz Γ (A0 st.hp) w;obtain⟨T,e1,e2,e3,e4,e5,e6,K⟩:=O8 (C:=C) (C.nilT e) ((C.ti e).ks.map M0) 0 st.hp z.cells.toList S.hr (by simpa using n.1.symm) (λj B=>by
   obtain⟨U,e,k⟩:=n.2 j B;exact⟨U,by simpa using e,k⟩) (by rw[Hm];simp)
  rw[e1] at h;have W:SI C I Γ Φ { st with hp:=st.hp++T } a.tmps w:=⟨e2,SR.grow e4 S.sr,S.g,S.inv,S.dis⟩
  have Y:=W.adopt (x:=.box (D6 (C.nilT e) ((C.ti e).ks.map M0) 0 st.hp).1) p f.st f.nm f.fo ⟨g,z.cells,e,by simp[Ctx.upd],f.at',by simpa using e5.symm,λj B=>by
   obtain⟨U,f1,f2⟩:=e6 j B;exact⟨U,by simpa using f1,f2.mono (Rz _ g) λc n=>K c (A9.2 ⟨j,B,n⟩)⟩⟩ (λc n=>by have:=K c n;simp only at this ⊢;omega)
  exact⟨_,_,h,RF Y (λV D=>by
   obtain⟨_,_,rfl,_⟩:=f.val V D;exact .ptrB _ 0 g D8 (by simp[Ctx.upd])) (by simp[PV.nms]),λl F=>Stp.adopt _ (l.trans (e3.lift Φ)) F⟩
theorem Wj{all:Array Oper}{e:Nat}{c:Oper}{i:Nat}{b:List Nat}(f:all[e]? = some c)(d:Cb all e (i::b)=true):∃o,all[i]? = some o/\(∀t,o.dst=some t->t∉OL c)/\(c.dst≠none->o.dst≠c.dst)/\Cb all e b=true:=by unfold Cb at d ⊢;grind
section
variable {W : Ctx} {Q : List Blk} {Y : World} {J : Nat -> Prop} {L : Option (List Nat × List Nat)}
theorem Uh{Sb:Nat->Prop}{wb:World}{ro:Option Nat}{n:Nat}{all:Array Oper}{E:Act->World->Prop}{i4:Nat}{q:Oper}{t:Trn}{post:List Nat}{u:Ctx}{P:List Blk}{H:World}{v:Nat->Prop}{ds:List Deferred}{g:Nat}{x:Obj}{k:St X->Option R}(A:Ask C I Z O N)(z:HR W Q Y)(ho:all[i4]? = some q)(b:∀i∈post,i<all.size)(V:H.heap.size<=g)(m:Y.heap.size<=g)(U:Nxt C I u v P H ds k r E):∀(d:List Nat) {Γ:Ctx} {Φ:Nat->Prop} {st:St X} {a:Act} {w:World},(∀i∈d,i<all.size)->Cb all i4 d=true->Γ.yv=N->
  Fx C Z O all L Q q.dst d st (λf=>Ja C q.dst t f λG=>Dy C Z O all L Q false post G k)=some r->SI C I Γ Φ st a.tmps w->CY C Sb wb q.dst t g x Γ Φ a w->Stp C u P H v Γ st.hp w Φ->Stp C W Q Y J Γ st.hp w Φ->a.defers=ds->H7 (D2 ro) n C.P all (DX W Y L) (Z0 L) (E8 C all) E (d++post) a w
 | [],Γ,Φ,st,a,w,hlt,hap,hyv,h,S,hah,hs,hsF,hd=>by
  simp only[Fx] at h;obtain⟨F,Γ',h',S',c⟩:=OU A.hI S h hah;have c:=@c;have T:=c hs V;have h2:=c hsF m;exact Bx A z post b (T.yv.trans (hs.yv.symm.trans hyv)) (λe=>by cases e) h' S' h2 λf a2 w2 K M q1 q2 q3 q4=>U f a2 w2 K M q1 (T.trans q2) q3 (q4.trans hd)
 | i::rest,Γ,Φ,st,a,w,hlt,hap,hyv,h,S,hah,hs,hsF,hd=>by
  obtain⟨o,hi,a0,D,l⟩:=Wj ho hap;simp only[Fx] at h;exact Pd (E:=H7 (D2 ro) n C.P all (DX W Y L) (Z0 L) (E8 C all) E (rest++post)) hi (Bx A z [i] (λj y=>hlt j (by simp at y;simp[y])) hyv (λe=>by cases e) h S hsF λF a' w' Γ' Φ' k1 p k3 k4 B=>
   Uh A z ho b V m U rest (λj y=>hlt j (by simp[y])) l (p.yv.trans hyv) k1 (HL k3 q.dst) (hah.step p (p.st S.hr λg h=>(A.hI.foot _ _ _ _ S.inv g h).2) B D) (hs.trans p) (hsF.trans p) (k4.trans hd))
theorem LY{Sb:Nat->Prop}{wb:World}{ro:Option Nat}{n:Nat}{all:Array Oper}{E:Act->World->Prop}{P:Nat}{p:Oper}{t:Trn}{post:List Nat}(A:Ask C I Z O N)(hF:HR W Q Y)(ho:all[P]? = some p)(hg:p.guard=none)(a0:YA p.op)(H:∀i∈post,i<all.size):∀(c:List Nat) {Γ:Ctx} {Φ:Nat->Prop} {st:St X} {a:Act} {w:World} {k:St X->Option R},(∀i∈c,i<all.size)->Cb all P c=true->Γ.yv=N->
  Fx C Z O all L Q p.dst c { st with sl:=R3 p.dst .bad st.sl } (λz=>Ja C p.dst t z λK=>Dy C Z O all L Q false post K k)=some r->SI C I Γ Φ st a.tmps w->Stp C W Q Y J Γ st.hp w Φ->Bas Sb wb Γ.St w->DD C Sb wb p a.eval t->Nxt C I Γ Φ st.hp w a.defers k r E->Ms (D2 ro) n C.P all (DX W Y L) (Z0 L) (E8 C all) E P post c a w:=by
 have early:∀(c:List Nat) {Γ:Ctx} {Φ:Nat->Prop} {st:St X} {a:Act} {w:World} {k:St X->Option R},(∀i∈c,i<all.size)->Cb all P c=true->Γ.yv=N->
   Fx C Z O all L Q p.dst c { st with sl:=R3 p.dst .bad st.sl } (λz=>Ja C p.dst t z λK=>Dy C Z O all L Q false post K k)=some r->SI C I Γ Φ st a.tmps w->Stp C W Q Y J Γ st.hp w Φ->Bas Sb wb Γ.St w->DD C Sb wb p a.eval t->Nxt C I Γ Φ st.hp w a.defers k r E->
   ∀w1,H6 w w1->wpOpIn (D2 ro) n C.P all QF P (λa' w'=>H6 w1 w'/\H7 (D2 ro) n C.P all (DX W Y L) (Z0 L) (E8 C all) E (c++post) a' w') a w1:=by
  intro c Γ Φ st a w k l u m h S f y d M w1 D;refine Af8 ho hg a0 d λV x hV=>⟨Jh w1 x,?_⟩
  obtain⟨T,a1⟩:=S.like A.hI D;obtain⟨S2,a3⟩:=T.like A.hI (Jh w1 x);refine Uh (a:=a.put p.dst V) A hF ho H D.1.2 (k9 f.size D.1.2) M c l u m h (S2.put (o:=p) (v:=.bad) (V:=V) (.bad V) (by simp[PV.nms])) ⟨C7 rfl,λe=>ab0 _ (T.hr.stlt _ e),λb e=>ab0 _ (T.hr.lt b _ e).2.1,λe=>ab0 _ (A.hI.foot _ _ _ _ T.inv _ e).1,⟨V,hV⟩,?_,λq F=>⟨(y q F).1,by rw[C8 (w':=w1.alloc x) (o:=x) rfl (T.hr.stlt q (y q F).1),D.1.1 q (S.hr.stlt q (y q F).1)];exact(y q F).2⟩⟩ (a1.trans a3) (f.trans (a1.trans a3)) (put_defers _ _ _);rintro V' ⟨t,ht,B⟩;have e:V'=V:=by
   rw[ht] at B;simp only[ag5] at B;have:=(j8.1 B).1;simp at this;simpa[this] using B.symm
  rw[e];exact hV
 intro c
 induction c with
 | nil=>
  intro Γ Φ st a w k l u m h S f y d M;exact early [] l u m h S f y d M
 | cons i G ih=>
  intro Γ Φ st a w k l u m h S f y d M;refine⟨?_,λ_=>early (i::G) l u m h S f y d M⟩;obtain⟨o,hi,a5,a6,U⟩:=Wj ho u;have S0:=HL S p.dst;simp only[Fx] at h;exact Pd (E:=Ms (D2 ro) n C.P all (DX W Y L) (Z0 L) (E8 C all) E P post G) hi (Bx A hF [i] (λj hj=>l j (by simp at hj;simp[hj])) m (λe=>by cases e) h S0 f λa9 a' w' Γ' Φ' k1 k2 k3 k4 a4=>
   ih (λj hj=>l j (by simp[hj])) U (k2.yv.trans m) k1 k3 (f.trans k2) (λq F=>⟨k2.sub q (y q F).1,(k2.st S.hr (λg h=>(A.hI.foot _ _ _ _ S.inv g h).2) q (y q F).1).trans (y q F).2⟩) (by
    have e:=execOp_congr (ρ:=a'.eval) (ρ':=a.eval) p (λcs b e=>by rcases a0 with⟨_,_,_,h⟩|⟨_,h⟩<;>rw[h] at e<;>cases e) (JG a4 a5);unfold DD at d ⊢;rw[e];exact d) λz a2 w2 Γ2 Φ2 q1 q2 q3 q4=>M z a2 w2 Γ2 Φ2 q1 (k2.trans q2) q3 (q4.trans k4))
end
theorem NB{M:Option Nat}{n id d:Nat}{b:Array Oper}{F:Oper}{Q:Exit->Act->World->Prop}{k:St X->Option R}(A:Ask C I Z O N)(hm:C.P.follows .mixedOrders=true){g:Option (List Nat × List Nat)}(z:NA C g b d=true)(D:Γ.yv=N)(G:b[d]? = some F)
  (h:(Dy C Z O b g st.hp true (Dj C b) st λl=>NU C F l.sl λt=>
    Fx C Z O b g st.hp F.dst (Cc C b d) { l with sl:=R3 F.dst .bad l.sl } λp=>Ja C F.dst t p λP=>
     Dy C Z O b g st.hp false (Y4 C b d) P k)=some r) (S:SI C I Γ Φ st a.tmps w)
  (hN:Nxt C I Γ Φ st.hp w a.defers k r (λa' w'=>Q .normal a' w')):(ac9 id b true).wpIn (D2 M) n C.P Q a w:=by
 simp only[NA,a7] at z;obtain⟨W,Y,h3,h4,h5,h6,h7⟩:=z;rw[c9] at Y h4;have y:∀(j:Nat) (o:Oper) c,b[j]? = some o->o.op≠.defer c:=λj o c G e=>by
  have:=Y o (by simpa using ac7 G);rw[e] at this;cases this
 have hk:∀j,b.size<=j->E8 C b j<=1:=λj f=>by
  simp only[E8,ac2 f];exact h9 _
 have m:∀j,j∈Dj C b\/j∈Cc C b d\/j∈Y4 C b d->j<b.size:=λj f=>Nk (h4 j (by
  rcases f with f|f|f<;>simp[f]))
 have hC:H7 (D2 M) n C.P b (DX Γ w g) (Z0 g) (E8 C b) (Ms (D2 M) n C.P b (DX Γ w g) (Z0 g) (E8 C b) (λa T=>∀w,H6 T w->Q .normal a w) d (Y4 C b d) (Cc C b d)) (Dj C b) a w:=
  Bx A S.hr _ (λi u=>m i (.inl u)) D (λ_ _ h=>h) h S (Stp.refl S.hr) λl a1 w1 Γ1 Φ1 k1 L k3 k4=>by
   obtain⟨hg,H,v,hv,B⟩:=NV k3 k1;exact LY A S.hr G hg H (λi u=>m i (.inr (.inr u))) _ (λi u=>m i (.inr (.inl u))) h5 (L.yv.trans D) hv k3 L (λq hq=>⟨hq,rfl⟩) B λp a2 w2 U V q1 q2 q3 q4 w3 K=>by
    obtain⟨S3,J⟩:=q3.like A.hI K;exact hN p a2 w3 U V q1 (L.trans (q2.trans J)) S3 (q4.trans k4)
 refine wpIn_region_any hm ?_;have x:=j7 h3;have e:b.size=(Y4 C b d).length+1+(Cc C b d).length+(Dj C b).length:=by
  rw[<-x];simp only[j2,ae1];omega
 rw[e];refine Fp (wr:=λj=>o8 3 (E8 C b j)) (Qn:=λa w=>Q .normal a w) (λ_ _ h=>h) _ _ _ _ (Hr (fin:=Hq .any b (Z0 g) (E8 C b) d (Y4 C b d) (Cc C b d)) W y hk
  (λlisted a T hf hd hM w hw=>VZ W y hk _ listed a T hf hd hM w hw) (Dj C b) (ab2 ((Y4 C b d).length+1+(Cc C b d).length+(Dj C b).length) false) a w (by rw[<-e];exact h7) (λj o G f=>?_) hC _ ⟨⟨λ_ _=>rfl,h9 _⟩,rfl,rfl,rfl⟩)
 simp only[j1,ab8] at f;split at f<;>cases f
theorem Af0{m:Option Nat}{n id:Nat}{c:Array Oper}{Q:Exit->Act->World->Prop}{k:St X->Option R}(A:Ask C I Z O N)(g:C.P.follows .mixedOrders=true)(b:MZ C id c=true)(d:Γ.yv=N)(h:MY C Z O id c true st k=some r)(S:SI C I Γ Φ st a.tmps w)
  (f:Nxt C I Γ Φ st.hp w a.defers k r (λl w'=>Q .normal l w')):(ac9 id c true).wpIn (D2 m) n C.P Q a w:=by
 unfold MY at h;unfold MZ at b;split at h
 ·rename_i e;rw[e] at b;exact TU A g b d h S f
 ·rename_i i e;rw[e] at b;split at h
  ·rename_i o _ j;refine NB A g ?_ d j h S f;rw[o5] at b;rcases b with b|b
   ·have:=(j8.1 j).1;have:=w9 b;omega
   ·exact b
  ·cases h
end
def Ctx.cut(Γ:Ctx)(L:Nat):Ctx:={ Γ with St:=λg=>Γ.St g\/∃b,L<=b/\Γ.nm b=some g,nm:=λb=>if b<L then Γ.nm b else none }
def mkD(D:Nat):Deferred:={ target:=.collected D,args:=#[] }
section
variable {σ R : Type} {r : R} {C : Cfg} {I : σ -> (Nat -> Prop) -> (Nat -> Prop) -> World -> Prop} {Γ Γ' : Ctx} {Φ Φ' : Nat -> Prop} {st : St σ} {a : Act} {w w' : World} {Y : C9} {L : Yh σ} {yv : Value} {o : Oper} {H H' : List Blk} {tmps : Array Value}
def Off(Γ:Ctx)(Φ:Nat->Prop)(w:World)(g:Nat):Prop:=g<w.heap.size/\¬ Γ.St g/\(∀b,Γ.nm b≠some g)/\¬ Φ g
theorem Off.step{g:Nat}(h:Off Γ Φ w g)(s:Stp C Γ H w Φ Γ' H' w' Φ'):Off Γ' Φ' w' g/\w'.heap[g]? = w.heap[g]?:=by
 obtain⟨h1,h2,h3,h4⟩:=h;refine⟨⟨j3 h1 s.size,λq=>?_,λb q=>?_,λq=>?_⟩,s.frame g h1 h3 h4⟩
 ·rcases s.stnew g q with q|q
  ·exact h2 q
  ·omega
 ·rcases s.own b g q with⟨_,q⟩|q
  ·exact h3 b q
  ·omega
 ·rcases s.foot g q with q|q
  ·exact h4 q
  ·omega
def Mk(n0:Nat)(Γ:Ctx)(Φ:Nat->Prop)(w:World)(ds:List Deferred):Prop:=n0<=w.heap.size/\∃b:List Nat,ds=b.map mkD/\b.Nodup/\∀D∈b,n0<=D/\Off Γ Φ w D/\w.heap[D]? = some (.deferred (some []))
theorem Mk.nil{n0:Nat}(h:n0<=w.heap.size):Mk n0 Γ Φ w []:=⟨h,[],rfl,af7,by simp⟩
theorem Mk.step{n0:Nat}{ds:List Deferred}(h:Mk n0 Γ Φ w ds)(s:Stp C Γ H w Φ Γ' H' w' Φ'):Mk n0 Γ' Φ' w' ds:=by obtain⟨h0,Ds,h1,h2,h3⟩:=h;refine⟨k9 h0 s.size,Ds,h1,h2,λD hD=>?_⟩;obtain⟨k1,k2,k3⟩:=h3 D hD;obtain⟨q1,q2⟩:=k2.step s;exact⟨k1,q1,q2.trans k3⟩
structure Ke (Γ:Ctx) (Φ:Nat->Prop) (w w':World):Prop where
 same:∀g,Γ.St g\/(∃b,Γ.nm b=some g)\/Φ g->w'.heap[g]? = w.heap[g]?
 size:w.heap.size<=w'.heap.size
 os:w'.os=w.os
 tape:w'.tape=w.tape
 output:w'.output=w.output
theorem Ke.mono(h:Ke Γ Φ w w'):P6 Γ (A0 H) w Γ (A0 H) w' (λ_=>True):=
 ⟨λg hg=>h.same g (.inl hg),λ_ h=>h,λ_ _=>rfl,λ_ _=>rfl,λb g _ hg=>C4 (h.same g (.inr (.inl ⟨b,hg⟩))),rfl⟩
theorem SI.offW(hI:HI I)(S:SI C I Γ Φ st tmps w)(h:Ke Γ Φ w w'):SI C I Γ Φ st tmps w':=by
 have hf:=hI.foot _ _ _ _ S.inv;refine⟨⟨S.hr.inj,λb g hb=>?_,λg hg=>j3 (S.hr.stlt g hg) h.size,S.hr.nms,λb hb=>(S.hr.blk b hb).mono h.mono rfl (λg hg=>h.same g (.inr (.inl ⟨b,hg⟩))) (λ_ _=>trivial)⟩,
  S.sr.mono h.mono (λc hc=>⟨trivial,S.sr.nms c hc⟩),S.g.mono (λg hg=>h.same g (.inl hg)) (λ_ h=>h),
  hI.mono _ _ _ _ _ _ S.inv (λ_ h=>h) (λg hg hp=>(hf g hp).2 hg) (λg hg=>j3 (S.hr.stlt g hg) h.size) (λg hg=>h.same g (hg.elim .inl (λq=>.inr (.inr q)))) h.size h.os h.tape h.output,S.dis⟩
 obtain⟨q1,q2,q3⟩:=S.hr.lt b g hb;exact⟨q1,j3 q2 h.size,q3⟩
structure Pg (C:Cfg) (Γ:Ctx) (H:List Blk) (w:World) (Φ:Nat->Prop) (Γ':Ctx) (H':List Blk) (w':World) (Φ':Nat->Prop):Prop where
 os:w'.os=w.os
 tape:w'.tape=w.tape
 output:w'.output=w.output
 size:w.heap.size<=w'.heap.size
 sub:∀g,Γ.St g->Γ'.St g
 own:∀b g,Γ'.nm b=some g->(b<H.length/\Γ.nm b=some g)\/w.heap.size<=g
 foot:∀g,Φ' g->Φ g\/w.heap.size<=g
 yv:Γ'.yv=Γ.yv
 len:H.length<=H'.length
 keep:∀b,b<H.length->Dg C (A0 H b)->Γ'.nm b=Γ.nm b/\A0 H' b=A0 H b/\∀g,Γ.nm b=some g->w'.shape? g=w.shape? g
theorem Stp.pg(h:Stp C Γ H w Φ Γ' H' w' Φ'):Pg C Γ H w Φ Γ' H' w' Φ':=⟨h.os,h.tape,h.output,h.size,h.sub,h.own,h.foot,h.yv,h.len,h.keep⟩
theorem Pg.trans{Γ'':Ctx}{H'':List Blk}{w'':World}{Φ'':Nat->Prop}(h:Pg C Γ H w Φ Γ' H' w' Φ')(k:Pg C Γ' H' w' Φ' Γ'' H'' w'' Φ''):Pg C Γ H w Φ Γ'' H'' w'' Φ'':=by
 have h1:=h.size;refine⟨k.os.trans h.os,k.tape.trans h.tape,k.output.trans h.output,k9 h.size k.size,λg hg=>k.sub g (h.sub g hg),λb g hb=>?_,λg hg=>?_,k.yv.trans h.yv,k9 h.len k.len,λb hb hf=>?_⟩
 ·rcases k.own b g hb with⟨_,q⟩|q
  ·exact h.own b g q
  ·exact .inr (by omega)
 ·rcases k.foot g hg with q|q
  ·exact h.foot g q
  ·exact .inr (by omega)
 ·obtain⟨k1,k2,k3⟩:=h.keep b hb hf;have h2:=h.len;obtain⟨m1,m2,m3⟩:=k.keep b (by omega) (by rw[k2];exact hf);exact⟨m1.trans k1,m2.trans k2,λg hg=>(m3 g (k1.trans hg)).trans (k3 g hg)⟩
theorem Pg.off(hH:HR Γ H w)(h:Ke Γ Φ w w'):Pg C Γ H w Φ Γ H w' Φ:=
 ⟨h.os,h.tape,h.output,h.size,λ_ h=>h,λb g hb=>.inl ⟨(hH.lt b g hb).1,hb⟩,λ_ h=>.inl h,rfl,h9 _,λb hb _=>⟨rfl,rfl,λg hg=>C4 (h.same g (.inr (.inl ⟨b,hg⟩)))⟩⟩
theorem Pg.wideSt{St':Nat->Prop}(hH:HR Γ H w)(hs:∀g,Γ.St g->St' g):Pg C Γ H w Φ { Γ with St:=St' } H w Φ:=
 ⟨rfl,rfl,rfl,h9 _,hs,λb g hb=>.inl ⟨(hH.lt b g hb).1,hb⟩,λ_ h=>.inl h,rfl,h9 _,λ_ _ _=>⟨rfl,rfl,λ_ _=>rfl⟩⟩
theorem Ke.put{l:Nat}{ob:Obj}(h:Off Γ Φ w l):Ke Γ Φ w (w.putObj l ob):=by
 refine⟨λg hg=>o7 ?_,by simp,rfl,rfl,rfl⟩;rintro rfl;rcases hg with q|⟨b,q⟩|q
 ·exact h.2.1 q
 ·exact h.2.2.1 b q
 ·exact h.2.2.2 q
theorem Off.put{g l:Nat}{ob:Obj}(h:Off Γ Φ w g):Off Γ Φ (w.putObj l ob) g:=⟨by simpa using h.1,h.2⟩
theorem Mk.put{n0 l:Nat}{ob:Obj}{rr:Loop}{ds:List Deferred}(h:Mk n0 Γ Φ w ds)(hl:w.heap[l]? = some (.loop rr)):Mk n0 Γ Φ (w.putObj l ob) ds:=by obtain⟨h0,Ds,h1,h2,h3⟩:=h;refine⟨by simpa using h0,Ds,h1,h2,λD hD=>?_⟩;obtain⟨k1,k2,k3⟩:=h3 D hD;refine⟨k1,k2.put,(o7 ?_).trans k3⟩;rintro rfl;rw[k3] at hl;cases hl
def Ro(b:Option Nat)(Γ:Ctx)(Φ:Nat->Prop)(w:World):Prop:=∀l,b=some l->Off Γ Φ w l/\∃c:Loop,w.heap[l]? = some (.loop c)
theorem Ro.none:Ro none Γ Φ w:=λ_ h=>by cases h
theorem Ro.step{ro:Option Nat}(h:Ro ro Γ Φ w)(s:Stp C Γ H w Φ Γ' H' w' Φ'):Ro ro Γ' Φ' w':=λl e=>by
 obtain⟨k1,rr,k2⟩:=h l e;obtain⟨q1,q2⟩:=k1.step s;exact⟨q1,rr,q2.trans k2⟩
def ZU(C:Cfg)(I:σ->(Nat->Prop)->(Nat->Prop)->World->Prop)(n0:Nat)(Γ:Ctx)(Φ:Nat->Prop)(H:List Blk)(w:World)(k:Out->St σ->Option R)(r:R)(Q:Exit->Act->World->Prop):Prop:=
 ∀o b c w' Γ' Φ',k o b=some r->Stp C Γ H w Φ Γ' b.hp w' Φ'->SI C I Γ' Φ' b c.tmps w'->Mk n0 Γ' Φ' w' c.defers->Q o.exit' c w'
def WP(C:Cfg)(I:σ->(Nat->Prop)->(Nat->Prop)->World->Prop)(Y:C9)(L:Yh σ)(yv:Value)(c:Code):Prop:=
 ∀{R:Type} {r:R} {b:Option Nat} {n n0:Nat} {Γ:Ctx} {Φ:Nat->Prop} {st:St σ} {a:Act} {w:World} {k:Out->St σ->Option R} {Q:Exit->Act->World->Prop},
  Γ.yv=yv->B2 C Y L c st k=some r->SI C I Γ Φ st a.tmps w->Mk n0 Γ Φ w a.defers->Ro b Γ Φ w->ZU C I n0 Γ Φ st.hp w k r Q->c.wpIn (D2 b) n C.P Q a w
def Dh(fn:FuncId)(tmps:Array Value)(d:Array Tmp)(c b:Code)(D:Nat)(s:LoopState)(p:Option Code):Loop:={ state:=s,pending:=p,fn:=fn,tmps:=tmps,params:=d,assign:=c,body:=b,defers:=D }
def jmp:Out->Code
 | .normal=>.skip
 | .exit id=>.exit id
 | .ret=>.ret
def Ag7:Option Out->LoopState
 | none=>.ready
 | some _=>.done
structure RIb (C:Cfg) (I:σ->(Nat->Prop)->(Nat->Prop)->World->Prop) (Γ0:Ctx) (H0:List Blk) (w0:World) (Φ0:Nat->Prop) (sl0:List PV) (tmps:Array Value) (l:Nat) (D:Option Nat) (rc:LoopState->Option Code->Loop) (x:List Blk × Option Out × σ) (St Φ:Nat->Prop) (w:World) (Γb:Ctx) (Φb:Nat->Prop):Prop where
 si:SI C I Γb Φb { sl:=sl0,hp:=x.1,s:=x.2.2 } tmps w
 pg:Pg C Γ0 H0 w0 Φ0 Γb x.1 w Φb
 st:∀g,Γb.St g->St g
 ph:∀g,Φ g↔Φb g\/(∃b,Γb.nm b=some g)\/g=l\/D=some g
 ft:∀g,Φ g->g<w.heap.size/\¬St g
 ol:Off Γb Φb w l
 od:∀d,D=some d->Off Γb Φb w d
 hl:w.heap[l]? = some (.loop (rc (Ag7 x.2.1) (x.2.1.map jmp)))
 hd:∀d,D=some d->w.heap[d]? = some (.deferred (some []))
def RI(C:Cfg)(I:σ->(Nat->Prop)->(Nat->Prop)->World->Prop)(c:Ctx)(g:List Blk)(i:World)(e:Nat->Prop)(b:List PV)(tmps:Array Value)(l:Nat)(D:Option Nat)(h:LoopState->Option Code->Loop):(List Blk × Option Out × σ)->(Nat->Prop)->(Nat->Prop)->World->Prop:=
 λx St Φ w=>∃d f,RIb C I c g i e b tmps l D h x St Φ w d f
theorem At0{m:Ctx}{p:List Blk}{G:World}{n:Nat->Prop}{k:List PV}{l:Nat}{D:Option Nat}{F:LoopState->Option Code->Loop}(t:HI I):HI (RI C I m p G n k tmps l D F):=by
 refine⟨λx St Φ w ⟨c,e,r⟩=>r.ft,λx St Φ w St' w' ⟨c,e,r⟩ z u v i j y A B=>?_⟩;have inΦ:∀{g},e g\/(∃b,c.nm b=some g)\/g=l\/D=some g->Φ g:=fun {g} h=>(r.ph g).2 h
 have O:Ke c e w w':=⟨λg f=>by
  rcases f with q|q|q
  ·exact i g (.inl (r.st g q))
  ·exact i g (.inr (inΦ (.inr (.inl q))))
  ·exact i g (.inr (inΦ (.inl q))),j,y,A,B⟩
 have up:∀{g},Off c e w g->Off c e w' g:=λh=>⟨j3 h.1 j,h.2⟩
 exact⟨c,e,r.si.offW t O,r.pg.trans (Pg.off r.si.hr O),λg f=>z g (r.st g f),r.ph,λg f=>⟨j3 (r.ft g f).1 j,λq=>u g q f⟩,up r.ol,λd h=>up (r.od d h),
  (i l (.inr (inΦ (.inr (.inr (.inl rfl)))))).trans r.hl,λd h=>(i d (.inr (inΦ (.inr (.inr (.inr h)))))).trans (r.hd d h)⟩
end
section
variable {Y R : Type} {r : R} {C : Cfg} {I : Y -> (Nat -> Prop) -> (Nat -> Prop) -> World -> Prop} {L Γ' : Ctx} {Z J : Nat -> Prop} {Q : St Y} {a : Act} {w w' : World} {O : C9} {U : Yh Y} {K : Value} {H H' : List Blk} {W : Array Value}
theorem Wm(x:Blk):(Ci x).nms=[]:=by
 cases x with
 | box cells=>
  simp only[Ci,Blk.nms];rw[p9];intro c b;obtain⟨j,e,b⟩:=A9.1 b;simp[PV.nms] at b
 | mp d=>
  simp only[Ci,Blk.nms];rw[p9];intro c b;obtain⟨j,e,b⟩:=A9.1 b;simp[PV.nms,Vu] at b
 | _=>rfl
theorem Wn(x:Blk):(Ci x).shp=x.shp:=by cases x<;>rfl
theorem VW{sh sh':Nat->Option Shp}{b B:Nat}{x:Blk}(h:BR L sh w b x)(f:Γ'.nm B=L.nm b)(t:∀g,L.St g->w'.heap[g]? = w.heap[g]?)(n:∀g,L.St g->Γ'.St g)(c:∀g,L.nm b=some g->w'.heap[g]? = w.heap[g]?):BR Γ' sh' w' B (Ci x):=by
 cases x with
 | arr v e X F=>
  rcases h with h|⟨N,g,o,d,l,m,A,M⟩
  ·exact .inl h
  ·refine .inr ⟨N,g,o,by rw[f];exact d,by rw[c g d];exact l,m,A,λi h j G=>?_⟩;obtain⟨V,y,D⟩:=M i h j G;exact⟨V,y,D.mono t n⟩
 | box cells=>
  obtain⟨g,o,e,d,l,m,A⟩:=h;refine⟨g,o,e,by rw[f];exact d,by rw[c g d];exact l,by simpa using m,λj h=>?_⟩;obtain⟨V,y,_⟩:=A j (by simpa using h);exact⟨V,y,by rw[b7];exact .bad V⟩
 | iter s p=>
  obtain⟨g,S,d,l,m⟩:=h;exact⟨g,S,by rw[f];exact d,by rw[c g d];exact l,m⟩
 | mp q=>
  obtain⟨g,z,u,d,l,m⟩:=h;exact⟨g,z,u,by rw[f];exact d,by rw[c g d];exact l,m.map λv _ V _=>.bad V⟩
 | ms a q=>
  obtain⟨g,z,u,d,l,m⟩:=h;refine⟨g,z,u,by rw[f];exact d,by rw[c g d];exact l,m.imp λv P V k=>?_⟩;obtain⟨e,T,rfl⟩:=Qs P;exact YO t n k
 | dead=>trivial
end
section
variable {J R : Type} {r : R} {C : Cfg} {I : J -> (Nat -> Prop) -> (Nat -> Prop) -> World -> Prop} {Y : Ctx} {W : Nat -> Prop} {Q : St J} {a : Act} {w : World} {K : C9} {O : Yh J} {Z : Value} {o : Oper} {H : List Blk}
theorem EG(d:HR Y H w){L:Nat}(e:L<=H.length):P6 Y (A0 H) w (Y.cut L) (A0 (H.take L)) w (· < L):=
 ⟨λ_ _=>rfl,λ_ h=>.inl h,λb c=>by simp only[Ctx.cut];rw[if_pos c],λb c=>by simp only[A0,u0];rw[if_pos c],λ_ _ _ _=>rfl,rfl⟩
theorem KC(d:HR Y H w){L:Nat}(v:L<=H.length)(j:Vp L (H.take L)=true):HR (Y.cut L) (H.take L) w:=by
 have f:=Xh j;have t:(H.take L).length=L:=by rw[ab9];omega
 have key:∀b g,(Y.cut L).nm b=some g->b<L/\Y.nm b=some g:=λb g h=>by
  simp only[Ctx.cut] at h;grind
 refine⟨λb k g n l=>d.inj b k g (key b g n).2 (key k g l).2,λb g h=>?_,λg i=>?_,λb p c q=>?_,λb p=>?_⟩
 ·obtain⟨n,l⟩:=key b g h;have:=d.lt b g l;refine⟨by omega,this.2.1,?_⟩;rintro(u|⟨k,u,h4⟩)
  ·grind
  ·have:=d.inj b k g l h4;omega
 ·rcases i with i|⟨b,_,i⟩
  ·exact d.stlt g i
  ·exact(d.lt b g i).2.1
 ·grind
 ·have m:b<L:=by omega
  have e:(H.take L)[b]=H[b]'(by omega):=List.getElem_take;rw[e];have M:=EG d v;exact(d.blk b (by omega)).mono M (M.nm b m) (λ_ _=>rfl) (λc q=>f _ (b8 p) c (by rw[e];exact q))
theorem CF(M:HR Y H w){L b:Nat}(S:¬b<L){v:PV}{V:Value}(y:v = .fl b\/∃i n,v = .vw b i n)(h:VP Y (A0 H) w v V):VP (Y.cut L) (A0 (H.take L)) w (v.snap H) V/\(v.snap H).nms=[]:=by
 rcases y with rfl|⟨i,n,rfl⟩
 ·cases h with
  | flv _ e p h=>
   obtain⟨x,j,t⟩:∃x,H[b]? = some x/\x.shp = .arr true e p 0:=by simpa[A0] using h
   cases x<;>simp[Blk.shp] at t
   rename_i k z q c;obtain⟨rfl,rfl,rfl,A⟩:=t;subst A;simp only[PV.snap,j];exact⟨.s _ _ (.nil _ _),rfl⟩
  | fl _ g v e p n cap h y u d B t=>
   obtain⟨x,j,f⟩:∃x,H[b]? = some x/\x.shp = .arr v e p n:=by simpa[A0] using h
   cases x<;>simp[Blk.shp] at f
   rename_i k z q c;obtain⟨rfl,rfl,rfl,rfl⟩:=f;have l:¬(k=true/\c=[]):=by rintro⟨F,G⟩;exact y F (by rw[G];rfl)
   have D:(k&&c.isEmpty)=false:=by cases k<;>simp_all
   simp only[PV.snap,j,D];have:=CE (i:=0) (n:=c.length) (a:=⟨g,0,none⟩) (cap:=cap) M j l u (by omega) (λ_=>by simp) d B (St':=(Y.cut L).St) (λ_ h=>aa2 h) (.inr ⟨b,by omega,u⟩);simp only[af5,ae2] at this;exact⟨.s _ _ this,rfl⟩
 ·cases h with
  | vwv _ e p _ h=>
   obtain⟨x,j,t⟩:∃x,H[b]? = some x/\x.shp = .arr true e p 0:=by simpa[A0] using h
   cases x<;>simp[Blk.shp] at t
   rename_i k z q c;obtain⟨rfl,rfl,rfl,A⟩:=t;subst A;simp only[PV.snap,j,ag2,ag3];exact⟨.s _ _ (.nil _ _),rfl⟩
  | vw _ _ _ g a cap v e p m h y u N P d B=>
   obtain⟨x,j,f⟩:∃x,H[b]? = some x/\x.shp = .arr v e p m:=by simpa[A0] using h
   cases x<;>simp[Blk.shp] at f
   rename_i k z q c;obtain⟨rfl,rfl,rfl,rfl⟩:=f;have l:¬(k=true/\c=[]):=by rintro⟨F,G⟩;exact y F (by rw[G];rfl)
   have D:(k&&c.isEmpty)=false:=by cases k<;>simp_all
   simp only[PV.snap,j,D];exact⟨.s _ _ (CE M j l u P N d B (λ_ h=>aa2 h) (.inr ⟨b,by omega,u⟩)),rfl⟩
theorem BC(f:HR Y H w){L:Nat}(g:L<=H.length){v:PV}{V:Value}(h:VP Y (A0 H) w v V):VP (Y.cut L) (A0 (H.take L)) w (v.low H L) V/\∀c∈(v.low H L).nms,c<L:=by
 have M:=EG f g;have d:(∀c∈v.nms,c<L)->VP (Y.cut L) (A0 (H.take L)) w v V:=λj=>h.mono M j
 unfold PV.low;split
 ·rename_i b;split
  ·rename_i e;exact⟨d (by simpa[PV.nms] using e),by simpa[PV.nms] using e⟩
  ·rename_i e;obtain⟨k,l⟩:=CF f e (.inl rfl) h;grind
 ·rename_i b i n;split
  ·rename_i e;exact⟨d (by simpa[PV.nms] using e),by simpa[PV.nms] using e⟩
  ·rename_i e;obtain⟨k,l⟩:=CF f e (.inr ⟨i,n,rfl⟩) h;grind
 ·exact⟨d (by simp[PV.nms]),by simp[PV.nms]⟩
 ·exact⟨d (by simp[PV.nms]),by simp[PV.nms]⟩
 ·exact⟨d (by simp[PV.nms]),by simp[PV.nms]⟩
 ·split
  ·rename_i e;exact⟨d (by simpa[PV.nms] using e),by simpa[PV.nms] using e⟩
  ·exact⟨.bad _,by simp[PV.nms]⟩
 ·split
  ·rename_i e;exact⟨d (by simpa[PV.nms] using e),by simpa[PV.nms] using e⟩
  ·exact⟨.bad _,by simp[PV.nms]⟩
 ·split
  ·grind
  ·exact⟨.bad _,by simp[PV.nms]⟩
def Sub(Y Γ':Ctx):Prop:=(∀g,Γ'.St g->Y.St g\/∃b,Y.nm b=some g)/\∀b g,Γ'.nm b=some g->Y.nm b=some g
theorem Mk.sub{n0:Nat}{Γ':Ctx}{ds:List Deferred}(h:Mk n0 Y W w ds)(s:Sub Y Γ'):Mk n0 Γ' W w ds:=by
 obtain⟨h0,Ds,h1,h2,h3⟩:=h;refine⟨h0,Ds,h1,h2,λD hD=>?_⟩;obtain⟨k1,k2,k3⟩:=h3 D hD;refine⟨k1,⟨k2.1,λq=>?_,λb q=>k2.2.2.1 b (s.2 b D q),k2.2.2.2⟩,k3⟩;rcases s.1 D q with q|⟨b,q⟩
 ·exact k2.2.1 q
 ·exact k2.2.2.1 b q
theorem Mo{v:List Blk}{p:Ctx}{F:World}{t:Nat->Prop}{L:Nat}(G:HI I)(S:SI C I Y W Q a.tmps w)(h:Stp C p v F t Y Q.hp w W)(y:v.length<=L)(x:L<=Q.hp.length):∃ Γ',SI C I Γ' W (P4 L Q) a.tmps w/\Stp C p v F t Γ' (P4 L Q).hp w W/\Sub Y Γ':=by
 unfold P4;split
 ·rename_i n;have m:(Q.hp.take L).length=L:=by rw[ab9];omega
  have N:=KC S.hr x n;have l:∀b g,(Y.cut L).nm b=some g->Y.nm b=some g:=λb g h=>by
   simp only[Ctx.cut] at h;all_goals grind
  have f:∀g,(Y.cut L).St g->Y.St g\/(F.heap.size<=g/\¬W g):=λg d=>by
   rcases d with d|⟨b,M,d⟩
   ·grind
   ·refine .inr ⟨?_,S.dis b g d⟩;rcases h.own b g d with⟨q,_⟩|q
    all_goals omega
  have A:=G.foot _ _ _ _ S.inv;refine⟨Y.cut L,⟨N,⟨by simpa using S.sr.size,λc u=>?_,λi T=>?_⟩,S.g.mono (λ_ _=>rfl) (λ_ h=>aa2 h),?_,λb g d=>S.dis b g (l b g d)⟩,
   ⟨h.os,h.tape,h.output,h.size,λg d=>aa2 (h.sub g d),λg d=>?_,λb g d=>h.own b g (l b g d),h.foot,h.frame,h.yv,by rw[m];exact y,λb M P=>?_⟩,λg d=>d.elim .inl (λ⟨b,_,q⟩=>.inr ⟨b,q⟩),l⟩
  ·obtain⟨j,V,u⟩:=A9.1 u;have D:j<Q.sl.length:=by simpa using V
   obtain⟨U,e,k⟩:=S.sr.slot j D;rw[b7] at u;have:=(BC S.hr x k).2 c u;grind
  ·have B:i<Q.sl.length:=by simpa using T
   obtain⟨U,e,k⟩:=S.sr.slot i B;exact⟨U,e,by rw[b7];exact(BC S.hr x k).1⟩
  ·refine G.mono _ _ _ _ _ _ S.inv (λ_ h=>aa2 h) (λg d hp=>?_) (λg d=>N.stlt g d) (λ_ _=>rfl) (h9 _) rfl rfl rfl;all_goals grind
  ·rcases f g d with q|q
   ·exact h.stnew g q
   omega
  ·obtain⟨X,k2,k3⟩:=h.keep b M P;have z:b<L:=by omega
   refine⟨by simp only[Ctx.cut];rw[if_pos z];exact X,?_,k3⟩;rw[<-k2];simp only[A0,u0];grind
 ·exact⟨Y,S,h,λ_ h=>.inl h,λ_ _ h=>h⟩
theorem ID{d:List Blk}{b:Ctx}{e:World}{c:Nat->Prop}(f:HI I)(S:SI C I Y W Q a.tmps w)(h:Stp C b d e c Y Q.hp w W):∃ Γ',SI C I Γ' W (P4 d.length Q) a.tmps w/\Stp C b d e c Γ' (P4 d.length Q).hp w W/\Sub Y Γ':=
 Mo f S h (h9 _) h.len
theorem Lh:∀(g:List Nat) (l:List PV),(Ah g l).length=l.length/\∀i (h:i<(Ah g l).length) (b:i<l.length),(Ah g l)[i]=l[i]\/(Ah g l)[i] = .bad
 | g,[]=>by
  have e:Ah g []=[]:=by unfold Ah;rfl
  grind
 | [],v::l=>by
  obtain⟨c,d⟩:=Lh [] l;refine⟨by simp[Ah,c],λi h b=>?_⟩;cases i with
  | zero=>exact .inr rfl
  | succ i=>
   have:=d i (by simpa[Ah] using h) (by simpa using b);simpa[Ah] using this
 | 0::g,v::l=>by
  obtain⟨c,d⟩:=Lh g l;refine⟨by simp[Ah,c],λi h b=>?_⟩;cases i with
  | zero=>exact .inl rfl
  | succ i=>
   have:=d i (by simpa[Ah] using h) (by simpa using b);simpa[Ah] using this
 | (n+1)::g,v::l=>by
  obtain⟨c,d⟩:=Lh (n::g) l;refine⟨by simp[Ah,c],λi h b=>?_⟩;cases i with
  | zero=>exact .inr rfl
  | succ i=>
   have:=d i (by simpa[Ah] using h) (by simpa using b);simpa[Ah] using this
theorem QO{sl:List PV}{b:Array Value}(g:List Nat)(h:SR Y H w sl b):SR Y H w (Ah g sl) b:=by
 obtain⟨l,m⟩:=Lh g sl;refine⟨by rw[l];exact h.size,λc d=>?_,λi n=>?_⟩
 ·obtain⟨j,p,d⟩:=A9.1 d;have k:j<sl.length:=by rw[<-l];exact p
  rcases m j p k with e|e
  ·rw[e] at d;exact h.nms c (A9.2 ⟨j,k,d⟩)
  ·rw[e] at d;simp[PV.nms] at d
 ·have f:i<sl.length:=by rw[<-l];exact n
  obtain⟨V,q,t⟩:=h.slot i f;refine⟨V,q,?_⟩;rcases m i n f with e|e
  ·grind
  ·rw[e];exact .bad V
theorem Ax(ds:Option (List Nat))(Q:St J):(Ev ds Q).hp=Q.hp:=by cases ds<;>rfl
theorem Aw(S:SI C I Y W Q a.tmps w)(ds:Option (List Nat)):SI C I Y W (Ev ds Q) a.tmps w:=by
 cases ds with
 | none=>exact S
 | some g=>exact⟨S.hr,QO g S.sr,S.g,S.inv,S.dis⟩
theorem Rb:∀(l:List Nat) (m:Nat),m<=OS l m
 | [],m=>h9 _
 | b::r,m=>by
  simp only[OS];cases h:o8 m b with
  | true=>exact k9 (Nat.le_succ_of_le (w9 h)) (Rb r (b+1))
  | false=>exact Rb r m
theorem RJ:∀(l:List Blk) (m:Nat),m<=UT l m
 | [],m=>h9 _
 | b::r,m=>k9 (Rb _ _) (RJ r _)
theorem Iv{d:List Blk}{b:Ctx}{f:World}{c:Nat->Prop}(i:HI I)(S:SI C I Y W Q a.tmps w)(h:Stp C b d f c Y Q.hp w W)(ds:Option (List Nat)){L:Nat}(j:d.length<=L):∃ Γ',SI C I Γ' W (Kx ds L Q) a.tmps w/\Stp C b d f c Γ' (Kx ds L Q).hp w W:=by
 cases ds with
 | none=>exact⟨Y,S,h⟩
 | some g=>
  have e:SI C I Y W ({ sl:=Ah g Q.sl,hp:=Q.hp,s:=Q.s }:St J) a.tmps w:=⟨S.hr,QO g S.sr,S.g,S.inv,S.dis⟩
  simp only[Kx,Av2,YR];cases k:o8 (UT Q.hp (OS (B3 (Ah g Q.sl)) L)+1) Q.hp.length with
  | false=>exact⟨Y,e,h⟩
  | true=>
   have:=w9 k;obtain⟨Γ',l,m,_⟩:=Mo (L:=UT Q.hp (OS (B3 (Ah g Q.sl)) L)) i e h (k9 j (k9 (Rb _ _) (RJ _ _))) (by show UT Q.hp _<=Q.hp.length;omega);grind
theorem YU{d:Array Value}(y:HI I)(S:SI C I Y W Q d w){L:Nat}(t:L<=Q.hp.length):∃ Γ',SI C I Γ' W (P4 L Q) d w/\(∀g,Y.St g->Γ'.St g)/\(∀g,Γ'.St g->Y.St g\/∃b,L<=b/\Y.nm b=some g)/\
  (∀b g,Γ'.nm b=some g->Y.nm b=some g)/\Γ'.yv=Y.yv/\(∀b,b<L->Γ'.nm b=Y.nm b/\A0 (P4 L Q).hp b=A0 Q.hp b)/\L<=(P4 L Q).hp.length:=by
 unfold P4;split
 ·rename_i n;have m:(Q.hp.take L).length=L:=by rw[ab9];omega
  have B:=KC S.hr t n;have p:∀b g,(Y.cut L).nm b=some g->Y.nm b=some g:=λb g h=>by
   simp only[Ctx.cut] at h;grind
  have f:=y.foot _ _ _ _ S.inv;refine⟨Y.cut L,⟨B,⟨by simpa using S.sr.size,λc u=>?_,λi D=>?_⟩,S.g.mono (λ_ _=>rfl) (λ_ h=>aa2 h),?_,λb g l=>S.dis b g (p b g l)⟩,
   λ_ h=>aa2 h,λ_ h=>h,p,rfl,λb z=>⟨by simp only[Ctx.cut];rw[if_pos z],?_⟩,by rw[m];exact h9 _⟩
  ·obtain⟨j,F,u⟩:=A9.1 u;have x:j<Q.sl.length:=by simpa using F
   obtain⟨U,e,k⟩:=S.sr.slot j x;rw[b7] at u;have:=(BC S.hr t k).2 c u;show c<(Q.hp.take L).length;omega
  ·have v:i<Q.sl.length:=by simpa using D
   obtain⟨U,e,k⟩:=S.sr.slot i v;exact⟨U,e,by rw[b7];exact(BC S.hr t k).1⟩
  ·refine y.mono _ _ _ _ _ _ S.inv (λ_ h=>aa2 h) (λg l A=>?_) (λg l=>B.stlt g l) (λ_ _=>rfl) (h9 _) rfl rfl rfl;rcases l with q|⟨b,_,q⟩
   ·exact(f g A).2 q
   ·exact S.dis b g q A
  ·simp only[A0,u0];rw[if_pos z]
 ·exact⟨Y,S,λ_ h=>h,λ_ h=>.inl h,λ_ _ h=>h,rfl,λ_ _=>⟨rfl,rfl⟩,t⟩
end
section
variable {K R : Type} {r : R} {C : Cfg} {I : K -> (Nat -> Prop) -> (Nat -> Prop) -> World -> Prop} {Γ Γ' : Ctx} {Z O : Nat -> Prop} {L : St K} {a : Act} {w w' : World} {J : C9} {Y : Yh K} {W : Value} {H H' : List Blk} {tmps : Array Value}
theorem YN{sh sh':Nat->Option Shp}{v:PV}{V:Value}(h:v.sv?.isSome=true)(b:VP Γ sh w v V)(c:∀g,Γ.St g->Γ'.St g):VP Γ' sh' w v V/\v.nms=[]:=by
 cases v<;>simp[PV.sv?] at h
 ·exact⟨.s _ _ (b.inv_s.mono (λ_ _=>rfl) c),rfl⟩
 ·rw[b.inv_nsl];exact⟨.nsl,rfl⟩
theorem CQ:∀{l:List PV} {c:List SV},Fm l=some c->∀v∈l,v.sv?.isSome=true
 | [],_,_,v,b=>by simp at b
 | x::l,c,h,v,b=>by
  simp only[Fm] at h;split at h
  ·rename_i p q d e;rcases u5.1 b with rfl|b
   ·rw[d];rfl
   ·exact CQ e v b
  ·cases h
theorem Yk{sh sh':Nat->Option Shp}(o:∀g,Γ.St g->Γ'.St g):∀{args:List PV},Dl args=true->∀v∈args,v.nms=[]/\∀V,VP Γ sh w v V->VP Γ' sh' w v V
 | [],_,v,f=>by simp at f
 | x::r,h,v,f=>by
  have key:(x.nms=[]/\∀V,VP Γ sh w x V->VP Γ' sh' w x V)/\Dl r=true:=by
   unfold Dl at h;split at h
   ·rename_i d;cases d
   ·rename_i d;cases d;exact⟨⟨rfl,λV n=>(YN (Γ:=Γ) (Γ':=Γ') rfl n o).1⟩,h⟩
   ·rename_i l t d;cases d;simp only[a7,s6] at h;obtain⟨⟨y,i⟩,h⟩:=h;refine⟨⟨?_,λV n=>?_⟩,h⟩
    ·simp only[PV.nms];rw[p9];intro c b;obtain⟨j,m,b⟩:=A9.1 b;have p:=CQ i _ (b8 m);generalize l[j]=u at p b;cases u<;>simp[PV.sv?] at p<;>simp[PV.nms] at b
    ·obtain⟨A,rfl,q,b⟩:=n.inv_agg;refine VP.mk_agg q λj m=>?_
     obtain⟨U,e,k⟩:=b j m;exact⟨U,e,(YN (CQ i _ (b8 m)) k o).1⟩
   ·cases h
  rcases u5.1 f with rfl|f
  ·exact key.1
  ·exact Yk o key.2 v f
theorem Mg:∀(c:List Nat) (b:List PV) (d:List Value) {sl:List PV} {tmps:Array Value},SR Γ H w sl tmps->b.length=d.length->(∀j (h:j<b.length),∃U,d[j]? = some U/\VP Γ (A0 H) w (b[j]) U)->(∀v∈b,v.nms=[])->
  SR Γ H w (Ec sl c b) ((c.zip d).foldl (λt (p:Nat × Value)=>t.setIfInBounds p.1 p.2) tmps)
 | [],b,d,sl,tmps,h,_,_,_=>by cases b<;>exact h
 | t::c,[],[],sl,tmps,h,_,_,_=>h
 | t::c,[],_::_,_,_,_,f,_,_=>by simp at f
 | t::c,_::_,[],_,_,_,f,_,_=>by simp at f
 | t::c,v::b,V::d,sl,tmps,h,f,g,i=>by
  have l:VP Γ (A0 H) w v V:=by
   obtain⟨U,e,k⟩:=g 0 (by simp);simp only[List.getElem?_cons_zero,b9] at e;subst e;exact k
  have m:=h.put (ds:=[]) ({ op:=.move (.const undef),dst:=some t,guard:=none,type:=0,after:=#[],pos:=default }:Oper) l (by rw[i v (by simp)];simp);have n:SR Γ H w (sl.set t v) (tmps.setIfInBounds t V):=m;exact Mg c b d n (by simpa using f) (λj o=>by
   obtain⟨U,e,k⟩:=g (j+1) (by simpa using o);exact⟨U,by simpa using e,by simpa using k⟩) (λv q=>i v (by simp[q]))
theorem WS(o:Out):((X7 o).map jmp).isNone=(X7 o).isNone:=by cases o<;>rfl
theorem At1{Γ0:Ctx}{H0:List Blk}{w0:World}{Φ0:Nat->Prop}{T:List PV}{l Dv fn:Nat}{D:Option Nat}{ps:Array Tmp}{aq body:Code}(hI:HI I)(d5:Γ0.yv=W)(e7:WP C I J Y W aq)(e8:WP C I J Y W body)
  (b1:∀c∈B3 T,c<H0.length/\Dg C (A0 H0 c)) :
  JF C.P (RI C I Γ0 H0 w0 Φ0 T tmps l D (Dh fn tmps ps aq body Dv)) (Di ps T (λL k=>B2 C J Y aq L k) (λL k=>B2 C J Y body L k)) (.func (.yield l) #[] #[]):=by
 intro args x b x' a3 f7 Γ Z w Vs ⟨Γb,V,r⟩ f4 hc;obtain⟨H,d9,s1⟩:=x;unfold Di at a3;cases d9 with
 | some o=>simp at a3
 | none=>
 dsimp only at a3;split at a3
 case isFalse=>cases a3
 rename_i f6;have d1:(do let d <-j9 (.func (.yield l) #[] #[]) Vs;invoke d.target d.args:Sem Next).run C.P w=(Instr.yield l Vs).run C.P w:=by simp[j9,invoke]
 have f8:Vs.size=(Dh fn tmps ps aq body Dv .ready none).params.size:=by rw[hc.1,f6];rfl
 have c6:=r.hd;have b0:w.heap[l]? = some (.loop (Dh fn tmps ps aq body Dv .ready none)):=r.hl;intro ro n o a next Q b5
 rw[d1,run_yield b0 f8,Oper.uponIn_round];refine⟨λh=>(by simp[D2,af3] at h),roundIn_of_wpIn trivial ?_⟩;have inΦ:∀{g},V g\/(∃b,Γb.nm b=some g)\/g=l\/D=some g->Z g:=fun {g} h=>(r.ph g).2 h
 have B:∀{g},Z g->¬ Γ.St g:=fun {g} h=>(r.ft g h).2
 let ΓB:Ctx:={ Γb with St:=Γ.St }
 have SB:SI C I ΓB V { sl:=T,hp:=H,s:=s1 } tmps w:=r.si.wideSt hI r.st (λg f hp=>B (inΦ (.inl hp)) f) (λb g f hs=>B (inΦ (.inr (.inl ⟨b,f⟩))) hs) f4;have a4:=Yk (Γ:=Γ) (Γ':=ΓB) (sh:=λ_=>none) (sh':=A0 H) (w:=w) (λ_ h=>h) f7;have e6:=Mg ps.toList args Vs.toList SB.sr (by rw[ad1];exact hc.1.symm) (λj hj=>by
  obtain⟨U,e,k⟩:=hc.2 j hj;exact⟨U,by simpa using e,(a4 _ (b8 hj)).2 U k⟩) (λv hv=>(a4 v hv).1)
 have b4:(ps.zip Vs).foldl (λtmps (t,a)=>tmps.setIfInBounds t a) tmps=(ps.toList.zip Vs.toList).foldl (λt (p:Nat × Value)=>t.setIfInBounds p.1 p.2) tmps:=by
  rw[<-Array.foldl_toList,Array.toList_zip]
 have SA:SI C I ΓB V { sl:=Ec T ps.toList args,hp:=H,s:=s1 } ((ps.zip Vs).foldl (λtmps (t,a)=>tmps.setIfInBounds t a) tmps) w:=⟨SB.hr,by rw[b4];exact e6,SB.g,SB.inv,SB.dis⟩
 have b2:ΓB.yv=W:=r.pg.yv.trans d5;have d8:Off ΓB V w l:=⟨r.ol.1,B (inΦ (.inr (.inr (.inl rfl)))),r.ol.2.2⟩
 have f9:∀d,D=some d->Off ΓB V w d:=λd h=>⟨(r.od d h).1,B (inΦ (.inr (.inr (.inr h)))),(r.od d h).2.2⟩
 have f1:=hI.foot _ _ _ _ SA.inv;refine e7 (n0:=0) (a:={ tmps:=(ps.zip Vs).foldl (λtmps (t,a)=>tmps.setIfInBounds t a) tmps,defers:=[] }) b2 a3 SA (Mk.nil (ae7 _)) (λl' e=>by cases e;exact⟨d8,_,b0⟩) ?_;intro o1 g0 a1 w1 Γ1 Φ1 h1 i S1 f5;cases o1 with
 | exit id=>cases h1
 | ret=>cases h1
 | normal=>
 dsimp only at h1;obtain⟨a6,e1⟩:=d8.step i;have d6:∀d,D=some d->Off Γ1 Φ1 w1 d/\w1.heap[d]? = w.heap[d]?:=λd h=>(f9 d h).step i
 have c8:w1.heap[l]? = some (.loop (Dh fn tmps ps aq body Dv .ready none)):=e1.trans b0;show ∃w₂,(Instr.beginRound l).run C.P w1 = .ok () w₂/\body.wpIn (D2 (some l)) (n-1) C.P (roundPost C.P l _) a1 w₂;refine⟨_,run_beginRound c8 rfl,?_⟩;have O1:Ke Γ1 Φ1 w1 (w1.putObj l (.loop { Dh fn tmps ps aq body Dv .ready none with state:=.busy })):=Ke.put a6;have S2:=S1.offW hI O1;refine e8 (i.yv.trans b2) h1 S2 (f5.put c8) (λl' e=>by cases e;exact⟨a6.put,_,aa6 a6.1⟩) ?_;intro o2 u a2 w3 G m h2 A S3 _;simp only[b9,ab1] at h2;obtain⟨rfl,rfl⟩:=h2;obtain⟨c0,e4⟩:=(Off.put (ob:=.loop { Dh fn tmps ps aq body Dv .ready none with state:=.busy }) (l:=l) a6).step A;have d7:∀d,D=some d->Off G m w3 d/\w3.heap[d]? = (w1.putObj l (.loop { Dh fn tmps ps aq body Dv .ready none with state:=.busy })).heap[d]?:=λd h=>(Off.put (ob:=.loop { Dh fn tmps ps aq body Dv .ready none with state:=.busy }) (l:=l) (d6 d h).1).step A
 have f2:w3.heap[l]? = some (.loop { Dh fn tmps ps aq body Dv .ready none with state:=.busy }):=e4.trans (aa6 a6.1);have X:=run_endRound (P:=C.P) ((X7 o2).map jmp) f2;have c2:∀d,D=some d->d≠l:=λd h e=>by
  have:=c6 d h;rw[e,b0] at this;cases this
 obtain⟨F,S⟩:∃F,w3.putObj l (.loop { { Dh fn tmps ps aq body Dv .ready none with state:=.busy } with state:=if ((X7 o2).map jmp).isNone then .ready else .done,pending:=(X7 o2).map jmp })=F:=⟨_,rfl⟩
 rw[S] at X;have O3:Ke G m w3 F:=by rw[<-S];exact Ke.put c0
 have c1:Off G m F l:=by rw[<-S];exact c0.put
 have b6:∀d,D=some d->Off G m F d:=λd h=>by rw[<-S];exact(d7 d h).1.put
 have S4:=S3.offW hI O3;have d0:H.length<=u.hp.length:=k9 i.len A.len;obtain⟨z,S5,t1,t2,t3,t4,t5,t6⟩:=YU hI S4 d0;have e5:(P4 H.length u).s=u.s:=by unfold P4;split<;>rfl
 have y:Pg C ΓB H w V G u.hp F m:=i.pg.trans ((Pg.off S1.hr O1).trans (A.pg.trans (Pg.off S3.hr O3)));have P1:Pg C Γ0 H0 w0 Φ0 G u.hp F m:=r.pg.trans ((Pg.wideSt r.si.hr r.st).trans y);have d2:=i.st SA.hr (λg f=>(f1 g f).2);have d3:=A.st S2.hr (λg f=>(hI.foot _ _ _ _ S2.inv g f).2);have d4:∀g,ΓB.St g->F.heap[g]? = w.heap[g]?:=λg f=>by
  have q1:=i.sub g f;have q2:=A.sub g q1;rw[O3.same g (.inl q2),d3 g q1,O1.same g (.inl q1),d2 g f]
 have a9:=r.pg.len;have N:∀c,c<H0.length/\Dg C (A0 H0 c)->z.nm c=ΓB.nm c/\A0 (P4 H.length u).hp c=A0 H c/\∀g,ΓB.nm c=some g->F.shape? g=w.shape? g:=λc ⟨c3,c4⟩=>by
  obtain⟨_,k2,_⟩:=r.pg.keep c c3 c4;have c5:c<H.length:=j3 c3 a9;obtain⟨m1,m2,m3⟩:=y.keep c c5 (by rw[k2];exact c4);obtain⟨n1,n2⟩:=t5 c c5;exact⟨n1.trans m1,n2.trans m2,m3⟩
 have M:P6 ΓB (A0 H) w z (A0 (P4 H.length u).hp) F (λc=>c<H0.length/\Dg C (A0 H0 c)):=
  ⟨d4,λg f=>t1 g (y.sub g f),λb hb=>(N b hb).1,λb hb=>(N b hb).2.1,λb g hb f=>(N b hb).2.2 g f,t4.trans y.yv⟩
 have SF:SI C I z m { sl:=T,hp:=(P4 H.length u).hp,s:=u.s } tmps F:=
  ⟨S5.hr,SB.sr.mono M (λc hc=>⟨b1 c hc,j3 (b1 c hc).1 (k9 a9 t6)⟩),S5.g,by have:=S5.inv;rw[e5] at this;exact this,S5.dis⟩
 have PF:Pg C Γ0 H0 w0 Φ0 z (P4 H.length u).hp F m:=⟨P1.os,P1.tape,P1.output,P1.size,λg f=>t1 g (P1.sub g f),λb g hb=>P1.own b g (t3 b g hb),P1.foot,t4.trans P1.yv,k9 a9 t6,λb hb hf=>by
  obtain⟨k1,k2,k3⟩:=P1.keep b hb hf;obtain⟨n1,n2⟩:=t5 b (j3 hb a9);exact⟨n1.trans k1,n2.trans k2,k3⟩⟩
 have a0:∀{g},Off G m F g->Off z m F g:=fun {g} h=>⟨h.1,λq=>by
  rcases t2 g q with q|⟨b,_,q⟩
  ·exact h.2.1 q
  ·exact h.2.2.1 b q,λb q=>h.2.2.1 b (t3 b g q),h.2.2.2⟩
 have f3:F.heap[l]? = some (.loop (Dh fn tmps ps aq body Dv (Ag7 (X7 o2)) ((X7 o2).map jmp))):=by
  rw[<-S,aa6 c0.1];cases o2<;>rfl
 have e9:∀d,D=some d->F.heap[d]? = some (.deferred (some [])):=λd h=>by
  rw[<-S,o7 (c2 d h),(d7 d h).2,o7 (c2 d h),(d6 d h).2];exact c6 d h
 have f0:=hI.foot _ _ _ _ SF.inv;have RB:RIb C I Γ0 H0 w0 Φ0 T tmps l D (Dh fn tmps ps aq body Dv) ((P4 H.length u).hp,X7 o2,u.s) z.St (λg=>m g\/(∃b,z.nm b=some g)\/g=l\/D=some g) F z m:=by
  refine⟨SF,PF,λ_ h=>h,λ_=>Iff.rfl,λg f=>?_,a0 c1,λd h=>a0 (b6 d h),f3,e9⟩;rcases f with q|⟨b,q⟩|rfl|q
  ·exact f0 g q
  ·have:=SF.hr.lt b g q;exact⟨this.2.1,this.2.2⟩
  ·exact⟨c1.1,(a0 c1).2.1⟩
  ·exact⟨(b6 g q).1,(a0 (b6 g q)).2.1⟩
 have a5:=i.size;have e2:∀{g},(w1.putObj l (.loop { Dh fn tmps ps aq body Dv .ready none with state:=.busy })).heap.size<=g->w.heap.size<=g:=fun {g} q=>k9 (k9 a5 O1.size) q
 have e3:∀{g},g<w.heap.size->g<(w1.putObj l (.loop { Dh fn tmps ps aq body Dv .ready none with state:=.busy })).heap.size:=fun {g} q=>j3 q (k9 a5 O1.size)
 have b3:next (a.put o.dst (.bool ((X7 o2).map jmp).isNone)) F:=by
  refine b5 _ _ ⟨by rw[WS],z.St,_,⟨z,m,RB⟩,λg f=>t1 g (y.sub g f),λg f=>?_,λg f=>?_,λg f hp=>?_,y.size,y.os,y.tape,y.output,SF.hr.stlt⟩
  ·have e0:G.St g->Γ.St g\/w.heap.size<=g:=λq=>by
    rcases A.stnew g q with q|q
    ·exact i.stnew g q
    ·exact .inr (e2 q)
   rcases t2 g f with q|⟨b,hb,q⟩
   ·exact e0 q
   ·rcases A.own b g q with⟨_,q⟩|q
    ·rcases i.own b g q with⟨q',_⟩|q
     ·simp only at q';omega
     ·exact .inr q
    ·exact .inr (e2 q)
  ·rcases f with q|⟨b,q⟩|rfl|q
   ·rcases y.foot g q with q|q
    ·exact .inl (inΦ (.inl q))
    ·exact .inr q
   ·rcases y.own b g (t3 b g q) with⟨_,q⟩|q
    ·exact .inl (inΦ (.inr (.inl ⟨b,q⟩)))
    ·exact .inr q
   ·exact .inl (inΦ (.inr (.inr (.inl rfl))))
   ·exact .inl (inΦ (.inr (.inr (.inr q))))
  ·have c7:g≠l:=λe=>hp (inΦ (.inr (.inr (.inl e))))
   have n1:∀b,ΓB.nm b≠some g:=λb q=>hp (inΦ (.inr (.inl ⟨b,q⟩)))
   have p1:¬V g:=λq=>hp (inΦ (.inl q))
   have n2:∀b,Γ1.nm b≠some g:=λb q=>by
    rcases i.own b g q with⟨_,q⟩|q
    ·exact n1 b q
    ·omega
   have p2:¬ Φ1 g:=λq=>by
    rcases i.foot g q with q|q
    ·exact p1 q
    ·omega
   rw[<-S,o7 c7,A.frame g (e3 f) n2 p2,o7 c7,i.frame g f n1 p1]
 cases o2 with
 | normal=>exact⟨_,_,X,b3⟩
 | exit id=>exact⟨_,_,X,b3⟩
 | ret=>exact⟨_,_,X,b3⟩
end
end
end Go.Proofs.YtigcfngmhpofjaaGreatDoor.E
