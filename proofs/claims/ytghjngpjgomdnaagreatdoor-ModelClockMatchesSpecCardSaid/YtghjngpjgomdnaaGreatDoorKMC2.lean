/-
  Parts of the proof, merged by a program of the prover's own; no condition.
-/
import Derived.Test.YtghjngpjgomdnaaGreatDoorKMC1
import Derived.Lib.SlBytesConst
import Derived.RangeFuncRecord
import Derived.Sort.QuietThIn
import Derived.TacticsIn
open Bool renaming and_eq_true->a7,or_eq_true->o8,not_eq_true'->u6,false_eq_true->w9,false_or->ag2
open List renaming getElem?_eq_getElem->a8,getElem_map->b8,getElem_mem->b9,all_eq_true->j0,getD_eq_getElem?_getD->j4,length_append->j5,getElem?_eq_some_iff->j8,length_map->o5,map_cons->p5,mem_append->p9,getElem_append_left->s5,getElem?_append_right->s9,getElem?_take->u0,getElem?_map->u7,eq_nil_iff_forall_not_mem->v7,length_eq_zero_iff->v8,isEmpty_iff->y5,mem_map->y7,getElem?_append_left->z7,getElem_append_right->aa0,mem_cons->aa1,append_nil->aa4,foldl_cons->aa5,mem_map_of_mem->ac0,map_nil->ac1,length_take->ac4,take_of_length_le->ac9,nil_append->ad2,length_singleton->ad4,filterMap_cons->ad8,length_pos_iff->ad9,map_map->ae2,any_eq_true->ae5,getElem_inj->ae6,length_cons->ae7,take_length->ae8,map_append->af3,mem_filter->af4,nodup_cons->af5,drop_zero->af8,mem_range->af9,nodup_nil->ag0,range->ag1,drop_nil->ag5,take_nil->ag6,length->ag9
open Option.some renaming injEq->c9,inj->ab9
open Array renaming getD_eq_getD_getElem?->j2,getElem?_eq_some_iff->k9,toList_map->r9,getElem?_eq_getElem->y9,getElem?_toList->ab2,replicate->ab6,getElem?_replicate->ac2,getElem?_eq_none->ac8,mem_of_getElem?->ad3,size_append->ae0
open Nat renaming le_refl->j3,eq_of_beq_eq_true->j7,lt_of_lt_of_le->o0,ble->p4,zero_add->s6,le_trans->s8,le_of_ble_eq_true->u4,mul_le_mul_right->x6,beq->y8,add_mul->aa8,lt_irrefl->ab5,add_sub_cancel_left->ac5
open Go.Region renaming wanted->j6,ready->j9,Mode->w8,noSelect->x5,binds->ab0
open Go.MapKept renaming run_checkKey->o3,run_getObj_map->p6,run_findKey->p7,run_setObj_map->x4,IsKey->aa2,bytes_beq->ae3
open Go.Deferred renaming ofValue->o6
open Decidable renaming byContradiction->o7
open Option renaming map_some->o9,isNone_iff_eq_none->u5,isSome_iff_exists->u9,bind_some->ab3,getD_some->af1
open Go.Oper renaming semAt_eq->s7,uponIn->w6,quietAtIn->x7,wpIn->ac6,quietUponIn->af0
open Go.Instr renaming lookup->x3,findNow->ab4,mapUpdate->ab8,alloc->af2,sureAddr->af7,extract->ag3,makeMap->ag4,loadAt->ag8
open Go.Result renaming andThen->x8
open Go.Act renaming put_comm->x9,put->af6
open Go.Builtin renaming delete_->aa3,zeroCells->aa9,append_->ab7
open Go.Result.ok renaming injEq->aa6
open Or renaming inl->aa7
open Go.World renaming shape?->ab1,putObj_heap_other->ac7,cell?->ad7
open Prod.mk renaming injEq->ac3
open Go.Sem renaming run_bind->ad0,run_pure->ad1
open Go.Code renaming region->ad5
open Prod renaming snd->ad6
open Go.CallsIn renaming mono->ae1
open Go.RoundIn renaming mono->ae4
open Go.Next.value renaming injEq->ae9
open Go.StepsIn renaming trans->ag7
open Go.RowsIn renaming mono->ah1
open Go.Fence renaming wide->ah2
namespace Go.Proofs.YtghjngpjgomdnaaGreatDoor.E
set_option linter.all false
section
open Go
section
variable {Γ : Ctx} {H : List Blk} {w : World} {R : Type} {r : R} {C : Cfg}
def Els(St:Nat->Prop)(w:World)(n:Nat)(a:List (List SV))(b:List Value):Prop:=
 b.length=a.length*n/\∀i (h:i<a.length),(a[i]).length=n/\∀j (c:j<(a[i]).length),∃U,b[i*n+j]? = some U/\VS St w (a[i][j]) U
theorem Hi.toEls{P:Program}{n:Nat}{X:Value}{news:List (List SV)}{Vs:List Value}(h:Hi P Γ w n X news Vs):Els Γ.St w n news Vs:=⟨h.size,h.els⟩
theorem Els.append{St:Nat->Prop}{n:Nat}{a b:List (List SV)}{A B:List Value}(ha:Els St w n a A)(hb:Els St w n b B):Els St w n (a++b) (A++B):=by
 refine⟨by rw[j5,j5,ha.1,hb.1,aa8],λi hi=>?_⟩;rw[j5] at hi;by_cases h:i<a.length
 ·have e:(a++b)[i]'(by rw[j5];exact hi)=a[i]:=s5 h;refine⟨by rw[e];exact(ha.2 i h).1,λj hj=>?_⟩;have hj':j<(a[i]).length:=by rw[<-e];exact hj
  obtain⟨U,e1,k⟩:=(ha.2 i h).2 j hj';grind
 ·have h':i-a.length<b.length:=by omega
  have e:(a++b)[i]'(by rw[j5];exact hi)=b[i-a.length]:=aa0 (by omega);refine⟨by rw[e];exact(hb.2 _ h').1,λj hj=>?_⟩;have hj':j<(b[i-a.length]).length:=by rw[<-e];exact hj
  obtain⟨U,e1,k⟩:=(hb.2 _ h').2 j hj';refine⟨U,?_,by simp only[e];exact k⟩;have hle:a.length*n<=i*n:=x6 _ (by omega);rw[s9 (by rw[ha.1];omega),ha.1,<-e1]
  congr 1
  rw[Nat.sub_mul];omega
theorem Els.mono{St St':Nat->Prop}{w':World}{n:Nat}{els:List (List SV)}{Vs:List Value}(h:Els St w n els Vs)(hs:∀g,St g->w'.heap[g]? = w.heap[g]?)(hsub:∀g,St g->St' g):Els St' w' n els Vs:=
 ⟨h.1,λi hi=>⟨(h.2 i hi).1,λj hj=>by obtain⟨U,e,k⟩:=(h.2 i hi).2 j hj;exact⟨U,e,k.mono hs hsub⟩⟩⟩
theorem BR.els{Γ':Ctx}{sh:Nat->Option Shp}{w':World}{b g e n:Nat}{v:Bool}{els:List (List SV)}{Vs:List Value}{cur:Array Value}(hg:Γ'.nm b=some g)(hh:w'.heap[g]? = some (.cells cur e (0,0)))(hE:Els Γ'.St w' n els Vs)(hne:¬(v=true/\els=[]))
  (hc:∀q,q<Vs.length->cur[q]? = Vs[q]?) (hl:Vs.length<=cur.size):BR Γ' sh w' b (.arr v e n els):=by
 refine .inr ⟨hne,g,cur,hg,hh,by rw[<-hE.1];exact hl,λi hi=>(hE.2 i hi).1,λi hi j hj=>?_⟩;obtain⟨U,e1,k⟩:=(hE.2 i hi).2 j hj;exact⟨U,by rw[hc _ (j8.1 e1).1];exact e1,k⟩
theorem Qx{n m bytes:Nat}(h:n+m<=68719476736)(a:bytes<=512):(n+m)*bytes<=140737488355328:=by have:(n+m)*bytes<=68719476736*512:=Nat.mul_le_mul h a;omega
theorem Dl{need cap e:Nat}(h:need<=68719476736):need<=grownCap w need cap e/\grownCap w need cap e<=maxLen:=
 ⟨grownCap_ge _ _ _ _,grownCap_le_maxLen _ _ _ _ (by simp only[maxLen];omega)⟩
theorem Qb{olds Vs:List Value}{z:Array Value}{k n m size:Nat}(d:z.size=size)(b:olds.length=n*size)(a:Vs.length=m*size)(e:n+m<=k) :
  (olds.toArray++Vs.toArray++aa9 z (k-(n+m))).size=k*size/\(∀q,q<(olds++Vs).length->(olds.toArray++Vs.toArray++aa9 z (k-(n+m)))[q]? = (olds++Vs)[q]?):=by
 refine⟨?_,λq c=>?_⟩
 ·simp only[ae0,List.size_toArray,size_zeroCells,d,b,a,<-aa8]
  congr 1;omega
 ·rw[Array.getElem?_append_left (by simpa using c)];simp
theorem Bo0{z:Bool}{d:Nat}{b:List (List SV)}{S:Value}(h:VS Γ.St w (.sl z true d b) S):∃A,S = .slice A b.length b.length/\(z=true->A=none/\b=[])/\(z=false->A≠none)/\∀i (h:i<b.length),(b[i]).length=d:=by
 cases h with
 | nil=>exact⟨none,rfl,λ_=>⟨rfl,rfl⟩,by simp,λi h=>by simp at h⟩
 | emp _ _ a cap f e=>
  simp_all
 | sl _ _ g off n cap q j o c e f l m k p=>
  simp_all
theorem Uo{t u ty e:Nat}{z:Bool}{els a:List (List SV)}{S X:Value}{A:Option Addr}{sl:List PV}{tmps:Array Value}(l:HR Γ H w)(U:C.P.underlying t=some (.slice e))(hu:Zx (C.sh u)=true)(J:(C.ti e).ok=true)
  (hS:S = .slice A els.length els.length) (D:SlV Γ w S els) (hz:z=true->A=none/\els=[]) (j:∀i (h:i<els.length),(els[i]).length=(C.ti e).ks.length) {B:List Value} (y:Hi C.P Γ w (C.ti e).ks.length X a B)
  (I:z=true\/a≠[]) (Q:els.length+a.length<=68719476736) :
  WV C Γ H w sl tmps (ab7 #[t,u] ty #[S,X]) (.fl H.length) sl (H++[.arr z e (C.ti e).ks.length (els++a)]):=by
 obtain⟨ud,q,v⟩:=My hu;obtain⟨ie,dd,Z,N,hd,L,p,F,O,a0,M,c⟩:=X9 J;subst hS;by_cases G:a=[]
 ·subst G;rcases I with h|h
  ·obtain⟨rfl,rfl⟩:=hz h;subst h;have b:=T2 (P:=C.P) (w:=w) (ty:=ty) (n:=0) (cap:=0) (base:=none) U q v N (by rw[c];exact y) (j3 _) (w':=w) rfl;exact⟨_,w,Γ,b,FS l,QN l rfl (.inl ⟨rfl,rfl⟩),SR.grow (Ng _ l),.flv _ e (C.ti e).ks.length (by rw[F3];rfl),by simp[PV.nms]⟩
  ·exact absurd rfl h
 ·have hm:0<a.length:=ad9.2 G;obtain⟨olds,x⟩:=Hi.slice (P:=C.P) D j;have K:olds.take (els.length*(C.ti e).ks.length)=olds:=ac9 (by rw[x.size];exact j3 _);have b:=Bh (P:=C.P) (w:=w) (ty:=ty) (olds:=olds) U q v N L (by rw[c];exact y) (λw' hw=>by have:=x.first els.length (j3 _) w' hw;rw[K] at this;rw[c];exact this) (by omega) (by simp only[maxLen];omega) (Qx Q F);obtain⟨f,m⟩:=Dl (w:=w) (need:=els.length+a.length) (cap:=els.length) (e:=e) Q;generalize grownCap w (els.length+a.length) els.length e=V at b f m;obtain⟨W,Y⟩:=Qb (z:=Z.cells) (by rw[<-p,c]) x.size y.size f;generalize T:olds.toArray++B.toArray++aa9 Z.cells (V-(els.length+a.length))=row at b W Y;have d:(w.drew.alloc (.cells row e)).heap=w.heap.push (.cells row e):=rfl;have hE:=(x.toEls.append y.toEls).mono (w':=w.drew.alloc (.cells row e)) (λg hg=>E1 d (l.stlt g hg)) (λ_ h=>h);have o:¬(z=true/\els++a=[]):=by rintro⟨_,h⟩;simp at h;exact G h.2
  have k:(olds++B).length<=row.size:=by grind
  refine Ah l b d rfl rfl rfl (BR.els (g:=w.heap.size) (cur:=row) (by simp[Ctx.upd]) (E0 d) hE o Y k) (by simp[Blk.nms]) ?_ (by simp[PV.nms]);refine .fl H.length w.heap.size z e (C.ti e).ks.length (els.length+a.length) V ?_ (λ_=>by omega) (by simp[Ctx.upd]) f m ?_
  ·rw[F3];simp[Blk.shp]
  ·simp only[ab1,E0 d,W]
theorem NK{t u ty e b A sz:Nat}{v:Bool}{a d:List (List SV)}{S X:Value}{sl:List PV}{B:Array Value}(D:HR Γ H w)(ht:C.P.underlying t=some (.slice e))(hu:Zx (C.sh u)=true)(c1:(C.ti e).ok=true)(hb:H[b]? = some (.arr v A sz a))(c0:Fw C A=false)
  (Q:(v=true/\a=[])\/(A=e/\sz=(C.ti e).ks.length)) (hS:VP Γ (A0 H) w (.fl b) S) {Vs:List Value} (T:Hi C.P Γ w (C.ti e).ks.length X d Vs) (hr:a.length+d.length<=68719476736) :
  WV C Γ H w sl B (ab7 #[t,u] ty #[S,X]) (.fl b) (Q4 b sl) ((H.map (Blk.kill b)).set b (.arr v e (C.ti e).ks.length (a++d))):=by
 obtain⟨ud,a4,a5⟩:=My hu;obtain⟨ie,dd,zv,V,hd,c5,b1,b4,c7,d2,c6,x⟩:=X9 c1;have f:=(j8.1 hb).1;have K:¬Ek C (A0 H b):=by
  simp only[A0,hb,o9,Blk.shp,Ek,c0];simp
 have d0:b<((H.map (Blk.kill b)).set b (.arr v e (C.ti e).ks.length (a++d))).length:=by simpa using f
 have grow:∀(base:Option Addr) (cap:Nat),S = .slice base a.length cap->cap<a.length+d.length->SlV Γ w S a->(∀i (h:i<a.length),(a[i]).length=(C.ti e).ks.length)->
   WV C Γ H w sl B (ab7 #[t,u] ty #[S,X]) (.fl b) (Q4 b sl) ((H.map (Blk.kill b)).set b (.arr v e (C.ti e).ks.length (a++d))):=by
  intro base cap b3 I Y l;subst b3;obtain⟨olds,W⟩:=Hi.slice (P:=C.P) Y l;have c2:olds.take (a.length*(C.ti e).ks.length)=olds:=ac9 (by rw[W.size];exact j3 _);have m:=Bh (P:=C.P) (w:=w) (ty:=ty) (olds:=olds) ht a4 a5 V c5 (by rw[x];exact T) (λw' hw=>by have:=W.first a.length (j3 _) w' hw;rw[c2] at this;rw[x];exact this) I (by simp only[maxLen];omega) (Qx hr b4);obtain⟨a0,b0⟩:=Dl (w:=w) (need:=a.length+d.length) (cap:=cap) (e:=e) hr;generalize grownCap w (a.length+d.length) cap e=kc at m a0 b0;obtain⟨r1,r2⟩:=Qb (z:=zv.cells) (by rw[<-b1,x]) W.size T.size a0;generalize c8:olds.toArray++Vs.toArray++aa9 zv.cells (kc-(a.length+d.length))=row at m r1 r2;have G:(w.drew.alloc (.cells row e)).heap=w.heap.push (.cells row e):=rfl;have N:∀g,Γ.St g->(w.drew.alloc (.cells row e)).heap[g]? = w.heap[g]?:=λg p=>E1 G (D.stlt g p)
  have hE:=(W.toEls.append T.toEls).mono (w':=w.drew.alloc (.cells row e)) N (λ_ h=>h);have b5:0<a.length+d.length:=by omega
  have J:¬(v=true/\a++d=[]):=by rintro⟨_,h⟩;have:=congrArg ag9 h;simp at this;simp[this] at b5
  have M:(olds++Vs).length<=row.size:=by grind
  have L:(Γ.re b (some w.heap.size)).nm b=some w.heap.size:=by simp[Ctx.re]
  obtain⟨s1,s2,s3⟩:=GK (C:=C) (y:=.arr v e (C.ti e).ks.length (a++d)) (ng:=some w.heap.size) (w':=w.drew.alloc (.cells row e)) D f K (λg p=>by
    simp only[c9] at p;subst p;refine⟨by rw[G];simp,λhs=>ab5 _ (D.stlt _ hs),λc _ Q=>ab5 _ (D.lt c _ Q).2.1⟩)
   (λg p=>by simp only[c9] at p;subst p;exact .inr (j3 _)) (λk O _=>E1 G O) (by rw[G];simp) rfl rfl rfl
   (BR.els (g:=w.heap.size) (cur:=row) L (E0 G) hE J r2 M) rfl
  refine⟨_,_,_,m,s1,s2,s3 sl B,?_,by simpa[PV.nms] using f⟩;refine .fl b w.heap.size v e (C.ti e).ks.length (a.length+d.length) kc ?_ (λ_=>by omega) L a0 b0 ?_
  ·rw[Nx f,if_pos rfl];simp[Blk.shp]
  ·simp only[ab1,E0 G,r1]
 cases hS with
 | flv _ e2 b2 h'=>
  obtain⟨rfl,_,_,h4⟩:=J2 hb h';obtain rfl:=v8.1 h4;by_cases hn:d=[]
  ·subst hn;have m:=T2 (P:=C.P) (w:=w) (ty:=ty) (n:=0) (cap:=0) (base:=none) ht a4 a5 V (by rw[x];exact T) (j3 _) (w':=w) rfl;obtain⟨s1,s2,s3⟩:=GK (C:=C) (y:=.arr true e (C.ti e).ks.length ([]++[])) (ng:=Γ.nm b) (w':=w) D f K (λg p=>⟨(D.lt b g p).2.1,(D.lt b g p).2.2,λc Q Z=>Q (D.inj c b g Z p)⟩)
    (λg p=>.inl p) (λ_ _ _=>rfl) (j3 _) rfl rfl rfl (.inl ⟨rfl,rfl⟩) rfl
   exact⟨_,_,_,m,s1,s2,s3 sl B,.flv b e (C.ti e).ks.length (by rw[Nx f,if_pos rfl];rfl),by simpa[PV.nms] using f⟩
  ·have hm:0<d.length:=ad9.2 hn;refine grow none 0 rfl (by simpa using hm) ⟨none,0,rfl,j3 _,Nat.zero_le _,λ_=>rfl,λh=>absurd rfl h⟩ (λi h=>by simp at h)
 | fl _ g v' e2 b2 n' cap h' hv p I hm hs=>
  have Y:=Ny (C:=C) D (VP.fl b g v' e2 b2 n' cap h' hv p I hm hs) (show Bd H (.fl b)=some a by simp only[Bd,hb]);obtain⟨rfl,rfl,rfl,rfl⟩:=J2 hb h';have a2:¬(v=true/\a=[]):=by rintro⟨q1,q2⟩;exact hv q1 (by rw[q2];rfl)
  rcases Q with Q|⟨rfl,rfl⟩
  ·exact absurd Q a2
  ·obtain⟨g',cur,a9,hh,M,l,a6⟩:=D.arr' hb a2;rw[p] at a9;cases a9;by_cases F:a.length+d.length<=cap
   ·have b6:cur.size=cap*(C.ti A).ks.length:=by
     have:=hs;simp only[ab1,hh,c9,ac3,true_and] at this;exact this
    have a1:a.length*(C.ti A).ks.length+Vs.length<=cur.size:=by
     rw[T.size,b6,<-aa8];exact x6 _ F
    obtain⟨w',r1,r2,r3,r4,r5,r6,r7,r8⟩:=I1 (P:=C.P) (o:=a.length*(C.ti A).ks.length) hh a1 T.one;have m:=T2 (P:=C.P) (w:=w) (ty:=ty) (n:=a.length) (cap:=cap) (base:=some ⟨g,0,none⟩) ht a4 a5 V (by rw[x];exact T) F (w':=w') (by simp only;rw[I9,x,s6];exact r1);have N:∀k,Γ.St k->w'.heap[k]? = w.heap[k]?:=λk O=>r3 k (λe=>(D.lt b g p).2.2 (e▸O))
    have W:Els Γ.St w (C.ti A).ks.length a (cur.toList.take (a.length*(C.ti A).ks.length)):=by
     refine⟨by simp;omega,λi V=>⟨l i V,λj hj=>?_⟩⟩;obtain⟨U,e1,k⟩:=a6 i V j hj;refine⟨U,?_,k⟩;have d1:j<(C.ti A).ks.length:=by rw[<-l i V];exact hj
     have:(i+1)*(C.ti A).ks.length<=a.length*(C.ti A).ks.length:=x6 _ V;rw[aa8] at this;rw[u0,if_pos (by omega)];simpa using e1
    have hE:=(W.append T.toEls).mono (w':=w') N (λ_ h=>h);have J:¬(v=true/\a++d=[]):=by rintro⟨h1,h⟩;simp at h;exact a2 ⟨h1,h.1⟩
    have L:(Γ.re b (some g)).nm b=some g:=by simp[Ctx.re]
    have a3:(cur.toList.take (a.length*(C.ti A).ks.length)).length=a.length*(C.ti A).ks.length:=W.1;obtain⟨s1,s2,s3⟩:=GK (C:=C) (y:=.arr v A (C.ti A).ks.length (a++d)) (ng:=some g) (w':=w') D f K (λk O=>by
      simp only[c9] at O;subst O;refine⟨by have:=(D.lt b g p).2.1;omega,(D.lt b g p).2.2,λc Q Z=>Q (D.inj c b g Z p)⟩)
     (λk O=>by simp only[c9] at O;subst O;exact .inl p) (λk O b7=>r3 k (λe=>b7 (e▸p))) (by omega) r5 r6 r7
     (BR.els L r2 hE J (λq hq=>by
      rw[j5,a3] at hq;simp only[List.getElem?_toArray];rw[J5 _ _ _ (by simpa using a1)];by_cases c3:q<a.length*(C.ti A).ks.length
      ·rw[if_neg (by omega),z7 (by omega),u0,if_pos c3]
      ·rw[if_pos (by omega),s9 (by omega),a3]) (by rw[j5,a3];simpa[C6] using a1)) rfl
    refine⟨_,_,_,m,s1,s2,s3 sl B,?_,by simpa[PV.nms] using f⟩;refine .fl b g v A (C.ti A).ks.length (a.length+d.length) cap ?_ (λc4=>?_) L F hm ?_
    ·rw[Nx f,if_pos rfl];simp[Blk.shp]
    ·have:=hv c4;omega
    ·rw[r8];exact hs
   ·exact grow _ cap rfl (by omega) Y l
theorem Ka{t u ty:Nat}{sl:List PV}{s x:PV}{S X:Value}{k:PV->List PV->List Blk->Option R}{tmps:Array Value}(j:HR Γ H w)(F:Zx (C.sh u)=true)(h:Bi C t sl s x H k=some r)(n:VP Γ (A0 H) w s S)(J:VP Γ (A0 H) w x X) :
  ∃v m H',k v m H'=some r/\WV C Γ H w sl tmps (ab7 #[t,u] ty #[S,X]) v m H':=by
 unfold Bi at h;split at h
 ·rename_i e B;have D:=G2 B;split at h
  ·rename_i a;simp only[a7] at a;obtain⟨a,l⟩:=a;split at h
   ·rename_i G f;obtain⟨L,p⟩:=BL (C:=C) j J l f;split at h
    ·obtain⟨c,g⟩:=B6 h;simp only[G1,decide_eq_true_eq] at c;obtain rfl:=n.inv_nsl;have:=Uo (C:=C) (t:=t) (u:=u) (ty:=ty) (z:=true) (els:=[]) (A:=none) (sl:=sl) (tmps:=tmps) j D F a rfl ⟨none,0,rfl,j3 _,Nat.zero_le _,λ_=>rfl,λh=>absurd rfl h⟩ (λ_=>⟨rfl,rfl⟩) (λi h=>by simp at h) p (.inl rfl) (by simpa using c);exact⟨_,_,_,g,this⟩
    ·rename_i z N els;split at h
     ·rename_i y;subst y;obtain⟨c,g⟩:=B6 h;simp only[G1,a7,o8,decide_eq_true_eq,u6,List.isEmpty_eq_false_iff] at c;obtain⟨A,rfl,K,_,d⟩:=Bo0 n.inv_s;have o:=Ny (C:=C) j n (show Bd H (.s (.sl z true (C.ti e).ks.length els))=some els from rfl);exact⟨_,_,_,g,Uo (C:=C) j D F a rfl o K d p c.1 c.2⟩
     ·cases h
    ·rename_i b;split at h
     ·rename_i v M O els I;split at h
      ·rename_i q;simp only[a7,u6,o8,decide_eq_true_eq,y5] at q;obtain⟨c,g⟩:=B6 h;simp only[G1,decide_eq_true_eq] at c;exact⟨_,_,_,g,NK (C:=C) j D F a I q.1 q.2.symm n p c⟩
      ·cases h
     ·cases h
    ·cases h
   ·cases h
  ·cases h
 ·cases h
end
section
variable {Γ : Ctx} {H : List Blk} {w : World} {R : Type} {r : R} {C : Cfg}
theorem Sr{sh:Nat->Option Shp}(s:ByteArray):∀(l:List (List UInt8 × PV)) (c:List MapEntry) (n:Nat),MR Γ sh w l c->
  (W8 l s.data.toList=false/\ab4 .string (.string s) c n=some none/\Dm l s.data.toList=l/\∀v V b,VP Γ sh w v V->MR Γ sh w (Ct l s.data.toList v) (c++[⟨.string s,V,b⟩]))\/
  (W8 l s.data.toList=true/\∃i E,ab4 .string (.string s) c n=some (some (n+i,E.val))/\c[i]? = some E/\E.key = .string s/\VP Γ sh w (V6 .bad l s.data.toList) E.val/\MR Γ sh w (Dm l s.data.toList) (c.eraseIdx i)/\
   ∀v V,VP Γ sh w v V->MR Γ sh w (Ct l s.data.toList v) (c.modify i λe=>{ e with key:=.string s,val:=V }))
 | [],[],n,_=>.inl ⟨rfl,rfl,rfl,λv V b j=>⟨⟨⟨s,rfl,rfl⟩,j⟩,trivial⟩⟩
 | e::l,E::c,n,h=>by
  obtain⟨⟨⟨f,m,d⟩,j⟩,x⟩:=h;have g:Instr.sameNow .string (.string s) E.key=some (s==f):=by rw[m];rfl
  have heq:(s==f)=(s.data.toList==e.1):=by
   rw[<-d,Bool.eq_iff_iff];simp only[ae3,beq_iff_eq];constructor
   ·rintro rfl;rfl
   ·intro h;have e:s.data=f.data:=Array.toList_inj.1 h;cases s;cases f;simp_all
  cases a:(s.data.toList==e.1) with
  | true=>
   rw[a] at heq;have A:e.1=s.data.toList:=(eq_of_beq a).symm;have y:s=f:=(ae3 s f).1 heq;subst y;refine .inr ⟨by simp only[W8,a,cond_true],0,E,by simp[ab4,g,heq],rfl,m,by simpa only[V6,a,cond_true] using j,by simpa only[Dm,a,cond_true,List.eraseIdx_zero,List.tail_cons] using x,λv V k=>?_⟩;simp only[Ct,a,cond_true];exact⟨⟨⟨s,rfl,A.symm⟩,k⟩,x⟩
  | false=>
   rw[a] at heq;rcases Sr s l c (n+1) x with⟨o,p,q,t⟩|⟨o,i,z,p,q,u,t,B,D⟩
   ·refine .inl ⟨by simp only[W8,a,cond_false,o],by simp[ab4,g,heq,p],by simp only[Dm,a,cond_false,q],λv V b k=>?_⟩;simp only[Ct,a,cond_false];exact⟨⟨⟨f,m,d⟩,j⟩,t v V b k⟩
   ·refine .inr ⟨by simp only[W8,a,cond_false,o],i+1,z,by simp[ab4,g,heq,p];omega,by simpa using q,u,by simpa only[V6,a,cond_false] using t,?_,λv V k=>?_⟩
    ·simp only[Dm,a,cond_false,List.eraseIdx_cons_succ];exact⟨⟨⟨f,m,d⟩,j⟩,B⟩
    ·simp only[Ct,a,cond_false,List.modify_succ_cons];exact⟨⟨⟨f,m,d⟩,j⟩,D v V k⟩
 | [],_::_,_,h=>h.elim
 | _::_,[],_,h=>h.elim
theorem AI:∀(l:List (List UInt8 × PV)) (q:List UInt8),∀c∈(V6 .bad l q).nms,c∈B9 (l.map ad6)
 | [],q,c,a=>by simp[V6,PV.nms] at a
 | e::l,q,c,a=>by
  simp only[V6] at a;simp only[p5,B9,p9];cases b:(q==e.1) with
  | true=>rw[b] at a;exact .inl a
  | false=>rw[b] at a;exact .inr (AI l q c a)
theorem AL(v:PV):∀(l:List (List UInt8 × PV)) (q:List UInt8),∀c∈B9 ((Ct l q v).map ad6),c∈B9 (l.map ad6)\/c∈v.nms
 | [],q,c,a=>by simp only[Ct,p5,ac1,B9,aa4] at a;exact .inr a
 | e::l,q,c,a=>by
  simp only[Ct] at a;cases b:(q==e.1) with
  | true=>
   rw[b] at a;simp only[cond_true,p5,B9,p9] at a ⊢;exact a.elim .inr (λh=>.inl (.inr h))
  | false=>
   rw[b] at a;simp only[cond_false,p5,B9,p9] at a ⊢;rcases a with h|h
   ·exact .inl (.inl h)
   ·exact(AL v l q c h).elim (λh=>.inl (.inr h)) .inr
theorem AG:∀(l:List (List UInt8 × PV)) (q:List UInt8),∀c∈B9 ((Dm l q).map ad6),c∈B9 (l.map ad6)
 | [],q,c,a=>a
 | e::l,q,c,a=>by
  simp only[Dm] at a;simp only[p5,B9,p9];cases b:(q==e.1) with
  | true=>rw[b] at a;exact .inr a
  | false=>
   rw[b] at a;simp only[cond_false,p5,B9,p9] at a;exact a.imp id (AG l q c)
theorem HR.mp'(hH:HR Γ H w){b:Nat}{ents:List (List UInt8 × PV)}{X:Value}(hb:H[b]? = some (.mp ents))(hx:VP Γ (A0 H) w (.it b) X) :
  ∃g es ck,Γ.nm b=some g/\X = .map (some g)/\w.heap[g]? = some (.map es ck)/\MR Γ (A0 H) w ents es.toList/\∀c∈B9 (ents.map ad6),c<H.length:=by
 obtain⟨g,hg,rfl⟩:=QI hb hx;obtain⟨hlt,hbe⟩:=j8.1 hb;have hB:=hH.blk b hlt;rw[hbe] at hB;obtain⟨g',es,ck,h1,h2,h3⟩:=hB;rw[hg] at h1;cases h1;exact⟨g,es,ck,hg,rfl,h2,h3,λc hc=>hH.nms b hlt c (by rw[hbe];exact hc)⟩
theorem Ie{t:Nat}{k:PV->List Blk->Option R}{sl:List PV}{tmps:Array Value}(b:HR Γ H w)(h:Fc C t H k=some r) :
  ∃v H',k v H'=some r/\WV C Γ H w sl tmps (ag4 t none) v sl H'/\∃V o,(ag4 t none).run C.P w = .ok V (w.alloc o):=by
 unfold Fc at h;split at h
 ·rename_i d e _;split at h
  ·have a:(w.alloc (.map #[] 0)).heap=w.heap.push (.map #[] 0):=rfl;cases c:(C.ti e).ks.all CK.scal with
   | true=>
    rw[c] at h;refine⟨_,_,h,Ah b (V:=.map (some w.heap.size)) (o:=.map #[] 0) (w':=w.alloc (.map #[] 0)) rfl a rfl rfl rfl ⟨w.heap.size,#[],0,by simp[Ctx.upd],E0 a,trivial⟩ (by simp[Blk.nms]) ?_ (by simp[PV.nms]),_,_,rfl⟩;exact .mpv _ _ (by rw[F3];rfl) (by simp[Ctx.upd])
   | false=>
    rw[c] at h;refine⟨_,_,h,Ah b (V:=.map (some w.heap.size)) (o:=.map #[] 0) (w':=w.alloc (.map #[] 0)) rfl a rfl rfl rfl ⟨w.heap.size,#[],0,by simp[Ctx.upd],E0 a,trivial⟩ (by simp[Blk.nms,B9]) ?_ (by simp[PV.nms]),_,_,rfl⟩;exact .mpv _ _ (by rw[F3];rfl) (by simp[Ctx.upd])
  ·cases h
 ·cases h
theorem Ag2{t:Nat}{v:PV}{V:Value}(h:okV (C.ti t) v=true)(z:VP Γ (A0 H) w v V):VP Γ (A0 H) w (asV (C.ti t) v) V/\∀c∈(asV (C.ti t) v).nms,c∈v.nms:=by
 simp only[okV,a7,beq_iff_eq] at h;obtain⟨n,o,x⟩:=h;have o:=j7 o;have u:=FY x;have g:∀j (a:j<(T0 (C.ti t) v.cells 0).length),∃(b:j<v.cells.length) (q:j<(C.ti t).ks.length),(T0 (C.ti t) v.cells 0)[j]=(v.cells[j]).as ((C.ti t).ks[j])/\(v.cells[j]).has ((C.ti t).ks[j])=true:=λj a=>by
  have i:j<(C.ti t).ks.length:=by rw[L4] at a;exact a
  have b:=u j i;rw[s6] at b;have f:=FX x j i;rw[s6,Q8 b] at f;exact⟨b,i,by simp[T0,a8 b],f⟩
 have m:∀c∈B9 (T0 (C.ti t) v.cells 0),c∈v.nms:=λc d=>by
  obtain⟨j,a,d⟩:=B7.1 d;obtain⟨b,q,e,_⟩:=g j a;rw[e] at d;exact PV.cells_nms c (B7.2 ⟨j,b,PV.as_nms c d⟩)
 have k:(T0 (C.ti t) v.cells 0).length=v.cells.length:=by rw[L4,o]
 unfold asV;rw[Wl];cases y:(C.ti t).agg with
 | true=>
  rw[y] at n;simp only[if_true];refine⟨?_,by simpa[PV.nms] using m⟩;cases v with
  | agg l=>
   obtain⟨A,rfl,D,d⟩:=z.inv_agg;refine VP.mk_agg (by rw[k];exact D) λj a=>?_
   obtain⟨b,q,e,f⟩:=g j a;obtain⟨U,B,G⟩:=d j b;exact⟨U,B,by rw[e];exact G.as f⟩
  | _=>cases n
 | false=>
  rw[y] at n;simp only[w9,if_false];split
  ·rename_i F;have a:0<(T0 (C.ti t) v.cells 0).length:=by rw[L4];omega
   rw[Q8 a];refine⟨?_,λc d=>m c (B7.2 ⟨0,a,d⟩)⟩;obtain⟨b,q,e,f⟩:=g 0 a;have p:v.cells[0]=v:=by
    cases v with
    | agg l=>cases n
    | bad=>exact absurd b (by simp[PV.cells])
    | _=>rfl
   rw[e];generalize (C.ti t).ks[0]=c at f ⊢;simp only[p] at f ⊢;exact z.as f
  ·exact⟨.bad V,by simp[PV.nms]⟩
theorem At3{sh:Nat->Option Shp}{t:Nat}(h:(C.ti t).ok=true)(b:HG C t=true):∃i Z,C.P.info? t=some i/\i.zero=some Z/\VP Γ sh w (Se (C.ti t)) Z/\(Se (C.ti t)).nms=[]:=by
 obtain⟨i,z,g,l,o,a⟩:=Ag (Γ:=Γ) (sh:=sh) (w:=w) h;obtain⟨_,_,_,j⟩:=H8 h;have n:=Ir (C.ti t).ks;refine⟨i,z,g,l,?_⟩;simp only[HG,g,o9,l] at b;unfold Se;cases f:(C.ti t).agg with
 | true=>
  rw[f] at b;simp only[if_true];refine⟨?_,by simpa[PV.nms] using n⟩;cases z with
  | agg A=>exact VP.mk_agg a.1 a.2
  | _=>cases b
 | false=>
  rw[f] at b;simp only[w9,if_false];split
  ·rename_i c m;rw[m] at a;obtain⟨U,e,k⟩:=a.2 0 (by simp);have d:z.cells[0]? = some z:=by
    cases z<;>first|rfl|(simp at b)
   rw[d] at e;cases e;refine⟨by simpa using k,?_⟩;cases c<;>rfl
  ·exact⟨.bad z,rfl⟩
section
variable {L Y : Type} (f : L -> Y)
theorem AJ:∀(l:List (List UInt8 × L)) (q:List UInt8),W8 (l.map λe=>(e.1,f e.2)) q=W8 l q
 | [],_=>rfl
 | e::l,q=>by simp only[p5,W8,AJ l q]
theorem AH(d:L):∀(l:List (List UInt8 × L)) (q:List UInt8),V6 (f d) (l.map λe=>(e.1,f e.2)) q=f (V6 d l q)
 | [],_=>rfl
 | e::l,q=>by simp only[p5,V6,AH d l q];cases q==e.1<;>rfl
theorem AK(v:L):∀(l:List (List UInt8 × L)) (q:List UInt8),Ct (l.map λe=>(e.1,f e.2)) q (f v)=(Ct l q v).map λe=>(e.1,f e.2)
 | [],_=>rfl
 | e::l,q=>by simp only[p5,Ct,AK v l q];cases q==e.1<;>rfl
theorem AF:∀(l:List (List UInt8 × L)) (q:List UInt8),Dm (l.map λe=>(e.1,f e.2)) q=(Dm l q).map λe=>(e.1,f e.2)
 | [],_=>rfl
 | e::l,q=>by simp only[p5,Dm,AF l q];cases q==e.1<;>rfl
end
theorem Wo{b:Type}(d a:b):∀(l:List (List UInt8 × b)) (q:List UInt8),W8 l q=true->V6 d l q=V6 a l q
 | [],_,h=>by cases h
 | e::l,q,h=>by
  simp only[W8,V6] at h ⊢;cases c:(q==e.1) with
  | true=>rfl
  | false=>rw[c] at h;exact Wo d a l q h
theorem Ab3{t:TI}{l:List SV}(i:Bg7 t l=true)(o:t.ks.all CK.scal=true)(k:t.ok=true):okV t (svV t.agg l)=true/\asV t (svV t.agg l)=GV t true l\/GV t true l = .bad:=by
 have key:∀c,c.scal=true->∀x:SV,(PV.s x).as c=A39 true x c:=λc b x=>by cases c<;>first|rfl|cases b
 have e:∀c,c.scal=true->∀x:SV,x.has c=true->(PV.s x).has c=true:=λc b x h=>by cases c<;>first|exact h|cases b
 simp only[Bg7,a7,j0] at i;have a:=j7 i.1;have f:∀{c j},(c,j)∈t.ks.zipIdx->c.scal=true/\j<l.length:=fun {c j} h=>by
  have:=List.mem_zipIdx_iff_getElem?.1 h;exact⟨j0.1 o c (List.mem_of_getElem? this),by rw[a];exact(j8.1 this).1⟩
 have d:∀j,j<l.length->(l.map PV.s).getD j .bad = .s (l.getD j .nilp):=λj v=>by simp[v]
 cases g:t.agg with
 | true=>
  left
  refine⟨?_,?_⟩
  ·simp only[okV,svV,cond_true,PV.isAgg,g,beq_self_eq_true,PV.cells,o5,a7,okP,k,j0,true_and];refine⟨i.1,λp n=>?_⟩;obtain⟨c,j⟩:=p;obtain⟨q,u⟩:=f n;have:=i.2 _ n;simp only[s6];rw[d j u];exact e c q _ this
  ·simp only[asV,Ha,g,if_true,svV,cond_true,PV.cells,GV]
   congr 1
   refine List.map_congr_left λp n=>?_
   obtain⟨c,j⟩:=p;obtain⟨q,u⟩:=f n;simp only[s6];rw[d j u];exact key c q _
 | false=>
  match l,a with
  | [],a=>
   right
   have:t.ks=[]:=v8.1 a.symm;simp[GV,g,this]
  | x::y::z,a=>
   right
   match h:t.ks,a with
   | [],a=>cases a
   | [c],a=>cases a
   | _::_::_,_=>simp[GV,g,h]
  | [x],a=>
   left
   obtain⟨c,b⟩:∃c,t.ks=[c]:=by
    match h:t.ks with
    | []=>rw[h] at a;cases a
    | [c]=>exact⟨c,rfl⟩
    | _::_::_=>rw[h] at a;cases a
   have m:c.scal=true:=by rw[b] at o;simpa using o
   have A:x.has c=true:=by
    have:=i.2 (c,0) (by rw[b];simp);simpa using this
   refine⟨?_,?_⟩
   ·simp only[okV,svV,cond_false,PV.isAgg,g,beq_self_eq_true,PV.cells,b,okP,k,a7,true_and];exact⟨rfl,by simpa using e c m x A⟩
   ·simp only[asV,Ha,g,w9,if_false,svV,cond_false,PV.cells,GV,b];exact key c m x
theorem TT{t:TI}{l:List SV}(b:t.ks.all CK.scal=true):GV t false l=Se t:=by
 have key:∀c,c.scal=true->∀x:SV,A39 false x c=O2 c:=λc a x=>by cases c<;>first|rfl|cases a
 unfold GV Se;split
 ·congr 1
  refine List.ext_getElem (by simp) λj d e=>?_
  simp only[b8,List.getElem_zipIdx];exact key _ (j0.1 b _ (b9 _)) _
 ·split
  ·rename_i c a;exact key c (j0.1 b c (by rw[a];simp)) _
  ·rfl
theorem Al2{sh:Nat->Option Shp}{v:PV}{V:Value}(ok b:Bool)(h:VP Γ sh w v V):VP Γ sh w (Rm ok v b) (if ok then .tuple #[V,.bool b] else V)/\∀c∈(Rm ok v b).nms,c∈v.nms:=by
 cases ok with
 | true=>
  refine⟨VP.mk_tup rfl λj d=>?_,λc a=>by simpa[Rm,PV.nms,B9] using a⟩
  match j,d with
  | 0,_=>exact⟨V,rfl,h⟩
  | 1,_=>exact⟨_,rfl,.s _ _ (.bool b)⟩
 | false=>exact⟨h,λc a=>a⟩
theorem HR.ms'(hH:HR Γ H w){b:Nat}{a:Bool}{ents:List (List UInt8 × List SV)}{X:Value}(hb:H[b]? = some (.ms a ents))(hx:VP Γ (A0 H) w (.it b) X) :
  ∃g es ck,Γ.nm b=some g/\X = .map (some g)/\w.heap[g]? = some (.map es ck)/\MR Γ (A0 H) w (msP a ents) es.toList:=by
 obtain⟨g,hg,rfl⟩:=QJ hb hx;obtain⟨hlt,hbe⟩:=j8.1 hb;have hB:=hH.blk b hlt;rw[hbe] at hB;obtain⟨g',es,ck,h1,h2,h3⟩:=hB;rw[hg] at h1;cases h1;exact⟨g,es,ck,hg,rfl,h2,h3⟩
theorem Rn{sh:Nat->Option Shp}{t p e g l:Nat}{ok:Bool}{Z:Value}{d:Array MapEntry}{s:ByteArray}{a:List (List UInt8 × PV)}(o:C.P.underlying t=some (.map p e))(f:C.P.underlying p=some .string)(k:∀w':World,(zeroValue e).run C.P w' = .ok Z w')(m:w.heap[g]? = some (.map d l))(j:MR Γ sh w a d.toList) :
  (W8 a s.data.toList=false/\∀w':World,Ext w w'->(x3 t (.map (some g)) (.string s) ok).run C.P w' = .ok (if ok then .tuple #[Z,.bool false] else Z) w')\/
  (W8 a s.data.toList=true/\∃V,VP Γ sh w (V6 .bad a s.data.toList) V/\∀w':World,Ext w w'->(x3 t (.map (some g)) (.string s) ok).run C.P w' = .ok (if ok then .tuple #[V,.bool true] else V) w'):=by
 have b:∀w':World,Ext w w'->w'.heap[g]? = some (.map d l):=λw' c=>(c g (k9.1 m).1).trans m
 rcases Sr s a d.toList 0 j with⟨h,i,_⟩|⟨h,n,E,i,u,v,q,_⟩
 ·refine .inl ⟨h,λw' c=>?_⟩;simp[x3,run_underlying o,p6 (b w' c),o3 (n:=9999) f (show aa2 .string (.string s) from trivial),p7 f i,k]
 ·refine .inr ⟨h,E.val,q,λw' c=>?_⟩;simp[x3,run_underlying o,p6 (b w' c),o3 (n:=9999) f (show aa2 .string (.string s) from trivial),p7 f i]
theorem Yi{t:Nat}{x i:PV}{X I:Value}{ok:Bool}{k:PV->Option R}(hH:HR Γ H w)(h:Je C t x i ok H k=some r)(T:VP Γ (A0 H) w x X)(hi:VP Γ (A0 H) w i I) :
  ∃v,k v=some r/\QV C.P Γ H w (x3 t X I ok) v:=by
 unfold Je at h;split at h
 case h_2=>cases h
 rename_i kt e q S;obtain⟨s,rfl,rfl⟩:=hi.inv_str;have P:=Gn S;split at h
 case h_2=>cases h
 rename_i O;have F:=U6 O;split at h
 case isFalse=>cases h
 rename_i m;simp only[a7] at m;obtain⟨ii,Z,N,hZ,U,W⟩:=At3 (Γ:=Γ) (sh:=A0 H) (w:=w) m.1 m.2;have z:∀w':World,(zeroValue e).run C.P w' = .ok Z w':=λw'=>by simp[zeroValue,typeInfo,N,hZ]
 have out:∀{Y:PV->Option R} {b:Bool} {v:PV} {V:Value},Y (Rm ok v b)=some r->VP Γ (A0 H) w v V->(∀c∈v.nms,c<H.length)->(∀w':World,Ext w w'->(x3 t X (.string s) ok).run C.P w' = .ok (if ok then .tuple #[V,.bool b] else V) w')->∃v,Y v=some r/\QV C.P Γ H w (x3 t X (.string s) ok) v:=fun {Y} {b} {v} {V} f j h3 h4=>by
  obtain⟨l1,l2⟩:=Al2 ok b j;exact⟨_,f,λc A=>h3 c (l2 c A),_,l1,h4⟩
 have y:∀c∈(Se (C.ti e)).nms,c<H.length:=by rw[W];simp
 split at h
 ·obtain rfl:=T.inv_nilm;refine out h U y λw' _=>?_
  simp[x3,run_underlying P,o3 (n:=9999) F (show aa2 .string (.string s) from trivial),p7 (k:=.string s) (l:=[]) (a:=none) F rfl,z]
 ·rename_i b;split at h
  ·rename_i a d L;obtain⟨g,es,ck,hg,rfl,M,u⟩:=hH.ms' L T;split at h
   ·rename_i B;simp only[a7,beq_iff_eq] at B;obtain⟨B,rfl⟩:=B;obtain⟨D,p⟩:=B6 h;have e1:=AJ (svV (C.ti e).agg) d s.data.toList;rcases Rn (ok:=ok) (s:=s) P F z M u with⟨f,j⟩|⟨f,V,G,j⟩
    ·rw[show W8 d s.data.toList=false from e1.symm.trans f] at p;rw[TT B] at p;exact out p U y j
    ·have K:W8 d s.data.toList=true:=e1.symm.trans f;rw[K] at D p;simp only[Bool.not_true,ag2] at D;rw[Wo .bad (svV (C.ti e).agg []) _ _ f,show V6 (svV (C.ti e).agg []) (msP (C.ti e).agg d) s.data.toList=svV (C.ti e).agg (V6 [] d s.data.toList) from AH _ _ _ _] at G;rcases Ab3 D B m.1 with⟨o1,o2⟩|o
     ·obtain⟨v1,J⟩:=Ag2 o1 G;rw[o2] at v1 J;exact out p v1 (λc A=>by have:=J c A;rw[HA] at this;simp at this) j
     ·rw[o] at p;exact out p (.bad V) (by simp[PV.nms]) j
   ·cases h
  ·rename_i d L;obtain⟨g,es,ck,hg,rfl,M,u,Q⟩:=hH.mp' L T;rcases Rn (ok:=ok) (s:=s) P F z M u with⟨f,j⟩|⟨f,V,G,j⟩
   ·rw[f] at h;exact out h U y j
   ·rw[f] at h;simp only[Bb,cond_true] at h;obtain⟨D,p⟩:=B6 h;obtain⟨v1,J⟩:=Ag2 D G;exact out p v1 (λc A=>Q c (AI _ _ c (J c A))) j
  ·cases h
 ·cases h
theorem Nd{m:Sem Value}{b g D:Nat}{x y:Blk}{F e:Array MapEntry}{d:List (List UInt8 × PV)}{f:Nat}{V:Value}{v:PV}{sl:List PV}{n:Array Value}(t:HR Γ H w)(z:H[b]? = some x)(o:Γ.nm b=some g)(A:w.heap[g]? = some (.map F D))(j:y.shp=x.shp)
  (G:m.run C.P w = .ok V { w with heap:=w.heap.setIfInBounds g (.map e f) }) (p:MR Γ (A0 H) w d e.toList) (I:∀c∈y.nms,c<H.length) (K:y = .mp d\/∃a l,y = .ms a l/\d=msP a l) (J:∀sh w,VP Γ sh w v V) (hvn:v.nms=[]):WV C Γ H w sl n m v sl (H.set b y):=by
 obtain⟨q,B⟩:=MapKept.heap_set (o':=.map e f) A;have i:({ w with heap:=w.heap.setIfInBounds g (.map e f) }:World).shape? g=w.shape? g:=by simp only[ab1,q,A]
 have M:=Aa (w':={ w with heap:=w.heap.setIfInBounds g (.map e f) }) (y:=y) t z o j B i;have h:=p.imp (Γ':=Γ) λu _ U k=>k.mono M λ_ _=>trivial
 refine Fj t G z o j B i (by simp) rfl rfl rfl ?_ I (J _ _) (by simp[hvn]);rcases K with rfl|⟨a,l,rfl,rfl⟩
 ·exact⟨g,e,f,o,q,h⟩
 ·exact⟨g,e,f,o,q,h⟩
theorem KG{sh:Nat->Option Shp}{t u e g d:Nat}{c:Array MapEntry}{s:ByteArray}{a:List (List UInt8 × PV)}{v:PV}{V:Value}(p:C.P.underlying t=some (.map u e))(j:C.P.underlying u=some .string)(i:w.heap[g]? = some (.map c d))(o:MR Γ sh w a c.toList)(q:VP Γ sh w v V) :
  ∃f k,(do ab8 t (.map (some g)) (.string s) V;pure undef:Sem Value).run C.P w = .ok undef { w with heap:=w.heap.setIfInBounds g (.map f k) }/\MR Γ sh w (Ct a s.data.toList v) f.toList:=by
 have b:aa2 .string (.string s):=trivial;rcases Sr s a c.toList 0 o with⟨x,h,_,m⟩|⟨x,n,E,h,y,m,A,_,z⟩
 ·refine⟨c.push ⟨.string s,V,d⟩,d+1,?_,by simpa using m v V d q⟩;simp[ab8,run_underlying p,p6 i,o3 (n:=9999) j b,p7 j h,x4 _ i]
 ·rw[s6] at h;have l:c[n]? = some E:=by simpa using y
  refine⟨c.modify n λe=>{ e with key:=.string s,val:=V },d,?_,by simpa using z v V q⟩;simp[ab8,run_underlying p,p6 i,o3 (n:=9999) j b,p7 j h,l,m,MapKept.run_keyThatStays b,x4 _ i]
theorem Yl{t:Nat}{m x v:PV}{M X V:Value}{k:List Blk->Option R}{sl:List PV}{tmps:Array Value}(y:HR Γ H w)(h:Jh C t m x v H k=some r)(O:VP Γ (A0 H) w m M)(Z:VP Γ (A0 H) w x X)(L:VP Γ (A0 H) w v V)(hvn:∀c∈v.nms,c<H.length) :
  ∃H',k H'=some r/\WV C Γ H w sl tmps (do ab8 t M X V;pure undef) (.tup []) sl H':=by
 unfold Jh at h;split at h
 case h_2=>cases h
 rename_i kt e b q K;obtain⟨s,rfl,rfl⟩:=Z.inv_str;have P:=Gn K;split at h
 ·rename_i a f n o;split at h
  ·rename_i l u;obtain⟨g,W,Q,F,rfl,p,i⟩:=y.ms' o O;have N:VP Γ (A0 H) w (svV a l) V:=by
    unfold plC at u;split at u
    ·rename_i vs;obtain⟨A,rfl,Y,D⟩:=L.inv_agg;obtain⟨S,T⟩:=K8 (As:=A.toList) u (by simpa using Y.symm) (λj G=>by obtain⟨U,e,k⟩:=D j G;exact⟨U,by simpa using e,k⟩);simp only[svV,cond_true];refine VP.mk_agg (by simpa using S.symm) λj G=>?_
     obtain⟨U,e,k⟩:=T j (by simpa using G);exact⟨U,by simpa using e,by rw[b8];exact .s _ _ k⟩
    ·cases u;exact L
    ·cases u
   obtain⟨B,z,J,d⟩:=KG (s:=s) P (U6 n) p i N;exact⟨_,h,Nd y o F p rfl J d (by simp[Blk.nms]) (.inr ⟨a,_,rfl,AK _ _ _ _⟩) (λ_ _=>R6) rfl⟩
  ·cases h
 ·rename_i f n o;obtain⟨g,W,Q,F,rfl,p,i,I⟩:=y.mp' o O;obtain⟨B,z,J,d⟩:=KG (s:=s) P (U6 n) p i L;exact⟨_,h,Nd y o F p rfl J d (λc D=>(AL v f _ c D).elim (I c) (hvn c)) (.inl rfl) (λ_ _=>R6) rfl⟩
 ·cases h
theorem IQ{sh:Nat->Option Shp}{t p e g k ty:Nat}{ts:List Nat}{c:Array MapEntry}{s:ByteArray}{a:List (List UInt8 × PV)}(o:C.P.underlying t=some (.map p e))(j:C.P.underlying p=some .string)(i:w.heap[g]? = some (.map c k))(f:MR Γ sh w a c.toList) :
  ∃d l,(aa3 (t::ts).toArray ty #[.map (some g),.string s]).run C.P w = .ok (.tuple #[]) { w with heap:=w.heap.setIfInBounds g (.map d l) }/\MR Γ sh w (Dm a s.data.toList) d.toList:=by
 have b:aa2 .string (.string s):=trivial;rcases Sr s a c.toList 0 f with⟨q,h,m,u⟩|⟨q,n,E,h,m,u,x,v,_⟩
 ·refine⟨c,k,?_,by rw[m];exact f⟩;simp[aa3,run_underlying o,p6 i,o3 (n:=9999) j b,p7 j h,x4 _ i]
 ·rw[s6] at h;refine⟨c.eraseIdxIfInBounds n,k,?_,by simpa using v⟩;simp[aa3,run_underlying o,p6 i,o3 (n:=9999) j b,p7 j h,x4 _ i]
theorem Yk{t ty:Nat}{ts:List Nat}{m x:PV}{M X:Value}{k:List Blk->Option R}{sl:List PV}{tmps:Array Value}(p:HR Γ H w)(h:Jg C t m x H k=some r)(D:VP Γ (A0 H) w m M)(P:VP Γ (A0 H) w x X) :
  ∃H',k H'=some r/\WV C Γ H w sl tmps (aa3 (t::ts).toArray ty #[M,X]) (.tup []) sl H':=by
 unfold Jg at h;split at h
 case h_2=>cases h
 rename_i Q e q I;obtain⟨s,rfl,rfl⟩:=P.inv_str;have J:=Gn I;have f:∀sh w,VP Γ sh w (.tup []) (.tuple #[]):=λ_ _=>VP.mk_tup rfl λj O=>by simp at O
 split at h
 ·rename_i o;have y:=U6 o;obtain rfl:=D.inv_nilm;exact⟨_,h,(QV.val (V:=.tuple #[]) rfl (f _ _) λw' _=>by simp[aa3,run_underlying J,o3 (n:=9999) y (show aa2 .string (.string s) from trivial)]).wv p⟩
 ·rename_i b o;have y:=U6 o;split at h
  ·rename_i a i u;obtain⟨g,L,K,B,rfl,v,l⟩:=p.ms' u D;obtain⟨A,z,G,d⟩:=IQ (s:=s) (ts:=ts) (ty:=ty) J y v l;exact⟨_,h,Nd p u B v rfl G d (by simp[Blk.nms]) (.inr ⟨a,_,rfl,AF _ _ _⟩) f rfl⟩
  ·rename_i i u;obtain⟨g,L,K,B,rfl,v,l,F⟩:=p.mp' u D;obtain⟨A,z,G,d⟩:=IQ (s:=s) (ts:=ts) (ty:=ty) J y v l;exact⟨_,h,Nd p u B v rfl G d (λc N=>F c (AG i _ c N)) (.inl rfl) f rfl⟩
  ·cases h
 ·cases h
end
section
variable {W R : Type} {r : R} {C : Cfg} {I : W -> (Nat -> Prop) -> (Nat -> Prop) -> World -> Prop} {Y : Ctx} {Q : Nat -> Prop} {L : St W} {a : Act} {w : World} {J : E2} {Z : Yh W} {o : Oper} {k : St W -> Option R}
theorem SI.opnd(S:SI C I Y Q L a.tmps w)(x:Operand):VP Y (A0 L.hp) w (opnd C L.sl x) (a.eval x)/\∀c∈(opnd C L.sl x).nms,c<L.hp.length:=
 QQ (ds:=a.defers) S.g S.sr x
def At6(C:Cfg)(I:W->(Nat->Prop)->(Nat->Prop)->World->Prop)(Y:Ctx)(Q:Nat->Prop)(L:St W)(a:Act)(w:World)(o:Oper)(k:St W->Option R)(r:R):Prop:=
 ∃V b,k b=some r/\(∀w':World,Ext w w'->(execOp a.eval o).run C.P w' = .ok (.value V) w')/\SI C I Y Q b (a.put o.dst V).tmps w/\Stp C Y L.hp w noΦ Y b.hp w noΦ
theorem SI.put(S:SI C I Y Q L a.tmps w){v:PV}{V:Value}(hv:VP Y (A0 L.hp) w v V)(hn:∀c∈v.nms,c<L.hp.length):SI C I Y Q { L with sl:=P0 o.dst v L.sl } (a.put o.dst V).tmps w:=
 ⟨S.hr,S.sr.put (ds:=a.defers) o hv hn,S.g,S.inv,S.dis⟩
theorem QV.out{m:Sem Value}{v:PV}(S:SI C I Y Q L a.tmps w)(h:QV C.P Y L.hp w m v)(hk:k { L with sl:=P0 o.dst v L.sl } = some r)(he:execOp a.eval o=(do pure (.value (<-m)))):At6 C I Y Q L a w o k r:=by obtain⟨hn,V,hv,hq⟩:=h;refine⟨V,_,hk,λw' hw=>?_,S.put hv hn,Stp.refl S.hr⟩;rw[he];simp[hq w' hw]
theorem QV0.out{m:Sem Value}{v:PV}(S:SI C I Y Q L a.tmps w)(h:QV0 C.P Y L.hp w m v)(hk:k { L with sl:=P0 o.dst v L.sl } = some r)(he:execOp a.eval o=(do pure (.value (<-m)))) :
  ∃V st',k st'=some r/\(∀w':World,(execOp a.eval o).run C.P w' = .ok (.value V) w')/\SI C I Y Q st' (a.put o.dst V).tmps w/\Stp C Y L.hp w noΦ Y st'.hp w noΦ:=by
 obtain⟨hn,V,hv,hq⟩:=h;refine⟨V,_,hk,λw'=>?_,S.put hv hn,Stp.refl S.hr⟩;rw[he];simp[hq w']
theorem QV.pure{P:Program}{H:List Blk}{v:PV}{V:Value}(hv:VP Y (A0 H) w v V)(hn:∀c∈v.nms,c<H.length):QV P Y H w (pure V) v:=⟨hn,V,hv,λ_ _=>rfl⟩
theorem SI.ov(S:SI C I Y Q L a.tmps w)(x:Option Operand):OV Y (A0 L.hp) w (Ij (Go.Proofs.YtghjngpjgomdnaaGreatDoor.E.opnd C L.sl) x) (x.map a.eval):=by
 cases x with
 | none=>trivial
 | some x=>exact(S.opnd x).1
theorem Ac{b c:Type}{f:b->c}{x:Option b}:(Ij f x).isSome=x.isSome:=by cases x<;>rfl
theorem SI.parts(S:SI C I Y Q L a.tmps w):∀(ps:List (Nat × Operand)),PR Y (A0 L.hp) w (ps.map λ(i,x)=>(i,Go.Proofs.YtghjngpjgomdnaaGreatDoor.E.opnd C L.sl x)) (ps.map λ(i,x)=>(i,a.eval x))/\∀p∈(ps.map λ(i,x)=>(i,Go.Proofs.YtghjngpjgomdnaaGreatDoor.E.opnd C L.sl x)),∀c∈p.2.nms,c<L.hp.length
 | []=>⟨trivial,by simp⟩
 | (i,x)::ps=>by
  obtain⟨h1,h2⟩:=S.parts ps;refine⟨⟨rfl,(S.opnd x).1,h1⟩,λp hp=>?_⟩;rcases aa1.1 hp with rfl|hp
  ·exact(S.opnd x).2
  grind
theorem SI.list(S:SI C I Y Q L a.tmps w)(xs:Array Operand):CR Y (A0 L.hp) w (xs.toList.map (Go.Proofs.YtghjngpjgomdnaaGreatDoor.E.opnd C L.sl)) (xs.map a.eval)/\∀c∈B9 (xs.toList.map (Go.Proofs.YtghjngpjgomdnaaGreatDoor.E.opnd C L.sl)),c<L.hp.length:=by
 refine⟨⟨by simp,λj hj=>?_⟩,λc hc=>?_⟩
 ·have hj':j<xs.size:=by simpa using hj
  exact⟨a.eval xs[j],by simp[hj'],by simpa using(S.opnd xs[j]).1⟩
 ·obtain⟨j,hj,hm⟩:=B7.1 hc;have hj':j<xs.size:=by simpa using hj
  exact(S.opnd xs[j]).2 c (by simpa using hm)
theorem QH{f:Nat}{x y:List PV}{A B:Array Value}{sh:Nat->Option Shp}(c:CR Y sh w x A)(d:CR Y sh w y B):VP Y sh w (Al7 (.func f) x y) (.func (.func f) A B):=by
 unfold Al7;split
 ·rename_i xs p m n;obtain⟨g,h⟩:=K8 (As:=A.toList) m (by simpa using c.1.symm) (λj b=>by obtain⟨U,e,k⟩:=c.2 j b;exact⟨U,by simpa using e,k⟩);obtain⟨i,l⟩:=K8 (As:=B.toList) n (by simpa using d.1.symm) (λj b=>by obtain⟨U,e,k⟩:=d.2 j b;exact⟨U,by simpa using e,k⟩);refine .s _ _ (.fn _ xs p A B (λj=>A.getD j undef) (λj=>B.getD j undef) (by simp) (by simpa using g.symm) (by simpa using i.symm) (λj b=>?_) (λj b=>?_) (λj b=>?_) (λj b=>?_))
  ·simp_all
  ·simp_all
  ·obtain⟨U,e,k⟩:=h j b;simp_all
  ·obtain⟨U,e,k⟩:=l j b;simp_all
 ·refine .fnr _ x y A B (λj=>A.getD j undef) (λj=>B.getD j undef) (by simp) c.1 d.1 (λj b=>?_) (λj b=>?_) (λj b=>?_) (λj b=>?_)
  ·obtain⟨U,e,_⟩:=c.2 j b;rw[j2,e];rfl
  ·obtain⟨U,e,_⟩:=d.2 j b;rw[j2,e];rfl
  ·obtain⟨U,e,k⟩:=c.2 j b;rw[j2,e];exact k
  ·obtain⟨U,e,k⟩:=d.2 j b;rw[j2,e];exact k
theorem Al8{f:Fn}{x y:List PV}:∀c∈(Al7 f x y).nms,c∈B9 x\/c∈B9 y:=by
 intro c b;unfold Al7 at b;split at b
 ·simp[PV.nms] at b
 ·simpa[PV.nms] using b
theorem Ba5{c d:Type}{f:c->d}{xs:Array c}{x:d}(h:xs.toList.map f=[x]):∃b,xs = #[b]/\f b=x:=by obtain⟨l⟩:=xs;simp_all
theorem HW{e g:Type}{f:e->g}{xs:Array e}{x y:g}(h:xs.toList.map f=[x,y]):∃c d,xs = #[c,d]/\f c=x/\f d=y:=by
 obtain⟨l⟩:=xs
 match l,h with
 | [a,b],h=>exact⟨a,b,rfl,by simpa using h⟩
theorem M9{ρ:Operand->Value}{c:Call}{b:Builtin}(e:o.op = .call c)(d:c.callee = .builtin b) :
  ∃f,execOp ρ o=builtin b c.argTypes o.type f (c.args.map ρ):=by
 simp only[execOp,e,resolve,d,pure_bind,invoke];exact⟨_,rfl⟩
theorem SI.args_ints(S:SI C I Y Q L a.tmps w){xs:Array Operand}{kd:IntKind}{x y:Int}(h:xs.toList.map (Go.Proofs.YtghjngpjgomdnaaGreatDoor.E.opnd C L.sl)=[.s (.int kd x),.s (.int kd y)]):xs.map a.eval = #[.int kd x,.int kd y]:=by obtain⟨x0,y0,rfl,e1,e2⟩:=HW h;have h1:=(S.opnd x0).1;have h2:=(S.opnd y0).1;rw[e1] at h1;rw[e2] at h2;simp[h1.inv_int,h2.inv_int]
theorem Jm(l:H9 C o.op=true)(h:opK C J Z o L k=some r)(S:SI C I Y Q L a.tmps w):At6 C I Y Q L a w o k r:=by
 unfold opK at h;dsimp only at h;split at h
 ·rename_i x d;exact(QV.pure (P:=C.P) (S.opnd x).1 (S.opnd x).2).out S h (by simp[execOp,d])
 ·rename_i x d;split at h
  ·rename_i q;have j:=(S.opnd x).1;rw[q] at j;refine⟨a.eval x,_,h,λw' hw=>by simp only[execOp,d,ad1],⟨QN S.hr rfl (.inl ⟨rfl,rfl⟩),?_,S.g,S.inv,S.dis⟩,FS S.hr⟩;refine SR.put (ds:=a.defers) (SR.grow (Ng _ S.hr) S.sr) o ?_ (by simp[PV.nms]);rw[j.inv_nsl];exact .flv _ _ _ (by rw[F3];rfl)
  ·exact(QV.pure (P:=C.P) (S.opnd x).1 (S.opnd x).2).out S h (by simp[execOp,d])
 ·rename_i c x y d;split at h
  ·rename_i t u;have j:=(S.opnd c).1;rw[u] at j;have hb:=j.inv_bool;have z:execOp a.eval o=(do Pure.pure (Next.value (if <-asBool (a.eval c) then a.eval x else a.eval y))):=by simp[execOp,d]
   cases t with
   | true=>
    simp only[Bb,cond_true] at h;refine⟨_,_,h,λw' hw=>?_,S.put (S.opnd x).1 (S.opnd x).2,Stp.refl S.hr⟩;rw[z,hb];simp[asBool]
   | false=>
    simp only[Bb,cond_false] at h;refine⟨_,_,h,λw' hw=>?_,S.put (S.opnd y).1 (S.opnd y).2,Stp.refl S.hr⟩;rw[z,hb];simp[asBool]
  ·cases h
 ·rename_i d;rw[d] at l;simp[H9] at l
 ·rename_i d;rw[d] at l;simp[H9] at l
 ·rename_i t parts d;obtain⟨M,N⟩:=S.parts parts.toList;obtain⟨v,m,j⟩:=Mg (ps:=parts.map λ(i,x)=>(i,a.eval x)) h (by rw[r9];exact M) N;exact j.qv.out S m (by simp[execOp,d])
 ·rename_i d;rw[d] at l;simp[H9] at l
 ·rename_i t x d;obtain⟨v,m,j⟩:=Rl S.hr h (S.opnd x).1;exact j.out S m (by simp[execOp,d])
 ·rename_i d;rw[d] at l;simp[H9] at l
 ·rename_i x d;split at h
  ·rename_i hn;have j:=(S.opnd x).1;refine⟨a.eval x,_,h,λw' hw=>?_,S.put j (S.opnd x).2,Stp.refl S.hr⟩;simp only[execOp,d];unfold QM at hn;split at hn
   ·rename_i q;rw[q] at j;obtain⟨ad,e⟩:=j.inv_ptr;simp_all
   ·rename_i q;rw[q] at j;obtain⟨ad,e⟩:=j.inv_sp;simp_all
   ·rename_i q;rw[q] at j;obtain⟨A,B,e⟩:=j.inv_fn;simp_all
   ·rename_i q;rw[q] at j;obtain⟨A,B,e⟩:=j.inv_fnr;simp_all
   grind
  ·cases h
 ·rename_i op t x y _ d;obtain⟨v,m,j⟩:=Uq (ox:=x) (oy:=y) h (S.opnd x).1 (S.opnd y).1;exact j.qv.out S m (by simp only[execOp,d])
 ·rename_i op t x d;obtain⟨v,m,j⟩:=Ac7 (P:=C.P) h (S.opnd x).1;exact j.out S m (by simp only[execOp,d])
 ·rename_i a9 a5 x d;split at h
  ·rename_i e G;rw[d] at l;simp[H9,G] at l
  ·obtain⟨v,m,j⟩:=IM S.hr h (S.opnd x).1;exact j.out S m (by simp only[execOp,d])
 ·rename_i g x y d;obtain⟨M,N⟩:=S.list x;obtain⟨h3,h4⟩:=S.list y;exact(QV.pure (P:=C.P) (QH M h3) (λc u=>(Al8 c u).elim (N c) (h4 c))).out S h (by simp[execOp,d,Instr.makeFunc])
 ·rename_i d;rw[d] at l;simp[H9] at l
 ·rename_i t x lo hi mx d;have T:=S.ov lo;have O:=S.ov hi;have X:=S.ov mx;split at h
  ·rename_i n e b G q;split at h
   ·rename_i v e' sz a6 hb;split at h
    ·rename_i u;obtain⟨M,N⟩:=B6 h;simp only[decide_eq_true_eq] at M;have j:=(S.opnd x).1;rw[q] at j;obtain⟨v,m,j⟩:=He S.hr N G u.1 u.2.1 hb M (by omega) (by simp only[maxLen];omega) j T O X;exact j.qv.out S m (by simp only[execOp,d])
    grind
   ·cases h
  ·split at h
   ·rename_i hm;obtain⟨v,m,j⟩:=Nz S.hr h (S.opnd x).1 (S.opnd x).2 T O X (by rw[Ac,Ac];intro h;simpa[h] using hm);exact j.qv.out S m (by simp only[execOp,d])
   ·cases h
 ·rename_i t x f d;obtain⟨v,m,j⟩:=Ey h (S.opnd x).1 (S.opnd x).2;exact j.qv.out S m (by simp only[execOp,d])
 ·rename_i t x f d;obtain⟨v,m,j⟩:=EY h (S.opnd x).1 (S.opnd x).2;exact j.out S m (by simp only[execOp,d])
 ·rename_i t x i d;obtain⟨v,m,j⟩:=Ez S.hr h (S.opnd x).1 (S.opnd i).1 (S.opnd x).2;exact j.qv.out S m (by simp only[execOp,d])
 ·rename_i t x i d;obtain⟨v,m,j⟩:=FF h (S.opnd x).1 (S.opnd i).1 (S.opnd x).2;exact j.out S m (by simp only[execOp,d])
 ·rename_i d;rw[d] at l;simp[H9] at l
 ·rename_i d;rw[d] at l;simp[H9] at l
 ·rename_i d;rw[d] at l;simp[H9] at l
 ·rename_i t x i ok d;obtain⟨v,m,j⟩:=Yi S.hr h (S.opnd x).1 (S.opnd i).1;exact j.out S m (by simp only[execOp,d])
 ·rename_i d;rw[d] at l;simp[H9] at l
 ·rename_i t i d;split at h
  ·rename_i vs q;split at h
   ·rename_i v a3;have j:=(S.opnd t).1;have hn:=(S.opnd t).2;rw[q] at j hn;obtain⟨A,e,hA,u⟩:=j.inv_tup;obtain⟨V,a1⟩:=j8.1 a3;obtain⟨U,e1,k1⟩:=u i V;rw[a1] at k1;refine⟨U,_,h,λw' hw=>?_,S.put k1 (λc u=>hn c (by simp only[PV.nms];exact B7.2 ⟨i,V,by rw[a1];exact u⟩)),Stp.refl S.hr⟩;simp only[execOp,d,e,ag3,e1];rfl
   ·cases h
  ·cases h
 ·rename_i c d;split at h
  ·rename_i b p;unfold Ai at h;dsimp only at h;split at h
   ·rename_i t D x a2 F;obtain⟨x0,a4,rfl⟩:=Ba5 F;obtain⟨v,m,j⟩:=PQ (ts:=D) (ty:=o.type) S.hr h (S.opnd x0).1;refine j.out S m ?_;obtain⟨cs,z⟩:=M9 (ρ:=a.eval) d p;have a0:c.argTypes=(t::D).toArray:=by rw[<-a2]
    rw[z,a4,a0];simp[builtin]
   ·rw[d] at l;simp[H9,p] at l
   ·rw[d] at l;simp[H9,p] at l
   ·obtain⟨v,x,y,kd,m,K,j⟩:=Kg (P:=C.P) (Γ:=Y) (H:=L.hp) (w:=w) c.argTypes o.type h;refine j.out S m ?_;obtain⟨cs,z⟩:=M9 (ρ:=a.eval) d p;rw[z,S.args_ints K];simp[builtin]
   ·obtain⟨v,x,y,kd,m,K,j⟩:=Kg (P:=C.P) (Γ:=Y) (H:=L.hp) (w:=w) c.argTypes o.type h;refine j.out S m ?_;obtain⟨cs,z⟩:=M9 (ρ:=a.eval) d p;rw[z,S.args_ints K];simp[builtin]
   ·rw[d] at l;simp[H9,p] at l
   ·rw[d] at l;simp[H9,p] at l
   ·cases h
  ·rename_i p;rw[d] at l;simp[H9,p] at l
  ·cases h
 ·cases h
theorem XO{t q:Nat}{op:BinOp}{x y:Operand}(c:o.op = .binOp op t x y q)(h:opK C J Z o L k=some r)(S:SI C I Y Q L a.tmps w) :
  ∃V b,k b=some r/\(∀w':World,(execOp a.eval o).run C.P w' = .ok (.value V) w')/\SI C I Y Q b (a.put o.dst V).tmps w/\Stp C Y L.hp w noΦ Y b.hp w noΦ:=by
 simp only[opK,c] at h;obtain⟨v,d,e⟩:=Uq (ox:=x) (oy:=y) h (S.opnd x).1 (S.opnd y).1;exact e.out S d (by simp only[execOp,c])
theorem IV{t f:Nat}{x:Operand}(c:o.op = .fieldAddr t x f)(h:opK C J Z o L k=some r)(S:SI C I Y Q L a.tmps w) :
  ∃V b,k b=some r/\(∀w':World,(execOp a.eval o).run C.P w' = .ok (.value V) w')/\SI C I Y Q b (a.put o.dst V).tmps w/\Stp C Y L.hp w noΦ Y b.hp w noΦ:=by
 simp only[opK,c] at h;obtain⟨v,d,e⟩:=Ey h (S.opnd x).1 (S.opnd x).2;exact e.out S d (by simp only[execOp,c])
theorem ID{t:Nat}{parts:Array (Nat × Operand)}(c:o.op = .build t parts)(h:opK C J Z o L k=some r)(S:SI C I Y Q L a.tmps w) :
  ∃V b,k b=some r/\(∀w':World,(execOp a.eval o).run C.P w' = .ok (.value V) w')/\SI C I Y Q b (a.put o.dst V).tmps w/\Stp C Y L.hp w noΦ Y b.hp w noΦ:=by
 simp only[opK,c] at h;obtain⟨d,e⟩:=S.parts parts.toList;obtain⟨v,f,g⟩:=Mg (ps:=parts.map λ(i,x)=>(i,a.eval x)) h (by rw[r9];exact d) e;exact g.out S f (by simp only[execOp,c])
theorem JI{t:Nat}{x i:Operand}(c:o.op = .indexAddr t x i)(h:opK C J Z o L k=some r)(S:SI C I Y Q L a.tmps w) :
  ∃V b,k b=some r/\(∀w':World,(execOp a.eval o).run C.P w' = .ok (.value V) w')/\SI C I Y Q b (a.put o.dst V).tmps w/\Stp C Y L.hp w noΦ Y b.hp w noΦ:=by
 simp only[opK,c] at h;obtain⟨v,d,e⟩:=Ez S.hr h (S.opnd x).1 (S.opnd i).1 (S.opnd x).2;exact e.out S d (by simp only[execOp,c])
theorem LI{t:Nat}{x:Operand}{y u z:Option Operand}(c:o.op = .slice t x y u z)(h:opK C J Z o L k=some r)(S:SI C I Y Q L a.tmps w) :
  ∃V d,k d=some r/\(∀w':World,(execOp a.eval o).run C.P w' = .ok (.value V) w')/\SI C I Y Q d (a.put o.dst V).tmps w/\Stp C Y L.hp w noΦ Y d.hp w noΦ:=by
 simp only[opK,c] at h;have i:=S.ov y;have g:=S.ov u;have j:=S.ov z;split at h
 ·rename_i n e b m G;split at h
  ·rename_i v H K A D;split at h
   ·rename_i q;obtain⟨p,B⟩:=B6 h;simp only[decide_eq_true_eq] at p;have f:=(S.opnd x).1;rw[G] at f;obtain⟨v,l,f⟩:=He S.hr B m q.1 q.2.1 D p (by omega) (by simp only[maxLen];omega) f i g j;exact f.out S l (by simp only[execOp,c])
   ·cases h
  ·cases h
 ·split at h
  ·rename_i F;obtain⟨v,l,f⟩:=Nz S.hr h (S.opnd x).1 (S.opnd x).2 i g j (by rw[Ac,Ac];intro h;simpa[h] using F);exact f.out S l (by simp only[execOp,c])
  ·cases h
end
def Pq:Op->Bool
 | .call c=>match c.callee with
  | .builtin _=>false
  | _=>true
 | _=>false
section
variable {W R : Type} {r : R} {C : Cfg} {I : W -> (Nat -> Prop) -> (Nat -> Prop) -> World -> Prop} {Q : Ctx} {Y : Nat -> Prop} {L : St W} {a : Act} {w : World} {J : E2} {U : Yh W} {o : Oper} {k : St W -> Option R}
def At4(C:Cfg)(I:W->(Nat->Prop)->(Nat->Prop)->World->Prop)(Q:Ctx)(Y:Nat->Prop)(L:St W)(a:Act)(w:World)(o:Oper)(k:St W->Option R)(r:R):Prop:=
 ∃V w' Γ' b,k b=some r/\((execOp a.eval o).run C.P w = .ok (.value V) w'\/(V=undef/\(execOp a.eval o).run C.P w = .ok .skip w'))/\SI C I Γ' Y b (a.put o.dst V).tmps w'/\Stp C Q L.hp w Y Γ' b.hp w' Y
theorem Stp.lift{Γ':Ctx}{H H':List Blk}{w':World}(h:Stp C Q H w noΦ Γ' H' w' noΦ)(Y:Nat->Prop):Stp C Q H w Y Γ' H' w' Y:=
 ⟨h.os,h.tape,h.output,h.size,h.sub,h.stnew,h.own,λ_ h=>.inl h,λg hg hn _=>h.frame g hg hn (λx=>x),h.yv,h.len,h.keep⟩
theorem At6.loud(h:At6 C I Q Y L a w o k r):At4 C I Q Y L a w o k r:=by obtain⟨V,st',h1,h2,h3,h4⟩:=h;exact⟨V,w,Q,st',h1,.inl (h2 w (Ext.refl w)),h3,h4.lift Y⟩
theorem SI.after(hI:HI I)(S:SI C I Q Y L a.tmps w){w':World}{Γ':Ctx}{H':List Blk}{sl':List PV}{v:PV}{V:Value}(h:Stp C Q L.hp w noΦ Γ' H' w' noΦ)(hr:HR Γ' H' w')(hs:SR Q L.hp w L.sl a.tmps->SR Γ' H' w' sl' a.tmps)(hv:VP Γ' (A0 H') w' v V)(hn:∀c∈v.nms,c<H'.length) :
  SI C I Γ' Y { sl:=P0 o.dst v sl',hp:=H',s:=L.s } (a.put o.dst V).tmps w':=
 S.step hI (h.lift Y) (λg hg=>h.frame g (hI.foot _ _ _ _ S.inv g hg).1 (λb hb=>S.dis b g hb hg) (λx=>x)) hr ((hs S.sr).put (ds:=a.defers) o hv hn)
theorem WV.out{m:Sem Value}{v:PV}{sl':List PV}{H':List Blk}(hI:HI I)(S:SI C I Q Y L a.tmps w)(h:WV C Q L.hp w L.sl a.tmps m v sl' H')(hk:k { sl:=P0 o.dst v sl',hp:=H',s:=L.s } = some r)(he:execOp a.eval o=(do pure (.value (<-m)))):At4 C I Q Y L a w o k r:=by obtain⟨V,w',Γ',h1,h2,h3,h4,h5,h6⟩:=h;refine⟨V,w',Γ',_,hk,.inl ?_,S.after hI h2 h3 h4 h5 h6,h2.lift Y⟩;simp_all
theorem WV.outU{m:Sem Unit}{v:PV}{sl':List PV}{H':List Blk}(hI:HI I)(S:SI C I Q Y L a.tmps w)(h:WV C Q L.hp w L.sl a.tmps (do m;pure undef) v sl' H')(hk:k { sl:=P0 o.dst v sl',hp:=H',s:=L.s } = some r)(he:execOp a.eval o=(do m;pure .skip)):At4 C I Q Y L a w o k r:=by
 obtain⟨V,w',Γ',h1,h2,h3,h4,h5,h6⟩:=h;have key:V=undef/\m.run C.P w = .ok () w':=by
  simp only[ad0] at h1;cases hm:m.run C.P w with
  | ok u w1=>rw[hm] at h1;simp at h1;exact⟨h1.1.symm,by rw[h1.2]⟩
  | halt x w1=>rw[hm] at h1;simp[x8] at h1
 refine⟨V,w',Γ',_,hk,.inr ⟨key.1,?_⟩,S.after hI h2 h3 h4 h5 h6,h2.lift Y⟩;simp_all
theorem JX(D:HI I)(hq:Pq o.op=false)(h:opK C J U o L k=some r)(S:SI C I Q Y L a.tmps w):At4 C I Q Y L a w o k r:=by
 by_cases g:H9 C o.op=true
 ·exact(Jm g h S).loud
 have h0:=h;unfold opK at h;dsimp only at h;split at h
 ·rename_i f;exact absurd (by rw[f];rfl) g
 ·rename_i f;exact absurd (by rw[f];rfl) g
 ·rename_i f;exact absurd (by rw[f];rfl) g
 ·rename_i e f;by_cases H:(C.ti e).ok=true
  ·obtain⟨i,z,hi,hz,a2,a0⟩:=Ag (Γ:=Q) (sh:=A0 L.hp) (w:=w) H;obtain⟨v,H',q,j⟩:=Ur (V:=z) (sl:=L.sl) (tmps:=a.tmps) (m:=af2 e true (.tuple #[])) S.hr h a0 (by rw[Ir];simp) (by simp[af2,zeroValue,typeInfo,hi,hz,newVar,newRow]);exact j.out D S q (by simp only[execOp,f])
  ·simp[Sf,H] at h
 ·rename_i e x f;split at h
  ·rename_i K;by_cases H:(C.ti e).ok=true
   ·obtain⟨i,hi,a2,a3⟩:=H8 H;have P:(opnd C L.sl x).cells≠[]:=by intro e;rw[e] at K;simp at K;omega
    obtain⟨v,H',q,j⟩:=Ur (V:=a.eval x) (sl:=L.sl) (tmps:=a.tmps) (m:=Instr.box e (a.eval x)) S.hr h ((S.opnd x).1.cells' P) (λc hc=>(S.opnd x).2 c (PV.cells_nms c hc)) (by simp[Instr.box,newVar,newRow]);exact j.out D S q (by simp only[execOp,f])
   ·simp[Sf,H] at h
  ·cases h
 ·rename_i f;exact absurd (by rw[f];rfl) g
 ·rename_i t len parts f;obtain⟨h1,h2⟩:=S.parts parts.toList;cases T:C.stab t with
  | true=>
   simp only[T,cond_true] at h;obtain⟨v,q,j,_⟩:=Ev (ps:=parts.map λ(i,x)=>(i,a.eval x)) (sl:=L.sl) (tmps:=a.tmps) S.hr h (by rw[r9];exact h1);exact j.out D S q (by simp only[execOp,f])
  | false=>
  simp only[T,cond_false] at h;obtain⟨v,H',q,j,_⟩:=Dj (ps:=parts.map λ(i,x)=>(i,a.eval x)) (sl:=L.sl) (tmps:=a.tmps) S.hr h (by rw[r9];exact h1);exact j.out D S q (by simp only[execOp,f])
 ·rename_i f;exact absurd (by rw[f];rfl) g
 ·rename_i t x y f;obtain⟨H',q,j⟩:=GZ (sl:=L.sl) (tmps:=a.tmps) S.hr h (S.opnd x).1 (S.opnd y).1 (S.opnd y).2;exact j.outU D S q (by simp only[execOp,f])
 ·rename_i f;exact absurd (by rw[f];rfl) g
 ·rename_i f;exact absurd (by rw[f];rfl) g
 ·rename_i f;exact absurd (by rw[f];rfl) g
 ·rename_i a6 a4 x f;split at h
  ·obtain⟨v,q,j⟩:=EF (sl:=L.sl) (tmps:=a.tmps) S.hr h (S.opnd x).1;exact j.out D S q (by simp only[execOp,f])
  ·rename_i P;refine absurd ?_ g;rw[f];simp only[H9]
   done
 ·rename_i f;exact absurd (by rw[f];rfl) g
 ·rename_i t l c f;obtain⟨v,H',q,j⟩:=Qh (sl:=L.sl) (tmps:=a.tmps) S.hr h (S.opnd l).1 (S.opnd c).1;exact j.out D S q (by simp only[execOp,f])
 ·rename_i f;exact absurd (by rw[f];rfl) g
 ·rename_i f;exact absurd (by rw[f];rfl) g
 ·rename_i f;exact absurd (by rw[f];rfl) g
 ·rename_i f;exact absurd (by rw[f];rfl) g
 ·rename_i f;exact absurd (by rw[f];rfl) g
 ·rename_i t x f;split at h
  ·rename_i l hx;split at h
   ·rename_i a1;have j:=(S.opnd x).1;rw[hx] at j;obtain⟨s,e,rfl⟩:=j.inv_str;have:=An3 (C:=C) (s:=s) (sl:=L.sl) (tmps:=a.tmps) S.hr (U6 a1);exact this.out D S h (by simp only[execOp,f,e])
   ·cases h
  ·cases h
 ·rename_i it f;split at h
  ·rename_i b hx;have j:=(S.opnd it).1;rw[hx] at j;split at h
   ·rename_i l p hb;by_cases X:p<l.length
    ·simp only[X,decide_true,Bb,cond_true] at h;have:=Az3 (C:=C) (ty:=o.type) (sl:=L.sl) (tmps:=a.tmps) S.hr j hb X;exact this.out D S h (by simp only[execOp,f])
    ·simp only[X,decide_false,Bb,cond_false] at h;have:=JV (C:=C) (ty:=o.type) S.hr j hb X;exact(this.out S h (by simp only[execOp,f])).loud
   ·cases h
  ·cases h
 ·rename_i t f;obtain⟨v,H',q,j,_⟩:=Ie (sl:=L.sl) (tmps:=a.tmps) S.hr h;exact j.out D S q (by simp only[execOp,f,Option.map_none])
 ·rename_i f;exact absurd (by rw[f];rfl) g
 ·rename_i t m x y f;obtain⟨H',q,j⟩:=Yl (sl:=L.sl) (tmps:=a.tmps) S.hr h (S.opnd m).1 (S.opnd x).1 (S.opnd y).1 (S.opnd y).2;exact j.outU D S q (by simp only[execOp,f])
 ·rename_i f;exact absurd (by rw[f];rfl) g
 ·rename_i c f;split at h
  ·rename_i b B;unfold Ai at h;dsimp only at h;split at h
   ·exact absurd (by rw[f];simp[H9,B]) g
   ·rename_i t u s x F n;obtain⟨s0,O,G,rfl,rfl⟩:=HW n;have A:c.argTypes=[t,u].toArray:=by rw[<-F]
    split at h
    ·rename_i hu;obtain⟨v,a5,H',q,j⟩:=Ka (ty:=o.type) (tmps:=a.tmps) S.hr hu h (S.opnd s0).1 (S.opnd O).1;refine j.out D S q ?_;obtain⟨Z,N⟩:=M9 (ρ:=a.eval) f B;rw[N,G,A];simp[builtin]
    grind
   ·rename_i t u d x F n;obtain⟨s0,O,G,rfl,rfl⟩:=HW n;have A:c.argTypes=[t,u].toArray:=by rw[<-F]
    obtain⟨v,H',q,j⟩:=IN (u:=u) (ty:=o.type) (sl:=L.sl) (tmps:=a.tmps) S.hr h (S.opnd s0).1 (S.opnd O).1;refine j.out D S q ?_;obtain⟨Z,N⟩:=M9 (ρ:=a.eval) f B;rw[N,G,A];simp[builtin]
   ·exact absurd (by rw[f];simp[H9,B]) g
   ·exact absurd (by rw[f];simp[H9,B]) g
   ·rename_i t x F n;obtain⟨O,G,rfl⟩:=Ba5 n;have A:c.argTypes = #[t]:=by rw[<-F]
    obtain⟨H',q,j⟩:=EU (ty:=o.type) (sl:=L.sl) (tmps:=a.tmps) S.hr h (S.opnd O).1;refine j.out D S q ?_;obtain⟨Z,N⟩:=M9 (ρ:=a.eval) f B;rw[N,G,A];simp[builtin]
   ·rename_i t M m x F n;obtain⟨m0,O,G,rfl,rfl⟩:=HW n;have A:c.argTypes=(t::M).toArray:=by rw[<-F]
    obtain⟨H',q,j⟩:=Yk (ts:=M) (ty:=o.type) (sl:=L.sl) (tmps:=a.tmps) S.hr h (S.opnd m0).1 (S.opnd O).1;refine j.out D S q ?_;obtain⟨Z,N⟩:=M9 (ρ:=a.eval) f B;rw[N,G,A];simp[builtin]
   ·cases h
  ·rename_i B;rw[f] at hq;simp[Pq,B] at hq
  ·cases h
 ·cases h
end
theorem Gm(f:Nat->Nat)(l:List PV):rnL f l=l.map (PV.rn f):=by
 induction l with
 | nil=>rfl
 | cons v r a=>simp[rnL,a]
theorem X7(H:List Blk)(l:List PV):N1 H l=l.map (PV.snap H):=by
 induction l with
 | nil=>rfl
 | cons v r a=>simp[N1,a]
theorem Y5{l:List PV}(h:Eh l=true):∀v∈l,v.clean=true:=by
 induction l with
 | nil=>simp
 | cons a l b=>
  simp only[Eh,a7] at h;grind
mutual
theorem PV.rn_nms(f:Nat->Nat):∀v:PV,(v.rn f).nms=v.nms.map f
 | .s _=>rfl
 | .nsl=>rfl
 | .fl b=>rfl
 | .vw b _ _=>rfl
 | .ptr b _ _=>rfl
 | .fnr _ x y=>by simp only[PV.rn,PV.nms,af3,Bp f x,Bp f y]
 | .it b=>rfl
 | .yd=>rfl
 | .agg l=>by simp only[PV.rn,PV.nms,Bp f l]
 | .tup l=>by simp only[PV.rn,PV.nms,Bp f l]
 | .bad=>rfl
theorem Bp(f:Nat->Nat):∀l:List PV,B9 (rnL f l)=(B9 l).map f
 | []=>rfl
 | v::r=>by simp only[rnL,B9,af3,PV.rn_nms f v,Bp f r]
end
theorem Blk.rn_nms(f:Nat->Nat)(x:Blk):(x.rn f).nms=x.nms.map f:=by
 have e:∀l:List PV,l.map (PV.rn f)=rnL f l:=λl=>(Gm f l).symm
 cases x<;>simp only[Blk.rn,Blk.nms,Bp,Ym,ae2,ac1]
 rename_i ents;rw[<-Bp,<-e,ae2];rfl
theorem Blk.rn_shp(f:Nat->Nat)(x:Blk):(x.rn f).shp=x.shp:=by cases x<;>rfl
theorem VS.clean{St St':Nat->Prop}{w w':World}{v:SV}{V:Value}(h:VS St w v V)(hc:v.plain=true):VS St' w' v V:=by
 cases h with
 | bool=>exact .bool _
 | int=>exact .int _ _
 | str=>exact .str _
 | nilp=>exact .nilp
 | nilm=>exact .nilm
 | nilf=>exact .nilf
 | nil=>simp[SV.plain] at hc
 | emp=>simp[SV.plain] at hc
 | sl=>simp[SV.plain] at hc
 | sp=>simp[SV.plain] at hc
 | fn=>simp[SV.plain] at hc
theorem VP.rn{f:Nat->Nat}{Γ Γ':Ctx}{sh sh':Nat->Option Shp}{w:World}(hyv:Γ'.yv=Γ.yv){v:PV}{V:Value}(h:VP Γ sh w v V) :
  (v.clean=true\/∀g,Γ.St g->Γ'.St g)->(∀b∈v.nms,Γ'.nm (f b)=Γ.nm b/\sh' (f b)=sh b)->VP Γ' sh' w (v.rn f) V:=by
 induction h with
 | s v V h=>
  intro hc _;rcases hc with hc|hc
  ·refine .s _ _ (h.clean ?_);cases v<;>simp_all [PV.clean,SV.plain]
  ·exact .s _ _ (h.mono (λ_ _=>rfl) hc)
 | nsl=>intro _ _;exact .nsl
 | flv b e sz h=>intro _ hn;exact .flv _ e sz (by rw[(hn b (by simp[PV.nms])).2];exact h)
 | fl b g v e sz n cap h hv hg hcap hm hs=>
  intro _ hn;have o:=hn b (by simp[PV.nms]);exact .fl _ g v e sz n cap (by rw[o.2];exact h) hv (by rw[o.1];exact hg) hcap hm hs
 | vwv b e sz i h=>intro _ hn;exact .vwv _ e sz i (by rw[(hn b (by simp[PV.nms])).2];exact h)
 | vw b i n g a cap v e sz m h hv hg ha hi hcap hm=>
  intro _ hn;have o:=hn b (by simp[PV.nms]);exact .vw _ i n g a cap v e sz m (by rw[o.2];exact h) hv (by rw[o.1];exact hg) ha hi hcap hm
 | ptrA b i off g v e sz n h hg=>
  intro _ hn;have o:=hn b (by simp[PV.nms]);exact .ptrA _ i off g v e sz n (by rw[o.2];exact h) (by rw[o.1];exact hg)
 | ptrB b off g h hg=>
  intro _ hn;have o:=hn b (by simp[PV.nms]);exact .ptrB _ off g (by rw[o.2];exact h) (by rw[o.1];exact hg)
 | fnr g x y A B As Bs hf hA hB ha hb hx hy ihx ihy=>
  intro hc hn;simp only[PV.rn,Gm];refine .fnr g _ _ A B As Bs hf (by simpa using hA) (by simpa using hB) (λj h=>ha j (by simpa using h)) (λj h=>hb j (by simpa using h)) (λj h=>?_) (λj h=>?_)
  ·have hj:j<x.length:=by simpa using h
   rw[b8];refine ihx j hj (hc.imp (λe=>?_) id) (λb hb=>hn b (by simp only[PV.nms,p9];exact .inl (B7.2 ⟨j,hj,hb⟩)));simp only[PV.clean,a7] at e;exact Y5 e.1 _ (b9 hj)
  ·have hj:j<y.length:=by simpa using h
   rw[b8];refine ihy j hj (hc.imp (λe=>?_) id) (λb hb=>hn b (by simp only[PV.nms,p9];exact .inr (B7.2 ⟨j,hj,hb⟩)));simp only[PV.clean,a7] at e;exact Y5 e.2 _ (b9 hj)
 | it b g h hg=>
  intro _ hn;have o:=hn b (by simp[PV.nms]);exact .it _ g (by rw[o.2];exact h) (by rw[o.1];exact hg)
 | mpv b g h hg=>
  intro _ hn;have o:=hn b (by simp[PV.nms]);exact .mpv _ g (by rw[o.2];exact h) (by rw[o.1];exact hg)
 | yd=>intro _ _;rw[<-hyv];exact .yd
 | agg l A As hA ha hl ih=>
  intro hc hn;simp only[PV.rn,Gm];refine .agg _ A As (by simpa using hA) (λj h=>ha j (by simpa using h)) (λj h=>?_);have hj:j<l.length:=by simpa using h
  rw[b8];refine ih j hj (hc.imp (λe=>?_) id) (λb hb=>hn b (by simp only[PV.nms];exact B7.2 ⟨j,hj,hb⟩));simp only[PV.clean] at e;exact Y5 e _ (b9 hj)
 | tup l A As hA ha hl ih=>
  intro hc hn;simp only[PV.rn,Gm];refine .tup _ A As (by simpa using hA) (λj h=>ha j (by simpa using h)) (λj h=>?_);have hj:j<l.length:=by simpa using h
  rw[b8];refine ih j hj (hc.imp (λe=>?_) id) (λb hb=>hn b (by simp only[PV.nms];exact B7.2 ⟨j,hj,hb⟩));simp only[PV.clean] at e;exact Y5 e _ (b9 hj)
 | bad V=>intro _ _;exact .bad V
theorem Bh8(f:Nat->Nat)(a:Bool)(l:List SV):(svV a l).rn f=svV a l:=by
 cases a with
 | true=>simp only[svV,cond_true,PV.rn,Gm,ae2];rfl
 | false=>simp only[svV,cond_false];split<;>rfl
theorem Ac1{a:Bool}{l:List SV}(h:l.all SV.plain=true):(svV a l).clean=true:=by
 have key:∀x:SV,x.plain=true->(PV.s x).clean=true:=λx b=>by cases x<;>first|rfl|cases b
 cases a with
 | true=>
  simp only[svV,cond_true,PV.clean]
  induction l with
  | nil=>rfl
  | cons x l c=>
   simp only[List.all_cons,a7] at h;simp only[p5,Eh,a7];exact⟨key x h.1,c h.2⟩
 | false=>
  simp only[svV,cond_false];split
  ·rename_i x;exact key x (by simpa using h)
  ·rfl
theorem BR.rn{f:Nat->Nat}{Γ Γ':Ctx}{sh sh':Nat->Option Shp}{w:World}(hyv:Γ'.yv=Γ.yv){b b':Nat}{x:Blk}(h:BR Γ sh w b x)(hc:x.clean=true\/∀g,Γ.St g->Γ'.St g)(hb:Γ'.nm b'=Γ.nm b)
  (hn:∀c∈x.nms,Γ'.nm (f c)=Γ.nm c/\sh' (f c)=sh c):BR Γ' sh' w b' (x.rn f):=by
 cases x with
 | arr v e sz els=>
  rcases h with h|⟨hn,g,cur,h1,h2,h3,h4,h5⟩
  ·exact .inl h
  ·refine .inr ⟨hn,g,cur,by rw[hb];exact h1,h2,h3,h4,λi hi j hj=>?_⟩;obtain⟨V,e1,e2⟩:=h5 i hi j hj;refine⟨V,e1,?_⟩;rcases hc with hc|hc
   ·simp only[Blk.clean,j0] at hc;exact e2.clean (hc _ (b9 hi) _ (b9 hj))
   ·exact e2.mono (λ_ _=>rfl) hc
 | box cells=>
  obtain⟨g,cur,e,h1,h2,h3,h4⟩:=h;simp only[Blk.rn,Gm];refine⟨g,cur,e,by rw[hb];exact h1,h2,by simpa using h3,λj hj=>?_⟩;have hj':j<cells.length:=by simpa using hj
  obtain⟨V,e1,e2⟩:=h4 j hj';rw[b8];refine⟨V,e1,e2.rn hyv (hc.imp (λe=>?_) id) (λc hc=>hn c (by simp only[Blk.nms];exact B7.2 ⟨j,hj',hc⟩))⟩;simp only[Blk.clean] at e;exact Y5 e _ (b9 hj')
 | iter s p=>
  obtain⟨g,s',h1,h2,h3⟩:=h;exact⟨g,s',by rw[hb];exact h1,h2,h3⟩
 | mp ents=>
  obtain⟨g,es,ck,h1,h2,h3⟩:=h;exact⟨g,es,ck,by rw[hb];exact h1,h2,h3.map λv hv V k=>k.rn hyv (hc.imp (λe=>Y5 e v hv) id) λc hc=>hn c (Qi hv c hc)⟩
 | ms a ents=>
  obtain⟨g,es,ck,h1,h2,h3⟩:=h;refine⟨g,es,ck,by rw[hb];exact h1,h2,h3.imp λv hv V k=>?_⟩;obtain⟨e,he,rfl⟩:=Sv hv;have:=k.rn (f:=f) (sh':=sh') hyv (hc.imp (λq=>Ac1 (j0.1 q e he)) id) (λc hc=>by rw[HA] at hc;simp at hc);rwa [Bh8] at this
 | dead=>trivial
theorem QG{l:List Nat}{b c:Nat}:c∈Aw l b↔c∈l\/c=b:=by
 unfold Aw;split
 ·rename_i h;have a:b∈l:=by simpa using h
  exact⟨.inl,λh=>h.elim id (λe=>e▸a)⟩
 ·simp
theorem Cs:∀(xs a:List Nat) (c:Nat),c∈xs.foldl Aw a↔c∈a\/c∈xs
 | [],a,c=>by simp
 | x::xs,a,c=>by rw[aa5,Cs xs,QG,aa1,or_assoc]
theorem EC{l:List Nat}{b:Nat}(h:l.Nodup):(Aw l b).Nodup:=by
 unfold Aw;split
 ·exact h
 ·rename_i a;rw[List.nodup_append];refine⟨h,by simp,λx d y c e=>?_⟩;simp at c;subst c;subst e;simp at a;exact a d
theorem Fl:∀(xs a:List Nat),a.Nodup->(xs.foldl Aw a).Nodup
 | [],a,h=>h
 | x::xs,a,h=>by rw[aa5];exact Fl xs _ (EC h)
theorem Xu(H:List Blk):∀(l a:List Nat),a.Nodup->(l.foldl (λa b=>((H.getD b .dead).nms).foldl Aw a) a).Nodup
 | [],a,h=>h
 | x::l,a,h=>by rw[aa5];exact Xu H l _ (Fl _ _ h)
theorem LQ(H:List Blk):∀(l a:List Nat) c,c∈a->c∈l.foldl (λa b=>((H.getD b .dead).nms).foldl Aw a) a
 | [],a,c,h=>h
 | x::l,a,c,h=>by rw[aa5];exact LQ H l _ c ((Cs _ _ _).2 (.inl h))
theorem LP(H:List Blk)(p:Nat->Prop)(f:∀b,p b->∀c∈(H.getD b .dead).nms,p c):∀(l a:List Nat),(∀c∈a,p c)->(∀c∈l,p c)->∀c∈l.foldl (λa b=>((H.getD b .dead).nms).foldl Aw a) a,p c
 | [],a,h,_=>h
 | x::l,a,h,e=>by
  rw[aa5];refine LP H p f l _ (λc d=>?_) (λc d=>e c (by simp[d]));rcases(Cs _ _ _).1 d with d|d
  ·exact h c d
  ·exact f x (e x (by simp)) c d
theorem Gk(H:List Blk)(p:List Nat->Prop)(a:∀l,p l->p (Xf H l)):∀n l,p l->p (GJ H n l)
 | 0,l,h=>h
 | n+1,l,h=>by
  unfold GJ;cases y8 (Xf H l).length l.length with
  | true=>exact h
  | false=>exact Gk H p a n _ (a l h)
theorem Ru(H:List Blk)(l:List Nat):(Y2 H l).Nodup:=
 Gk H List.Nodup (λ_ h=>Xu H _ _ h) _ _ (Fl _ _ ag0)
theorem AV(H:List Blk)(l:List Nat):∀c∈l,c∈Y2 H l:=λc a=>
 Gk H (c∈·) (λ_ h=>LQ H _ _ c h) _ _ ((Cs _ _ _).2 (.inr a))
theorem AU(H:List Blk)(l:List Nat)(p:Nat->Prop)(g:∀b,p b->∀c∈(H.getD b .dead).nms,p c)(f:∀c∈l,p c):∀c∈Y2 H l,p c:=by
 have d:∀c∈l.foldl Aw [],p c:=λc e=>by
  rcases(Cs _ _ _).1 e with h|h
  ·simp at h
  ·exact f c h
 have step:∀m,(∀c∈m,p c)->∀c∈Xf H m,p c:=λm a=>LP H p g m m a a
 exact Gk H (λm=>∀c∈m,p c) step _ _ d
theorem Yd{H:List Blk}{a:List Nat}(h:Ak H a=true):∀b∈a,∀c∈(H.getD b .dead).nms,c∈a:=by intro b d c e;simp only[Ak,j0] at h;simpa using h b d c e
theorem U0{c:List Nat}{b:Nat}(h:b∈c):∃a:F2 c b<c.length,c[F2 c b]=b:=by have a:c.idxOf b<c.length:=List.idxOf_lt_length_of_mem h;exact⟨a,List.getElem_idxOf a⟩
theorem Gb{Γ:Ctx}{sh:Nat->Option Shp}{w:World}:∀(a:List Nat) (sl:List PV),(I4 a sl).length=sl.length/\(∀c∈B9 (I4 a sl),c∉a/\c∈B9 sl)/\
  ∀i (h:i<(I4 a sl).length) (f:i<sl.length) V,VP Γ sh w (sl[i]) V->VP Γ sh w ((I4 a sl)[i]) V
 | [],sl=>⟨rfl,λc g=>⟨by simp,g⟩,λi h f V k=>k⟩
 | b::a,sl=>by
  obtain⟨n,o,p⟩:=Gb (Γ:=Γ) (sh:=sh) (w:=w) a (Q4 b sl);have j:(Q4 b sl).length=sl.length:=by rw[W7];simp
  have e:I4 (b::a) sl=I4 a (Q4 b sl):=rfl;refine⟨by rw[e,n,j],λc g=>?_,λi h f V k=>?_⟩
  ·rw[e] at g;obtain⟨q,l⟩:=o c g;refine⟨?_,V4 b sl c l⟩;rintro d;rcases aa1.1 d with rfl|d
   ·exact N4 c sl l
   ·exact q d
  ·simp only[e];refine p i (by rw[e] at h;exact h) (by rw[j];exact f) V ?_;have m:(Q4 b sl)[i]'(by rw[j];exact f)=(sl[i]).kill b:=by simp[W7]
   rw[m];exact k.kill b
theorem Ia{Γ:Ctx}{sh:Nat->Option Shp}{w:World}:∀(a:List Nat) (H:List Blk),(M7 a H).length=H.length/\(∀b,A0 (M7 a H) b=A0 H b)/\
  ∀i (h:i<(M7 a H).length) (g:i<H.length),(∀c∈((M7 a H)[i]).nms,c∉a/\c∈(H[i]).nms)/\∀b,BR Γ sh w b (H[i])->BR Γ sh w b ((M7 a H)[i])
 | [],H=>⟨rfl,λ_=>rfl,λi h g=>⟨λc f=>⟨by simp,f⟩,λb l=>l⟩⟩
 | k::a,H=>by
  obtain⟨p,q,r⟩:=Ia (Γ:=Γ) (sh:=sh) (w:=w) a (H.map (Blk.kill k));have n:(H.map (Blk.kill k)).length=H.length:=by simp
  have e:M7 (k::a) H=M7 a (H.map (Blk.kill k)):=rfl;refine⟨by rw[e,p,n],λb=>by rw[e,q,Xq],λi h g=>?_⟩;have j:i<(H.map (Blk.kill k)).length:=by rw[n];exact g
  obtain⟨t,u⟩:=r i (by rw[e] at h;exact h) j;have m:(H.map (Blk.kill k))[i]=(H[i]).kill k:=by simp
  refine⟨λc f=>?_,λb l=>?_⟩
  ·simp only[e] at f;obtain⟨v,o⟩:=t c f;rw[m] at o;obtain⟨x,y⟩:=Blk.kill_nms' c o;refine⟨?_,y⟩;rintro d;rcases aa1.1 d with rfl|d
   ·exact x rfl
   ·exact v d
  ·simp only[e];exact u b (by rw[m];exact l.kill)
theorem Dw:∀(a:List Nat) (xs H:List Blk),a.Nodup->xs.length=a.length->(∀b∈a,b<H.length)->(U5 H a xs).length=H.length/\
  ∀b,(U5 H a xs)[b]? = if b∈a then xs[a.idxOf b]? else H[b]?
 | [],xs,H,_,f,_=>by cases xs<;>simp[U5]
 | n::a,[],H,_,f,_=>by simp at f
 | n::a,x::xs,H,i,f,d=>by
  obtain⟨j,k⟩:=Dw a xs (H.set n x) (af5.1 i).2 (by simpa using f) (λb c=>by simpa using d b (by simp[c]));have e:U5 H (n::a) (x::xs)=U5 (H.set n x) a xs:=rfl;refine⟨by rw[e,j];simp,λb=>?_⟩;rw[e,k];have l:n∉a:=(af5.1 i).1;by_cases c:b∈a
  ·have g:n≠b:=by rintro rfl;exact l c
   rw[if_pos c,if_pos (by simp[c]),List.idxOf_cons];have:(n==b)=false:=by simpa using g
   simp[this]
  ·rw[if_neg c,List.getElem?_set];by_cases e:n=b
   ·subst e;rw[if_pos rfl,if_pos (d n (by simp)),if_pos (by simp)];simp
   ·rw[if_neg e,if_neg (by simp only[aa1,not_or];exact⟨λh=>e h.symm,c⟩)]
def D9(a:Option Nat):Fence:={ ah2 with round:=a }
def L9(P:Program)(b:Result Next)(R:Value->World->Prop):Prop:=
 ∀(c:Option Nat) (n:Nat) (o:Oper) (a:Act) (next:Act->World->Prop) (Q:Exit->Act->World->Prop),(∀V w',R V w'->next (a.put o.dst V) w')->o.uponIn (D9 c) n P a next Q b
theorem L9.mono{P:Program}{res:Result Next}{R R':Value->World->Prop}(h:L9 P res R)(hr:∀V w',R V w'->R' V w'):L9 P res R':=
 λro n o a next Q hn=>h ro n o a next Q λV w' hR=>hn V w' (hr V w' hR)
def V9{e:Type}(C:Cfg)(I:e->(Nat->Prop)->(Nat->Prop)->World->Prop)(h:Ctx)(H:List Blk)(w:World)(i:Nat->Prop)(ret:PV)(d:List Blk)(f:e)(V:Value)(w':World):Prop:=
 ∃ Γ' a,Stp C h H w i Γ' d w' a/\HR Γ' d w'/\VP Γ' (A0 d) w' ret V/\(∀c∈ret.nms,c<d.length)/\I f Γ'.St a w'/\∀b g,Γ'.nm b=some g->¬a g
def NH{i:Type}(P:Program)(I:i->(Nat->Prop)->(Nat->Prop)->World->Prop)(j:Yh i)(k:Value):Prop:=
 ∀args s b h,j args s=some (b,h)->Er args=true->∀a e w f,I s a.St e w->(∀g,a.St g->g<w.heap.size)->CR a (λ_=>none) w args f->
  L9 P ((do let d <-o6 k f;invoke d.target d.args).run P w) λV w'=>V = .bool b/\∃St' c,I h St' c w'/\(∀g,a.St g->St' g)/\(∀g,St' g->a.St g\/w.heap.size<=g)/\(∀g,c g->e g\/w.heap.size<=g)/\
   (∀g,g<w.heap.size->¬e g->w'.heap[g]? = w.heap[g]?)/\w.heap.size<=w'.heap.size/\w'.os=w.os/\w'.tape=w.tape/\w'.output=w.output/\∀g,St' g->g<w'.heap.size
def W0(C:Cfg)(l:E2):Prop:=
 ∀(e:Type) (I:e->(Nat->Prop)->(Nat->Prop)->World->Prop) (j:Yh e) (k:Value),HI I->NH C.P I j k->
  ∀g args H s ret f i,l e j g args H s=some (ret,f,i)->∀a d w h,a.yv=k->HR a H w->GOK C a.St w->I s a.St d w->(∀b g,a.nm b=some g->¬d g)->CR a (A0 H) w args h->(∀c∈B9 args,c<H.length)->
   L9 C.P ((callFunc g h).run C.P w) (V9 C I a H w d ret f i)
def I0:Unit->(Nat->Prop)->(Nat->Prop)->World->Prop:=λ_ _ a _=>∀g,¬a g
def Bl7(C:Cfg):Prop:=
 ∀g e args ret c,C.X g=some e->G5 (e args)=some (ret,c)->∀a w d,(∀b,a.nm b=none)->HR a [] w->GOK C a.St w->CR a (A0 []) w args d->
  L9 C.P ((callFunc g d).run C.P w) (V9 C I0 a [] w noΦ ret c ())
def clY(C:Cfg):E2:=λ_ _ g args H s=>match C.Y g with
 | some a=>match G5 (a args H) with
  | some (r,h)=>some (r,h,s)
  | none=>none
 | none=>none
def Z9{b:Type}(c:Yh b):List (List PV)->b->Option b
 | [],s=>some s
 | x::xs,s=>match c x s with
  | some (true,a)=>Z9 c xs a
  | some (false,a)=>some a
  | none=>none
def clS(C:Cfg):E2:=λ_ c g args H s=>match C.S g with
 | some a=>if H.all Wd=true then match a args H with
  | some (true,L)=>match Z9 c L s with
   | some b=>some (.tup [],H.map Di,b)
   | none=>none
  | _=>none
  else none
 | none=>none
def J7(w w':World):Prop:=(Ext w w'/\w.heap.size<=w'.heap.size)/\w'.os=w.os/\w'.tape=w.tape/\w'.output=w.output
def At1:SV->Value->Value->Array Value
 | .nilp,S,_=>#[S]
 | _,S,X=>#[S,X]
def Ba4(P:Program)(g:Nat)(d:SV->List (List SV)->Bool × List (List SV)):Prop:=
 ∀(St:Nat->Prop) (w:World) (x:SV) (X:Value) (a:List (List SV)),VS St w x X->(d x a).1=true->
  (a=[]->L9 P ((callFunc g (At1 x (.slice none 0 0) X)).run P w) λV w'=>V=undef/\(d x a).2=[]/\J7 w w')/\
  ∀f c e l cap,w.heap[f]? = some (.cells c e (0,0))->c.size=cap*l->a.length<=cap->cap<=maxLen->¬St f->(∀g,St g->g<w.heap.size)->
   (∀i (h:i<a.length),(a[i]).length=l)->(∀i (h:i<a.length) j (m:j<(a[i]).length),∃V,c[i*l+j]? = some V/\VS St w (a[i][j]) V)->
   L9 P ((callFunc g (At1 x (.slice (some ⟨f,0,none⟩) a.length cap) X)).run P w) λV w'=>V=undef/\(d x a).2.length=a.length/\
    ∃w1 b,w1.heap[f]? = some (.cells b e (0,0))/\b.size=c.size/\(∀k,k≠f->w1.heap[k]? = w.heap[k]?)/\w1.heap.size=w.heap.size/\w1.os=w.os/\w1.tape=w.tape/\w1.output=w.output/\
     (∀i (h:i<(d x a).2.length),((d x a).2[i]).length=l)/\(∀i (h:i<(d x a).2.length) j (m:j<((d x a).2[i]).length),∃V,b[i*l+j]? = some V/\VS St w1 ((d x a).2[i][j]) V)/\J7 w1 w'
structure XOK (C:Cfg):Prop where
 x:Bl7 C
 y:W0 C (clY C)
 s:W0 C (clS C)
 z:∀g pf,C.Z g=some pf->Ba4 C.P g pf
section
variable {Γ : Ctx} {H : List Blk} {w : World} {C : Cfg}
def Ctx.all(Γ:Ctx):Ctx:={ Γ with St:=λg=>Γ.St g\/∃b,Γ.nm b=some g }
theorem GP{St':Nat->Prop}{b e f i n:Nat}{v:Bool}{c:List (List SV)}{a:Addr}{cap g:Nat}(K:HR Γ H w)(M:H[b]? = some (.arr v e f c))(y:¬(v=true/\c=[]))(N:Γ.nm b=some g)(Q:i+n<=c.length)(L:n≠0->a=⟨g,i*f,none⟩)(o:n<=cap)(G:cap<=maxLen)(z:∀g,Γ.St g->St' g)(u:St' g) :
  VS St' w (.sl false false f ((c.drop i).take n)) (.slice (some a) n cap):=by
 by_cases I:n=0
 ·subst I;rw[List.take_zero];exact .emp false f a cap (by simp) G
 ·rw[L I];obtain⟨O,d,B,D,P,J,F⟩:=K.arr' M y;rw[N] at B;cases B;have p:((c.drop i).take n).length=n:=by simp;omega
  have h:∀k (l:k<((c.drop i).take n).length),∃m:i+k<c.length,((c.drop i).take n)[k]=c[i+k]:=λk l=>by grind
  have t:∀k,k<d.size->w.cell? ⟨g,k,none⟩=d[k]?:=λk _=>cell_of_row w g k d e (0,0) D
  refine .sl false _ g (i*f) n cap f (λk j=>d.getD (i*f+k*f+j) undef) p.symm o G (by simp) u (λk l=>?_) (λk l j x=>?_) (λk l j x=>?_)
  ·obtain⟨m,e⟩:=h k l;rw[e];exact J _ m
  ·obtain⟨m,e⟩:=h k l;obtain⟨V,r,A⟩:=F _ m j (by rw[<-e];exact x);have q:d[i*f+k*f+j]? = some V:=by rw[<-r,aa8]
   rw[cell_of_row w g _ d _ (0,0) D,q];simp[j2,q]
  ·obtain⟨m,e⟩:=h k l;obtain⟨V,r,A⟩:=F _ m j (by rw[<-e];exact x);have q:d[i*f+k*f+j]? = some V:=by rw[<-r,aa8]
   simp only[e,j2,q];exact A.mono (λ_ _=>rfl) z
theorem VP.toAll{sh:Nat->Option Shp}{v:PV}{V:Value}(h:VP Γ sh w v V):VP Γ.all sh w v V:=
 h.mono (Γ':=Γ.all) (ok:=λ_=>True) ⟨λ_ _=>rfl,λ_ h=>aa7 h,λ_ _=>rfl,λ_ _=>rfl,λ_ _ _ _=>rfl,rfl⟩ (λ_ _=>trivial)
theorem VP.snap(hH:HR Γ H w){v:PV}{V:Value}(h:VP Γ (A0 H) w v V):VP Γ.all (A0 H) w (v.snap H) V:=by
 generalize hsh:A0 H=sh at h
 induction h with
 | s v V h=>exact(VP.s v V h).toAll
 | nsl=>exact .s _ _ (.nil _ _)
 | flv b e sz h=>
  subst hsh;obtain⟨x,hx,hs⟩:∃x,H[b]? = some x/\x.shp = .arr true e sz 0:=by simpa[A0] using h
  cases x<;>simp[Blk.shp] at hs
  rename_i v' e' sz' els;obtain⟨rfl,rfl,rfl,h4⟩:=hs;subst h4;simp only[PV.snap,hx];exact .s _ _ (.nil _ _)
 | fl b g v e sz n cap h hv hg hcap hm hs=>
  subst hsh;obtain⟨x,hx,hs'⟩:∃x,H[b]? = some x/\x.shp = .arr v e sz n:=by simpa[A0] using h
  cases x<;>simp[Blk.shp] at hs'
  rename_i v' e' sz' els;obtain⟨rfl,rfl,rfl,rfl⟩:=hs';have hne:¬(v'=true/\els=[]):=by rintro⟨q1,q2⟩;exact hv q1 (by rw[q2];rfl)
  have hz:(v'&&els.isEmpty)=false:=by grind
  simp only[PV.snap,hx,hz];have:=GP (i:=0) (n:=els.length) (a:=⟨g,0,none⟩) (cap:=cap) hH hx hne hg (by omega) (λ_=>by simp) hcap hm (St':=Γ.all.St) (λ_ h=>aa7 h) (.inr ⟨b,hg⟩);simp only[af8,ae8] at this;exact .s _ _ this
 | vwv b e sz i h=>
  subst hsh;obtain⟨x,hx,hs⟩:∃x,H[b]? = some x/\x.shp = .arr true e sz 0:=by simpa[A0] using h
  cases x<;>simp[Blk.shp] at hs
  rename_i v' e' sz' els;obtain⟨rfl,rfl,rfl,h4⟩:=hs;subst h4;simp only[PV.snap,hx,ag5,ag6];exact .s _ _ (.nil _ _)
 | vw b i n g a cap v e sz m h hv hg ha hi hcap hm=>
  subst hsh;obtain⟨x,hx,hs'⟩:∃x,H[b]? = some x/\x.shp = .arr v e sz m:=by simpa[A0] using h
  cases x<;>simp[Blk.shp] at hs'
  rename_i v' e' sz' els;obtain⟨rfl,rfl,rfl,rfl⟩:=hs';have hne:¬(v'=true/\els=[]):=by rintro⟨q1,q2⟩;exact hv q1 (by rw[q2];rfl)
  have hz:(v'&&els.isEmpty)=false:=by grind
  simp only[PV.snap,hx,hz];exact .s _ _ (GP hH hx hne hg hi ha hcap hm (λ_ h=>aa7 h) (.inr ⟨b,hg⟩))
 | ptrA b i off g v e sz n h hg=>exact(VP.ptrA b i off g v e sz n h hg).toAll
 | ptrB b off g h hg=>exact(VP.ptrB b off g h hg).toAll
 | fnr f x y A B As Bs hf hA hB ha hb hx hy ihx ihy=>exact(VP.fnr f x y A B As Bs hf hA hB ha hb hx hy).toAll
 | it b g h hg=>exact(VP.it b g h hg).toAll
 | mpv b g h hg=>exact(VP.mpv b g h hg).toAll
 | yd=>exact .yd
 | agg l A As hA ha hl ih=>
  simp only[PV.snap,X7];refine .agg _ A As (by simpa using hA) (λj h=>ha j (by simpa using h)) (λj h=>?_);grind
 | tup l A As hA ha hl ih=>exact(VP.tup l A As hA ha hl).toAll
 | bad V=>exact .bad V
theorem BF{l:List PV}(h:Rw l=false):∀v∈l,v.rows=false:=by
 induction l with
 | nil=>simp
 | cons a l b=>
  simp only[Rw,Bool.or_eq_false_iff] at h;grind
theorem VP.snap_plain{sh:Nat->Option Shp}{v:PV}{V:Value}(h:VP Γ sh w v V):v.rows=false->VP Γ sh w (v.snap H) V/\∀c∈(v.snap H).nms,c∈v.nms:=by
 induction h with
 | nsl=>intro _;exact⟨.s _ _ (.nil _ _),by simp[PV.snap,PV.nms]⟩
 | flv b e sz h=>intro hr;simp[PV.rows] at hr
 | fl b g v e sz n cap h hv hg hcap hm hs=>intro hr;simp[PV.rows] at hr
 | vwv b e sz i h=>intro hr;simp[PV.rows] at hr
 | vw b i n g a cap v e sz m h hv hg ha hi hcap hm=>intro hr;simp[PV.rows] at hr
 | agg l A As hA ha hl ih=>
  intro hr;simp only[PV.rows] at hr;have hr':=BF hr;simp only[PV.snap,X7];refine⟨.agg _ A As (by simpa using hA) (λj h=>ha j (by simpa using h)) (λj h=>?_),λc hc=>?_⟩
  ·grind
  ·simp only[PV.nms] at hc ⊢;obtain⟨j,hj,hc⟩:=B7.1 hc;rw[b8] at hc;exact B7.2 ⟨j,by simpa using hj,(ih j (by simpa using hj) (hr' _ (b9 _))).2 c hc⟩
 | s v V h=>intro _;exact⟨.s v V h,λc hc=>hc⟩
 | ptrA b i off g v e sz n h hg=>intro _;exact⟨.ptrA b i off g v e sz n h hg,λc hc=>hc⟩
 | ptrB b off g h hg=>intro _;exact⟨.ptrB b off g h hg,λc hc=>hc⟩
 | fnr f x y A B As Bs hf hA hB ha hb hx hy ihx ihy=>intro _;exact⟨.fnr f x y A B As Bs hf hA hB ha hb hx hy,λc hc=>hc⟩
 | it b g h hg=>intro _;exact⟨.it b g h hg,λc hc=>hc⟩
 | mpv b g h hg=>intro _;exact⟨.mpv b g h hg,λc hc=>hc⟩
 | yd=>intro _;exact⟨.yd,λc hc=>hc⟩
 | tup l A As hA ha hl ih=>intro _;exact⟨.tup l A As hA ha hl,λc hc=>hc⟩
 | bad V=>intro _;exact⟨.bad V,λc hc=>hc⟩
theorem CR.snap(hH:HR Γ H w){l:List PV}{A:Array Value}(h:CR Γ (A0 H) w l A):CR Γ.all (A0 H) w (N1 H l) A:=by rw[X7];refine⟨by rw[o5];exact h.1,λj hj=>?_⟩;obtain⟨U,e,k⟩:=h.2 j (by simpa using hj);exact⟨U,e,by rw[b8];exact k.snap hH⟩
theorem CR.snap_plain{l:List PV}{A:Array Value}(h:CR Γ (A0 H) w l A)(hr:Rw l=false):CR Γ (A0 H) w (N1 H l) A/\∀c∈B9 (N1 H l),c∈B9 l:=by
 have hr':=BF hr;rw[X7];refine⟨⟨by rw[o5];exact h.1,λj hj=>?_⟩,λc hc=>?_⟩
 ·obtain⟨U,e,k⟩:=h.2 j (by simpa using hj);exact⟨U,e,by rw[b8];exact(k.snap_plain (hr' _ (b9 _))).1⟩
 ·obtain⟨j,hj,hc⟩:=B7.1 hc;rw[b8] at hc;have hj':j<l.length:=by simpa using hj
  obtain⟨U,e,k⟩:=h.2 j hj';exact B7.2 ⟨j,hj',(k.snap_plain (hr' _ (b9 _))).2 c hc⟩
theorem VP.snapP(hH:HR Γ H w){v:PV}{V:Value}(h:VP Γ (A0 H) w v V):VP Γ.all (A0 H) w (v.snapP H) V:=by
 unfold PV.snapP;split
 ·rename_i b off;split
  ·rename_i cells hb;split
   ·rename_i vs hvs;obtain⟨g,cur,e,hg,hh,hcur,hcells,_⟩:=hH.box' hb;have hV:V = .pointer (some ⟨g,off,none⟩):=by
     cases h with
     | ptrA _ _ _ g' v e sz n h' hg'=>simp[A0,hb,Blk.shp] at h'
     | ptrB _ _ g' h' hg'=>rw[hg] at hg';cases hg';rfl
    subst hV;have hl:(N1 H cells).length=cells.length:=by rw[X7,o5]
    obtain⟨f1,f2⟩:=K8 (Γ:=Γ.all) (w:=w) (sh:=A0 H) (As:=cur.toList) hvs (by rw[hl];simpa using hcur.symm) (λj hj=>by
     obtain⟨U,e1,k⟩:=hcells j (by omega);refine⟨U,by simpa using e1,?_⟩;have e2:(N1 H cells)[j]=(cells[j]'(by omega)).snap H:=by simp only[X7,b8]
     rw[e2];exact k.snap hH)
    refine .s _ _ ?_;have hvl:vs.length=cells.length:=by rw[f1];simpa using hcur
    have:=VS.sp (St:=Γ.all.St) (w:=w) [vs] 0 off g 0 vs.length (λ_ j=>cur.getD j undef) (.inr ⟨b,hg⟩) (λi hi=>by
      have:i=0:=by simpa using hi
      subst this;rfl) (λi hi j hj=>?_) (λi hi j hj=>?_)
    ·simpa using this
    ·have:i=0:=by simpa using hi
     subst this;have hj':j<cur.size:=by rw[hcur,<-hvl];exact hj
     simp[ad7,hh,hj']
    ·have:i=0:=by simpa using hi
     subst this;have hj1:j<vs.length:=hj;obtain⟨U,e1,k⟩:=f2 j hj1;have e3:cur.getD j undef=U:=by rw[j2,<-ab2,e1];rfl
     rw[e3];exact k
   ·exact h.toAll
  ·exact h.toAll
 ·exact h.snap hH
theorem VP.snapA(hH:HR Γ H w){v:PV}{V:Value}(h:VP Γ (A0 H) w v V):VP Γ.all (A0 H) w (v.snapA H) V:=by
 unfold PV.snapA;split
 ·rename_i f x y;split
  ·rename_i a b ha hb;cases h with
   | fnr _ _ _ A B As Bs hf hA hB hAs hBs hx hy=>
    obtain⟨p1,p2⟩:=K8 (Γ:=Γ.all) (w:=w) (sh:=A0 H) (As:=A.toList) ha (by simp[hA]) (λj hj=>by
     have hj':j<x.length:=by simpa using hj
     exact⟨As j,by simpa using hAs j hj',by rw[b8];exact(hx j hj').snapP hH⟩)
    obtain⟨q1,q2⟩:=K8 (Γ:=Γ.all) (w:=w) (sh:=A0 H) (As:=B.toList) hb (by simp[hB]) (λj hj=>by
     have hj':j<y.length:=by simpa using hj
     exact⟨Bs j,by simpa using hBs j hj',by rw[b8];exact(hy j hj').snapP hH⟩)
    have ex:a.length=x.length:=by rw[p1];simpa using hA
    have ey:b.length=y.length:=by rw[q1];simpa using hB
    refine .s _ _ (VS.fn f a b A B As Bs hf (by rw[hA,ex]) (by rw[hB,ey]) (λj hj=>hAs j (by omega)) (λj hj=>hBs j (by omega)) (λj hj=>?_) (λj hj=>?_))
    ·obtain⟨U,e,k⟩:=p2 j hj;have:U=As j:=by
      have h1:=hAs j (by omega);rw[ab2,h1] at e;exact(ab9 e).symm
     rw[<-this];exact k
    ·obtain⟨U,e,k⟩:=q2 j hj;have:U=Bs j:=by
      have h1:=hBs j (by omega);rw[ab2,h1] at e;exact(ab9 e).symm
     rw[<-this];exact k
  ·exact h.toAll
 ·exact h.snapP hH
theorem CR.argX(hH:HR Γ H w){l:List PV}{A:Array Value}(h:CR Γ (A0 H) w l A):CR Γ.all (A0 H) w (argX H l) A:=by
 unfold E.argX;cases (B9 (N1 H l)).isEmpty with
 | true=>exact h.snap hH
 | false=>
  refine⟨by simpa using h.1,λj hj=>?_⟩;simp only[cond_false,o5] at hj;obtain⟨U,e,k⟩:=h.2 j hj;exact⟨U,e,by simp only[cond_false,b8];exact k.snapA hH⟩
theorem CR.argX_plain{l:List PV}{A:Array Value}(h:CR Γ (A0 H) w l A)(hp:Qj H l=true):CR Γ (A0 H) w (E.argX H l) A:=by unfold Qj at hp;rw[a7,u6] at hp;unfold E.argX;rw[hp.1];exact(h.snap_plain hp.2).1
theorem CR.bare{Γ':Ctx}{sh sh':Nat->Option Shp}{l:List PV}{A:Array Value}(h:CR Γ sh w l A)(hn:B9 l=[])(hst:∀g,Γ.St g->Γ'.St g)(hyv:Γ'.yv=Γ.yv):CR Γ' sh' w l A:=
 ⟨h.1,λj hj=>by
  obtain⟨U,e,k⟩:=h.2 j hj;refine⟨U,e,k.mono (ok:=λ_=>False) ⟨λ_ _=>rfl,hst,λ_ h=>h.elim,λ_ h=>h.elim,λ_ _ h=>h.elim,hyv⟩ (λb hb=>?_)⟩;have:b∈B9 l:=B7.2 ⟨j,hj,hb⟩;rw[hn] at this;simp at this⟩
theorem Qw{St':Nat->Prop}{w':World}(d:HR Γ H w)(a:∀g,g<w.heap.size->w'.heap[g]? = w.heap[g]?)(e:∀g,Γ.St g->St' g):R8 Γ (A0 H) w { Γ with St:=St' } (A0 H) w' (λ_=>True):=
 ⟨λg c=>a g (d.stlt g c),e,λ_ _=>rfl,λ_ _=>rfl,λb g _ c=>D2 (a g (d.lt b g c).2.1),rfl⟩
theorem A56{St':Nat->Prop}{w':World}(c:HR Γ H w)(a:∀g,g<w.heap.size->w'.heap[g]? = w.heap[g]?)(i:w.heap.size<=w'.heap.size)(h:∀g,Γ.St g->St' g)(j:∀g,St' g->Γ.St g\/w.heap.size<=g)(e:∀g,St' g->g<w'.heap.size):HR { Γ with St:=St' } H w':=by refine⟨c.inj,λb g d=>?_,e,c.nms,λb f=>(c.blk b f).mono (Qw c a h) rfl (λg d=>a g (c.lt b g d).2.1) (λ_ _=>trivial)⟩;have:=c.lt b g d;grind
theorem Aq7{St':Nat->Prop}{w':World}{Φ:Nat->Prop}(e:HR Γ H w)(a:∀g,g<w.heap.size->w'.heap[g]? = w.heap[g]?)(d:w.heap.size<=w'.heap.size)(l:∀g,Γ.St g->St' g)(k:∀g,St' g->Γ.St g\/w.heap.size<=g)(f:w'.os=w.os)(i:w'.tape=w.tape)(j:w'.output=w.output) :
  Stp C Γ H w Φ { Γ with St:=St' } H w' Φ:=
 ⟨f,i,j,d,l,k,λb g c=>.inl ⟨(e.lt b g c).1,c⟩,λ_ h=>.inl h,λg c _ _=>a g c,rfl,j3 _,λb m n=>⟨rfl,rfl,λg c=>D2 (a g (e.lt b g c).2.1)⟩⟩
end
section
variable {U R : Type} {r : R} {C : Cfg} {I : U -> (Nat -> Prop) -> (Nat -> Prop) -> World -> Prop} {Q : Ctx} {W : Nat -> Prop} {Y : St U} {J : Array Value} {w : World} {K : E2} {O : Yh U} {Z : Value}
def HK(C:Cfg)(I:U->(Nat->Prop)->(Nat->Prop)->World->Prop)(Q:Ctx)(W:Nat->Prop)(Y:St U)(J:Array Value)(w:World)(k:PV->St U->Option R)(r:R)(V:Value)(w':World):Prop:=
 ∃v a Γ' b,k v a=some r/\Stp C Q Y.hp w W Γ' a.hp w' b/\SI C I Γ' b a J w'/\VP Γ' (A0 a.hp) w' v V/\∀c∈v.nms,c<a.hp.length
theorem Fp{a:Ctx}(d:∀b,a.nm b=none)(c:∀g,a.St g->g<w.heap.size):HR a [] w:=
 ⟨λb e g h=>(by rw[d] at h;cases h),λb g h=>(by rw[d] at h;cases h),c,λb h=>by simp at h,λb h=>by simp at h⟩
theorem SI.wide(hI:HI I)(S:SI C I Q W Y J w){St':Nat->Prop}{w':World}(hold:∀g,g<w.heap.size->w'.heap[g]? = w.heap[g]?)(hsz:w.heap.size<=w'.heap.size)(hs:∀g,Q.St g->St' g)(hn:∀g,St' g->Q.St g\/w.heap.size<=g)(hlt:∀g,St' g->g<w'.heap.size)
  (h1:w'.os=w.os) (h2:w'.tape=w.tape) (h3:w'.output=w.output):SI C I { Q with St:=St' } W Y J w'/\Stp C Q Y.hp w W { Q with St:=St' } Y.hp w' W:=by
 have hstp:=Aq7 (C:=C) (Φ:=W) S.hr hold hsz hs hn h1 h2 h3;refine⟨?_,hstp⟩;have:=S.step hI hstp (λg hg=>hold g (hI.foot _ _ _ _ S.inv g hg).1) (A56 S.hr hold hsz hs hn hlt) (S.sr.mono (Qw S.hr hold hs) (λc hc=>⟨trivial,S.sr.nms c hc⟩));exact this
theorem SI.wideSt(hI:HI I)(S:SI C I Q W Y J w){St':Nat->Prop}(hs:∀g,Q.St g->St' g)(hd:∀g,St' g->¬W g)(hn:∀b g,Q.nm b=some g->¬St' g)(hlt:∀g,St' g->g<w.heap.size):SI C I { Q with St:=St' } W Y J w:=by
 have M:R8 Q (A0 Y.hp) w { Q with St:=St' } (A0 Y.hp) w (λ_=>True):=⟨λ_ _=>rfl,hs,λ_ _=>rfl,λ_ _=>rfl,λ_ _ _ _=>rfl,rfl⟩
 refine⟨⟨S.hr.inj,λb g hb=>?_,hlt,S.hr.nms,λb hb=>(S.hr.blk b hb).mono M rfl (λ_ _=>rfl) (λ_ _=>trivial)⟩,
  S.sr.mono M (λc hc=>⟨trivial,S.sr.nms c hc⟩),S.g.mono (λ_ _=>rfl) hs,hI.mono _ _ _ _ _ _ S.inv hs hd hlt (λ_ _=>rfl) (j3 _) rfl rfl rfl,S.dis⟩
 obtain⟨q1,q2,_⟩:=S.hr.lt b g hb;exact⟨q1,q2,hn b g hb⟩
theorem NJ(S:SI C I Q W Y J w):∀g,Q.all.St g->g<w.heap.size:=by
 rintro g (h|⟨b,h⟩)
 ·exact S.hr.stlt g h
 ·exact(S.hr.lt b g h).2.1
theorem Ad6:HI I0:=⟨λ_ _ W _ h g a=>absurd a (h g),λ_ _ W _ _ _ h _ _ _ _ _ _ _ _=>h⟩
theorem Ad7{P:Program}{Z:Value}:NH P I0 (λ_ _=>none) Z:=λ_ _ _ _ h=>by cases h
theorem Qu{ret:PV}{u:List Blk}{k:PV->St U->Option R}{St0:Nat->Prop}{T:Result Next}(hI:HI I)(S:SI C I Q W Y J w)(a5:∀g,Q.St g->St0 g)(a0:(∀g,St0 g->Q.St g)\/(ret.clean=true/\u.all Blk.clean=true))
  (a2:L9 C.P T (V9 C I0 { Q with St:=St0,nm:=λ_=>none } [] w noΦ ret u ()))
  (hk:k (ret.rn (Y.hp.length + ·)) { sl:=Y.sl,hp:=Y.hp++u.map (Blk.rn (Y.hp.length + ·)),s:=Y.s } = some r):L9 C.P T (λV w'=>HK C I Q W Y J w k r V w'/\J7 w w'):=by
 let Γc:Ctx:={ Q with St:=St0,nm:=λ_=>none }
 refine a2.mono ?_;rintro V w' ⟨n,Φ1,l,f,hv,hvn,b0,a9⟩;have e:∀k,k<w.heap.size->w'.heap[k]? = w.heap[k]?:=λk hk=>l.frame k hk (λb=>by simp) (λx=>x)
 generalize hL:Y.hp.length=L at *;have p:∀i g,n.nm i=some g->i<u.length/\w.heap.size<=g/\g<w'.heap.size:=λi g h=>by
  refine⟨(f.lt i g h).1,?_,(f.lt i g h).2.1⟩;rcases l.own i g h with⟨h',_⟩|h'
  ·simp at h'
  ·exact h'
 obtain⟨t,D,m,H,B⟩:∃t:Nat->Prop,(∀g,Q.St g->t g)/\(∀g,t g->Q.St g\/(w.heap.size<=g/\n.St g))/\(∀g,t g->g<w'.heap.size)/\((∀g,n.St g->t g)\/(ret.clean=true/\u.all Blk.clean=true)):=by
  rcases a0 with h|h
  ·refine⟨n.St,λg a=>l.sub g (a5 g a),λg a=>?_,λg a=>f.stlt g a,.inl λ_ h=>h⟩;rcases l.stnew g a with q|q
   ·exact .inl (h g q)
   ·exact .inr ⟨q,a⟩
  ·exact⟨Q.St,λ_ h=>h,λ_ h=>.inl h,λg a=>o0 (S.hr.stlt g a) l.size,.inr h⟩
 let Γ2:Ctx:={ Q with St:=t,nm:=λb=>if b<L then Q.nm b else n.nm (b-L) }
 let o:List Blk:=Y.hp++u.map (Blk.rn (L + ·));have a3:∀i,i<u.length->A0 o (L+i)=A0 u i:=λi hi=>by
  simp only[o,A0];rw[s9 (by omega),hL,ac5,u7,Option.map_map]
  congr 1
  funext x
  exact Blk.rn_shp _ x
 have M:R8 Q (A0 Y.hp) w Γ2 (A0 o) w' (· < L):=⟨λg a=>e g (S.hr.stlt g a),D,λb A=>by simp only[Γ2];rw[if_pos A],λb A=>K9 (by omega),λb g A a=>D2 (e g (S.hr.lt b g a).2.1),rfl⟩
 have y:∀i,i<u.length->Γ2.nm (L+i)=n.nm i:=λi hi=>by simp only[Γ2];rw[if_neg (by omega),ac5]
 have a4:Γ2.yv=n.yv:=by have:=l.yv;exact this.symm
 have j:o.length=L+u.length:=by simp[o,hL]
 have a6:HR Γ2 o w':=by
  refine⟨λb b' g N P=>?_,λb g h=>?_,H,λb A c z=>?_,λb A=>?_⟩
  ·simp only[Γ2] at N P;split at N<;>split at P
   ·exact S.hr.inj b b' g N P
   ·have:=(S.hr.lt b g N).2.1;have:=(p _ g P).2.1;omega
   ·have:=(S.hr.lt b' g P).2.1;have:=(p _ g N).2.1;omega
   ·have:=f.inj _ _ g N P;omega
  ·rw[j];simp only[Γ2] at h;split at h
   ·have:=S.hr.lt b g h;refine⟨by omega,by have:=l.size;omega,λG=>?_⟩;rcases m g G with q|q
    ·exact this.2.2 q
    ·omega
   ·have:=p _ g h;refine⟨by omega,this.2.2,λG=>?_⟩;rcases m g G with q|q
    ·have:=S.hr.stlt g q;omega
    ·exact(f.lt _ g h).2.2 q.2
  ·rw[j] at A ⊢;by_cases X:b<L
   ·have:o[b]'(by omega)=Y.hp[b]'(by omega):=s5 (by omega);rw[this] at z;have:=S.hr.nms b (by omega) c z;omega
   ·have:o[b]'(by omega)=(u[b-L]'(by omega)).rn (L + ·):=by
     simp only[o];rw[aa0 (by omega),b8];simp[hL]
    rw[this,Blk.rn_nms] at z;obtain⟨d,hd,rfl⟩:=y7.1 z;have:=f.nms _ (by omega) d hd;omega
  ·rw[j] at A;by_cases X:b<L
   ·have:o[b]'(by omega)=Y.hp[b]'(by omega):=s5 (by omega);rw[this];exact(S.hr.blk b (by omega)).mono M (M.nm b X) (λg a=>e g (S.hr.lt b g a).2.1) (λc v=>by have:=S.hr.nms b (by omega) c v;omega)
   ·have:o[b]'(by omega)=(u[b-L]'(by omega)).rn (L + ·):=by
     simp only[o];rw[aa0 (by omega),b8];simp[hL]
    rw[this];refine(f.blk _ (by omega)).rn a4 (by
     rcases B with h|h
     ·exact .inr h
     ·exact .inl (j0.1 h.2 _ (b9 _))) ?_ (λc v=>?_)
    ·have:=y (b-L) (by omega);rw[show L+(b-L)=b by omega] at this;exact this
    ·have a1:=f.nms _ (by omega) c v;exact⟨y c a1,a3 c a1⟩
 have F:Stp C Q Y.hp w W Γ2 o w' W:=by
  refine⟨l.os,l.tape,l.output,l.size,D,λg a=>(m g a).imp (λh=>h) (λh=>h.1),λb g h=>?_,λ_ h=>.inl h,λg a _ _=>e g a,rfl,by omega,λb A hf=>⟨M.nm b (by omega),M.shp b (by omega),λg a=>M.hs b g (by omega) a⟩⟩;simp only[Γ2] at h;split at h
  ·exact .inl ⟨by omega,h⟩
  ·exact .inr (p _ g h).2.1
 have S':=S.step hI F (λg a=>e g (hI.foot _ _ _ _ S.inv g a).1) a6 (S.sr.mono M (λc v=>by have:=S.sr.nms c v;omega));refine⟨⟨_,_,Γ2,W,hk,F,S',?_,λc v=>?_⟩,⟨e,l.size⟩,l.os,l.tape,l.output⟩
 ·exact hv.rn a4 (by rcases B with h|h;exact .inr h;exact .inl h.1) (λc v=>⟨y c (hvn c v),a3 c (hvn c v)⟩)
 ·rw[PV.rn_nms] at v;obtain⟨d,hd,rfl⟩:=y7.1 v;have:=hvn d hd;show L+d<o.length;omega
theorem IG{g:Nat}{args:List PV}{e:Array Value}{ret:PV}{d:List Blk}{k:PV->St U->Option R}(n:HI I)(l:W0 C K)(S:SI C I Q W Y J w)(o:CR Q (A0 Y.hp) w args e)(a:B9 (N1 Y.hp args)=[])(j:K Unit (λ_ _=>none) g (N1 Y.hp args) [] ()=some (ret,d,()))
  (c:ret.clean=true) (m:d.all Blk.clean=true) (p:k (ret.rn (Y.hp.length + ·)) { sl:=Y.sl,hp:=Y.hp++d.map (Blk.rn (Y.hp.length + ·)),s:=Y.s } = some r):L9 C.P ((callFunc g e).run C.P w) (HK C I Q W Y J w k r):=by
 have f:=o.snap S.hr;let Γc:Ctx:={ Q.all with nm:=λ_=>none }
 have i:CR Γc (A0 []) w (N1 Y.hp args) e:=f.bare a (λ_ h=>h) rfl;exact(Qu n S (St0:=Q.all.St) (λ_ h=>aa7 h) (.inr ⟨c,m⟩)
  (l Unit I0 _ Q.yv Ad6 Ad7 g _ [] () ret d () j Γc noΦ w e rfl (Fp (λ_=>rfl) (NJ S)) (S.g.mono (λ_ _=>rfl) (λ_ h=>aa7 h)) (λ_ h=>h) (λb g h=>by cases h) i (by rw[a];simp)) p).mono λ_ _ h=>h.1
theorem Vd{g:Nat}{args:List PV}{d:Array Value}{j:List PV->Tr}{ret:PV}{c:List Blk}{k:PV->St U->Option R}(m:HI I)(n:XOK C)(S:SI C I Q W Y J w)(o:CR Q (A0 Y.hp) w args d)(p:C.X g=some j)(i:G5 (j (argX Y.hp args))=some (ret,c))
  (f:B9 (argX Y.hp args)=[]) (l:Qj Y.hp args=true\/(ret.clean=true/\c.all Blk.clean=true)) (q:k (ret.rn (Y.hp.length + ·)) { sl:=Y.sl,hp:=Y.hp++c.map (Blk.rn (Y.hp.length + ·)),s:=Y.s } = some r):L9 C.P ((callFunc g d).run C.P w) (λV w'=>HK C I Q W Y J w k r V w'/\J7 w w'):=by
 by_cases t:Qj Y.hp args=true
 ·have a:=o.argX_plain t;let Γc:Ctx:={ Q with nm:=λ_=>none }
  have b:CR Γc (A0 []) w (argX Y.hp args) d:=a.bare f (λ_ h=>h) rfl;exact Qu m S (St0:=Q.St) (λ_ h=>h) (.inl λ_ h=>h) (n.x g j _ ret c p i Γc w d (λ_=>rfl) (Fp (λ_=>rfl) S.hr.stlt) S.g b) q
 ·have e:ret.clean=true/\c.all Blk.clean=true:=by rcases l with h|h;exact absurd h t;exact h
  have a:=o.argX S.hr;let Γc:Ctx:={ Q.all with nm:=λ_=>none }
  have b:CR Γc (A0 []) w (argX Y.hp args) d:=a.bare f (λ_ h=>h) rfl;exact Qu m S (St0:=Q.all.St) (λ_ h=>aa7 h) (.inr e) (n.x g j _ ret c p i Γc w d (λ_=>rfl) (Fp (λ_=>rfl) (NJ S)) (S.g.mono (λ_ _=>rfl) (λ_ h=>aa7 h)) b) q
theorem II{g:Nat}{args:List PV}{e:Array Value}{f:List PV->Tr}{ret:PV}{a:List Blk}{k:PV->St U->Option R}(i:HI I)(j:XOK C)(S:SI C I Q W Y J w)(l:CR Q (A0 Y.hp) w args e)(m:C.X g=some f)(d:G5 (f (argX Y.hp args))=some (ret,a))
  (c:B9 (argX Y.hp args)=[]) (b:Qj Y.hp args=true\/(ret.clean=true/\a.all Blk.clean=true)) (n:k (ret.rn (Y.hp.length + ·)) { sl:=Y.sl,hp:=Y.hp++a.map (Blk.rn (Y.hp.length + ·)),s:=Y.s } = some r):L9 C.P ((callFunc g e).run C.P w) (HK C I Q W Y J w k r):=
 (Vd i j S l m d c b n).mono λ_ _ h=>h.1
end
def Ctx.lent(Γ:Ctx)(ns:List Nat):Ctx:={ Γ with nm:=λi=>(ns[i]?).bind Γ.nm }
def Ctx.back(Γ Γ1:Ctx)(ns:List Nat)(L:Nat)(d:Bool):Ctx:=
 { St:=Γ1.St,nm:=λb=>if b∈ns then Γ1.nm (F2 ns b) else if b<L then Γ.nm b else if d=true then none else Γ1.nm (ns.length+(b-L)),yv:=Γ.yv,yv1:=Γ.yv1 }
section
variable {W R : Type} {r : R} {C : Cfg} {I : W -> (Nat -> Prop) -> (Nat -> Prop) -> World -> Prop} {Q : Ctx} {H : List Blk} {J : Nat -> Prop} {Y : St W} {O : Array Value} {w : World} {X : E2} {K : Yh W} {Z : Value}
def L0(H:List Blk)(a:List Nat):List Blk:=a.map λb=>(H.getD b .dead).rn (F2 a)
theorem Jd{a:List Nat}{b:Nat}(h:b∈a):(Q.lent a).nm (F2 a b)=Q.nm b:=by obtain⟨c,d⟩:=U0 h;simp only[Ctx.lent,a8 c,d,ab3]
theorem Fb{a:List Nat}(c:∀b∈a,b<H.length){i:Nat}(d:i<a.length):A0 (L0 H a) i=A0 H a[i]:=by have:=c _ (b9 d);simp only[A0,L0,u7,a8 d,o9,Blk.rn_shp,a8 this];rw[j4,a8 this];rfl
theorem FJ{a:List Nat}(p:HR Q H w)(y:a.Nodup)(k:∀b∈a,b<H.length)(x:Ak H a=true):HR (Q.lent a) (L0 H a) w:=by
 have n:=Yd x;have key:∀i g,(Q.lent a).nm i=some g->∃h:i<a.length,Q.nm a[i]=some g:=λi g h=>by
  simp only[Ctx.lent] at h;cases f:a[i]? with
  | none=>rw[f] at h;simp at h
  | some b=>
   obtain⟨u,v⟩:=j8.1 f;rw[f] at h;exact⟨u,by rw[v];exact h⟩
 have l:∀b (h:b∈a),H.getD b .dead=H[b]'(k b h):=λb h=>by rw[j4,a8 (k b h)];rfl
 refine⟨λi j g u v=>?_,λi g h=>?_,p.stlt,λi f c q=>?_,λi f=>?_⟩
 ·obtain⟨f,t⟩:=key i g u;obtain⟨F,z⟩:=key j g v;have:=p.inj _ _ g t z;exact(ae6 y).1 this
 ·obtain⟨f,t⟩:=key i g h;have:=p.lt _ g t;exact⟨by simpa[L0] using f,this.2⟩
 ·simp only[L0,o5] at f ⊢;simp only[L0,b8,Blk.rn_nms] at q;obtain⟨d,A,rfl⟩:=y7.1 q;exact(U0 (n _ (b9 f) d A)).1
 ·simp only[L0,o5] at f;have o:=b9 f;have e:(L0 H a)[i]'(by simpa[L0] using f)=(H[a[i]]'(k _ o)).rn (F2 a):=by
   simp only[L0,b8,l _ o]
  rw[e];refine BR.rn (Γ:=Q) (Γ':=Q.lent a) (b':=i) rfl (p.blk _ (k _ o)) (.inr λ_ h=>h) ?_ (λc q=>?_)
  ·simp only[Ctx.lent,a8 f,ab3]
  ·have m:c∈a:=n _ o c (by rw[l _ o];exact q);obtain⟨B,D⟩:=U0 m;exact⟨Jd m,by rw[Fb k B,D]⟩
theorem AC{L:Nat}{H:List Blk}(h:YU L H=true):∀x∈H,∀c∈x.nms,c<L:=by intro x b c a;simp only[YU,j0,decide_eq_true_eq] at h;exact h x b c a
theorem Vu{b:Nat}(a:b<H.length):Ao C (H.getD b .dead)=true↔Ek C (A0 H b):=by
 have e:H.getD b .dead=H[b]:=by rw[j4,a8 a];rfl
 rw[e];simp only[A0,a8 a,o9];cases H[b]<;>simp[Ao,Ek,Blk.shp]
theorem Ra{g:Nat}{T:List PV}{Vs:Array Value}{ret:PV}{z:List Blk}{s':W}{k:PV->St W->Option R}(hI:HI I)(hC:W0 C X)(hy:NH C.P I K Z)(g4:Q.yv=Z)(S:SI C I Q J Y O w)(m:CR Q (A0 Y.hp) w T Vs)(hn:∀c∈B9 T,c<Y.hp.length)
  (f3:Ak Y.hp (Y2 Y.hp (B9 T))=true) (c7:X W K g (rnL (F2 (Y2 Y.hp (B9 T))) T) (L0 Y.hp (Y2 Y.hp (B9 T))) Y.s=some (ret,z,s'))
  (hk:k (De (M7 ((Y2 Y.hp (B9 T)).filter λb=>!Ao C (Y.hp.getD b .dead)) Y.hp) (Y2 Y.hp (B9 T)) ret z).1
   { sl:=I4 ((Y2 Y.hp (B9 T)).filter λb=>!Ao C (Y.hp.getD b .dead)) Y.sl,hp:=(De (M7 ((Y2 Y.hp (B9 T)).filter λb=>!Ao C (Y.hp.getD b .dead)) Y.hp) (Y2 Y.hp (B9 T)) ret z).2,s:=s' } = some r) :
  L9 C.P ((callFunc g Vs).run C.P w) (HK C I Q J Y O w k r):=by
 have d3:=Ru Y.hp (B9 T);have c4:=AV Y.hp (B9 T);have P:∀b∈Y2 Y.hp (B9 T),b<Y.hp.length:=AU Y.hp (B9 T) (· < Y.hp.length) (λb l c m=>by
  have e:Y.hp.getD b .dead=Y.hp[b]:=by rw[j4,a8 l];rfl
  rw[e] at m;exact S.hr.nms b l c m) hn
 generalize Y2 Y.hp (B9 T)=a at *;have e9:=FJ S.hr d3 P f3;have u:=λb (h:b∈a)=>U0 h
 have c6:CR (Q.lent a) (A0 (L0 Y.hp a)) w (rnL (F2 a) T) Vs:=by
  rw[Gm];refine⟨by rw[o5];exact m.1,λj hj=>?_⟩;have d8:j<T.length:=by simpa using hj
  obtain⟨U,e,q⟩:=m.2 j d8;refine⟨U,e,?_⟩;rw[b8];refine VP.rn (Γ:=Q) (Γ':=Q.lent a) rfl q (.inr λ_ h=>h) (λc m=>?_);have a0:=c4 c (B7.2 ⟨j,d8,m⟩);obtain⟨q1,q2⟩:=u c a0;exact⟨Jd a0,by rw[Fb P q1,q2]⟩
 have c5:∀c∈B9 (rnL (F2 a) T),c<(L0 Y.hp a).length:=λc m=>by
  rw[Bp] at m;obtain⟨d,hd,rfl⟩:=y7.1 m;simpa[L0] using(u d (c4 d hd)).1
 refine(hC W I K Z hI hy g _ _ _ ret z s' c7 (Q.lent a) J w Vs g4 e9 S.g S.inv (λi g h=>?_) c6 c5).mono ?_
 ·simp only[Ctx.lent] at h;cases t:a[i]? with
  | none=>rw[t] at h;simp at h
  | some b=>rw[t] at h;exact S.dis b g h
 rintro V w' ⟨Γ1,Φ1,hs,p,hv,hvn,f4,d6⟩;generalize hL:Y.hp.length=L at *;generalize d9:(a.filter λb=>!Ao C (Y.hp.getD b .dead))=ks at *;obtain⟨F,g5,e7⟩:=Ia (Γ:=Q) (sh:=A0 Y.hp) (w:=w) ks Y.hp;have g6:(L0 Y.hp a).length=a.length:=by simp[L0]
 have g7:a.length<=z.length:=by have:=hs.len;omega
 simp only[De,F,hL] at hk;generalize hf:Fo a L=f at *;have f1:∀i (h:i<a.length),f i=a[i]:=λi h=>by rw[<-hf];simp only[Fo,if_pos h];exact Q8 h
 have f2:∀i,¬i<a.length->f i=L+(i-a.length):=λi h=>by rw[<-hf];simp only[Fo,if_neg h]
 generalize hd:((ret.rn f).nms.all (· < L)&&YU L ((z.take a.length).map (Blk.rn f)))=d at hk;let E:List Blk:=cond d [] ((z.drop a.length).map (Blk.rn f));have d2:((z.take a.length).map (Blk.rn f)).length=a.length:=by simp;omega
 obtain⟨b5,e8⟩:=Dw a ((z.take a.length).map (Blk.rn f)) (M7 ks Y.hp) d3 d2 (λb l=>by rw[F];have:=P b l;omega);have hE:(cond d (U5 (M7 ks Y.hp) a ((z.take a.length).map (Blk.rn f))) (U5 (M7 ks Y.hp) a ((z.take a.length).map (Blk.rn f))++(z.drop a.length).map (Blk.rn f)))=U5 (M7 ks Y.hp) a ((z.take a.length).map (Blk.rn f))++E:=by
  cases d<;>simp[E]
 rw[hE] at hk;generalize b7:U5 (M7 ks Y.hp) a ((z.take a.length).map (Blk.rn f))++E=H2 at hk;have c0:H2.length=L+E.length:=by rw[<-b7,j5,b5,F,hL]
 have b6:E.length=if d=true then 0 else z.length-a.length:=by cases d<;>simp[E]
 have g1:∀b (l:b∈a),H2[b]? = some ((z[F2 a b]'(by have:=(u b l).1;omega)).rn f):=λb l=>by
  have d5:=P b l;rw[<-b7,z7 (by rw[b5,F,hL];exact d5),e8,if_pos l];have t:=(u b l).1;have e:a.idxOf b=F2 a b:=rfl;rw[e,u7,u0,if_pos t,a8 (by omega)];rfl
 have g2:∀b,b<L->b∉a->H2[b]? = (M7 ks Y.hp)[b]?:=λb l o=>by
  rw[<-b7,z7 (by rw[b5,F,hL];exact l),e8,if_neg o]
 have g3:∀b,L<=b->(l:b<H2.length)->d=false/\∃h:a.length+(b-L)<z.length,H2[b]? = some ((z[a.length+(b-L)]).rn f):=λb n l=>by
  have v:d=false:=by
   rcases Bool.eq_false_or_eq_true d with h|h
   ·rw[c0,b6,h] at l;simp at l;omega
   ·exact h
  have h':a.length+(b-L)<z.length:=by rw[c0,b6,v] at l;simp at l;omega
  refine⟨v,h',?_⟩;rw[<-b7,s9 (by rw[b5,F,hL];exact n),b5,F,hL];simp only[E,v,cond_false,u7,List.getElem?_drop,a8 h',o9]
 let Γ2:=Q.back Γ1 a L d;have G:∀i,i<z.length->(i<a.length\/d=false)->Γ2.nm (f i)=Γ1.nm i/\A0 H2 (f i)=A0 z i/\f i<H2.length:=λi t D=>by
  by_cases h:i<a.length
  ·rw[f1 i h];have hm:=b9 h;have c2:F2 a a[i]=i:=by
    obtain⟨q1,q2⟩:=u _ hm;exact(ae6 d3).1 q2
   refine⟨by simp only[Γ2,Ctx.back,if_pos hm,c2],?_,by have:=P _ hm;omega⟩;simp only[A0,g1 _ hm,o9,Blk.rn_shp,c2,a8 t]
  ·have v:d=false:=by rcases D with D|D;exact absurd D h;exact D
   have n:L+(i-a.length)<H2.length:=by rw[c0,b6,v];simp;omega
   have f6:L+(i-a.length)∉a:=λhm=>by have:=P _ hm;omega
   rw[f2 i h];refine⟨?_,?_,n⟩
   ·simp only[Γ2,Ctx.back,if_neg f6,v];rw[if_neg (by omega),if_neg (by simp)]
    congr 1;omega
   ·obtain⟨_,h',e⟩:=g3 _ (by omega) n;have e2:a.length+(L+(i-a.length)-L)=i:=by omega
    simp only[A0,e,o9,Blk.rn_shp,a8 t]
    congr 2
    simp only[e2]
 have c1:∀c∈ret.nms,c<a.length\/d=false:=λc m=>by
  cases c8:d with
  | false=>exact .inr rfl
  | true=>
   rw[c8] at hd;simp only[a7,j0,decide_eq_true_eq] at hd;refine .inl (o7 λh=>?_);have:=hd.1 (f c) (by rw[PV.rn_nms];exact ac0 m);rw[f2 c h] at this;omega
 have b2:∀i (t:i<a.length),∀c∈(z[i]'(by omega)).nms,c<a.length\/d=false:=λi t c m=>by
  cases c8:d with
  | false=>exact .inr rfl
  | true=>
   rw[c8] at hd;simp only[a7] at hd;refine .inl (o7 λh=>?_);have e3:(z[i]'(by omega)).rn f∈(z.take a.length).map (Blk.rn f):=ac0 (by rw[List.mem_take_iff_getElem];exact⟨i,by omega,rfl⟩);have:=AC hd.2 _ e3 (f c) (by rw[Blk.rn_nms];exact ac0 m);rw[f2 c h] at this;omega
 have hΓc:∀i g,(Q.lent a).nm i=some g->∃h:i<a.length,Q.nm a[i]=some g:=λi g h=>by
  simp only[Ctx.lent] at h;cases t:a[i]? with
  | none=>rw[t] at h;simp at h
  | some b=>
   obtain⟨q1,q2⟩:=j8.1 t;rw[t] at h;exact⟨q1,by rw[q2];exact h⟩
 have d0:=hI.foot _ _ _ _ S.inv;have c3:∀b g,b∉a->Q.nm b=some g->w'.heap[g]? = w.heap[g]?:=λb g l D=>hs.frame g (S.hr.lt b g D).2.1 (λi t=>by
  obtain⟨N,B⟩:=hΓc i g t;have:=S.hr.inj _ _ g B D;exact l (this▸b9 N)) (S.dis b g D)
 have e4:∀g,Q.St g->w'.heap[g]? = w.heap[g]?:=λg D=>hs.frame g (S.hr.stlt g D) (λi t=>by
  obtain⟨N,B⟩:=hΓc i g t;exact(S.hr.lt _ g B).2.2 D) (λhp=>(d0 g hp).2 D)
 have a6:∀i g,Γ1.nm i=some g->(∃h:i<a.length,Q.nm a[i]=some g)\/w.heap.size<=g:=λi g h=>by
  rcases hs.own i g h with⟨_,h⟩|h
  ·exact .inl (hΓc i g h)
  ·exact .inr h
 have e0:∀b,b∈a->b∉ks->Ek C (A0 Y.hp b):=λb l a5=>by
  rw[<-d9] at a5;have d5:=P b l;rw[<-Vu (by omega)];simp only[af4,not_and,u6] at a5;simpa using a5 l
 have b3:∀b,b∈a->Ek C (A0 Y.hp b)->Γ2.nm b=Q.nm b/\A0 H2 b=A0 Y.hp b/\∀g,Q.nm b=some g->w'.shape? g=w.shape? g:=λb l d1=>by
  obtain⟨q1,q2⟩:=u b l;have e:=Fb (H:=Y.hp) (λb l=>by have:=P b l;omega) q1;rw[q2] at e;obtain⟨k1,k2,k3⟩:=hs.keep (F2 a b) (by omega) (by rw[e];exact d1);rw[Jd l] at k1 k3;refine⟨by simp only[Γ2,Ctx.back,if_pos l];exact k1,?_,k3⟩;have e5:A0 z (F2 a b)=some (z[F2 a b]'(by omega)).shp:=by
   simp only[A0];rw[a8 (by omega)];rfl
  rw[<-e,<-k2,e5];simp only[A0,g1 b l,o9,Blk.rn_shp]
 have M:R8 Q (A0 Y.hp) w Γ2 (A0 H2) w' (λc=>c<L/\c∉ks):=by
  have key:∀c,c<L->c∉ks->Γ2.nm c=Q.nm c/\A0 H2 c=A0 Y.hp c/\∀g,Q.nm c=some g->w'.shape? g=w.shape? g:=λc m f0=>by
   by_cases a0:c∈a
   ·exact b3 c a0 (e0 c a0 f0)
   ·refine⟨by simp only[Γ2,Ctx.back,if_neg a0,if_pos m],?_,λg D=>D2 (c3 c g a0 D)⟩;rw[<-g5 c];simp only[A0,g2 c m a0]
  exact⟨e4,hs.sub,λc m=>(key c m.1 m.2).1,λc m=>(key c m.1 m.2).2.1,λc g m D=>(key c m.1 m.2).2.2 g D,rfl⟩
 have b4:Γ2.yv=Γ1.yv:=by have:=hs.yv;exact this.symm
 have f7:HR Γ2 H2 w':=by
  refine⟨λb b' g N B=>?_,λb g h=>?_,p.stlt,λb l c a9=>?_,λb l=>?_⟩
  ·simp only[Γ2,Ctx.back] at N B;have b0:∀x y,x∈a->Γ1.nm (F2 a x)=some g->y∉a->Q.nm y=some g->False:=λx y hx e1 g0 e2=>by
    rcases a6 _ g e1 with⟨q1,q2⟩|q
    ·have:=S.hr.inj _ _ g q2 e2;exact g0 (this▸b9 q1)
    ·have:=(S.hr.lt y g e2).2.1;omega
   have b1:∀x i,Q.nm x=some g->¬i<a.length->Γ1.nm i=some g->False:=λx i e1 t e2=>by
    rcases a6 _ g e2 with⟨q1,_⟩|q
    ·exact t q1
    ·have:=(S.hr.lt x g e1).2.1;omega
   split at N
   ·rename_i l;split at B
    ·rename_i a4;have:=p.inj _ _ g N B;rw[<-(u b l).2,<-(u b' a4).2];simp only[this]
    ·rename_i a4;split at B
     ·exact(b0 b b' l N a4 B).elim
     ·split at B
      ·cases B
      ·have:=p.inj _ _ g N B;have:=(u b l).1;omega
   ·rename_i l;split at N
    ·rename_i n;split at B
     ·rename_i a4;exact(b0 b' b a4 B l N).elim
     ·split at B
      ·exact S.hr.inj b b' g N B
      ·split at B
       ·cases B
       ·exact(b1 b _ N (by omega) B).elim
    ·rename_i n;split at N
     ·cases N
     ·split at B
      ·rename_i a4;have:=p.inj _ _ g N B;have:=(u b' a4).1;omega
      ·split at B
       ·exact(b1 b' _ B (by omega) N).elim
       ·have:=p.inj _ _ g N B;omega
  ·simp only[Γ2,Ctx.back] at h ⊢;split at h
   ·rename_i l;have:=p.lt _ g h;have:=P b l;exact⟨by omega,(p.lt _ g h).2.1,(p.lt _ g h).2.2⟩
   ·split at h
    ·rename_i n;have N:=S.hr.lt b g h;refine⟨by omega,by have:=hs.size;omega,λf8=>?_⟩;rcases hs.stnew g f8 with q|q
     ·exact N.2.2 q
     ·omega
    ·rename_i n;split at h
     ·cases h
     ·rename_i v;have N:=p.lt _ g h;refine⟨?_,N.2.1,N.2.2⟩;rw[c0,b6,if_neg v];omega
  ·by_cases o:b∈a
   ·have e:=g1 b o;rw[a8 l] at e;simp only[c9] at e;rw[e,Blk.rn_nms] at a9;obtain⟨c',A,rfl⟩:=y7.1 a9;have t:=(u b o).1;exact(G c' (p.nms _ (by omega) c' A) (b2 _ t c' A)).2.2
   ·by_cases n:b<L
    ·have e:=g2 b n o;rw[a8 l,a8 (by rw[F,hL];exact n)] at e;simp only[c9] at e;rw[e] at a9;have:=((e7 b (by rw[F,hL];exact n) (by omega)).1 c a9).2;have:=S.hr.nms b (by omega) c this;omega
    ·obtain⟨v,h',e⟩:=g3 b (by omega) l;rw[a8 l] at e;simp only[c9] at e;rw[e,Blk.rn_nms] at a9;obtain⟨c',A,rfl⟩:=y7.1 a9;exact(G c' (p.nms _ h' c' A) (.inr v)).2.2
  ·by_cases o:b∈a
   ·have e:=g1 b o;rw[a8 l] at e;simp only[c9] at e;rw[e];have t:=(u b o).1;refine(p.blk _ (by omega)).rn b4 (.inr λ_ h=>h) (by simp only[Γ2,Ctx.back,if_pos o]) (λc' A=>?_);have:=G c' (p.nms _ (by omega) c' A) (b2 _ t c' A);exact⟨this.1,this.2.1⟩
   ·by_cases n:b<L
    ·have e:=g2 b n o;rw[a8 l,a8 (by rw[F,hL];exact n)] at e;simp only[c9] at e;rw[e];have q:=e7 b (by rw[F,hL];exact n) (by omega);refine(q.2 b (S.hr.blk b (by omega))).mono M (by simp only[Γ2,Ctx.back,if_neg o,if_pos n]) (λg D=>c3 b g o D) (λc m=>?_);have:=q.1 c m;exact⟨by have:=S.hr.nms b (by omega) c this.2;omega,this.1⟩
    ·obtain⟨v,h',e⟩:=g3 b (by omega) l;rw[a8 l] at e;simp only[c9] at e;rw[e];refine(p.blk _ h').rn b4 (.inr λ_ h=>h) ?_ (λc' A=>?_)
     ·simp only[Γ2,Ctx.back,if_neg o,if_neg n,v];simp
     ·have:=G c' (p.nms _ h' c' A) (.inr v);exact⟨this.1,this.2.1⟩
 have e6:Stp C Q Y.hp w J Γ2 H2 w' Φ1:=by
  refine⟨hs.os,hs.tape,hs.output,hs.size,hs.sub,hs.stnew,λb g h=>?_,hs.foot,λg D f5 hp=>hs.frame g D (λi t=>?_) hp,rfl,by omega,λb l d1=>?_⟩
  ·simp only[Γ2,Ctx.back] at h;split at h
   ·rename_i l;rcases a6 _ g h with⟨q1,q2⟩|q
    ·have hh:a[F2 a b]=b:=(u b l).2;rw[hh] at q2;exact .inl ⟨by have:=P b l;omega,q2⟩
    ·exact .inr q
   ·split at h
    ·exact .inl ⟨by omega,h⟩
    ·split at h
     ·cases h
     ·rcases a6 _ g h with⟨q1,_⟩|q
      ·omega
      ·exact .inr q
  ·obtain⟨_,q2⟩:=hΓc i g t;exact f5 _ q2
  ·by_cases o:b∈a
   ·exact b3 b o d1
   ·have a5:b∉ks:=λh=>o (by rw[<-d9] at h;exact(af4.1 h).1)
    exact⟨M.nm b ⟨by omega,a5⟩,M.shp b ⟨by omega,a5⟩,λg D=>M.hs b g ⟨by omega,a5⟩ D⟩
 have f9:SR Γ2 H2 w' (I4 ks Y.sl) O:=by
  obtain⟨d4,a2,a3⟩:=Gb (Γ:=Q) (sh:=A0 Y.hp) (w:=w) ks Y.sl;refine⟨by rw[d4];exact S.sr.size,λc m=>by have:=S.sr.nms c (a2 c m).2;omega,λi t=>?_⟩;have d7:i<Y.sl.length:=by rw[d4] at t;exact t
  obtain⟨U,e,q⟩:=S.sr.slot i d7;refine⟨U,e,(a3 i t d7 U q).mono M λc m=>?_⟩;have hm:=a2 c (B7.2 ⟨i,t,m⟩);exact⟨by have:=S.sr.nms c hm.2;omega,hm.1⟩
 refine⟨_,_,Γ2,Φ1,hk,e6,⟨f7,f9,S.g.mono e4 hs.sub,f4,λb g h=>?_⟩,?_,λc m=>?_⟩
 ·intro hp;simp only[Γ2,Ctx.back] at h;split at h
  ·exact d6 _ g h hp
  ·split at h
   ·rcases hs.foot g hp with q|q
    ·exact S.dis b g h q
    ·have:=(S.hr.lt b g h).2.1;omega
   ·split at h
    ·cases h
    ·exact d6 _ g h hp
 ·exact hv.rn b4 (.inr λ_ h=>h) (λc m=>by
   have:=G c (hvn c m) (c1 c m);exact⟨this.1,this.2.1⟩)
 ·rw[PV.rn_nms] at m;obtain⟨c',A,rfl⟩:=y7.1 m;exact(G c' (hvn c' A) (c1 c' A)).2.2
end
section
variable {σ R : Type} {r : R} {C : Cfg} {I : σ -> (Nat -> Prop) -> (Nat -> Prop) -> World -> Prop} {Γ : Ctx} {L : Nat -> Prop} {st : St σ} {a : Act} {w : World} {cl : E2} {yh : Yh σ} {yv : Value} {o : Oper}
structure Ask (C:Cfg) (I:σ->(Nat->Prop)->(Nat->Prop)->World->Prop) (cl:E2) (yh:Yh σ) (yv:Value):Prop where
 hI:HI I
 hC:W0 C cl
 hX:XOK C
 hy:NH C.P I yh yv
theorem UQ{g b:Nat}{args:List PV}{d:SV->List (List SV)->Bool × List (List SV)}{x:SV}(h:At2 C g args=some (d,b,x)):C.Z g=some d/\(args=[.fl b,.s x]/\x≠.nilp\/args=[.fl b]/\x = .nilp):=by
 unfold At2 at h;split at h
 ·rename_i c;split at h
  ·cases h
  ·rename_i e;simp only[c9,ac3] at h;obtain⟨rfl,rfl,rfl⟩:=h;exact⟨c,.inl ⟨rfl,e⟩⟩
 ·rename_i c;simp only[c9,ac3] at h;obtain⟨rfl,rfl,rfl⟩:=h;exact⟨c,.inr ⟨rfl,rfl⟩⟩
 ·cases h
theorem SI.like'{tmps:Array Value}(hI:HI I)(S:SI C I Γ L st tmps w){w':World}(h:J7 w w'):SI C I Γ L st tmps w'/\Stp C Γ st.hp w L Γ st.hp w' L:=
 S.wide hI (St':=Γ.St) h.1.1 h.1.2 (λ_ h=>h) (λ_ h=>.inl h) (λg hg=>o0 (S.hr.stlt g hg) h.1.2) h.2.1 h.2.2.1 h.2.2.2
theorem IJ{args:List PV}{g b e sz:Nat}{v:Bool}{Y:SV->List (List SV)->Bool × List (List SV)}{x:SV}{d:List (List SV)}{p m:Array Value}{k:PV->St σ->Option R}(hI:HI I)(hz:Ba4 C.P g Y)(S:SI C I Γ L st m w)(D:st.hp[b]? = some (.arr v e sz d))(u:CR Γ (A0 st.hp) w args p)(t:args=[.fl b,.s x]/\x≠.nilp\/args=[.fl b]/\x = .nilp)(hp:(Y x d).1=true)
  (O:k (.tup []) { sl:=st.sl,hp:=st.hp.set b (.arr v e sz (Y x d).2),s:=st.s } = some r):L9 C.P ((callFunc g p).run C.P w) (HK C I Γ L st m w k r):=by
 obtain⟨U,X,rfl,J,hx⟩:∃U X,p=At1 x U X/\VP Γ (A0 st.hp) w (.fl b) U/\VS Γ.St w x X:=by
  rcases t with⟨rfl,l⟩|⟨rfl,rfl⟩
  ·obtain⟨U,e1,J⟩:=u.2 0 (by simp);obtain⟨X,e2,h2⟩:=u.2 1 (by simp);refine⟨U,X,?_,J,h2.inv_s⟩;have hV:p = #[U,X]:=by
    have hs:p.size=2:=u.1;grind
   rw[hV];cases x<;>first|rfl|exact absurd rfl l
  ·obtain⟨U,e1,J⟩:=u.2 0 (by simp);refine⟨U,.pointer none,?_,J,.nilp⟩;have hs:p.size=1:=u.1;show p = #[U];grind
 obtain⟨z1,z2⟩:=hz Γ.St w x X d hx hp;have T:∀{s:Shp},A0 st.hp b=some s->s = .arr v e sz d.length:=λh=>by
  simp only[A0,D,o9,Blk.shp,c9] at h;exact h.symm
 have a0:VP Γ (A0 st.hp) w (.fl b) U:=J;cases a0 with
 | flv _ H f h=>
  have:=T h;simp only[Shp.arr.injEq] at this;obtain⟨rfl,rfl,rfl,Z⟩:=this;have Z:=v8.1 Z.symm;refine(z1 Z).mono ?_;rintro V w' ⟨rfl,hn,hl⟩;have Q:st.hp.set b (.arr true H f (Y x d).2)=st.hp:=by
   rw[hn];rw[Z] at D;apply List.ext_getElem?;grind
  rw[Q] at O;obtain⟨S1,a3⟩:=S.like' hI hl;exact⟨_,_,Γ,L,O,a3,S1,R6,by simp[PV.nms,B9]⟩
 | fl _ q v' H f n cap h hv y K hm hs=>
  have:=T h;simp only[Shp.arr.injEq] at this;obtain⟨rfl,rfl,rfl,rfl⟩:=this;have l:¬(v'=true/\d=[]):=by rintro⟨q1,q2⟩;exact hv q1 (by rw[q2];rfl)
  obtain⟨g',F,N,hh,A,z,M⟩:=S.hr.arr' D l;obtain rfl:q=g':=by rw[y] at N;exact ab9 N
  have a1:F.size=cap*f:=by
   simp only[ab1,hh,c9,ac3,true_and] at hs;exact hs
  refine(z2 q F H f cap hh a1 K hm (S.hr.lt b q y).2.2 S.hr.stlt z M).mono ?_;rintro V w' ⟨rfl,i,w1,G,q1,q2,q3,q4,q5,q6,q7,q8,q9,a5⟩;have j:(Blk.arr v' H f (Y x d).2).shp=(Blk.arr v' H f d).shp:=by simp only[Blk.shp,i]
  have B:w1.shape? q=w.shape? q:=by simp only[ab1,q1,hh,q2]
  have P:w.heap.size<=w1.heap.size:=by omega
  have W:=BU (C:=C) S.hr D y j q3 B P q5 q6 q7;have a2:=MD S.hr D y j q3 B P (.inr ⟨λhz=>l ⟨hz.1,by
    have:=congrArg ag9 hz.2;rw[i] at this;exact v8.1 this⟩,q,G,y,q1,by rw[i,q2];exact A,q8,q9⟩) (by simp[Blk.nms])
  have S1:=S.step hI (W.lift L) (λk O=>q3 k (λek=>S.dis b q y (ek▸O))) a2 (S.sr.mono (Aa S.hr D y j q3 B) (λc u=>⟨trivial,by simpa using S.sr.nms c u⟩));obtain⟨S2,a4⟩:=S1.like' hI a5;exact⟨_,_,Γ,L,O,(W.lift L).trans a4,S2,R6,by simp[PV.nms,B9]⟩
theorem Qz{g:Nat}{args:List PV}{D i:Array Value}{k:PV->St σ->Option R}(A:Ask C I cl yh yv)(z:Γ.yv=yv)(h:Mh C cl yh g args st k=some r)(S:SI C I Γ L st i w)(q:CR Γ (A0 st.hp) w args D)(Q:∀c∈B9 args,c<st.hp.length) :
  L9 C.P ((callFunc g D).run C.P w) (HK C I Γ L st i w k r):=by
 unfold Mh at h;split at h
 ·rename_i B M;split at h
  ·rename_i l;obtain⟨ret,m,d,h⟩:=U3 h;have d:G5 (B (argX st.hp args))=some (ret,m):=by
    cases J:C.xp g with
    | true=>rw[J] at d;exact(V7 d).1
    | false=>rw[J] at d;exact d
   obtain⟨n,p⟩:=B6 h;exact II A.hI A.hX S q M d (y5.1 l) (by simpa only[o8,a7] using n) p
  ·cases h
 ·split at h
  ·rename_i B b x O;obtain⟨F,j⟩:=UQ O;split at h
   ·rename_i v e W K P;obtain⟨n,p⟩:=B6 h;exact IJ A.hI (A.hX.z g B F) S P q j n p
   ·cases h
  dsimp only at h;split at h
  ·rename_i H;split at h
   ·rename_i t;have key:CR Γ (A0 st.hp) w (cond (C.lend g) args (N1 st.hp args)) D/\∀c∈B9 (cond (C.lend g) args (N1 st.hp args)),c<st.hp.length:=by
     cases G:C.lend g with
     | true=>exact⟨q,Q⟩
     | false=>
      rw[G] at H;have T:Rw args=false:=by simpa using H
      obtain⟨U,V⟩:=q.snap_plain T;grind
    split at h
    ·rename_i B N;obtain⟨ret,m,d,h⟩:=U3 h;refine Ra (s':=st.s) A.hI A.hX.y A.hy z S key.1 key.2 t ?_ h;simp only[clY,N];rw[show G5 (B _ (L0 st.hp _))=some (ret,m) from d]
    ·split at h
     ·rename_i ret m s' f;exact Ra A.hI A.hC A.hy z S key.1 key.2 t f h
     ·cases h
   ·cases h
  ·split at h
   ·rename_i l;split at h
    ·rename_i ret m u f;split at h
     ·rename_i y;obtain⟨n,p⟩:=B6 h;exact IG A.hI A.hC S q (y5.1 l) f y n p
     ·cases h
    ·cases h
   ·cases h
theorem CR.append{sh:Nat->Option Shp}{x y:List PV}{X Y:Array Value}(hx:CR Γ sh w x X)(hy:CR Γ sh w y Y):CR Γ sh w (x++y) (X++Y):=by
 refine⟨by rw[ae0,j5,hx.1,hy.1],λj hj=>?_⟩;rw[j5] at hj;by_cases h:j<x.length
 ·obtain⟨U,e,k⟩:=hx.2 j h;grind
 ·obtain⟨U,e,k⟩:=hy.2 (j-x.length) (by omega);refine⟨U,by rw[Array.getElem?_append_right (by rw[hx.1];omega),hx.1];exact e,?_⟩;grind
theorem K3(x y:List PV):B9 (x++y)=B9 x++B9 y:=by
 induction x with
 | nil=>rfl
 | cons a x b=>simp[B9,b]
theorem VP.inv_fn'{sh:Nat->Option Shp}{V:Value}{f:Fn}{x y:List SV}(h:VP Γ sh w (.s (.fn f x y)) V):∃A B,V = .func f A B/\CR Γ sh w (x.map .s) A/\CR Γ sh w (y.map .s) B:=by
 have hs:=h.inv_s;cases hs with
 | fn _ _ _ A B As Bs hf hA hB ha hb hx hy=>
  refine⟨A,B,rfl,⟨by simpa using hA,λj hj=>?_⟩,⟨by simpa using hB,λj hj=>?_⟩⟩
  ·have hj':j<x.length:=by simpa using hj
   exact⟨As j,ha j hj',by rw[b8];exact .s _ _ (hx j hj')⟩
  ·have hj':j<y.length:=by simpa using hj
   exact⟨Bs j,hb j hj',by rw[b8];exact .s _ _ (hy j hj')⟩
theorem VP.inv_fnr'{sh:Nat->Option Shp}{V:Value}{f:Fn}{x y:List PV}(h:VP Γ sh w (.fnr f x y) V):∃A B,V = .func f A B/\CR Γ sh w x A/\CR Γ sh w y B:=by
 cases h with
 | fnr _ _ _ A B As Bs hf hA hB ha hb hx hy=>exact⟨A,B,rfl,⟨hA,λj hj=>⟨As j,ha j hj,hx j hj⟩⟩,⟨hB,λj hj=>⟨Bs j,hb j hj,hy j hj⟩⟩⟩
theorem BM{sh:Nat->Option Shp}:∀{args:List PV} {Vs:List Value},Er args=true->args.length=Vs.length->(∀j (h:j<args.length),∃U,Vs[j]? = some U/\VP Γ sh w (args[j]) U)->∀j (h:j<args.length),∃U,Vs[j]? = some U/\VP Γ (λ_=>none) w (args[j]) U
 | [],Vs,_,_,_=>λj h=>by simp at h
 | v::r,[],_,n,_=>by simp at n
 | v::r,U::z,c,n,y=>by
  have t:VP Γ sh w v U:=by
   obtain⟨q,e,k⟩:=y 0 (by simp);grind
  have D:∀j (h:j<r.length),∃U,z[j]? = some U/\VP Γ sh w (r[j]) U:=λj d=>by
   obtain⟨q,e,k⟩:=y (j+1) (by simpa using d);grind
  have key:Er r=true/\VP Γ (λ_=>none) w v U:=by
   unfold Er at c;split at c
   ·grind
   ·rename_i m;cases m;exact⟨c,.s _ _ t.inv_s⟩
   ·rename_i l H m;cases m;simp only[a7,u9] at c;obtain⟨⟨g,p⟩,c⟩:=c;refine⟨c,?_⟩;obtain⟨A,rfl,B,i⟩:=t.inv_agg;refine VP.mk_agg B λj d=>?_
    obtain⟨U,e,k⟩:=i j d;refine⟨U,e,?_⟩;have:(l[j]).nms=[]:=by
     have:∀(l:List PV) g,Dg l=some g->∀v∈l,v.nms=[]:=by
      intro l
      induction l with
      | nil=>intro _ _ v f;simp at f
      | cons x l G=>
       intro g h v f;simp only[Dg] at h;split at h
       ·rename_i a b u F;rcases aa1.1 f with rfl|f
        ·unfold PV.sv? at u;split at u
         ·rfl
         ·rfl
         grind
        grind
       grind
     exact this l g p _ (b9 d)
    exact k.mono (Γ':=Γ) (ok:=λ_=>False) ⟨λ_ _=>rfl,λ_ h=>h,λ_ h=>h.elim,λ_ h=>h.elim,λ_ _ h=>h.elim,rfl⟩ (by rw[this];simp)
   grind
  intro j d;cases j with
  | zero=>exact⟨U,rfl,by simpa using key.2⟩
  | succ j=>
   obtain⟨q,e,k⟩:=BM key.1 (by simpa using n) D j (by simpa using d);grind
theorem IH{f:PV}{D:Value}{args:List PV}{Vs n:Array Value}{k:PV->St σ->Option R}(A:Ask C I cl yh yv)(u:Γ.yv=yv)(h:Rb C cl yh f args st k=some r)(S:SI C I Γ L st n w)(K:VP Γ (A0 st.hp) w f D)(p:∀c∈f.nms,c<st.hp.length)
  (i:CR Γ (A0 st.hp) w args Vs) (Y:∀c∈B9 args,c<st.hp.length) :
  L9 C.P ((do let d <-o6 D Vs;invoke d.target d.args).run C.P w) (HK C I Γ L st n w k r):=by
 unfold Rb at h;split at h
 ·rename_i g first v;obtain⟨F,B,rfl,G,H⟩:=K.inv_fn';have:=Qz A u h S ((G.append i).append H) (λc i=>by
   rw[K3,K3,Wq,Wq] at i;simp only[ad2,aa4] at i;exact Y c i)
  simpa[o6,invoke] using this
 ·rename_i g first v;obtain⟨F,B,rfl,G,H⟩:=K.inv_fnr';have:=Qz A u h S ((G.append i).append H) (λc i=>by
   rw[K3,K3] at i;simp only[p9] at i;simp only[PV.nms,p9] at p;rcases i with(i|i)|i
   ·exact p c (.inl i)
   ·exact Y c i
   ·exact p c (.inr i))
  simpa[o6,invoke] using this
 ·split at h
  ·rename_i z;unfold ydK at h;split at h
   ·rename_i b s' P;have J:D=yv:=by
     cases K;exact u
    subst J;refine(A.hy args st.s b s' P z Γ L w Vs S.inv S.hr.stlt ⟨i.1,?_⟩).mono ?_
    ·intro j N;obtain⟨U,e,q⟩:=BM (Vs:=Vs.toList) z (by simpa using i.1.symm) (λj N=>by obtain⟨U,e,k⟩:=i.2 j N;exact⟨U,by simpa using e,k⟩) j N;exact⟨U,by simpa using e,q⟩
    ·rintro V w' ⟨rfl,St',W,hi,Q,Z,q3,T,q5,q6,q7,q8,q9⟩;have t:=A.hI.foot _ _ _ _ S.inv;have m:∀b g,Γ.nm b=some g->w'.heap[g]? = w.heap[g]?:=λb g l=>T g (S.hr.lt b g l).2.1 (S.dis b g l)
     have y:∀g,Γ.St g->w'.heap[g]? = w.heap[g]?:=λg l=>T g (S.hr.stlt g l) (λx=>(t g x).2 l)
     let Γ2:Ctx:={ Γ with St:=St' }
     have M:R8 Γ (A0 st.hp) w Γ2 (A0 st.hp) w' (λ_=>True):=⟨y,Q,λ_ _=>rfl,λ_ _=>rfl,λb g _ l=>D2 (m b g l),rfl⟩
     have O:HR Γ2 st.hp w':=by
      refine⟨S.hr.inj,λb g l=>?_,q9,S.hr.nms,λb X=>(S.hr.blk b X).mono M rfl (λg l=>m b g l) (λ_ _=>trivial)⟩;have:=S.hr.lt b g l;refine⟨this.1,by omega,λh=>?_⟩;rcases Z g h with h|h
      ·exact this.2.2 h
      ·omega
     refine⟨_,_,Γ2,W,h,⟨q6,q7,q8,q5,Q,Z,λb g l=>.inl ⟨(S.hr.lt b g l).1,l⟩,q3,λg l _ x=>T g l x,rfl,j3 _,λb X _=>⟨rfl,rfl,λg l=>D2 (m b g l)⟩⟩,
      ⟨O,S.sr.mono M (λc i=>⟨trivial,S.sr.nms c i⟩),S.g.mono y Q,hi,λb g l x=>?_⟩,.bool _,by simp[PV.nms]⟩
     rcases q3 g x with h|h
     ·exact S.dis b g l h
     ·have:=(S.hr.lt b g l).2.1;omega
   ·cases h
  ·cases h
 ·cases h
def Nxt(C:Cfg)(I:σ->(Nat->Prop)->(Nat->Prop)->World->Prop)(Γ:Ctx)(L:Nat->Prop)(H:List Blk)(w:World)(ds:List Deferred)(k:St σ->Option R)(r:R)(next:Act->World->Prop):Prop:=
 ∀b d w' Γ' c,k b=some r->Stp C Γ H w L Γ' b.hp w' c->SI C I Γ' c b d.tmps w'->d.defers=ds->next d w'
theorem put_defers(a:Act)(d:Option Tmp)(v:Value):(a.put d v).defers=a.defers:=by cases d<;>rfl
theorem GA{ro:Option Nat}{n:Nat}{k:St σ->Option R}{next:Act->World->Prop}{Q:Exit->Act->World->Prop}(A:Ask C I cl yh yv)(u:Γ.yv=yv)(h:opK C cl yh o st k=some r)(S:SI C I Γ L st a.tmps w)(y:Nxt C I Γ L st.hp w a.defers k r next) :
  o.wpIn (D9 ro) n C.P a w next Q:=by
 refine⟨λ_ _=>trivial,?_⟩;have t:∀c,o.op≠.defer c:=λc e=>by simp[opK,e] at h
 rw[s7 _ _ _ t];by_cases i:Pq o.op=true
 ·obtain⟨c,g⟩:∃c,o.op = .call c:=by
   unfold Pq at i;split at i
   ·exact⟨_,‹_›⟩
   ·cases i
  have p:=h;simp only[opK,g] at p;split at p
  ·rename_i b F;rw[g] at i;simp[Pq,F] at i
  ·rename_i f J;obtain⟨G,q⟩:=S.list c.args;have:=IH A u p S (S.opnd f).1 (S.opnd f).2 G q;have H:execOp a.eval o=(do let d <-o6 (a.eval f) (c.args.map a.eval);invoke d.target d.args):=by simp only[execOp,g,resolve,J]
   rw[H];refine this ro n o a next Q ?_
   rintro V w' ⟨v,m,Γ',x,K,M,l,N,O⟩;exact y _ (a.put o.dst V) w' Γ' x K M ⟨l.hr,l.sr.put (ds:=a.defers) o N O,l.g,l.inv,l.dis⟩ (put_defers _ _ _)
  ·cases p
 ·obtain⟨V,w',Γ',m,z,j,B,D⟩:=JX A.hI (by simpa using i) h S;have q:=y m (a.put o.dst V) w' Γ' L z D B (put_defers _ _ _);rcases j with j|⟨rfl,j⟩
  ·rw[j];exact q
  ·rw[j];exact q
theorem SR.set{Γ:Ctx}{H:List Blk}{sl:List PV}{tmps:Array Value}(h:SR Γ H w sl tmps)(g:Nat){v:PV}(hv:∀V,tmps[g]? = some V->VP Γ (A0 H) w v V)(hn:∀c∈v.nms,c<H.length):SR Γ H w (sl.set g v) tmps:=by
 refine⟨by simpa using h.size,λc hc=>?_,λi hi=>?_⟩
 ·obtain⟨j,hj,hc⟩:=B7.1 hc;rw[List.getElem_set] at hc;split at hc
  ·grind
  ·exact h.nms c (B7.2 ⟨j,by simpa using hj,hc⟩)
 ·have hi':i<sl.length:=by simpa using hi
  obtain⟨U,e1,e2⟩:=h.slot i hi';grind
theorem Jn{G:Option Nat}{n:Nat}{Q:Exit->Act->World->Prop}{all:Array Oper}(A:Ask C I cl yh yv):∀(c:List Oper) {Γ:Ctx} {L:Nat->Prop} {st:St σ} {a:Act} {w:World} {k:St σ->Option R},Γ.yv=yv->Z5 C cl yh all c st k=some r->SI C I Γ L st a.tmps w->
  Nxt C I Γ L st.hp w a.defers k r (λu w'=>Q .normal u w')->wpListIn (D9 G) n C.P all Q c a w
 | [],Γ,L,st,a,w,k,hyv,h,S,m=>m st a w Γ L h (Stp.refl S.hr) S rfl
 | o::c,Γ,L,st,a,w,k,hyv,h,S,m=>by
  have run:∀{st:St σ},SI C I Γ L st a.tmps w->Nxt C I Γ L st.hp w a.defers k r (λu w'=>Q .normal u w')->opK C cl yh o st (λl=>Z5 C cl yh all c l k)=some r->o.wpIn (D9 G) n C.P a w (wpListIn (D9 G) n C.P all Q c) Q:=λS m h=>
   GA A hyv h S λl u w' Γ' Φ' X O Y Z=>Jn A c (O.yv.trans hyv) X Y λK T w2 M N k1 k2 k3 k4=>m K T w2 M N k1 (O.trans k2) k3 (k4.trans Z)
  have skip:∀{st:St σ},SI C I Γ L st a.tmps w->Nxt C I Γ L st.hp w a.defers k r (λu w'=>Q .normal u w')->Z5 C cl yh all c { st with sl:=P0 o.dst (.tup []) st.sl } k=some r->wpListIn (D9 G) n C.P all Q c (a.put o.dst undef) w:=fun {st} S m h=>
   Jn A c (st:={ st with sl:=P0 o.dst (.tup []) st.sl }) hyv h (S.put (o:=o) R6 (by simp[PV.nms,B9])) (by rw[put_defers];exact m)
  simp only[wpListIn];simp only[Z5] at h;split at h
  ·rename_i x;have hw:j6 o (yielded all a.tmps)=true:=by simp[j6,x]
   grind
  ·rename_i j p x;split at h
   ·rename_i g y;have D:∀b,a.tmps[g]? = some (.bool b)->yielded all a.tmps j=some b:=λb e=>by simp[yielded,y,e]
    have z:(∀b,a.tmps[g]?≠some (.bool b))->yielded all a.tmps j=none:=λa1=>by
     simp only[yielded,y,ab3]
    have d:∀v,st.sl.getD g (.tup [])=v->∀V,a.tmps[g]? = some V->VP Γ (A0 st.hp) w v V:=λv hv V hV=>by
     have q:g<st.sl.length:=by rw[<-S.sr.size];exact(k9.1 hV).1
     obtain⟨U,H,W⟩:=S.sr.slot g q;grind
    split at h
    ·rename_i b F;have q:g<st.sl.length:=o7 λa0=>by grind
     obtain⟨U,H,W⟩:=S.sr.slot g q;have hU:=(d _ F U H).inv_bool;subst hU;have f:yielded all a.tmps j=some b:=D b H;have P:SI C I Γ L { st with sl:=st.sl.set g (.s (.bool b)) } a.tmps w:=⟨S.hr,S.sr.set g (d _ F) (by simp[PV.nms]),S.g,S.inv,S.dis⟩
     have t:(if (b==p)=true then opK C cl yh o { st with sl:=st.sl.set g (.s (.bool b)) } (λl=>Z5 C cl yh all c l k) else Z5 C cl yh all c { st with sl:=P0 o.dst (.tup []) (st.sl.set g (.s (.bool b))) } k)=some r:=by
      cases b<;>exact h
     by_cases i:b=p
     ·rw[if_pos (by simpa using i)] at t;rw[if_pos (by simp[j6,x,f,i])];grind
     ·rw[if_neg (by simpa using i)] at t;rw[if_neg (by simp[j6,x,f,i])];exact⟨λ_ _=>trivial,skip P m t⟩
    ·rename_i F;have f:yielded all a.tmps j=none:=z λb J=>by
      obtain⟨B,e,_⟩:=(d _ F _ J).inv_tup;cases e
     rw[if_neg (by simp[j6,x,f])];exact⟨λ_ _=>trivial,skip S m h⟩
    grind
   ·cases h
theorem Bg2{N:Option Nat}{n:Nat}{Q:Exit->Act->World->Prop}{all:Array Oper}{g p:Oper}{f:List Oper}{k:St σ->Option R}(A:Ask C I cl yh yv)(M:Γ.yv=yv)(u:JJ C g p=true)
  (h:YR C g p st.sl (λv=>Z5 C cl yh all f { st with sl:=P0 p.dst v (P0 g.dst .bad st.sl) } k)=some r) (S:SI C I Γ L st a.tmps w) (hN:Nxt C I Γ L st.hp w a.defers k r (λa' w'=>Q .normal a' w')):wpListIn (D9 N) n C.P all Q (g::p::f) a w:=by
 unfold YR at h;split at h
 ·rename_i t len parts s d x j l;unfold JJ at u;rw[j,l] at u;split at u
  ·rename_i t' l' p' s' d' x' G H q1 q2;cases q1;cases q2;simp only[a7] at u;obtain⟨hs,hd,K,m⟩:=u;obtain rfl:=j7 hs;obtain rfl:=j7 hd;have K:g.dst=some x:=by simpa using K
   obtain⟨q,h⟩:=B6 h;have q:=u4 q;obtain⟨p1,p2⟩:=S.parts parts.toList;let b:Value:=.slice (some ⟨w.heap.size,0,none⟩) len len;obtain⟨v,e,B,hk,Z,Y,hW⟩:=Hs (ps:=parts.map λ(i,x)=>(i,a.eval x)) (sl:=P0 g.dst .bad st.sl) (tmps:=(a.put g.dst b).tmps) S.hr h (by rw[r9];exact p1);have D:C.P.underlying e=some (.int .u8):=by
    have J:C.sh d = .slice e:=by simp only[Cfg.sh,Xo,Z]
    rw[J] at m;dsimp only at m;split at m
    ·rename_i h8;exact Qq h8
    ·cases m
   have W:=Lib.run_convert_bytes_const (P:=C.P) w d e B len len Z D;simp only[wpListIn];rw[if_pos (by simp[j6,G])];refine⟨λ_ _=>trivial,?_⟩;rw[s7 _ _ _ (λc e=>by rw[j] at e;cases e)];have h1:(execOp a.eval g).run C.P w = .ok (.value b) (w.alloc (.cells B e)):=by simp only[execOp,j];simp[Y,b]
   rw[h1];show wpListIn (D9 N) n C.P all Q (p::f) (a.put g.dst b) (w.alloc (.cells B e));simp only[wpListIn];rw[if_pos (by simp[j6,H])];refine⟨λ_ _=>trivial,?_⟩;rw[s7 _ _ _ (λc e=>by rw[l] at e;cases e)];have F:(a.put g.dst b).eval (.tmp x)=b:=by
    have h0:a.tmps.size=st.sl.length:=S.sr.size;have h9:x+1<=st.sl.length:=q;have:x<a.tmps.size:=by rw[h0];exact h9
    rw[K];simp[af6,Act.eval,this]
   have h2:(execOp (a.put g.dst b).eval p).run C.P (w.alloc (.cells B e)) = .ok (.value b) (w.alloc (.cells B e (B.size,B.size+1))):=by
    simp only[execOp,l,F];simp[b,W]
   rw[h2];show wpListIn (D9 N) n C.P all Q f ((a.put g.dst b).put p.dst b) (w.alloc (.cells B e (B.size,B.size+1)));have X:(do let v <-Instr.buildSlice d len (parts.map λ(i,x)=>(i,a.eval x));convert d d v:Sem Value).run C.P w = .ok b (w.alloc (.cells B e (B.size,B.size+1))):=by
    simp[Y,W,b]
   obtain⟨V,w',Γ',y,z,g3,g4,g5,g6⟩:=hW _ (B.size,B.size+1) X;rw[X] at y;obtain⟨rfl,rfl⟩:b=V/\w.alloc (.cells B e (B.size,B.size+1))=w':=by
    simp only[aa6] at y;exact y
   have S1:SI C I Γ L { st with sl:=P0 g.dst .bad st.sl } (a.put g.dst b).tmps w:=S.put (o:=g) (v:=.bad) (V:=b) (.bad b) (by simp[PV.nms]);have S2:=S1.after (o:=p) (v:=v) A.hI z g3 g4 g5 g6;exact Jn A f (st:={ st with sl:=P0 p.dst v (P0 g.dst .bad st.sl) }) (z.yv.trans M) hk S2 (λO a2 w2 T U k1 k2 k3 k4=>hN O a2 w2 T U k1 ((z.lift L).trans k2) k3 (k4.trans (by rw[put_defers,put_defers])))
  ·cases u
 ·cases h
theorem A18{j:Option Nat}{n:Nat}{Q:Exit->Act->World->Prop}{all:Array Oper}{k:St σ->Option R}(A:Ask C I cl yh yv):∀(l:List Oper),Γ.yv=yv->RX C cl yh all st k l=some r->SI C I Γ L st a.tmps w->
  Nxt C I Γ L st.hp w a.defers k r (λi w'=>Q .normal i w')->wpListIn (D9 j) n C.P all Q l a w
 | [],b,h,S,c=>Jn A [] b h S c
 | [o],b,h,S,c=>Jn A [o] b h S c
 | f::g::d,b,h,S,c=>by
  simp only[RX] at h;cases e:JJ C f g with
  | true=>rw[e] at h;exact Bg2 A b e h S c
  | false=>rw[e] at h;exact Jn A (f::g::d) b h S c
end
section quiet
variable {F : Fence} {n : Nat} {P : Program} {L : Array Oper} {Y : w8} {K : World -> Prop}
theorem UJ{c:Code}{Q:Exit->Act->World->Prop}{a:Act}{w:World}(J:Nat->Act->World->Prop)(N:Nat)(u:J N a w)
  (round:∀m a w,J m a w->c.wpIn F n P (Exit.then (λq w'=>∃D,D<m/\J D q w') Q) a w):(Code.loop c).wpIn F n P Q a w:=by
 intro b k y C z B;have key:∀j a w,J j a w->∃e q w',Q e q w'/\ArrivesIn (Machine.fenced P F) P (lone (b.atR a (.code c::.inLoop c::k)) y w) b k y e q w':=by
  intro j
  induction j using Nat.strongRecOn with
  | _ j H=>
   intro a w G;obtain⟨e,f,g,i,d⟩:=round j a w G b (.inLoop c::k) y C z B;cases e with
   | normal=>
    obtain⟨m,A,o⟩:=i;obtain⟨t,r,v,p,h⟩:=H m A f g o;exact⟨t,r,v,p,.of_steps (ag7 d (.one (fenced_calm z B rfl) stepR_inLoop)) h⟩
   | exit id=>exact⟨_,f,g,i,.pass (x:=.inLoop c) rfl (λ_ _=>.inl (by simp)) d⟩
   | goto l=>exact⟨_,f,g,i,.pass (x:=.inLoop c) rfl (λ_ _=>.inl (by simp)) d⟩
   | ret=>exact⟨_,f,g,i,.pass (x:=.inLoop c) rfl (λ_ _=>.inl (by simp)) d⟩
   | panic I=>exact⟨_,f,g,i,.pass (x:=.inLoop c) rfl (λ_ _=>.inl (by simp)) d⟩
   | outgrown=>exact⟨_,f,g,i,.pass (x:=.inLoop c) rfl (λ_ _=>.inl (by simp)) d⟩
 obtain⟨e,q,w',i,d⟩:=key N a w u;exact⟨e,q,w',i,.of_steps (.one (fenced_calm z B rfl) stepR_loop) d⟩
theorem V8{b:Frame}{a:Act}{k:List Item}{d:List Frame}{w:World}{c:Code}:step P (lone (b.atR a (.code (.scope c)::k)) d w) = .next (lone (b.atR a (.code c::.inScope c::k)) d w):=
 step_lone_go (by simp[stepG,stepG.exec,Frame.atR])
theorem Yt{b:Frame}{a:Act}{k:List Item}{d:List Frame}{w:World}{c:Code}:step P (lone (b.atR a (.inScope c::k)) d w) = .next (lone (b.atR a k) d w):=
 step_lone_go (by simp[stepG,stepG.exec,Frame.atR])
theorem MB{c:Code}{Q:Exit->Act->World->Prop}{a:Act}{w:World}(h:c.wpIn F n P (λe a w=>(∀l,e≠.goto l)/\Q e a w) a w):(Code.scope c).wpIn F n P Q a w:=by
 intro b k u t o q;have i:(lone (b.atR a (.code (.scope c)::k)) u w).fenced P F:=fenced_calm o q rfl;obtain⟨e,f,g,⟨z,j⟩,d⟩:=h b (.inScope c::k) u t o q;cases e with
 | normal=>exact⟨.normal,f,g,j,.head i V8 (ag7 d (.one (fenced_calm o q rfl) Yt))⟩
 | exit id=>
  have v:exitTo id (.inScope c::k)=exitTo id k:=by simp[exitTo]
  exact⟨.exit id,f,g,j,λA p=>.head i V8 (d.1 A (by rw[v];exact p)),
   λr p=>let⟨m,x,y⟩:=d.2 r (by rw[v];exact p);⟨m,x,.head i V8 y⟩⟩
 | goto l=>exact absurd rfl (z l)
 | ret=>exact⟨_,f,g,j,.of_steps (.one i V8) d⟩
 | panic B=>exact⟨_,f,g,j,.of_steps (.one i V8) d⟩
 | outgrown=>exact⟨_,f,g,j,.of_steps (.one i V8) d⟩
end quiet
section
variable {Q R : Type} {r : R} {C : Cfg} {I : Q -> (Nat -> Prop) -> (Nat -> Prop) -> World -> Prop} {Γ : Ctx} {Y : Nat -> Prop} {L : St Q} {a : Act} {w : World} {W : E2} {J : Yh Q} {U : Value} {o : Oper}
theorem SI.like(hI:HI I)(S:SI C I Γ Y L a.tmps w){w':World}(h:J7 w w'):SI C I Γ Y L a.tmps w'/\Stp C Γ L.hp w Y Γ L.hp w' Y:=
 S.like' hI h
def Zk:PV->Value
 | .s (.bool b)=>.bool b
 | .s (.int k n)=>.int k n
 | .s (.str l)=>.string ⟨l.toArray⟩
 | _=>undef
def Au7:PV->Value
 | .tup l=>.tuple (l.map Zk).toArray
 | v=>Zk v
theorem IR{Γ:Ctx}{sh:Nat->Option Shp}{w:World}{v:PV}{V:Value}(h:VP Γ sh w v V)(b:v.det1=true):V=Zk v:=by
 cases h with
 | s x V c=>
  cases c<;>simp[PV.det1,SV.det] at b<;>simp[Zk]
 | _=>simp[PV.det1] at b
theorem Au8{Γ:Ctx}{sh:Nat->Option Shp}{w:World}{v:PV}{V:Value}(h:VP Γ sh w v V)(b:v.det=true):V=Au7 v:=by
 cases h with
 | s x V k=>exact IR (sh:=sh) (.s x V k) b
 | tup l A m f g i=>
  simp only[PV.det,j0] at b;simp only[Au7]
  congr 1
  apply Array.ext
  ·simp[f]
  ·intro j d n;have c:j<l.length:=by rw[<-f];exact d
   have e:=g j c;rw[y9 d] at e;simp only[c9] at e;simp only[List.getElem_toArray,b8];rw[e];exact IR (i j c) (b _ (b9 c))
 | _=>simp[PV.det] at b
theorem EV{Γ:Ctx}{sh:Nat->Option Shp}{w:World}{v:PV}(b:v.det1=true):VP Γ sh w v (Zk v)/\v.nms=[]:=by
 cases v with
 | s x=>
  cases x<;>simp[PV.det1,SV.det] at b
  ·exact⟨.s _ _ (.bool _),rfl⟩
  ·exact⟨.s _ _ (.int _ _),rfl⟩
  ·rename_i l;have:=VS.str (St:=Γ.St) (w:=w) (⟨l.toArray⟩:ByteArray);simp only at this;exact⟨.s _ _ this,rfl⟩
 | _=>simp[PV.det1] at b
theorem Be3{Γ:Ctx}{sh:Nat->Option Shp}{w:World}{v:PV}(b:v.det=true):VP Γ sh w v (Au7 v)/\v.nms=[]:=by
 cases v with
 | s x=>exact EV (v:=.s x) b
 | tup l=>
  simp only[PV.det,j0] at b;refine⟨VP.mk_tup (by simp) λj e=>⟨Zk (l[j]),by simp[e],(EV (b _ (b9 e))).1⟩,?_⟩;simp only[PV.nms];rw[v7];intro c d;obtain⟨j,e,d⟩:=B7.1 d;rw[(EV (Γ:=Γ) (sh:=sh) (w:=w) (b _ (b9 e))).2] at d;simp at d
 | _=>simp[PV.det] at b
theorem Be4{v:PV}(b:v.det=true)(f:Nat->Nat):v.rn f=v:=by
 cases v with
 | s x=>rfl
 | tup l=>
  simp only[PV.det,j0] at b;simp only[PV.rn]
  congr 1
  induction l with
  | nil=>rfl
  | cons a r d=>
   simp only[rnL];have c:=b a (by simp);have:a.rn f=a:=by cases a<;>simp[PV.det1] at c<;>rfl
   grind
 | _=>simp[PV.det] at b
theorem T6{P:Program}{g:Nat}{Vs:Array Value}{w:World}(h:Pw P g=true):(callFunc g Vs).run P w = .ok (.enter g Vs) w:=by
 unfold Pw at h;split at h
 ·rename_i fn e;simp only[a7,u6,u9] at h;obtain⟨⟨c,d⟩,f⟩:=h
  have b:¬ fn.name = "runtime.NumGoroutine":=by simpa using f
  simp[callFunc,e,d,b,x8]
 ·cases h
theorem Of{P:Program}{ro:Option Nat}{n f:Nat}{d:Array Value}{w:World}{R:Value->World->Prop}(b:(callFunc f d).run P w = .ok (.enter f d) w)(h:L9 P ((callFunc f d).run P w) R):CallsIn (D9 ro) (n-1) P f d w λe w'=>∃V,e = .returned V/\R V w':=by
 rw[b] at h;have:=h ro n { op:=.move (.const undef),dst:=some 0,guard:=none,type:=0,after:=#[],pos:=default } { tmps:=#[undef],defers:=[] } (λi w'=>∃V,i.tmps[0]? = some V/\R V w') (λ_ _ _=>False) (λV w' k=>⟨V,by simp[af6],k⟩);rw[Oper.uponIn_enter] at this;refine this.2.mono λe w' g=>?_
 cases e with
 | returned v=>
  obtain⟨V,j,l⟩:=g;simp[af6] at j;grind
 | panicked c=>exact g.elim
 | outgrown=>obtain⟨_,_,h⟩:=g;exact h.elim
theorem ZH{ro:Option Nat}{n:Nat}{k:St Q->Option R}(X:HI I)(Z:XOK C)(u:Fg C o.op=true)(h:opK C W J o L k=some r)(S:SI C I Γ Y L a.tmps w) :
  ∃V v,k v=some r/\(∀w',J7 w w'->o.quietAtIn (D9 ro) n C.P a (J7 w') w' V)/\SI C I Γ Y v (a.put o.dst V).tmps w/\Stp C Γ L.hp w noΦ Γ v.hp w noΦ:=by
 obtain⟨c,q⟩:∃c,o.op = .call c:=by
  unfold Fg at u;grind
 rw[q] at u;simp only[Fg] at u;split at u
 ·rename_i g j;simp only[a7,u9] at u;obtain⟨⟨M,pf,m⟩,l⟩:=u;simp only[opK,q,j,opnd,Rb,Mh,m,M,cond_true,ac1,ad2,aa4] at h;split at h
  ·rename_i G;obtain⟨ret,Hc,t,h⟩:=U3 h;obtain⟨t,f,rfl⟩:=V7 t;obtain⟨h1,N⟩:=B6 h;simp only[ac1,aa4,Be4 f] at N;have O:=Be3 (Γ:=Γ) (sh:=A0 L.hp) (w:=w) f;refine⟨Au7 ret,_,N,λw' K=>?_,S.put O.1 (by rw[O.2];simp),Stp.refl S.hr⟩;obtain⟨A,_⟩:=S.like X K;obtain⟨hc,hn⟩:=A.list c.args;have B:=hc.argX A.hr;let Γc:Ctx:={ Γ.all with nm:=λ_=>none }
   have D:CR Γc (A0 []) w' (argX L.hp (c.args.toList.map (opnd C L.sl))) (c.args.map a.eval):=B.bare (y5.1 G) (λ_ h=>h) rfl;have p:=Z.x g pf _ ret [] m t Γc w' _ (λ_=>rfl) (Fp (λ_=>rfl) (NJ A)) (A.g.mono (λ_ _=>rfl) (λ_ h=>aa7 h)) D;have i:=Of (ro:=ro) (n:=n) (T6 l) p;have F:a.eval (.func g) = .func (.func g) #[] #[]:=rfl;have he:execOp a.eval o=(do let d <-o6 (a.eval (.func g)) (c.args.map a.eval);invoke d.target d.args):=by simp only[execOp,q,resolve,j]
   unfold x7;rw[he,F];have y:(do let d <-o6 (Value.func (.func g) #[] #[]) (c.args.map a.eval);invoke d.target d.args:Sem Next).run C.P w' = .ok (.enter g (c.args.map a.eval)) w':=by
    have:=T6 (P:=C.P) (Vs:=c.args.map a.eval) (w:=w') l;simpa[o6,invoke] using this
   rw[y];refine⟨rfl,λh=>(by simp[D9,ah2] at h),i.mono ?_⟩;rintro e a0 ⟨V,rfl,Γ1,Φ1,z,T,H,_⟩;have:=Au8 H f;subst this;exact⟨rfl,⟨λg hg=>z.frame g hg (λb=>by simp[Γc]) (λx=>x),z.size⟩,z.os,z.tape,z.output⟩
  ·cases h
 ·cases u
def Out.exit':Out->Exit
 | .normal=>.normal
 | .exit id=>.exit id
 | .ret=>.ret
end
theorem EE{a b:Nat}(h:a<=b):p4 a b=true:=by rw[Nat.ble_eq];exact h
theorem Pf{a b:Nat}(h:p4 a b=true):a<=b:=by rw[Nat.ble_eq] at h;exact h
theorem J7.refl(w:World):J7 w w:=⟨⟨λ_ _=>rfl,j3 _⟩,rfl,rfl,rfl⟩
theorem J7.trans{a b c:World}(h:J7 a b)(k:J7 b c):J7 a c:=
 ⟨⟨λg hg=>(k.1.1 g (o0 hg h.1.2)).trans (h.1.1 g hg),s8 h.1.2 k.1.2⟩,k.2.1.trans h.2.1,k.2.2.1.trans h.2.2.1,k.2.2.2.trans h.2.2.2⟩
def Gv(D:Nat->Prop)(w w':World):Prop:=((∀g,g<w.heap.size->¬D g->w'.heap[g]? = w.heap[g]?)/\w.heap.size<=w'.heap.size)/\w'.os=w.os/\w'.tape=w.tape/\w'.output=w.output
theorem J7.x{D:Nat->Prop}{a b:World}(h:J7 a b):Gv D a b:=⟨⟨λg hg _=>h.1.1 g hg,h.1.2⟩,h.2⟩
theorem Gv.trans{D:Nat->Prop}{a b c:World}(h:Gv D a b)(k:Gv D b c):Gv D a c:=
 ⟨⟨λg hg hd=>(k.1.1 g (o0 hg h.1.2) hd).trans (h.1.1 g hg hd),s8 h.1.2 k.1.2⟩,k.2.1.trans h.2.1,k.2.2.1.trans h.2.2.1,k.2.2.2.trans h.2.2.2⟩
def RQ(D:Nat->Prop)(q:Nat)(a b:World):Prop:=(q=1->J7 a b)/\(q=2->Gv D a b)
theorem RQ.of{D:Nat->Prop}{q:Nat}{a b:World}(h:J7 a b):RQ D q a b:=⟨λ_=>h,λ_=>h.x⟩
theorem RQ.trans{D:Nat->Prop}{q:Nat}{a b c:World}(h:RQ D q a b)(k:RQ D q b c):RQ D q a c:=⟨λe=>(h.1 e).trans (k.1 e),λe=>(h.2 e).trans (k.2 e)⟩
def qK(k:Nat)(f:Bool):Nat:=cond (y8 k 1) (cond f 2 1) 0
section
variable {F : Fence} {n : Nat} {P : Program} {L : Array Oper} {Y : w8} {D : Nat -> Prop} {far : Nat -> Bool}
def QF:Exit->Act->World->Prop:=λ_ _ _=>False
theorem A57{o:Oper}{a:Act}{w:World}{N:Act->World->Prop}{Q:Exit->Act->World->Prop}(h:o.wpIn F n P a w N QF):o.wpIn F n P a w N Q:=by
 unfold ac6 at *;refine⟨h.1,?_⟩;have h:=h.2;generalize (o.semAt F.round a.eval).run P w=r at *;cases r with
 | ok x w'=>
  cases x<;>simp only[w6] at h ⊢
  case value=>exact h
  case skip=>exact h
  case defer=>exact h
  case enter=>exact⟨h.1,ae1 h.2 λe d b=>by
   cases e with
   | returned u=>exact b
   | panicked c=>exact b.elim
   | outgrown=>obtain⟨_,_,h⟩:=b;exact h.elim⟩
  case row=>exact h
  case round=>exact⟨h.1,ae4 h.2 λe d b=>by
   cases e with
   | returned u=>exact b
   | panicked c=>exact b.elim
   | outgrown=>obtain⟨_,_,h⟩:=b;exact h.elim⟩
 | halt x w'=>
  cases x<;>simp only[w6] at h ⊢
  case panic=>exact h.elim
theorem Ac9{i:Nat}{a:Act}{w:World}{N:Act->World->Prop}{Q:Exit->Act->World->Prop}(h:wpOpIn F n P L QF i N a w):wpOpIn F n P L Q i N a w:=by
 unfold wpOpIn at *;split
 ·grind
 ·rename_i o b;simp only[b] at h;split
  ·rename_i c;simp only[c,if_true] at h;exact A57 h
  grind
def YQ(F:Fence)(n:Nat)(P:Program)(L:Array Oper)(D:Nat->Prop)(q:Nat)(b:World)(o:Oper)(v:Value)(a:Act):Prop:=
 o.askedIn F P a (λw=>RQ D q b w)/\
 ((j6 o (yielded L a.tmps)=true/\∀w,RQ D q b w->o.quietAtIn F n P a (J7 w) w v)\/
  (j6 o (yielded L a.tmps)=false/\v=undef))
theorem YQ.step{q:Nat}{w0 w1:World}{o:Oper}{v:Value}{a:Act}(h:YQ F n P L D q w0 o v a)(hl:RQ D q w0 w1):YQ F n P L D q w1 o v a:=
 ⟨λw hw=>h.1 w (hl.trans hw),h.2.imp (λh=>⟨h.1,λw hw=>h.2 w (hl.trans hw)⟩) (λh=>h)⟩
theorem YQ.of_same{q:Nat}{w0:World}{o:Oper}{v:Value}{a a':Act}(hy:YQ F n P L D q w0 o v a)(he:execOp a'.eval o=execOp a.eval o)
  (hw:j6 o (yielded L a'.tmps)=j6 o (yielded L a.tmps)) (hb:∀w,o.about P w a'.eval=o.about P w a.eval):YQ F n P L D q w0 o v a':=by
 unfold YQ x7 Oper.askedIn at *;rw[he,hw];exact⟨λw hc f hf=>hy.1 w hc f (by rw[<-hb w];exact hf),hy.2⟩
theorem YQ.wpOpIn{q:Nat}{w0 w:World}{i:Nat}{o:Oper}{v:Value}{a:Act}(hi:L[i]? = some o)(hnd:∀c,o.op≠.defer c)(hy:YQ F n P L D q w0 o v a)(hw:RQ D q w0 w){K:Act->World->Prop}(h:∀w',J7 w w'->K (a.put o.dst v) w'):wpOpIn F n P L QF i K a w:=by
 unfold Go.wpOpIn;simp only[hi];rcases hy.2 with⟨hwt,hv⟩|⟨hwt,rfl⟩
 ·simp only[hwt,if_true];have h3:=hv w hw;unfold x7 at h3;unfold ac6;refine⟨hy.1 w hw,?_⟩;rw[s7 _ _ _ hnd];generalize (execOp a.eval o).run P w=r at *;cases r with
  | ok x w'=>
   cases x<;>simp only[af0] at h3<;>simp only[w6]
   case value u=>
    obtain⟨e1,e2⟩:=h3;rw[e1,e2];exact h _ (J7.refl w)
   case skip=>
    obtain⟨e1,e2⟩:=h3;rw[e1,<-e2];exact h _ (J7.refl w)
   case enter f args=>
    obtain⟨e1,hd,hc⟩:=h3;rw[e1];exact⟨hd,hc.mono λe w'' ⟨he,hw''⟩=>by subst he;exact h _ hw''⟩
  | halt x w'=>simp only[af0] at h3
 ·simp only[hwt,w9,if_false];exact⟨hy.1 w hw,h _ (J7.refl w)⟩
theorem MC{q:Nat}{A:World}{j:Nat}{i k:Oper}{v:Value}(Q:L[j]? = some k)(H:i.apart L k=true)
  (J:∀C b,i.op≠.select C b) (M:∀C b,k.op≠.select C b) (y:∀c,k.op≠.defer c) {K:Act->World->Prop} {a:Act} {w:World}
  (o:YQ F n P L D q A i v a) (h:wpOpIn F n P L QF j K (a.put i.dst v) w) :
  wpOpIn F n P L QF j (λO w'=>YQ F n P L D q A i v O/\K (O.put i.dst v) w') a w:=by
 obtain⟨B,p,G⟩:=Oper.apart_spec H;have g:∀(a:Act),YQ F n P L D q A i v a->∀u,YQ F n P L D q A i v (a.put k.dst u):=λa o u=>
  o.of_same (execOp_put i J a k.dst u G) (wanted_put i a k.dst u G) (λw=>about_put i w a k.dst u G)
 unfold wpOpIn at *;simp only[Q] at *;rw[wanted_put k a i.dst v B,about_put k w a i.dst v B] at h;split
 ·rename_i N;simp only[N,if_true] at h;unfold ac6 at *;rw[about_put k w a i.dst v B] at h;refine⟨h.1,?_⟩;have h:=h.2;rw[s7 _ _ _ y,execOp_put k M a i.dst v B] at h;rw[s7 _ _ _ y];have I:∀d w',(execOp a.eval k).run P w≠.ok (.defer d) w'\/True:=λ_ _=>.inr trivial
  generalize R:(execOp a.eval k).run P w=r at *;cases r with
  | ok x w'=>
   cases x<;>simp only[w6] at h ⊢
   case value u=>exact⟨g a o u,by rw[<-x9 a v u p];exact h⟩
   case skip=>exact⟨g a o _,by rw[<-x9 a v undef p];exact h⟩
   case defer d=>
    have t:∀d,YQ F n P L D q A i v { a with defers:=d::a.defers }:=λd=>o.of_same rfl rfl (λ_=>rfl)
    refine⟨g _ (t d) _,?_⟩;rw[<-x9 _ v undef p,<-Act.put_defers];exact h
   case enter f args=>
    refine⟨h.1,ae1 h.2 λe z m=>?_⟩;cases e with
    | returned u=>exact⟨g a o u,by rw[<-x9 a v u p];exact m⟩
    | panicked c=>exact m
    | outgrown=>exact m
   case row row args=>exact⟨h.1,ah1 h.2 λu z m=>⟨g a o u,by rw[<-x9 a v u p];exact m⟩⟩
   case round l f tmps assign body=>
    refine⟨h.1,ae4 h.2 λe z m=>?_⟩;cases e with
    | returned u=>exact⟨g a o u,by rw[<-x9 a v u p];exact m⟩
    | panicked c=>exact m
    | outgrown=>exact m
  | halt x w'=>
   cases x<;>simp only[w6] at h ⊢
   case panic u=>exact h
 ·rename_i N;simp only[N] at h;exact⟨h.1,g a o _,by rw[<-x9 a v undef p];exact h.2⟩
def wpR(F:Fence)(n:Nat)(P:Program)(Y:w8)(L:Array Oper)(D:Nat->Prop)(wr c:Nat->Bool)(b:Act->World->Prop):Nat->Array Bool->Act->World->Prop
 | 0,listed,a,w=>j9 Y L listed=[]/\b a w
 | f+1,listed,a,w=>(j9 Y L listed=[]->b a w)/\
  ∀i∈j9 Y L listed,wpOpIn F n P L QF i (λd w'=>(wr i=false->J7 w w')/\(c i=true->Gv D w w')/\∀w1,J7 w' w1->wpR F n P Y L D wr c b f (listed.setIfInBounds i true) d w1) a w
theorem Gt{wr d:Nat->Bool}{Q:Exit->Act->World->Prop}{Qn:Act->World->Prop}(b:∀a w,Qn a w->Q .normal a w):∀(f:Nat) (listed:Array Bool) (a:Act) (w:World),wpR F n P Y L D wr d Qn f listed a w->wpAnyIn F n P Y L Q f listed a w
 | 0,_,_,_,h=>⟨h.1,b _ _ h.2⟩
 | f+1,_,_,_,h=>⟨λe=>b _ _ (h.1 e),λi g=>Ac9 (wpOpIn_mono (λc w' h=>Gt b f _ c w' (h.2.2 w' (J7.refl w'))) (h.2 i g))⟩
def DC(Y:w8)(L:Array Oper)(listed:Array Bool):Prop:=∀j o,L[j]? = some o->listed.getD j false=true->∀e∈o.after,ab0 Y e=true->listed.getD e.on false=true
theorem IZ{listed:Array Bool}{i j:Nat}(h:(listed.setIfInBounds i true).getD j false=true):j=i\/listed.getD j false=true:=by by_cases a:i=j;all_goals simp_all
theorem DC.set{listed:Array Bool}{i:Nat}(h:DC Y L listed)(hi:i∈j9 Y L listed):DC Y L (listed.setIfInBounds i true):=by
 intro j o ho hj e he hb;refine getD_set_true ?_;rcases IZ hj with rfl|hj
 ·obtain⟨_,o',ho',hall⟩:=mem_ready.1 hi;grind
 ·exact h j o ho hj e he hb
def Xz(Y:w8)(L:Array Oper):Nat->Nat->Nat->Bool
 | 0,_,_=>false
 | f+1,j,i=>match L[j]? with
  | some o=>(o.after.toList.any λe=>ab0 Y e&&y8 e.on i)||(o.after.toList.any λe=>ab0 Y e&&Xz Y L f e.on i)
  | none=>false
theorem Sd{listed:Array Bool}{i:Nat}(d:DC Y L listed)(k:listed.getD i false=false):∀f j,Xz Y L f j i=true->listed.getD j false=false/\j∉j9 Y L listed
 | 0,j,h=>by cases h
 | f+1,j,h=>by
  simp only[Xz] at h;split at h
  ·rename_i o m;have key:∃e∈o.after,ab0 Y e=true/\listed.getD e.on false=false:=by
    rw[o8,ae5,ae5] at h;rcases h with⟨e,b,a⟩|⟨e,b,a⟩
    ·rw[a7] at a;have:=j7 a.2;grind
    ·rw[a7] at a;exact⟨e,by simpa using b,a.1,(Sd d k f e.on a.2).1⟩
   obtain⟨e,b,a,g⟩:=key;refine⟨?_,λq=>?_⟩
   ·cases l:listed.getD j false with
    | false=>rfl
    | true=>rw[d j o m l e b a] at g;cases g
   ·obtain⟨_,o',p,c⟩:=mem_ready.1 q;grind
  ·cases h
theorem Oe{listed:Array Bool}{i:Nat}(h:i∈j9 Y L listed):listed.getD i false=false:=by have a:=(mem_ready.1 h).1;grind
theorem Ad0{wr K:Nat->Bool}{Qn:Act->World->Prop}{q:Nat}{i:Nat}{G:Oper}{v:Value}(N:L[i]? = some G)(y:∀(j:Nat) (o:Oper) J b,L[j]? = some o->o.op≠.select J b)(B:∀(j:Nat) (o:Oper) c,L[j]? = some o->o.op≠.defer c) :
  ∀(f:Nat) (listed:Array Bool) (a:Act) (V:World),
   (∀j A,L[j]? = some A->j≠i->listed.getD j true=false->(∀e∈A.after,ab0 Y e=true->e.on≠i)->G.apart L A=true)->
   (∀j,j≠i->listed.getD j true=false->wr j=true->(q=1\/(q=2/\K j=false))->Xz Y L L.size j i=true)->DC Y L listed->
   i∈j9 Y L listed->YQ F n P L D q V G v a->
   (∀w,J7 V w->wpR F n P Y L D wr K Qn f (listed.setIfInBounds i true) (a.put G.dst v) w)->∀w,J7 V w->wpR F n P Y L D wr K Qn (f+1) listed a w:=by
 intro f
 induction f with
 | zero=>
  intro listed a V _ _ _ C W H w z;refine⟨λh=>(by rw[h] at C;cases C),λj I=>?_⟩;by_cases d:j=i
  ·subst d;exact W.wpOpIn N (λc=>B j G c N) (.of z) λw' p=>⟨λ_=>p,λ_=>p.x,λw1 M=>H w1 (z.trans (p.trans M))⟩
  ·have:=ready_mono I d;rw[(H w z).1] at this;cases this
 | succ f ih=>
  intro listed a V l U hd C W H w z;refine⟨λh=>(by rw[h] at C;cases C),λj I=>?_⟩;by_cases d:j=i
  ·subst d;exact W.wpOpIn N (λc=>B j G c N) (.of z) λw' p=>⟨λ_=>p,λ_=>p.x,λw1 M=>H w1 (z.trans (p.trans M))⟩
  ·have M:=(H w z).2 j (ready_mono I d);obtain⟨x,A,t,a3⟩:=mem_ready.1 I;have O:=Oe C;have R:∀e∈A.after,ab0 Y e=true->e.on≠i:=λe he hb heq=>by grind
   have h2:=MC t (l j A t d x R) (λJ b=>y i G J b N) (λJ b=>y j A J b t) (λc=>B j A c t) (W.step (w1:=w) (.of z)) M;have m:∀{k:Nat},k≠i->(listed.setIfInBounds j true).getD k true=false->listed.getD k true=false:=fun {k} g u=>by
    by_cases a4:j=k;all_goals simp_all
   refine wpOpIn_mono (λa' w' h3=>?_) h2;obtain⟨a2,p,Q,hR⟩:=h3;refine⟨p,Q,λw1 Z=>?_⟩;have X:RQ D q w w':=by
    cases T:wr j with
    | false=>exact .of (p T)
    | true=>
     have r:(q=1\/(q=2/\K j=false))->False:=λS=>(Sd hd O L.size j (U j d x T S)).2 I
     refine⟨λS=>(r (.inl S)).elim,λS=>?_⟩;cases hf:K j with
     | true=>exact Q hf
     | false=>exact(r (.inr ⟨S,hf⟩)).elim
   refine ih (listed.setIfInBounds j true) a' w' (λk ok hk g u r=>l k ok hk g (m g u) r) (λk g u a1=>U k g (m g u) a1) (hd.set I) (ready_mono C (Ne.symm d)) (a2.step X) (λw2 a0=>?_) w1 Z;rw[Array.setIfInBounds_comm _ _ d];exact hR w2 a0
def J3(F:Fence)(n:Nat)(P:Program)(L:Array Oper)(D:Nat->Prop)(far:Nat->Bool)(kind:Nat->Nat)(E:Act->World->Prop):List Nat->Act->World->Prop
 | [],a,c=>E a c
 | i::b,a,c=>(kind i<=1->∃o v,L[i]? = some o/\YQ F n P L D (qK (kind i) (far i)) c o v a/\J3 F n P L D far kind E b (a.put o.dst v) c)/\
  (2<=kind i->∀w,J7 c w->wpOpIn F n P L QF i (λd w'=>(kind i=2->J7 w w')/\(far i=true->Gv D w w')/\J3 F n P L D far kind E b d w') a w)
def VU(Y:w8)(L:Array Oper)(far:Nat->Bool)(kind:Nat->Nat)(i:Nat)(listed:Array Bool):Bool:=
 (j9 Y L listed).contains i&&(Region.free Y L listed i&&(y8 (kind i) 0||(ag1 L.size).all λj=>y8 j i||(listed.getD j true||(!(p4 3 (kind j))||((far i&&far j)||Xz Y L L.size j i)))))
def Ve(Y:w8)(L:Array Oper)(far:Nat->Bool)(kind:Nat->Nat)(a:Array Bool->Bool):List Nat->Array Bool->Bool
 | [],listed=>a listed
 | i::r,listed=>cond (p4 (kind i) 1) (VU Y L far kind i listed) ((j9 Y L listed)==[i])&&Ve Y L far kind a r (listed.setIfInBounds i true)
def ES(Y:w8)(L:Array Oper)(far:Nat->Bool)(kind:Nat->Nat):List Nat->Array Bool->Bool:=Ve Y L far kind λlisted=>(j9 Y L listed).isEmpty
theorem Aj8{kind:Nat->Nat}{z:Act->World->Prop}(K:x5 L=true)(x:∀(j:Nat) (o:Oper) c,L[j]? = some o->o.op≠.defer c)(I:∀j,L.size<=j->kind j<=1){i b:Nat}{listed:Array Bool}{a:Act}{m:World}{o:Oper}{v:Value}
  (A:VU Y L far kind i listed=true) (B:DC Y L listed) (C:L[i]? = some o) (N:YQ F n P L D (qK (kind i) (far i)) m o v a)
  (h:DC Y L (listed.setIfInBounds i true)->∀w,J7 m w->wpR F n P Y L D (λj=>p4 3 (kind j)) far z b (listed.setIfInBounds i true) (a.put o.dst v) w):∀w,J7 m w->wpR F n P Y L D (λj=>p4 3 (kind j)) far z (b+1) listed a w:=by
 intro w M;simp only[VU,a7] at A;obtain⟨J,G,e⟩:=A;have g:i∈j9 Y L listed:=by simpa using J
 refine Ad0 (q:=qK (kind i) (far i)) C (Region.noSelect_spec K) x b listed a m (Region.free_spec C G) (λj t y k d=>?_) B g N (h (B.set g)) w M;have f:kind i=1:=by
  cases l:y8 (kind i) 1 with
  | true=>exact j7 l
  | false=>simp[qK,l] at d
 have p:(far i&&far j)=false:=by
  rw[f] at d;cases r:far i with
  | false=>rfl
  | true=>
   rcases d with d|⟨_,d⟩
   ·rw[r] at d;cases d
   ·rw[d];rfl
 rw[f] at e;simp only[show y8 1 0=false from rfl,ag2,j0,af9] at e;have u:j<L.size:=o7 λH=>by
  have:=I j (by omega);have O:=Pf k;omega
 have:=e j u;rw[show y8 j i=false by cases l:y8 j i with|false=>rfl|true=>exact absurd (j7 l) t,y,k,p] at this;simpa using this
theorem Ix{kind:Nat->Nat}{Qn E:Act->World->Prop}{fin:Array Bool->Bool}{m:Nat}(C:x5 L=true)(k:∀(j:Nat) (o:Oper) c,L[j]? = some o->o.op≠.defer c)(B:∀j,L.size<=j->kind j<=1)
  (d:∀listed a f,fin listed=true->DC Y L listed->E a f->∀w,J7 f w->wpR F n P Y L D (λj=>p4 3 (kind j)) far Qn m listed a w) :
  ∀(b:List Nat) (listed:Array Bool) (a:Act) (f:World),Ve Y L far kind fin b listed=true->DC Y L listed->J3 F n P L D far kind E b a f->∀w,J7 f w->wpR F n P Y L D (λj=>p4 3 (kind j)) far Qn (m+b.length) listed a w
 | [],listed,a,f,r,t,h,w,u=>d listed a f r t h w u
 | i::b,listed,a,f,r,t,h,w,u=>by
  simp only[Ve,a7] at r;obtain⟨e,q⟩:=r;simp only[J3] at h;show wpR F n P Y L D _ _ Qn (m+b.length+1) listed a w;by_cases g:kind i<=1
  ·rw[show p4 (kind i) 1=true from EE g,cond_true] at e;obtain⟨o,v,M,N,J⟩:=h.1 g;exact Aj8 C k B e t M N (λy w1 l=>Ix C k B d b _ _ f q y J w1 l) w u
  ·rw[show p4 (kind i) 1=false by cases K:p4 (kind i) 1 with|false=>rfl|true=>exact absurd (Pf K) g,cond_false] at e;have H:j9 Y L listed=[i]:=by simpa using e
   refine⟨λG=>(by rw[H] at G;cases G),λj z=>?_⟩;have A:j=i:=by rw[H] at z;simpa using z
   subst A;refine wpOpIn_mono (λI w' x=>?_) (h.2 (by omega) w u);refine⟨λp=>x.1 ?_,x.2.1,λw1 l=>Ix C k B d b _ I w' q (t.set z) x.2.2 w1 l⟩;have:¬ 3<=kind j:=λh=>by dsimp only at p;rw[EE h] at p;cases p
   omega
def Oh(F:Fence)(n:Nat)(P:Program)(L:Array Oper)(D:Nat->Prop)(far:Nat->Bool)(kind:Nat->Nat)(E:Act->World->Prop)(e:Nat)(post:List Nat):List Nat->Act->World->Prop
 | [],a,c=>∀w,J7 c w->wpOpIn F n P L QF e (λd w'=>J7 w w'/\J3 F n P L D far kind E post d w') a w
 | i::b,a,c=>J3 F n P L D far kind (Oh F n P L D far kind E e post b) [i] a c/\
  (2<=kind i->∀w,J7 c w->wpOpIn F n P L QF e (λd w'=>J7 w w'/\J3 F n P L D far kind E ((i::b)++post) d w') a w)
def Iw(Y:w8)(L:Array Oper)(far:Nat->Bool)(kind:Nat->Nat)(a:Nat)(post:List Nat):List Nat->Array Bool->Bool
 | [],listed=>(j9 Y L listed==[a])&&ES Y L far kind post (listed.setIfInBounds a true)
 | i::r,listed=>cond (p4 (kind i) 1) (VU Y L far kind i listed)
   ((j9 Y L listed).contains i&&((j9 Y L listed).all (λj=>y8 j i||y8 j a)&&ES Y L far kind ((i::r)++post) (listed.setIfInBounds a true)))&&Iw Y L far kind a post r (listed.setIfInBounds i true)
theorem Ai1{kind:Nat->Nat}{y:Act->World->Prop}{J:Nat}{post:List Nat}(R:x5 L=true)(t:∀(j:Nat) (o:Oper) c,L[j]? = some o->o.op≠.defer c)(Q:∀j,L.size<=j->kind j<=1) :
  ∀(k:List Nat) (listed:Array Bool) (a:Act) (l:World),Iw Y L far kind J post k listed=true->DC Y L listed->Oh F n P L D far kind (λa l=>∀w,J7 l w->y a w) J post k a l->∀w,J7 l w->wpR F n P Y L D (λj=>p4 3 (kind j)) far y (post.length+1+k.length) listed a w:=by
 have p:∀(listed:Array Bool) (a:Act) (l:World),(j9 Y L listed).isEmpty=true->DC Y L listed->(∀w,J7 l w->y a w)->∀w,J7 l w->wpR F n P Y L D (λj=>p4 3 (kind j)) far y 0 listed a w:=
  λlisted a l h _ W w u=>⟨by simpa using h,W w u⟩
 intro k
 induction k with
 | nil=>
  intro listed a l A G h w u;simp only[Iw,a7] at A;obtain⟨b,m⟩:=A;have S:j9 Y L listed=[J]:=by simpa using b
  show wpR F n P Y L D _ _ y (post.length+1) listed a w;refine⟨λH=>(by rw[S] at H;cases H),λj q=>?_⟩;have g:j=J:=by rw[S] at q;simpa using q
  subst g;refine wpOpIn_mono (λz w' f=>⟨λ_=>f.1,λ_=>f.1.x,λw1 d=>?_⟩) (h w u);have:=Ix R t Q p post _ z w' m (G.set q) f.2 w1 d;rwa [s6] at this
 | cons i e T=>
  intro listed a l A G h w u;simp only[Iw,a7] at A;obtain⟨b,m⟩:=A;simp only[Oh] at h;obtain⟨M,V⟩:=h;simp only[J3] at M;show wpR F n P Y L D _ _ y (post.length+1+e.length+1) listed a w;by_cases r:kind i<=1
  ·rw[show p4 (kind i) 1=true from EE r,cond_true] at b;obtain⟨o,v,I,X,U⟩:=M.1 r;exact Aj8 R t Q b G I X (λN w1 d=>T _ _ l m N U w1 d) w u
  ·rw[show p4 (kind i) 1=false by cases C:p4 (kind i) 1 with|false=>rfl|true=>exact absurd (Pf C) r,cond_false] at b;simp only[a7,j0,o8] at b;obtain⟨O,B,K⟩:=b;have I:i∈j9 Y L listed:=by simpa using O
   refine⟨λH=>(by rw[H] at I;cases I),λj q=>?_⟩;rcases B j q with C|C
   ·have g:=j7 C;subst g;refine wpOpIn_mono (λz w' f=>?_) (M.2 (by omega) w u);refine⟨λx=>f.1 ?_,f.2.1,λw1 d=>T _ z w' m (G.set q) f.2.2 w1 d⟩;have:¬ 3<=kind j:=λh=>by dsimp only at x;rw[EE h] at x;cases x
    omega
   ·have g:=j7 C;subst g;refine wpOpIn_mono (λz w' f=>⟨λ_=>f.1,λ_=>f.1.x,λw1 d=>?_⟩) (V (by omega) w u);have:=Ix R t Q p ((i::e)++post) _ z w' K (G.set q) f.2 w1 d;rw[s6] at this;rw[show post.length+1+e.length=((i::e)++post).length by rw[j5,ae7];omega];exact this
def Yv(d:Option Tmp)(a b:Act):Prop:=∀t,d≠some t->b.tmps[t]? = a.tmps[t]?
theorem U7(a:Act)(d:Option Tmp)(v:Value):Yv d a (a.put d v):=λt b=>by
 cases d with
 | none=>rfl
 | some d=>
  have:d≠t:=λe=>b (by rw[e])
  simp[af6,this]
theorem UI{o:Oper}{a:Act}{w:World}{N:Act->World->Prop}(h:o.wpIn F n P a w N QF):o.wpIn F n P a w (λf w'=>Yv o.dst a f/\N f w') QF:=by
 unfold ac6 at *;refine⟨h.1,?_⟩;have h:=h.2;generalize (o.semAt F.round a.eval).run P w=r at *;cases r with
 | ok x w'=>
  cases x<;>simp only[w6] at h ⊢
  case value=>exact⟨U7 _ _ _,h⟩
  case skip=>exact⟨U7 _ _ _,h⟩
  case defer=>
   refine⟨λt g=>?_,h⟩;exact U7 { a with defers:=_ } o.dst undef t g
  case enter=>exact⟨h.1,ae1 h.2 λe d b=>by
   cases e with
   | returned u=>exact⟨U7 _ _ _,b⟩
   | panicked c=>exact b.elim
   | outgrown=>obtain⟨_,_,h⟩:=b;exact h.elim⟩
  case row=>exact⟨h.1,ah1 h.2 λu d b=>⟨U7 _ _ _,b⟩⟩
  case round=>exact⟨h.1,ae4 h.2 λe d b=>by
   cases e with
   | returned u=>exact⟨U7 _ _ _,b⟩
   | panicked c=>exact b.elim
   | outgrown=>obtain⟨_,_,h⟩:=b;exact h.elim⟩
 | halt x w'=>
  cases x<;>simp only[w6] at h ⊢
  omega
theorem HC{i:Nat}{o:Oper}(d:L[i]? = some o){a:Act}{w:World}{N:Act->World->Prop}(h:wpOpIn F n P L QF i N a w):wpOpIn F n P L QF i (λc w'=>Yv o.dst a c/\N c w') a w:=by
 unfold wpOpIn at *;simp only[d] at h ⊢;split
 ·rename_i b;simp only[b,if_true] at h;exact UI h
 ·rename_i b;simp only[b] at h;exact⟨h.1,U7 _ _ _,h.2⟩
theorem Rc{kind:Nat->Nat}{E:Act->World->Prop}{i:Nat}{o:Oper}(j:L[i]? = some o){a:Act}{k:World}(h:J3 F n P L D far kind (λc w'=>Yv o.dst a c->E c w') [i] a k):J3 F n P L D far kind E [i] a k:=by
 simp only[J3] at h ⊢;refine⟨λg=>?_,λg w l=>?_⟩
 ·obtain⟨o',v,b,d,f⟩:=h.1 g;obtain rfl:=ab9 (j.symm.trans b);exact⟨_,v,b,d,f (U7 _ _ _)⟩
 ·exact wpOpIn_mono (λc w' ⟨b,d,e,f⟩=>⟨d,e,f b⟩) (HC j (h.2 g w l))
theorem Og{id:Nat}{Q:Exit->Act->World->Prop}{kind:Nat->Nat}{ord:List Nat}{a:Act}{w:World}(k:P.follows .mixedOrders=true)(p:x5 L=true)(f:∀(j:Nat) (o:Oper) c,L[j]? = some o->o.op≠.defer c)(i:∀j,L.size<=j->kind j<=1)
  (b:ord.length=L.size) (g:ES .any L far kind ord (ab6 L.size false)=true) (h:J3 F n P L D far kind (λa d=>∀w,J7 d w->Q .normal a w) ord a w):(ad5 id L true).wpIn F n P Q a w:=by
 refine wpIn_region_any k ?_;rw[<-b,<-s6 ord.length];refine Gt (λ_ _ h=>h) _ _ _ _ (Ix (Qn:=λa w=>Q .normal a w) (m:=0) (fin:=λlisted=>(j9 .any L listed).isEmpty) (E:=λa d=>∀w,J7 d w->Q .normal a w) p f i (λlisted a d h _ l w q=>⟨by simpa using h,l w q⟩) ord _ a w (by rw[s6,b];exact g) (λj o r e=>?_) h _ (J7.refl w));simp only[j2,ac2] at e;split at e<;>cases e
end
section
variable {X R : Type} {r : R} {C : Cfg} {I : X -> (Nat -> Prop) -> (Nat -> Prop) -> World -> Prop} {Γ : Ctx} {Φ : Nat -> Prop} {st : St X} {a : Act} {w : World} {Z : E2} {O : Yh X} {N : Value} {o : Oper}
theorem TO{P:Program}{m:Sem Next}{w w1 b:World}{x y:Next}(h:m.run P w = .ok x w1)(k:m.run P w = .ok y b):x=y/\w1=b:=by grind
theorem Ks(w:World)(x:Obj):J7 w (w.alloc x):=⟨⟨λg b=>E1 (w':=w.alloc x) (o:=x) rfl b,by rw[show(w.alloc x).heap=w.heap.push x from rfl];simp⟩,rfl,rfl,rfl⟩
theorem Zb{Γ:Ctx}{e:Nat}{ev:Operand->Value}(b:(C.ti e).ok=true)(c:o.op = .alloc e):∃z:Value,(execOp ev o).run C.P w = .ok (.value (.pointer (some ⟨w.heap.size,0,none⟩))) (w.alloc (.cells z.cells e))/\(∀(Γ:Ctx) sh w,CR Γ sh w ((C.ti e).ks.map O2) z.cells)/\∃i,C.P.info? e=some i/\i.zero=some z:=by
 obtain⟨i,z,d,f,_,_⟩:=Ag (Γ:=Γ) (sh:=λ_=>none) (w:=w) b;refine⟨z,?_,λΓ' sh w'=>?_,i,d,f⟩
 ·simp only[execOp,c];simp[af2,zeroValue,typeInfo,d,f,newVar,newRow]
 ·obtain⟨k,l,g,j,_,h⟩:=Ag (Γ:=Γ') (sh:=sh) (w:=w') b;grind
theorem Bg8{P:Option Nat}{n:Nat}{k:St X->Option R}{next:Act->World->Prop}{Q:Exit->Act->World->Prop}(A:Ask C I Z O N)(a0:Γ.yv=N)(B:IU C o.op=true)(h:opK C Z O o st k=some r)(S:SI C I Γ Φ st a.tmps w)(U:Nxt C I Γ Φ st.hp w a.defers k r (λa' w'=>J7 w w'->next a' w')) :
  o.wpIn (D9 P) n C.P a w next Q:=by
 refine⟨λ_ _=>trivial,?_⟩;have M:∀c,o.op≠.defer c:=λc e=>by simp[opK,e] at h
 rw[s7 _ _ _ M];unfold IU at B;have add:Pq o.op=false->(∃m x,(execOp a.eval o).run C.P w = .ok (.value m) (w.alloc x))->o.uponIn (D9 P) n C.P a next Q ((execOp a.eval o).run C.P w):=λy ⟨m,x,K⟩=>by
  obtain⟨V,w',Γ',l,H,u,h3,h4⟩:=JX A.hI y h S;have hn:=U l (a.put o.dst V) w' Γ' Φ H h4 h3 (put_defers _ _ _);rcases u with u|⟨rfl,u⟩
  ·obtain⟨_,rfl⟩:=TO u K;rw[u];exact hn (Ks w x)
  grind
 split at B
 ·rename_i t len parts b;refine add (by rw[b];rfl) ?_;simp only[opK,b] at h;obtain⟨p1,p2⟩:=S.parts parts.toList;cases F:C.stab t with
  | true=>
   simp only[F,cond_true] at h;obtain⟨v,Y,hv,m,x,f⟩:=Ev (ps:=parts.map λ(i,x)=>(i,a.eval x)) (sl:=st.sl) (tmps:=a.tmps) S.hr h (by rw[r9];exact p1);refine⟨m,x,?_⟩;simp only[execOp,b];simp[f]
  | false=>
  simp only[F,cond_false] at h;obtain⟨v,H',Y,hv,m,x,f⟩:=Dj (ps:=parts.map λ(i,x)=>(i,a.eval x)) (sl:=st.sl) (tmps:=a.tmps) S.hr h (by rw[r9];exact p1);refine⟨m,x,?_⟩;simp only[execOp,b];simp[f]
 ·rename_i e b;refine add (by rw[b];rfl) ?_;by_cases D:(C.ti e).ok=true
  ·obtain⟨z,hr,_⟩:=Zb (Γ:=Γ) (ev:=a.eval) (w:=w) D b;exact⟨_,_,hr⟩
  ·simp[opK,b,Sf,D] at h
 ·rename_i t b;refine add (by rw[b];rfl) ?_;simp only[opK,b] at h;obtain⟨v,H',Y,hv,m,x,f⟩:=Ie (sl:=st.sl) (tmps:=a.tmps) S.hr h;refine⟨m,x,?_⟩;simp only[execOp,b];simp[f]
 ·rename_i c b;split at B
  ·rename_i g p;simp only[a7,u9] at B;obtain⟨⟨pf,q⟩,W⟩:=B;simp only[opK,b,p,opnd,Rb,Mh,q,ac1,ad2,aa4] at h;split at h
   ·rename_i L;obtain⟨ret,Hc,j,h⟩:=U3 h;have j:G5 (pf (argX st.hp (c.args.toList.map (opnd C st.sl))))=some (ret,Hc):=by
     cases hx:C.xp g with
     | true=>rw[hx] at j;exact(V7 j).1
     | false=>rw[hx] at j;exact j
    obtain⟨H,u⟩:=B6 h;obtain⟨hc,hn⟩:=S.list c.args;have key:=Vd (k:=λv l=>k { l with sl:=P0 o.dst v l.sl }) A.hI A.hX S hc q j (y5.1 L) (by simpa only[o8,a7] using H) u;have J:execOp a.eval o=(do let d <-o6 (a.eval (.func g)) (c.args.map a.eval);invoke d.target d.args):=by simp only[execOp,b,resolve,p]
    have f:(execOp a.eval o).run C.P w=(callFunc g (c.args.map a.eval)).run C.P w:=by
     rw[J];have e:a.eval (.func g) = .func (.func g) #[] #[]:=rfl;rw[e];simp[o6,invoke]
    rw[f];refine key P n o a next Q ?_
    rintro V w' ⟨⟨v,l,Γ',T,k1,k2,G,k4,k5⟩,K⟩;exact U _ (a.put o.dst V) w' Γ' T k1 k2 ⟨G.hr,G.sr.put (ds:=a.defers) o k4 k5,G.g,G.inv,G.dis⟩ (put_defers _ _ _) K
   ·cases h
  ·cases B
 ·cases B
theorem Wf(C:Cfg)(op:Op):(U1 C op=0/\((∃x,op = .move x\/op = .assign x\/(∃y z,op = .pick x y z)\/∃i,op = .extract x i)\/(∃x,op = .nilCheck x)\/(∃t x d c e,op = .slice t x d c e)\/(∃t x f,op = .fieldAddr t x f)\/(∃t x i,op = .indexAddr t x i)\/(∃t p,op = .build t p)\/∃b t x y q,op = .binOp b t x y q))\/(U1 C op=1/\Nm C op=true)\/(U1 C op=2/\IU C op=true)\/U1 C op=3:=by unfold U1;grind
theorem Be0{k:St X->Option R}(J:(∃x,o.op = .move x\/o.op = .assign x\/(∃y z,o.op = .pick x y z)\/∃i,o.op = .extract x i)\/(∃x,o.op = .nilCheck x)\/(∃t x m j n,o.op = .slice t x m j n)\/(∃t x f,o.op = .fieldAddr t x f)\/(∃t x i,o.op = .indexAddr t x i)\/(∃t p,o.op = .build t p)\/∃b t x y q,o.op = .binOp b t x y q)(h:opK C Z O o st k=some r)(S:SI C I Γ Φ st a.tmps w) :
  ∃V d,k d=some r/\(∀w':World,(execOp a.eval o).run C.P w' = .ok (.value V) w')/\SI C I Γ Φ d (a.put o.dst V).tmps w/\Stp C Γ st.hp w noΦ Γ d.hp w noΦ:=by
 rcases J with⟨x,c⟩|⟨x,c⟩|⟨t,x,m,j,n,c⟩|⟨t,x,f,c⟩|⟨t,x,i,c⟩|⟨t,p,c⟩|⟨b,t,x,y,q,c⟩
 ·obtain⟨V,d,D,F,G,H⟩:=Jm (a:=a) (show H9 C o.op=true by rcases c with h|h|⟨_,_,h⟩|⟨_,h⟩<;>rw[h]<;>rfl) h S;refine⟨V,d,D,λw'=>?_,G,H⟩;have e:=F w (Ext.refl w);rcases c with c|c|⟨y,z,c⟩|⟨i,c⟩<;>simp only[execOp,c] at e ⊢
  ·cases e;rfl
  ·cases e;rfl
  ·generalize a.eval x=v at e ⊢;cases v<;>simp[asBool] at e ⊢
   exact e
  ·unfold ag3 at e ⊢;split at e
   ·split at e
    ·cases e;simp_all
    ·cases e
   ·cases e
 ·simp only[opK,c] at h;split at h
  ·rename_i l;have g:=(S.opnd x).1;refine⟨a.eval x,_,h,λw'=>?_,S.put g (S.opnd x).2,Stp.refl S.hr⟩;simp only[execOp,c];unfold QM at l;split at l
   ·rename_i c;rw[c] at g;obtain⟨u,e⟩:=g.inv_ptr;simp_all
   ·rename_i c;rw[c] at g;obtain⟨u,e⟩:=g.inv_sp;simp_all
   ·rename_i c;rw[c] at g;obtain⟨A,B,e⟩:=g.inv_fn;simp_all
   ·rename_i c;rw[c] at g;obtain⟨A,B,e⟩:=g.inv_fnr;simp_all
   grind
  ·cases h
 ·exact LI (a:=a) c h S
 ·exact IV (a:=a) c h S
 ·exact JI (a:=a) c h S
 ·exact ID (a:=a) c h S
 ·exact XO (a:=a) c h S
def Ad8(C:Cfg)(I:X->(Nat->Prop)->(Nat->Prop)->World->Prop)(Γ:Ctx)(Φ:Nat->Prop)(H:List Blk)(w:World)(ds:List Deferred)(k:St X->Option R)(r:R)(q:Prop)(next:Act->World->Prop):Prop:=
 ∀b d w' Γ' c,k b=some r->Stp C Γ H w Φ Γ' b.hp w' c->SI C I Γ' c b d.tmps w'->d.defers=ds->(q->∀g,Γ'.St g->Γ.St g)->next d w'
theorem Nxt.q{H:List Blk}{ds:List Deferred}{k:St X->Option R}{q:Prop}{next:Act->World->Prop}(h:Nxt C I Γ Φ H w ds k r next):Ad8 C I Γ Φ H w ds k r q next:=λst' a' w' Γ' Φ' h1 h2 h3 h4 _=>h st' a' w' Γ' Φ' h1 h2 h3 h4
theorem Z7{ro:Option Nat}{n:Nat}{all:Array Oper}{E:Act->World->Prop}{D:Nat->Prop}{far:Nat->Bool}(A:Ask C I Z O N):∀(c:List Nat) {Γ:Ctx} {Φ:Nat->Prop} {st:St X} {a:Act} {w:World} {k:St X->Option R},(∀i∈c,i<all.size/\far i=false)->Γ.yv=N->
  Z5 C Z O all (c.filterMap (all[·]?)) st k=some r->SI C I Γ Φ st a.tmps w->Ad8 C I Γ Φ st.hp w a.defers k r (∀j∈c,G4 C all j<=1) E->J3 (D9 ro) n C.P all D far (G4 C all) E c a w
 | [],Γ,Φ,st,a,w,k,f,hyv,h,S,F=>F st a w Γ Φ h (Stp.refl S.hr) S rfl (λ_ _ h=>h)
 | i::c,Γ,Φ,st,a,w,k,f,hyv,h,S,F=>by
  have b1:=(f i (by simp)).1;have M:=(f i (by simp)).2;obtain⟨o,ho⟩:∃o,all[i]? = some o:=⟨all[i],y9 b1⟩
  have u:∀j∈c,j<all.size/\far j=false:=λj hj=>f j (by simp[hj])
  rw[ad8,ho] at h;have a1:G4 C all i=U1 C o.op:=by simp only[G4,ho]
  have run:∀{st:St X},j6 o (yielded all a.tmps)=true->SI C I Γ Φ st a.tmps w->Ad8 C I Γ Φ st.hp w a.defers k r (∀j∈i::c,G4 C all j<=1) E->opK C Z O o st (λd=>Z5 C Z O all (c.filterMap (all[·]?)) d k)=some r->J3 (D9 ro) n C.P all D far (G4 C all) E (i::c) a w:=fun {st} m S F h=>by
   have a4:U1 C o.op<=1->∃V d,Z5 C Z O all (c.filterMap (all[·]?)) d k=some r/\YQ (D9 ro) n C.P all D (qK (U1 C o.op) (far i)) w o V a/\SI C I Γ Φ d (a.put o.dst V).tmps w/\Stp C Γ st.hp w Φ Γ d.hp w Φ:=λa0=>by
    rcases Wf C o.op with⟨T,hb⟩|⟨T,x⟩|⟨T,_⟩|T
    ·obtain⟨V,d,G,z,H,J⟩:=Be0 (a:=a) hb h S;refine⟨V,d,G,⟨λ_ _ _ _=>trivial,.inl ⟨m,λw' _=>?_⟩⟩,H,J.lift Φ⟩;unfold x7;rw[z w'];exact⟨rfl,rfl⟩
    ·rw[T];simp only[Nm,o8] at x;rcases x with x|x
     ·obtain⟨V,d,G,z,H,J⟩:=Jm (a:=a) x h S;refine⟨V,d,G,⟨λ_ _ _ _=>trivial,.inl ⟨m,λw' a3=>?_⟩⟩,H,J.lift Φ⟩;unfold x7;rw[z w' (a3.1 (by rw[M];rfl)).1.1];exact⟨rfl,rfl⟩
     ·obtain⟨V,d,G,z,H,J⟩:=ZH (ro:=ro) (n:=n) (a:=a) A.hI A.hX x h S;exact⟨V,d,G,⟨λ_ _ _ _=>trivial,.inl ⟨m,λw' a3=>z w' (a3.1 (by rw[M];rfl))⟩⟩,H,J.lift Φ⟩
    all_goals omega
   simp only[J3];rw[a1];refine⟨λa0=>?_,λb2 w1 K=>?_⟩
   ·obtain⟨V,d,G,z,H,J⟩:=a4 a0;exact⟨o,V,ho,z,Z7 A c u hyv G H λp Y w2 q t k1 k2 k3 k4 k5=>F p Y w2 q t k1 (J.trans k2) k3 (k4.trans (put_defers _ _ _)) λx=>k5 λj hj=>x j (by simp[hj])⟩
   ·obtain⟨S1,P⟩:=S.like A.hI K;unfold wpOpIn;simp only[ho,m,if_true];rcases Wf C o.op with⟨T,_⟩|⟨T,_⟩|⟨T,hx⟩|T
    ·omega
    ·omega
    ·exact Bg8 A hyv hx h S1 λd a' w' Γ' Φ' G z H J hl=>⟨λ_=>hl,λe=>(by rw[M] at e;cases e),Z7 A c u (z.yv.trans hyv) G H λp Y w2 q t k1 k2 k3 k4 _=>F p Y w2 q t k1 (P.trans (z.trans k2)) k3 (k4.trans J) λx=>absurd (x i (by simp)) (by rw[a1];omega)⟩
    ·exact GA A hyv h S1 λd a' w' Γ' Φ' G z H J=>⟨λe=>by omega,λe=>(by rw[M] at e;cases e),Z7 A c u (z.yv.trans hyv) G H λp Y w2 q t k1 k2 k3 k4 _=>F p Y w2 q t k1 (P.trans (z.trans k2)) k3 (k4.trans J) λx=>absurd (x i (by simp)) (by rw[a1];omega)⟩
  have skip:∀{st:St X},j6 o (yielded all a.tmps)=false->SI C I Γ Φ st a.tmps w->Ad8 C I Γ Φ st.hp w a.defers k r (∀j∈i::c,G4 C all j<=1) E->Z5 C Z O all (c.filterMap (all[·]?)) { st with sl:=P0 o.dst (.tup []) st.sl } k=some r->J3 (D9 ro) n C.P all D far (G4 C all) E (i::c) a w:=fun {st} m S F h=>by
   simp only[J3];have go:∀{w1:World},J7 w w1->J3 (D9 ro) n C.P all D far (G4 C all) E c (a.put o.dst undef) w1:=fun {w1} K=>by
    obtain⟨S1,P⟩:=S.like A.hI K;exact Z7 A c (st:={ st with sl:=P0 o.dst (.tup []) st.sl }) u hyv h (S1.put (o:=o) R6 (by simp[PV.nms,B9])) λp Y w2 q t k1 k2 k3 k4 k5=>F p Y w2 q t k1 (P.trans k2) k3 (k4.trans (put_defers _ _ _)) λx=>k5 λj hj=>x j (by simp[hj])
   refine⟨λa0=>⟨o,undef,ho,⟨λ_ _ _ _=>trivial,.inr ⟨m,rfl⟩⟩,go (J7.refl w)⟩,λb2 w1 K=>?_⟩;unfold wpOpIn;simp only[ho,m,w9,if_false];exact⟨λ_ _=>trivial,λ_=>J7.refl w1,λ_=>(J7.refl w1).x,go K⟩
  simp only[Z5] at h;split at h
  ·rename_i hg;exact run (by simp[j6,hg]) S F h
  ·rename_i j W hg;split at h
   ·rename_i g a5;have a9:∀b,a.tmps[g]? = some (.bool b)->yielded all a.tmps j=some b:=λb e=>by simp[yielded,a5,e]
    have a6:(∀b,a.tmps[g]?≠some (.bool b))->yielded all a.tmps j=none:=λb4=>by
     simp only[yielded,a5,ab3]
    have l:∀v,st.sl.getD g (.tup [])=v->∀V,a.tmps[g]? = some V->VP Γ (A0 st.hp) w v V:=λv hv V hV=>by
     have f:g<st.sl.length:=by rw[<-S.sr.size];exact(k9.1 hV).1
     obtain⟨U,e1,e2⟩:=S.sr.slot g f;grind
    split at h
    ·rename_i b hb;have f:g<st.sl.length:=o7 λb3=>by grind
     obtain⟨U,e1,e2⟩:=S.sr.slot g f;have hU:=(l _ hb U e1).inv_bool;subst hU;have y:yielded all a.tmps j=some b:=a9 b e1;have S':SI C I Γ Φ { st with sl:=st.sl.set g (.s (.bool b)) } a.tmps w:=⟨S.hr,S.sr.set g (l _ hb) (by simp[PV.nms]),S.g,S.inv,S.dis⟩
     have Q:(if (b==W)=true then opK C Z O o { st with sl:=st.sl.set g (.s (.bool b)) } (λd=>Z5 C Z O all (c.filterMap (all[·]?)) d k) else Z5 C Z O all (c.filterMap (all[·]?)) { st with sl:=P0 o.dst (.tup []) (st.sl.set g (.s (.bool b))) } k)=some r:=by
      cases b<;>exact h
     by_cases L:b=W
     ·rw[if_pos (by simpa using L)] at Q;exact run (by simp[j6,hg,y,L]) S' F Q
     ·rw[if_neg (by simpa using L)] at Q;exact skip (by simp[j6,hg,y,L]) S' F Q
    ·rename_i hb;have y:yielded all a.tmps j=none:=a6 λb b0=>by
      obtain⟨B,e,_⟩:=(l _ hb _ b0).inv_tup;cases e
     exact skip (by simp[j6,hg,y]) S F h
    grind
   ·cases h
def Bn5:Op->Bool
 | .defer _=>false
 | _=>true
def An:Option (List Nat × List Nat)->Nat->Bool
 | none,_=>false
 | some f,i=>okN f.1 i
def An7(C:Cfg)(c:Option (List Nat × List Nat))(b:Array Oper):Bool:=
 x5 b&&(b.toList.all (λo=>Bn5 o.op)&&(y8 (Ni C b.toList).length b.size&&((Ni C b.toList).all (λi=>p4 (i+1) b.size)&&ES .any b (An c) (G4 C b) (Ni C b.toList) (ab6 b.size false))))
def TS(o:Oper):List Nat:=o.op.operands.toList.filterMap λx=>match x with | .tmp t=>some t|_=>none
def Cy(b:Array Oper)(f:Nat)(c:List Nat):Bool:=match b[f]? with
 | some e=>(match e.dst with|some _=>true|none=>false)&&c.all λi=>match b[i]? with
  | some o=>(match o.dst with|some d=>!(TS e).contains d&&!(e.dst==some d)|none=>true)
  | none=>false
 | none=>false
def SC(C:Cfg)(d:Option (List Nat × List Nat))(b:Array Oper)(c:Nat):Bool:=
 x5 b&&(b.toList.all (λo=>Bn5 o.op)&&(y8 (Eo C b++(Cz C b c++c::Af C b c)).length b.size&&((Eo C b++(Cz C b c++c::Af C b c)).all (λi=>p4 (i+1) b.size) &&
  (Cy b c (Cz C b c)&&(y8 (G4 C b c) 2&&Ve .any b (An d) (G4 C b) (Iw .any b (An d) (G4 C b) c (Af C b c) (Cz C b c)) (Eo C b) (ab6 b.size false))))))
def RZ(C:Cfg)(id:Nat)(b:Array Oper):Bool:=match C.rowR id with
 | none=>An7 C (C.farR id) b
 | some i=>p4 b.size i||SC C (C.farR id) b i
def O8(C:Cfg)(c:Bool):Code->Bool
 | .region id e d=>!d||RZ C id e
 | .seq a b=>O8 C c a&&O8 C c b
 | .cond _ a b=>O8 C c a&&O8 C c b
 | .block _ a=>O8 C c a
 | .loop a=>O8 C c a
 | .scope a=>O8 C c a
 | .rangeFunc _ _ a b=>O8 C c a&&O8 C c b
 | _=>true
def Ai5(C:Cfg)(c:Code):Bool:=O8 C true c
def DX(Γ:Ctx)(w:World)(c:Option (List Nat × List Nat)):Nat->Prop:=λg=>w.heap.size<=g\/∃f b,c=some f/\okN f.2 b=true/\Γ.nm b=some g
theorem Kf{P:Program}{t g o:Nat}{d:TypeDesc}{i:TypeInfo}{w l:World}{V:Value}(u:P.underlying t=some d)(F:P.info? t=some i)(k:0<i.size)(D:l.heap[g]? = w.heap[g]?)(B:∀j,j<i.size->∃U,w.cell? ⟨g,o+j,none⟩=some U)
  (h:(loadVar t ⟨g,o,none⟩).run P w = .ok V w):(loadVar t ⟨g,o,none⟩).run P l = .ok V l:=by
 let b:Nat->Value:=λj=>(w.cell? ⟨g,o+j,none⟩).getD undef
 have c:∀j,j<i.size->w.cell? ⟨g,o+j,none⟩=some (b j):=λj G=>by obtain⟨U,e⟩:=B j G;simp[b,e]
 have run:∀W:World,(∀j,W.cell? ⟨g,j,none⟩=w.cell? ⟨g,j,none⟩)->(loadVar t ⟨g,o,none⟩).run P W = .ok (if Cq d=true then .agg ((ag1 i.size).map b).toArray else b 0) W:=λW q=>by
  by_cases m:Cq d=true
  ·have f:=run_loadCells_list (P:=P) W ⟨g,o,none⟩ ((ag1 i.size).map b) (λj v x=>by
    rw[I9,q];simp only[u7,Option.map_eq_some_iff] at x;obtain⟨a,y,z⟩:=x;obtain⟨A,p⟩:=j8.1 y;simp at A p;subst p z;exact c j (by omega))
   simp only[o5,List.length_range] at f;simp[loadVar,Ch u,m,sizeOf,typeInfo,F,f]
  ·have n:=c 0 k;rw[Nat.add_zero] at n;simp only[Bool.not_eq_true] at m;simp[loadVar,Ch u,m,q,n]
 rw[run w λ_=>rfl] at h;rw[run l λj=>by simp only[ad7,D]];simp only[aa6,and_true] at h ⊢;exact h
section
variable {Y : Ctx} {L : List Blk} {W : World} {J : Nat -> Prop}
theorem YB{f:List Nat × List Nat}{b g:Nat}{cells:List PV}(l:HR Y L W)(q:Stp C Y L W J Γ st.hp w Φ)(d:Bf8 C (L.getD b .dead)=true)(p:okN f.2 b=false)(j:Γ.nm b=some g):¬DX Y W (some f) g:=by
 have h:b<L.length:=o7 λk=>by
  rw[j4,List.getElem?_eq_none (by omega)] at d;cases d
 have i:Ek C (A0 L b):=by
  rw[j4,a8 h,af1] at d;unfold A0;rw[a8 h];cases m:L[b] with
  | box c=>simp[Blk.shp,Ek]
  | arr v t u n=>rw[m] at d;exact d
  | _=>rw[m] at d;cases d
 have e:=(q.keep b h i).1;rw[e] at j;rintro(k|⟨f',b',rfl',hb',hg'⟩)
 ·have:=(l.lt b g j).2.1;omega
 ·cases rfl';have:=l.inj b b' g j hg';subst this;rw[p] at hb';cases hb'
theorem Aj7{f:List Nat × List Nat}{p:Bool}{t:Nat}{x:Operand}{V:Value}{w2:World}{k:St X->Option R}(G:o.op = .load t x)(l:Rh C f p L st.hp st.sl o=true)(b4:p=true->∀g,Γ.St g->Y.St g)(h:opK C Z O o st k=some r)(S:SI C I Γ Φ st a.tmps w)(hF:HR Y L W)(hs:Stp C Y L W J Γ st.hp w Φ)
  (hl:Gv (DX Y W (some f)) w w2) (K:(execOp a.eval o).run C.P w = .ok (.value V) w):(execOp a.eval o).run C.P w2 = .ok (.value V) w2:=by
 unfold Rh at l;rw[G] at l;simp only at l;split at l
 ·rename_i b i off hx;simp only[a7,u6] at l;obtain⟨_,h1,h2,h3⟩:=l;have m:=(S.opnd x).1;rw[hx] at m;obtain⟨g,q,H,T,P,B⟩:∃g q,Γ.nm b=some g/\a.eval x = .pointer (some ⟨g,q,none⟩)/\(C.ti t).ok=true/\∀j,j<(C.ti t).ks.length->∃U,w.cell? ⟨g,q+j,none⟩=some U:=by
   rw[j4] at h2;cases Q:st.hp[b]? with
   | none=>rw[Q] at h2;cases h2
   | some y=>
    rw[Q] at h2;cases y with
    | box cells=>
     obtain⟨g,H,hc,_⟩:=S.hr.box (C:=C) Q;simp only[opK,G,hx,Ke,Q] at h;split at h
     ·rename_i a1;subst a1;obtain⟨u,_⟩:=B6 h;have a2:=FY u;refine⟨g,off,H,?_,by simp only[okP,a7] at u;exact u.1,λj hj=>?_⟩
      ·generalize a.eval x=A at m;cases m with
       | ptrA _ _ _ g' v e sz n h' c=>simp[A0,Q,Blk.shp] at h'
       | ptrB _ _ g' h' c=>rw[H] at c;cases c;rfl
      ·obtain⟨U,e,_⟩:=hc (off+j) (a2 j hj);exact⟨U,by simpa using e⟩
     ·cases h
    | arr v e sz F=>
     simp only[opK,G,hx,Ke,Q] at h;have a6:∀q,(¬(v=true/\F=[]))->q+(C.ti t).ks.length<=F.length*sz->(∀g,Γ.nm b=some g->a.eval x = .pointer (some ⟨g,q,none⟩))->(C.ti t).ok=true->∃g q,Γ.nm b=some g/\a.eval x = .pointer (some ⟨g,q,none⟩)/\(C.ti t).ok=true/\∀j,j<(C.ti t).ks.length->∃U,w.cell? ⟨g,q+j,none⟩=some U:=λq b3 hq T P=>by
      obtain⟨g,a5,H,hh,a4,_⟩:=S.hr.arr' Q b3;refine⟨g,q,H,T g H,P,λj hj=>?_⟩;have a2:q+j<a5.size:=by omega
      exact⟨a5[q+j],by simp[ad7,hh,a2]⟩
     have T:∀g,Γ.nm b=some g->a.eval x = .pointer (some ⟨g,i*sz+off,none⟩):=λg H=>by
      generalize a.eval x=A at m;cases m with
      | ptrA _ _ _ g' v' e' b7 n h' c=>
       obtain⟨rfl,rfl,rfl,rfl⟩:=J2 Q h';rw[H] at c;cases c;rfl
      | ptrB _ _ g' h' c=>simp[A0,Q,Blk.shp] at h'
     split at h
     ·rename_i b2;obtain⟨u,_⟩:=B6 h;simp only[a7,decide_eq_true_eq] at u;refine a6 _ (by rintro⟨_,rfl⟩;simp at u) ?_ T (by have:=u.2;simp only[okS,a7] at this;exact this.1.1);have:(i+1)*sz<=F.length*sz:=x6 sz u.1;rw[aa8,Nat.one_mul] at this;omega
     ·split at h
      ·rename_i a1;obtain⟨rfl,rfl⟩:=a1;obtain⟨u,_⟩:=B6 h;simp only[a7,decide_eq_true_eq] at u;have a0:(C.ti t).ok=true:=by have:=u.2;simp only[okS,a7] at this;exact this.1.1
       obtain⟨_,_,_,_,_,_,a4,_,D,_,_,M⟩:=X9 a0;refine a6 _ (by rintro⟨_,rfl⟩;have:=u.1;rw[List.length_nil,Nat.zero_mul] at this;omega) (by omega) T a0
      ·cases h
    | _=>cases h2
  have a3:=YB (f:=f) (cells:=[]) hF hs h1 h3 H;have hh:w2.heap[g]? = w.heap[g]?:=hl.1.1 g (S.hr.lt b g H).2.1 a3;simp only[execOp,G,T,ag8,af7,ad0,ad1,x8] at K ⊢;cases hv:(loadVar t ⟨g,q,none⟩).run C.P w with
  | halt e w'=>rw[hv] at K;simp at K
  | ok V' w'=>
   rw[hv] at K;simp only[aa6,ae9] at K;obtain⟨rfl,rfl⟩:=K;obtain⟨i,d,z,hi,hd,_,a4,_,D,_,_,M⟩:=X9 P;rw[Kf hd hi D hh (λj hj=>B j (by omega)) hv]
 ·rename_i F i off hx;simp only[a7] at l;have m:=(S.opnd x).1;rw[hx] at m;have b1:=m.inv_s;simp only[opK,G,hx,Ke] at h;obtain⟨u,_⟩:=B6 h;simp only[okS,a7,decide_eq_true_eq] at u;obtain⟨hi,⟨P,b2⟩,_⟩:=u;obtain⟨g,q,T,b0,B⟩:∃g q,a.eval x = .pointer (some ⟨g,q,none⟩)/\Γ.St g/\∀j,j<(C.ti t).ks.length->∃U,w.cell? ⟨g,q+j,none⟩=some U:=by
   generalize a.eval x=A at b1;cases b1 with
   | sp _ _ _ g b5 sz Vs H hl hc hv=>
    refine⟨g,_,rfl,H,λj hj=>⟨Vs i (off+j),?_⟩⟩;have M:(F.getD i []).length=(F[i]).length:=by rw[j4,a8 hi,af1]
    have:=hc i hi (off+j) (by omega);rw[Nat.add_assoc];exact this
  have a9:=b4 l.2 g b0;have a3:¬DX Y W (some f) g:=by
   rintro(b6|⟨f',b',_,_,c⟩)
   ·have:=hF.stlt g a9;omega
   ·exact(hF.lt b' g c).2.2 a9
  have hh:w2.heap[g]? = w.heap[g]?:=hl.1.1 g (S.hr.stlt g b0) a3;simp only[execOp,G,T,ag8,af7,ad0,ad1,x8] at K ⊢;cases hv:(loadVar t ⟨g,q,none⟩).run C.P w with
  | halt e w'=>rw[hv] at K;simp at K
  | ok V' w'=>
   rw[hv] at K;simp only[aa6,ae9] at K;obtain⟨rfl,rfl⟩:=K;obtain⟨i,d,z,hi,hd,_,a4,_,D,_,_,M⟩:=X9 P;rw[Kf hd hi D hh (λj hj=>B j (by omega)) hv]
 ·cases l
theorem YC{f:List Nat × List Nat}{p:Bool}{t:Nat}{x y:Operand}{k:St X->Option R}(q:o.op = .store t x y)(d:Rh C f p L st.hp st.sl o=true)(h:opK C Z O o st k=some r)(S:SI C I Γ Φ st a.tmps w)(hs:Stp C Y L W J Γ st.hp w Φ) :
  ∃w',(execOp a.eval o).run C.P w = .ok .skip w'/\Gv (DX Y W (some f)) w w':=by
 unfold Rh at d;rw[q] at d;simp only at d;split at d
 ·rename_i b off hx;simp only[a7,o8] at d;obtain⟨_,B,D⟩:=d;obtain⟨cells,V⟩:∃cells,st.hp[b]? = some (.box cells):=by
   rw[j4] at B;cases he:st.hp[b]? with
   | none=>rw[he] at B;cases B
   | some y=>
    rw[he] at B;cases y with
    | box c=>exact⟨c,rfl⟩
    | _=>cases B
  obtain⟨g,b0,e,hg,hh,G,_,_⟩:=S.hr.box' V;have hA:a.eval x = .pointer (some ⟨g,off,none⟩):=by
   have T:=(S.opnd x).1;rw[hx] at T;generalize a.eval x=A at T;cases T with
   | ptrA _ _ _ K v e sz n h' m=>simp[A0,V,Blk.shp] at h'
   | ptrB _ _ K h' m=>rw[hg] at m;cases m;rfl
  simp only[opK,q,hx,Lv,V,if_true] at h;split at h
  ·rename_i hc;obtain⟨a6,i,H⟩:=hc;obtain⟨h4,_⟩:=B6 h;simp only[decide_eq_true_eq] at h4;obtain⟨i0,hi,a5,a9⟩:=H8 a6;have hv:=(S.opnd y).1;have a4:(opnd C st.sl y).cells≠[]:=by intro e;rw[e] at i;simp at i;omega
   have z:=hv.cells' a4;have F:(opnd C st.sl y).cells.length=(a.eval y).cells.toList.length:=by simpa using z.1.symm
   have a1:∀j (h:j<(opnd C st.sl y).cells.length),∃U,(a.eval y).cells.toList[j]? = some U/\VP Γ (A0 st.hp) w ((opnd C st.sl y).cells[j]) U:=λj hj=>by
    obtain⟨U,e,k⟩:=z.2 j hj;grind
   have M:=VH F H a1;have Q:(a.eval y).cells.size=i0.size:=by rw[z.1,i,a5]
   obtain⟨w',r1,r2,r3,r4,r5,r6,r7,r8⟩:=I1 (P:=C.P) (o:=off) hh (vs:=(a.eval y).cells.toList) (by rw[<-F,i,G];exact h4) M;have l:=Bw hi Q r1;refine⟨w',?_,⟨λK m a3=>r3 K λe=>a3 ?_,by omega⟩,r5,r6,r7⟩
   ·simp only[execOp,q,hA];simp only[ad0] at l ⊢;cases hq:(Instr.storeAt t (.pointer (some ⟨g,off,none⟩)) (a.eval y)).run C.P w with
    | halt e w'=>rw[hq] at l;simp[x8] at l
    | ok u w2=>
     rw[hq] at l;simp only[x8,ad1,aa6,true_and] at l;rw[l];rfl
   ·subst e;rcases hs.own b _ hg with⟨b1,a0⟩|a2
    ·rcases D with D|D
     ·exact .inr ⟨f,b,rfl,D,a0⟩
     ·have:=Pf D;omega
    ·exact .inl a2
  ·cases h
 ·cases d
def unb:Blk->Blk | .box _=>.dead | .mp _=>.dead|b=>b
def nob(H:List Blk):List Blk:=H.map unb
theorem Jj(H:List Blk)(b:Nat):(nob H)[b]? = (H[b]?).map unb:=u7 ..
theorem XZ(H:List Blk):∀v:PV,Bd (nob H) v=Bd H v
 | .fl b=>by simp only[Bd,Jj];cases H[b]? with|none=>rfl|some x=>cases x<;>rfl
 | .vw b i n=>by simp only[Bd,Jj];cases H[b]? with|none=>rfl|some x=>cases x<;>rfl
 | .s v=>by cases v<;>rfl
 | .nsl | .ptr _ _ _ | .fnr _ _ _ | .it _ | .yd | .agg _ | .tup _ | .bad=>rfl
theorem Ab8(n:Nat)(H:List Blk):∀v:PV,X8 n (nob H) v=X8 n H v
 | .fl b=>by simp only[X8,Jj];cases H[b]? with|none=>rfl|some x=>cases x<;>rfl
 | .vw b i m=>by simp only[X8,Jj];cases H[b]? with|none=>rfl|some x=>cases x<;>rfl
 | .s v=>by cases v<;>rfl
 | .nsl | .ptr _ _ _ | .fnr _ _ _ | .it _ | .yd | .agg _ | .tup _ | .bad=>rfl
theorem QL(H:List Blk)(v:PV):Ih (nob H) v=Ih H v:=by
 cases v with
 | s x=>cases x<;>rfl
 | _=>unfold Ih;exact XZ H _
def Me(H:List Blk)(b:Nat):Bool:=FH (H.getD b .dead)
theorem Ut{H:List Blk}{b:Nat}{v:Bool}{e d:Nat}{c:List (List SV)}(h:H[b]? = some (.arr v e d c)):Me H b=false:=by simp[Me,h,FH]
theorem Ab7{n:Nat}{H:List Blk}{v:PV}(h:X8 n H v=true):∀c∈v.nms,Me H c=false:=by
 intro c d;cases v with
 | fl b=>
  obtain rfl:c=b:=by simpa[PV.nms] using d
  simp only[X8] at h;split at h
  ·rename_i e;exact Ut e
  ·cases h
 | vw b i m=>
  obtain rfl:c=b:=by simpa[PV.nms] using d
  simp only[X8] at h;split at h
  ·rename_i e;exact Ut e
  ·cases h
 | s x=>simp[PV.nms] at d
 | nsl=>simp[PV.nms] at d
 | _=>simp[X8] at h
theorem HV{H:List Blk}{t:Nat}{sl:List PV}{s x:PV}{k:PV->List PV->List Blk->Option R}(h:Bi C t sl s x H k=some r) :
  (∃u,Bi C t sl s x (nob H) (λ_ _ _=>some ())=some u)/\(∀c∈s.nms,Me H c=false)/\∀c∈x.nms,Me H c=false:=by
 unfold Bi at h ⊢;simp only[Ab8,QL,Jj];split at h
 ·split at h
  ·rename_i d;rw[if_pos d];simp only[a7] at d;have i:=Ab7 d.2;split at h
   ·rename_i l p;split at h
    ·obtain⟨e,_⟩:=B6 h;exact⟨⟨(),by simp only[need,e];rfl⟩,by simp[PV.nms],i⟩
    ·split at h
     ·rename_i g;obtain⟨e,_⟩:=B6 h;exact⟨⟨(),by simp only[need,e,g,if_true];rfl⟩,by simp[PV.nms],i⟩
     ·cases h
    ·rename_i b;split at h
     ·rename_i v n q m j;split at h
      ·rename_i f;obtain⟨e,_⟩:=B6 h;refine⟨⟨(),by simp only[j,o9,unb,if_pos f,need,e];rfl⟩,λc f=>?_,i⟩;obtain rfl:c=b:=by simpa[PV.nms] using f
       exact Ut j
      ·cases h
     ·cases h
    ·cases h
   ·cases h
  ·cases h
 ·cases h
def ZG(Γ:Ctx)(H:List Blk):Ctx:={ Γ with nm:=λb=>if Me H b then none else Γ.nm b }
theorem Nc(Γ:Ctx)(H:List Blk)(w:World):R8 Γ (A0 H) w (ZG Γ H) (A0 (nob H)) w (λb=>Me H b=false):=
 ⟨λ_ _=>rfl,λ_ h=>h,λb d=>by simp only[ZG];rw[d];rfl,λb d=>by
  simp only[A0,Jj];simp only[Me,j4] at d;cases e:H[b]? with
  | none=>rfl
  | some x=>rw[e] at d;cases x with
   | box c=>cases d
   | mp c=>cases d
   | _=>rfl,λ_ _ _ _=>rfl,rfl⟩
theorem Bd3{Γ:Ctx}{w:World}{H:List Blk}(i:HR Γ H w):HR (ZG Γ H) (nob H) w:=by
 have d:∀b g,(ZG Γ H).nm b=some g->Me H b=false/\Γ.nm b=some g:=λb g h=>by
  simp only[ZG] at h;split at h
  ·cases h
  ·rename_i l;exact⟨by simpa using l,h⟩
 refine⟨λb m g n p=>i.inj b m g (d b g n).2 (d m g p).2,λb g h=>by have:=i.lt b g (d b g h).2;exact⟨by simpa[nob] using this.1,this.2⟩,i.stlt,λb k c f=>?_,λb k=>?_⟩
 ·simp only[nob,b8] at f;cases j:H[b]'(by simpa[nob] using k)<;>rw[j] at f<;>simp[unb,Blk.nms] at f
 ·have e:b<H.length:=by simpa[nob] using k
  have:=i.blk b e;simp only[nob,b8];cases j:H[b] with
  | box c=>trivial
  | mp c=>trivial
  | _=>
   rw[j] at this;have l:Me H b=false:=by simp[Me,e,j,FH]
   exact this.mono (Nc Γ H w) ((Nc Γ H w).nm b l) (λ_ _=>rfl) (λc f=>by simp[Blk.nms] at f)
theorem OZ{f:List Nat × List Nat}{c:Call}{k:St X->Option R}(l:o.op = .call c)(j:c.callee = .builtin .append)(M:∀b,b<L.length->okN f.2 b=true\/Me st.hp b=true)(h:opK C Z O o st k=some r)(S:SI C I Γ Φ st a.tmps w)(hF:HR Y L W)(U:Stp C Y L W J Γ st.hp w Φ) :
  ∃V w',(execOp a.eval o).run C.P w = .ok (.value V) w'/\Gv (DX Y W (some f)) w w':=by
 have key:∀(H:List Nat) (args:List PV),c.argTypes.toList=H->c.args.toList.map (opnd C st.sl)=args->Ai C .append H args st (λv p=>k { p with sl:=P0 o.dst v p.sl })=some r->
   ∃V w',(execOp a.eval o).run C.P w = .ok (.value V) w'/\Gv (DX Y W (some f)) w w':=by
  intro H args F e h;unfold Ai at h;dsimp only at h;split at h
  ·contradiction
  ·rename_i t u s x _;obtain⟨s0,x0,G,rfl,rfl⟩:=HW e;have n:c.argTypes=[t,u].toArray:=by rw[<-F]
   split at h
   ·rename_i hu;obtain⟨⟨u1,K⟩,n1,n2⟩:=HV h;obtain⟨v,a0,H',hk,hv⟩:=Ka (ty:=o.type) (tmps:=a.tmps) (Bd3 S.hr) hu K ((S.opnd s0).1.mono (Nc Γ st.hp w) n1) ((S.opnd x0).1.mono (Nc Γ st.hp w) n2);obtain⟨V,w',Γ',m,d,_⟩:=hv;refine⟨V,w',?_,⟨⟨λg Q D=>d.frame g Q (λb y=>D ?_) (λx=>x),d.size⟩,d.os,d.tape,d.output⟩⟩
    ·obtain⟨cs,P⟩:=M9 (ρ:=a.eval) l j;rw[P,G,n];simp[builtin,m]
    ·have i:Me st.hp b=false/\Γ.nm b=some g:=by
      simp only[ZG] at y;split at y
      ·cases y
      ·rename_i T;exact⟨by simpa using T,y⟩
     rcases U.own b g i.2 with⟨z,A⟩|B
     ·refine .inr ⟨f,b,rfl,?_,A⟩;rcases M b z with q|q
      ·exact q
      ·rw[i.1] at q;cases q
     ·exact .inl B
   ·cases h
  all_goals contradiction
 simp only[opK,l,j] at h;exact key _ _ rfl rfl h
theorem Wu{ro:Option Nat}{n:Nat}{all:Array Oper}{E:Act->World->Prop}{f:List Nat × List Nat}(A:Ask C I Z O N)(hF:HR Y L W):∀(l:List Nat) {p:Bool} {Γ:Ctx} {Φ:Nat->Prop} {st:St X} {a:Act} {w:World} {k:St X->Option R},(∀i∈l,i<all.size)->Γ.yv=N->(p=true->∀g,Γ.St g->Y.St g)->
  Nh C Z O all f L p l st k=some r->SI C I Γ Φ st a.tmps w->Stp C Y L W J Γ st.hp w Φ->Nxt C I Γ Φ st.hp w a.defers k r E->J3 (D9 ro) n C.P all (DX Y W (some f)) (An (some f)) (G4 C all) E l a w
 | [],p,Γ,Φ,st,a,w,k,hlt,hyv,hst,h,S,hs,hN=>hN st a w Γ Φ h (Stp.refl S.hr) S rfl
 | i::l,p,Γ,Φ,st,a,w,k,hlt,hyv,hst,h,S,hs,hN=>by
  have a0:=hlt i (by simp);obtain⟨o,ho⟩:∃o,all[i]? = some o:=⟨all[i],y9 a0⟩
  simp only[Nh] at h;obtain⟨hc,h⟩:=B6 h;have next:Ad8 C I Γ Φ st.hp w a.defers (λq=>Nh C Z O all f L (p&&p4 (G4 C all i) 1) l q k) r (∀j∈[i],G4 C all j<=1) (J3 (D9 ro) n C.P all (DX Y W (some f)) (An (some f)) (G4 C all) E l):=λq a' w' Γ' z k1 k2 k3 k4 k5=>
   Wu A hF l (λj H=>hlt j (by simp[H])) (k2.yv.trans hyv) (λhp g hg=>by
    simp only[a7] at hp;exact hst hp.1 g (k5 (λj H=>by simp at H;subst H;exact u4 hp.2) g hg)) k1 k3 (hs.trans k2) λa4 a2 w2 Γ2 Φ2 q1 q2 q3 q4=>hN a4 a2 w2 Γ2 Φ2 q1 (k2.trans q2) q3 (q4.trans k4)
  cases G:An (some f) i with
  | false=>
   have:=Z7 (ro:=ro) (n:=n) (D:=DX Y W (some f)) (far:=An (some f)) A [i] (λj H=>by simp at H;subst H;exact⟨a0,G⟩) hyv h S next
   simp only[J3] at this ⊢;exact this
  | true=>
   have d:Rh C f p L st.hp st.sl o=true:=by
    have e:okN f.1 i=true:=G;rw[ho] at hc;simpa[e] using hc
   have hg:o.guard=none:=by
    unfold Rh at d;split at d
    ·split at d
     ·simp only[a7,u5] at d;exact d.1
     ·simp only[a7,u5] at d;exact d.1
     ·cases d
    ·split at d
     ·simp only[a7,u5] at d;exact d.1
     ·cases d
    ·split at d
     ·simp only[a7,u5] at d;exact d.1
     ·cases d
    ·cases d
   have U:j6 o (yielded all a.tmps)=true:=by simp[j6,hg]
   have h:opK C Z O o st (λq=>Nh C Z O all f L (p&&p4 (G4 C all i) 1) l q k)=some r:=by
    rw[ad8,ho] at h;simp only[List.filterMap_nil,Z5,hg] at h;exact h
   simp only[J3,G];have M:G4 C all i=U1 C o.op:=by simp only[G4,ho]
   rw[M];have F:(∃t x,o.op = .load t x)\/(∃t x y,o.op = .store t x y)\/∃c,o.op = .call c/\c.callee = .builtin .append/\∀b,b<L.length->okN f.2 b=true\/Me st.hp b=true:=by
    unfold Rh at d;split at d
    ·rename_i t x e;exact .inl ⟨t,x,e⟩
    ·rename_i t x y e;exact .inr (.inl ⟨t,x,y,e⟩)
    ·rename_i c e;split at d
     ·rename_i v;simp only[a7,j0,af9,o8] at d;exact .inr (.inr ⟨c,e,v,d.2⟩)
     ·cases d
    ·cases d
   rcases F with⟨t,x,m⟩|⟨t,x,y,m⟩|⟨c,m,v,hd⟩
   ·have K:U1 C o.op=1:=by rw[m];rfl
    rw[K];refine⟨λ_=>?_,λa1=>by omega⟩;obtain⟨V,q,h1,h2,h3,h4⟩:=Jm (a:=a) (show H9 C o.op=true by rw[m];rfl) h S;refine⟨o,V,ho,⟨λ_ _ _ _=>trivial,.inl ⟨U,λw' a3=>?_⟩⟩,next q (a.put o.dst V) w Γ Φ h1 (h4.lift Φ) h3 (put_defers _ _ _) (λ_ _ h=>h)⟩;unfold x7;rw[Aj7 m d hst h S hF hs (a3.2 rfl) (h2 w (Ext.refl w))];exact⟨rfl,rfl⟩
   ·have K:U1 C o.op=3:=by rw[m];rfl
    rw[K];refine⟨λa1=>by omega,λ_ w1 T=>?_⟩;obtain⟨S1,u⟩:=S.like A.hI T;obtain⟨w2,hr,hx⟩:=YC m d h S1 (hs.trans u);have P:=GA (ro:=ro) (n:=n) (Q:=QF) A hyv h S1 λq a' w' Γ' z q1 q2 q3 q4=>next q a' w' Γ' z q1 (u.trans q2) q3 q4 λhq=>absurd (hq i (by simp)) (by rw[M,K];omega)
    unfold wpOpIn;simp only[ho,U,if_true];unfold ac6 at P ⊢;refine⟨P.1,?_⟩;have B:=P.2;rw[s7 _ _ _ (λc e=>by rw[m] at e;cases e),hr] at B ⊢;simp only[w6] at B ⊢;exact⟨λe=>by omega,λ_=>hx,B⟩
   ·have K:U1 C o.op=3:=by rw[m];simp[U1,Nm,H9,Fg,IU,v]
    rw[K];refine⟨λa1=>by omega,λ_ w1 T=>?_⟩;obtain⟨S1,u⟩:=S.like A.hI T;obtain⟨V,w2,hr,hx⟩:=OZ m v hd h S1 hF (hs.trans u);have P:=GA (ro:=ro) (n:=n) (Q:=QF) A hyv h S1 λq a' w' Γ' z q1 q2 q3 q4=>next q a' w' Γ' z q1 (u.trans q2) q3 q4 λhq=>absurd (hq i (by simp)) (by rw[M,K];omega)
    unfold wpOpIn;simp only[ho,U,if_true];unfold ac6 at P ⊢;refine⟨P.1,?_⟩;have B:=P.2;rw[s7 _ _ _ (λc e=>by rw[m] at e;cases e),hr] at B ⊢;simp only[w6] at B ⊢;exact⟨λe=>by omega,λ_=>hx,B⟩
theorem Cx{u:Option Nat}{n:Nat}{all:Array Oper}{E:Act->World->Prop}{e:Option (List Nat × List Nat)}(A:Ask C I Z O N)(m:HR Y L W)(b:List Nat){p:Bool}{Γ:Ctx}{Φ:Nat->Prop}{st:St X}{a:Act}{w:World}{k:St X->Option R}(c:∀i∈b,i<all.size)(d:Γ.yv=N)(j:p=true->∀g,Γ.St g->Y.St g)
  (h:Ff C Z O all e L p b st k=some r) (S:SI C I Γ Φ st a.tmps w) (t:Stp C Y L W J Γ st.hp w Φ) (l:Nxt C I Γ Φ st.hp w a.defers k r E):J3 (D9 u) n C.P all (DX Y W e) (An e) (G4 C all) E b a w:=by
 cases e with
 | none=>exact Z7 A b (λi q=>⟨c i q,rfl⟩) d h S l.q
 | some f=>exact Wu A m b c d j h S t l
end
theorem Aa0{U:Option Nat}{n id:Nat}{b:Array Oper}{Q:Exit->Act->World->Prop}{k:St X->Option R}(A:Ask C I Z O N)(J:C.P.follows .mixedOrders=true){f:Option (List Nat × List Nat)}(d:An7 C f b=true)(p:Γ.yv=N)(h:Ff C Z O b f st.hp true (Ni C b.toList) st k=some r)(S:SI C I Γ Φ st a.tmps w)
  (F:Nxt C I Γ Φ st.hp w a.defers k r (λg w'=>Q .normal g w')):(ad5 id b true).wpIn (D9 U) n C.P Q a w:=by
 simp only[An7,a7] at d;obtain⟨y,u,z,v,B⟩:=d;rw[j0] at u v;refine Og (D:=DX Γ w f) (far:=An f) (kind:=G4 C b) (ord:=Ni C b.toList) J y (λj o c K e=>?_) (λj H=>?_) (j7 z) B (Cx A S.hr _ (λi G=>Pf (v i G)) p (λ_ _ h=>h) h S (Stp.refl S.hr) λq g w' Γ' t L M P T w1 m=>?_)
 case refine_3=>
  obtain⟨x,l⟩:=P.like A.hI m;exact F q g w1 Γ' t L (M.trans l) x T
 ·have:=u o (by simpa using ad3 K);rw[e] at this;cases this
 ·simp only[G4,ac8 H];exact j3 _
def Bas(b:Nat->Prop)(c:World)(St:Nat->Prop)(w:World):Prop:=∀q,b q->St q/\w.heap[q]? = c.heap[q]?
def Trn.B(C:Cfg)(Sb:Nat->Prop)(wb:World)(V:Value)(x:Obj)(g:Nat):Trn->Prop
 | .row v=>∀(St:Nat->Prop) (w1:World),Bas Sb wb St w1->St g->w1.heap[g]? = some x->VS St w1 v V
 | .var e=>(C.ti e).ok=true/\(∀n el,C.sh e≠.array n el)/\V = .pointer (some ⟨g,0,none⟩)/\∃z:Value,x = .cells z.cells e/\∀(Γ:Ctx) sh w,CR Γ sh w ((C.ti e).ks.map O2) z.cells
def HL(C:Cfg)(b:Nat->Prop)(d:World)(o:Oper)(c:Operand->Value)(t:Trn):Prop:=∀w:World,∃V x,(execOp c o).run C.P w = .ok (.value V) (w.alloc x)/\t.B C b d V x w.heap.size
def Ao4(op:Op):Prop:=(∃t len b,op = .buildSlice t len b)\/∃e,op = .alloc e
theorem TB{k:Trn->Option R}(S:SI C I Γ Φ st a.tmps w)(h:TA C o st.sl k=some r):o.guard=none/\Ao4 o.op/\∃t,k t=some r/\HL C Γ.St w o a.eval t:=by
 unfold TA at h;split at h
 ·rename_i e l c;refine⟨l,.inr ⟨_,c⟩,?_⟩;split at h
  ·cases h
  ·rename_i u;obtain⟨b,h⟩:=B6 h;refine⟨_,h,λw1=>?_⟩;obtain⟨z,T,A,_⟩:=Zb (Γ:=Γ) (ev:=a.eval) (w:=w1) b c;exact⟨_,_,T,b,u,rfl,z,rfl,A⟩
 ·rename_i t len parts l c;refine⟨l,.inl ⟨_,_,_,c⟩,?_⟩;split at h
  ·rename_i e u;split at h
   ·rename_i b;simp only[a7,decide_eq_true_eq] at b;obtain⟨⟨b,d⟩,a0⟩:=b;split at h
    ·rename_i out Y;split at h
     ·rename_i vs L;refine⟨_,h,?_⟩;obtain⟨hp,_⟩:=S.parts parts.toList;obtain⟨i,z,m,hz,y,H⟩:=Ag (Γ:=Γ) (sh:=A0 st.hp) (w:=w) b;obtain⟨_,_,_,a1⟩:=H8 b;have K:0<(C.ti e).ks.length:=by rename_i T A;omega
      have W:=FO H (by simpa using K) len;rw[o5] at W;obtain⟨B,Q,G,e3⟩:=Y8 (place':=λj=>some (j*i.size,i.size)) (λj off size n h0=>by rw[y];exact n) Y W hp;obtain⟨f1,f2⟩:=K8 (As:=B.toList) L (by simpa using G.1.symm) (λj n=>by
       obtain⟨U,e,k⟩:=G.2 j n;exact⟨U,by simpa using e,k⟩)
      have D:B.size=len*(C.ti e).ks.length:=by
       have q:∀{place:Nat->Option (Nat × Nat)} {F:List (Nat × PV)} {cells out:List PV},Y1 place cells F=some out->out.length=cells.length:=by
        intro place F
        induction F with
        | nil=>intro cells out h;simp only[Y1,c9] at h;rw[h]
        | cons p F ih=>
         intro cells out h;obtain⟨i,v⟩:=p;simp only[Y1] at h;split at h
         ·split at h
          ·rw[ih h,C6]
          grind
         grind
       rw[G.1,q Y,Ap,o5]
      have f:vs.length=len*(C.ti e).ks.length:=by rw[f1,Array.length_toList,D]
      intro M;have hr:=U4 (P:=C.P) M len (parts.map λ(i,x)=>(i,a.eval x)) B (G2 u) m hz (by rw[y];exact d) (by rw[y] at Q ⊢;rw[r9];exact Q);refine⟨.slice (some ⟨M.heap.size,0,none⟩) len len,.cells B e,by simp only[execOp,c];simp[hr],λSt w1 V J hx=>?_⟩;refine .sl true _ M.heap.size 0 len len _ (λi j=>(B[i*(C.ti e).ks.length+j]?).getD undef) (by rw[O7]) (j3 _) (by simp only[maxLen];omega) (λ_=>rfl) J (λi m=>(U9 _ _ _ f i m).1) (λi m j n=>?_) (λi m j n=>?_)
      ·obtain⟨A,_⟩:=(U9 _ _ _ f i m).2 j n;have:i*(C.ti e).ks.length+j<B.size:=by rw[D,<-f];exact A
       simp[ad7,hx,this]
      ·obtain⟨A,e4⟩:=(U9 _ _ _ f i m).2 j n;obtain⟨U,e5,k5⟩:=f2 _ A;rw[e4];have e6:(B[i*(C.ti e).ks.length+j]?).getD undef=U:=by grind
       rw[e6];exact k5.mono (λg l=>(V g l).2) (λg l=>(V g l).1)
     grind
    grind
   ·cases h
  ·cases h
 ·cases h
theorem NI{d:Option Tmp}{a b:Act}(h:Yv d a b){c:Oper}(f:∀t,d=some t->t∉TS c):∀x∈c.op.operands,b.eval x=a.eval x:=by
 intro x g;cases x with
 | tmp t=>
  have:d≠some t:=λe=>f t e (List.mem_filterMap.2 ⟨.tmp t,by simpa using g,rfl⟩)
  have e:=h t this;simp only[Act.eval,j2,e]
 | _=>rfl
theorem A29{q:Option Nat}{n:Nat}{all:Array Oper}{i:Nat}{d:Oper}{t:Trn}{g:Nat->Prop}{j:World}(p:all[i]? = some d)(m:d.guard=none)(f:Ao4 d.op)(b:HL C g j d a.eval t){K:Act->World->Prop}
  (h:∀V x,t.B C g j V x w.heap.size->K (a.put d.dst V) (w.alloc x)):wpOpIn (D9 q) n C.P all QF i K a w:=by
 unfold wpOpIn;simp only[p];rw[if_pos (by simp[j6,m])];refine⟨λ_ _=>trivial,?_⟩;rw[s7 _ _ _ (λc e=>by rcases f with⟨_,_,_,h⟩|⟨_,h⟩<;>rw[h] at e<;>cases e)];obtain⟨V,x,k,l⟩:=b w;rw[k];exact h V x l
structure HJ (C:Cfg) (Sb:Nat->Prop) (wb:World) (d:Option Tmp) (t:Trn) (g:Nat) (x:Obj) (Γ:Ctx) (Φ:Nat->Prop) (a:Act) (w:World):Prop where
 at':w.heap[g]? = some x
 st:¬ Γ.St g
 nm:∀b,Γ.nm b≠some g
 fo:¬ Φ g
 ex:∃V,t.B C Sb wb V x g
 val:∀V,(∃t,d=some t/\a.tmps[t]? = some V)->t.B C Sb wb V x g
 base:Bas Sb wb Γ.St w
theorem LD(S:SI C I Γ Φ st a.tmps w)(d:Option Tmp):SI C I Γ Φ { st with sl:=P0 d .bad st.sl } a.tmps w:=by
 cases d with
 | none=>exact S
 | some t=>exact⟨S.hr,S.sr.set t (λV _=>.bad V) (by simp[PV.nms]),S.g,S.inv,S.dis⟩
theorem XD(S:SI C I Γ Φ st a.tmps w){d:Option Tmp}{v:PV}(h:∀V,(∃t,d=some t/\a.tmps[t]? = some V)->VP Γ (A0 st.hp) w v V)(e:∀c∈v.nms,c<st.hp.length):SI C I Γ Φ { st with sl:=P0 d v st.sl } a.tmps w:=by
 cases d with
 | none=>exact S
 | some t=>exact⟨S.hr,S.sr.set t (λV b=>h V ⟨t,rfl,b⟩) e,S.g,S.inv,S.dis⟩
theorem HJ.step{Γ':Ctx}{Φ':Nat->Prop}{H':List Blk}{a':Act}{w':World}{d4 d:Option Tmp}{t:Trn}{g:Nat}{x:Obj}{Sb:Nat->Prop}{wb:World}(h:HJ C Sb wb d4 t g x Γ Φ a w)(hs:Stp C Γ st.hp w Φ Γ' H' w' Φ')(hst:∀q,Γ.St q->w'.heap[q]? = w.heap[q]?)(hag:Yv d a a')(hne:d4≠none->d≠d4):HJ C Sb wb d4 t g x Γ' Φ' a' w':=by
 have hlt:g<w.heap.size:=(k9.1 h.at').1;refine⟨by rw[hs.frame g hlt h.nm h.fo];exact h.at',λe=>?_,λb e=>?_,λe=>?_,h.ex,?_,λq hq=>⟨hs.sub q (h.base q hq).1,(hst q (h.base q hq).1).trans (h.base q hq).2⟩⟩
 ·rcases hs.stnew g e with e|e
  ·exact h.st e
  ·omega
 ·rcases hs.own b g e with⟨_,e⟩|e
  ·exact h.nm b e
  ·omega
 ·rcases hs.foot g e with e|e
  ·exact h.fo e
  ·omega
 ·rintro V ⟨t,ht,hV⟩;have:d≠some t:=λe=>hne (by rw[ht];simp) (by rw[e,ht])
  rw[hag t this] at hV;exact h.val V ⟨t,ht,hV⟩
theorem Um{H:List Blk}(x:Blk)(g:Nat):R8 Γ (A0 H) w (Γ.upd H.length g) (A0 (H++[x])) w (· < H.length):=
 ⟨λ_ _=>rfl,λ_ h=>h,λb c=>by simp only[Ctx.upd];rw[if_neg (by omega)],λb c=>K9 c,λ_ _ _ _=>rfl,rfl⟩
theorem Stp.adopt{Γ0:Ctx}{H0 H:List Blk}{w0:World}{Φ0:Nat->Prop}{g:Nat}(x:Blk)(hs:Stp C Γ0 H0 w0 Φ0 Γ H w Φ)(hg:w0.heap.size<=g):Stp C Γ0 H0 w0 Φ0 (Γ.upd H.length g) (H++[x]) w Φ:=by
 have hl:=hs.len;refine⟨hs.os,hs.tape,hs.output,hs.size,hs.sub,hs.stnew,λb g' h=>?_,hs.foot,hs.frame,hs.yv,by simp;omega,λb hb hf=>?_⟩
 ·simp only[Ctx.upd] at h;split at h
  ·grind
  ·exact hs.own b g' h
 ·obtain⟨p1,p2,p3⟩:=hs.keep b hb hf;exact⟨by simp only[Ctx.upd];rw[if_neg (by omega)];exact p1,by rw[K9 (by omega)];exact p2,p3⟩
theorem SI.adopt(S:SI C I Γ Φ st a.tmps w){x:Blk}{g:Nat}(hlt:g<w.heap.size)(h1:¬ Γ.St g)(h2:∀b,Γ.nm b≠some g)(h3:¬ Φ g)(hb:BR (Γ.upd st.hp.length g) (A0 (st.hp++[x])) w st.hp.length x)(hn:∀c∈x.nms,c<st.hp.length+1) :
  SI C I (Γ.upd st.hp.length g) Φ { st with hp:=st.hp++[x] } a.tmps w:=by
 have M:R8 Γ (A0 st.hp) w (Γ.upd st.hp.length g) (A0 (st.hp++[x])) w (· < st.hp.length):=Um x g;refine⟨⟨λb b' g' k1 k2=>?_,λb g' h=>?_,S.hr.stlt,λb hb' c hc=>?_,λb hb'=>?_⟩,SR.grow M S.sr,S.g,S.inv,λb g' h=>?_⟩
 ·simp only[Ctx.upd] at k1 k2;split at k1<;>split at k2
  ·omega
  ·rw[<-k1] at k2;exact absurd k2 (h2 b')
  ·rw[<-k2] at k1;exact absurd k1 (h2 b)
  ·exact S.hr.inj b b' g' k1 k2
 ·simp only[Ctx.upd] at h;split at h
  ·simp only[c9] at h;subst h;exact⟨by simp;omega,hlt,h1⟩
  ·have:=S.hr.lt b g' h;exact⟨by simp;omega,this.2⟩
 ·rw[j5,ad4] at hb' ⊢;by_cases e:b=st.hp.length
  ·subst e;simp at hc;exact hn c hc
  ·have hb2:b<st.hp.length:=by omega
   rw[s5 hb2] at hc;have:=S.hr.nms b hb2 c hc;omega
 ·rw[j5,ad4] at hb';by_cases e:b=st.hp.length
  ·subst e;simpa using hb
  ·have hb2:b<st.hp.length:=by omega
   rw[s5 hb2];exact(S.hr.blk b hb2).mono M (M.nm b hb2) (λ_ _=>rfl) (λc hc=>S.hr.nms b hb2 c hc)
 ·simp only[Ctx.upd] at h;split at h
  ·simp only[c9] at h;subst h;exact h3
  ·exact S.dis b g' h
theorem UE{k:St X->Option R}{d:Option Tmp}{t:Trn}{g:Nat}{x:Obj}{Sb:Nat->Prop}{wb:World}(L:HI I)(S:SI C I Γ Φ st a.tmps w)(h:Ki C d t st k=some r)(f:HJ C Sb wb d t g x Γ Φ a w) :
  ∃m Γ',k m=some r/\SI C I Γ' Φ m a.tmps w/\∀{u:Ctx} {J:List Blk} {H:World} {A:Nat->Prop},Stp C u J H A Γ st.hp w Φ->H.heap.size<=g->Stp C u J H A Γ' m.hp w Φ:=by
 have p:g<w.heap.size:=(k9.1 f.at').1;cases t with
 | row v=>
  have Q:=S.wideSt L (St':=λy=>Γ.St y\/y=g) (λ_ h=>.inl h) (λy i=>by rcases i with i|rfl;exact λe=>(L.foot _ _ _ _ S.inv y e).2 i;exact f.fo) (λb y M=>by
   rintro(i|rfl)
   ·exact(S.hr.lt b y M).2.2 i
   ·exact f.nm b M) (λy i=>by rcases i with i|rfl;exact S.hr.stlt y i;exact p)
  exact⟨_,_,h,XD Q (λV D=>.s _ _ (f.val V D _ _ (λq P=>⟨.inl (f.base q P).1,(f.base q P).2⟩) (.inr rfl) f.at')) (by simp[PV.nms]),λl F=>⟨l.os,l.tape,l.output,l.size,λy i=>.inl (l.sub y i),λy i=>by rcases i with i|rfl;exact l.stnew y i;exact .inr F,l.own,l.foot,l.frame,l.yv,l.len,l.keep⟩⟩
 | var e=>
  obtain⟨_,G,a0,_,z,rfl,hz⟩:=f.ex;simp only[Ki,Sf,G,if_true] at h;have n:=hz Γ (A0 st.hp) w;obtain⟨T,e1,e2,e3,e4,e5,e6,K⟩:=R0 (C:=C) (C.nilT e) ((C.ti e).ks.map O2) 0 st.hp z.cells.toList S.hr (by simpa using n.1.symm) (λj B=>by
   obtain⟨U,e,k⟩:=n.2 j B;exact⟨U,by simpa using e,k⟩) (by rw[Ir];simp)
  rw[e1] at h;have W:SI C I Γ Φ { st with hp:=st.hp++T } a.tmps w:=⟨e2,SR.grow e4 S.sr,S.g,S.inv,S.dis⟩
  have Y:=W.adopt (x:=.box (E8 (C.nilT e) ((C.ti e).ks.map O2) 0 st.hp).1) p f.st f.nm f.fo ⟨g,z.cells,e,by simp[Ctx.upd],f.at',by simpa using e5.symm,λj B=>by
   obtain⟨U,f1,f2⟩:=e6 j B;exact⟨U,by simpa using f1,f2.mono (Um _ g) λc n=>K c (B7.2 ⟨j,B,n⟩)⟩⟩ (λc n=>by have:=K c n;simp only at this ⊢;omega)
  exact⟨_,_,h,XD Y (λV D=>by
   obtain⟨_,_,rfl,_⟩:=f.val V D;exact .ptrB _ 0 g F3 (by simp[Ctx.upd])) (by simp[PV.nms]),λl F=>Stp.adopt _ (l.trans (e3.lift Φ)) F⟩
theorem Zc{all:Array Oper}{e:Nat}{c:Oper}{i:Nat}{b:List Nat}(f:all[e]? = some c)(d:Cy all e (i::b)=true):∃o,all[i]? = some o/\(∀t,o.dst=some t->t∉TS c)/\(c.dst≠none->o.dst≠c.dst)/\Cy all e b=true:=by unfold Cy at d ⊢;grind
section
variable {W : Ctx} {Q : List Blk} {Y : World} {J : Nat -> Prop} {L : Option (List Nat × List Nat)}
theorem Ww{Sb:Nat->Prop}{wb:World}{ro:Option Nat}{n:Nat}{all:Array Oper}{E:Act->World->Prop}{i4:Nat}{q:Oper}{t:Trn}{post:List Nat}{u:Ctx}{P:List Blk}{H:World}{v:Nat->Prop}{ds:List Deferred}{g:Nat}{x:Obj}{k:St X->Option R}(A:Ask C I Z O N)(z:HR W Q Y)(ho:all[i4]? = some q)(b:∀i∈post,i<all.size)(V:H.heap.size<=g)(m:Y.heap.size<=g)(U:Nxt C I u v P H ds k r E):∀(d:List Nat) {Γ:Ctx} {Φ:Nat->Prop} {st:St X} {a:Act} {w:World},(∀i∈d,i<all.size)->Cy all i4 d=true->Γ.yv=N->
  Hd C Z O all L Q q.dst d st (λf=>Ki C q.dst t f λG=>Ff C Z O all L Q false post G k)=some r->SI C I Γ Φ st a.tmps w->HJ C Sb wb q.dst t g x Γ Φ a w->Stp C u P H v Γ st.hp w Φ->Stp C W Q Y J Γ st.hp w Φ->a.defers=ds->J3 (D9 ro) n C.P all (DX W Y L) (An L) (G4 C all) E (d++post) a w
 | [],Γ,Φ,st,a,w,hlt,hap,hyv,h,S,hah,hs,hsF,hd=>by
  simp only[Hd] at h;obtain⟨F,Γ',h',S',c⟩:=UE A.hI S h hah;have c:=@c;have T:=c hs V;have h2:=c hsF m;exact Cx A z post b (T.yv.trans (hs.yv.symm.trans hyv)) (λe=>by cases e) h' S' h2 λf a2 w2 K M q1 q2 q3 q4=>U f a2 w2 K M q1 (T.trans q2) q3 (q4.trans hd)
 | i::rest,Γ,Φ,st,a,w,hlt,hap,hyv,h,S,hah,hs,hsF,hd=>by
  obtain⟨o,hi,a0,D,l⟩:=Zc ho hap;simp only[Hd] at h;exact Rc (E:=J3 (D9 ro) n C.P all (DX W Y L) (An L) (G4 C all) E (rest++post)) hi (Cx A z [i] (λj y=>hlt j (by simp at y;simp[y])) hyv (λe=>by cases e) h S hsF λF a' w' Γ' Φ' k1 p k3 k4 B=>
   Ww A z ho b V m U rest (λj y=>hlt j (by simp[y])) l (p.yv.trans hyv) k1 (LD k3 q.dst) (hah.step p (p.st S.hr λg h=>(A.hI.foot _ _ _ _ S.inv g h).2) B D) (hs.trans p) (hsF.trans p) (k4.trans hd))
theorem QR{Sb:Nat->Prop}{wb:World}{ro:Option Nat}{n:Nat}{all:Array Oper}{E:Act->World->Prop}{P:Nat}{p:Oper}{t:Trn}{post:List Nat}(A:Ask C I Z O N)(hF:HR W Q Y)(ho:all[P]? = some p)(hg:p.guard=none)(a0:Ao4 p.op)(H:∀i∈post,i<all.size):∀(c:List Nat) {Γ:Ctx} {Φ:Nat->Prop} {st:St X} {a:Act} {w:World} {k:St X->Option R},(∀i∈c,i<all.size)->Cy all P c=true->Γ.yv=N->
  Hd C Z O all L Q p.dst c { st with sl:=P0 p.dst .bad st.sl } (λz=>Ki C p.dst t z λK=>Ff C Z O all L Q false post K k)=some r->SI C I Γ Φ st a.tmps w->Stp C W Q Y J Γ st.hp w Φ->Bas Sb wb Γ.St w->HL C Sb wb p a.eval t->Nxt C I Γ Φ st.hp w a.defers k r E->Oh (D9 ro) n C.P all (DX W Y L) (An L) (G4 C all) E P post c a w:=by
 have early:∀(c:List Nat) {Γ:Ctx} {Φ:Nat->Prop} {st:St X} {a:Act} {w:World} {k:St X->Option R},(∀i∈c,i<all.size)->Cy all P c=true->Γ.yv=N->
   Hd C Z O all L Q p.dst c { st with sl:=P0 p.dst .bad st.sl } (λz=>Ki C p.dst t z λK=>Ff C Z O all L Q false post K k)=some r->SI C I Γ Φ st a.tmps w->Stp C W Q Y J Γ st.hp w Φ->Bas Sb wb Γ.St w->HL C Sb wb p a.eval t->Nxt C I Γ Φ st.hp w a.defers k r E->
   ∀w1,J7 w w1->wpOpIn (D9 ro) n C.P all QF P (λa' w'=>J7 w1 w'/\J3 (D9 ro) n C.P all (DX W Y L) (An L) (G4 C all) E (c++post) a' w') a w1:=by
  intro c Γ Φ st a w k l u m h S f y d M w1 D;refine A29 ho hg a0 d λV x hV=>⟨Ks w1 x,?_⟩
  obtain⟨T,a1⟩:=S.like A.hI D;obtain⟨S2,a3⟩:=T.like A.hI (Ks w1 x);refine Ww (a:=a.put p.dst V) A hF ho H D.1.2 (s8 f.size D.1.2) M c l u m h (S2.put (o:=p) (v:=.bad) (V:=V) (.bad V) (by simp[PV.nms])) ⟨E0 rfl,λe=>ab5 _ (T.hr.stlt _ e),λb e=>ab5 _ (T.hr.lt b _ e).2.1,λe=>ab5 _ (A.hI.foot _ _ _ _ T.inv _ e).1,⟨V,hV⟩,?_,λq F=>⟨(y q F).1,by rw[E1 (w':=w1.alloc x) (o:=x) rfl (T.hr.stlt q (y q F).1),D.1.1 q (S.hr.stlt q (y q F).1)];exact(y q F).2⟩⟩ (a1.trans a3) (f.trans (a1.trans a3)) (put_defers _ _ _);rintro V' ⟨t,ht,B⟩;have e:V'=V:=by
   rw[ht] at B;simp only[af6] at B;have:=(k9.1 B).1;simp at this;simpa[this] using B.symm
  rw[e];exact hV
 intro c
 induction c with
 | nil=>
  intro Γ Φ st a w k l u m h S f y d M;exact early [] l u m h S f y d M
 | cons i G ih=>
  intro Γ Φ st a w k l u m h S f y d M;refine⟨?_,λ_=>early (i::G) l u m h S f y d M⟩;obtain⟨o,hi,a5,a6,U⟩:=Zc ho u;have S0:=LD S p.dst;simp only[Hd] at h;exact Rc (E:=Oh (D9 ro) n C.P all (DX W Y L) (An L) (G4 C all) E P post G) hi (Cx A hF [i] (λj hj=>l j (by simp at hj;simp[hj])) m (λe=>by cases e) h S0 f λa9 a' w' Γ' Φ' k1 k2 k3 k4 a4=>
   ih (λj hj=>l j (by simp[hj])) U (k2.yv.trans m) k1 k3 (f.trans k2) (λq F=>⟨k2.sub q (y q F).1,(k2.st S.hr (λg h=>(A.hI.foot _ _ _ _ S.inv g h).2) q (y q F).1).trans (y q F).2⟩) (by
    have e:=execOp_congr (ρ:=a'.eval) (ρ':=a.eval) p (λcs b e=>by rcases a0 with⟨_,_,_,h⟩|⟨_,h⟩<;>rw[h] at e<;>cases e) (NI a4 a5);unfold HL at d ⊢;rw[e];exact d) λz a2 w2 Γ2 Φ2 q1 q2 q3 q4=>M z a2 w2 Γ2 Φ2 q1 (k2.trans q2) q3 (q4.trans k4))
end
theorem SD{M:Option Nat}{n id d:Nat}{b:Array Oper}{F:Oper}{Q:Exit->Act->World->Prop}{k:St X->Option R}(A:Ask C I Z O N)(hm:C.P.follows .mixedOrders=true){g:Option (List Nat × List Nat)}(z:SC C g b d=true)(D:Γ.yv=N)(G:b[d]? = some F)
  (h:(Ff C Z O b g st.hp true (Eo C b) st λl=>TA C F l.sl λt=>
    Hd C Z O b g st.hp F.dst (Cz C b d) { l with sl:=P0 F.dst .bad l.sl } λp=>Ki C F.dst t p λP=>
     Ff C Z O b g st.hp false (Af C b d) P k)=some r) (S:SI C I Γ Φ st a.tmps w)
  (hN:Nxt C I Γ Φ st.hp w a.defers k r (λa' w'=>Q .normal a' w')):(ad5 id b true).wpIn (D9 M) n C.P Q a w:=by
 simp only[SC,a7] at z;obtain⟨W,Y,h3,h4,h5,h6,h7⟩:=z;rw[j0] at Y h4;have y:∀(j:Nat) (o:Oper) c,b[j]? = some o->o.op≠.defer c:=λj o c G e=>by
  have:=Y o (by simpa using ad3 G);rw[e] at this;cases this
 have hk:∀j,b.size<=j->G4 C b j<=1:=λj f=>by
  simp only[G4,ac8 f];exact j3 _
 have m:∀j,j∈Eo C b\/j∈Cz C b d\/j∈Af C b d->j<b.size:=λj f=>Pf (h4 j (by
  rcases f with f|f|f<;>simp[f]))
 have hC:J3 (D9 M) n C.P b (DX Γ w g) (An g) (G4 C b) (Oh (D9 M) n C.P b (DX Γ w g) (An g) (G4 C b) (λa T=>∀w,J7 T w->Q .normal a w) d (Af C b d) (Cz C b d)) (Eo C b) a w:=
  Cx A S.hr _ (λi u=>m i (.inl u)) D (λ_ _ h=>h) h S (Stp.refl S.hr) λl a1 w1 Γ1 Φ1 k1 L k3 k4=>by
   obtain⟨hg,H,v,hv,B⟩:=TB k3 k1;exact QR A S.hr G hg H (λi u=>m i (.inr (.inr u))) _ (λi u=>m i (.inr (.inl u))) h5 (L.yv.trans D) hv k3 L (λq hq=>⟨hq,rfl⟩) B λp a2 w2 U V q1 q2 q3 q4 w3 K=>by
    obtain⟨S3,J⟩:=q3.like A.hI K;exact hN p a2 w3 U V q1 (L.trans (q2.trans J)) S3 (q4.trans k4)
 refine wpIn_region_any hm ?_;have x:=j7 h3;have e:b.size=(Af C b d).length+1+(Cz C b d).length+(Eo C b).length:=by
  rw[<-x];simp only[j5,ae7];omega
 rw[e];refine Gt (wr:=λj=>p4 3 (G4 C b j)) (Qn:=λa w=>Q .normal a w) (λ_ _ h=>h) _ _ _ _ (Ix (fin:=Iw .any b (An g) (G4 C b) d (Af C b d) (Cz C b d)) W y hk
  (λlisted a T hf hd hM w hw=>Ai1 W y hk _ listed a T hf hd hM w hw) (Eo C b) (ab6 ((Af C b d).length+1+(Cz C b d).length+(Eo C b).length) false) a w (by rw[<-e];exact h7) (λj o G f=>?_) hC _ ⟨⟨λ_ _=>rfl,j3 _⟩,rfl,rfl,rfl⟩)
 simp only[j2,ac2] at f;split at f<;>cases f
theorem A19{m:Option Nat}{n id:Nat}{c:Array Oper}{Q:Exit->Act->World->Prop}{k:St X->Option R}(A:Ask C I Z O N)(g:C.P.follows .mixedOrders=true)(b:RZ C id c=true)(d:Γ.yv=N)(h:RY C Z O id c true st k=some r)(S:SI C I Γ Φ st a.tmps w)
  (f:Nxt C I Γ Φ st.hp w a.defers k r (λl w'=>Q .normal l w')):(ad5 id c true).wpIn (D9 m) n C.P Q a w:=by
 unfold RY at h;unfold RZ at b;split at h
 ·rename_i e;rw[e] at b;exact Aa0 A g b d h S f
 ·rename_i i e;rw[e] at b;split at h
  ·rename_i o _ j;refine SD A g ?_ d j h S f;rw[o8] at b;rcases b with b|b
   ·have:=(k9.1 j).1;have:=u4 b;omega
   ·exact b
  ·cases h
end
def Ctx.cut(Γ:Ctx)(L:Nat):Ctx:={ Γ with St:=λg=>Γ.St g\/∃b,L<=b/\Γ.nm b=some g,nm:=λb=>if b<L then Γ.nm b else none }
def mkD(D:Nat):Deferred:={ target:=.collected D,args:=#[] }
section
variable {σ R : Type} {r : R} {C : Cfg} {I : σ -> (Nat -> Prop) -> (Nat -> Prop) -> World -> Prop} {Γ Γ' : Ctx} {Φ Φ' : Nat -> Prop} {st : St σ} {a : Act} {w w' : World} {Y : E2} {L : Yh σ} {yv : Value} {o : Oper} {H H' : List Blk} {tmps : Array Value}
def Off(Γ:Ctx)(Φ:Nat->Prop)(w:World)(g:Nat):Prop:=g<w.heap.size/\¬ Γ.St g/\(∀b,Γ.nm b≠some g)/\¬ Φ g
theorem Off.step{g:Nat}(h:Off Γ Φ w g)(s:Stp C Γ H w Φ Γ' H' w' Φ'):Off Γ' Φ' w' g/\w'.heap[g]? = w.heap[g]?:=by
 obtain⟨h1,h2,h3,h4⟩:=h;refine⟨⟨o0 h1 s.size,λq=>?_,λb q=>?_,λq=>?_⟩,s.frame g h1 h3 h4⟩
 ·rcases s.stnew g q with q|q
  ·exact h2 q
  ·omega
 ·rcases s.own b g q with⟨_,q⟩|q
  ·exact h3 b q
  ·omega
 ·rcases s.foot g q with q|q
  ·exact h4 q
  ·omega
def Mk(n0:Nat)(Γ:Ctx)(Φ:Nat->Prop)(w:World)(ds:List Deferred):Prop:=n0<=w.heap.size/\∃b:List Nat,ds=b.map mkD/\b.Nodup/\∀D∈b,n0<=D/\Off Γ Φ w D/\w.heap[D]? = some (.deferred (some []))
theorem Mk.nil{n0:Nat}(h:n0<=w.heap.size):Mk n0 Γ Φ w []:=⟨h,[],rfl,ag0,by simp⟩
theorem Mk.step{n0:Nat}{ds:List Deferred}(h:Mk n0 Γ Φ w ds)(s:Stp C Γ H w Φ Γ' H' w' Φ'):Mk n0 Γ' Φ' w' ds:=by obtain⟨h0,Ds,h1,h2,h3⟩:=h;refine⟨s8 h0 s.size,Ds,h1,h2,λD hD=>?_⟩;obtain⟨k1,k2,k3⟩:=h3 D hD;obtain⟨q1,q2⟩:=k2.step s;exact⟨k1,q1,q2.trans k3⟩
structure Lx (Γ:Ctx) (Φ:Nat->Prop) (w w':World):Prop where
 same:∀g,Γ.St g\/(∃b,Γ.nm b=some g)\/Φ g->w'.heap[g]? = w.heap[g]?
 size:w.heap.size<=w'.heap.size
 os:w'.os=w.os
 tape:w'.tape=w.tape
 output:w'.output=w.output
theorem Lx.mono(h:Lx Γ Φ w w'):R8 Γ (A0 H) w Γ (A0 H) w' (λ_=>True):=
 ⟨λg hg=>h.same g (.inl hg),λ_ h=>h,λ_ _=>rfl,λ_ _=>rfl,λb g _ hg=>D2 (h.same g (.inr (.inl ⟨b,hg⟩))),rfl⟩
theorem SI.offW(hI:HI I)(S:SI C I Γ Φ st tmps w)(h:Lx Γ Φ w w'):SI C I Γ Φ st tmps w':=by
 have hf:=hI.foot _ _ _ _ S.inv;refine⟨⟨S.hr.inj,λb g hb=>?_,λg hg=>o0 (S.hr.stlt g hg) h.size,S.hr.nms,λb hb=>(S.hr.blk b hb).mono h.mono rfl (λg hg=>h.same g (.inr (.inl ⟨b,hg⟩))) (λ_ _=>trivial)⟩,
  S.sr.mono h.mono (λc hc=>⟨trivial,S.sr.nms c hc⟩),S.g.mono (λg hg=>h.same g (.inl hg)) (λ_ h=>h),
  hI.mono _ _ _ _ _ _ S.inv (λ_ h=>h) (λg hg hp=>(hf g hp).2 hg) (λg hg=>o0 (S.hr.stlt g hg) h.size) (λg hg=>h.same g (hg.elim .inl (λq=>.inr (.inr q)))) h.size h.os h.tape h.output,S.dis⟩
 obtain⟨q1,q2,q3⟩:=S.hr.lt b g hb;exact⟨q1,o0 q2 h.size,q3⟩
structure Pg (C:Cfg) (Γ:Ctx) (H:List Blk) (w:World) (Φ:Nat->Prop) (Γ':Ctx) (H':List Blk) (w':World) (Φ':Nat->Prop):Prop where
 os:w'.os=w.os
 tape:w'.tape=w.tape
 output:w'.output=w.output
 size:w.heap.size<=w'.heap.size
 sub:∀g,Γ.St g->Γ'.St g
 own:∀b g,Γ'.nm b=some g->(b<H.length/\Γ.nm b=some g)\/w.heap.size<=g
 foot:∀g,Φ' g->Φ g\/w.heap.size<=g
 yv:Γ'.yv=Γ.yv
 len:H.length<=H'.length
 keep:∀b,b<H.length->Ek C (A0 H b)->Γ'.nm b=Γ.nm b/\A0 H' b=A0 H b/\∀g,Γ.nm b=some g->w'.shape? g=w.shape? g
theorem Stp.pg(h:Stp C Γ H w Φ Γ' H' w' Φ'):Pg C Γ H w Φ Γ' H' w' Φ':=⟨h.os,h.tape,h.output,h.size,h.sub,h.own,h.foot,h.yv,h.len,h.keep⟩
theorem Pg.trans{Γ'':Ctx}{H'':List Blk}{w'':World}{Φ'':Nat->Prop}(h:Pg C Γ H w Φ Γ' H' w' Φ')(k:Pg C Γ' H' w' Φ' Γ'' H'' w'' Φ''):Pg C Γ H w Φ Γ'' H'' w'' Φ'':=by
 have h1:=h.size;refine⟨k.os.trans h.os,k.tape.trans h.tape,k.output.trans h.output,s8 h.size k.size,λg hg=>k.sub g (h.sub g hg),λb g hb=>?_,λg hg=>?_,k.yv.trans h.yv,s8 h.len k.len,λb hb hf=>?_⟩
 ·rcases k.own b g hb with⟨_,q⟩|q
  ·exact h.own b g q
  ·exact .inr (by omega)
 ·rcases k.foot g hg with q|q
  ·exact h.foot g q
  ·exact .inr (by omega)
 ·obtain⟨k1,k2,k3⟩:=h.keep b hb hf;have h2:=h.len;obtain⟨m1,m2,m3⟩:=k.keep b (by omega) (by rw[k2];exact hf);exact⟨m1.trans k1,m2.trans k2,λg hg=>(m3 g (k1.trans hg)).trans (k3 g hg)⟩
theorem Pg.off(hH:HR Γ H w)(h:Lx Γ Φ w w'):Pg C Γ H w Φ Γ H w' Φ:=
 ⟨h.os,h.tape,h.output,h.size,λ_ h=>h,λb g hb=>.inl ⟨(hH.lt b g hb).1,hb⟩,λ_ h=>.inl h,rfl,j3 _,λb hb _=>⟨rfl,rfl,λg hg=>D2 (h.same g (.inr (.inl ⟨b,hg⟩)))⟩⟩
theorem Pg.wideSt{St':Nat->Prop}(hH:HR Γ H w)(hs:∀g,Γ.St g->St' g):Pg C Γ H w Φ { Γ with St:=St' } H w Φ:=
 ⟨rfl,rfl,rfl,j3 _,hs,λb g hb=>.inl ⟨(hH.lt b g hb).1,hb⟩,λ_ h=>.inl h,rfl,j3 _,λ_ _ _=>⟨rfl,rfl,λ_ _=>rfl⟩⟩
theorem Lx.put{l:Nat}{ob:Obj}(h:Off Γ Φ w l):Lx Γ Φ w (w.putObj l ob):=by
 refine⟨λg hg=>ac7 ?_,by simp,rfl,rfl,rfl⟩;rintro rfl;rcases hg with q|⟨b,q⟩|q
 ·exact h.2.1 q
 ·exact h.2.2.1 b q
 ·exact h.2.2.2 q
theorem Off.put{g l:Nat}{ob:Obj}(h:Off Γ Φ w g):Off Γ Φ (w.putObj l ob) g:=⟨by simpa using h.1,h.2⟩
theorem Mk.put{n0 l:Nat}{ob:Obj}{rr:Loop}{ds:List Deferred}(h:Mk n0 Γ Φ w ds)(hl:w.heap[l]? = some (.loop rr)):Mk n0 Γ Φ (w.putObj l ob) ds:=by obtain⟨h0,Ds,h1,h2,h3⟩:=h;refine⟨by simpa using h0,Ds,h1,h2,λD hD=>?_⟩;obtain⟨k1,k2,k3⟩:=h3 D hD;refine⟨k1,k2.put,(ac7 ?_).trans k3⟩;rintro rfl;rw[k3] at hl;cases hl
def Ro(b:Option Nat)(Γ:Ctx)(Φ:Nat->Prop)(w:World):Prop:=∀l,b=some l->Off Γ Φ w l/\∃c:Loop,w.heap[l]? = some (.loop c)
theorem Ro.none:Ro none Γ Φ w:=λ_ h=>by cases h
theorem Ro.step{ro:Option Nat}(h:Ro ro Γ Φ w)(s:Stp C Γ H w Φ Γ' H' w' Φ'):Ro ro Γ' Φ' w':=λl e=>by
 obtain⟨k1,rr,k2⟩:=h l e;obtain⟨q1,q2⟩:=k1.step s;exact⟨q1,rr,q2.trans k2⟩
def At5(C:Cfg)(I:σ->(Nat->Prop)->(Nat->Prop)->World->Prop)(n0:Nat)(Γ:Ctx)(Φ:Nat->Prop)(H:List Blk)(w:World)(k:Out->St σ->Option R)(r:R)(Q:Exit->Act->World->Prop):Prop:=
 ∀o b c w' Γ' Φ',k o b=some r->Stp C Γ H w Φ Γ' b.hp w' Φ'->SI C I Γ' Φ' b c.tmps w'->Mk n0 Γ' Φ' w' c.defers->Q o.exit' c w'
def WP(C:Cfg)(I:σ->(Nat->Prop)->(Nat->Prop)->World->Prop)(Y:E2)(L:Yh σ)(yv:Value)(c:Code):Prop:=
 ∀{R:Type} {r:R} {b:Option Nat} {n n0:Nat} {Γ:Ctx} {Φ:Nat->Prop} {st:St σ} {a:Act} {w:World} {k:Out->St σ->Option R} {Q:Exit->Act->World->Prop},
  Γ.yv=yv->B8 C Y L c st k=some r->SI C I Γ Φ st a.tmps w->Mk n0 Γ Φ w a.defers->Ro b Γ Φ w->At5 C I n0 Γ Φ st.hp w k r Q->c.wpIn (D9 b) n C.P Q a w
def Em(fn:FuncId)(tmps:Array Value)(d:Array Tmp)(c b:Code)(D:Nat)(s:LoopState)(p:Option Code):Loop:={ state:=s,pending:=p,fn:=fn,tmps:=tmps,params:=d,assign:=c,body:=b,defers:=D }
def jmp:Out->Code
 | .normal=>.skip
 | .exit id=>.exit id
 | .ret=>.ret
def A44:Option Out->LoopState
 | none=>.ready
 | some _=>.done
structure RIb (C:Cfg) (I:σ->(Nat->Prop)->(Nat->Prop)->World->Prop) (Γ0:Ctx) (H0:List Blk) (w0:World) (Φ0:Nat->Prop) (sl0:List PV) (tmps:Array Value) (l:Nat) (D:Option Nat) (rc:LoopState->Option Code->Loop) (x:List Blk × Option Out × σ) (St Φ:Nat->Prop) (w:World) (Γb:Ctx) (Φb:Nat->Prop):Prop where
 si:SI C I Γb Φb { sl:=sl0,hp:=x.1,s:=x.2.2 } tmps w
 pg:Pg C Γ0 H0 w0 Φ0 Γb x.1 w Φb
 st:∀g,Γb.St g->St g
 ph:∀g,Φ g↔Φb g\/(∃b,Γb.nm b=some g)\/g=l\/D=some g
 ft:∀g,Φ g->g<w.heap.size/\¬St g
 ol:Off Γb Φb w l
 od:∀d,D=some d->Off Γb Φb w d
 hl:w.heap[l]? = some (.loop (rc (A44 x.2.1) (x.2.1.map jmp)))
 hd:∀d,D=some d->w.heap[d]? = some (.deferred (some []))
def RI(C:Cfg)(I:σ->(Nat->Prop)->(Nat->Prop)->World->Prop)(c:Ctx)(g:List Blk)(i:World)(e:Nat->Prop)(b:List PV)(tmps:Array Value)(l:Nat)(D:Option Nat)(h:LoopState->Option Code->Loop):(List Blk × Option Out × σ)->(Nat->Prop)->(Nat->Prop)->World->Prop:=
 λx St Φ w=>∃d f,RIb C I c g i e b tmps l D h x St Φ w d f
theorem Bl5{m:Ctx}{p:List Blk}{G:World}{n:Nat->Prop}{k:List PV}{l:Nat}{D:Option Nat}{F:LoopState->Option Code->Loop}(t:HI I):HI (RI C I m p G n k tmps l D F):=by
 refine⟨λx St Φ w ⟨c,e,r⟩=>r.ft,λx St Φ w St' w' ⟨c,e,r⟩ z u v i j y A B=>?_⟩;have inΦ:∀{g},e g\/(∃b,c.nm b=some g)\/g=l\/D=some g->Φ g:=fun {g} h=>(r.ph g).2 h
 have O:Lx c e w w':=⟨λg f=>by
  rcases f with q|q|q
  ·exact i g (.inl (r.st g q))
  ·exact i g (.inr (inΦ (.inr (.inl q))))
  ·exact i g (.inr (inΦ (.inl q))),j,y,A,B⟩
 have up:∀{g},Off c e w g->Off c e w' g:=λh=>⟨o0 h.1 j,h.2⟩
 exact⟨c,e,r.si.offW t O,r.pg.trans (Pg.off r.si.hr O),λg f=>z g (r.st g f),r.ph,λg f=>⟨o0 (r.ft g f).1 j,λq=>u g q f⟩,up r.ol,λd h=>up (r.od d h),
  (i l (.inr (inΦ (.inr (.inr (.inl rfl)))))).trans r.hl,λd h=>(i d (.inr (inΦ (.inr (.inr (.inr h)))))).trans (r.hd d h)⟩
end
section
variable {Y R : Type} {r : R} {C : Cfg} {I : Y -> (Nat -> Prop) -> (Nat -> Prop) -> World -> Prop} {L Γ' : Ctx} {Q K : Nat -> Prop} {W : St Y} {a : Act} {w w' : World} {O : E2} {U : Yh Y} {J : Value} {H H' : List Blk} {Z : Array Value}
theorem Zf(x:Blk):(Di x).nms=[]:=by
 cases x with
 | box cells=>
  simp only[Di,Blk.nms];rw[v7];intro c b;obtain⟨j,e,b⟩:=B7.1 b;simp[PV.nms] at b
 | mp d=>
  simp only[Di,Blk.nms];rw[v7];intro c b;obtain⟨j,e,b⟩:=B7.1 b;simp[PV.nms,Ym] at b
 | _=>rfl
theorem Zg(x:Blk):(Di x).shp=x.shp:=by cases x<;>rfl
theorem Ah3{sh sh':Nat->Option Shp}{b B:Nat}{x:Blk}(h:BR L sh w b x)(f:Γ'.nm B=L.nm b)(t:∀g,L.St g->w'.heap[g]? = w.heap[g]?)(n:∀g,L.St g->Γ'.St g)(c:∀g,L.nm b=some g->w'.heap[g]? = w.heap[g]?):BR Γ' sh' w' B (Di x):=by
 cases x with
 | arr v e X F=>
  rcases h with h|⟨N,g,o,d,l,m,A,M⟩
  ·exact .inl h
  ·refine .inr ⟨N,g,o,by rw[f];exact d,by rw[c g d];exact l,m,A,λi h j G=>?_⟩;obtain⟨V,y,D⟩:=M i h j G;exact⟨V,y,D.mono t n⟩
 | box cells=>
  obtain⟨g,o,e,d,l,m,A⟩:=h;refine⟨g,o,e,by rw[f];exact d,by rw[c g d];exact l,by simpa using m,λj h=>?_⟩;obtain⟨V,y,_⟩:=A j (by simpa using h);exact⟨V,y,by rw[b8];exact .bad V⟩
 | iter s p=>
  obtain⟨g,S,d,l,m⟩:=h;exact⟨g,S,by rw[f];exact d,by rw[c g d];exact l,m⟩
 | mp q=>
  obtain⟨g,z,u,d,l,m⟩:=h;exact⟨g,z,u,by rw[f];exact d,by rw[c g d];exact l,m.map λv _ V _=>.bad V⟩
 | ms a q=>
  obtain⟨g,z,u,d,l,m⟩:=h;refine⟨g,z,u,by rw[f];exact d,by rw[c g d];exact l,m.imp λv P V k=>?_⟩;obtain⟨e,T,rfl⟩:=Sv P;exact Ap9 t n k
 | dead=>trivial
end
section
variable {J R : Type} {r : R} {C : Cfg} {I : J -> (Nat -> Prop) -> (Nat -> Prop) -> World -> Prop} {Y : Ctx} {W : Nat -> Prop} {Q : St J} {a : Act} {w : World} {K : E2} {O : Yh J} {Z : Value} {o : Oper} {H : List Blk}
theorem IO(d:HR Y H w){L:Nat}(e:L<=H.length):R8 Y (A0 H) w (Y.cut L) (A0 (H.take L)) w (· < L):=
 ⟨λ_ _=>rfl,λ_ h=>.inl h,λb c=>by simp only[Ctx.cut];rw[if_pos c],λb c=>by simp only[A0,u0];rw[if_pos c],λ_ _ _ _=>rfl,rfl⟩
theorem Ai9(d:HR Y H w){L:Nat}(v:L<=H.length)(j:YU L (H.take L)=true):HR (Y.cut L) (H.take L) w:=by
 have f:=AC j;have t:(H.take L).length=L:=by rw[ac4];omega
 have key:∀b g,(Y.cut L).nm b=some g->b<L/\Y.nm b=some g:=λb g h=>by
  simp only[Ctx.cut] at h;grind
 refine⟨λb k g n l=>d.inj b k g (key b g n).2 (key k g l).2,λb g h=>?_,λg i=>?_,λb p c q=>?_,λb p=>?_⟩
 ·obtain⟨n,l⟩:=key b g h;have:=d.lt b g l;refine⟨by omega,this.2.1,?_⟩;rintro(u|⟨k,u,h4⟩)
  ·grind
  ·have:=d.inj b k g l h4;omega
 ·rcases i with i|⟨b,_,i⟩
  ·exact d.stlt g i
  ·exact(d.lt b g i).2.1
 ·grind
 ·have m:b<L:=by omega
  have e:(H.take L)[b]=H[b]'(by omega):=List.getElem_take;rw[e];have M:=IO d v;exact(d.blk b (by omega)).mono M (M.nm b m) (λ_ _=>rfl) (λc q=>f _ (b9 p) c (by rw[e];exact q))
theorem WX(M:HR Y H w){L b:Nat}(S:¬b<L){v:PV}{V:Value}(y:v = .fl b\/∃i n,v = .vw b i n)(h:VP Y (A0 H) w v V):VP (Y.cut L) (A0 (H.take L)) w (v.snap H) V/\(v.snap H).nms=[]:=by
 rcases y with rfl|⟨i,n,rfl⟩
 ·cases h with
  | flv _ e p h=>
   obtain⟨x,j,t⟩:∃x,H[b]? = some x/\x.shp = .arr true e p 0:=by simpa[A0] using h
   cases x<;>simp[Blk.shp] at t
   rename_i k z q c;obtain⟨rfl,rfl,rfl,A⟩:=t;subst A;simp only[PV.snap,j];exact⟨.s _ _ (.nil _ _),rfl⟩
  | fl _ g v e p n cap h y u d B t=>
   obtain⟨x,j,f⟩:∃x,H[b]? = some x/\x.shp = .arr v e p n:=by simpa[A0] using h
   cases x<;>simp[Blk.shp] at f
   rename_i k z q c;obtain⟨rfl,rfl,rfl,rfl⟩:=f;have l:¬(k=true/\c=[]):=by rintro⟨F,G⟩;exact y F (by rw[G];rfl)
   have D:(k&&c.isEmpty)=false:=by cases k<;>simp_all
   simp only[PV.snap,j,D];have:=GP (i:=0) (n:=c.length) (a:=⟨g,0,none⟩) (cap:=cap) M j l u (by omega) (λ_=>by simp) d B (St':=(Y.cut L).St) (λ_ h=>aa7 h) (.inr ⟨b,by omega,u⟩);simp only[af8,ae8] at this;exact⟨.s _ _ this,rfl⟩
 ·cases h with
  | vwv _ e p _ h=>
   obtain⟨x,j,t⟩:∃x,H[b]? = some x/\x.shp = .arr true e p 0:=by simpa[A0] using h
   cases x<;>simp[Blk.shp] at t
   rename_i k z q c;obtain⟨rfl,rfl,rfl,A⟩:=t;subst A;simp only[PV.snap,j,ag5,ag6];exact⟨.s _ _ (.nil _ _),rfl⟩
  | vw _ _ _ g a cap v e p m h y u N P d B=>
   obtain⟨x,j,f⟩:∃x,H[b]? = some x/\x.shp = .arr v e p m:=by simpa[A0] using h
   cases x<;>simp[Blk.shp] at f
   rename_i k z q c;obtain⟨rfl,rfl,rfl,rfl⟩:=f;have l:¬(k=true/\c=[]):=by rintro⟨F,G⟩;exact y F (by rw[G];rfl)
   have D:(k&&c.isEmpty)=false:=by cases k<;>simp_all
   simp only[PV.snap,j,D];exact⟨.s _ _ (GP M j l u P N d B (λ_ h=>aa7 h) (.inr ⟨b,by omega,u⟩)),rfl⟩
theorem FN(f:HR Y H w){L:Nat}(g:L<=H.length){v:PV}{V:Value}(h:VP Y (A0 H) w v V):VP (Y.cut L) (A0 (H.take L)) w (v.low H L) V/\∀c∈(v.low H L).nms,c<L:=by
 have M:=IO f g;have d:(∀c∈v.nms,c<L)->VP (Y.cut L) (A0 (H.take L)) w v V:=λj=>h.mono M j
 unfold PV.low;split
 ·rename_i b;split
  ·rename_i e;exact⟨d (by simpa[PV.nms] using e),by simpa[PV.nms] using e⟩
  ·rename_i e;obtain⟨k,l⟩:=WX f e (.inl rfl) h;grind
 ·rename_i b i n;split
  ·rename_i e;exact⟨d (by simpa[PV.nms] using e),by simpa[PV.nms] using e⟩
  ·rename_i e;obtain⟨k,l⟩:=WX f e (.inr ⟨i,n,rfl⟩) h;grind
 ·exact⟨d (by simp[PV.nms]),by simp[PV.nms]⟩
 ·exact⟨d (by simp[PV.nms]),by simp[PV.nms]⟩
 ·exact⟨d (by simp[PV.nms]),by simp[PV.nms]⟩
 ·split
  ·rename_i e;exact⟨d (by simpa[PV.nms] using e),by simpa[PV.nms] using e⟩
  ·exact⟨.bad _,by simp[PV.nms]⟩
 ·split
  ·rename_i e;exact⟨d (by simpa[PV.nms] using e),by simpa[PV.nms] using e⟩
  ·exact⟨.bad _,by simp[PV.nms]⟩
 ·split
  ·grind
  ·exact⟨.bad _,by simp[PV.nms]⟩
def Sub(Y Γ':Ctx):Prop:=(∀g,Γ'.St g->Y.St g\/∃b,Y.nm b=some g)/\∀b g,Γ'.nm b=some g->Y.nm b=some g
theorem Mk.sub{n0:Nat}{Γ':Ctx}{ds:List Deferred}(h:Mk n0 Y W w ds)(s:Sub Y Γ'):Mk n0 Γ' W w ds:=by
 obtain⟨h0,Ds,h1,h2,h3⟩:=h;refine⟨h0,Ds,h1,h2,λD hD=>?_⟩;obtain⟨k1,k2,k3⟩:=h3 D hD;refine⟨k1,⟨k2.1,λq=>?_,λb q=>k2.2.2.1 b (s.2 b D q),k2.2.2.2⟩,k3⟩;rcases s.1 D q with q|⟨b,q⟩
 ·exact k2.2.1 q
 ·exact k2.2.2.1 b q
theorem Oc{v:List Blk}{p:Ctx}{F:World}{t:Nat->Prop}{L:Nat}(G:HI I)(S:SI C I Y W Q a.tmps w)(h:Stp C p v F t Y Q.hp w W)(y:v.length<=L)(x:L<=Q.hp.length):∃ Γ',SI C I Γ' W (R5 L Q) a.tmps w/\Stp C p v F t Γ' (R5 L Q).hp w W/\Sub Y Γ':=by
 unfold R5;split
 ·rename_i n;have m:(Q.hp.take L).length=L:=by rw[ac4];omega
  have N:=Ai9 S.hr x n;have l:∀b g,(Y.cut L).nm b=some g->Y.nm b=some g:=λb g h=>by
   simp only[Ctx.cut] at h;all_goals grind
  have f:∀g,(Y.cut L).St g->Y.St g\/(F.heap.size<=g/\¬W g):=λg d=>by
   rcases d with d|⟨b,M,d⟩
   ·grind
   ·refine .inr ⟨?_,S.dis b g d⟩;rcases h.own b g d with⟨q,_⟩|q
    all_goals omega
  have A:=G.foot _ _ _ _ S.inv;refine⟨Y.cut L,⟨N,⟨by simpa using S.sr.size,λc u=>?_,λi T=>?_⟩,S.g.mono (λ_ _=>rfl) (λ_ h=>aa7 h),?_,λb g d=>S.dis b g (l b g d)⟩,
   ⟨h.os,h.tape,h.output,h.size,λg d=>aa7 (h.sub g d),λg d=>?_,λb g d=>h.own b g (l b g d),h.foot,h.frame,h.yv,by rw[m];exact y,λb M P=>?_⟩,λg d=>d.elim .inl (λ⟨b,_,q⟩=>.inr ⟨b,q⟩),l⟩
  ·obtain⟨j,V,u⟩:=B7.1 u;have D:j<Q.sl.length:=by simpa using V
   obtain⟨U,e,k⟩:=S.sr.slot j D;rw[b8] at u;have:=(FN S.hr x k).2 c u;grind
  ·have B:i<Q.sl.length:=by simpa using T
   obtain⟨U,e,k⟩:=S.sr.slot i B;exact⟨U,e,by rw[b8];exact(FN S.hr x k).1⟩
  ·refine G.mono _ _ _ _ _ _ S.inv (λ_ h=>aa7 h) (λg d hp=>?_) (λg d=>N.stlt g d) (λ_ _=>rfl) (j3 _) rfl rfl rfl;all_goals grind
  ·rcases f g d with q|q
   ·exact h.stnew g q
   omega
  ·obtain⟨X,k2,k3⟩:=h.keep b M P;have z:b<L:=by omega
   refine⟨by simp only[Ctx.cut];rw[if_pos z];exact X,?_,k3⟩;rw[<-k2];simp only[A0,u0];grind
 ·exact⟨Y,S,h,λ_ h=>.inl h,λ_ _ h=>h⟩
theorem LW{d:List Blk}{b:Ctx}{e:World}{c:Nat->Prop}(f:HI I)(S:SI C I Y W Q a.tmps w)(h:Stp C b d e c Y Q.hp w W):∃ Γ',SI C I Γ' W (R5 d.length Q) a.tmps w/\Stp C b d e c Γ' (R5 d.length Q).hp w W/\Sub Y Γ':=
 Oc f S h (j3 _) h.len
theorem Na:∀(g:List Nat) (l:List PV),(Bo g l).length=l.length/\∀i (h:i<(Bo g l).length) (b:i<l.length),(Bo g l)[i]=l[i]\/(Bo g l)[i] = .bad
 | g,[]=>by
  have e:Bo g []=[]:=by unfold Bo;rfl
  grind
 | [],v::l=>by
  obtain⟨c,d⟩:=Na [] l;refine⟨by simp[Bo,c],λi h b=>?_⟩;cases i with
  | zero=>exact .inr rfl
  | succ i=>
   have:=d i (by simpa[Bo] using h) (by simpa using b);simpa[Bo] using this
 | 0::g,v::l=>by
  obtain⟨c,d⟩:=Na g l;refine⟨by simp[Bo,c],λi h b=>?_⟩;cases i with
  | zero=>exact .inl rfl
  | succ i=>
   have:=d i (by simpa[Bo] using h) (by simpa using b);simpa[Bo] using this
 | (n+1)::g,v::l=>by
  obtain⟨c,d⟩:=Na (n::g) l;refine⟨by simp[Bo,c],λi h b=>?_⟩;cases i with
  | zero=>exact .inr rfl
  | succ i=>
   have:=d i (by simpa[Bo] using h) (by simpa using b);simpa[Bo] using this
theorem WI{sl:List PV}{b:Array Value}(g:List Nat)(h:SR Y H w sl b):SR Y H w (Bo g sl) b:=by
 obtain⟨l,m⟩:=Na g sl;refine⟨by rw[l];exact h.size,λc d=>?_,λi n=>?_⟩
 ·obtain⟨j,p,d⟩:=B7.1 d;have k:j<sl.length:=by rw[<-l];exact p
  rcases m j p k with e|e
  ·rw[e] at d;exact h.nms c (B7.2 ⟨j,k,d⟩)
  ·rw[e] at d;simp[PV.nms] at d
 ·have f:i<sl.length:=by rw[<-l];exact n
  obtain⟨V,q,t⟩:=h.slot i f;refine⟨V,q,?_⟩;rcases m i n f with e|e
  ·grind
  ·rw[e];exact .bad V
theorem Cc(ds:Option (List Nat))(Q:St J):(Fy ds Q).hp=Q.hp:=by cases ds<;>rfl
theorem Cb(S:SI C I Y W Q a.tmps w)(ds:Option (List Nat)):SI C I Y W (Fy ds Q) a.tmps w:=by
 cases ds with
 | none=>exact S
 | some g=>exact⟨S.hr,WI g S.sr,S.g,S.inv,S.dis⟩
theorem Th:∀(l:List Nat) (m:Nat),m<=UB l m
 | [],m=>j3 _
 | b::r,m=>by
  simp only[UB];cases h:p4 m b with
  | true=>exact s8 (Nat.le_succ_of_le (u4 h)) (Th r (b+1))
  | false=>exact Th r m
theorem XF:∀(l:List Blk) (m:Nat),m<=Ac5 l m
 | [],m=>j3 _
 | b::r,m=>s8 (Th _ _) (XF r _)
theorem Kb{d:List Blk}{b:Ctx}{f:World}{c:Nat->Prop}(i:HI I)(S:SI C I Y W Q a.tmps w)(h:Stp C b d f c Y Q.hp w W)(ds:Option (List Nat)){L:Nat}(j:d.length<=L):∃ Γ',SI C I Γ' W (Mt ds L Q) a.tmps w/\Stp C b d f c Γ' (Mt ds L Q).hp w W:=by
 cases ds with
 | none=>exact⟨Y,S,h⟩
 | some g=>
  have e:SI C I Y W ({ sl:=Bo g Q.sl,hp:=Q.hp,s:=Q.s }:St J) a.tmps w:=⟨S.hr,WI g S.sr,S.g,S.inv,S.dis⟩
  simp only[Mt,Bn9,Aq1];cases k:p4 (Ac5 Q.hp (UB (B9 (Bo g Q.sl)) L)+1) Q.hp.length with
  | false=>exact⟨Y,e,h⟩
  | true=>
   have:=u4 k;obtain⟨Γ',l,m,_⟩:=Oc (L:=Ac5 Q.hp (UB (B9 (Bo g Q.sl)) L)) i e h (s8 j (s8 (Th _ _) (XF _ _))) (by show Ac5 Q.hp _<=Q.hp.length;omega);grind
theorem Aq2{d:Array Value}(y:HI I)(S:SI C I Y W Q d w){L:Nat}(t:L<=Q.hp.length):∃ Γ',SI C I Γ' W (R5 L Q) d w/\(∀g,Y.St g->Γ'.St g)/\(∀g,Γ'.St g->Y.St g\/∃b,L<=b/\Y.nm b=some g)/\
  (∀b g,Γ'.nm b=some g->Y.nm b=some g)/\Γ'.yv=Y.yv/\(∀b,b<L->Γ'.nm b=Y.nm b/\A0 (R5 L Q).hp b=A0 Q.hp b)/\L<=(R5 L Q).hp.length:=by
 unfold R5;split
 ·rename_i n;have m:(Q.hp.take L).length=L:=by rw[ac4];omega
  have B:=Ai9 S.hr t n;have p:∀b g,(Y.cut L).nm b=some g->Y.nm b=some g:=λb g h=>by
   simp only[Ctx.cut] at h;grind
  have f:=y.foot _ _ _ _ S.inv;refine⟨Y.cut L,⟨B,⟨by simpa using S.sr.size,λc u=>?_,λi D=>?_⟩,S.g.mono (λ_ _=>rfl) (λ_ h=>aa7 h),?_,λb g l=>S.dis b g (p b g l)⟩,
   λ_ h=>aa7 h,λ_ h=>h,p,rfl,λb z=>⟨by simp only[Ctx.cut];rw[if_pos z],?_⟩,by rw[m];exact j3 _⟩
  ·obtain⟨j,F,u⟩:=B7.1 u;have x:j<Q.sl.length:=by simpa using F
   obtain⟨U,e,k⟩:=S.sr.slot j x;rw[b8] at u;have:=(FN S.hr t k).2 c u;show c<(Q.hp.take L).length;omega
  ·have v:i<Q.sl.length:=by simpa using D
   obtain⟨U,e,k⟩:=S.sr.slot i v;exact⟨U,e,by rw[b8];exact(FN S.hr t k).1⟩
  ·refine y.mono _ _ _ _ _ _ S.inv (λ_ h=>aa7 h) (λg l A=>?_) (λg l=>B.stlt g l) (λ_ _=>rfl) (j3 _) rfl rfl rfl;rcases l with q|⟨b,_,q⟩
   ·exact(f g A).2 q
   ·exact S.dis b g q A
  ·simp only[A0,u0];rw[if_pos z]
 ·exact⟨Y,S,λ_ h=>h,λ_ h=>.inl h,λ_ _ h=>h,rfl,λ_ _=>⟨rfl,rfl⟩,t⟩
end
end
end Go.Proofs.YtghjngpjgomdnaaGreatDoor.E
