/-
  ModelClockMatchesSpec, as its tied card says. Conditions: what the card itself names (the package-level variables that are listed, tied to the program's text).
-/
import Derived.Test.YtghjngpjgomdnaaGreatDoorKMC4
import Derived.Test.YtghjngpjgomdnaaGreatDoorCards
import Derived.Test.YtghjngpjgomdnaaGreatDoorTie
open Go.Proofs.Tryz renaming prog->a7,f143->ab4,f3->ac3,f144->ac6,f162->ac7,f164->ac8,func3->ad8,f121->ae0,f24->af0,f47->af1,f67->af2,f93->af3
open Int renaming toNat->a8,toNat_natCast->b8,tmod->o9,eq_ofNat_of_zero_le->p7,tdiv->r9,mul->aa0,mul_comm->ae1
open List renaming drop_of_length_le->b9,length_singleton->c9,length_append->j0,length_drop->j2,length_take->j3,getD_eq_getElem?_getD->j7,length_cons->o0,size_toArray->o5,length_map->o6,getElem?_append_right->o7,getElem?_eq_getElem->p4,getElem?_take_of_lt->p5,drop_zero->p6,all_eq_true->s5,getElem?_cons_zero->s7,mem_nil_iff->s8,getElem?_toArray->u0,length->u4,getElem?_append_left->u5,length_reverse->u6,mem_cons->u9,length_nil->v7,getElem?_take->w8,getElem?_cons_succ->w9,length_eq_zero_iff->x3,append_assoc->x4,getElem_cons_drop->x5,take_of_length_le->x6,countP_le_length->x7,take->x8,nil_append->y5,drop->y7,getElem?_eq_some_iff->z7,all_cons->aa3,countP_cons_of_neg->aa5,map_append->aa7,count_le_length->ab0,mem_of_mem_drop->ab1,not_lt->ab2,length_pos_iff->ab5,any_cons->ab7,map->ac1,mem_map->ac2,isEmpty_iff->ac4,le_antisymm->ac5,all->ad4,take_left->ad5,isEmpty->ae2,map_nil->ae3
open Eq renaming trans->j4
open Go.Value renaming int->j5
open Bool renaming not_false->j6,and_eq_true->j8,not_true->j9,eq_false_iff->o3,true_and->u7,false_or->aa2,and_true->ab6,false_eq_true->ab9,eq_iff_iff->ad1,false_and->ad3,and_self->ad9
open Option.some renaming injEq->k9,inj->w6
open Nat renaming ble_eq->o8,ble->p9,mul_one->s9,div_le_self->v8,eq_of_beq_eq_true->aa9,le_refl->ac9,strongRecOn->ad2,blt_eq->ad6,mod_lt->ad7,add_zero->ae4,beq->ae5,le_trans->ae6,sub_self->ae7,sub_zero->ae8,zero_add->ae9
open Array renaming length_toList->s6,getElem?_append_left->y8,getElem?_eq_getElem->y9,size_append->ac0
open Option renaming getD_some->x9,map_some->aa8
open UInt8 renaming ofNat->aa1,toNat->ad0
open Go.World renaming frozen?->aa4,shape?->aa6,cell?->ab3
open Prod.mk renaming injEq->ab8
open Go.RowKit.Below renaming refl->af6
namespace Go.Proofs.YtghjngpjgomdnaaGreatDoor.E
set_option linter.all false
section
open Go Go.Proofs Go.Sort
set_option maxRecDepth 100000
theorem Xr{C:Cfg}{W:Type}{I:W->(Nat->Prop)->(Nat->Prop)->World->Prop}(J:HI I){f:Ctx}{u:Nat->Prop}{w w':World}{z v1:Bool}{E o r:Nat}{l l' m:LL}{s:W}(g cap:Nat)(H:List Value)(i:Array Value)
  (P:Fw C E=false) (j:HR f [.arr z E 1 l,.arr v1 o r m] w) (K:I s f.St u w) (M:∀b g,f.nm b=some g->¬u g)
  (d:f.nm 0=some g\/g=w.heap.size) (O:g<w'.heap.size) (e:∀k,k<w.heap.size->f.nm 0≠some k->w'.heap[k]? = w.heap[k]?) (p:w.heap.size<=w'.heap.size) (R:w'.os=w.os) (S:w'.tape=w.tape) (T:w'.output=w.output)
  (n:w'.heap[g]? = some (.cells i E (0,0))) (Y:Els f.St w' 1 l' H) (D:l'≠[]) (t:∀q,q<H.length->i[q]? = H[q]?) (Z:H.length<=i.size) (B:l'.length<=cap) (hm:cap<=maxLen) (L:i.size=cap) :
  V9 C I f [.arr z E 1 l,.arr v1 o r m] w u (.fl 0) [.arr z E 1 l',.arr v1 o r m] s (.slice (some ⟨g,0,none⟩) l'.length cap) w':=by
 have x:0<[Blk.arr z E 1 l,.arr v1 o r m].length:=by simp
 have G:(f.re 0 (some g)).nm 0=some g:=by simp[Ctx.re]
 have F:¬Ek C (A0 [Blk.arr z E 1 l,.arr v1 o r m] 0):=by simp[A0,Blk.shp,Ek,P]
 have a:([Blk.arr z E 1 l,.arr v1 o r m].map (Blk.kill 0)).set 0 (.arr z E 1 l')=[.arr z E 1 l',.arr v1 o r m]:=rfl;have N:¬f.St g:=by
  rcases d with h|h
  ·exact(j.lt 0 g h).2.2
  ·intro hs;have:=j.stlt g hs;omega
 obtain⟨U,V,q3⟩:=GK (C:=C) (y:=.arr z E 1 l') (ng:=some g) (w':=w') j x F (λk a=>by
   simp only[k9] at a;subst a;refine⟨O,N,λc t A=>?_⟩;rcases d with h|h
   ·exact t (j.inj c 0 _ A h)
   ·have:=(j.lt c _ A).2.1;omega)
  (λk a=>by
   simp only[k9] at a;subst a;rcases d with h|h
   ·exact .inl h
   ·exact .inr (by omega)) e p R S T
  (BR.els G n Y (by rintro⟨_,h⟩;exact D h) t Z) rfl
 rw[a] at U V;refine⟨_,u,U.lift u,V,?_,λc t=>?_,?_,λb X v=>?_⟩
 ·refine .fl 0 g z E 1 l'.length cap rfl (λ_ h=>D (x3.1 h)) G B hm ?_;simp only[aa6,n,L,s9]
 ·simp only[PV.nms,List.mem_singleton] at t;subst t;simp
 ·refine J.mono s f.St u w f.St w' K (λ_ h=>h) (λk a Q=>(J.foot _ _ _ _ K k Q).2 a) (λk a=>Nat.lt_of_lt_of_le (j.stlt k a) p) (λk a=>?_) p R S T;rcases a with a|a
  ·exact e k (j.stlt k a) (λh=>(j.lt 0 k h).2.2 a)
  ·exact e k (J.foot _ _ _ _ K k a).1 (λh=>M 0 k h a)
 ·simp only[Ctx.re] at v;split at v
  ·simp only[k9] at v;subst v;rcases d with h|h
   ·exact M 0 _ h
   ·intro Q;have:=(J.foot _ _ _ _ K _ Q).1;omega
  ·exact M b X v
theorem X6{w:World}{g o e:Nat}{vs:List Value}{a:Array Value}(c:w.heap[g]? = some (.cells a e (0,0)))(f:o+vs.length<=a.size)(l:∀v∈vs,v.oneCell'=true) :
  (w.setCells g o vs).heap[g]? = some (.cells (F4 a.toList o vs).toArray e (0,0))/\(∀k,k≠g->(w.setCells g o vs).heap[k]? = w.heap[k]?)/\(w.setCells g o vs).heap.size=w.heap.size/\(w.setCells g o vs).os=w.os/\(w.setCells g o vs).tape=w.tape/\(w.setCells g o vs).output=w.output:=by
 obtain⟨w',i,m,n,p,q,t,u,_⟩:=I1 (P:=a7) (o:=o) c f l;have b:∀j,j<vs.length->∃v,w.cell? ⟨g,o+0+j,none⟩=some v:=λj d=>by
  refine⟨a[o+j]'(by omega),?_⟩;simp[ab3,c,y9 (show o+j<a.size by omega)]
 have r:=run_storeCells_cells (P:=a7) g o vs 0 w (λj d=>by obtain⟨v,h⟩:=b j d;rw[h];rfl) (λj d=>by simp[aa4,c]) l;rw[r] at i;simp only[ae4,Result.ok.injEq,true_and] at i;rw[i];exact⟨m,n,p,q,t,u⟩
theorem Wb{St:Nat->Prop}{w:World}{l:LL}{d:List Value}{i:Nat}{n:Int}(h:Els St w 1 l d)(q:i<=l.length):Els St w 1 (Ga l i n) (d.take i++j5 .i64 n::d.drop i):=by
 have c:=h.1;rw[s9] at c;have m:Els St w 1 (l.take i) (d.take i):=by
  refine⟨by rw[j3,j3,c,s9],λj f=>?_⟩;rw[j3] at f;rw[List.getElem_take];obtain⟨a,b⟩:=h.2 j (by omega);refine⟨a,λk g=>?_⟩;obtain⟨U,e,v⟩:=b k g;exact⟨U,by rw[p5 (by omega)];exact e,v⟩
 have o:Els St w 1 [[SV.int .i64 n]] [j5 .i64 n]:=by
  refine⟨rfl,λj f=>?_⟩;have:j=0:=by simpa using f
  subst this;refine⟨rfl,λk g=>?_⟩;have:k=0:=by simpa using g
  subst this;exact⟨_,rfl,.int _ _⟩
 have p:Els St w 1 (l.drop i) (d.drop i):=by
  refine⟨by rw[j2,j2,c,s9],λj f=>?_⟩;rw[j2] at f;rw[List.getElem_drop];obtain⟨a,b⟩:=h.2 (i+j) (by omega);refine⟨a,λk g=>?_⟩;obtain⟨U,e,v⟩:=b k g;exact⟨U,by rw[List.getElem?_drop];rw[show i+(j*1+k)=(i+j)*1+k by omega];exact e,v⟩
 have:=(m.append o).append p;unfold Ga;simpa using this
theorem Wc(l:LL)(i:Nat)(n:Int)(h:i<=l.length):(Ga l i n).length=l.length+1:=by unfold Ga;rw[j0,o0,j3,j2];omega
theorem FG(l:LL)(i:Nat)(n:Int):Ga l i n≠[]:=by unfold Ga;simp
theorem Bl1:Jz a7 GX 159 DT:=by
 intro C hP hG σ I yh yv hI hy args H s ret Hc G Γ Φ w Vs g0 hH hg hi hd hc hn;unfold DT at G;split at G
 ·rename_i i z l d;obtain⟨h0,G⟩:=D5 G;obtain⟨h1,G⟩:=D5 G;obtain⟨rfl,rfl⟩:=I7 G;obtain⟨i0,i1⟩:=K7.1 h0;obtain⟨i,rfl⟩:=p7 i0;have hl:=Nat.le_of_ble_eq_true h1;have X:i<=l.length:=by
   have:(i:Int)<((l.length+1:Nat):Int):=i1;omega
  obtain⟨S,X0,V,rfl,hs,hx,hv⟩:=hc.arr3;obtain rfl:=hx.inv_int;have c0:Fw C 3=false:=by
   unfold Fw Cfg.sh;rw[hP];kernel_rfl
  obtain⟨g1,d0,n1,n2,n3,n4,n5⟩:=hH.arr' (b:=1) rfl (by simp);have f4:∃cap,V = .slice (some ⟨g1,0,none⟩) 1 cap:=by
   cases hv with
   | flv _ e sz h=>simp[A0,Blk.shp] at h
   | fl _ g v e sz n cap h e7 y R hm e5=>
    rw[n1] at y;simp only[k9] at y;subst y;simp only[A0,w9,s7,aa8,Blk.shp,k9,Shp.arr.injEq] at h;obtain⟨_,_,_,h4⟩:=h;subst h4;exact⟨cap,rfl⟩
  obtain⟨A,rfl⟩:=f4;obtain⟨V1,p1,p2⟩:=n5 0 (by simp) 0 (by simp);have p3:V1 = .int .i64 d:=by cases p2;rfl
  subst p3;have t:∀j v,[j5 .i64 d][j]? = some v->w.cell? ⟨g1,0+j,none⟩=some v:=by
   intro j v x;have:j=0:=by
    have:=(z7.1 x).1;simpa using this
   subst this;simp only[s7,k9] at x;subst x;simpa[ab3,n2] using p1
  have M:∀v∈[j5 .i64 d],v.oneCell'=true:=by simp[Value.oneCell']
  rw[b8];refine Kj (fn:=Tryz.f159) (by kernel_rfl) (by kernel_rfl) (by kernel_rfl) ?_;have B:∀(base:Option Addr) (c:Nat) (f:List Value),l.length<=c->c<l.length+1->f.length=l.length->(base=none->l.length=0)->(∀a,base=some a->∀j v,f[j]? = some v->w.cell? (a.add j)=some v)->Els Γ.St w 1 l f->
    Calls a7 159 #[.slice base l.length c,.int .i64 (l.length:Int),.slice (some ⟨g1,0,none⟩) 1 A] w λe w'=>∃V,e = .returned V/\V9 C I Γ [.arr z 3 1 l,.arr false 3 1 [[SV.int .i64 d]]] w Φ (.fl 0) [.arr z 3 1 (Ga l l.length d),.arr false 3 1 [[SV.int .i64 d]]] s V w':=by
   intro base c f a1 a2 a3 a4 a5 a6;refine(Any2.slices_Insert_int_end_grow Tryz.lays2_21 base l.length c g1 0 1 A f [.int .i64 d] w (by omega) a1 a2 (by omega) a3 rfl a4 a5 t M).mono ?_;rintro e w' ⟨rfl,rfl⟩;refine⟨_,rfl,?_⟩;obtain⟨T,b7⟩:=Dl (w:=w) (need:=l.length+1) (cap:=c) (e:=3) (by omega);have hE:=Wb (n:=d) a6 (ac9 l.length);have d8:f.take l.length++j5 .i64 d::f.drop l.length=f++[j5 .i64 d]:=by
    rw[x6 (by omega),b9 (by omega)]
   rw[d8] at hE;have r:=Wc l l.length d (ac9 _);obtain⟨r1,r2⟩:=Qb (olds:=f) (Vs:=[j5 .i64 d]) (z:=(j5 .i64 0).cells) (k:=grownCap w (l.length+1) c 3) (n:=l.length) (m:=1) (size:=1) rfl (by omega) rfl T;have c7:(f.toArray++[j5 .i64 d].toArray)=(f++[j5 .i64 d]).toArray:=by simp
   rw[c7] at r1 r2;have key:∀(row:Array Value) (O:Nat),row.size=O->(∀q,q<(f++[j5 .i64 d]).length->row[q]? = (f++[j5 .i64 d])[q]?)->l.length+1<=O->O<=maxLen->
     V9 C I Γ [.arr z 3 1 l,.arr false 3 1 [[SV.int .i64 d]]] w Φ (.fl 0) [.arr z 3 1 (Ga l l.length d),.arr false 3 1 [[SV.int .i64 d]]] s (.slice (some ⟨w.heap.size,0,none⟩) (l.length+1) O) (w.drew.alloc (.cells row 3)):=by
    intro row O b1 b2 b3 b4;have D:(w.drew.alloc (.cells row 3)).heap=w.heap.push (.cells row 3):=rfl;have:=Xr (C:=C) (w':=w.drew.alloc (.cells row 3)) (l':=Ga l l.length d) hI w.heap.size O (f++[j5 .i64 d]) row c0 hH hi hd (.inr rfl) (by rw[D];simp) (λk N _=>E1 D N) (by rw[D];simp) rfl rfl rfl (E0 D) (hE.mono (λg hg=>E1 D (hH.stlt g hg)) (λ_ h=>h)) (FG _ _ _) b2 (by rw[b1,j0,c9];omega) (by rw[r];exact b3) b4 b1;rw[r] at this;exact this
   exact key _ _ (r1.trans (s9 _)) r2 T b7
  have f8:∀(row:Array Value) (f:List Value),f.length=l.length->i<l.length->l.length+1<=row.size->(∀q,q<i->row[q]? = f[q]?)->
    ∀q,q<(f.take i++j5 .i64 d::f.drop i).length->(F4 (F4 row.toList i [j5 .i64 d]) (i+1) (f.drop i)).toArray[q]? = (f.take i++j5 .i64 d::f.drop i)[q]?:=by
   intro row f a1 a2 a3 a4 q hq;have f2:q<l.length+1:=by
    rw[j0,o0,j3,j2] at hq;omega
   have ht:(f.take i).length=i:=by rw[j3];omega
   have Y:row.toList.length=row.size:=s6;simp only[u0];rw[J5 _ _ _ (by rw[C6,j2,Y];omega),J5 _ _ _ (by rw[c9,Y];omega)];by_cases h1:q<i
   ·rw[V2,V2,u5 (by omega),p5 h1];simpa using a4 q h1
   ·by_cases h2:q=i
    ·subst h2;rw[V2,if_pos (by rw[c9];omega),o7 (by omega),ht,ae7];rfl
    ·rw[if_pos (by rw[j2];omega),o7 (by omega),ht,show q-i=(q-(i+1))+1 by omega,w9]
  have P:∀(g c:Nat) (f:List Value),i<l.length->l.length<=c->c<l.length+1->f.length=l.length->(∀j v,f[j]? = some v->w.cell? ⟨g,0+j,none⟩=some v)->(∀v∈f,v.oneCell'=true)->Els Γ.St w 1 l f->
    Calls a7 159 #[.slice (some ⟨g,0,none⟩) l.length c,.int .i64 (i:Int),.slice (some ⟨g1,0,none⟩) 1 A] w λe w'=>∃V,e = .returned V/\V9 C I Γ [.arr z 3 1 l,.arr false 3 1 [[SV.int .i64 d]]] w Φ (.fl 0) [.arr z 3 1 (Ga l i d),.arr false 3 1 [[SV.int .i64 d]]] s V w':=by
   intro g c f W a1 a2 a3 a4 a5 a6;refine(Any2.slices_Insert_int_grow Tryz.lays2_21 g 0 l.length c i g1 0 1 A f [.int .i64 d] w W (by omega) a1 a2 (by omega) a3 rfl a4 t a5 M).mono ?_;rintro e w' ⟨rfl,rfl⟩;refine⟨_,rfl,?_⟩;obtain⟨T,b7⟩:=Dl (w:=w) (need:=l.length+1) (cap:=c) (e:=3) (by omega);have hE:=Wb (n:=d) a6 X;have r:=Wc l i d X;have key:∀(row:Array Value) (O:Nat),row.size=O->(∀q,q<i->row[q]? = f[q]?)->l.length+1<=O->O<=maxLen->
     V9 C I Γ [.arr z 3 1 l,.arr false 3 1 [[SV.int .i64 d]]] w Φ (.fl 0) [.arr z 3 1 (Ga l i d),.arr false 3 1 [[SV.int .i64 d]]] s (.slice (some ⟨w.heap.size,0,none⟩) (l.length+1) O) (((w.alloc (.cells row 3)).drew.setCells w.heap.size i [j5 .i64 d]).drew.setCells w.heap.size (i+1) (f.drop i)):=by
    intro row O b1 b2 b3 b4;have D:(w.alloc (.cells row 3)).drew.heap=w.heap.push (.cells row 3):=rfl;obtain⟨c1,c2,c3,c4,c5,c6⟩:=X6 (w:=(w.alloc (.cells row 3)).drew) (o:=i) (vs:=[j5 .i64 d]) (E0 D) (by rw[c9];omega) M;generalize f5:(w.alloc (.cells row 3)).drew.setCells w.heap.size i [j5 .i64 d]=w1 at *;have Q:(F4 row.toList i [j5 .i64 d]).toArray.size=O:=by rw[o5,C6];simpa using b1
    obtain⟨d1,d2,d3,d4,d5,d6⟩:=X6 (w:=w1.drew) (o:=i+1) (vs:=f.drop i) c1 (by rw[Q,j2];omega) (λv hv=>a5 v (ab1 hv));have b0:∀k,k<w.heap.size->(w1.drew.setCells w.heap.size (i+1) (f.drop i)).heap[k]? = w.heap[k]?:=λk N=>by
     rw[d2 k (by omega)];exact(c2 k (by omega)).trans (E1 D N)
    have e6:(w1.drew.setCells w.heap.size (i+1) (f.drop i)).heap.size=w.heap.size+1:=by
     rw[d3];show w1.heap.size=_;rw[c3,D];simp
    have:=Xr (C:=C) (w':=w1.drew.setCells w.heap.size (i+1) (f.drop i)) (l':=Ga l i d) hI w.heap.size O (f.take i++j5 .i64 d::f.drop i) _ c0 hH hi hd (.inr rfl) (by rw[e6];omega) (λk N _=>b0 k N) (by rw[e6];omega) (d4.trans c4) (d5.trans c5) (d6.trans c6) d1 (hE.mono (λg hg=>b0 g (hH.stlt g hg)) (λ_ h=>h)) (FG _ _ _) (f8 row f a3 W (by omega) b2) (by rw[o5,C6,j0,o0,j3,j2];simp only[o5,C6] at Q ⊢;omega) (by rw[r];exact b3) b4 (by rw[o5,C6];simpa using Q);rw[r] at this;exact this
   have f6:(j5 .i64 0).cells.size=1:=rfl;have ht:(f.take i).length=i:=by rw[j3];omega
   refine key _ _ ?_ (λq hq=>?_) T b7
   ·simp only[ac0,o5,size_zeroCells,f6,s9,ht];have:l.length+1<=grownCap w (l.length+1) c 3:=T;show i+(l.length+1-i)+(grownCap w (l.length+1) c 3-(l.length+1))=grownCap w (l.length+1) c 3;omega
   ·rw[y8 (by simp only[ac0,o5,ht];omega),y8 (by simp only[o5,ht];omega),u0,p5 hq]
  have e8:∀(row:Array Value) (f:List Value),f.length=l.length->i<l.length->l.length+1<=row.size->(∀q,q<i->row[q]? = f[q]?)->
    ∀q,q<(f.take i++j5 .i64 d::f.drop i).length->(F4 (F4 row.toList (i+1) (f.drop i)) i [j5 .i64 d]).toArray[q]? = (f.take i++j5 .i64 d::f.drop i)[q]?:=by
   intro row f a1 a2 a3 a4 q hq;have f2:q<l.length+1:=by
    rw[j0,o0,j3,j2] at hq;omega
   have ht:(f.take i).length=i:=by rw[j3];omega
   have Y:row.toList.length=row.size:=s6;simp only[u0];rw[J5 _ _ _ (by rw[C6,c9,Y];omega),J5 _ _ _ (by rw[j2,Y];omega)];by_cases h1:q<i
   ·rw[V2,V2,u5 (by omega),p5 h1];simpa using a4 q h1
   ·by_cases h2:q=i
    ·subst h2;rw[if_pos (by rw[c9];omega),o7 (by omega),ht,ae7];rfl
    ·rw[if_neg (by rw[c9];omega),if_pos (by rw[j2];omega),o7 (by omega),ht,show q-i=(q-(i+1))+1 by omega,w9]
  cases hs with
  | flv _ e2 f7 h'=>
   simp only[A0,s7,aa8,Blk.shp,k9,Shp.arr.injEq] at h';obtain⟨q1,q2,q3,h4⟩:=h';obtain rfl:=x3.1 h4;obtain rfl:i=0:=by simpa using X
   exact B none 0 [] (by simp) (by simp) rfl (λ_=>rfl) (λa h=>by cases h) ⟨rfl,λj x=>by simp at x⟩
  | fl _ g z' e2 f7 n' cap h' e7 y R hm e5=>
   simp only[A0,s7,aa8,Blk.shp,k9,Shp.arr.injEq] at h';obtain⟨rfl,rfl,rfl,rfl⟩:=h';have f1:¬(z=true/\l=[]):=by rintro⟨q1,q2⟩;exact e7 q1 (by rw[q2];rfl)
   obtain⟨g',p,e0,hh,c8,K,d9⟩:=hH.arr' (b:=0) rfl f1;obtain rfl:g=g':=by
    rw[y] at e0;exact w6 e0
   have d7:p.size=cap:=by
    have:=e5;simp only[aa6,hh,k9,ab8,true_and,s9] at this;exact this
   rw[s9] at c8;have hO:Els Γ.St w 1 l (p.toList.take l.length):=by
    refine⟨by rw[j3,s6 (xs:=p)];omega,λj x=>⟨K j x,λk N=>?_⟩⟩;obtain⟨U,e1,u⟩:=d9 j x k N;refine⟨U,?_,u⟩;have f9:k<1:=by rw[<-K j x];exact N
    rw[w8,Kc];simpa using e1
   have F:(p.toList.take l.length).length=l.length:=by rw[j3,s6 (xs:=p)];omega
   have J:∀j v,(p.toList.take l.length)[j]? = some v->w.cell? ⟨g,0+j,none⟩=some v:=by
    intro j v x;have a0:j<l.length:=by
     have:=(z7.1 x).1;omega
    rw[w8,if_pos a0] at x;simpa[ab3,hh] using x
   have b5:∀v∈p.toList.take l.length,v.oneCell'=true:=by
    intro v hv;obtain⟨j,x,rfl⟩:=List.getElem_of_mem hv;have a0:j<l.length:=by omega
    obtain⟨_,u⟩:=hO.2 j a0;obtain⟨U,e1,u2⟩:=u 0 (by rw[K j a0];exact Nat.one_pos);rw[s9,ae4,p4 x] at e1;cases e1;exact u2.oneCell
   have r:=Wc l i d X;have hE:=Wb (n:=d) hO X;have Z:∀j,j<cap->(w.cell? ⟨g,j,none⟩).isSome=true:=by
    intro j x;simp only[ab3,hh];rw[y9 (by omega)];rfl
   have a9:∀j,w.frozen? ⟨g,j,none⟩=false:=λj=>by simp[aa4,hh]
   have e4:g1≠g:=λe=>by
    have:=hH.inj 1 0 g (by rw[<-e];exact n1) y;omega
   have e3:cap<=9223372036854775807:=by
    simp only[maxLen] at hm;omega
   by_cases L:l.length+1<=cap
   ·have key:∀(w':World) (row:List Value),w'.heap[g]? = some (.cells row.toArray 3 (0,0))->(∀k,k≠g->w'.heap[k]? = w.heap[k]?)->w'.heap.size=w.heap.size->w'.os=w.os->w'.tape=w.tape->w'.output=w.output->row.length=cap->
      (∀q,q<((p.toList.take l.length).take i++j5 .i64 d::(p.toList.take l.length).drop i).length->row.toArray[q]? = ((p.toList.take l.length).take i++j5 .i64 d::(p.toList.take l.length).drop i)[q]?)->
      V9 C I Γ [.arr z 3 1 l,.arr false 3 1 [[SV.int .i64 d]]] w Φ (.fl 0) [.arr z 3 1 (Ga l i d),.arr false 3 1 [[SV.int .i64 d]]] s (.slice (some ⟨g,0,none⟩) (l.length+1) cap) w':=by
     intro w' row k1 k2 k3 k4 k5 k6 k7 k8;have e9:¬ Γ.St g:=(hH.lt 0 g y).2.2;have:=Xr (C:=C) (w':=w') (l':=Ga l i d) hI g cap ((p.toList.take l.length).take i++j5 .i64 d::(p.toList.take l.length).drop i) row.toArray c0 hH hi hd (.inl y) (by rw[k3];exact(hH.lt 0 g y).2.1) (λk N f0=>k2 k (λe=>f0 (e▸y))) (by omega) k4 k5 k6 k1
      (hE.mono (λk N=>k2 k (λe=>e9 (e▸N))) (λ_ h=>h)) (FG _ _ _) k8
      (by rw[o5,k7,j0,o0,j3,j2,F];omega) (by rw[r];exact L) hm (by rw[o5,k7])
     rw[r] at this;exact this
    by_cases b6:i=l.length
    ·subst b6;refine(Any2.slices_Insert_int_end_room Tryz.lays2_21 g 0 l.length cap g1 0 1 A [.int .i64 d] w (by omega) L e3 rfl (λj x=>Z _ (by omega)) (λj x=>a9 _) t M).mono ?_;rintro e w' ⟨rfl,rfl⟩;refine⟨_,rfl,?_⟩;obtain⟨c1,c2,c3,c4,c5,c6⟩:=X6 (w:=w) (o:=0+l.length) (vs:=[j5 .i64 d]) hh (by rw[c9];omega) M;refine key _ _ c1 c2 c3 c4 c5 c6 (by rw[C6];simpa using d7) (λq hq=>?_);rw[x6 (by omega),b9 (by omega)] at hq ⊢;rw[j0,F,c9] at hq;simp only[u0];rw[J5 _ _ _ (by rw[c9,s6 (xs:=p)];omega)];by_cases f3:q<l.length
     ·rw[V2,u5 (by omega),w8,if_pos f3]
     ·obtain rfl:q=l.length:=by omega
      rw[if_pos (by rw[c9];omega),o7 (by omega),F];simp
    ·have W:i<l.length:=by omega
     refine(Any2.slices_Insert_int_shift Tryz.lays2_21 g 0 l.length cap i g1 0 1 A (p.toList.take l.length) [.int .i64 d] w W (by omega) L e3 e4 F rfl J (λj x=>Z _ (by omega)) (λj x=>a9 _) t b5 M 3 3 d0.size p.size (by simp[aa6,n2]) (by simp[aa6,hh]) (by omega) (by simp[aa4,n2]) (by simp[aa4,n2])).mono ?_;rintro e w' ⟨rfl,rfl⟩;refine⟨_,rfl,?_⟩;obtain⟨c1,c2,c3,c4,c5,c6⟩:=X6 (w:=w.drew) (o:=0+(i+1)) (vs:=(p.toList.take l.length).drop i) hh (by rw[j2,F];omega) (λv hv=>b5 v (ab1 hv));generalize f5:w.drew.setCells g (0+(i+1)) ((p.toList.take l.length).drop i)=w1 at *;have Q:(F4 p.toList (0+(i+1)) ((p.toList.take l.length).drop i)).toArray.size=cap:=by rw[o5,C6];simpa using d7
     obtain⟨d1,d2,d3,d4,d5,d6⟩:=X6 (w:=w1) (o:=0+i) (vs:=[j5 .i64 d]) c1 (by rw[Q,c9];omega) M;refine key _ _ d1 (λk N=>(d2 k N).trans (c2 k N)) (d3.trans c3) (d4.trans c4) (d5.trans c5) (d6.trans c6) (by rw[C6];simpa using Q) ?_;rw[ae9,ae9];exact e8 p _ F W (by omega) (λq hq=>by rw[w8,Kc];simp)
   ·by_cases b6:i=l.length
    ·subst b6;exact B (some ⟨g,0,none⟩) cap (p.toList.take l.length) R (by omega) F (λh=>by cases h) (λa h j v x=>by
      obtain rfl:=w6 h;rw[I9];exact J j v x) hO
    ·exact P g cap _ (by omega) R (by omega) F J b5 hO
 ·cases G
end
section
open Go Go.Proofs
set_option maxRecDepth 100000
section
theorem A80:Jz a7 GX 138 Sp:=by
 refine S9 (C₀:=EH LF) (Gu (lx:=[(141,Hk),(139,Hl)]) (ly:=[(158,CC),(159,DT)]) (ls:=[]) rfl rfl rfl ⟨MF,MG,trivial⟩ ⟨Bk8,Bl1,trivial⟩ trivial) (D4 rfl (by kernel_rfl)) follows ?_;intro args H ret o h;unfold Sp at h;split at h
 ·rename_i a n i b c z l;obtain⟨d,h⟩:=D5 h;obtain⟨f,h⟩:=D5 h;obtain⟨g,h⟩:=D5 h;obtain⟨j,h⟩:=D5 h;obtain⟨k,h⟩:=D5 h;obtain⟨rfl,rfl⟩:=I7 h;refine⟨rfl,rfl,λp m s=>?_⟩;have e:=(Aj3 LF m s 0 a n i b c z l).trans (OT a n i b c z l d f g j k);exact⟨1,_,e,rfl⟩
 ·cases h
theorem Bj4:A9 a7 GX 116 Af0:=by
 refine A9.fix (pf:=CY) _ (Q0 [1,0] (C₀:=T1 LF) (Gu (lx:=[(43,Lz)]) (ly:=[(138,Sp)]) (ls:=[]) rfl rfl rfl ⟨HD,trivial⟩ ⟨A80,trivial⟩ trivial) (D4 rfl (by kernel_rfl)) follows ?_);intro args ret f h;unfold CY at h;split at h
 ·rename_i s;obtain⟨b,h⟩:=D5 h;obtain⟨rfl,rfl⟩:=I7 h;obtain⟨e,c,a,d⟩:=A03 s b;exact⟨rfl,rfl,rfl,1,e,c,(A02 LF noY () 0 s).trans a,d⟩
 ·cases h
end
end
section
open Go Go.Proofs Go.Sort
set_option maxRecDepth 100000
theorem As8:A9 a7 GX 148 HT:=by
 refine A9.fix (pf:=Pb) _ (M5 (fn:=Tryz.f148) (by kernel_rfl) (by kernel_rfl) (by kernel_rfl) ?_);intro args ret l h;unfold Pb at h;split at h
 ·rename_i s;obtain⟨b,h⟩:=D5 h;obtain⟨rfl,rfl⟩:=I7 h;refine⟨rfl,rfl,λC n a o w m c g f=>?_⟩;obtain⟨U,rfl,j⟩:=f.arr1;obtain⟨k,rfl,rfl⟩:=j.inv_str;have i:=N6 b;refine(Any.utf8_ValidString Tryz.lays196 k w (by simp at i;omega) (Aw1 c a)).mono ?_;rintro e w' ⟨rfl,d⟩;rw[<-UH];exact⟨_,rfl,d,VP.mk_bool _⟩
 ·cases h
theorem As7:A9 a7 GX 149 HS:=by
 refine A9.fix (pf:=Pa) _ (M5 (fn:=Tryz.f149) (by kernel_rfl) (by kernel_rfl) (by kernel_rfl) ?_);intro args ret j h;unfold Pa at h;split at h
 ·rename_i s;obtain⟨a,h⟩:=D5 h;obtain⟨rfl,rfl⟩:=I7 h;refine⟨rfl,rfl,λC m b n w k l d c=>?_⟩;obtain⟨U,rfl,g⟩:=c.arr1;obtain⟨i,rfl,rfl⟩:=g.inv_str;have f:=N6 a;refine(Any.utf8_RuneCountInString Tryz.lays195 i w (by simp at f;omega)).mono ?_;rintro e w' ⟨rfl,pos,rfl⟩;rw[Lib.runeCountL_eq];exact⟨_,rfl,NM _ _ _,VP.mk_int _ _⟩
 ·cases h
theorem A65:A9 a7 GX 114 Ly:=λargs ret a h=>by
 have:G5 (Ly args)=none:=by unfold Ly HM;split<;>rfl
 rw[this] at h;cases h
theorem A81:US a7 GX 113 Sq:=by
 refine LE (C₀:=T5 LF) ((G3.ok (l:=[(114,Ly),(115,Uh)]) rfl ⟨A65,UN,trivial⟩)) (D4 rfl (by kernel_rfl)) follows ?_;intro args H L h e a s d c;unfold Sq at h;split at h
 ·rename_i p t n;simp only[k9,ab8] at h;obtain⟨b,rfl⟩:=h;obtain⟨g,f⟩:=TX (R:=PV × List Blk × e) a p t n s d b c;exact⟨1,_,(Ap6 LF a 0 p t n s).trans (f _)⟩
 ·cases h
end
section
open Go Go.Proofs
set_option maxRecDepth 100000
section
theorem A68:A9 a7 GX 91 UV:=xf [] (Fr LF) Tn rfl ⟨Bj4,Ar6,trivial⟩ rfl (by kernel_rfl) follows λargs=>by
 unfold Tn;split
 ·rename_i s;exact λa=>⟨rfl,rfl,rfl,_,_,(Al3 LF noY () 0 s).trans (QB s a),rfl⟩
 ·trivial
theorem Ar5:A9 a7 GX 63 CQ:=xf [] (Lc LF) CS rfl ⟨Bi5,A68,trivial⟩ rfl (by kernel_rfl) follows λargs=>by
 unfold CS;split
 ·rename_i s;exact λa=>⟨rfl,rfl,rfl,_,_,(Ay5 LF noY () 0 s).trans (ZC s a),rfl⟩
 ·trivial
theorem Bi9:A9 a7 GX 129 Ae4:=xf [0,0] (Hu LF) CL rfl ⟨As8,As7,Ya,Ar6,Ar5,trivial⟩ rfl (by kernel_rfl) follows λargs=>by
 unfold CL;split
 ·rename_i s;exact λb=>(let⟨e,c,a,d⟩:=Ax4 s b;⟨rfl,rfl,rfl,e,c,(Ax3 LF noY () 0 s).trans a,d⟩)
 ·trivial
theorem Bi7:A9 a7 GX 147 Ae2:=xf [] (Ed LF) CE rfl trivial rfl (by kernel_rfl) follows λargs=>by
 unfold CE;split
 ·rename_i b;exact λa=>⟨rfl,rfl,rfl,_,_,(Aw5 LF noY () 0 b).trans (YE b a),rfl⟩
 ·trivial
theorem Bi6:A9 a7 GX 127 Ae1:=xf [0,0] (Kz LF) CD rfl ⟨Bi7,trivial⟩ rfl (by kernel_rfl) follows λargs=>by
 unfold CD;split
 ·rename_i s;exact λb=>(let⟨e,c,a,d⟩:=Aw3 s b;⟨rfl,rfl,rfl,e,c,(Aw2 LF noY () 0 s).trans a,d⟩)
 ·trivial
theorem A69:A9 a7 GX 90 CO:=by
 refine A9.fix (pf:=To) _ (S8 (C₀:=EK LF) (G3.ok (l:=[]) rfl trivial) (D4 rfl (by kernel_rfl)) follows ?_);intro args ret a h;unfold To at h;split at h
 ·rename_i t p n;obtain⟨rfl,rfl⟩:=I7 h;have e:=(Al5 LF noY () 0 t p n).trans (QC t p n );exact⟨rfl,1,_,[],e,rfl,rfl⟩
 ·cases h
theorem Bk6:A9 a7 GX 62 NE:=by
 refine A9.fix (pf:=DU) _ (S8 (C₀:=OE LF) (G3.ok (l:=[(90,CO)]) rfl ⟨A69,trivial⟩) (D4 rfl (by kernel_rfl)) follows ?_);intro args ret a h;unfold DU at h;split at h
 ·rename_i t p;obtain⟨rfl,rfl⟩:=I7 h;have e:=(A43 LF noY () 0 t p).trans (Ab9 t p );exact⟨rfl,1,_,[],e,rfl,rfl⟩
 ·cases h
theorem Bp4:A9 a7 GX 42 A94:=by
 refine A9.fix (pf:=MN) _ (Q0 [] (C₀:=Ht LF) (Gu (lx:=[(61,It),(62,NE),(63,CQ)]) (ly:=[]) (ls:=[(113,Sq)]) rfl rfl rfl ⟨BX,Bk6,Ar5,trivial⟩ trivial ⟨A81,trivial⟩) (D4 rfl (by kernel_rfl)) follows ?_);intro args ret f h;unfold MN at h;split at h
 ·rename_i s;obtain⟨b,h⟩:=D5 h;obtain⟨rfl,rfl⟩:=I7 h;obtain⟨e,c,a,d⟩:=Bf6 s b;exact⟨rfl,rfl,rfl,1,e,c,(Bf5 LF noY () 0 s).trans a,d⟩
 ·cases h
end
section
variable {W R : Type} (L : Nat) (Q : E2) (Y : Yh W) (s : W) (k : Out -> St W -> Option R)
noncomputable def Uy(L:Nat):Cfg:=C3 L [165] (A4 []) [] (A4 [(1,[2]),(0,[0])]) [] (A4 []) (some [2]) [] [] []
noncomputable def GR{R:Type}(L:Nat)(n0:Int)(a:Bool->Option R):Option R:=cond (not (ltI n0 0)) (cond (not (ltI 1114111 n0)) (cond (ltI n0 55296) (a true) (a (ltI 57343 n0))) (a false)) (a false)
theorem Aa8(d:Nat)(n0):evC (Uy L) (d+1) W Y 165 [pI n0] [] s=GR L n0 (λa=>some (pB a,[],s)):=by refine(evE (fn:=Tryz.f165) (by kernel_rfl)).trans ?_;generalize evC (Uy L) d=Q;unfold GR;kernel_rfl
noncomputable abbrev Hr:Code:=F0 ac8
noncomputable def Q6(L:Nat):Cfg:=C3 L [164] (A4 [(6,[0,5,0])]) [] (A4 [(9,[6]),(8,[0,6]),(7,[0,6]),(6,[0,6,11]),(5,[0,6]),(4,[0]),(2,[0,0]),(3,[0,0]),(1,[0,0,6]),(0,[0,0,0])]) [] (A4 [(0,[0,6]),(1,[0,6])]) (some [6]) [] [] []
noncomputable def Cg{R:Type}(L n:Nat)(a b:Int)(e:Int->Int->Option R):Option R:=match n with|0=>none|n+1=>cond (ltI 455 a) (vl (A2 (r9 a (35:Int))) λc=>vl (A2 (b+36)) λd=>Cg L n c d e) (e a b)
theorem GG(n a b):E7 0 ((Q6 L).keep 6) (bd (Q6 L) Q Y (cd [1,1,1,1,0,0,0] Hr)) n ⟨gp [(0,pI a),(6,pI b)] 23,[],s⟩ k =
 Cg L n a b (λa b=>k (.exit 0) ⟨gp [(0,pI a),(6,pI b)] 23,[],s⟩):=by
 induction n generalizing a b with
 | zero=>rfl
 | succ n c=>rw[Cg];simp only[<-c];kernel_rfl
noncomputable def Cf{R:Type}(L:Nat)(b h:Int)(i:Int->Option R):Option R:=cond (h !=0) (vl (A2 (r9 b h)) λg=>Cg L L (A2 (b+g)) 0 (λa d=>vl (A2 ((36:Int)*a)) λe=>vl (A2 (a+38)) λc=>cond (c !=0) (vl (A2 (r9 e c)) λf=>i (A2 (d+f))) none)) none
abbrev Rt(b:Code):Prop:=∀(k:Out->St W->Option R) delta0 n1,B8 (Q6 L) Q Y b ⟨gp [(0,pI delta0),(0,pI n1)] 29,[],s⟩ k=Cf L delta0 n1 (λn0=>k .ret ⟨gp [(6,pI n0)] 24,[],s⟩)
theorem GF:Rt (R:=R) L Q Y s (cd [1,1] Hr):=by intro k a c;unfold Cf;exact(j4 (by kernel_rfl) (A1 (B5 λb=>((GG L Q Y s (I2 0 (I8 (Q6 L) Q Y (cd [1,1,1,1,1] Hr) k)) L (A2 (a+b)) 0).trans (by kernel_rfl))) rfl))
noncomputable def Xd{R:Type}(L:Nat)(a h:Int)(b:Bool)(g:Int->Option R):Option R:=cond b (vl (A2 (r9 a (700:Int))) λe=>Cf L e h (λc=>g c)) (vl (A2 (r9 a (2:Int))) λf=>Cf L f h (λd=>g d))
theorem ZU(d:Code)(a:Rt (R:=PV × List Blk × W) L Q Y s d)(b e:Int)(c:Bool):B8 (Q6 L) Q Y (cd [] (X3 [1,1] d Hr)) ⟨[pI b,pI e,pB c]++tps 28,[],s⟩ (J6 (Q6 L) ac8)=Xd L b e c (λi=>some (pI i,[],s)):=by unfold Xd;exact let h:=(J6 (Q6 L) ac8);(j4 (by kernel_rfl) (A1 (B5 λf=>((a h f e).trans (by kernel_rfl))) (B5 λg=>((a h g e).trans (by kernel_rfl)))))
theorem ZV(d:Nat)(delta0 n1 first2):evC (Q6 L) (d+1) W Y 164 [pI delta0,pI n1,pB first2] [] s=Xd L delta0 n1 first2 (λa=>some (pI a,[],s)):=
 (evE (fn:=ac8) (by kernel_rfl)).trans (j4 (by kernel_rfl) (ZU L (evC (Q6 L) d) Y s (cd [1,1] Hr) (GF L (evC (Q6 L) d) Y s) delta0 n1 first2))
noncomputable def OB(L:Nat):Cfg:=C3 L [163] (A4 []) [] (A4 [(1,[4]),(0,[0,0])]) [] (A4 []) (some [4]) [] [] []
noncomputable def A32{R:Type}(L:Nat)(c a:Int)(e:Int->Option R):Option R:=vl (A2 ((36:Int)*(A2 (c+1)))) λb=>vl (if ((if ((A2 (b-a))<(26:Int)) then (A2 (b-a)) else (26:Int)) > (1:Int)) then (if ((A2 (b-a))<(26:Int)) then (A2 (b-a)) else (26:Int)) else (1:Int)) λd=>e d
theorem A33(d:Nat)(kk0 bias1):evC (OB L) (d+1) W Y 163 [pI kk0,pI bias1] [] s=A32 L kk0 bias1 (λa=>some (pI a,[],s)):=by refine(evE (fn:=Tryz.f163) (by kernel_rfl)).trans ?_;generalize evC (OB L) d=Q;unfold A32;kernel_rfl
noncomputable def EP(L:Nat):Cfg:=C3 L [166] (A4 []) [] (A4 [(3,[2]),(2,[2]),(1,[0,3]),(0,[0])]) [] (A4 []) (some [2]) [] [] []
noncomputable def WS{R:Type}(L:Nat)(a:Int)(d:Int->Option R):Option R:=cond (ltI a 26) (vl (wu8 (A2 ((97:Int)+a))) λb=>d b) (vl (A2 ((A2 ((48:Int)+a))-26)) λc=>d (wu8 c))
theorem An4(d:Nat)(d0):evC (EP L) (d+1) W Y 166 [pI d0] [] s=WS L d0 (λa=>some (p8 a,[],s)):=by refine(evE (fn:=Tryz.f166) (by kernel_rfl)).trans ?_;generalize evC (EP L) d=Q;unfold WS;kernel_rfl
noncomputable abbrev Kx:Code:=F0 ac7
noncomputable def Eg(L:Nat):Cfg:=C3 L [162] (A4 []) [] (A4 [(7,[2]),(2,[2]),(4,[2]),(6,[2]),(5,[0,22]),(3,[0,12]),(1,[0,2]),(0,[0])]) [] (A4 [(0,[])]) (some [2]) [] [] []
noncomputable def Nu{R:Type}(a:Int)(g:Bool)(e:Int->Option R)(f:Int->Bool->Option R):Option R:=cond g (vl (A2 (wu8 (a-65))) λb=>e b) (cond (not (ltI a 48)) (cond (not (ltI 57 a)) (vl (A2 (wu8 (a-48))) λc=>vl (A2 (c+26)) λd=>e d) (f a (not (ltI 57 a)))) (f a false))
abbrev BI(b:Code):Prop:=∀(k:Out->St W->Option R) a c,B8 (Eg L) Q Y b ⟨gp [(0,p8 a),(12,pB c)] 20,[],s⟩ k=Nu a c (λn0=>k .ret ⟨gp [(2,pI n0)] 31,[],s⟩) (λa c=>k .normal ⟨gp [(0,p8 a),(22,pB c)] 10,[],s⟩)
theorem TP:BI (R:=R) L Q Y s (cd [1,0,0,1,1,1] Kx):=by intro k a b;unfold Nu;kernel_rfl
noncomputable def Nv{R:Type}(a:Int)(l:Bool)(f:Int->Option R)(j:Int->Bool->Option R):Option R:=cond l (vl (A2 (wu8 (a-97))) λg=>f g) (cond (not (ltI a 65)) (Nu a (not (ltI 90 a)) (λh=>f h) (λb c=>j b c)) (Nu a false (λi=>f i) (λd e=>j d e)))
abbrev Qp(b:Code):Prop:=∀(k:Out->St W->Option R) a c,B8 (Eg L) Q Y b ⟨gp [(0,p8 a),(2,pB c)] 30,[],s⟩ k=Nv a c (λn0=>k .ret ⟨gp [(2,pI n0)] 31,[],s⟩) (λa c=>k .normal ⟨gp [(0,p8 a),(22,pB c)] 10,[],s⟩)
theorem TQ(a:Code)(b:BI (R:=R) L Q Y s a):Qp (R:=R) L Q Y s (cd [1,0,0,1] (X3 [1,0,0,1,1,1] a Kx)):=by intro k c d;unfold Nv;simp only[<-b k];kernel_rfl
theorem TR:Qp (R:=R) L Q Y s (cd [1,0,0,1] Kx):=by intro k a b;exact j4 (by kernel_rfl) (TQ L Q Y s (cd [1,0,0,1,1,1] Kx) (TP L Q Y s) k a b)
noncomputable def Ap1{R:Type}(L:Nat)(c:Int)(d:Int->Option R):Option R:=cond (not (ltI c 97)) (Nv c (not (ltI 122 c)) (λa=>d a) (λe f=>d (-1))) (Nv c false (λb=>d b) (λg h=>d (-1)))
theorem A34(b:Code)(a:Qp (R:=PV × List Blk × W) L Q Y s b)(c:Int):B8 (Eg L) Q Y (cd [] (X3 [1,0,0,1] b Kx)) ⟨[p8 c]++tps 33,[],s⟩ (J6 (Eg L) ac7)=Ap1 L c (λe=>some (pI e,[],s)):=by unfold Ap1;exact let d:=(I2 0 (I8 (Eg L) Q Y (cd [1,1] Kx) (J6 (Eg L) ac7)));(j4 (by kernel_rfl) (A1 ((a d c (not (ltI 122 c))).trans (by kernel_rfl)) ((a d c false).trans (by kernel_rfl))))
theorem A35(d:Nat)(b0):evC (Eg L) (d+1) W Y 162 [p8 b0] [] s=Ap1 L b0 (λa=>some (pI a,[],s)):=
 (evE (fn:=ac7) (by kernel_rfl)).trans (j4 (by kernel_rfl) (A34 L (evC (Eg L) d) Y s (cd [1,0,0,1] Kx) (TR L (evC (Eg L) d) Y s) b0))
noncomputable abbrev W3:Code:=F0 ac6
noncomputable def J4(L:Nat):Cfg:=C3 L [144] (A4 [(32,[0,1,0,0,1,0,0,0,0,2,0,0]),(25,[0,1,0,0,1,0,0,0,0,2]),(18,[0,1,0,0,1,0,0,0,0,0,0]),(15,[0,1,0,0,1,0,0,0,0]),(5,[0,1,0,0,0])]) [(165,Uf),(163,MZ),(166,UZ),(164,Tv)] (A4 [(43,[2,0]),(42,[0,3,1,0,0,0,0]),(41,[0,3,1,0,0,0,0]),(26,[0,3,1,0,0,0,0,2]),(40,[0,3,1,0,0,0,0,2]),(39,[0,3,1,0,0,0,0,2]),(38,[0,3,1,0,0,1,2]),(37,[0,3,1,0,0,0,3]),(36,[0,3,1,0,0,0,0,2,0,0]),(35,[0,3,1,0,0,0,0,2,0,0]),(34,[0,3,1,0,0,0,0,2,0,0,0]),(33,[0,3,1,0,0,0,0,2,0,0,0]),(32,[0,3,1,0,0,0,0,2,0,0,94]),(31,[0,3,1,0,0,0,0,2,0,0]),(30,[0,3,1,0,0,0,0,2,0]),(29,[0,3,1,0,0,0,0,2,90]),(28,[0,3,1,0,0,0,0,2]),(27,[0,3,1,0,0,0,0,2,82]),(25,[0,3,1,0,0,0,0,2,74]),(24,[0,3,1,0,0,0,0,2]),(23,[0,3,1,0,0,0,0]),(22,[0,3,1,0,1,0,0]),(19,[0,3,1,0,0,0,0,0,0]),(21,[0,3,1,0,0,0,0,0,0]),(20,[0,3,1,0,0,0,0,0,0,56]),(18,[0,3,1,0,0,0,0,0,0,48]),(17,[0,3,1,0,0,0,0,0,0]),(16,[0,3,1,0,0,0,0,0]),(15,[0,3,1,0,0,0,0,46]),(14,[0,3,1,0,0,0,0]),(13,[0,3,1,0]),(12,[0,3,1,0,42]),(11,[0,3,1,0]),(6,[0,3,0]),(10,[0,3,0]),(9,[0,3,0,30]),(8,[2,0]),(7,[0,3,0,25]),(5,[0,3,0,17]),(4,[0,3,0]),(3,[0,3]),(2,[2,0]),(1,[0,18]),(0,[0])]) [165,163,166,164] (A4 [(2,[4]),(3,[0,3,1,0,0,0,0]),(6,[0,3,1,0,0,0,0]),(7,[0,3,1,0,0,0,0,2]),(8,[0,3,1,0,0,0,3,0]),(9,[0,3,1,0,0,0,0,2,0,0]),(4,[0,3,1,0,0,0,0,0]),(5,[0,3,1,0,0,0,0,0,0]),(0,[0,3]),(1,[0,3,0])]) (some [2,0]) [] [] []
noncomputable def P2{R:Type}(L n:Nat)(c b:Bool)(a:LL)(d:Int)(e:LL)(f:LL->Option R)(g:Bool->Bool->LL->LL->Option R):Option R:=match n with|0=>none|n+1=>cond (ltI d (a.length:Int)) (cond (inR d a.length) (cond (okE Dd a (a8 d) 0) (vl (gE a (a8 d) 0) λh=>cond (not (ptI h)) (f e) (cond (inR d a.length) (cond (okE Dd a (a8 d) 0) (vl (gE a (a8 d) 0) λi=>cond (ltI i 128) (cond (inR d a.length) (cond (okE Dd a (a8 d) 0) (vl (gE a (a8 d) 0) λj=>cond (G1 (e.length+1)) (P2 L n c b a (A2 (d+1)) (e++[[(SV.int .u8 (wu8 j))]]) f g) none) none) none) (P2 L n c b a (A2 (d+1)) e f g)) none) none)) none) none) (g c b a e)
theorem SH(n b a c i3 l4):E7 1 ((J4 L).keep 5) (bd (J4 L) Q Y (cd [1,1,1,0,1,0,0] W3)) n ⟨gp [(0,.s (.sl b a 1 c)),(3,.fl 0),(0,pI i3)] 148,[.arr true 5 1 l4],s⟩ k =
 P2 L n b a c i3 l4 (λe=>k .ret ⟨gp [(2,pS ([]:List UInt8)),(0,pI (2:Int))] 150,[.arr true 5 1 e],s⟩) (λb a c f=>k (.exit 0) ⟨gp [(0,.s (.sl b a 1 c)),(3,.fl 0)] 149,[.arr true 5 1 f],s⟩):=by
 induction n generalizing b a c i3 l4 with
 | zero=>rfl
 | succ n d=>rw[P2];simp only[<-d];kernel_rfl
noncomputable def Dr{R:Type}(L n:Nat)(c b:Bool)(a:LL)(h e p f g d i:Int)(l:LL)(q:Bool->Bool->LL->Int->Int->Int->Int->Int->Int->LL->Option R):Option R:=match n with|0=>none|n+1=>cond (ltI i (a.length:Int)) (cond (inR i a.length) (cond (okE Dd a (a8 i) 0) (vl (gE a (a8 i) 0) λm=>cond (not (ltI m p)) (cond (inR i a.length) (cond (okE Dd a (a8 i) 0) (vl (gE a (a8 i) 0) λj=>vl (if (j<d) then j else d) λo=>Dr L n c b a h e p f g o (A2 (i+1)) l q) none) none) (Dr L n c b a h e p f g d (A2 (i+1)) l q)) none) none) (q c b a h e p f g d l)
theorem SJ(n b a c h d i e g f i9 l10):E7 1 ((J4 L).keep 18) (bd (J4 L) Q Y (cd [1,1,1,1,1,1,1,0,0,0,1,0,1,0,1,0,0] W3)) n ⟨gp [(0,.s (.sl b a 1 c)),(3,.fl 0),(1,pI h),(0,pI d),(0,pI i),(0,pI e),(0,pI g),(0,pI f),(0,pI i9)] 141,[.arr true 5 1 l10],s⟩ k =
 Dr L n b a c h d i e g f i9 l10 (λb a c h d i e g f l=>k (.exit 4) ⟨gp [(0,.s (.sl b a 1 c)),(3,.fl 0),(1,pI h),(0,pI d),(0,pI i),(0,pI e),(0,pI g),(0,pI f)] 142,[.arr true 5 1 l],s⟩):=by
 induction n generalizing b a c h d i e g f i9 l10 with
 | zero=>rfl
 | succ n j=>rw[Dr];simp only[<-j];kernel_rfl
noncomputable def Br{R:Type}(L n:Nat)(c b:Bool)(f:LL)(i g w h a i8 u e:Int)(o:LL)(v:Bool->Bool->LL->Int->Int->Int->Int->Int->Int->LL->Option R):Option R:=match n with|0=>none|n+1=>cond (ltN e 10000000000) (cond (ltN a 1000000) (vl (I6 (aa0 (36:Int) e) a) λp=>cond (not (ltI u p)) (cond (ltN e 10000000000) (cond (ltN a 1000000) (vl (I6 (aa0 (36:Int) e) a) λd=>vl (A2 ((36:Int)-d)) λj=>cond (j !=0) (vl (o9 (A2 (u-d)) j) λl=>cond (ltN (A2 (d+l)) 36) (vl (↑(ad0 (T4 (a8 (A2 (d+l))))):Int) λq=>cond (G1 (o.length+1)) (vl (A2 ((36:Int)-d)) λm=>cond (m !=0) (vl (A2 (r9 (A2 (u-d)) m)) λr=>vl (A2 (e+1)) λt=>Br L n c b f i g w h a i8 r t (o++[[(SV.int .u8 q)]]) v) none) none) none) none) none) none) (v c b f i g w h i8 u o)) none) none
theorem Xg(n b a c f d g e bias7 i8 q9 kk10 l11):E7 1 ((J4 L).keep 32) (bd (J4 L) Q Y (cd [1,1,1,1,1,1,1,0,0,0,1,0,1,1,1,1,0,1,0,0,1,0,0,1,1,1,1,0,0,0] W3)) n ⟨gp [(0,.s (.sl b a 1 c)),(3,.fl 0),(1,pI f),(0,pI d),(0,pI g),(0,pI e),(0,pI bias7),(2,pI i8),(0,pI q9),(0,pI kk10)] 138,[.arr true 5 1 l11],s⟩ k =
 Br L n b a c f d g e bias7 i8 q9 kk10 l11 (λb a c f d g e h l j=>k (.exit 8) ⟨gp [(0,.s (.sl b a 1 c)),(3,.fl 0),(1,pI f),(0,pI d),(0,pI g),(0,pI e),(3,pI h),(0,pI l)] 139,[.arr true 5 1 j],s⟩):=by
 induction n generalizing b a c f d g e bias7 i8 q9 kk10 l11 with
 | zero=>rfl
 | succ n i=>rw[Br];simp only[<-i];kernel_rfl
noncomputable def T7{R:Type}(L n:Nat)(c b:Bool)(a:LL)(i d B e f i8:Int)(I:LL)(H:Bool->Bool->LL->Int->Int->Int->Int->Int->LL->Option R):Option R:=match n with|0=>none|n+1=>cond (ltI i8 (a.length:Int)) (cond (inR i8 a.length) (cond (okE Dd a (a8 i8) 0) (vl (gE a (a8 i8) 0) λJ=>cond (ltI J B) (vl (A2 (e+1)) λw=>cond (inR i8 a.length) (cond (okE Dd a (a8 i8) 0) (vl (gE a (a8 i8) 0) λK=>cond (K !=B) (T7 L n c b a i d B w f (A2 (i8+1)) I H) (Br L L c b a i d B w f i8 w 0 I (λr p u g j N m F C z=>cond (ltN C 36) (vl (↑(ad0 (T4 (a8 C))):Int) λO=>cond (G1 (z.length+1)) (vl (A2 (g+1)) λx=>cond (ltN m 1152921504606846976) (cond (ltN x 1000000) (cond (ltI 0 x) (vl (↑(M0 (a8 m) (a8 x) (g==j)):Int) λP=>vl (A2 (g+1)) λS=>vl (A2 (F+1)) λT=>T7 L n r p u S j N 0 P T (z++[[(SV.int .u8 O)]]) H) none) none) none) none) none))) none) none) (cond (inR i8 a.length) (cond (okE Dd a (a8 i8) 0) (vl (gE a (a8 i8) 0) λM=>cond (M !=B) (T7 L n c b a i d B e f (A2 (i8+1)) I H) (Br L L c b a i d B e f i8 e 0 I (λt q v h l U o G D A=>cond (ltN D 36) (vl (↑(ad0 (T4 (a8 D))):Int) λV=>cond (G1 (A.length+1)) (vl (A2 (h+1)) λy=>cond (ltN o 1152921504606846976) (cond (ltN y 1000000) (cond (ltI 0 y) (vl (↑(M0 (a8 o) (a8 y) (h==l)):Int) λX=>vl (A2 (h+1)) λZ=>vl (A2 (G+1)) λa0=>T7 L n t q v Z l U 0 X a0 (A++[[(SV.int .u8 V)]]) H) none) none) none) none) none))) none) none)) none) none) (H c b a i d B e f I)
theorem SK(n b a c g d t e f i8 l9):E7 1 ((J4 L).keep 25) (bd (J4 L) Q Y (cd [1,1,1,1,1,1,1,0,0,0,1,0,1,1,1,1,0,1,0,0] W3)) n ⟨gp [(0,.s (.sl b a 1 c)),(3,.fl 0),(1,pI g),(0,pI d),(0,pI t),(0,pI e),(0,pI f),(2,pI i8)] 140,[.arr true 5 1 l9],s⟩ k =
 T7 L n b a c g d t e f i8 l9 (λb a c g d t e f l8=>k (.exit 6) ⟨gp [(0,.s (.sl b a 1 c)),(3,.fl 0),(1,pI g),(0,pI d),(0,pI t),(0,pI e),(0,pI f)] 143,[.arr true 5 1 l8],s⟩):=by
 induction n generalizing b a c g d t e f i8 l9 with
 | zero=>rfl
 | succ n M=>rw[T7];exact let N:=(I2 8 (I8 (J4 L) Q Y (cd [1,1,1,1,1,1,1,0,0,0,1,0,1,1,1,1,0,1,0,0,1,0,0,1,1,1,1,1] W3) (I2 7 (I8 (J4 L) Q Y (cd [1,1,1,1,1,1,1,0,0,0,1,0,1,1,1,1,0,1,0,0,1,1] W3) (lpK 1 ((J4 L).keep 25) (bd (J4 L) Q Y (cd [1,1,1,1,1,1,1,0,0,0,1,0,1,1,1,1,0,1,0,0] W3)) n k)))));(j4 (by kernel_rfl) (A1 (A1 (A1 (B5 λS=>(A1 (B5 λr=>(A1 (A1 (B5 λT=>(A1 (M b a c g d t r f (A2 (i8+1)) l9) ((Xg L Q Y s N L b a c g d t r f i8 r 0 l9).trans (congr rfl (Aw0 λj h m w p A u O Z y=>(j4 (by kernel_rfl) (A1 (B5 λB=>(A1 (B5 λV=>(A1 (A1 (A1 (B5 λC=>(B5 λD=>(B5 λF=>(M j h m D p A 0 C F (y++[[(SV.int .u8 B)]]))))) rfl) rfl) rfl)) rfl)) rfl))))))) rfl) rfl)) (A1 (A1 (B5 λU=>(A1 (M b a c g d t e f (A2 (i8+1)) l9) ((Xg L Q Y s N L b a c g d t e f i8 e 0 l9).trans (congr rfl (Aw0 λl i o x q G v P a0 z=>(j4 (by kernel_rfl) (A1 (B5 λH=>(A1 (B5 λX=>(A1 (A1 (A1 (B5 λI=>(B5 λJ=>(B5 λK=>(M l i o J q G 0 I K (z++[[(SV.int .u8 H)]]))))) rfl) rfl) rfl)) rfl)) rfl))))))) rfl) rfl))) rfl) rfl) rfl))
noncomputable def Bt{R:Type}(L n:Nat)(l j:Bool)(g:LL)(v w K x y:Int)(J:LL)(I:LL->Option R):Option R:=match n with|0=>none|n+1=>cond (ltI v (g.length:Int)) (Dr L L l j g v w K x y 1073741824 0 J (λd b h f m B p r a z=>vl (A2 (f+1)) λC=>vl (A2 ((A2 (a-B))*C)) λD=>T7 L L d b h f m a (A2 (p+D)) r 0 z (λe c i u o F q t A=>vl (A2 (q+1)) λG=>vl (A2 (F+1)) λH=>Bt L n e c i u o H G t A I))) (I J)
theorem Xh(n points_z0 points_t1 points2 done3 basic4 n5 delta6 bias7 l8):E7 1 ((J4 L).keep 15) (bd (J4 L) Q Y (cd [1,1,1,1,1,1,1,0,0,0] W3)) n ⟨gp [(0,.s (.sl points_z0 points_t1 1 points2)),(3,.fl 0),(1,pI done3),(0,pI basic4),(0,pI n5),(0,pI delta6),(0,pI bias7)] 143,[.arr true 5 1 l8],s⟩ k =
 Bt L n points_z0 points_t1 points2 done3 basic4 n5 delta6 bias7 l8 (λB=>k (.exit 2) ⟨gp [(4,.fl 0)] 149,[.arr true 5 1 B],s⟩):=by
 induction n generalizing points_z0 points_t1 points2 done3 basic4 n5 delta6 bias7 l8 with
 | zero=>rfl
 | succ n A=>rw[Bt];exact(j4 (by kernel_rfl) (A1 ((SJ L Q Y s (I2 4 (I8 (J4 L) Q Y (cd [1,1,1,1,1,1,1,0,0,0,1,0,1,1] W3) (I2 3 (lpK 1 ((J4 L).keep 15) (bd (J4 L) Q Y (cd [1,1,1,1,1,1,1,0,0,0] W3)) n k)))) L points_z0 points_t1 points2 done3 basic4 n5 delta6 bias7 1073741824 0 l8).trans (congr rfl (Aw0 λc a e o g x i l j r=>(j4 (by kernel_rfl) (B5 λy=>(B5 λu=>((SK L Q Y s (I2 6 (I8 (J4 L) Q Y (cd [1,1,1,1,1,1,1,0,0,0,1,0,1,1,1,1,1] W3) (I2 3 (lpK 1 ((J4 L).keep 15) (bd (J4 L) Q Y (cd [1,1,1,1,1,1,1,0,0,0] W3)) n k)))) L c a e o g j (A2 (i+u)) l 0 r).trans (congr rfl (fx9 λd b f p h z q m t=>(j4 (by kernel_rfl) (B5 λv=>(B5 λw=>(A d b f p h w v m t))))))))))))) rfl))
noncomputable def KK{R:Type}(L:Nat)(f e:Bool)(d:LL)(o:Unit->Option R)(m:By->Int->LL->Option R):Option R:=cond (ltI 256 (d.length:Int)) (o ()) (P2 L L f e d 0 [] (λn=>m ([]:List UInt8) 2 n) (λb a c g=>vl (g.length:Int) λl=>vl (g.length:Int) λj=>cond (ltI 0 j) (cond (G1 (g.length+1)) (Bt L L b a c l j 128 0 72 (g++[[(SV.int .u8 (45:Int))]]) (λh=>cond (ad4 h Sk) (m (ac1 Pu h) 0 h) none)) none) (Bt L L b a c l j 128 0 72 g (λi=>cond (ad4 i Sk) (m (ac1 Pu i) 0 i) none))))
theorem A20(d:Nat)(points_z0 points_t1 points2):evC (J4 L) (d+1) W Y 144 [.s (.sl points_z0 points_t1 1 points2)] [] s=KK L points_z0 points_t1 points2 (λ_=>some (.tup [pS ([]:List UInt8),pI (3:Int)],[],s)) (λj l i=>some (.tup [pS j,pI l],[.arr true 5 1 i],s)):=by refine(evE (fn:=ac6) (by kernel_rfl)).trans ?_;generalize evC (J4 L) d=Q;unfold KK;exact let h:=(I2 2 (I8 (J4 L) Q Y (cd [1,1,1,1,1,1,1,1] W3) (J6 (J4 L) ac6)));(j4 (by kernel_rfl) (A1 rfl ((SH L Q Y s (I2 0 (I8 (J4 L) Q Y (cd [1,1,1,1] W3) (J6 (J4 L) ac6))) L points_z0 points_t1 points2 0 []).trans (congr (congr rfl (by kernel_rfl)) (fx4 λb a c g=>(j4 (by kernel_rfl) (B5 λe=>(B5 λf=>(A1 (A1 ((Xh L Q Y s h L b a c e f 128 0 72 (g++[[(SV.int .u8 (45:Int))]])).trans (by kernel_rfl)) rfl) ((Xh L Q Y s h L b a c e f 128 0 72 g).trans (by kernel_rfl)))))))))))
noncomputable abbrev R9:Code:=F0 ab4
noncomputable def G6(L:Nat):Cfg:=C3 L [143] (A4 [(27,[0,1,0,2,1,0,0,0,0,0,0,0]),(23,[0,1,0,2,1,0,0,0,0]),(13,[0,1,0,0,1,0]),(5,[0,1,0,0,0])]) [(162,Af7),(163,MZ),(164,Tv),(165,Uf)] (A4 [(51,[2,0]),(50,[0,5,1,0,0,0,0]),(49,[2,0]),(48,[0,5,1,0,0,0,0,118]),(47,[0,5,1,0,0,0,0]),(46,[2,0]),(45,[0,5,1,0,0,0,0,103]),(44,[0,5,1,0,0,0,0]),(43,[0,5,1,0,0,0,0]),(42,[0,5,1,0,0,0,0]),(41,[0,5,1,0,0,0]),(26,[0,5,1,0,0,0,0,0,0,0]),(40,[2,0]),(39,[0,5,1,0,0,0,0,0,0,0,77]),(38,[0,5,1,0,0,0,0,0,0,0]),(37,[0,5,1,0,0,0,0,0,0,0,1,69]),(36,[0,5,1,0,0,0,0,0,0,0,0,0]),(35,[2,0]),(34,[0,5,1,0,0,0,0,0,0,0,0,64]),(33,[0,5,1,0,0,0,0,0,0,0,0]),(32,[2,0]),(31,[0,5,1,0,0,0,0,0,0,0,0,57]),(30,[0,5,1,0,0,0,0,0,0,0,0]),(29,[0,5,1,0,0,0,0,0,0,0,0]),(28,[2,0]),(27,[0,5,1,0,0,0,0,0,0,0,50]),(25,[0,5,1,0,0,0,0,0,0,0]),(24,[0,5,1,0,0,0,0,0,0]),(23,[0,5,1,0,0,0,0,46]),(22,[0,5,1,0,0,0,0]),(21,[0,5,1,0,0,0]),(20,[0,5,1]),(19,[0,5,1,44]),(18,[0,3,1,1]),(17,[2,0]),(16,[0,3,1,43]),(14,[0,3,1,0]),(15,[0,3,1,0]),(13,[0,3,1,0,30]),(12,[0,3,1,0]),(11,[0,3,1]),(6,[0,3,0]),(10,[0,3,0]),(9,[0,3,0,28]),(8,[2,0]),(7,[0,3,0,24]),(5,[0,3,0,18]),(4,[0,3,0]),(3,[0,3]),(2,[2,0]),(1,[0,19]),(0,[0])]) [162,163,164,165] (A4 [(4,[6]),(5,[0,5,1,0,0,0,0]),(6,[0,5,1,0,0,1,0]),(7,[0,5,1,0,0,0,0,0,0,0]),(2,[0,3,1]),(3,[0,3,1,0]),(0,[0,3]),(1,[0,3,0])]) (some [2,0]) [] [] [] (rw:=[(47,6)])
noncomputable def Au{R:Type}(L n:Nat)(c:By)(a b:Int)(d:Unit->Option R)(e:By->Int->Option R):Option R:=match n with|0=>none|n+1=>cond (ltI b (c.length:Int)) (cond (inR b c.length) (cond (not (ltI (bAt c b) (128:Int))) (d ()) (cond (inR b c.length) (cond ((bAt c b)==45) (Au L n c b (A2 (b+1)) d e) (Au L n c a (A2 (b+1)) d e)) none)) none) (e c a)
theorem KT(n b a i2):E7 0 ((G6 L).keep 5) (bd (G6 L) Q Y (cd [1,1,1,0,1,0,0] R9)) n ⟨gp [(0,pS b),(3,pI a),(0,pI i2)] 129,[],s⟩ k =
 Au L n b a i2 (λ_=>k .ret ⟨gp [(2,.fl 0),(0,pI (4:Int))] 131,[.arr true 3 1 []],s⟩) (λb a=>k (.exit 0) ⟨gp [(0,pS b),(3,pI a)] 130,[],s⟩):=by
 induction n generalizing b a i2 with
 | zero=>rfl
 | succ n c=>rw[Au];simp only[<-c];kernel_rfl
noncomputable def Db{R:Type}(L n:Nat)(c:By)(a b:Int)(d:LL)(e:By->Int->LL->Option R):Option R:=match n with|0=>none|n+1=>cond (ltI b a) (cond (inR b c.length) (cond (G1 (d.length+1)) (Db L n c a (A2 (b+1)) (d++[[(SV.int .i64 (A2 (bAt c b)))]]) e) none) none) (e c a d)
theorem KU(n b a i2 l3):E7 1 ((G6 L).keep 13) (bd (G6 L) Q Y (cd [1,1,1,1,1,0,1,0,0] R9)) n ⟨gp [(0,pS b),(3,pI a),(1,.fl 0),(0,pI i2)] 127,[.arr true 3 1 l3],s⟩ k =
 Db L n b a i2 l3 (λb a d=>k (.exit 2) ⟨gp [(0,pS b),(3,pI a),(1,.fl 0)] 128,[.arr true 3 1 d],s⟩):=by
 induction n generalizing b a i2 l3 with
 | zero=>rfl
 | succ n c=>rw[Db];simp only[<-c];kernel_rfl
noncomputable def P6{R:Type}(L n:Nat)(l:By)(g:LL)(b q r a f o h:Int)(j:LL)(m:Int->LL->Option R)(p:By->LL->Int->Int->Int->Int->LL->Option R):Option R:=match n with|0=>none|n+1=>cond (not (ltI b (l.length:Int))) (m 4 j) (cond (inR b l.length) (cond (inR (bAt l b) 256) (vl (C9 (u8n (bAt l b))) λi=>cond (ltI i 0) (m 4 j) (vl (A2 (r+(A2 (i*o)))) λc=>cond (ltI 1099511627776 c) (m 19 j) (cond (ltN h 10000000000) (cond (ltN a 1000000) (vl (I6 (aa0 (36:Int) h) a) λd=>cond (ltI i d) (p l g (A2 (b+1)) q c f j) (vl (A2 ((36:Int)-d)) λe=>cond (ltI 1099511627776 (A2 (o*e))) (m 19 j) (P6 L n l g (A2 (b+1)) q c a f (A2 (o*e)) (A2 (h+1)) j m p))) none) none))) none) none)
theorem KV(n f a b d c bias5 old6 w7 kk8 l9):E7 1 ((G6 L).keep 27) (bd (G6 L) Q Y (cd [1,1,1,1,1,1,1,1,1,1,1,0,0,0,1,0,1,0,1,0,0] R9)) n ⟨gp [(0,pS f),(5,.s (.sl false false 1 a)),(1,pI b),(0,pI d),(0,pI c),(0,pI bias5),(0,pB false),(0,pI old6),(0,pI w7),(0,pI kk8)] 119,[.arr true 3 1 l9],s⟩ k =
 P6 L n f a b d c bias5 old6 w7 kk8 l9 (λn0 h=>k .ret ⟨gp [(2,.fl 1),(0,pI n0)] 131,[.arr true 3 1 h,.arr true 3 1 []],s⟩) (λf a b d c e i=>k (.exit 6) ⟨gp [(0,pS f),(5,.s (.sl false false 1 a)),(1,pI b),(0,pI d),(0,pI c),(1,pB false),(0,pI e)] 121,[.arr true 3 1 i],s⟩):=by
 induction n generalizing f a b d c bias5 old6 w7 kk8 l9 with
 | zero=>rfl
 | succ n g=>rw[P6];simp only[<-g];kernel_rfl
noncomputable def L1{R:Type}(L n:Nat)(C:By)(m:LL)(q D y p:Int)(B:LL)(x:Int->LL->Option R)(z:LL->LL->Option R)(A:LL->LL->Option R):Option R:=match n with|0=>none|n+1=>cond (ltI q (C.length:Int)) (P6 L L C m q D y p y 1 0 B (λt r=>x t r) (λw a o d b h i=>vl (A2 ((a.length:Int)+1)) λj=>cond (ltN (A2 (b-h)) 1152921504606846976) (cond (ltN j 1000000) (cond (ltI 0 j) (vl (↑(M0 (a8 (A2 (b-h))) (a8 j) false):Int) λu=>vl (A2 ((a.length:Int)+1)) λl=>cond (l !=0) (vl (A2 (r9 b l)) λe=>vl (A2 ((a.length:Int)+1)) λf=>cond (f !=0) (cond (not (ptI (A2 (d+e)))) (x 2 i) (cond (N3 0 (o9 b f) a.length) (vl (cut a 0 (o9 b f)) λc=>cond (N3 (o9 b f) (a.length:Int) a.length) (vl (cut a (o9 b f) (a.length:Int)) λg=>cond (G1 (0+c.length)) (cond (G1 (c.length+1)) (cond (G1 ((u4 (c++[[(SV.int .i64 (A2 (d+e)))]]))+g.length)) (cond (ltI 256 (↑(u4 ((c++[[(SV.int .i64 (A2 (d+e)))]])++g)):Int)) (z i ((c++[[(SV.int .i64 (A2 (d+e)))]])++g)) (vl (A2 ((o9 b f)+1)) λv=>L1 L n w ((c++[[(SV.int .i64 (A2 (d+e)))]])++g) o (A2 (d+e)) v u i x z A)) none) none) none) none) none)) none) none) none) none) none)) (A m B)
theorem KW(n s0 out1 at2 n3 i4 bias5 l6):E7 1 ((G6 L).keep 23) (bd (G6 L) Q Y (cd [1,1,1,1,1,1,1,1,1,1,1,0,0,0] R9)) n ⟨gp [(0,pS s0),(5,.s (.sl false false 1 out1)),(1,pI at2),(0,pI n3),(0,pI i4),(0,pI bias5),(0,pB false)] 122,[.arr true 3 1 l6],s⟩ k =
 L1 L n s0 out1 at2 n3 i4 bias5 l6 (λn0 g=>k .ret ⟨gp [(2,.fl 1),(0,pI n0)] 131,[.arr true 3 1 g,.arr true 3 1 []],s⟩) (λv g=>k .ret ⟨gp [(2,.fl 2),(0,pI (3:Int))] 131,[.arr true 3 1 v,.arr false 3 1 g,.arr true 3 1 []],s⟩) (λj g=>k (.exit 4) ⟨gp [(6,.s (.sl false false 1 j))] 128,[.arr true 3 1 g],s⟩):=by
 induction n generalizing s0 out1 at2 n3 i4 bias5 l6 with
 | zero=>rfl
 | succ n u=>rw[L1];exact(j4 (by kernel_rfl) (A1 ((KV L Q Y s (I2 6 (I8 (G6 L) Q Y (cd [1,1,1,1,1,1,1,1,1,1,1,0,0,0,1,0,1,1] R9) (I2 5 (lpK 1 ((G6 L).keep 23) (bd (G6 L) Q Y (cd [1,1,1,1,1,1,1,1,1,1,1,0,0,0] R9)) n k)))) L s0 out1 at2 n3 i4 bias5 i4 1 0 l6).trans (congr (congr rfl (by kernel_rfl)) (fx7 λl o c a p m d=>(j4 (by kernel_rfl) (B5 λq=>(A1 (A1 (A1 (B5 λh=>(B5 λr=>(A1 (B5 λb=>(B5 λt=>(A1 (A1 rfl (A1 (B5 λe=>(A1 (B5 λf=>(A1 (A1 (A1 (A1 rfl (B5 λi=>(u l ((e++[[(SV.int .i64 (A2 (a+b)))]])++f) c (A2 (a+b)) i h d))) rfl) rfl) rfl)) rfl)) rfl)) rfl))) rfl))) rfl) rfl) rfl)))))) rfl))
noncomputable def P7{R:Type}(L n:Nat)(h:By)(a m j f:Int)(g:LL)(i:Int->LL->Option R)(l:By->Int->Int->LL->Option R):Option R:=match n with|0=>none|n+1=>cond (not (ltI a (h.length:Int))) (i 4 g) (cond (inR a h.length) (cond (inR (bAt h a) 256) (vl (C9 (u8n (bAt h a))) λb=>cond (ltI b 0) (i 4 g) (vl (A2 (m+(A2 (b*j)))) λc=>cond (ltI 1099511627776 c) (i 19 g) (cond (ltN f 10000000000) (cond (ltN 72 1000000) (vl (I6 (aa0 (36:Int) f) (72:Int)) λd=>cond (ltI b d) (l h (A2 (a+1)) c g) (vl (A2 ((36:Int)-d)) λe=>cond (ltI 1099511627776 (A2 (j*e))) (i 19 g) (P7 L n h (A2 (a+1)) c (A2 (j*e)) (A2 (f+1)) g i l))) none) none))) none) none)
theorem KX(n c a b w3 kk4 l5):E7 1 ((G6 L).keep 27) (bd (G6 L) Q Y (cd [1,1,1,1,1,1,1,1,1,1,1,0,0,0,1,0,1,0,1,0,0] R9)) n ⟨gp [(0,pS c),(5,.fl 0),(1,pI a),(0,pI (128:Int)),(0,pI b),(0,pI (72:Int)),(0,pB true),(0,pI (0:Int)),(0,pI w3),(0,pI kk4)] 119,[.arr true 3 1 l5],s⟩ k =
 P7 L n c a b w3 kk4 l5 (λn0 e=>k .ret ⟨gp [(2,.fl 1),(0,pI n0)] 131,[.arr true 3 1 e,.arr true 3 1 []],s⟩) (λc a b f=>k (.exit 6) ⟨gp [(0,pS c),(5,.fl 0),(1,pI a),(0,pI (128:Int)),(0,pI b),(1,pB true),(0,pI (0:Int))] 121,[.arr true 3 1 f],s⟩):=by
 induction n generalizing c a b w3 kk4 l5 with
 | zero=>rfl
 | succ n d=>rw[P7];simp only[<-d];kernel_rfl
noncomputable def I3{R:Type}(L n:Nat)(D:By)(m:Int)(C:LL)(A:Int->LL->Option R)(B:LL->LL->Option R)(F:LL->LL->Option R)(G:LL->Option R):Option R:=match n with|0=>none|n+1=>cond (ltI m (D.length:Int)) (P7 L L D m 0 1 0 C (λu o=>A u o) (λz l b a=>vl (A2 (b-0)) λi=>vl (A2 ((a.length:Int)+1)) λe=>cond (ltN i 1152921504606846976) (cond (ltN e 1000000) (cond (ltI 0 e) (vl (↑(M0 (a8 i) (a8 e) true):Int) λv=>vl (A2 ((a.length:Int)+1)) λj=>cond (j !=0) (vl (A2 (r9 b j)) λw=>vl (A2 ((128:Int)+w)) λf=>vl (A2 ((a.length:Int)+1)) λc=>cond (c !=0) (cond (not (ptI f)) (A 2 a) (cond (N3 0 (o9 b c) a.length) (cond (N3 (o9 b c) (a.length:Int) a.length) (cond (G1 (0+(u4 (x8 ((a8 (o9 b c))-0) (y7 0 a))))) (cond (G1 ((u4 (x8 ((a8 (o9 b c))-0) (y7 0 a)))+1)) (vl ((x8 ((a8 (o9 b c))-0) (y7 0 a))++[[(SV.int .i64 f)]]) λh=>cond (G1 (h.length+(u4 (x8 ((a8 (a.length:Int))-(a8 (o9 b c))) (y7 (a8 (o9 b c)) a))))) (vl (h++(x8 ((a8 (a.length:Int))-(a8 (o9 b c))) (y7 (a8 (o9 b c)) a))) λd=>cond (ltI 256 (d.length:Int)) (B a d) (vl (A2 ((o9 b c)+1)) λx=>L1 L n z d l f x v a (λy p=>A y p) (λq r=>B q r) (λg t=>F g t))) none) none) none) none) none)) none) none) none) none) none)) (G C)
theorem Rx(n s0 at1 l2):E7 1 ((G6 L).keep 23) (bd (G6 L) Q Y (cd [1,1,1,1,1,1,1,1,1,1,1,0,0,0] R9)) n ⟨gp [(0,pS s0),(5,.fl 0),(1,pI at1),(0,pI (128:Int)),(0,pI (0:Int)),(0,pI (72:Int)),(0,pB true)] 122,[.arr true 3 1 l2],s⟩ k =
 I3 L n s0 at1 l2 (λn0 d=>k .ret ⟨gp [(2,.fl 1),(0,pI n0)] 131,[.arr true 3 1 d,.arr true 3 1 []],s⟩) (λl d=>k .ret ⟨gp [(2,.fl 2),(0,pI (3:Int))] 131,[.arr true 3 1 l,.arr false 3 1 d,.arr true 3 1 []],s⟩) (λh d=>k (.exit 4) ⟨gp [(6,.s (.sl false false 1 h))] 128,[.arr true 3 1 d],s⟩) (λl=>k (.exit 4) ⟨gp [(6,.fl 0)] 128,[.arr true 3 1 l],s⟩):=by
 induction n generalizing s0 at1 l2 with
 | zero=>rfl
 | succ n A=>rw[I3];exact(j4 (by kernel_rfl) (A1 ((KX L Q Y s (I2 6 (I8 (G6 L) Q Y (cd [1,1,1,1,1,1,1,1,1,1,1,0,0,0,1,0,1,1] R9) (I2 5 (lpK 1 ((G6 L).keep 23) (bd (G6 L) Q Y (cd [1,1,1,1,1,1,1,1,1,1,1,0,0,0] R9)) n k)))) L s0 at1 0 1 0 l2).trans (congr (congr rfl (by kernel_rfl)) (fx4 λi a m b=>(j4 (by kernel_rfl) (B5 λu=>(B5 λv=>(A1 (A1 (A1 (B5 λe=>(B5 λw=>(A1 (B5 λx=>(B5 λf=>(B5 λy=>(A1 (A1 rfl (A1 (A1 (A1 (A1 (B5 λo=>(A1 (B5 λc=>(A1 rfl (B5 λg=>((KW L Q Y s k n i c a f g e b).trans (congr (congr (congr rfl (fx2 λz p=>rfl)) (fx2 λq r=>rfl)) (fx2 λj t=>rfl)))))) rfl)) rfl) rfl) rfl) rfl)) rfl)))) rfl))) rfl) rfl) rfl))))))) rfl))
noncomputable def WZ{R:Type}(L:Nat)(A:By)(u:Int->LL->Option R)(v:Int->LL->Option R)(y:LL->LL->Option R)(z:LL->LL->Option R):Option R:=cond (ltI 1024 (A.length:Int)) (u 3 []) (Au L L A 0 0 (λ_=>u 4 []) (λx e=>Db L L x e 0 [] (λt a b=>cond (ltI 256 (b.length:Int)) (v 3 b) (cond (ltI 0 a) (vl (A2 (a+1)) λw=>I3 L L t w b (λq f=>v q f) (λg h=>y g h) (λc i=>z c i) (λj=>u 0 j)) (I3 L L t a b (λr l=>v r l) (λm n=>y m n) (λd o=>z d o) (λp=>u 0 p))))))
theorem Ao6(d:Nat)(s0):evC (G6 L) (d+1) W Y 143 [pS s0] [] s=WZ L s0 (λf c=>some (.tup [.fl 0,pI f],[.arr true 3 1 c],s)) (λf c=>some (.tup [.fl 1,pI f],[.arr true 3 1 c,.arr true 3 1 []],s)) (λl c=>some (.tup [.fl 2,pI (3:Int)],[.arr true 3 1 l,.arr false 3 1 c,.arr true 3 1 []],s)) (λf c=>some (.tup [.s (.sl false false 1 f),pI (0:Int)],[.arr true 3 1 c],s)):=by refine(evE (fn:=ab4) (by kernel_rfl)).trans ?_;generalize evC (G6 L) d=Q;unfold WZ;exact let j:=(I2 4 (I8 (G6 L) Q Y (cd [1,1,1,1,1,1,1,1,1,1,1,1] R9) (J6 (G6 L) ab4)));(j4 (by kernel_rfl) (A1 rfl ((KT L Q Y s (I2 0 (I8 (G6 L) Q Y (cd [1,1,1,1] R9) (J6 (G6 L) ab4))) L s0 0 0).trans (congr (congr rfl (by kernel_rfl)) (fx2 λi a=>(j4 (by kernel_rfl) ((KU L Q Y s (I2 2 (I8 (G6 L) Q Y (cd [1,1,1,1,1,1] R9) (J6 (G6 L) ab4))) L i a 0 []).trans (congr rfl (fx3 λg b e=>(j4 (by kernel_rfl) (A1 rfl (A1 (B5 λh=>((Rx L Q Y s j L g h e).trans (by kernel_rfl))) ((Rx L Q Y s j L g b e).trans (by kernel_rfl))))))))))))))
noncomputable abbrev VO:Code:=F0 ae0
noncomputable def Fv(L:Nat):Cfg:=C3 L [121] (A4 [(6,[0,1,0,1,0])]) [(143,VD),(144,Af2)] (A4 [(12,[2]),(11,[0,4,1,0]),(7,[0,2,1,0]),(10,[2]),(9,[0,2,1,0,34]),(8,[0,2,1,0]),(6,[0,2,1,0,12]),(5,[0,2,1,0]),(4,[0,2,1]),(3,[2]),(2,[0,2,11]),(1,[0,2,0]),(0,[0])]) [144] (A4 [(0,[0,2,1]),(1,[0,2,1,0])]) (some [2]) [] [] []
noncomputable def R2{R:Type}(L n:Nat)(a:By)(d:Bool)(b:LL)(e:Bool)(c:Int)(f:Unit->Option R)(g:By->Bool->LL->Bool->Option R):Option R:=match n with|0=>none|n+1=>cond (ltI c (b.length:Int)) (cond e (cond (inR c b.length) (cond (okE Dd b (a8 c) 0) (cond (not (ltI (gE b (a8 c) 0) (65:Int))) (cond (inR c b.length) (cond (okE Dd b (a8 c) 0) (cond (not (ltI 90 (gE b (a8 c) 0))) (f ()) (R2 L n a d b true (A2 (c+1)) f g)) none) none) (R2 L n a d b true (A2 (c+1)) f g)) none) none) (cond (inR c b.length) (cond (okE Dd b (a8 c) 0) (cond (inR c b.length) (cond (okE Dd b (a8 c) 0) (cond (not (ltI (gE b (a8 c) 0) (65:Int))) (cond (inR c b.length) (cond (okE Dd b (a8 c) 0) (cond (not (ltI 90 (gE b (a8 c) 0))) (f ()) (R2 L n a d b (not (ltI (gE b (a8 c) 0) (128:Int))) (A2 (c+1)) f g)) none) none) (R2 L n a d b (not (ltI (gE b (a8 c) 0) (128:Int))) (A2 (c+1)) f g)) none) none) none) none)) (g a d b e)
theorem KZ(n c b d a i4):E7 0 ((Fv L).keep 6) (bd (Fv L) Q Y (cd [1,1,1,1,0,1,0,0] VO)) n ⟨gp [(0,pS c),(2,.s (.sl b b 1 d)),(1,pB a),(0,pI i4)] 50,[],s⟩ k =
 R2 L n c b d a i4 (λ_=>k .ret ⟨gp [(2,pB false)] 54,[],s⟩) (λc b d a=>k (.exit 0) ⟨gp [(0,pS c),(2,.s (.sl b b 1 d)),(1,pB a)] 51,[],s⟩):=by
 induction n generalizing c b d a i4 with
 | zero=>rfl
 | succ n e=>rw[R2];simp only[<-e];kernel_rfl
noncomputable def XC{R:Type}(L:Nat)(a:By)(e:Bool->Option R):Option R:=cond (A3 a.length) (vl (↑((J9 a)).2:Int) λf=>cond (f !=0) (e false) (R2 L L a (ae2 ((J9 a)).1) (Sl ((J9 a)).1) false 0 (λ_=>e false) (λc h d b=>cond (ad4 d Hz) (vl ((Q7 (ac1 elI d))).1 λi=>vl (↑((Q7 (ac1 elI d))).2:Int) λg=>cond (g==0) (cond (i==c) (e b) (e false)) (e false)) none))) none
theorem Ap0(d:Nat)(rest0):evC (Fv L) (d+1) W Y 121 [pS rest0] [] s=XC L rest0 (λb=>some (pB b,[],s)):=by refine(evE (fn:=ae0) (by kernel_rfl)).trans ?_;generalize evC (Fv L) d=Q;unfold XC;exact(j4 (by kernel_rfl) (A1 (B5 λa=>(A1 rfl ((KZ L Q Y s (I2 0 (I8 (Fv L) Q Y (cd [1,1,1,1,1] VO) (J6 (Fv L) ae0))) L rest0 (ae2 ((J9 rest0)).1) (Sl ((J9 rest0)).1) false 0).trans (by kernel_rfl)))) rfl))
noncomputable abbrev VM:Code:=F0 af3
noncomputable def Ft(L:Nat):Cfg:=C3 L [93] (A4 [(4,[0,1,0])]) [(121,VF)] (A4 [(9,[2]),(5,[0,2]),(8,[2]),(7,[0,2,52]),(6,[0,2,0]),(4,[0,2,24]),(3,[0,2]),(2,[2]),(1,[0,23]),(0,[0])]) [121] (A4 [(0,[0]),(1,[0,2])]) (some [2]) [] [] []
noncomputable def K4{R:Type}(L n:Nat)(a:By)(b:Int)(c:Unit->Option R)(d:By->Option R):Option R:=match n with|0=>none|n+1=>cond (ltI b (a.length:Int)) (cond (inR b a.length) (cond (not (ltI (bAt a b) (97:Int))) (cond (not (ltI 122 (bAt a b))) (K4 L n a (A2 (b+1)) c d) (cond (not (ltI (bAt a b) (48:Int))) (cond (not (ltI 57 (bAt a b))) (K4 L n a (A2 (b+1)) c d) (cond ((bAt a b)==45) (K4 L n a (A2 (b+1)) c d) (cond (not ((bAt a b)==95)) (c ()) (K4 L n a (A2 (b+1)) c d)))) (cond ((bAt a b)==45) (K4 L n a (A2 (b+1)) c d) (cond (not ((bAt a b)==95)) (c ()) (K4 L n a (A2 (b+1)) c d))))) (cond (not (ltI (bAt a b) (48:Int))) (cond (not (ltI 57 (bAt a b))) (K4 L n a (A2 (b+1)) c d) (cond ((bAt a b)==45) (K4 L n a (A2 (b+1)) c d) (cond (not ((bAt a b)==95)) (c ()) (K4 L n a (A2 (b+1)) c d)))) (cond ((bAt a b)==45) (K4 L n a (A2 (b+1)) c d) (cond (not ((bAt a b)==95)) (c ()) (K4 L n a (A2 (b+1)) c d))))) none) (d a)
theorem KM(n a i1):E7 0 ((Ft L).keep 4) (bd (Ft L) Q Y (cd [1,1,0,1,0,0] VM)) n ⟨gp [(0,pS a),(2,pI i1)] 66,[],s⟩ k =
 K4 L n a i1 (λ_=>k .ret ⟨gp [(2,pB false)] 67,[],s⟩) (λa=>k (.exit 0) ⟨gp [(0,pS a)] 69,[],s⟩):=by
 induction n generalizing a i1 with
 | zero=>rfl
 | succ n b=>rw[K4];simp only[<-b];kernel_rfl
noncomputable def WW{R:Type}(L:Nat)(c:By)(b:Bool->Option R):Option R:=cond (c==[]) (b false) (cond (ltI 63 (c.length:Int)) (b false) (cond (inR 0 c.length) (cond ((bAt c (0:Int))==45) (b false) (vl (A2 ((c.length:Int)-1)) λd=>cond (inR d c.length) (cond ((bAt c d)==45) (b false) (K4 L L c 0 (λ_=>b false) (λa=>cond (ltI (a.length:Int) (4:Int)) (b true) (cond (N3 0 (4:Int) a.length) (vl (cut a 0 (4:Int)) λf=>cond (not (f==[120,110,45,45])) (b true) (cond (N3 4 (a.length:Int) a.length) (vl (cut a 4 (a.length:Int)) λe=>cond (A3 e.length) (b (Ae e)) none) none)) none)))) none)) none))
theorem Ao2(d:Nat)(s0):evC (Ft L) (d+1) W Y 93 [pS s0] [] s=WW L s0 (λb=>some (pB b,[],s)):=by refine(evE (fn:=af3) (by kernel_rfl)).trans ?_;generalize evC (Ft L) d=Q;unfold WW;exact(j4 (by kernel_rfl) (A1 rfl (A1 rfl (A1 (A1 rfl (B5 λa=>(A1 (A1 rfl ((KM L Q Y s (I2 0 (I8 (Ft L) Q Y (cd [1,1,1] VM) (J6 (Ft L) af3))) L s0 0).trans (by kernel_rfl))) rfl))) rfl))))
end
theorem KY{R:Type}{a:Bool->Option R}(n:Int):GR LF n a=a (ptI n):=by
 unfold GR;by_cases h:n<0
 ·rw[D0 h];have:ptI n=false:=by
   cases n with
   | ofNat m=>exact absurd h (by simp)
   | negSucc m=>rfl
  grind
 ·obtain⟨m,rfl⟩:=p7 (show 0<=n by omega);rw[A6,Gj];unfold Ba;by_cases b:1114111<m
  ·rw[A8];have:p9 m 1114111=false:=by rw[o3,ne_eq,o8];omega
   grind
  ·rw[A6];have:p9 m 1114111=true:=by rw[o8];omega
   rw[this];by_cases c:m<55296
   ·rw[A8];have:Nat.blt m 55296=true:=by rw[ad6];omega
    grind
   ·rw[A6];have e:Nat.blt m 55296=false:=by rw[o3,ne_eq,ad6];omega
    rw[e];simp only[j6,cond_true,cond_false,aa2,u7]
    congr 1
theorem KH{R:Type}{k0:Int->Int->Option R}:∀(d n k:Nat),d<2305843009213693952->d<n->k+d<=4611686018427387904->
  ∃a b,a<=455/\b<=k+d/\Pd d k=b+36*a / (a+38)/\Cg LF n (d:Int) (k:Int) k0=k0 (a:Int) (b:Int):=by
 intro d
 induction d using ad2 with
 | _ d l=>
  intro n k p r q;obtain⟨n,rfl⟩:∃m,n=m+1:=⟨n-1,by omega⟩
  rw[Cg];by_cases h:455<d
  ·obtain⟨a,b,g,o,i,j⟩:=l (d / 35) (by omega) n (k+36) (by omega) (by omega) (by omega);refine⟨a,b,g,by omega,by rw[Ul h];exact i,?_⟩;have e:r9 (d:Int) 35=((d / 35:Nat):Int):=K5 d 35;have c:A2 ((d / 35:Nat):Int)=((d / 35:Nat):Int):=A5;have f:A2 ((k:Int)+36)=((k+36:Nat):Int):=by rw[A5];rfl
   rw[A8];simp only[cond_true,vl,e,c,f];exact j
  ·refine⟨d,k,by omega,by omega,Kr h,?_⟩;rw[A6];rfl
theorem KI{R:Type}{k0:Int->Option R}(d c:Int)(f:Bool)(z:ltN d 1152921504606846976=true)(A:ltN c 1000000=true)(B:ltI 0 c=true):Xd LF d c f k0=k0 (M0 d.toNat c.toNat f:Nat):=by
 obtain⟨k,F⟩:=K7.1 z;obtain⟨j,D⟩:=K7.1 A;obtain⟨d,rfl⟩:=p7 k;obtain⟨c,rfl⟩:=p7 j;have J:=WF.1 B;have C:=F9;have key:∀x:Nat,x<1152921504606846976->Cf LF (x:Int) (c:Int) k0=k0 ((Pd (x+x / c) 0:Nat):Int):=by
  intro x L;have G:x / c<=x:=v8 _ _;unfold Cf;have g:r9 (x:Int) (c:Int)=((x / c:Nat):Int):=K5 x c;generalize x / c=q at *;have h:A2 (q:Int)=(q:Int):=A5;have o:A2 ((x:Int)+(q:Int))=((x+q:Nat):Int):=by rw[A5];rfl
  rw[show((c:Int)!=0)=true by simp;omega];simp only[cond_true,vl,g,h,o];obtain⟨a,n,H,I,w,y⟩:=KH (R:=R) (k0:=λb l=>vl (A2 ((36)*b)) λm=>vl (A2 (b+(38))) λe=>cond (e !=(0)) (vl (A2 (r9 m e)) λi=>k0 (A2 (l+i))) none) (x+q) LF 0 (by omega) (by omega) (by omega);refine j4 y ?_;have K:36*a / (a+38)<=36*a:=v8 _ _;have p:A2 (36*(a:Int))=((36*a:Nat):Int):=by rw[A5];rfl
  have r:A2 ((a:Int)+38)=((a+38:Nat):Int):=by rw[A5];rfl
  have t:r9 ((36*a:Nat):Int) ((a+38:Nat):Int)=((36*a / (a+38):Nat):Int):=K5 _ _;have u:A2 ((36*a / (a+38):Nat):Int)=((36*a / (a+38):Nat):Int):=A5;have v:A2 ((n:Int)+((36*a / (a+38):Nat):Int))=((n+36*a / (a+38):Nat):Int):=by rw[A5];rfl
  simp only[vl,p,r,t,u,v];rw[show(((a+38:Nat):Int)!=0)=true by simp;omega,w];rfl
 unfold Xd M0;rw[b8,b8];cases f with
 | true=>
  have g:r9 (d:Int) 700=((d / 700:Nat):Int):=K5 d 700;have h:A2 ((d / 700:Nat):Int)=((d / 700:Nat):Int):=A5;simp only[cond_true,vl,g,h,if_true];exact key _ (by omega)
 | false=>
  have g:r9 (d:Int) 2=((d / 2:Nat):Int):=K5 d 2;have h:A2 ((d / 2:Nat):Int)=((d / 2:Nat):Int):=A5;simp only[cond_false,vl,g,h,ab9,if_false];exact key _ (by omega)
theorem RR{R:Type}{b:Int->Option R}(d:Int)(c:ltN d 36=true):WS LF d b=b ((T4 d.toNat).toNat:Nat):=by
 obtain⟨a,e⟩:=K7.1 c;obtain⟨d,rfl⟩:=p7 a;unfold WS;rw[b8,Zl (by omega)];by_cases h:d<26
 ·rw[A8,if_pos h];simp only[cond_true,vl]
  congr 1
  rw[A5,R7];rfl
 ·rw[A6,if_neg h];simp only[cond_false,vl]
  congr 1
  rw[G7 (n:=48+(d:Int)) (by omega) (by omega),A5,R7];omega
theorem Ab2{R:Type}{g:Int->Option R}(b:Int)(h:inR b 256=true):Ap1 LF b g=g (C9 (u8n b)):=by
 simp only[inR,j8,decide_eq_true_eq] at h;have j:b=((u8n b).toNat:Int):=by
  unfold u8n;simp;omega
 generalize u8n b=c at *;subst j;have i:=c.toNat_lt;unfold Ap1 C9;simp only[Nv,Nu,vl];rcases Sc c with⟨d,f,e⟩|⟨d,f,e⟩|⟨d,f,e⟩|⟨d,f,o,e⟩
 ·have a:A2 (wu8 ((c.toNat:Int)-97))=((c.toNat-97:Nat):Int):=by
   rw[R7,A5];omega
  simp (disch:=omega) only[D0,E4,j9,j6,cond_false,cond_true,a,e]
 ·have a:A2 (wu8 ((c.toNat:Int)-65))=((c.toNat-65:Nat):Int):=by
   rw[R7,A5];omega
  simp (disch:=omega) only[D0,E4,j9,j6,cond_false,cond_true,a,e]
 ·have a:A2 (A2 (wu8 ((c.toNat:Int)-48))+26)=((c.toNat-22:Nat):Int):=by
   rw[R7,G7 (n:=(c.toNat:Int)-48) (by omega) (by omega),A5];omega
  simp (disch:=omega) only[D0,E4,j9,j6,cond_false,cond_true,a,e]
 ·rw[e];by_cases k:c.toNat<48
  ·simp (disch:=omega) only[D0,E4,j9,j6,cond_false,cond_true]
  ·by_cases l:c.toNat<65
   ·simp (disch:=omega) only[D0,E4,j9,j6,cond_false,cond_true]
   ·by_cases m:c.toNat<97
    ·simp (disch:=omega) only[D0,E4,j9,j6,cond_false,cond_true]
    ·simp (disch:=omega) only[D0,E4,j9,j6,cond_false,cond_true]
theorem Ab1{R:Type}{a:Int->Option R}(k b:Int)(c:ltN k 10000000000=true)(d:ltN b 1000000=true):A32 LF k b a=a (I6 (aa0 36 k) b):=by obtain⟨j,l⟩:=K7.1 c;obtain⟨e,f⟩:=K7.1 d;unfold A32 I6;have g:A2 (k+1)=k+1:=A5;have h:A2 ((36:Int)*(k+1))=36*(k+1):=A5;have i:A2 (36*(k+1)-b)=36*(k+1)-b:=A5;grind
theorem An8(z t:Bool)(c:LL)(done a u delta i:Int)(b:Nat)(V:b<1000000):∀(r q k n:Nat) (l:LL),q<10 ^ r->q<1152921504606846976->k+r<=1000->r<n->l.length+r<=200000->
  ∃(d:Nat) (pre:By),d<36/\L3 q k b=pre++[T4 d]/\∀(R:Type) (g:Bool->Bool->LL->Int->Int->Int->Int->Int->Int->LL->Option R),Br LF n z t c done a u delta (b:Int) i (q:Int) (k:Int) l g=g z t c done a u delta i (d:Int) (l++pre.map D7):=by
 have f:∀k:Nat,I6 (aa0 36 (k:Int)) (b:Int)=(thr k b:Int):=λk=>by
  rw[show aa0 36 (k:Int)=((36*k:Nat):Int) from rfl,Ob]
 have j:∀(q k n:Nat) (l:LL),q<thr k b->k<=1000->∃(d:Nat) (pre:By),d<36/\L3 q k b=pre++[T4 d]/\∀(R:Type) (g:Bool->Bool->LL->Int->Int->Int->Int->Int->Int->LL->Option R),Br LF (n+1) z t c done a u delta (b:Int) i (q:Int) (k:Int) l g=g z t c done a u delta i (d:Int) (l++pre.map D7):=by
  intro q k n l p v;have x:=P9 k b;refine⟨q,[],by omega,by rw[Jb p];rfl,λR g=>?_⟩;rw[Br];have o:ltI (q:Int) (thr k b:Int)=true:=A8;rw[L7,L7,f];grind
 intro r
 induction r with
 | zero=>
  intro q k n l h _ v Q O;have x:=P9 k b;obtain⟨n,rfl⟩:∃m,n=m+1:=⟨n-1,by omega⟩
  exact j q k n l (by simp at h;omega) (by omega)
 | succ r S=>
  intro q k n l h w v Q O;have x:=P9 k b;obtain⟨n,rfl⟩:∃m,n=m+1:=⟨n-1,by omega⟩
  by_cases p:q<thr k b
  ·exact j q k n l p (by omega)
  ·have M:(q-thr k b) / (36-thr k b)<10 ^ r:=EW (by omega) (by rw[Nat.pow_succ] at h;omega);have N:(q-thr k b) / (36-thr k b)<=q:=ae6 (v8 _ _) (by omega);have P:(q-thr k b) % (36-thr k b)<36-thr k b:=ad7 _ (by omega);obtain⟨d,pre,K,L,e⟩:=S ((q-thr k b) / (36-thr k b)) (k+1) n (l++[D7 (T4 (thr k b+(q-thr k b) % (36-thr k b)))]) M (by omega) (by omega) (by omega) (by rw[j0,c9];omega);refine⟨d,T4 (thr k b+(q-thr k b) % (36-thr k b))::pre,K,by rw[Pv p,L];rfl,λR g=>?_⟩;rw[Br];have y:A2 ((q:Int)-(thr k b:Int))=((q-thr k b:Nat):Int):=by rw[A5];omega
   have C:A2 ((36:Int)-(thr k b:Int))=((36-thr k b:Nat):Int):=by rw[A5];omega
   have D:o9 ((q-thr k b:Nat):Int) ((36-thr k b:Nat):Int)=(((q-thr k b) % (36-thr k b):Nat):Int):=Fi _ _;have F:r9 ((q-thr k b:Nat):Int) ((36-thr k b:Nat):Int)=(((q-thr k b) / (36-thr k b):Nat):Int):=K5 _ _;have I:((((36-thr k b:Nat):Int))!=0)=true:=by rw[bne_iff_ne];omega
   have J:A2 ((k:Int)+1)=((k+1:Nat):Int):=by rw[A5];rfl
   have o:ltI (q:Int) (thr k b:Int)=false:=A6;rw[L7,L7,f];simp only[vl,o,y,C,D,F,I,J,cond_true,cond_false,j6];generalize T:(q-thr k b) / (36-thr k b)=A at *;generalize U:(q-thr k b) % (36-thr k b)=B at *;have G:A2 ((thr k b:Int)+(B:Int))=((thr k b+B:Nat):Int):=by rw[A5];rfl
   have H:A2 (A:Int)=(A:Int):=A5;rw[G,H,L7,E9 (by omega),b8];refine j4 (e R g) ?_;simp[x4,D7]
theorem A21(z t:Bool)(c:List Nat)(a m:Nat)(Z:m<=1114112)(Y:c.length<=256):∀(r i n:Nat) (s:BZ),i+r=c.length->r<n->s.delta+r<=1000000000000->s.bias<=500->s.out.length+20*r<=90000->s.done+r<=1000->a<=256->
  (∀(R:Type) (d:Bool->Bool->LL->Int->Int->Int->Int->Int->LL->Option R),T7 LF n z t (C0 c) (s.done:Int) (a:Int) (m:Int) (s.delta:Int) (s.bias:Int) (i:Int) (s.out.map D7) d =
   d z t (C0 c) ((F7 m a (c.drop i) s).done:Int) (a:Int) (m:Int) ((F7 m a (c.drop i) s).delta:Int) ((F7 m a (c.drop i) s).bias:Int) ((F7 m a (c.drop i) s).out.map D7))/\
  (F7 m a (c.drop i) s).bias<=500/\(F7 m a (c.drop i) s).out.length<=s.out.length+20*(c.drop i).countP (· == m)/\(F7 m a (c.drop i) s).done=s.done+(c.drop i).countP (· == m)/\
  (F7 m a (c.drop i) s).delta<=(if 0<(c.drop i).countP (· == m) then r else s.delta+r):=by
 have S:=F9;intro r
 induction r with
 | zero=>
  intro i n s T U O B P Q C;obtain⟨n,rfl⟩:∃m,n=m+1:=⟨n-1,by omega⟩
  rw[b9 (by omega)];refine⟨λR d=>?_,B,by simp[F7],by simp[F7],by simp[F7]⟩;rw[T7];rw[C7,A6];rfl
 | succ r H=>
  intro i n s T U O B P Q C;obtain⟨n,rfl⟩:∃m,n=m+1:=⟨n-1,by omega⟩
  rw[Mq c i (by omega)];have F:=Pz c i (by omega);have ok:=Jk (l:=c) (i:=i) (by omega);have e:inR (i:Int) (C0 c).length=true:=M4 (by omega) (by rw[C7];omega);have f:ltI (i:Int) ((C0 c).length:Int)=true:=D0 (by rw[C7];omega);generalize c.getD i 0=p at *;have A:A2 ((i:Int)+1)=((i+1:Nat):Int):=by rw[A5];rfl
  have M:A2 ((s.delta:Int)+1)=((s.delta+1:Nat):Int):=by rw[A5];rfl
  have I:A2 ((s.done:Int)+1)=((s.done+1:Nat):Int):=by rw[A5];rfl
  by_cases G:p<m
  ·have g:(p==m)=false:=by rw[beq_eq_false_iff_ne];omega
   have u:F7 m a (p::c.drop (i+1)) s=F7 m a (c.drop (i+1)) { s with delta:=s.delta+1 }:=by rw[F7,if_pos G]
   obtain⟨v,w,x,y,h⟩:=H (i+1) n { s with delta:=s.delta+1 } (by omega) (by omega) (by simp only;omega) B (by simp only;omega) (by simp only;omega) C;rw[u,aa5 (by rw[g];simp)];refine⟨λR d=>?_,w,x,y,?_⟩
   ·rw[T7];rw[b8];simp only[e,f,ok,cond_true,vl,F,A,M];rw[A8,cond_true,show((p:Int)!=(m:Int))=true by rw[bne_iff_ne];omega,cond_true];exact v R d
   ·simp only at h;split at h<;>split<;>omega
  ·by_cases L:p=m
   ·subst L;have K:=Zn (q:=s.delta) (k:=0) (b:=s.bias) (by omega);have D:=Ho s.delta (s.done+1) (s.done==a) (by omega);have u:F7 p a (p::c.drop (i+1)) s=F7 p a (c.drop (i+1)) { delta:=0,bias:=M0 s.delta (s.done+1) (s.done==a),done:=s.done+1,out:=s.out++L3 s.delta 0 s.bias }:=by rw[F7,if_neg G,if_pos rfl]
    obtain⟨v,w,x,y,h⟩:=H (i+1) n { delta:=0,bias:=M0 s.delta (s.done+1) (s.done==a),done:=s.done+1,out:=s.out++L3 s.delta 0 s.bias } (by omega) (by omega) (by simp only;omega) D (by simp only[j0];omega) (by simp only;omega) C;obtain⟨W,pre,X,J,N⟩:=An8 z t (C0 c) (s.done:Int) (a:Int) (p:Int) (s.delta:Int) (i:Int) s.bias (by omega) 19 s.delta 0 LF (s.out.map D7) (by omega) (by omega) (by omega) (by omega) (by rw[o6];omega);rw[u,List.countP_cons_of_pos (by simp)];refine⟨λR d=>?_,w,?_,?_,?_⟩
    ·rw[T7];have j:((s.done:Int)==(a:Int))=(s.done==a):=by
      rw[ad1,beq_iff_eq,beq_iff_eq];omega
     rw[b8];simp only[e,f,ok,cond_true,vl,F,A,I];rw[A6,cond_false,bne_self_eq_false,cond_false];refine j4 (N R _) ?_;have V:pre.length+1=(L3 s.delta 0 s.bias).length:=by rw[J];simp
     rw[L7,b8,E9 (by rw[j0,o6,o6];omega)];simp only[vl,cond_true,A,I];rw[L7,L7,A8,j];simp only[cond_true,b8];have o:s.out.map D7++pre.map D7++[[SV.int .u8 (((T4 W).toNat:Nat):Int)]]=(s.out++L3 s.delta 0 s.bias).map D7:=by
      rw[J,aa7,aa7,x4];rfl
     rw[o];exact v R d
    ·simp only[j0] at x;omega
    ·simp only at y;omega
    ·simp only at h;rw[Kc];split at h<;>omega
   ·have g:(p==m)=false:=by rw[beq_eq_false_iff_ne];omega
    have u:F7 m a (p::c.drop (i+1)) s=F7 m a (c.drop (i+1)) s:=by rw[F7,if_neg G,if_neg L]
    obtain⟨v,w,x,y,h⟩:=H (i+1) n s (by omega) (by omega) (by omega) B (by omega) (by omega) C;rw[u,aa5 (by rw[g];simp)];refine⟨λR d=>?_,w,x,y,?_⟩
    ·rw[T7];rw[b8];simp only[e,f,ok,cond_true,vl,F,A];rw[A6,cond_false,show((p:Int)!=(m:Int))=true by rw[bne_iff_ne];omega,cond_true];exact v R d
    ·split at h<;>split<;>omega
theorem SL{R:Type}{k0:Bool->Bool->LL->Int->Int->Int->Int->Int->Int->LL->Option R}(z t:Bool)(a:List Nat)(q:a.length<=256)(n0:Nat)(b delta c done:Int)(l:LL):∀(r i n m:Nat),i+r=a.length->r<n->
  Dr LF n z t (C0 a) done b (n0:Int) delta c (m:Int) (i:Int) l k0=k0 z t (C0 a) done b (n0:Int) delta c ((F6 n0 (a.drop i) m:Nat):Int) l:=by
 intro r
 induction r with
 | zero=>
  intro i n m k o;obtain⟨n,rfl⟩:∃m,n=m+1:=⟨n-1,by omega⟩
  rw[Dr];rw[C7,A6,b9 (by omega)];rfl
 | succ r f=>
  intro i n m k o;obtain⟨n,rfl⟩:∃m,n=m+1:=⟨n-1,by omega⟩
  have j:=Pz a i (by omega);have ok:=Jk (l:=a) (i:=i) (by omega);have d:inR (i:Int) (C0 a).length=true:=M4 (by omega) (by rw[C7];omega);have e:ltI (i:Int) ((C0 a).length:Int)=true:=D0 (by rw[C7];omega);rw[Dr,Mq a i (by omega)];generalize a.getD i 0=p at *;have g:A2 ((i:Int)+1)=((i+1:Nat):Int):=by rw[A5];rfl
  rw[b8];simp only[d,e,ok,cond_true,vl,j,g,F6];by_cases h:n0<=p
  ·rw[if_pos h,A6,j6,cond_true];have:(if (p:Int)<(m:Int) then (p:Int) else (m:Int))=((min m p:Nat):Int):=by split<;>omega
   rw[this];exact f (i+1) n (min m p) (by omega) (by omega)
  ·rw[if_neg h,A8,j9,cond_false];exact f (i+1) n m (by omega) (by omega)
theorem An9(z t:Bool)(a:List Nat)(b:Nat)(B:a.length<=256)(T:b<=256)(i:∀p∈a,p<=1114111):∀(f n d:Nat) (s:BZ),s.done=a.countP (λp=>decide (p<n))->a.length<=s.done+f->f<d->s.delta<=300->s.bias<=500->s.out.length+20*(a.length-s.done)<=80000->n<=1114112->
  ∀(R:Type) (k0:LL->Option R),Bt LF d z t (C0 a) (s.done:Int) (b:Int) (n:Int) (s.delta:Int) (s.bias:Int) (s.out.map D7) k0=k0 ((M6 a b f n s).out.map D7):=by
 intro f;have S:=F9
 induction f with
 | zero=>
  intro n d s V X Y O y P Q R k0;obtain⟨d,rfl⟩:∃m,d=m+1:=⟨d-1,by omega⟩
  rw[Bt];rw[C7,A6];rfl
 | succ f Z=>
  intro n d s V X Y O y P Q R k0;obtain⟨d,rfl⟩:∃m,d=m+1:=⟨d-1,by omega⟩
  rw[Bt];rw[C7];have U:a.countP (λp=>decide (p<n))<=a.length:=x7;by_cases o:s.done<a.length
  ·obtain⟨v,g,q⟩:=OH (n:=n) (l:=a) (by omega);obtain⟨g1,g2,x⟩:=Aq n a 1114112;obtain⟨D,F,w⟩:=Aq n a 1073741824;have g4:=x v g q;have G:=w v g q;have g5:=i v g;have e:F6 n a 1114112∈a/\n<=F6 n a 1114112:=by grind
   have h:F6 n a 1073741824∈a/\n<=F6 n a 1073741824:=by grind
   have heq:F6 n a 1073741824=F6 n a 1114112:=by grind
   have W:M6 a b (f+1) n s=M6 a b f (F6 n a 1114112+1) { F7 (F6 n a 1114112) b a { s with delta:=s.delta+(F6 n a 1114112-n)*(s.done+1) } with delta:=(F7 (F6 n a 1114112) b a { s with delta:=s.delta+(F6 n a 1114112-n)*(s.done+1) }).delta+1 }:=by
    rw[M6,if_pos o]
   rw[W,A8,cond_true];have c:=λ(K:Bool->Bool->LL->Int->Int->Int->Int->Int->Int->LL->Option R)=>SL (k0:=K) z t a B n (b:Int) (s.delta:Int) (s.bias:Int) (s.done:Int) (s.out.map D7) a.length 0 LF 1073741824 (by omega) (by omega)
   rw[p6,heq] at c;refine j4 (c _) ?_;clear c heq D F w G h;generalize F6 n a 1114112=m at *;have C:(m-n)*(s.done+1)<=1114112*256:=Nat.mul_le_mul (by omega) (by omega);have H:A2 ((s.done:Int)+1)=((s.done+1:Nat):Int):=by rw[A5];rfl
   have I:A2 ((m:Int)-(n:Int))=((m-n:Nat):Int):=by rw[A5];omega
   have J:A2 (((m-n:Nat):Int)*((s.done+1:Nat):Int))=(((m-n)*(s.done+1):Nat):Int):=by
    rw[<-Int.natCast_mul];exact A5
   have L:A2 ((s.delta:Int)+(((m-n)*(s.done+1):Nat):Int))=((s.delta+(m-n)*(s.done+1):Nat):Int):=by
    rw[A5];rfl
   simp only[vl,H,I,J,L];have k:=A21 z t a b m (by omega) B a.length 0 LF { s with delta:=s.delta+(m-n)*(s.done+1) } (by omega) (by omega) (by simp only;omega) y (by simp only;omega) (by simp only;omega) T;rw[p6] at k;obtain⟨q1,q2,q3,q4,q5⟩:=k;refine j4 (q1 R _) ?_;have j:0<a.countP (· == m):=List.countP_pos_iff.2 ⟨m,e.1,by simp⟩;rw[if_pos j] at q5;have u:=Mi e.2 a x;generalize F7 m b a { s with delta:=s.delta+(m-n)*(s.done+1) } = r at *;simp only at q3 q4;have M:A2 ((r.delta:Int)+1)=((r.delta+1:Nat):Int):=by rw[A5];rfl
   have N:A2 ((m:Int)+1)=((m+1:Nat):Int):=by rw[A5];rfl
   have A:a.countP (λp=>decide (p<m+1))<=a.length:=x7;simp only[M,N];exact Z (m+1) d { r with delta:=r.delta+1 } (by simp only;omega) (by simp only;omega) (by omega) (by simp only;omega) q2 (by simp only;omega) (by omega) R k0
  ·rw[A6];rw[M6,if_neg o];rfl
theorem SE(z t:Bool)(P:List Int)(C:P.length<=256):∀(r i n:Nat) (out:By),i+r=P.length->r<n->out.length+r<=1000->
  ((P.drop i).all ptI=true->∀(R:Type) (a:LL->Option R) (b:Bool->Bool->LL->LL->Option R),P2 LF n z t (T9 P) (i:Int) (out.map D7) a b=b z t (T9 P) ((out++Q2 (P.drop i)).map D7))/\
  ((P.drop i).all ptI=false->∃l,∀(R:Type) (a:LL->Option R) (b:Bool->Bool->LL->LL->Option R),P2 LF n z t (T9 P) (i:Int) (out.map D7) a b=a l):=by
 intro r
 induction r with
 | zero=>
  intro i n out w y A;obtain⟨n,rfl⟩:∃m,n=m+1:=⟨n-1,by omega⟩
  rw[b9 (by omega)];refine⟨λ_ R a b=>?_,λh=>(by cases h)⟩;rw[P2];rw[P3,A6];simp[Q2]
 | succ r v=>
  intro i n out w y A;obtain⟨n,rfl⟩:∃m,n=m+1:=⟨n-1,by omega⟩
  have o:=PA P i (by omega);have ok:=FW (l:=P) (i:=i) (by omega);have f:inR (i:Int) (T9 P).length=true:=M4 (by omega) (by rw[P3];omega);have g:ltI (i:Int) ((T9 P).length:Int)=true:=D0 (by rw[P3];omega);rw[IS P i (by omega)];generalize P.getD i 0=x at *;have u:A2 ((i:Int)+1)=((i+1:Nat):Int):=by rw[A5];rfl
  cases j:ptI x with
  | false=>
   refine⟨λh=>?_,λ_=>⟨out.map D7,λR a b=>?_⟩⟩
   ·rw[aa3,j] at h;cases h
   ·rw[P2];rw[b8];simp only[f,g,ok,cond_true,vl,o,j,j6]
  | true=>
   obtain⟨B,D⟩:=Lp j;rw[aa3,j,u7];by_cases c:x<128
   ·have d:Q2 (x::P.drop (i+1))=aa1 x.toNat::Q2 (P.drop (i+1)):=by
     unfold Q2;rw[List.filter_cons_of_pos (by simpa using c)];rfl
    have k:out.map D7++[[SV.int .u8 (wu8 x)]]=(out++[aa1 x.toNat]).map D7:=by rw[Aq5 x B c];simp
    obtain⟨p,q⟩:=v (i+1) n (out++[aa1 x.toNat]) (by omega) (by omega) (by simp;omega);have step:∀(R:Type) (a:LL->Option R) (b:Bool->Bool->LL->LL->Option R),P2 LF (n+1) z t (T9 P) (i:Int) (out.map D7) a b=P2 LF n z t (T9 P) ((i+1:Nat):Int) ((out++[aa1 x.toNat]).map D7) a b:=by
     intro R a b;rw[P2];rw[b8];simp only[f,g,ok,cond_true,vl,o,j,j9,cond_false,u];rw[D0 c,o6,E9 (by omega),k];rfl
    refine⟨λh R a b=>?_,λh=>?_⟩
    ·rw[step,p h,d];simp
    ·obtain⟨l,e⟩:=q h;exact⟨l,λR a b=>by rw[step];exact e R a b⟩
   ·have d:Q2 (x::P.drop (i+1))=Q2 (P.drop (i+1)):=by
     unfold Q2;rw[List.filter_cons_of_neg (by simpa using c)]
    obtain⟨p,q⟩:=v (i+1) n out (by omega) (by omega) (by omega);have step:∀(R:Type) (a:LL->Option R) (b:Bool->Bool->LL->LL->Option R),P2 LF (n+1) z t (T9 P) (i:Int) (out.map D7) a b=P2 LF n z t (T9 P) ((i+1:Nat):Int) (out.map D7) a b:=by
     intro R a b;rw[P2];rw[b8];simp only[f,g,ok,cond_true,vl,o,j,j9,cond_false,u];rw[A6];rfl
    refine⟨λh R a b=>?_,λh=>?_⟩
    ·rw[step,p h,d]
    ·obtain⟨l,e⟩:=q h;exact⟨l,λR a b=>by rw[step];exact e R a b⟩
theorem SG(z t:Bool)(P:List Int):(Q7 P=([],3)/\∀(R:Type) (b:Unit->Option R) (f:By->Int->LL->Option R),KK LF z t (T9 P) b f=b ())\/
  (∃l,∀(R:Type) (b:Unit->Option R) (f:By->Int->LL->Option R),KK LF z t (T9 P) b f=f (Q7 P).1 ((Q7 P).2:Nat) l):=by
 have x:=F9;by_cases i:256<P.length
 ·refine .inl ⟨by unfold Q7;rw[if_pos i],λR b f=>?_⟩;unfold KK;rw[P3,A8];rfl
 ·right
  obtain⟨v,w⟩:=SE z t P (by omega) P.length 0 LF [] (by omega) (by omega) (by simp;omega);rw[p6] at v w;cases g:P.all ptI with
  | false=>
   obtain⟨l,e⟩:=w g;refine⟨l,λR b f=>?_⟩;unfold KK;rw[P3,A6,cond_false];refine j4 (e R _ _) ?_;unfold Q7;rw[if_neg i,g];rfl
  | true=>
   obtain⟨a,rfl,A,m⟩:=WR g;rw[o6] at i;have k:Q7 (a.map λn:Nat=>(n:Int))=Bl a:=by
    unfold Q7;rw[o6,if_neg i,g];simp[Function.comp_def]
   have j:=Ky a;have y:a.countP (λp=>decide (p<128))<=a.length:=x7;have main:∀(o:By),o.length<=300->∀(R:Type) (b:LL->Option R),Bt LF LF z t (C0 a) ((G0 a).length:Int) ((G0 a).length:Int) 128 0 72 (o.map D7) b=b ((M6 a (G0 a).length 256 128 { delta:=0,bias:=72,done:=(G0 a).length,out:=o }).out.map D7):=by
    intro o B R b;exact An9 z t a (G0 a).length (by omega) (by omega) m 256 128 LF { delta:=0,bias:=72,done:=(G0 a).length,out:=o } j (by simp only;omega) (by omega) (by simp) (by simp) (by simp only;omega) (by omega) R b
   have d:Bl a=((M6 a (G0 a).length 256 128 { delta:=0,bias:=72,done:=(G0 a).length,out:=if (G0 a).isEmpty then [] else G0 a++[45] }).out,0):=by
    unfold Bl;grind
   refine⟨(Bl a).1.map D7,λR b f=>?_⟩;unfold KK;rw[P3,o6,A6,cond_false,k];have r:=v g R;refine j4 (r _ _) ?_;rw[y5,Up,Ji];simp only[vl,o6];by_cases c:G0 a=[]
   ·rw[c,v7,A6,cond_false];have q:=main [] (by simp) R;rw[c,v7] at q;rw[ae3] at q;refine j4 (q _) ?_;rw[c] at d;rw[d];simp only[List.isEmpty_nil,if_true,v7];rw[Et,Fd];rfl
   ·have u:0<(G0 a).length:=ab5.2 c;rw[A8,cond_true,E9 (by omega),cond_true];have h:(G0 a).map D7++[[SV.int .u8 (45:Int)]]=(G0 a++[45]).map D7:=by rw[aa7];rfl
    rw[h];refine j4 (main (G0 a++[45]) (by simp;omega) R _) ?_;rw[d,if_neg (by simpa using c)];rw[Et,Fd];rfl
theorem A22(z t:Bool)(p:LL)(b:p.all Hz=true):∃r H,KK LF z t p (λ_=>rv (.tup [.s (.str []),.s (.int .i64 3)]) []) (λd e l=>rv (.tup [.s (.str d),.s (.int .i64 e)]) [.arr true 5 1 l])=rv r H/\
  r.stab [0,0] H = .tup [.s (.str (Q7 (p.map elI)).1),.s (.int .i64 ((Q7 (p.map elI)).2:Nat))]:=by
 obtain⟨P,rfl⟩:=VZ b;rw[IT];rcases SG z t P with⟨c,a⟩|⟨l,a⟩
 ·exact⟨_,_,a _ _ _,by rw[c];rfl⟩
 ·exact⟨_,_,a _ _ _,rfl⟩
theorem TJ{R:Type}{k0:Unit->Option R}{k1:By->Int->Option R}(s:By)(k:s.length<=1000000):∀(r i n cut:Nat),i+r=s.length->r<n->
  Au LF n s (cut:Int) (i:Int) k0 k1=if (s.drop i).any (λb=>p9 128 b.toNat) then k0 () else k1 s ((if 45∈s.drop i then i+E6 (s.drop i) else cut:Nat):Int):=by
 intro r
 induction r with
 | zero=>
  intro i n cut g j;obtain⟨n,rfl⟩:∃m,n=m+1:=⟨n-1,by omega⟩
  rw[Au];rw[A6,b9 (by omega)];rfl
 | succ r d=>
  intro i n cut g j;obtain⟨n,rfl⟩:∃m,n=m+1:=⟨n-1,by omega⟩
  rw[Au];have e:A2 ((i:Int)+1)=((i+1:Nat):Int):=by rw[A5];rfl
  rw[A8,K2,J1,J0 s i (by omega),e,ab7];simp only[cond_true];generalize s.getD i 0=b;by_cases h:128<=b.toNat
  ·rw[A6,Nat.ble_eq_true_of_le h];rfl
  ·have:p9 128 b.toNat=false:=by rw[o3,ne_eq,o8];exact h
   rw[A8,this,aa2,j9,cond_false];have f:((b.toNat:Int)==45)=(b==45):=T3 b 45 (by omega);rw[f];by_cases a:b=45
   ·subst a;rw[show((45:UInt8)==45)=true from rfl,cond_true];refine(d (i+1) n i (by omega) (by omega)).trans ?_;have c:(45:UInt8)∈45::s.drop (i+1):=by simp
    rw[if_pos c];have:(if (45:UInt8)∈s.drop (i+1) then i+1+E6 (s.drop (i+1)) else i)=i+E6 (45::s.drop (i+1)):=by
     rw[E6];grind
    rw[this]
   ·rw[show(b==45)=false from beq_eq_false_iff_ne.2 a,cond_false];refine(d (i+1) n cut (by omega) (by omega)).trans ?_;have c:((45:UInt8)∈b::s.drop (i+1))↔((45:UInt8)∈s.drop (i+1)):=by simp[Ne.symm a]
    have:(if (45:UInt8)∈s.drop (i+1) then i+1+E6 (s.drop (i+1)) else cut)=(if (45:UInt8)∈b::s.drop (i+1) then i+E6 (b::s.drop (i+1)) else cut):=by
     by_cases q:(45:UInt8)∈s.drop (i+1)
     ·rw[if_pos q,if_pos (c.2 q),E6,if_pos q];omega
     grind
    rw[this]
theorem TD{R:Type}{k0:By->Int->LL->Option R}(s:By)(q:s.length<=1000000)(k:Nat)(p:k<=s.length):∀(r i n:Nat) (l:List Nat),i+r=k->r<n->l.length=i->
  Db LF n s (k:Int) (i:Int) (C0 l) k0=k0 s (k:Int) (C0 (l++((s.take k).drop i).map (·.toNat))):=by
 intro r
 induction r with
 | zero=>
  intro i n l f h g;obtain⟨n,rfl⟩:∃m,n=m+1:=⟨n-1,by omega⟩
  rw[Db];rw[A6,b9 (by rw[j3];omega)];simp
 | succ r j=>
  intro i n l f h g;obtain⟨n,rfl⟩:∃m,n=m+1:=⟨n-1,by omega⟩
  rw[Db];have c:A2 ((i:Int)+1)=((i+1:Nat):Int):=by rw[A5];rfl
  have e:(s.take k).drop i=s.getD i 0::(s.take k).drop (i+1):=by
   rw[J0 (s.take k) i (by rw[j3];omega)]
   congr 1
   rw[j7,j7,p5 (by omega)]
  rw[A8,K2,J1,e,C7,E9 (by omega),c];simp only[cond_true];generalize s.getD i 0=b;have o:=b.toNat_lt;have d:A2 (b.toNat:Int)=(b.toNat:Int):=A5;have a:C0 l++[[SV.int .i64 (A2 (b.toNat:Int))]]=C0 (l++[b.toNat]):=by rw[d,Ig];rfl
  rw[a];refine(j (i+1) n _ (by omega) (by omega) (by simp;omega)).trans ?_;simp
theorem TG(s:By)(hs:s.length<=1000000)(out:LL)(f b e:Int)(l:LL)(Q:0<=b)(S:b<1000000):∀(r p n k:Nat) (i w:Int),p+r=s.length->r<n->0<=i->i<=1099511627776->0<=w->w<=1099511627776->k+r<=10000000->
  ((O4 b (s.drop p) i w ((36*k:Nat):Int)).1=0->∃o,p<o/\o<=s.length/\(O4 b (s.drop p) i w ((36*k:Nat):Int)).2.1=s.drop o/\∀(R:Type) (a:Int->LL->Option R) (d:By->LL->Int->Int->Int->Int->LL->Option R),P6 LF n s out (p:Int) f i b e w (k:Int) l a d=d s out (o:Int) f (O4 b (s.drop p) i w ((36*k:Nat):Int)).2.2 e l)/\
  ((O4 b (s.drop p) i w ((36*k:Nat):Int)).1≠0->∀(R:Type) (a:Int->LL->Option R) (d:By->LL->Int->Int->Int->Int->LL->Option R),P6 LF n s out (p:Int) f i b e w (k:Int) l a d=a (O4 b (s.drop p) i w ((36*k:Nat):Int)).1 l):=by
 intro r
 induction r with
 | zero=>
  intro p n k i w Y X V D G g W;obtain⟨n,rfl⟩:∃m,n=m+1:=⟨n-1,by omega⟩
  rw[b9 (by omega)];refine⟨λh=>by simp[O4] at h,λ_ R a d=>?_⟩;rw[P6];rw[A6];rfl
 | succ r ih=>
  intro p n k i w Y X V D G g W;obtain⟨n,rfl⟩:∃m,n=m+1:=⟨n-1,by omega⟩
  have T:=J0 s p (by omega);have C:=J1 s p;rw[T];generalize s.getD p 0=c at *;have Z:=Bz c;have ht:=Gq ((36*k:Nat):Int) b;have H:aa0 36 (k:Int)=((36*k:Nat):Int):=rfl;have K:A2 ((p:Int)+1)=((p+1:Nat):Int):=by rw[A5];rfl
  have L:A2 ((k:Int)+1)=((k+1:Nat):Int):=by rw[A5];rfl
  have start:∀(R:Type) (a:Int->LL->Option R) (d:By->LL->Int->Int->Int->Int->LL->Option R),P6 LF (n+1) s out (p:Int) f i b e w (k:Int) l a d =
    cond (ltI (C9 c) 0) (a 4 l)
     (vl (A2 (i+(A2 (C9 c*w)))) λj=>cond (ltI 1099511627776 j) (a 19 l)
      (cond (ltI (C9 c) (I6 ((36*k:Nat):Int) b)) (d s out ((p+1:Nat):Int) f j e l)
       (vl (A2 (36-(I6 ((36*k:Nat):Int) b))) λq=>cond (ltI 1099511627776 (A2 (w*q))) (a 19 l) (P6 LF n s out ((p+1:Nat):Int) f j b e (A2 (w*q)) ((k+1:Nat):Int) l a d)))):=by
   intro R a d;rw[P6];have U:=c.toNat_lt;rw[A8,K2,C,K2,Od,L7,L7,H,K,L];rfl
  unfold O4;by_cases y:C9 c<0
  ·rw[if_pos y];refine⟨λh=>by simp at h,λ_ R a d=>?_⟩;rw[start,D0 y];rfl
  ·rw[if_neg y];have hm:=Z4 (by omega) Z.2 G g;have u:A2 (C9 c*w)=C9 c*w:=A5;have v:A2 (i+C9 c*w)=i+C9 c*w:=A5;by_cases z:1099511627776<i+C9 c*w
   ·rw[if_pos z];refine⟨λh=>by simp at h,λ_ R a d=>?_⟩;rw[start,A6,u,v];simp only[vl,cond_false];rw[D0 z];rfl
   ·rw[if_neg z];by_cases A:C9 c<I6 ((36*k:Nat):Int) b
    ·rw[if_pos A];refine⟨λ_=>⟨p+1,by omega,by omega,rfl,λR a d=>?_⟩,λh=>absurd rfl h⟩;rw[start,A6,u,v];simp only[vl,cond_false];rw[A6,D0 A];rfl
    ·rw[if_neg A];have I:A2 (36-I6 ((36*k:Nat):Int) b)=36-I6 ((36*k:Nat):Int) b:=A5;have F:=Z4 (x:=36-I6 ((36*k:Nat):Int) b) (by omega) (by omega) G g;rw[ae1] at F;have J:A2 (w*(36-I6 ((36*k:Nat):Int) b))=w*(36-I6 ((36*k:Nat):Int) b):=A5;by_cases B:1099511627776<w*(36-I6 ((36*k:Nat):Int) b)
     ·rw[if_pos B];refine⟨λh=>by simp at h,λ_ R a d=>?_⟩;rw[start,A6,u,v];simp only[vl,cond_false];rw[A6,A6,I,J,D0 B];rfl
     ·rw[if_neg B];have M:((36*k:Nat):Int)+36=((36*(k+1):Nat):Int):=by omega
      rw[M];obtain⟨q1,q2⟩:=ih (p+1) n (k+1) (i+C9 c*w) (w*(36-I6 ((36*k:Nat):Int) b)) (by omega) (by omega) (by omega) (by omega) (by omega) (by omega) (by omega);have t:∀(R:Type) (a:Int->LL->Option R) (d:By->LL->Int->Int->Int->Int->LL->Option R),P6 LF (n+1) s out (p:Int) f i b e w (k:Int) l a d=P6 LF n s out ((p+1:Nat):Int) f (i+C9 c*w) b e (w*(36-I6 ((36*k:Nat):Int) b)) ((k+1:Nat):Int) l a d:=by simp_all
      refine⟨λh=>?_,λh R a d=>by rw[t];exact q2 h R a d⟩;obtain⟨o,g1,N,O,P⟩:=q1 h;exact⟨o,by omega,N,O,λR a d=>by rw[t];exact P R a d⟩
theorem TH(s:By)(hs:s.length<=1000000)(l:LL):∀(r p n k:Nat) (i w:Int),p+r=s.length->r<n->0<=i->i<=1099511627776->0<=w->w<=1099511627776->k+r<=10000000->
  ((O4 72 (s.drop p) i w ((36*k:Nat):Int)).1=0->∃f,p<f/\f<=s.length/\(O4 72 (s.drop p) i w ((36*k:Nat):Int)).2.1=s.drop f/\∀(R:Type) (a:Int->LL->Option R) (b:By->Int->Int->LL->Option R),P7 LF n s (p:Int) i w (k:Int) l a b=b s (f:Int) (O4 72 (s.drop p) i w ((36*k:Nat):Int)).2.2 l)/\
  ((O4 72 (s.drop p) i w ((36*k:Nat):Int)).1≠0->∀(R:Type) (a:Int->LL->Option R) (b:By->Int->Int->LL->Option R),P7 LF n s (p:Int) i w (k:Int) l a b=a (O4 72 (s.drop p) i w ((36*k:Nat):Int)).1 l):=by
 intro r
 induction r with
 | zero=>
  intro p n k i w T S P A C d Q;obtain⟨n,rfl⟩:∃m,n=m+1:=⟨n-1,by omega⟩
  rw[b9 (by omega)];refine⟨λh=>by simp[O4] at h,λ_ R a b=>?_⟩;rw[P7];rw[A6];rfl
 | succ r V=>
  intro p n k i w T S P A C d Q;obtain⟨n,rfl⟩:∃m,n=m+1:=⟨n-1,by omega⟩
  have N:=J0 s p (by omega);have z:=J1 s p;rw[N];generalize s.getD p 0=c at *;have U:=Bz c;have ht:=Gq ((36*k:Nat):Int) 72;have D:aa0 36 (k:Int)=((36*k:Nat):Int):=rfl;have H:A2 ((p:Int)+1)=((p+1:Nat):Int):=by rw[A5];rfl
  have I:A2 ((k:Int)+1)=((k+1:Nat):Int):=by rw[A5];rfl
  have start:∀(R:Type) (a:Int->LL->Option R) (b:By->Int->Int->LL->Option R),P7 LF (n+1) s (p:Int) i w (k:Int) l a b =
    cond (ltI (C9 c) 0) (a 4 l)
     (vl (A2 (i+(A2 (C9 c*w)))) λe=>cond (ltI 1099511627776 e) (a 19 l)
      (cond (ltI (C9 c) (I6 ((36*k:Nat):Int) 72)) (b s ((p+1:Nat):Int) e l)
       (vl (A2 (36-(I6 ((36*k:Nat):Int) 72))) λg=>cond (ltI 1099511627776 (A2 (w*g))) (a 19 l) (P7 LF n s ((p+1:Nat):Int) e (A2 (w*g)) ((k+1:Nat):Int) l a b)))):=by
   intro R a b;rw[P7];have O:=c.toNat_lt;rw[A8,K2,z,K2,Od,L7,L7,D,H,I];rfl
  unfold O4;by_cases t:C9 c<0
  ·rw[if_pos t];refine⟨λh=>by simp at h,λ_ R a b=>?_⟩;rw[start,D0 t];rfl
  ·rw[if_neg t];have Z:=Z4 (by omega) U.2 C d;have o:A2 (C9 c*w)=C9 c*w:=A5;have q:A2 (i+C9 c*w)=i+C9 c*w:=A5;by_cases u:1099511627776<i+C9 c*w
   ·rw[if_pos u];refine⟨λh=>by simp at h,λ_ R a b=>?_⟩;rw[start,A6,o,q];simp only[vl,cond_false];rw[D0 u];rfl
   ·rw[if_neg u];by_cases v:C9 c<I6 ((36*k:Nat):Int) 72
    ·rw[if_pos v];refine⟨λ_=>⟨p+1,by omega,by omega,rfl,λR a b=>?_⟩,λh=>absurd rfl h⟩;rw[start,A6,o,q];simp only[vl,cond_false];rw[A6,D0 v];rfl
    ·rw[if_neg v];have F:A2 (36-I6 ((36*k:Nat):Int) 72)=36-I6 ((36*k:Nat):Int) 72:=A5;have B:=Z4 (x:=36-I6 ((36*k:Nat):Int) 72) (by omega) (by omega) C d;rw[ae1] at B;have G:A2 (w*(36-I6 ((36*k:Nat):Int) 72))=w*(36-I6 ((36*k:Nat):Int) 72):=A5;by_cases y:1099511627776<w*(36-I6 ((36*k:Nat):Int) 72)
     ·rw[if_pos y];refine⟨λh=>by simp at h,λ_ R a b=>?_⟩;rw[start,A6,o,q];simp only[vl,cond_false];rw[A6,A6,F,G,D0 y];rfl
     ·rw[if_neg y];have J:((36*k:Nat):Int)+36=((36*(k+1):Nat):Int):=by omega
      rw[J];obtain⟨W,X⟩:=V (p+1) n (k+1) (i+C9 c*w) (w*(36-I6 ((36*k:Nat):Int) 72)) (by omega) (by omega) (by omega) (by omega) (by omega) (by omega) (by omega);have j:∀(R:Type) (a:Int->LL->Option R) (b:By->Int->Int->LL->Option R),P7 LF (n+1) s (p:Int) i w (k:Int) l a b=P7 LF n s ((p+1:Nat):Int) (i+C9 c*w) (w*(36-I6 ((36*k:Nat):Int) 72)) ((k+1:Nat):Int) l a b:=by simp_all
      refine⟨λh=>?_,λh R a b=>by rw[j];exact X h R a b⟩;obtain⟨f,Y,K,L,M⟩:=W h;exact⟨f,by omega,K,L,λR a b=>by rw[j];exact M R a b⟩
theorem AP(l:List Nat)(k:Nat):(C0 l).take k=C0 (l.take k):=by unfold C0;rw[List.map_take]
theorem AO(l:List Nat)(k:Nat):(C0 l).drop k=C0 (l.drop k):=by unfold C0;rw[List.map_drop]
theorem TF(s:By)(hs:s.length<=1000000)(l:LL):∀(r p f:Nat) (a:List Nat) (n i b:Nat),p+r=s.length->r<f->a.length<=256->n<=1114111->i<=1000->b<=500->
  ((F5 (s.drop p) a n i b false).2=0->∀(R:Type) (c:Int->LL->Option R) (d e:LL->LL->Option R),L1 LF f s (C0 a) (p:Int) (n:Int) (i:Int) (b:Int) l c d e=e (C0 (F5 (s.drop p) a n i b false).1) l)/\
  ((F5 (s.drop p) a n i b false).2≠0->(F5 (s.drop p) a n i b false).1=[]/\((∀(R:Type) (c:Int->LL->Option R) (d e:LL->LL->Option R),L1 LF f s (C0 a) (p:Int) (n:Int) (i:Int) (b:Int) l c d e=c ((F5 (s.drop p) a n i b false).2:Nat) l)\/
   ((F5 (s.drop p) a n i b false).2=3/\∃D,∀(R:Type) (c:Int->LL->Option R) (d e:LL->LL->Option R),L1 LF f s (C0 a) (p:Int) (n:Int) (i:Int) (b:Int) l c d e=d l D))):=by
 have a0:=F9;intro r
 induction r using ad2 with
 | _ r ih=>
  intro p f a n i b hp hf h2 h3 h4 h5;obtain⟨f,rfl⟩:∃m,f=m+1:=⟨f-1,by omega⟩
  by_cases hr:r=0
  ·rw[b9 (by omega),Y6];refine⟨λ_ R c d e=>?_,λh=>absurd rfl h⟩;rw[L1];rw[A6];rfl
  ·have q:s.drop p≠[]:=λh=>by
    have:=congrArg u4 h;rw[j2] at this;simp at this;omega
   obtain⟨z,H⟩:=TG s hs (C0 a) (n:Int) (b:Int) (i:Int) l (by omega) (by omega) r p LF 0 (i:Int) 1 hp (by omega) (by omega) (by omega) (by omega) (by omega) (by omega);obtain⟨F,G⟩:=Mp b (s.drop p) i 1 0;have y:O4 (b:Int) (s.drop p) (i:Int) 1 ((36*0:Nat):Int)=O4 (b:Int) (s.drop p) (i:Int) ((1:Nat):Int) ((36*0:Nat):Int):=rfl;rw[y] at z H;by_cases o:(C8 b (s.drop p) i 1 0).2.2=0
   ·rw[Am q a n i b false o];have T:=G o;have K:(O4 (b:Int) (s.drop p) (i:Int) ((1:Nat):Int) ((36*0:Nat):Int)).1=0:=by rw[F,o];rfl
    obtain⟨v,a1,a2,w,x⟩:=z K;obtain⟨L,O,_⟩:=Mo (b:Int) (s.drop p) (i:Int) ((1:Nat):Int) ((36*0:Nat):Int) (by omega) (by omega) (by omega) K;rw[T] at L O w x;simp only at L O w x;rw[w];generalize (C8 b (s.drop p) i 1 0).1=X at *;have el:A2 (((C0 a).length:Int)+1)=((a.length+1:Nat):Int):=by rw[C7,A5];rfl
    have U:A2 ((X:Int)-(i:Int))=((X-i:Nat):Int):=by rw[A5];omega
    have Z:r9 (X:Int) ((a.length+1:Nat):Int)=((X / (a.length+1):Nat):Int):=K5 _ _;have em:o9 (X:Int) ((a.length+1:Nat):Int)=((X % (a.length+1):Nat):Int):=Fi _ _;have a5:X / (a.length+1)<=X:=v8 _ _;have J:=ad7 X (show 0<a.length+1 by omega);have A:=Ho (X-i) (a.length+1) false (by omega);generalize hQ:X / (a.length+1)=Q at *;generalize hM:X % (a.length+1)=M at *;have V:A2 (Q:Int)=(Q:Int):=A5;have W:A2 ((n:Int)+(Q:Int))=((n+Q:Nat):Int):=by rw[A5];rfl
    have Y:A2 ((M:Int)+1)=((M+1:Nat):Int):=by rw[A5];rfl
    have C:(((a.length+1:Nat):Int)!=0)=true:=by rw[bne_iff_ne];omega
    have P:cut (C0 a) 0 (M:Int)=C0 (a.take M):=by rw[Al,b8,AP]
    have S:cut (C0 a) (M:Int) ((C0 a).length:Int)=C0 (a.drop M):=by rw[N7,b8,AO]
    have t:∀N:Nat,C0 (a.take M)++[[SV.int .i64 (N:Int)]]++C0 (a.drop M)=C0 (P4 a M N):=λN=>by
     unfold P4;rw[Ig,x4];rfl
    have start:∀(R:Type) (c:Int->LL->Option R) (d e:LL->LL->Option R),L1 LF (f+1) s (C0 a) (p:Int) (n:Int) (i:Int) (b:Int) l c d e =
      cond (not (Ba (n+Q))) (c 2 l) (cond (ltI 256 ((a.length+1:Nat):Int)) (d l (C0 (P4 a M (n+Q))))
       (L1 LF f s (C0 (P4 a M (n+Q))) (v:Int) ((n+Q:Nat):Int) ((M+1:Nat):Int) ((M0 (X-i) (a.length+1) false:Nat):Int) l c d e)):=by
     intro R c d e;rw[L1];rw[A8,cond_true];refine(x R _ _).trans ?_;have s1:N3 (0:Int) (M:Int) (C0 a).length=true:=R4 (by omega) (by omega) (by rw[C7];omega);have s2:N3 (M:Int) ((C0 a).length:Int) (C0 a).length=true:=R4 (by omega) (by rw[C7];omega) (by omega);have t1:ltN ((X-i:Nat):Int) 1152921504606846976=true:=L7;have t2:ltN ((a.length+1:Nat):Int) 1000000=true:=L7;have t3:ltI 0 ((a.length+1:Nat):Int)=true:=A8;have l1:(C0 (a.take M)).length=M:=by rw[C7,j3];omega
     have l2:(C0 (a.drop M)).length=a.length-M:=by rw[C7,j2]
     have r1:G1 (0+(C0 (a.take M)).length)=true:=E9 (by omega);have r2:G1 ((C0 (a.take M)).length+1)=true:=E9 (by omega);have r3:G1 ((C0 (a.take M)++[[SV.int .i64 ((n+Q:Nat):Int)]]).length+(C0 (a.drop M)).length)=true:=E9 (by rw[j0,c9];omega);have l3:(C0 (P4 a M (n+Q))).length=a.length+1:=by rw[C7,V3]
     simp only[vl,el,U,Z,em,V,W,Y,C,s1,s2,t1,t2,t3,P,S,r1,r2,r3,t,l3,cond_true,b8,Gj]
    cases g:Ba (n+Q) with
    | false=>
     rw[if_neg (by simp)];refine⟨λh=>by simp at h,λ_=>⟨rfl,.inl λR c d e=>?_⟩⟩;rw[start,g];rfl
    | true=>
     rw[if_pos rfl];by_cases I:256<a.length+1
     ·rw[if_pos I];refine⟨λh=>by simp at h,λ_=>⟨rfl,.inr ⟨rfl,C0 (P4 a M (n+Q)),λR c d e=>?_⟩⟩⟩;rw[start,g,A8];rfl
     ·rw[if_neg I];have B:n+Q<=1114111:=by
       unfold Ba at g;simp only[j8,o8] at g;exact g.1
      have k:∀(R:Type) (c:Int->LL->Option R) (d e:LL->LL->Option R),L1 LF (f+1) s (C0 a) (p:Int) (n:Int) (i:Int) (b:Int) l c d e=L1 LF f s (C0 (P4 a M (n+Q))) (v:Int) ((n+Q:Nat):Int) ((M+1:Nat):Int) ((M0 (X-i) (a.length+1) false:Nat):Int) l c d e:=by
       intro R c d e;rw[start,g,A6];rfl
      obtain⟨z1,z2⟩:=ih (s.length-v) (by omega) v f (P4 a M (n+Q)) (n+Q) (M+1) (M0 (X-i) (a.length+1) false) (by omega) (by omega) (by rw[V3];omega) B (by omega) A;refine⟨λh R c d e=>by rw[k];exact z1 h R c d e,λh=>?_⟩;obtain⟨y1,u⟩:=z2 h;refine⟨y1,?_⟩;rcases u with u|⟨u,D,y3⟩
      ·exact .inl λR c d e=>by rw[k];exact u R c d e
      ·exact .inr ⟨u,D,λR c d e=>by rw[k];exact y3 R c d e⟩
   ·rw[Cn q a n i b false o];clear z G;refine⟨λh=>absurd h o,λ_=>⟨rfl,.inl λR c d e=>?_⟩⟩;rw[L1];rw[A8,cond_true];have j:=congrArg Prod.fst F;simp only at j;refine(H (by rw[j];omega) R _ _).trans ?_;rw[j]
theorem XS:∀(r:Nat) (s:By) (a:List Nat) (n i b:Nat) (f:Bool),s.length<=r->0<a.length->(F5 s a n i b f).2=0->(F5 s a n i b f).1≠[]:=by
 intro r
 induction r with
 | zero=>
  intro s a n i b f d l h;obtain rfl:=x3.1 (Nat.le_zero.1 d);rw[Y6];grind
 | succ r m=>
  intro s a n i b f d l h;by_cases e:s=[]
  ·grind
  ·by_cases c:(C8 b s i 1 0).2.2=0
   ·rw[Am e a n i b f c] at h ⊢;split at h
    ·rename_i g;rw[if_pos g];split at h
     ·omega
     ·rename_i j;rw[if_neg j];have k:=Iy b s i 1 0 c;exact m _ _ _ _ _ _ (by omega) (by rw[V3];omega) h
    omega
   ·rw[Cn e a n i b f c] at h;omega
theorem TE(s:By)(K:s.length<=1000000)(p:Nat)(a:List Nat)(h2:a.length<=256)(hp:p<=s.length) :
  (s.drop p=[]/\∀(R:Type) (b:Int->LL->Option R) (c d:LL->LL->Option R) (g:LL->Option R),I3 LF LF s (p:Int) (C0 a) b c d g=g (C0 a))\/
  ((F5 (s.drop p) a 128 0 72 true).2=0/\(F5 (s.drop p) a 128 0 72 true).1≠[]/\∀(R:Type) (b:Int->LL->Option R) (c d:LL->LL->Option R) (g:LL->Option R),I3 LF LF s (p:Int) (C0 a) b c d g=d (C0 (F5 (s.drop p) a 128 0 72 true).1) (C0 a))\/
  ((F5 (s.drop p) a 128 0 72 true).1=[]/\((∀(R:Type) (b:Int->LL->Option R) (c d:LL->LL->Option R) (g:LL->Option R),I3 LF LF s (p:Int) (C0 a) b c d g=b ((F5 (s.drop p) a 128 0 72 true).2:Nat) (C0 a))\/
   ((F5 (s.drop p) a 128 0 72 true).2=3/\∃F,∀(R:Type) (b:Int->LL->Option R) (c d:LL->LL->Option R) (g:LL->Option R),I3 LF LF s (p:Int) (C0 a) b c d g=c (C0 a) F))):=by
 have a0:=F9;obtain⟨f,B⟩:∃m,LF=m+1:=⟨LF-1,by omega⟩
 by_cases hr:s.length<=p
 ·refine .inl ⟨b9 hr,λR b c d g=>?_⟩;have e:I3 LF LF s (p:Int) (C0 a) b c d g=I3 LF (f+1) s (p:Int) (C0 a) b c d g:=by rw[<-B]
  rw[e,I3];rw[A6];rfl
 ·right
  have o:s.drop p≠[]:=λh=>by
   have:=congrArg u4 h;grind
  obtain⟨u,y⟩:=TH s K (C0 a) (s.length-p) p LF 0 0 1 (by omega) (by omega) (by omega) (by omega) (by omega) (by omega) (by omega);obtain⟨G,x⟩:=Mp 72 (s.drop p) 0 1 0;have n:O4 72 (s.drop p) 0 1 ((36*0:Nat):Int)=O4 ((72:Nat):Int) (s.drop p) ((0:Nat):Int) ((1:Nat):Int) ((36*0:Nat):Int):=rfl;rw[n] at u y;by_cases A:(C8 72 (s.drop p) 0 1 0).2.2=0
  ·rw[Am o a 128 0 72 true A];have H:=x A;have k:(O4 ((72:Nat):Int) (s.drop p) ((0:Nat):Int) ((1:Nat):Int) ((36*0:Nat):Int)).1=0:=by grind
   obtain⟨r,a1,a2,v,w⟩:=u k;obtain⟨L,O,_⟩:=Mo ((72:Nat):Int) (s.drop p) ((0:Nat):Int) ((1:Nat):Int) ((36*0:Nat):Int) (by omega) (by omega) (by omega) k;rw[H] at L O v w;simp only at L O v w;clear u y G x H k n;rw[v];generalize (C8 72 (s.drop p) 0 1 0).1=X at *;have Z:A2 (((C0 a).length:Int)+1)=((a.length+1:Nat):Int):=by rw[C7,A5];rfl
   have T:A2 ((X:Int)-0)=(X:Int):=by rw[A5];omega
   have Y:r9 (X:Int) ((a.length+1:Nat):Int)=((X / (a.length+1):Nat):Int):=K5 _ _;have em:o9 (X:Int) ((a.length+1:Nat):Int)=((X % (a.length+1):Nat):Int):=Fi _ _;have a5:X / (a.length+1)<=X:=v8 _ _;have J:=ad7 X (show 0<a.length+1 by omega);have z:=Ho X (a.length+1) true (by omega);generalize hQ:X / (a.length+1)=Q at *;generalize hM:X % (a.length+1)=M at *;have U:A2 (Q:Int)=(Q:Int):=A5;have V:A2 ((128:Int)+(Q:Int))=((128+Q:Nat):Int):=by rw[A5];rfl
   have W:A2 ((M:Int)+1)=((M+1:Nat):Int):=by rw[A5];rfl
   have D:(((a.length+1:Nat):Int)!=0)=true:=by rw[bne_iff_ne];omega
   have P:x8 (M-0) (y7 0 (C0 a))=C0 (a.take M):=by rw[ae8,p6,AP]
   have S:x8 ((C0 a).length-M) (y7 M (C0 a))=C0 (a.drop M):=by
    rw[x6 (by rw[j2];omega),AO]
   have q:∀N:Nat,C0 (a.take M)++[[SV.int .i64 (N:Int)]]++C0 (a.drop M)=C0 (P4 a M N):=λN=>by
    unfold P4;rw[Ig,x4];rfl
   have start:∀(R:Type) (b:Int->LL->Option R) (c d:LL->LL->Option R) (g:LL->Option R),I3 LF LF s (p:Int) (C0 a) b c d g =
     cond (not (Ba (128+Q))) (b 2 (C0 a)) (cond (ltI 256 ((a.length+1:Nat):Int)) (c (C0 a) (C0 (P4 a M (128+Q))))
      (L1 LF f s (C0 (P4 a M (128+Q))) (r:Int) ((128+Q:Nat):Int) ((M+1:Nat):Int) ((M0 X (a.length+1) true:Nat):Int) (C0 a) b c d)):=by
    intro R b c d g;have e:I3 LF LF s (p:Int) (C0 a) b c d g=I3 LF (f+1) s (p:Int) (C0 a) b c d g:=by rw[<-B]
    rw[e,I3];rw[A8,cond_true];refine(w R _ _).trans ?_;have s1:N3 (0:Int) (M:Int) (C0 a).length=true:=R4 (by omega) (by omega) (by rw[C7];omega);have s2:N3 (M:Int) ((C0 a).length:Int) (C0 a).length=true:=R4 (by omega) (by rw[C7];omega) (by omega);have t1:ltN (X:Int) 1152921504606846976=true:=L7;have t2:ltN ((a.length+1:Nat):Int) 1000000=true:=L7;have t3:ltI 0 ((a.length+1:Nat):Int)=true:=A8;have l1:(C0 (a.take M)).length=M:=by rw[C7,j3];omega
    have l2:(C0 (a.drop M)).length=a.length-M:=by rw[C7,j2]
    have r1:G1 (0+(C0 (a.take M)).length)=true:=E9 (by omega);have r2:G1 ((C0 (a.take M)).length+1)=true:=E9 (by omega);have r3:G1 ((C0 (a.take M)++[[SV.int .i64 ((128+Q:Nat):Int)]]).length+(C0 (a.drop M)).length)=true:=E9 (by rw[j0,c9];omega);have l3:(C0 (P4 a M (128+Q))).length=a.length+1:=by rw[C7,V3]
    simp only[vl,Z,T,Y,em,U,V,W,D,s1,s2,t1,t2,t3,b8,P,S,r1,r2,r3,q,l3,cond_true,Gj]
   cases j:Ba (128+Q) with
   | false=>
    rw[if_neg (by simp)];refine .inr ⟨rfl,.inl λR b c d g=>?_⟩;rw[start,j];rfl
   | true=>
    rw[if_pos rfl];by_cases I:256<a.length+1
    ·rw[if_pos I];refine .inr ⟨rfl,.inr ⟨rfl,C0 (P4 a M (128+Q)),λR b c d g=>?_⟩⟩;rw[start,j,A8];rfl
    ·rw[if_neg I];have C:128+Q<=1114111:=by
      unfold Ba at j;simp_all
     have l:∀(R:Type) (b:Int->LL->Option R) (c d:LL->LL->Option R) (g:LL->Option R),I3 LF LF s (p:Int) (C0 a) b c d g=L1 LF f s (C0 (P4 a M (128+Q))) (r:Int) ((128+Q:Nat):Int) ((M+1:Nat):Int) ((M0 X (a.length+1) true:Nat):Int) (C0 a) b c d:=by
      intro R b c d g;rw[start,j,A6];rfl
     obtain⟨z1,z2⟩:=TF s K (C0 a) (s.length-r) r f (P4 a M (128+Q)) (128+Q) (M+1) (M0 X (a.length+1) true) (by omega) (by omega) (by rw[V3];omega) C (by omega) z;have hX:X-0=X:=ae8 X;rw[hX];by_cases k:(F5 (s.drop r) (P4 a M (128+Q)) (128+Q) (M+1) (M0 X (a.length+1) true) false).2=0
     ·refine .inl ⟨k,?_,λR b c d g=>by rw[l];exact z1 k R b c d⟩;exact XS _ _ _ _ _ _ _ (ac9 _) (by rw[V3];omega) k
     ·obtain⟨y1,t⟩:=z2 k;refine .inr ⟨y1,?_⟩;rcases t with t|⟨t,F,y3⟩
      ·exact .inl λR b c d g=>by rw[l];exact t R b c d
      ·exact .inr ⟨t,F,λR b c d g=>by rw[l];exact y3 R b c d⟩
  ·rw[Cn o a 128 0 72 true A];clear u x;refine .inr ⟨rfl,.inl λR b c d g=>?_⟩;have e:I3 LF LF s (p:Int) (C0 a) b c d g=I3 LF (f+1) s (p:Int) (C0 a) b c d g:=by rw[<-B]
   rw[e,I3];rw[A8,cond_true];have i:=congrArg Prod.fst G;simp only at i;refine(y (by rw[i];omega) R _ _).trans ?_;rw[i]
theorem Ao7(s:By)(L:A3 s.length=true):∃r H,WZ LF s (λg e=>rv (.tup [.fl 0,.s (.int .i64 g)]) [.arr true 3 1 e]) (λg e=>rv (.tup [.fl 1,.s (.int .i64 g)]) [.arr true 3 1 e,.arr true 3 1 []]) (λw e=>rv (.tup [.fl 2,.s (.int .i64 (3:Int))]) [.arr true 3 1 w,.arr false 3 1 e,.arr true 3 1 []]) (λg e=>rv (.tup [.s (.sl false false 1 g),.s (.int .i64 (0:Int))]) [.arr true 3 1 e])=rv r H/\
  r.stab [1,0] H = .tup [.s (.sl (J9 s).1.isEmpty (J9 s).1.isEmpty 1 (Sl (J9 s).1)),.s (.int .i64 ((J9 s).2:Nat))]:=by
 have F:=F9;unfold WZ J9;by_cases y:1024<s.length
 ·rw[if_pos y,A8];exact⟨_,_,rfl,rfl⟩
 ·rw[if_neg y,A6,cond_false];have asc:=λ(R:Type) (B:Unit->Option R) (C:By->Int->Option R)=>TJ (k0:=B) (k1:=C) s (by omega) s.length 0 LF 0 (by omega) (by omega)
  rw[p6] at asc;cases x:s.any (λb=>p9 128 b.toNat) with
  | true=>
   rw[if_pos rfl];refine⟨.tup [.fl 0,.s (.int .i64 4)],[.arr true 3 1 []],(asc _ _ _).trans ?_,rfl⟩;rw[x,if_pos rfl]
  | false=>
   rw[if_neg (by simp)];obtain⟨J,D⟩:=Ib s;have G:=Ic s;have o:(if (45:UInt8)∈s then 0+E6 s else 0)=E6 s:=by
    split
    ·omega
    ·rename_i h;exact(D h).2.symm
   rw[x,o] at asc;have c:=λ(R:Type) (K:By->Int->LL->Option R)=>TD (k0:=K) s (by omega) (E6 s) (by omega) (E6 s) 0 LF [] (by omega) (by omega) rfl
   rw[p6] at c;have f:((s.take (E6 s)).map (·.toNat)).length=E6 s:=by rw[o6,j3];omega
   generalize M:E6 s=m at *;generalize z:(s.take m).map (·.toNat)=d at *;by_cases j:256<m
   ·rw[if_pos j];refine⟨.tup [.fl 1,.s (.int .i64 3)],[.arr true 3 1 (C0 d),.arr true 3 1 []],(asc _ _ _).trans ?_,rfl⟩;rw[if_neg (by simp)];refine(c _ _).trans ?_;rw[y5,C7,f,A8];rfl
   ·rw[if_neg j];have n:∀p:Nat,p<=s.length->∀(X:Option (PV × List Blk × Unit)),X=I3 LF LF s (p:Int) (C0 d) (λg e=>rv (.tup [.fl 1,.s (.int .i64 g)]) [.arr true 3 1 e,.arr true 3 1 []]) (λw e=>rv (.tup [.fl 2,.s (.int .i64 (3:Int))]) [.arr true 3 1 w,.arr false 3 1 e,.arr true 3 1 []]) (λg e=>rv (.tup [.s (.sl false false 1 g),.s (.int .i64 (0:Int))]) [.arr true 3 1 e]) (λl=>rv (.tup [.fl 0,.s (.int .i64 0)]) [.arr true 3 1 l])->
      ∃r H,X=rv r H/\r.stab [1,0] H = .tup [.s (.sl (F5 (s.drop p) d 128 0 72 true).1.isEmpty (F5 (s.drop p) d 128 0 72 true).1.isEmpty 1 (Sl (F5 (s.drop p) d 128 0 72 true).1)),.s (.int .i64 ((F5 (s.drop p) d 128 0 72 true).2:Nat))]:=by
     intro p I X q;rcases TE s (by omega) p d (by omega) I with⟨i,k⟩|⟨i,t,k⟩|⟨i,k|⟨t,N,k⟩⟩
     ·refine⟨_,_,q.trans (k _ _ _ _ _),?_⟩;rw[i,Y6,Fe];simp[PV.stab,Py,Sj,PV.snap,N1,Nf]
     ·refine⟨_,_,q.trans (k _ _ _ _ _),?_⟩;rw[i,Fe];have:(F5 (s.drop p) d 128 0 72 true).1.isEmpty=false:=by
       cases h:(F5 (s.drop p) d 128 0 72 true).1 with
       | nil=>exact absurd h t
       | cons a r=>rfl
      rw[this];rfl
     ·refine⟨_,_,q.trans (k _ _ _ _ _),?_⟩;rw[i];rfl
     ·refine⟨_,_,q.trans (k _ _ _ _ _),?_⟩;rw[i,t];rfl
    by_cases A:m=0
    ·subst A;rw[if_pos rfl];have:=n 0 (by omega) _ rfl;rw[p6] at this;obtain⟨r,H,u,v⟩:=this;refine⟨r,H,(asc _ _ _).trans ?_,v⟩;rw[if_neg (by simp)];refine(c _ _).trans ?_;rw[y5,C7,f,A6,cond_false,A6,cond_false];exact u
    ·rw[if_neg A];obtain⟨r,H,u,v⟩:=n (m+1) (by omega) _ rfl;refine⟨r,H,(asc _ _ _).trans ?_,v⟩;rw[if_neg (by simp)];refine(c _ _).trans ?_;have i:A2 ((m:Int)+1)=((m+1:Nat):Int):=by rw[A5];rfl
     rw[y5,C7,f,A6,cond_false,A8,cond_true,i];exact u
theorem TK{R:Type}{a:Unit->Option R}{d:By->Bool->LL->Bool->Option R}(s:By)(z:Bool)(p:List Nat)(t:p.length<=1000000000):∀(r i n:Nat) (b:Bool),i+r=p.length->r<n->
  R2 LF n s z (C0 p) b (i:Int) a d=if (p.drop i).any (λp=>p9 65 p&&p9 p 90) then a () else d s z (C0 p) (b||((p.drop i).any λp=>p9 128 p)):=by
 intro r
 induction r with
 | zero=>
  intro i n b h j;obtain⟨n,rfl⟩:∃m,n=m+1:=⟨n-1,by omega⟩
  rw[R2];rw[C7,A6,b9 (by omega)];simp
 | succ r k=>
  intro i n b h j;obtain⟨n,rfl⟩:∃m,n=m+1:=⟨n-1,by omega⟩
  rw[R2];have f:A2 ((i:Int)+1)=((i+1:Nat):Int):=by rw[A5];rfl
  have g:p.drop i=p.getD i 0::p.drop (i+1):=by
   rw[j7,p4 (by omega),x9,x5]
  rw[C7,A8,K2,b8,Jk (by omega),Pz _ _ (by omega),g,ab7,ab7,f];simp only[cond_true];generalize p.getD i 0=q;have go:∀c:Bool,R2 LF n s z (C0 p) c ((i+1:Nat):Int) a d=_:=λc=>k (i+1) n c (by omega) (by omega)
  simp only[go];by_cases l:q<65
  ·rw[show ltI (q:Int) (65:Int)=true from A8,show p9 65 q=false by rw[o3,ne_eq,o8];omega];have e:p9 128 q=false:=by rw[o3,ne_eq,o8];omega
   rw[show ltI (q:Int) (128:Int)=true from A8,e];cases b<;>simp
  ·rw[show ltI (q:Int) (65:Int)=false from A6,show p9 65 q=true by rw[o8];omega];by_cases e:90<q
   ·rw[show ltI (90:Int) (q:Int)=true from A8,show p9 q 90=false by rw[o3,ne_eq,o8];omega];by_cases o:q<128
    ·rw[show ltI (q:Int) (128:Int)=true from A8,show p9 128 q=false by rw[o3,ne_eq,o8];omega];cases b<;>simp
    ·rw[show ltI (q:Int) (128:Int)=false from A6,show p9 128 q=true by rw[o8];omega];cases b<;>simp
   ·rw[show ltI (90:Int) (q:Int)=false from A6,show p9 q 90=true by rw[o8];omega];cases b<;>simp
theorem TL{R:Type}{a:Bool->Option R}(s:By)(b:A3 s.length=true):XC LF s a=a (Ae s):=by
 have c:=F9;unfold XC Ae;rw[b,cond_true];simp only[vl];by_cases h:(J9 s).2=0
 ·have e:(((J9 s).2:Int)!=(0:Int))=false:=by rw[h];rfl
  rw[e,cond_false,Fe,h];have g:=IP s;refine j4 (TK s _ (J9 s).1 (by omega) (J9 s).1.length 0 LF false (by omega) (by omega)) ?_;rw[p6];cases d:(J9 s).1.any (λp=>p9 65 p&&p9 p 90) with
  | true=>simp
  | false=>
   rw[if_neg (by simp),Ec,Vj,Vk];simp only[cond_true,vl,aa2,j6];by_cases f:(Bl (J9 s).1).2=0;all_goals grind
 grind
theorem SO{R:Type}{g:Unit->Option R}{j:By->Option R}(s:By)(v:s.length<=1000000000):∀(r i n:Nat),i+r=s.length->r<n->
  K4 LF n s (i:Int) g j=if (s.drop i).all S6 then j s else g ():=by
 intro r
 induction r with
 | zero=>
  intro i n l c;obtain⟨n,rfl⟩:∃m,n=m+1:=⟨n-1,by omega⟩
  rw[K4];rw[A6,b9 (by omega)];rfl
 | succ r o=>
  intro i n l c;obtain⟨n,rfl⟩:∃m,n=m+1:=⟨n-1,by omega⟩
  rw[K4];have k:A2 ((i:Int)+1)=((i+1:Nat):Int):=by rw[A5];rfl
  rw[A8,K2,J1,J0 s i (by omega),k,aa3];simp only[cond_true];rw[o (i+1) n (by omega) (by omega)];generalize s.getD i 0=b;have f:=Rk b;have t:((b.toNat:Int)==45)=(b==45):=T3 b 45 (by omega);have u:((b.toNat:Int)==95)=(b==95):=T3 b 95 (by omega);rw[t,u];cases a:S6 b with
  | true=>
   rw[f] at a;simp only[u7];by_cases d:b=45
   ·subst d;simp (disch:=decide) [ltI]
   ·by_cases e:b=95
    ·subst e;simp (disch:=decide) [ltI]
    ·rcases a with a|a|a|a
     ·rw[show ltI (b.toNat:Int) 97=false from A6,show ltI (122:Int) b.toNat=false from A6];rfl
     ·rw[show ltI (b.toNat:Int) 97=true from A8,show ltI (b.toNat:Int) 48=false from A6,show ltI (57:Int) b.toNat=false from A6];rfl
     ·exact absurd a d
     ·exact absurd a e
  | false=>
   have c:¬((97<=b.toNat/\b.toNat<=122)\/(48<=b.toNat/\b.toNat<=57)\/b=45\/b=95):=λh=>by rw[f.2 h] at a;cases a
   have p:(b==45)=false:=by simpa using λh=>c (.inr (.inr (.inl h)))
   have q:(b==95)=false:=by simpa using λh=>c (.inr (.inr (.inr h)))
   rw[p,q];simp only[j6,cond_true,cond_false,ad3,ab9,if_false];by_cases d:b.toNat<48
   ·rw[show ltI (b.toNat:Int) 97=true from A8,show ltI (b.toNat:Int) 48=true from A8];rfl
   ·by_cases e:b.toNat<97
    ·rw[show ltI (b.toNat:Int) 97=true from A8,show ltI (b.toNat:Int) 48=false from A6,show ltI (57:Int) b.toNat=true from A8];rfl
    ·rw[show ltI (b.toNat:Int) 97=false from A6,show ltI (122:Int) b.toNat=true from A8,show ltI (b.toNat:Int) 48=false from A6,show ltI (57:Int) b.toNat=true from A8];rfl
theorem Aq0(s:By)(h:4<=s.length):(s.take 4==([120,110,45,45]:List UInt8))=xnB.isPrefixOf s:=by
 match s,h with
 | a::b::c::d::t,_=>
  simp only[List.take_succ_cons,List.take_zero,xnB,List.isPrefixOf,ab6];rw[show((a::b::c::d::[])==([120,110,45,45]:List UInt8))=(a==120&&(b==110&&(c==45&&(d==45&&true)))) from rfl,ab6];rw[ad1];simp only[j8,beq_iff_eq];exact⟨λh=>⟨h.1.symm,h.2.1.symm,h.2.2.1.symm,h.2.2.2.symm⟩,λh=>⟨h.1.symm,h.2.1.symm,h.2.2.1.symm,h.2.2.2.symm⟩⟩
theorem SP{R:Type}{c:Bool->Option R}(s:By)(e:A3 s.length=true):WW LF s c=c (N5 s):=by
 have k:=N6 e;have i:=F9;unfold WW N5;by_cases a:s=[]
 ·grind
 ·have r:0<s.length:=ab5.2 a;have j:s.isEmpty=false:=by simpa using a
  have b:(s==([]:List UInt8))=false:=by simpa using a
  rw[b,cond_false,j];by_cases n:63<s.length
  ·rw[A8,show p9 s.length 63=false by rw[o3,ne_eq,o8];omega];rfl
  ·rw[A6,cond_false,show p9 s.length 63=true by rw[o8];omega,K2];have m:(bAt s 0==(45:Int))=(s.getD 0 0==45):=by rw[Hp];exact T3 _ 45 (by omega)
   have d:A2 ((s.length:Int)-1)=((s.length-1:Nat):Int):=by rw[A5];omega
   rw[m,d];simp only[cond_true,vl];rw[K2,J1,show((((s.getD (s.length-1) 0).toNat:Nat):Int)==45)=(s.getD (s.length-1) 0==45) from T3 _ 45 (by omega)];cases f:(s.getD 0 0==45) with
   | true=>
    grind
   | false=>
    rw[show(s.getD 0 0 !=45)=true by unfold bne;rw[f];rfl];simp only[cond_true,cond_false];cases g:(s.getD (s.length-1) 0==45) with
    | true=>
     grind
    | false=>
     rw[show(s.getD (s.length-1) 0 !=45)=true by unfold bne;rw[g];rfl];simp only[cond_false];refine j4 (SO s k s.length 0 LF (by omega) (by omega)) ?_;rw[p6];cases o:s.all S6 with
     | false=>simp
     | true=>
      rw[if_pos rfl];simp only[j6,u7,ab6];by_cases p:s.length<4
      ·rw[A8];have:xnB.isPrefixOf s=false:=by
        rw[o3,ne_eq,List.isPrefixOf_iff_prefix];intro h;have:=h.length_le;simp only[xnB,o0,v7] at this;omega
       grind
      ·rw[A6,cond_false,R3,cond_true,Al];have l:(x8 (a8 4) s==([120,110,45,45]:List UInt8))=xnB.isPrefixOf s:=Aq0 s (by omega);rw[l];cases q:xnB.isPrefixOf s with
       | false=>rfl
       | true=>
        rw[R3,N7];simp only[j9,cond_false,cond_true];rw[L5 (by rw[j2];omega)];rfl
section
variable {W R : Type} (L : Nat) (Y : E2) (Q : Yh W) (s : W) (k : Out -> St W -> Option R)
noncomputable abbrev Ag9:Code:=F0 af2
noncomputable def Le(L:Nat):Cfg:=C3 L [67] (A4 [(5,[2,0,0])]) [(92,Ub),(68,Mb),(93,VB)] (A4 [(9,[2]),(6,[3,0]),(8,[2]),(7,[3,0,24]),(5,[3,0,16]),(4,[3,0]),(3,[3]),(2,[2]),(1,[0,14]),(0,[0])]) [92,93] (A4 [(0,[]),(1,[3,0])]) (some [2]) [] [] []
noncomputable def Gl{R:Type}(L n:Nat)(b:LL)(a:Int)(c:Unit->Option R)(d:Unit->Option R):Option R:=match n with|0=>none|n+1=>cond (ltI a (b.length:Int)) (cond (inR a b.length) (cond (okE Jy b (a8 a) 0) (cond (A3 (u4 (gX b (a8 a) 0))) (cond (not (N5 (gX b (a8 a) 0))) (c ()) (Gl L n b (A2 (a+1)) c d)) none) none) none) (d ())
theorem SN(n p0 i1):E7 0 ((Le L).keep 5) (bd (Le L) Y Q (cd [1,1,1,0,1,0,0] Ag9)) n ⟨gp [(3,.s (.sl false false 1 p0)),(0,pI i1)] 25,[],s⟩ k =
 Gl L n p0 i1 (λ_=>k .ret ⟨gp [(2,pB false)] 27,[],s⟩) (λ_=>k (.exit 0) ⟨gp [] 30,[],s⟩):=by
 induction n generalizing p0 i1 with
 | zero=>rfl
 | succ n a=>rw[Gl];simp only[<-a];kernel_rfl
noncomputable def A23{R:Type}(L:Nat)(a:By)(b:Bool->Option R):Option R:=cond (a==[]) (b false) (cond (ltI 253 (a.length:Int)) (b false) (cond (A3 a.length) (cond (R1 a) (b false) (cond (A3 a.length) (vl (H5 (pcs (u8n (46:Int)) a)) λc=>Gl L L c 0 (λ_=>b false) (λ_=>b true)) none)) none))
theorem A24(d:Nat)(name0):evC (Le L) (d+1) W Q 67 [pS name0] [] s=A23 L name0 (λb=>some (pB b,[],s)):=by refine(evE (fn:=af2) (by kernel_rfl)).trans ?_;generalize evC (Le L) d=Y;unfold A23;exact(j4 (by kernel_rfl) (A1 rfl (A1 rfl (A1 (A1 rfl (A1 (B5 λa=>((SN L Y Q s (I2 0 (I8 (Le L) Y Q (cd [1,1,1,1] Ag9) (J6 (Le L) af2))) L a 0).trans (by kernel_rfl))) rfl)) rfl))))
end
theorem Aa1{R:Type}{a b:Unit->Option R}(l:List By)(k:l.length<=1000000001)(h:∀x∈l,x.length<=1000000000):∀(r i n:Nat),i+r=l.length->r<n->
  Gl LF n (H5 l) (i:Int) a b=if (l.drop i).all N5 then b () else a ():=by
 intro r
 induction r with
 | zero=>
  intro i n e f;obtain⟨n,rfl⟩:∃m,n=m+1:=⟨n-1,by omega⟩
  rw[Gl];rw[N2,A6,b9 (by omega)];rfl
 | succ r j=>
  intro i n e f;obtain⟨n,rfl⟩:∃m,n=m+1:=⟨n-1,by omega⟩
  rw[Gl];have c:A2 ((i:Int)+1)=((i+1:Nat):Int):=by rw[A5];rfl
  have d:l.drop i=l.getD i []::l.drop (i+1):=by
   rw[j7,p4 (by omega),x9,x5]
  have g:(l.getD i []).length<=1000000000:=h _ (by
   rw[j7,p4 (by omega),x9];exact List.getElem_mem _)
  rw[N2,A8,K2,b8,Cw (by omega),Fz,L5 g,d,aa3,c];simp only[cond_true];rw[j (i+1) n (by omega) (by omega)];cases N5 (l.getD i []) with
  | true=>rw[u7];rfl
  | false=>rfl
theorem Aa2{R:Type}{c:Bool->Option R}(s:By)(b:A3 s.length=true):A23 LF s c=c (Bc s):=by
 have k:=N6 b;have d:=F9;unfold A23;by_cases a:s=[]
 ·subst a;rfl
 ·have f:(s==([]:By))=false:=by simpa using a
  rw[f,cond_false];unfold Bc;by_cases i:253<s.length
  ·rw[A8,show p9 s.length 253=false by rw[o3,ne_eq,o8];omega];rfl
  ·rw[A6,cond_false,b,cond_true,show p9 s.length 253=true by rw[o8];omega];cases j:R1 s with
   | true=>rfl
   | false=>
    rw[cond_false,cond_true];have g:=Gh 46 s;have e:=Hw 46 s;refine j4 (Aa1 (pcs 46 s) (by omega) (λx h=>by have:=(Sy h).2;omega) (pcs 46 s).length 0 LF (by omega) (by omega)) ?_;grind
section
theorem MI:A9 a7 GX 165 Uf:=xf [] (Uy LF) Ox rfl trivial rfl (by kernel_rfl) follows λargs=>by
 unfold Ox;split
 ·rename_i n;exact⟨rfl,rfl,rfl,_,_,(Aa8 LF noY () 0 n).trans (KY n ),rfl⟩
 ·trivial
theorem MH:A9 a7 GX 164 Tv:=xf [] (Q6 LF) Ot rfl trivial rfl (by kernel_rfl) follows λargs=>by
 unfold Ot;split
 ·rename_i d c f;exact λa=>λb=>λe=>⟨rfl,rfl,rfl,_,_,(ZV LF noY () 0 d c f).trans (KI d c f a b e),rfl⟩
 ·trivial
theorem As1:A9 a7 GX 163 MZ:=xf [] (OB LF) DL rfl trivial rfl (by kernel_rfl) follows λargs=>by
 unfold DL;split
 ·rename_i k b;exact λa=>λc=>⟨rfl,rfl,rfl,_,_,(A33 LF noY () 0 k b).trans (Ab1 k b a c),rfl⟩
 ·trivial
theorem A72:A9 a7 GX 166 UZ:=xf [] (EP LF) Tw rfl trivial rfl (by kernel_rfl) follows λargs=>by
 unfold Tw;split
 ·rename_i d;exact λa=>⟨rfl,rfl,rfl,_,_,(An4 LF noY () 0 d).trans (RR d a),rfl⟩
 ·trivial
theorem Bk3:A9 a7 GX 162 Af7:=xf [] (Eg LF) DM rfl trivial rfl (by kernel_rfl) follows λargs=>by
 unfold DM;split
 ·rename_i b;exact λa=>⟨rfl,rfl,rfl,_,_,(A35 LF noY () 0 b).trans (Ab2 b a),rfl⟩
 ·trivial
theorem Bj8:A9 a7 GX 144 Af2:=xf [0,0] (J4 LF) DG rfl ⟨MI,As1,A72,MH,trivial⟩ rfl (by kernel_rfl) follows λargs=>by
 unfold DG;split
 ·rename_i b a p;exact λd=>(let⟨g,e,c,f⟩:=A22 b a p d;⟨rfl,rfl,rfl,g,e,(A20 LF noY () 0 b a p).trans c,f⟩)
 ·trivial
theorem A76:A9 a7 GX 143 VD:=xf [1,0] (G6 LF) Ud rfl ⟨Bk3,As1,MH,MI,trivial⟩ rfl (by kernel_rfl) follows λargs=>by
 unfold Ud;split
 ·rename_i s;exact λb=>(let⟨e,c,a,d⟩:=Ao7 s b;⟨rfl,rfl,rfl,e,c,(Ao6 LF noY () 0 s).trans a,d⟩)
 ·trivial
theorem A78:A9 a7 GX 121 VF:=xf [] (Fv LF) Ug rfl ⟨A76,Bj8,trivial⟩ rfl (by kernel_rfl) follows λargs=>by
 unfold Ug;split
 ·rename_i s;exact λa=>⟨rfl,rfl,rfl,_,_,(Ap0 LF noY () 0 s).trans (TL s a),rfl⟩
 ·trivial
theorem A74:A9 a7 GX 93 VB:=xf [] (Ft LF) Tz rfl ⟨A78,trivial⟩ rfl (by kernel_rfl) follows λargs=>by
 unfold Tz;split
 ·rename_i s;exact λa=>⟨rfl,rfl,rfl,_,_,(Ao2 LF noY () 0 s).trans (SP s a),rfl⟩
 ·trivial
theorem Bj9:A9 a7 GX 67 Af3:=xf [] (Le LF) DH rfl ⟨UM,Yb,A74,trivial⟩ rfl (by kernel_rfl) follows λargs=>by
 unfold DH;split
 ·rename_i s;exact λa=>⟨rfl,rfl,rfl,_,_,(A24 LF noY () 0 s).trans (Aa2 s a),rfl⟩
 ·trivial
end
section
variable {W R : Type} (L : Nat) (Y : E2) (Q : Yh W) (s : W) (k : Out -> St W -> Option R)
noncomputable def NW(L:Nat):Cfg:=C3 L [65] (A4 []) [] (A4 [(1,[2]),(0,[0])]) [] (A4 []) (some [2]) [] [] []
noncomputable def Az1{R:Type}(L:Nat)(a:By)(b:Bool->Option R):Option R:=b (not (a==a))
theorem Az2(d:Nat)(x0):evC (NW L) (d+1) W Q 65 [pS x0] [] s=Az1 L x0 (λa=>some (pB a,[],s)):=by refine(evE (fn:=Tryz.f65) (by kernel_rfl)).trans ?_;generalize evC (NW L) d=Y;unfold Az1;kernel_rfl
noncomputable def NV(L:Nat):Cfg:=C3 L [66] (A4 []) [] (A4 [(1,[2]),(0,[0])]) [] (A4 []) (some [2]) [] [] []
noncomputable def Ay9{R:Type}(L:Nat)(a:Int)(b:Bool->Option R):Option R:=b (a !=a)
theorem Az0(d:Nat)(x0):evC (NV L) (d+1) W Q 66 [pI x0] [] s=Ay9 L x0 (λa=>some (pB a,[],s)):=by refine(evE (fn:=Tryz.f66) (by kernel_rfl)).trans ?_;generalize evC (NV L) d=Y;unfold Ay9;kernel_rfl
noncomputable def Ah7(L:Nat):Cfg:=C3 L [44] (A4 []) [(65,Ae7)] (A4 [(13,[4]),(12,[4]),(11,[19]),(10,[4]),(9,[0,0,14]),(8,[4]),(7,[0,0,11]),(6,[4]),(5,[4]),(4,[12]),(3,[0,0,4,4]),(2,[0,0,3,0]),(1,[0,0,3]),(0,[0,0])]) [65] (A4 []) (some [4]) [] [] []
noncomputable def ccs{R:Type}(L:Nat)(b c:By)(a:Int->Option R):Option R:=cond (bytesLess b c) (a (-1)) (cond (not ((bytesLess b c)||(b==c))) (a 1) (a 0))
theorem Be2(d:Nat)(x0 y1):evC (Ah7 L) (d+1) W Q 44 [pS x0,pS y1] [] s=ccs L x0 y1 (λa=>some (pI a,[],s)):=by refine(evE (fn:=Tryz.f44) (by kernel_rfl)).trans ?_;generalize evC (Ah7 L) d=Y;unfold ccs;kernel_rfl
noncomputable def Ah6(L:Nat):Cfg:=C3 L [45] (A4 []) [(66,Ae6)] (A4 [(13,[4]),(12,[4]),(11,[19]),(10,[4]),(9,[0,0,14]),(8,[4]),(7,[0,0,11]),(6,[4]),(5,[4]),(4,[12]),(3,[0,0,4,4]),(2,[0,0,3,0]),(1,[0,0,3]),(0,[0,0])]) [66] (A4 []) (some [4]) [] [] []
noncomputable def cci{R:Type}(L:Nat)(b c:Int)(a:Int->Option R):Option R:=cond (ltI b c) (a (-1)) (cond (ltI c b) (a 1) (a 0))
theorem Be1(d:Nat)(x0 y1):evC (Ah6 L) (d+1) W Q 45 [pI x0,pI y1] [] s=cci L x0 y1 (λa=>some (pI a,[],s)):=by refine(evE (fn:=Tryz.f45) (by kernel_rfl)).trans ?_;generalize evC (Ah6 L) d=Y;unfold cci;kernel_rfl
noncomputable abbrev Ag8:Code:=F0 af0
noncomputable def Ld(L:Nat):Cfg:=C3 L [24] (A4 [(2,[0,0,2,0,0])]) [(43,Lz),(44,A85),(45,A84)] (A4 [(8,[4]),(7,[0,0]),(6,[0,0,3,0,22]),(5,[4]),(4,[0,0,3,0,0,14]),(3,[0,0,3,0,0]),(2,[0,0,3,0]),(1,[0,0]),(0,[0,0])]) [43,44,45] (A4 [(0,[5,0]),(1,[0,0])]) (some [4]) [] [] []
noncomputable def Jo{R:Type}(L n:Nat)(c d:By)(h:Int->Option R)(g:Int->Int->Option R):Option R:=match n with|0=>none|n+1=>cond (A3 c.length) (vl (L6 (u8n (46:Int)) c) λa=>cond (A3 d.length) (vl (L6 (u8n (46:Int)) d) λb=>cond (N3 (A2 (a+1)) (c.length:Int) c.length) (vl (cut c (A2 (a+1)) (c.length:Int)) λe=>cond (N3 (A2 (b+1)) (d.length:Int) d.length) (vl (cut d (A2 (b+1)) (d.length:Int)) λf=>cond ((Az e f)!=0) (h (Az e f)) (cond (ltI a 0) (g a b) (cond (ltI b 0) (g a b) (cond (N3 0 a c.length) (cond (N3 0 b d.length) (Jo L n (cut c 0 a) (cut d 0 b) h g) none) none)))) none) none) none) none
theorem QU(n a0 b1):E7 0 ((Ld L).keep 2) (bd (Ld L) Y Q (cd [1,0,1,1,0,0,0] Ag8)) n ⟨gp [(0,pS a0),(0,pS b1)] 39,[],s⟩ k =
 Jo L n a0 b1 (λn0=>k .ret ⟨gp [(4,pI n0)] 36,[],s⟩) (λb a=>k (.exit 0) ⟨gp [(5,pI b),(0,pI a)] 34,[],s⟩):=by
 induction n generalizing a0 b1 with
 | zero=>rfl
 | succ n c=>rw[Jo];simp only[<-c];kernel_rfl
noncomputable def Az9{R:Type}(L:Nat)(f g:By)(e:Int->Option R):Option R:=Jo L L f g (λd=>e d) (λb a=>vl (Ai4 (if ((0:Int)<b) then (0:Int) else b) (if ((0:Int)<a) then (0:Int) else a)) λc=>e c)
theorem A00(d:Nat)(a0 b1):evC (Ld L) (d+1) W Q 24 [pS a0,pS b1] [] s=Az9 L a0 b1 (λa=>some (pI a,[],s)):=by refine(evE (fn:=af0) (by kernel_rfl)).trans ?_;generalize evC (Ld L) d=Y;unfold Az9;exact(j4 (by kernel_rfl) ((QU L Y Q s (I2 0 (I8 (Ld L) Y Q (cd [1,0,1,1,1] Ag8) (J6 (Ld L) af0))) L a0 b1).trans (by kernel_rfl)))
noncomputable def NY(L:Nat):Cfg:=C3 L [23] (A4 []) [(42,A94)] (A4 [(1,[2]),(0,[1])]) [42] (A4 []) (some [2]) [] [] []
noncomputable def A08{R:Type}(L:Nat)(a:By)(d:Bool)(b:Int)(c:Bool->By->Bool->Int->Option R):Option R:=cond (A3 a.length) (cond (Bc a) (cond (not (ltI b 0)) (c (not (ltI 1099511627776 b)) a d b) (c false a d b)) (c false a d b)) none
theorem A09(d:Nat)(p0 p1 p2):evC (NY L) (d+1) W Q 23 [.agg [pS p0,pB p1,pI p2]] [] s=A08 L p0 p1 p2 (λc e a b=>some (pB c,[.box [pS e,pB a,pI b]],s)):=by refine(evE (fn:=Tryz.f23) (by kernel_rfl)).trans ?_;generalize evC (NY L) d=Y;unfold A08;kernel_rfl
noncomputable def OD(L:Nat):Cfg:=C3 L [19] (A4 []) [] (A4 [(1,[4]),(0,[0,0])]) [] (A4 []) (some [4]) [] [] []
noncomputable def Bh3{R:Type}(L:Nat)(a b:Int)(c:Bool->Option R):Option R:=c (not (ltI b a))
theorem A40(d:Nat)(expiry0 now1):evC (OD L) (d+1) W Q 19 [pI expiry0,pI now1] [] s=Bh3 L expiry0 now1 (λa=>some (pB a,[],s)):=by refine(evE (fn:=Tryz.f19) (by kernel_rfl)).trans ?_;generalize evC (OD L) d=Y;unfold Bh3;kernel_rfl
noncomputable def OF(L:Nat):Cfg:=C3 L [25] (A4 []) [] (A4 [(3,[2]),(2,[2]),(1,[0,3]),(0,[0])]) [] (A4 []) (some [2]) [] [] []
noncomputable def A47{R:Type}(L:Nat)(a c:Bool)(l:LL)(b:Bool->LL->Option R):Option R:=cond a (b true []) (cond (G1 (0+l.length)) (b false l) none)
theorem A48(d:Nat)(l_z l_t l):evC (OF L) (d+1) W Q 25 [.s (.sl l_z l_t 3 l)] [] s=A47 L l_z l_t l (λb a=>some (.fl 0,[.arr b 32 3 a],s)):=by refine(evE (fn:=Tryz.f25) (by kernel_rfl)).trans ?_;generalize evC (OF L) d=Y;unfold A47;kernel_rfl
end
end
section
open Go Go.Op
set_option maxRecDepth 100000
theorem ZF{R:Type}{a:Bool->Option R}(s:By):Az1 LF s a=a false:=by unfold Az1;simp
theorem ZE{R:Type}{a:Bool->Option R}(n:Int):Ay9 LF n a=a false:=by unfold Ay9;simp
theorem Ai3{R:Type}{d:Int->Option R}(a b:By):ccs LF a b d=d (Az a b):=by
 unfold ccs Az;cases h:bytesLess a b with
 | true=>rfl
 | false=>
  have e:(not (false||a==b))=bytesLess b a:=by
   rw[Bj] at h ⊢;have h:=of_decide_eq_false h;by_cases c:a=b
   ·subst c;simp
   ·have:b<a:=by
     apply Decidable.byContradiction;intro g;exact c (ac5 (ab2.1 g) (ab2.1 h))
    simp[c,this]
  rw[e];cases bytesLess b a<;>rfl
theorem Ai2{R:Type}{c:Int->Option R}(a b:Int):cci LF a b c=c (Ai4 a b):=by unfold cci Ai4;cases ltI a b<;>cases ltI b a<;>rfl
theorem Lj:∀s:By,((46:UInt8)∉s/\L6 46 s=-1)\/∃p q,s=p++46::q/\(46:UInt8)∉q/\L6 46 s=(p.length:Int)
 | []=>.inl ⟨by simp,rfl⟩
 | b::r=>by
  rcases Lj r with⟨a,c⟩|⟨p,q,a,c,f⟩
  ·by_cases d:b=46
   ·exact .inr ⟨[],r,by rw[d];rfl,a,by unfold L6;rw[c,if_pos (by decide),if_pos d];rfl⟩
   ·exact .inl ⟨by simp[a];exact λe=>d e.symm,by unfold L6;rw[c,if_pos (by decide),if_neg d]⟩
  ·refine .inr ⟨b::p,q,by rw[a];rfl,c,?_⟩;unfold L6;rw[f,V2];simp
theorem GM{s:By}(h:(46:UInt8)∉s):rl s=[s]:=by unfold rl pcs;rw[Bx 46 s [] h];rfl
theorem GN(p:By){q:By}(h:(46:UInt8)∉q):rl (p++46::q)=q::rl p:=by unfold rl pcs;rw[Gp,Bx 46 q [] h,List.reverse_append];rfl
theorem Bc7(s:By):rl s≠[]:=by unfold rl;simpa using QW 46 s
theorem Ew{a b:By}(h:Az a b=0):a=b:=by
 unfold Az at h;cases c:bytesLess a b with
 | true=>rw[c] at h;cases h
 | false=>
  cases d:bytesLess b a with
  | true=>rw[c,d] at h;cases h
  | false=>
   rw[Bj] at c d;exact ac5 (ab2.1 (of_decide_eq_false d)) (ab2.1 (of_decide_eq_false c))
theorem Pe(a:By):bytesLess a a=false:=by rw[Bj];simp
def Vg(x y:List By):Int:=cond (ZA x y) (-1) (cond (ZA y x) 1 0)
theorem W5{a b:By}{x y:List By}(h:Az a b≠0):Vg (a::x) (b::y)=Az a b:=by
 have c:a≠b:=λe=>h (by rw[e];unfold Az;rw[Pe];rfl)
 have d:(a==b)=false:=by simpa using c
 have f:(b==a)=false:=by simpa using Ne.symm c
 unfold Vg Az;simp only[ZA,d,f,ad3,Bool.or_false]
theorem W4{a:By}{x y:List By}:Vg (a::x) (a::y)=Vg x y:=by unfold Vg;simp only[ZA,Pe,beq_self_eq_true,u7,aa2]
theorem AQ{R:Type}{v:Int->Option R}:∀(n:Nat) (a b:By),a.length<=1000000000->b.length<=1000000000->a.length<n->
  Jo LF n a b v (λi k=>v (Ai4 (if ((0:Int)<i) then (0:Int) else i) (if ((0:Int)<k) then (0:Int) else k)))=v (Si a b)
 | 0,a,b,_,_,h=>by omega
 | n+1,a,b,ha,hb,h=>by
  have t:u8n (46:Int)=46:=rfl;have m:∀x y:By,Si x y=Vg (rl x) (rl y):=λx y=>rfl
  rw[Jo];simp only[vl,t];rw[L5 ha,L5 hb,cond_true,cond_true,m];rcases Lj a with⟨j,w⟩|⟨p,q,rfl,j,w⟩<;>rcases Lj b with⟨l,z⟩|⟨c,e,rfl,l,z⟩<;>rw[w,z]
  ·have f:cut a (A2 (-1+1)) (a.length:Int)=a:=by rw[A5,N7];rfl
   have g:cut b (A2 (-1+1)) (b.length:Int)=b:=by rw[A5,N7];rfl
   rw[f,g,R3 (by rw[A5];omega) (by rw[A5];omega),R3 (by rw[A5];omega) (by rw[A5];omega),cond_true,cond_true,GM j,GM l];by_cases d:Az a b=0
   ·rw[show(Az a b !=0)=false by rw[d];rfl,cond_false,A8,cond_true,Ew d,W4];rfl
   ·rw[show(Az a b !=0)=true by simpa using d,cond_true,W5 d]
  ·have f:cut a (A2 (-1+1)) (a.length:Int)=a:=by rw[A5,N7];rfl
   have g:cut (c++46::e) (A2 ((c.length:Int)+1)) ((c++46::e).length:Int)=e:=by
    simp only[j0,o0] at hb;rw[A5,N7,show(((c.length:Int)+1).toNat)=c.length+1 by omega];simp
   have A:(c++46::e).length=c.length+(e.length+1):=by simp
   rw[f,g,R3 (by rw[A5];omega) (by rw[A5];omega),R3 (by rw[A5];omega) (by rw[A5];omega),cond_true,cond_true,GM j,GN c l];by_cases d:Az a e=0
   ·rw[show(Az a e !=0)=false by rw[d];rfl,cond_false,A8,cond_true,Ew d,W4,V2];have o:(if (0:Int)<(c.length:Int) then (0:Int) else (c.length:Int))=0:=by split<;>omega
    rw[o];have:Vg [] (rl c)=-1:=by
     unfold Vg;cases u:rl c with
     | nil=>exact absurd u (Bc7 c)
     | cons x r=>rfl
    rw[this];rfl
   ·rw[show(Az a e !=0)=true by simpa using d,cond_true,W5 d]
  ·have f:cut (p++46::q) (A2 ((p.length:Int)+1)) ((p++46::q).length:Int)=q:=by
    simp only[j0,o0] at ha;rw[A5,N7,show(((p.length:Int)+1).toNat)=p.length+1 by omega];simp
   have g:cut b (A2 (-1+1)) (b.length:Int)=b:=by rw[A5,N7];rfl
   have A:(p++46::q).length=p.length+(q.length+1):=by simp
   rw[f,g,R3 (by rw[A5];omega) (by rw[A5];omega),R3 (by rw[A5];omega) (by rw[A5];omega),cond_true,cond_true,GM l,GN p j];by_cases d:Az q b=0
   ·rw[show(Az q b !=0)=false by rw[d];rfl,cond_false,A6,cond_false,A8,cond_true,Ew d,W4];have o:(if (0:Int)<(p.length:Int) then (0:Int) else (p.length:Int))=0:=by split<;>omega
    rw[o,V2];have:Vg (rl p) []=1:=by
     unfold Vg;cases u:rl p with
     | nil=>exact absurd u (Bc7 p)
     | cons x r=>rfl
    rw[this];rfl
   ·rw[show(Az q b !=0)=true by simpa using d,cond_true,W5 d]
  ·have f:cut (p++46::q) (A2 ((p.length:Int)+1)) ((p++46::q).length:Int)=q:=by
    simp only[j0,o0] at ha;rw[A5,N7,show(((p.length:Int)+1).toNat)=p.length+1 by omega];simp
   have g:cut (c++46::e) (A2 ((c.length:Int)+1)) ((c++46::e).length:Int)=e:=by
    simp only[j0,o0] at hb;rw[A5,N7,show(((c.length:Int)+1).toNat)=c.length+1 by omega];simp
   have A:(p++46::q).length=p.length+(q.length+1):=by simp
   have B:(c++46::e).length=c.length+(e.length+1):=by simp
   rw[f,g,R3 (by rw[A5];omega) (by rw[A5];omega),R3 (by rw[A5];omega) (by rw[A5];omega),cond_true,cond_true,GN p j,GN c l];by_cases d:Az q e=0
   ·rw[show(Az q e !=0)=false by rw[d];rfl,cond_false,A6,cond_false,A6,cond_false,R3,cond_true,R3,cond_true,Ew d,W4,Al,Al,b8,b8,ad5,ad5,AQ n p c (by omega) (by omega) (by omega)];rfl
   ·rw[show(Az q e !=0)=true by simpa using d,cond_true,W5 d]
theorem ZN{R:Type}{c:Int->Option R}(a b:By)(d:A3 a.length=true)(e:A3 b.length=true):Az9 LF a b c=c (Si a b):=by have f:=F9;have g:=N6 d;unfold Az9;exact AQ LF a b g (N6 e) (by omega)
theorem A10(h:By)(b:Bool)(e:Int)(c:A3 h.length=true):∃r H,A08 LF h b e (λf g a d=>rv (.s (.bool f)) [.box [.s (.str g),.s (.bool a),.s (.int .i64 d)]])=rv r H/\r.stab [] H = .s (.bool (Xc h e)):=by
 unfold A08 Xc;rw[c];cases Bc h with
 | false=>exact⟨_,_,rfl,rfl⟩
 | true=>cases ltI e 0<;>exact⟨_,_,rfl,rfl⟩
theorem Ab4{R:Type}{a:Bool->Option R}(n m:Int):Bh3 LF n m a=a (not (ltI m n)):=rfl
theorem Bg4{z:Bool}{l:LL}(h:P5 z l=true)(a:z=true):l=[]:=by subst a;simpa[P5] using h
theorem Ac3{R:Type}{a:Bool->LL->Option R}(z t:Bool)(l:LL)(b:A3 l.length=true)(c:P5 z l=true):A47 LF z t l a=a z l:=by
 unfold A47;cases z with
 | true=>rw[Bg4 c rfl];rfl
 | false=>
  have:=N6 b;rw[E9 (by omega)];rfl
theorem Aj2{a:Type}(d:a){l:List a}{i:Nat}(h:i<l.length):l.drop i=l.getD i d::l.drop (i+1):=by rw[j7,p4 h,x9,x5]
end
section
open Go Go.Proofs
set_option maxRecDepth 100000
section
variable {W R : Type} (L : Nat) (Y : E2) (Q : Yh W) (s : W) (k : Out -> St W -> Option R)
noncomputable abbrev VN:Code:=F0 af1
noncomputable def Fu(L:Nat):Cfg:=C3 L [47] (A4 [(3,[4,0,0,0])]) [(68,Mb)] (A4 [(14,[4]),(11,[4]),(13,[4]),(12,[52]),(10,[5,0,39]),(4,[5,0,0]),(9,[4]),(8,[5,0,0,37]),(7,[4]),(6,[5,0,0,0,0,32]),(5,[5,0,0,0,0]),(3,[5,0,0,15]),(2,[5,0,0]),(1,[5,0]),(0,[0,0])]) [] (A4 [(2,[]),(0,[5,0]),(1,[5,0,0])]) (some [4]) [] [] []
noncomputable def Da{R:Type}(L n:Nat)(a b:LL)(g:Int)(h:Int->Option R)(i:LL->LL->Option R):Option R:=match n with|0=>none|n+1=>cond (not (ltI (a.length:Int) g)) (cond (not (ltI (b.length:Int) g)) (vl (A2 ((a.length:Int)-g)) λc=>cond (inR c a.length) (cond (okE Jy a (a8 c) 0) (vl (gX a (a8 c) 0) λe=>vl (A2 ((b.length:Int)-g)) λd=>cond (inR d b.length) (cond (okE Jy b (a8 d) 0) (vl (gX b (a8 d) 0) λf=>cond (bytesLess e f) (h (-1)) (cond (not ((bytesLess e f)||(e==f))) (h 1) (Da L n a b (A2 (g+1)) h i))) none) none) none) none) (i a b)) (i a b)
theorem KR(n a b i2):E7 0 ((Fu L).keep 3) (bd (Fu L) Y Q (cd [1,1,0,1,0,0] VN)) n ⟨gp [(5,.s (.sl false false 1 a)),(0,.s (.sl false false 1 b)),(0,pI i2)] 50,[],s⟩ k =
 Da L n a b i2 (λn0=>k .ret ⟨gp [(4,pI n0)] 53,[],s⟩) (λa b=>k (.exit 0) ⟨gp [(5,.s (.sl false false 1 a)),(0,.s (.sl false false 1 b))] 51,[],s⟩):=by
 induction n generalizing a b i2 with
 | zero=>rfl
 | succ n c=>rw[Da];simp only[<-c];kernel_rfl
noncomputable def WY{R:Type}(L:Nat)(g h:By)(c:Int->Option R):Option R:=cond (A3 g.length) (vl (H5 (pcs (u8n (46:Int)) g)) λd=>cond (A3 h.length) (vl (H5 (pcs (u8n (46:Int)) h)) λe=>Da L L d e 1 (λf=>c f) (λb a=>cond (ltI (b.length:Int) (a.length:Int)) (c (-1)) (cond (ltI (a.length:Int) (b.length:Int)) (c 1) (c 0)))) none) none
theorem Ao5(d:Nat)(a0 b1):evC (Fu L) (d+1) W Q 47 [pS a0,pS b1] [] s=WY L a0 b1 (λc=>some (pI c,[],s)):=by refine(evE (fn:=af1) (by kernel_rfl)).trans ?_;generalize evC (Fu L) d=Y;unfold WY;exact(j4 (by kernel_rfl) (A1 (B5 λa=>(A1 (B5 λb=>((KR L Y Q s (I2 0 (I8 (Fu L) Y Q (cd [1,1,1] VN) (J6 (Fu L) af1))) L a b 1).trans (by kernel_rfl))) rfl)) rfl))
end
end
section
open Go Go.Op
set_option maxRecDepth 100000
theorem Nq{l:List By}{i:Nat}(a:1<=i)(b:i<=l.length):l.reverse.drop (i-1)=l.getD (l.length-i) []::l.reverse.drop i:=by
 rw[Aj2 [] (by rw[u6];omega),show i-1+1=i by omega]
 congr 1
 rw[j7,j7,List.getElem?_reverse (by omega),show l.length-1-(i-1)=l.length-i by omega]
theorem Xl{R:Type}(d:Int->Option R)(x y:List By)(C:x.length<=2000000000)(D:y.length<=2000000000):∀(r i m:Nat),i+r=x.length+1->1<=i->i<=y.length+1->r<m->
  Da LF m (H5 x) (H5 y) (i:Int) (λn=>d n) (λj k=>cond (ltI (j.length:Int) (k.length:Int)) (d (-1)) (cond (ltI (k.length:Int) (j.length:Int)) (d 1) (d 0)))=d (Vg (x.reverse.drop (i-1)) (y.reverse.drop (i-1)))
 | 0,i,m,A,f,v,B=>by
  obtain⟨m,rfl⟩:∃q,m=q+1:=⟨m-1,by omega⟩
  rw[Da,N2,N2,D0 (by omega),b9 (i:=i-1) (l:=x.reverse) (by rw[u6];omega)];simp only[j9,cond_false,N2];rw[E4 (a:=(y.length:Int)) (by omega)];by_cases c:x.length<y.length
  ·rw[D0 (by omega),Nq (l:=y) f (by omega)];rfl
  ·rw[E4 (by omega),b9 (by rw[u6];omega)];rfl
 | r+1,i,m,A,f,v,B=>by
  obtain⟨m,rfl⟩:∃q,m=q+1:=⟨m-1,by omega⟩
  have h:i<=x.length:=by omega
  rw[Da,N2,N2,E4 (by omega)];by_cases c:y.length<i
  ·rw[D0 (by omega),b9 (i:=i-1) (l:=y.reverse) (by rw[u6];omega),Nq f h];simp only[j9,j6,cond_true,cond_false,N2];rw[E4 (by omega),D0 (by omega)];rfl
  ·have o:A2 ((x.length:Int)-(i:Int))=((x.length-i:Nat):Int):=by rw[A5];omega
   have p:A2 ((y.length:Int)-(i:Int))=((y.length-i:Nat):Int):=by rw[A5];omega
   have u:A2 ((i:Int)+1)=((i+1:Nat):Int):=by rw[A5];rfl
   rw[E4 (by omega)];simp only[j6,cond_true,vl,o,p,u,b8];rw[M4 (by omega) (by omega),M4 (by omega) (by omega),Cw (by omega),Cw (by omega),Fz,Fz,Nq f h,Nq (l:=y) f (by omega)];simp only[cond_true];generalize x.getD (x.length-i) []=s;generalize y.getD (y.length-i) []=t;by_cases b:s=t
   ·subst b;rw[Pe,beq_self_eq_true,W4];have:=Xl d x y C D r (i+1) m (by omega) (by omega) (by omega) (by omega);rw[Nat.add_sub_cancel] at this;exact this
   ·have g:Az s t≠0:=λe=>b (Ew e)
    rw[W5 g,show(s==t)=false by simpa using b];unfold Az at g ⊢;cases w:bytesLess s t with
    | true=>rfl
    | false=>
     rw[w] at g;cases z:bytesLess t s with
     | true=>rfl
     | false=>rw[z] at g;exact absurd rfl g
theorem TC{R:Type}{c:Int->Option R}(a b:By)(d:A3 a.length=true)(e:A3 b.length=true):WY LF a b c=c (Si a b):=by
 have f:=F9;have i:=N6 d;have j:=N6 e;have g:(pcs 46 a).length<=2000000000:=by rw[Gh];have:=ab0 (a:=(46:UInt8)) (l:=a);omega
 have h:(pcs 46 b).length<=2000000000:=by rw[Gh];have:=ab0 (a:=(46:UInt8)) (l:=b);omega
 unfold WY;rw[d,e];simp only[cond_true,vl,show u8n (46:Int)=(46:UInt8) from rfl];exact Xl c (pcs 46 a) (pcs 46 b) g h (pcs 46 a).length 1 LF (by omega) (by omega) (by omega) (by omega)
end
section
open Go Go.Proofs
set_option maxRecDepth 100000
section
theorem Bj2:A9 a7 GX 65 Ae7:=xf [] (NW LF) CV rfl trivial rfl (by kernel_rfl) follows λargs=>by
 unfold CV;split
 ·rename_i s;exact⟨rfl,rfl,rfl,_,_,(Az2 LF noY () 0 s).trans (ZF s ),rfl⟩
 ·trivial
theorem Bj1:A9 a7 GX 66 Ae6:=xf [] (NV LF) CU rfl trivial rfl (by kernel_rfl) follows λargs=>by
 unfold CU;split
 ·rename_i n;exact⟨rfl,rfl,rfl,_,_,(Az0 LF noY () 0 n).trans (ZE n ),rfl⟩
 ·trivial
theorem Bo6:A9 a7 GX 44 A85:=xf [] (Ah7 LF) MK rfl ⟨Bj2,trivial⟩ rfl (by kernel_rfl) follows λargs=>by
 unfold MK;split
 ·rename_i s p;exact⟨rfl,rfl,rfl,_,_,(Be2 LF noY () 0 s p).trans (Ai3 s p ),rfl⟩
 ·trivial
theorem Bo5:A9 a7 GX 45 A84:=xf [] (Ah6 LF) MJ rfl ⟨Bj1,trivial⟩ rfl (by kernel_rfl) follows λargs=>by
 unfold MJ;split
 ·rename_i n m;exact⟨rfl,rfl,rfl,_,_,(Be1 LF noY () 0 n m).trans (Ai2 n m ),rfl⟩
 ·trivial
theorem Bj3:A9 a7 GX 24 Ae9:=xf [] (Ld LF) CX rfl ⟨HD,Bo6,Bo5,trivial⟩ rfl (by kernel_rfl) follows λargs=>by
 unfold CX;split
 ·rename_i s p;exact λa=>λb=>⟨rfl,rfl,rfl,_,_,(A00 LF noY () 0 s p).trans (ZN s p a b),rfl⟩
 ·trivial
theorem Bk4:A9 a7 GX 19 Af8:=xf [] (OD LF) DQ rfl trivial rfl (by kernel_rfl) follows λargs=>by
 unfold DQ;split
 ·rename_i n m;exact⟨rfl,rfl,rfl,_,_,(A40 LF noY () 0 n m).trans (Ab4 n m ),rfl⟩
 ·trivial
theorem Ar7:A9 a7 GX 23 MW:=xf [] (NY LF) DB rfl ⟨Bp4,trivial⟩ rfl (by kernel_rfl) follows λargs=>by
 unfold DB;split
 ·rename_i h b e;exact λc=>(let⟨g,d,a,f⟩:=A10 h b e c;⟨rfl,rfl,rfl,g,d,(A09 LF noY () 0 h b e).trans a,f⟩)
 ·trivial
theorem As6:A9 a7 GX 25 Uj:=by
 refine A9.fix (pf:=DV) _ (S8 (C₀:=OF LF) (G3.ok (l:=[]) rfl trivial) (D4 rfl (by kernel_rfl)) follows ?_);intro args ret f h;unfold DV at h;split at h
 ·rename_i b a l;obtain⟨c,h⟩:=D5 h;obtain⟨d,h⟩:=D5 h;obtain⟨rfl,rfl⟩:=I7 h;have e:=(A48 LF noY () 0 b a l).trans (Ac3 b a l c d);exact⟨rfl,1,_,[],e,rfl,rfl⟩
 ·cases h
end
section
theorem A75:A9 a7 GX 47 VC:=xf [] (Fu LF) Uc rfl ⟨Yb,trivial⟩ rfl (by kernel_rfl) follows λargs=>by
 unfold Uc;split
 ·rename_i s p;exact λa=>λb=>⟨rfl,rfl,rfl,_,_,(Ao5 LF noY () 0 s p).trans (TC s p a b),rfl⟩
 ·trivial
end
section
theorem Bd1:A9 a7 GX 18 UY:=xf [] (Ai0 LF) MV rfl ⟨Bk4,trivial⟩ rfl (by kernel_rfl) follows λargs=>by
 unfold MV;split
 ·rename_i h b e a d c q;exact⟨rfl,rfl,rfl,_,_,(Bh1 LF noY () 0 h b e a d c q).trans (Am8 h b e a d c q ),rfl⟩
 ·trivial
theorem Bk7:A9 a7 GX 27 NF:=xf [] (Li LF) DY rfl ⟨Bd1,trivial⟩ rfl (by kernel_rfl) follows λargs=>by
 unfold DY;split
 ·rename_i b a l c e d q;exact λf=>λg=>⟨rfl,rfl,rfl,_,_,(A52 LF noY () 0 b a l c e d q).trans (Ac4 b a l c e d q f g),rfl⟩
 ·trivial
theorem Bl2:Jz a7 GX 17 DW:=by
 refine S9 (C₀:=Lh LF) (G3.ok (l:=[(27,NF),(18,UY)]) rfl ⟨Bk7,Bd1,trivial⟩) (D4 rfl (by kernel_rfl)) follows ?_;intro args H ret k h;unfold DW at h;split at h
 ·rename_i z l c b a q;obtain⟨g,h⟩:=D5 h;obtain⟨i,h⟩:=D5 h;rcases Xx h with⟨d,h⟩|⟨d,h⟩
  ·skip
   obtain⟨rfl,rfl⟩:=I7 h;refine⟨rfl,rfl,λj f s=>?_⟩;have e:=(XE LF f s 0 z l c b a q).trans (BP z l c b a q g i d);exact⟨1,_,e,rfl⟩
  ·skip
   obtain⟨rfl,rfl⟩:=I7 h;refine⟨rfl,rfl,λj f s=>?_⟩;have e:=(XE LF f s 0 z l c b a q).trans (BP z l c b a q g i d);exact⟨1,_,e,rfl⟩
 ·cases h
theorem A77:A9 a7 GX 46 VE:=xf [] (EQ LF) Ue rfl ⟨Bj9,trivial⟩ rfl (by kernel_rfl) follows λargs=>by
 unfold Ue;split
 ·rename_i h b e;exact λc=>(let⟨g,d,a,f⟩:=Ao9 h b e c;⟨rfl,rfl,rfl,g,d,(Ao8 LF noY () 0 h b e).trans a,f⟩)
 ·trivial
theorem Bi8:A9 a7 GX 4 MO:=xf [] (La LF) CJ rfl trivial rfl (by kernel_rfl) follows λargs=>by
 unfold CJ;split
 ·rename_i b a t n;exact λc=>λd=>⟨rfl,rfl,rfl,_,_,(Ax1 LF noY () 0 b a t n).trans (YM b a t n c d),rfl⟩
 ·trivial
theorem Bk2:A9 a7 GX 26 Af6:=xf [] (Lg LF) DK rfl ⟨A77,A75,trivial⟩ rfl (by kernel_rfl) follows λargs=>by
 unfold DK;split
 ·rename_i b a t c;exact λd=>λe=>λf=>λg=>⟨rfl,rfl,rfl,_,_,(A31 LF noY () 0 b a t c).trans (Aa9 b a t c d e f g),rfl⟩
 ·trivial
theorem Bk0:A9 a7 GX 16 Af4:=xf [] (OA LF) DI rfl trivial rfl (by kernel_rfl) follows λargs=>by
 unfold DI;split
 ·rename_i n m;exact⟨rfl,rfl,rfl,_,_,(A26 LF noY () 0 n m).trans (Aa3 n m ),rfl⟩
 ·trivial
theorem A66:A9 a7 GX 12 UT:=xf [] (Fq LF) Tk rfl trivial rfl (by kernel_rfl) follows λargs=>by
 unfold Tk;split
 ·rename_i b a l d c m;exact λe=>λf=>λg=>λh=>⟨rfl,rfl,rfl,_,_,(Ak6 LF noY () 0 b a l d c m).trans (PJ b a l d c m e f g h),rfl⟩
 ·trivial
theorem As9:A9 a7 GX 13 Yy:=xf [] (Va LF) NG rfl ⟨Ar7,Bj3,trivial⟩ rfl (by kernel_rfl) follows λargs=>by
 unfold NG;split
 ·rename_i c b a t;exact λe=>λf=>λg=>(let⟨j,h,d,i⟩:=Bi3 c b a t e f g;⟨rfl,rfl,rfl,j,h,(Bi2 LF noY () 0 c b a t).trans d,i⟩)
 ·trivial
theorem As2:A9 a7 GX 15 NA:=xf [] (OC LF) DN rfl ⟨Bk2,trivial⟩ rfl (by kernel_rfl) follows λargs=>by
 unfold DN;split
 ·rename_i c b a t;exact λe=>λf=>λg=>(let⟨j,h,d,i⟩:=A38 c b a t e f g;⟨rfl,rfl,rfl,j,h,(A37 LF noY () 0 c b a t).trans d,i⟩)
 ·trivial
theorem Bp6:A9 a7 GX 6 Ae3:=xf [] (Ah8 LF) MP rfl ⟨A66,trivial⟩ rfl (by kernel_rfl) follows λargs=>by
 unfold MP;split
 ·rename_i a d c l b f e m;exact λh=>λi=>λj=>λk=>(let⟨p,n,g,o⟩:=Bg1 a d c l b f e m h i j k;⟨rfl,rfl,rfl,p,n,(Bg0 LF noY () 0 a d c l b f e m).trans g,o⟩)
 ·trivial
theorem A73:A9 a7 GX 20 VA:=xf [3] (Fs LF) Tx rfl trivial rfl (by kernel_rfl) follows λargs=>by
 unfold Tx;split
 ·rename_i c b t a;exact λe=>λf=>(let⟨i,g,d,h⟩:=Ao1 c b t a e f;⟨rfl,rfl,rfl,i,g,(Ao0 LF noY () 0 c b t a).trans d,h⟩)
 ·trivial
theorem Ar9:A9 a7 GX 8 Ua:=xf [] (Uw LF) Ov rfl ⟨As2,Bk0,trivial⟩ rfl (by kernel_rfl) follows λargs=>by
 unfold Ov;split
 ·rename_i d c b t a;exact λj=>λk=>λl=>⟨λf=>(let⟨i,g,e,h⟩:=AZ d c b t a j k l f;⟨rfl,rfl,rfl,i,g,(AY LF noY () 0 d c b t a).trans e,h⟩),λf=>(let⟨i,g,e,h⟩:=AZ d c b t a j k l f;⟨rfl,rfl,rfl,i,g,(AY LF noY () 0 d c b t a).trans e,h⟩)⟩
 ·trivial
theorem Ad4:A9 a7 GX 10 Ou:=xf [] (Po LF) Kp rfl ⟨As2,A73,trivial⟩ rfl (by kernel_rfl) follows λargs=>by
 unfold Kp;split
 ·rename_i c b a t;exact λi=>λj=>λk=>⟨λe=>(let⟨h,f,d,g⟩:=Xj c b a t i j k e;⟨rfl,rfl,rfl,h,f,(Xi LF noY () 0 c b a t).trans d,g⟩),λe=>(let⟨h,f,d,g⟩:=Xj c b a t i j k e;⟨rfl,rfl,rfl,h,f,(Xi LF noY () 0 c b a t).trans d,g⟩)⟩
 ·trivial
end
end
section
open Go
def RJ(a:List Nat)(ret:PV)(H:List Blk):Bool:=decide a.Nodup&&(a.all (λb=>Nat.blt b H.length)&&(Ak H a&&ret.nms.all λb=>a.contains b))
theorem V9.pick{C:Cfg}{Γ:Ctx}{w w':World}{ret:PV}{Hc:List Blk}{V:Value}{ns:List Nat}(h:V9 C I0 Γ [] w noΦ ret Hc () V w')(hok:RJ ns ret Hc=true) :
  V9 C I0 Γ [] w noΦ (ret.rn (F2 ns)) (L0 Hc ns) () V w':=by
 obtain⟨Γ1,Φ1,hs,hH1,hv,hvn,hi1,hd1⟩:=h;simp only[RJ,j8,decide_eq_true_eq,s5,ad6,List.contains_iff_mem] at hok;obtain⟨hnd,hlt,hcl,hr⟩:=hok;have hnm:∀i g,(Γ1.lent ns).nm i=some g->∃b,Γ1.nm b=some g:=λi g h=>by
  simp only[Ctx.lent] at h;cases hi:ns[i]? with
  | none=>rw[hi] at h;simp at h
  | some b=>rw[hi] at h;exact⟨b,h⟩
 have hlen:(L0 Hc ns).length=ns.length:=by simp[L0]
 refine⟨Γ1.lent ns,Φ1,⟨hs.os,hs.tape,hs.output,hs.size,hs.sub,hs.stnew,λc g h=>?_,hs.foot,hs.frame,hs.yv,Nat.zero_le _,λc hc=>by simp at hc⟩,
  FJ hH1 hnd hlt hcl,?_,λc hc=>?_,hi1,λc g h=>?_⟩
 ·obtain⟨b,hb⟩:=hnm c g h;rcases hs.own b g hb with⟨q,_⟩|q
  ·simp at q
  ·exact .inr q
 ·refine VP.rn (Γ:=Γ1) (Γ':=Γ1.lent ns) rfl hv (.inr λ_ h=>h) λc hc=>?_
  obtain⟨q1,q2⟩:=U0 (hr c hc);exact⟨Jd (hr c hc),by rw[Fb hlt q1,q2]⟩
 ·rw[PV.rn_nms] at hc;obtain⟨d,hd,rfl⟩:=ac2.1 hc;rw[hlen];exact(U0 (hr d hd)).1
 ·obtain⟨b,hb⟩:=hnm c g h;exact hd1 b g hb
theorem Yu{C₀:Cfg}{g:Nat}{pf:List PV->Tr}(z:XOK C₀)(v:Dh C₀)(B:C₀.P.follows .mixedOrders=true)
  (h:∀args ret e,G5 (pf args)=some (ret,e)->B9 args=[]/\∃d r c f,evC C₀ d Unit noY g args [] ()=some (r,c,())/\RJ f r c=true/\r.rn (F2 f)=ret/\L0 c f=e):A9 C₀.P C₀.G g pf:=by
 intro args ret e n C x i D w p l u t A;obtain⟨k,d,r,c,f,j,m,rfl,rfl⟩:=h args ret e n;have q:=Ea (C₀:=C₀) (g:=g) (pf:=λa=>match evC C₀ d Unit noY g a [] () with|some (r,H,_)=>cond (B9 a).isEmpty (.ret r H) .fail|none=>.fail) z v B (λa r H b=>by
  split at b
  ·rename_i G H' _ F;cases o:(B9 a).isEmpty with
   | true=>
    rw[o] at b;simp only[cond_true,G5,Bg,k9,ab8] at b;grind
   | false=>rw[o] at b;cases b
  ·cases b)
 exact(q args r c (by dsimp only;rw[j];dsimp only;rw[k];rfl) C x i D w p l u t A).mono λV w' y=>y.pick m
end
section
open Go Go.Proofs
set_option maxRecDepth 100000
theorem UL:A9 a7 GX 14 Tq:=by
 refine A9.fix (pf:=CT) _ (Yu (C₀:=NU LF) (G3.ok (l:=[(25,Uj)]) rfl ⟨As6,trivial⟩) (D4 rfl (by kernel_rfl)) follows ?_);intro args ret d h;unfold CT at h;split at h
 ·rename_i a z t l;obtain⟨b,h⟩:=D5 h;obtain⟨c,h⟩:=D5 h;obtain⟨rfl,rfl⟩:=I7 h;exact⟨rfl,1,_,_,[3],(Ay7 LF noY () 0 a z t l).trans (ZD a z t l b c),rfl,rfl,rfl⟩
 ·cases h
section
theorem XH:A9 a7 GX 7 Ma:=xf [] (EM LF) Ts rfl ⟨As9,UL,trivial⟩ rfl (by kernel_rfl) follows λargs=>by
 unfold Ts;split
 ·rename_i d c b t a;exact λj=>λk=>λl=>λm=>⟨λf=>(let⟨i,g,e,h⟩:=JU d c b t a j k l m f;⟨rfl,rfl,rfl,i,g,(JT LF noY () 0 d c b t a).trans e,h⟩),λf=>(let⟨i,g,e,h⟩:=JU d c b t a j k l m f;⟨rfl,rfl,rfl,i,g,(JT LF noY () 0 d c b t a).trans e,h⟩)⟩
 ·trivial
theorem ME:A9 a7 GX 9 Hj:=by
 refine A9.fix (pf:=On) _ (Q0 [] (C₀:=Uu LF) (Gu (lx:=[(13,Yy),(14,Tq)]) (ly:=[(17,DW)]) (ls:=[]) rfl rfl rfl ⟨As9,UL,trivial⟩ ⟨Bl2,trivial⟩ trivial) (D4 rfl (by kernel_rfl)) follows ?_);intro args ret n h;unfold On at h;split at h
 ·rename_i c b a t;obtain⟨j,h⟩:=D5 h;obtain⟨k,h⟩:=D5 h;obtain⟨l,h⟩:=D5 h;obtain⟨m,h⟩:=D5 h;rcases Xx h with⟨e,h⟩|⟨e,h⟩
  ·skip
   obtain⟨rfl,rfl⟩:=I7 h;obtain⟨i,f,d,g⟩:=AN c b a t j k l m e;exact⟨rfl,rfl,rfl,1,i,f,(AM LF noY () 0 c b a t).trans d,g⟩
  ·skip
   obtain⟨rfl,rfl⟩:=I7 h;obtain⟨i,f,d,g⟩:=AN c b a t j k l m e;exact⟨rfl,rfl,rfl,1,i,f,(AM LF noY () 0 c b a t).trans d,g⟩
 ·cases h
end
end
section
open Go Go.Proofs Go.Sort
set_option maxRecDepth 100000
def ND:List PV->Tr
 | [.s (.str s),.s (.int .u8 c)]=>.ret (.s (.int .i64 (Lib.indexByte s (aa1 c.toNat)))) []
 | _=>.fail
theorem Bk5:A9 a7 GX 94 ND:=by
 refine M5 (fn:=Tryz.f94) (by kernel_rfl) (by kernel_rfl) (by kernel_rfl) ?_;intro args ret j h;unfold ND at h;split at h
 ·rename_i s c;obtain⟨rfl,rfl⟩:=I7 h;refine⟨rfl,rfl,λC m a n w k l d b=>?_⟩;obtain⟨U,V,rfl,f,g⟩:=b.arr2;obtain⟨i,rfl,rfl⟩:=f.inv_str;obtain rfl:=g.inv_int;refine(Any.strings_IndexByte Tryz.lays137 i c w).mono ?_;rintro e w' ⟨rfl,rfl⟩;exact⟨_,rfl,af6 _ _,VP.mk_int _ _⟩
 ·cases h
def evT(C:Cfg)(d g:Nat)(args:List PV):Tr:=match evC C d Unit noY g args [] () with
 | some (r,H,_)=>cond ((B9 args).isEmpty&&(r.stab [] H).nms.isEmpty) (.ret (r.stab [] H) []) .fail
 | none=>.fail
theorem Df{C:Cfg}(d g:Nat)(c:XOK C)(b:Dh C)(f:C.P.follows .mixedOrders=true):A9 C.P C.G g (evT C d g):=
 Q0 [] c b f λargs ret i h=>by
  unfold evT at h;split at h
  ·rename_i r H s e;cases a:((B9 args).isEmpty&&(r.stab [] H).nms.isEmpty) with
   | false=>rw[a] at h;cases h
   | true=>
    rw[a] at h;obtain⟨rfl,rfl⟩:=I7 h;rw[j8] at a;exact⟨ac4.1 a.1,rfl,ac4.1 a.2,d,r,H,e,rfl⟩
  ·cases h
def Av6:SV->SV->Bool
 | .bool a,.bool b=>a==b
 | .int k a,.int l b=>decide (k=l)&&a==b
 | .str a,.str b=>a==b
 | _,_=>false
theorem Vr{a b:SV}(h:Av6 a b=true):a=b:=by
 cases a<;>cases b<;>first|(cases h;done)|skip
 ·rw[eq_of_beq (show(_==_)=true from h)]
 ·simp only[Av6,j8,decide_eq_true_eq] at h;rw[h.1,eq_of_beq h.2]
 ·rw[eq_of_beq (show(_==_)=true from h)]
def Av2:List SV->List SV->Bool
 | [],[]=>true
 | a::x,b::y=>Av6 a b&&Av2 x y
 | _,_=>false
theorem Vo:∀{a b:List SV},Av2 a b=true->a=b
 | [],[],_=>rfl
 | [],_::_,h=>by cases h
 | _::_,[],h=>by cases h
 | a::x,b::y,h=>by
  simp only[Av2,j8] at h;rw[Vr h.1,Vo h.2]
def Av5:LL->LL->Bool
 | [],[]=>true
 | a::x,b::y=>Av2 a b&&Av5 x y
 | _,_=>false
theorem Vq:∀{a b:LL},Av5 a b=true->a=b
 | [],[],_=>rfl
 | [],_::_,h=>by cases h
 | _::_,[],h=>by cases h
 | a::x,b::y,h=>by
  simp only[Av5,j8] at h;rw[Vo h.1,Vq h.2]
def Be7:PV->PV->Bool
 | .s (.sl z t k e),.s (.sl g f d c)=>(z==g)&&((t==f)&&((k==d)&&Av5 e c))
 | .s a,.s b=>Av6 a b
 | _,_=>false
theorem OX{a b:PV}(h:Be7 a b=true):a=b:=by
 unfold Be7 at h;split at h
 ·simp only[j8,beq_iff_eq] at h;obtain⟨rfl,rfl,rfl,h⟩:=h;rw[Vq h]
 ·rw[Vr h]
 ·cases h
def Aj6:List PV->List PV->Bool
 | [],[]=>true
 | a::x,b::y=>Be7 a b&&Aj6 x y
 | _,_=>false
theorem Vl:∀{a b:List PV},Aj6 a b=true->a=b
 | [],[],_=>rfl
 | [],_::_,h=>by cases h
 | _::_,[],h=>by cases h
 | a::x,b::y,h=>by
  simp only[Aj6,j8] at h;rw[OX h.1,Vl h.2]
def LU:List (List PV × PV)->List PV->Tr
 | [],_=>.fail
 | (a,r)::t,b=>cond (Aj6 a b) (.ret r []) (LU t b)
theorem BY{P:Program}{G:GT}{g:Nat}{p:List PV->Tr}(d:A9 P G g p):∀(l:List (List PV × PV)),(∀e∈l,G5 (p e.1)=some (e.2,[]))->A9 P G g (LU l)
 | [],_=>λargs ret c h=>by cases h
 | (a,r)::t,h=>λargs ret c b=>by
  unfold LU at b;cases e:Aj6 a args with
  | true=>
   rw[e] at b;obtain rfl:=Vl e;exact d _ ret c ((h (a,r) (by simp)).trans b)
  | false=>
   rw[e] at b;exact BY d t (λe f=>h e (by simp[f])) args ret c b
abbrev hA1:By:=[97,46,99,111,109]
abbrev uA1:By:=[104,116,116,112,115,58,47,47,97,46,99,111,109,47]
abbrev uA2:By:=[104,116,116,112,58,47,47,97,46,99,111,109,47]
abbrev Bm0:LL:=([83,116,114,105,99,116,45,84,114,97,110,115,112,111,114,116,45,83,101,99,117,114,105,116,121,58,32,109,97,120,45,97,103,101,61,49,48,13,10,13,10]:By).map D7
abbrev fnA:By:=[115,116,114,105,99,116,45,116,114,97,110,115,112,111,114,116,45,115,101,99,117,114,105,116,121]
abbrev fvA:By:=[109,97,120,45,97,103,101,61,49,48]
abbrev hoA:List PV:=[pI 1,pS hA1,.s (.int .u32 0),.s (.int .u16 0),.s (.int .u16 0),.s (.int .u16 0),.s (.int .u16 0),.s (.int .u16 0),.s (.int .u16 0),.s (.int .u16 0),.s (.int .u16 0)]
abbrev A55(a:By):PV:=.tup [.agg ([pS a,pS []]++hoA++[pI (-1),pS [47]]),pI 0]
noncomputable def Bb2:Cfg:=C3 100000 [102] (λ_=>none) [(73,CG),(127,Ae1),(76,DZ),(61,It),(112,Yx),(129,Ae4),(130,VG)]
noncomputable def A92:List PV->Tr:=evT Bb2 3 102
theorem Bp2:A9 a7 GX 102 A92:=Df (C:=Bb2) 3 _ (G3.ok rfl ⟨UK,Bi6,XI,BX,Ad5,Bi9,A79,trivial⟩) (D4 rfl (by kernel_rfl)) follows
theorem Bf3:G5 (A92 [pS hA1])=some (.tup [.agg hoA,pI 0],[]):=by kernel_rfl
def A93:List PV->Tr:=LU [([pS hA1],.tup [.agg hoA,pI 0])]
theorem Bp3:A9 a7 GX 102 A93:=BY Bp2 _ λe a=>by
 simp only[u9,s8,or_false] at a;subst a;exact Bf3
noncomputable def Bc0:Cfg:=C3 100000 [29,48,69,70,95,74,103,71,96,101,72,97,98,104,131] (λ_=>none)
 [(50,NC),(94,ND),(43,Lz),(73,CG),(102,A93),(53,Om)]
noncomputable def Af9:List PV->Tr:=evT Bc0 6 29
theorem Bq4:A9 a7 GX 29 Af9:=Df (C:=Bc0) 6 _ (G3.ok rfl ⟨As4,Bk5,HD,UK,Bp3,Ya,trivial⟩) (D4 rfl (by kernel_rfl)) follows
theorem A53:G5 (Af9 [pS uA1])=some (A55 [104,116,116,112,115],[]):=by kernel_rfl
theorem A54:G5 (Af9 [pS uA2])=some (A55 [104,116,116,112],[]):=by kernel_rfl
def Ba2:List PV->Tr:=LU [([pS uA1],A55 [104,116,116,112,115]),([pS uA2],A55 [104,116,116,112])]
theorem Bq5:A9 a7 GX 29 Ba2:=BY Bq4 _ λe a=>by
 simp only[u9,s8,or_false] at a;rcases a with rfl|rfl
 ·exact A53
 ·exact A54
noncomputable def Bb9:Cfg:=C3 100000 [54,79] (λ_=>none) []
noncomputable def Ba1:List PV->Tr:=evT Bb9 3 54
theorem Bq3:A9 a7 GX 54 Ba1:=Df (C:=Bb9) 3 _ (G3.ok rfl trivial) (D4 rfl (by kernel_rfl)) follows
noncomputable def Bb8:Cfg:=C3 100000 [51,78,107] (λ_=>none) []
noncomputable def Ba0:List PV->Tr:=evT Bb8 4 51
theorem Bq2:A9 a7 GX 51 Ba0:=Df (C:=Bb8) 4 _ (G3.ok rfl trivial) (D4 rfl (by kernel_rfl)) follows
noncomputable def Bc2:Cfg:=C3 100000 [52] (λ_=>none) []
noncomputable def Ba3:List PV->Tr:=evT Bc2 3 52
theorem Bq7:A9 a7 GX 52 Ba3:=Df (C:=Bc2) 3 _ (G3.ok rfl trivial) (D4 rfl (by kernel_rfl)) follows
noncomputable def Bb4:Cfg:=C3 100000 [108] (λ_=>none) []
noncomputable def A95:List PV->Tr:=evT Bb4 3 108
theorem Bp5:A9 a7 GX 108 A95:=Df (C:=Bb4) 3 _ (G3.ok rfl trivial) (D4 rfl (by kernel_rfl)) follows
noncomputable def Bb1:Cfg:=C3 100000 [31,49,75] (λ_=>none)
 [(50,NC),(76,DZ),(53,Om),(54,Ba1),(51,Ba0),(52,Ba3)] (nt:=[(67,0,92,2)])
noncomputable def A89:List PV->Tr:=evT Bb1 6 31
theorem Bp0:A9 a7 GX 31 A89:=Df (C:=Bb1) 6 _ (G3.ok rfl ⟨As4,XI,Ya,Bq3,Bq2,Bq7,trivial⟩) (D4 rfl (by kernel_rfl)) follows
abbrev flA:PV:=.s (.sl false false 2 [[.str fnA,.str fvA]])
theorem Bf1:G5 (A89 [.s (.sl false true 1 Bm0)])=some (.tup [flA,pI 0],[]):=by kernel_rfl
def A90:List PV->Tr:=LU [([.s (.sl false true 1 Bm0)],.tup [flA,pI 0])]
theorem Bp1:A9 a7 GX 31 A90:=BY Bp0 _ λe a=>by
 simp only[u9,s8,or_false] at a;subst a;exact Bf1
noncomputable def Bb0:Cfg:=C3 100000 [32,55,80,81] (λ_=>none) [(53,Om)]
noncomputable def A87:List PV->Tr:=evT Bb0 6 32
theorem Bo8:A9 a7 GX 32 A87:=Df (C:=Bb0) 6 _ (G3.ok rfl ⟨Ya,trivial⟩) (D4 rfl (by kernel_rfl)) follows
noncomputable def Bb7:Cfg:=C3 100000 [33,56,82,83,84,109,110,134,78,107,79,57] (λ_=>none)
 [(53,Om),(108,A95)] (nt:=[(96,0,101,3)])
noncomputable def A98:List PV->Tr:=evT Bb7 8 33
theorem Bq0:A9 a7 GX 33 A98:=Df (C:=Bb7) 8 _ (G3.ok rfl ⟨Ya,Bp5,trivial⟩) (D4 rfl (by kernel_rfl)) follows
theorem Be9:G5 (A87 [flA,pS fnA])=some (.tup [pS fvA,pB true],[]):=by kernel_rfl
def A88:List PV->Tr:=LU [([flA,pS fnA],.tup [pS fvA,pB true])]
theorem Bo9:A9 a7 GX 32 A88:=BY Bo8 _ λe a=>by
 simp only[u9,s8,or_false] at a;subst a;exact Be9
theorem Bh5:G5 (A98 [pS fvA])=some (.tup [.agg [pI 10,pB false],pI 0],[]):=by kernel_rfl
def A99:List PV->Tr:=LU [([pS fvA],.tup [.agg [pI 10,pB false],pI 0])]
theorem Bq1:A9 a7 GX 33 A99:=BY Bq0 _ λe a=>by
 simp only[u9,s8,or_false] at a;subst a;exact Bh5
noncomputable def Ba9:Cfg:=C3 100000 [34,58] (λ_=>none) []
noncomputable def A86:List PV->Tr:=evT Ba9 3 34
theorem Bo7:A9 a7 GX 34 A86:=Df (C:=Ba9) 3 _ (G3.ok rfl trivial) (D4 rfl (by kernel_rfl)) follows
noncomputable def Bb5:Cfg:=C3 100000 [21,28,30,13] (λ_=>none)
 [(29,Ba2),(31,A90),(32,A88),(33,A99),(34,A86)] (nt:=[(24,1,32,3)]) (rw:=[(17,12)])
noncomputable def A96:List PV->Tr:=evT Bb5 5 21
theorem Bp7:A9 a7 GX 21 A96:=Df (C:=Bb5) 5 _ (G3.ok rfl ⟨Bq5,Bp1,Bo9,Bq1,Bo7,trivial⟩) (D4 rfl (by kernel_rfl)) follows
noncomputable def Bc1:Cfg:=C3 100000 [37] (λ_=>none) [(23,MW)]
noncomputable def Ag0:List PV->Tr:=evT Bc1 3 37
theorem Bq6:A9 a7 GX 37 Ag0:=Df (C:=Bc1) 3 _ (G3.ok rfl ⟨Ar7,trivial⟩) (D4 rfl (by kernel_rfl)) follows
noncomputable def Ba8:Cfg:=C3 100000 [38] (λ_=>none) []
noncomputable def Ad9:List PV->Tr:=evT Ba8 3 38
theorem Bo4:A9 a7 GX 38 Ad9:=Df (C:=Ba8) 3 _ (G3.ok rfl trivial) (D4 rfl (by kernel_rfl)) follows
noncomputable def Bb3:Cfg:=C3 100000 [41] (λ_=>none) []
def CI:List PV->List Blk->Tr
 | [.fl 0,.s (.int .i64 n),.fl 1],[.arr true e 3 [],.arr false a 3 [x]]=>cond (n==0&&(ae5 e 32&&ae5 a 32)) (.ret (.fl 0) [.arr true 32 3 [x],.arr false 32 3 [x]]) .fail
 | _,_=>.fail
theorem Bk9:Jz a7 GX 41 CI:=by
 refine S9 (C₀:=Bb3) (G3.ok (l:=[]) rfl trivial) (D4 rfl (by kernel_rfl)) follows ?_;intro args H ret j h;unfold CI at h;split at h
 ·rename_i n e b x;cases a:(n==0&&(ae5 e 32&&ae5 b 32)) with
  | false=>rw[a] at h;cases h
  | true=>
   rw[a] at h;simp only[j8] at a;obtain⟨c,d,f⟩:=a;obtain rfl:=eq_of_beq c;obtain rfl:=aa9 d;obtain rfl:=aa9 f;obtain⟨rfl,rfl⟩:=I7 h;refine⟨rfl,rfl,λi g s=>?_⟩;have e:evC Bb3 2 i g 41 [.fl 0,pI 0,.fl 1] [.arr true 32 3 [],.arr false 32 3 [x]] s=some (.fl 0,[.arr true 32 3 [x],.arr false 32 3 [x],.arr true 32 3 []],s):=by kernel_rfl
   exact⟨2,_,e,rfl⟩
 ·cases h
noncomputable def Ba7:Cfg:=C3 100000 [22] (λ_=>none)
 [(37,Ag0),(13,Yy),(38,Ad9),(25,Uj)] (e:=[41]) (Y:=[(41,CI)]) (nt:=[(24,1,32,3)]) (rw:=[(3,6)])
noncomputable def A83:List PV->Tr:=evT Ba7 5 22
theorem Bo3:A9 a7 GX 22 A83:=Df (C:=Ba7) 5 _ (Gu (lx:=[(37,Ag0),(13,Yy),(38,Ad9),(25,Uj)]) (ly:=[(41,CI)]) (ls:=[]) rfl rfl rfl ⟨Bq6,As9,Bo4,As6,trivial⟩ ⟨Bk9,trivial⟩ trivial) (D4 rfl (by kernel_rfl)) follows
noncomputable def Bb6:Cfg:=C3 100000 [11] (λ_=>none)
 [(21,A96),(22,A83),(14,Tq)] (nt:=[(24,1,32,3)]) (i:=[(3,[2,3],(List.range 60).filter λx=>!(x==5)),(7,[1,2],(List.range 60).filter λx=>!(x==5))])
noncomputable def Ae8:List PV->Tr:=evT Bb6 5 11
theorem Bp9:A9 a7 GX 11 Ae8:=Df (C:=Bb6) 5 _ (G3.ok rfl ⟨Bp7,Bo3,UL,trivial⟩) (D4 rfl (by kernel_rfl)) follows
end
section
open Go Go.Proofs
set_option maxRecDepth 100000
def Tru(x:Option (PV × List Blk × Unit)):Prop:=∃H,x=some (.s (.bool true),H,())
theorem Am9{a:LL}(h:∀c∈a,Ty.ofL [.str,.bool,.int .i64] c):a.all C1=true:=by rw[s5];intro c f;have:=h c f;simp only[Ty.ofL,Ty.of] at this;obtain⟨_,_,rfl,⟨l,rfl,_⟩,_,_,rfl,⟨b,rfl⟩,_,_,rfl,⟨n,rfl,d,e⟩,rfl⟩:=this;have d:-9223372036854775808<=n:=d;have e:n<=9223372036854775807:=e;exact Ak3.2 ⟨d,by omega⟩
theorem Ab5{n:Int}{l:LL}(c:n<=1000)(h:Lu n l=true):l.all smE=true/\A3 l.length=true:=by
 unfold Lu at h;rw[j8,s5] at h;refine⟨s5.2 λa b=>?_,?_⟩
 ·have:=h.2 a b;rw[Z2] at this;unfold smE;exact L5 (by simp at this;omega)
 ·have:=h.1;rw[Z2] at this;exact L5 (by simp at this;omega)
noncomputable def Ah5:Cfg:=C3 100000 [5] (λ_=>none) [(11,Ae8),(7,Ma),(9,Hj)] (nt:=[(24,1,32,3)])
theorem Ag3:Tb (evC Ah5 3 Unit noY 5 [] [] ())=true:=by kernel_rfl
theorem Ad1:A9 a7 GX 5 Oi:=
 A9.fix (pf:=Kl) _ (by
  have h:=UP (C₀:=Ah5) (G3.ok (l:=[(11,Ae8),(7,Ma),(9,Hj)]) rfl ⟨Bp9,XH,ME,trivial⟩) (D4 rfl (by kernel_rfl)) follows Ag3;have e:(λargs:List PV=>match args with|[]=>Tr.ret (.s (.bool true)) []|_=>.fail)=Kl:=by
   funext args
   cases args<;>rfl
  rw[<-e];exact h)
theorem Al0{b:Int}{l:LL}(h:l.all C1=true):(G9 (E3 b (l.map A7))).all C1=true:=by have e:=Ad h;rw[s5];intro f c;obtain⟨p,d,rfl⟩:=ac2.1 c;have a:p∈l.map A7:=(List.mem_filter.1 d).1;refine s5.1 h _ ?_;rw[e];exact ac2.2 ⟨p,a,rfl⟩
theorem PU{a:Int}{l:LL}(h:A3 l.length=true):A3 (G9 (E3 a (l.map A7))).length=true:=by have:=N6 h;have b:=List.length_filter_le (λp:Q1=>ltI a p.2.2) (l.map A7);rw[o6] at b;refine L5 ?_;rw[D3];exact ae6 b this
theorem Al1(b:Int)(z:Bool)(l:LL)(a:Int)(d:l.all C1=true)(e:P5 z l=true) :
  Tru (evC (IF LF) 1 Unit noY 3 [.agg [pI b,.s (.sl z false 3 l)],pI a] [] ()):=by
 refine Eq.subst (motive:=Tru) (Bg3 (σ:=Unit) LF noY () 0 b z false l a).symm ?_;unfold lmk;rw[d];simp only[cond_true,show ltI 60 1001=true from rfl];cases g:Lu 60 l with
 | false=>exact⟨_,rfl⟩
 | true=>
 obtain⟨f,c⟩:=Ab5 (by decide) g;have h:ad4 ([]:LL) C1=true:=rfl;have i:A3 ([]:LL).length=true:=rfl;rw[j9,cond_false];cases j:stB b (ac1 A7 l) with
 | true=>
  simp only[f,c,e,cond_true,Al0 d,PU c,vl,beq_self_eq_true,ad9];exact⟨_,rfl⟩
 | false=>
  simp only[f,c,e,cond_true,cond_false,h,i,vl,beq_self_eq_true,ad9,ae3];exact⟨_,rfl⟩
theorem XM{P:Program}{t:Nat}{v:PV}(h:Ti P t v)(e:Dz P 20 t=some [.int .i64,.slice [.str,.bool,.int .i64]])(j:Mc P t=true) :
  ∃c z l,v = .agg [.s (.int .i64 c),.s (.sl z false 3 l)]/\l.all C1=true/\P5 z l=true:=by
 obtain⟨k,l,f,g,b⟩:=h;rw[e] at f;obtain rfl:=w6 f;simp only[Ty.ofL] at g;obtain⟨_,_,rfl,⟨c,rfl,_,_⟩,x,_,rfl,i,rfl⟩:=g;simp only[Ty.of,o0,v7] at i;have⟨z,l,ex,hl,hz⟩:∃z l,x = .sl z false 3 l/\l.all C1=true/\P5 z l=true:=by
  rcases i with rfl|⟨d,rfl,_,a⟩
  ·exact⟨true,[],rfl,rfl,rfl⟩
  ·exact⟨false,d,rfl,Am9 a,rfl⟩
 subst ex;rcases b with⟨_,rfl⟩|⟨b,_⟩
 ·exact⟨c,z,l,rfl,hl,hz⟩
 ·rw[j] at b;cases b
theorem Ax6(args:List PV)(h:Fk a7 [24,3] args):∃d b,evC (IF LF) d Unit noY 3 args [] ()=some (.s (.bool true),b,()):=by obtain⟨o,m,rfl,e,j,n,rfl,f,rfl⟩:=h;obtain⟨c,z,l,rfl,g,i⟩:=XM e (by kernel_rfl) (by kernel_rfl);obtain⟨a,rfl,_,_⟩:=At9 (k:=.i64) f (by kernel_rfl) (by kernel_rfl);exact⟨1,Al1 c z l a g i⟩
end
section
open Go Go.ChangeAt Go.ChangeShapes Go.Proofs Go.RowKit Go.WideShapes
set_option maxRecDepth 100000
section
theorem PW(os:Os)(a:os.Started)(H:Type)(enc:TypeId × Value->H) :
  ReturnsInHanded {} Tryz.checked os 3 .any (λw args=>(Rows.modelClockMatchesSpecSpec.pre enc a7 ac3 Rows.modelClockMatchesSpecRow.domain false w args/\laidMetH a7 Be w)/\sizedMet enc a7 ac3 (OpenSpec.ofChange Rows.modelClockMatchesSpecSpec) false w args) (Rows.modelClockMatchesSpecSpec.post enc a7 ac3 false true false false):=
 PO a (C:=IF LF) (tb:=4) rfl rfl (G3.ok (l:=[(4,MO),(5,Oi),(7,Ma),(8,Ua),(6,Ae3),(9,Hj),(10,Ou)]) rfl ⟨Bi8,Ad1,XH,Ar9,Bp6,ME,Ad4,trivial⟩) (D4 rfl (by kernel_rfl)) (by kernel_rfl) ad8 (c:=F0 ac3) rfl (by kernel_rfl)
  (by
   intro t d;have:t=24\/t=3:=by simpa only[u9,s8,or_false] using(show t∈[24,3] from d)
   rcases this with rfl|rfl
   all_goals exact⟨⟨by kernel_rfl,of_decide_eq_true (by kernel_rfl)⟩,by kernel_rfl⟩) rfl (by kernel_rfl) rfl
  (λds b=>by
   match ds,b with
   | [e,f],_=>rfl)
  #[(.agg #[(.int .i64 0),(.slice none 0 0)]),(.int .i64 0)] 8 (by kernel_rfl) (by kernel_rfl) (by kernel_rfl)
  (λargs h=>Ax6 args h)
set_option maxHeartbeats 4000000 in theorem YT:Rows.ModelClockMatchesSpecSaid:=
 OpenClaim.holds_of_wide 3 ac3 rfl rfl rfl rfl rfl rfl rfl ⟨rfl,rfl,rfl,rfl,rfl⟩ rfl rfl rfl rfl rfl (by kernel_rfl) ad8 (by unfold joinedFacts;simp only[j8];(repeat' apply And.intro)<;>as_aux_lemma=>kernel_rfl)
  (of_decide_eq_true (by as_aux_lemma=>kernel_rfl)) (by unfold Func.isWrapper;first|(rw[if_pos (by decide +kernel)];kernel_rfl)|(rw[if_neg (by decide +kernel)];exact⟨rfl,rfl⟩))
  (λos a H enc _=>PW os a H enc)
theorem lmk_card:Rows.ModelClockMatchesSpecCardSaid:=
 Claim7.holds_tied_plain_at .later [] [.data,.data,.data,.data,.pinned] true (true, "ed5fd414987d68c1024acd0bf8fbc4da1d34cfc88fc810ad0b19febd44402b81") false YT (λ_ h=>by cases h) (by as_aux_lemma=>kernel_rfl) (λ_ h=>by cases h) modelClockMatchesSpec_row_tie rfl ⟨rfl,rfl⟩ (by as_aux_lemma=>kernel_rfl) rfl
  (λf fn c b=>by
   obtain rfl:f=3:=w6 ((show a7.funcNamed "hstsstore/hstsstorelaw34.ModelClockMatchesSpec" = some 3 by as_aux_lemma=>kernel_rfl).symm.trans c) |>.symm
   obtain rfl:fn=ac3:=(w6 (ad8.symm.trans b)).symm;exact⟨by as_aux_lemma=>kernel_rfl,λj t e=>by
    have d:t∈[24,3]:=Array.mem_toList_iff.2 (Array.mem_of_getElem? e);have a:([24,3].all λu=>!a7.wantsStandIn u)=true:=by as_aux_lemma=>kernel_rfl
    exact(show a7.wantsStandIn t=false by simpa using s5.1 a t d)⟩)
  (by as_aux_lemma=>kernel_rfl)
end
end
#print axioms lmk_card
end Go.Proofs.YtghjngpjgomdnaaGreatDoor.E
