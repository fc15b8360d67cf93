/-
  Parts of the proof, merged by a program of the prover's own; no condition.
-/
import Derived.Test.YtcfingekgbbclaaGreatDoorKOT5
open Eq renaming trans->a8
open Int renaming toNat_natCast->b8,toNat->b9,tmod->s7,tdiv->w6,eq_ofNat_of_zero_le->x4,mul->ab4,mul_comm->af4
open List renaming drop_of_length_le->c9,length_append->j2,length->j4,getD_eq_getElem?_getD->j5,length_cons->j6,length_drop->j7,drop_zero->j8,length_take->p4,getElem?_eq_getElem->p6,length_map->p7,length_singleton->s8,append_assoc->v7,takeWhile_cons->x3,length_nil->x5,nil_append->x6,length_pos_iff->x8,length_eq_zero_iff->y7,countP_le_length->y9,getElem_mem->z7,take->aa0,all_cons->aa3,append_nil->aa6,map_append->aa7,drop->aa9,contains_cons->ab1,drop_drop->ab2,isPrefixOf_iff_prefix->ab3,any_cons->ab7,countP_cons_of_neg->ab9,map->ac0,getElem_cons_drop->ac1,drop_left'->ac2,take_left->ac6,getD_cons_zero->ac8,mem_cons->ad1,all->ad6,head?_cons->ae5,takeWhile->ae6,isEmpty->af6
open Bool renaming not_false->j0,not_true->j1,eq_false_iff->k9,and_eq_true->w9,true_and->x7,eq_iff_iff->aa5,false_eq_true->ab0,and_true->ac9,false_or->ad0,not_eq_true'->ad4,or_eq_true->ae4,not_and->af3
open Go.Proofs.Tryz renaming prog->j9,f156->ac7,f115->ad7,f119->ad8,f120->ad9,f151->ae0,f176->ae1,f41->ae9,f61->af0,f63->af1,f127->af2,f62->af9,f85->ag0,f94->ag1
open Nat renaming ble_eq->p5,ble->v8,div_le_self->x9,le_refl->ab6,add_lt_add_iff_right->ab8,strongRecOn->ac3,blt_eq->ad2,zero_le->ae2,mod_lt->ae7,mul_le_mul->ae8,sub_zero->af7
open Option.some renaming injEq->p9
open Go.Lib renaming decodeL->s9,decodeN->y5,cut->ab5,join->ac5,joinTail->ad5
open Exists renaming intro->w8
open UInt8 renaming ofNat->y8,toNat_inj->aa8,toNat->ae3
open Option renaming bind_some->aa1,getD_some->aa2,isSome->aa4,map_some->ac4,isSome_some->ad3
open List.Sublist renaming length_le->af5
open Ne renaming symm->af8
namespace Go.Proofs.YtcfingekgbbclaaGreatDoor.E
set_option linter.all false
section
open Go Go.Proofs
set_option maxRecDepth 100000
section
variable {Z R : Type} (L : Nat) (Q : G0) (Y : Yh Z) (s : Z) (k : Out -> St Z -> Option R)
noncomputable def GW(L:Nat):Cfg:=B6 L [23] (A3 []) [] (A3 [(1,[2]),(0,[0])]) [] (A3 []) (some [2]) [] [] []
noncomputable def VV{R:Type}(L:Nat)(b:By)(a:Bool->Option R):Option R:=cond (b==[104,116,116,112]) (a true) (cond (b==[104,116,116,112,115]) (a true) (cond (b==[119,115]) (a true) (a (b==[119,115,115]))))
theorem Bw6(d:Nat)(s0):evC (GW L) (d+1) Z Y 23 [pS s0] [] s=VV L s0 (λa=>some (pB a,[],s)):=by refine(evE (fn:=Tryz.f23) (by kernel_rfl)).trans ?_;generalize evC (GW L) d=Q;unfold VV;kernel_rfl
noncomputable def TE(L:Nat):Cfg:=B6 L [45] (A3 []) [] (A3 [(8,[2]),(4,[2]),(7,[2]),(6,[7]),(5,[3,3]),(3,[3,0]),(2,[3,0]),(1,[3]),(0,[0])]) [] (A3 [(0,[])]) (some [2]) [] [] []
noncomputable def Bk4{R:Type}(L:Nat)(b:By)(a:Int->Option R):Option R:=cond (b==[104,116,116,112]) (cond (b==[104,116,116,112]) (a 80) (cond (b==[104,116,116,112,115]) (cond (b==[104,116,116,112,115]) (a 443) (a (-1))) (cond (b==[119,115,115]) (a 443) (a (-1))))) (cond (b==[119,115]) (a 80) (cond (b==[104,116,116,112,115]) (cond (b==[104,116,116,112,115]) (a 443) (a (-1))) (cond (b==[119,115,115]) (a 443) (a (-1)))))
theorem Cg5(d:Nat)(s0):evC (TE L) (d+1) Z Y 45 [pS s0] [] s=Bk4 L s0 (λa=>some (pI a,[],s)):=by refine(evE (fn:=Tryz.f45) (by kernel_rfl)).trans ?_;generalize evC (TE L) d=Q;unfold Bk4;kernel_rfl
noncomputable abbrev Ui:Code:=C8 af9
noncomputable def Am(L:Nat):Cfg:=B6 L [62] (A3 [(5,[0,0,2,0,0]),(2,[0,0,2,0])]) [] (A3 [(9,[4]),(3,[0,0,3]),(6,[0,0,3,0]),(8,[4]),(7,[0,0,3,0,18]),(5,[0,0,3,0,9]),(4,[0,0,3,0]),(2,[0,0,3,4]),(1,[0,0,3]),(0,[0,0])]) [] (A3 [(0,[0]),(1,[0,0,3]),(2,[0,0,3]),(3,[0,0,3,0])]) (some [4]) [] [] []
noncomputable def He{R:Type}(L n:Nat)(d a:By)(c b:Int)(e:Int->Option R)(f:By->By->Int->Option R):Option R:=match n with|0=>none|n+1=>cond (ltI b (a.length:Int)) (cond (inR c d.length) (cond (inR b a.length) (cond ((bAt d c)==(bAt a b)) (e c) (He L n d a c (A1 (b+1)) e f)) none) none) (f d a c)
theorem Ae7(n c a b kk3):D0 0 ((Am L).keep 5) (bd (Am L) Q Y (cd [1,0,1,0,0,1,0,0,1,0,0] Ui)) n ⟨gp [(0,pS c),(0,pS a),(3,pI b),(0,pI kk3)] 22,[],s⟩ k =
 He L n c a b kk3 (λn0=>k .ret ⟨gp [(4,pI n0)] 24,[],s⟩) (λc a b=>k (.exit 2) ⟨gp [(0,pS c),(0,pS a),(3,pI b)] 23,[],s⟩):=by
 induction n generalizing c a b kk3 with
 | zero=>rfl
 | succ n d=>rw[He];simp only[<-d];kernel_rfl
noncomputable def Hf{R:Type}(L n:Nat)(e b:By)(f:Int)(g:Int->Option R)(h:By->Option R):Option R:=match n with|0=>none|n+1=>cond (ltI f (e.length:Int)) (He L L e b f 0 g (λd a c=>Hf L n d a (A1 (c+1)) g h)) (h e)
theorem Ae8(n b set1 i2):D0 0 ((Am L).keep 2) (bd (Am L) Q Y (cd [1,0,1,0,0] Ui)) n ⟨gp [(0,pS b),(0,pS set1),(3,pI i2)] 23,[],s⟩ k =
 Hf L n b set1 i2 (λn0=>k .ret ⟨gp [(4,pI n0)] 24,[],s⟩) (λb=>k (.exit 0) ⟨gp [(0,pS b)] 28,[],s⟩):=by
 induction n generalizing b set1 i2 with
 | zero=>rfl
 | succ n e=>rw[Hf];exact(a8 (by kernel_rfl) (A0 ((Ae7 L Q Y s (E6 2 (E6 1 (E5 (Am L) Q Y (cd [1,0,1,0,0,1,1] Ui) (lpK 0 ((Am L).keep 2) (bd (Am L) Q Y (cd [1,0,1,0,0] Ui)) n k)))) L b set1 i2 0).trans (congr (congr rfl (by kernel_rfl)) (fx3 λd a c=>(a8 (by kernel_rfl) (e d a (A1 (c+1))))))) rfl))
noncomputable def Cf5{R:Type}(L:Nat)(e a:By)(d:Int->Option R):Option R:=Hf L L e a 0 d (λc=>vl (c.length:Int) λb=>d b)
theorem Cf6(d:Nat)(s0 set1):evC (Am L) (d+1) Z Y 62 [pS s0,pS set1] [] s=Cf5 L s0 set1 (λa=>some (pI a,[],s)):=by refine(evE (fn:=af9) (by kernel_rfl)).trans ?_;generalize evC (Am L) d=Q;unfold Cf5;exact(a8 (by kernel_rfl) ((Ae8 L Q Y s (E6 0 (E5 (Am L) Q Y (cd [1,1] Ui) (F7 (Am L) af9))) L s0 set1 0).trans (by kernel_rfl)))
noncomputable abbrev N4:Code:=C8 af0
noncomputable def L1(L:Nat):Cfg:=B6 L [61] (A3 [(2,[0,1,0,0,0])]) [(17,An3)] (A3 [(11,[2,0,0]),(3,[0,4]),(10,[2,0,0]),(9,[0,4,67]),(8,[0,4,1,0]),(7,[0,4,0,0]),(6,[2,0,0]),(5,[0,4,0,16]),(4,[0,4,0]),(2,[0,4,6]),(1,[0,4]),(0,[0])]) [17] (A3 [(0,[]),(1,[0,4])]) (some [2,0,0]) [] [] []
noncomputable def Ki{R:Type}(a:By)(b f:Int)(e:Bool)(g:By->By->Option R)(h:By->Int->Int->Bool->Option R):Option R:=cond e (cond (I7 0 b a.length) (cond (A2 (j4 (cut a 0 b))) (vl (B3 (cut a 0 b)) λc=>cond (I7 (A1 (b+1)) (a.length:Int) a.length) (vl (cut a (A1 (b+1)) (a.length:Int)) λd=>g c d) none) none) none) (h a b f e)
abbrev Tk(b:Code):Prop:=∀(k:Out->St Z->Option R) a e c d,A9 (L1 L) Q Y b ⟨gp [(0,pS a),(4,pI e),(0,p8 c),(16,pB d)] 50,[],s⟩ k=Ki a e c d (λa f=>k .ret ⟨gp [(2,pS a),(0,pS f),(0,pB true)] 69,[],s⟩) (λa e c d=>k .normal ⟨gp [(0,pS a),(4,pI e),(0,p8 c),(16,pB d)] 50,[],s⟩)
theorem Ag1:Tk (R:=R) L Q Y s (cd [1,0,1,0,0,1,0,0,1,0,1] N4):=by intro k d c a b;unfold Ki;kernel_rfl
noncomputable def Kj{R:Type}(c:By)(a:Int)(b:By->Int->Option R):Option R:=b c a
abbrev Tl(b:Code):Prop:=∀(k:Out->St Z->Option R) c a,A9 (L1 L) Q Y b ⟨gp [(0,pS c),(4,pI a),(1,pB true),(0,pB true)] 65,[],s⟩ k=Kj c a (λc a=>k .normal ⟨gp [(0,pS c),(4,pI a),(67,pB false)] 0,[],s⟩)
theorem CQ:Tl (R:=R) L Q Y s (cd [1,0,1,0,0,1,0,0,1,1,1,1] N4):=by intro k b a;unfold Kj;kernel_rfl
noncomputable def Hj{R:Type}(c:By)(a:Int)(b:By->Int->Option R):Option R:=b c a
abbrev Tm(b:Code):Prop:=∀(k:Out->St Z->Option R) c a other2,A9 (L1 L) Q Y b ⟨gp [(0,pS c),(4,pI a),(1,pB true),(0,pB other2)] 65,[],s⟩ k=Hj c a (λc a=>k .normal ⟨gp [(0,pS c),(4,pI a),(67,pB false)] 0,[],s⟩)
theorem CS:Tm (R:=R) L Q Y s (cd [1,0,1,0,0,1,0,0,1,1,1,1] N4):=by intro k c b a;unfold Hj;kernel_rfl
noncomputable def Ww{R:Type}(c:By)(a d:Int)(b:By->Int->Option R):Option R:=cond (not (ltI d 48)) (cond (not (ltI 57 d)) (Kj c a b) (cond (d==43) (Kj c a b) (cond (d==45) (Kj c a b) (Hj c a b)))) (cond (d==43) (Hj c a b) (cond (d==45) (Hj c a b) (Hj c a b)))
abbrev Tn(b:Code):Prop:=∀(k:Out->St Z->Option R) c a b2,A9 (L1 L) Q Y b ⟨gp [(0,pS c),(4,pI a),(0,p8 b2),(0,pB true)] 66,[],s⟩ k=Ww c a b2 (λc a=>k .normal ⟨gp [(0,pS c),(4,pI a),(67,pB false)] 0,[],s⟩)
theorem Ag2(a:Code)(c:Tl (R:=R) L Q Y s a)(b:Tm (R:=R) L Q Y s a):Tn (R:=R) L Q Y s (cd [1,0,1,0,0,1,0,0,1,1,1] (G3 [1,0,1,0,0,1,0,0,1,1,1,1] a N4)):=by intro k e d f;unfold Ww;exact(a8 (by kernel_rfl) (A0 (A0 ((c k e d).trans (by kernel_rfl)) (A0 ((c k e d).trans (by kernel_rfl)) (A0 ((c k e d).trans (by kernel_rfl)) ((b k e d (f==46)).trans (by kernel_rfl))))) (A0 ((b k e d true).trans (by kernel_rfl)) (A0 ((b k e d true).trans (by kernel_rfl)) ((b k e d (f==46)).trans (by kernel_rfl))))))
theorem Ag3:Tn (R:=R) L Q Y s (cd [1,0,1,0,0,1,0,0,1,1,1] N4):=by intro k c b a;exact a8 (by kernel_rfl) (Ag2 L Q Y s (cd [1,0,1,0,0,1,0,0,1,1,1,1] N4) (CQ L Q Y s) (CS L Q Y s) k c b a)
noncomputable def Kk{R:Type}(d:By)(b:Int)(a:Bool)(e:Unit->Option R)(c:By->Int->Bool->Option R):Option R:=cond (not a) (cond (b==0) (e ()) (c d b (b==0))) (c d b false)
abbrev JV(b:Code):Prop:=∀(k:Out->St Z->Option R) c a letter2,A9 (L1 L) Q Y b ⟨gp [(0,pS c),(4,pI a),(1,pB letter2),(0,pB true)] 65,[],s⟩ k=Kk c a letter2 (λ_=>k .ret ⟨gp [(2,pS e0),(0,pS e0),(0,pB false)] 69,[],s⟩) (λc a d=>k .normal ⟨gp [(0,pS c),(4,pI a),(67,pB d)] 0,[],s⟩)
theorem Ag4:JV (R:=R) L Q Y s (cd [1,0,1,0,0,1,0,0,1,1,1,1] N4):=by intro k c b a;unfold Kk;kernel_rfl
noncomputable def Hk{R:Type}(f:By)(c:Int)(a b:Bool)(d:Unit->Option R)(e:By->Int->Bool->Option R):Option R:=cond (not a) (cond (not b) (d ()) (cond (c==0) (d ()) (e f c (c==0)))) (e f c false)
abbrev JW(b:Code):Prop:=∀(k:Out->St Z->Option R) c a letter2 other3,A9 (L1 L) Q Y b ⟨gp [(0,pS c),(4,pI a),(1,pB letter2),(0,pB other3)] 65,[],s⟩ k=Hk c a letter2 other3 (λ_=>k .ret ⟨gp [(2,pS e0),(0,pS e0),(0,pB false)] 69,[],s⟩) (λc a d=>k .normal ⟨gp [(0,pS c),(4,pI a),(67,pB d)] 0,[],s⟩)
theorem Ag5:JW (R:=R) L Q Y s (cd [1,0,1,0,0,1,0,0,1,1,1,1] N4):=by intro k d c a b;unfold Hk;kernel_rfl
noncomputable def Hl{R:Type}(f:By)(c b:Int)(a:Bool)(d:Unit->Option R)(e:By->Int->Bool->Option R):Option R:=cond (not (ltI b 48)) (cond (not (ltI 57 b)) (Kk f c a (λ_=>d ()) e) (cond (b==43) (Kk f c a (λ_=>d ()) e) (cond (b==45) (Kk f c a (λ_=>d ()) e) (Hk f c a (b==46) (λ_=>d ()) e)))) (cond (b==43) (Hk f c a true (λ_=>d ()) e) (cond (b==45) (Hk f c a true (λ_=>d ()) e) (Hk f c a (b==46) (λ_=>d ()) e)))
abbrev To(b:Code):Prop:=∀(k:Out->St Z->Option R) d c a letter3,A9 (L1 L) Q Y b ⟨gp [(0,pS d),(4,pI c),(0,p8 a),(0,pB letter3)] 66,[],s⟩ k=Hl d c a letter3 (λ_=>k .ret ⟨gp [(2,pS e0),(0,pS e0),(0,pB false)] 69,[],s⟩) (λd c a=>k .normal ⟨gp [(0,pS d),(4,pI c),(67,pB a)] 0,[],s⟩)
theorem Ag6(a:Code)(d:Tl (R:=R) L Q Y s a)(e:Tm (R:=R) L Q Y s a)(b:JV (R:=R) L Q Y s a)(c:JW (R:=R) L Q Y s a):To (R:=R) L Q Y s (cd [1,0,1,0,0,1,0,0,1,1,1] (G3 [1,0,1,0,0,1,0,0,1,1,1,1] a N4)):=by intro k i h g f;unfold Hl;simp only[<-b k,<-c k];kernel_rfl
theorem Ag7:To (R:=R) L Q Y s (cd [1,0,1,0,0,1,0,0,1,1,1] N4):=by intro k d c b a;exact a8 (by kernel_rfl) (Ag6 L Q Y s (cd [1,0,1,0,0,1,0,0,1,1,1,1] N4) (CQ L Q Y s) (CS L Q Y s) (Ag4 L Q Y s) (Ag5 L Q Y s) k d c b a)
noncomputable def Al{R:Type}(f:By)(c a:Int)(d:By->Int->Bool->Option R)(g:Unit->Option R):Option R:=cond (not (ltI a 97)) (cond (not (ltI 122 a)) (Ww f c a (λe b=>d e b false)) (cond (not (ltI a 65)) (Hl f c a (not (ltI 90 a)) (λ_=>g ()) d) (Hl f c a false (λ_=>g ()) d))) (cond (not (ltI a 65)) (Hl f c a (not (ltI 90 a)) (λ_=>g ()) d) (Hl f c a false (λ_=>g ()) d))
abbrev Me(b:Code):Prop:=∀(k:Out->St Z->Option R) d c a b3,A9 (L1 L) Q Y b ⟨gp [(0,pS d),(4,pI c),(0,p8 a),(16,pB b3)] 50,[],s⟩ k=Al d c a (λd c a=>k .normal ⟨gp [(0,pS d),(4,pI c),(67,pB a)] 0,[],s⟩) (λ_=>k .ret ⟨gp [(2,pS e0),(0,pS e0),(0,pB false)] 69,[],s⟩)
theorem Ag8(a:Code)(b:Tn (R:=R) L Q Y s a)(c:To (R:=R) L Q Y s a):Me (R:=R) L Q Y s (cd [1,0,1,0,0,1,0,0,1,1] (G3 [1,0,1,0,0,1,0,0,1,1,1] a N4)):=by intro k g f d e;unfold Al;simp only[<-b k,<-c k];kernel_rfl
theorem Ag9:Me (R:=R) L Q Y s (cd [1,0,1,0,0,1,0,0,1,1] N4):=by intro k d c a b;exact a8 (by kernel_rfl) (Ag8 L Q Y s (cd [1,0,1,0,0,1,0,0,1,1,1] N4) (Ag3 L Q Y s) (Ag7 L Q Y s) k d c a b)
noncomputable def O4{R:Type}(L n:Nat)(b:By)(a:Int)(c:By->By->Bool->Option R)(t:Unit->Option R):Option R:=match n with|0=>none|n+1=>cond (ltI a (b.length:Int)) (cond (inR a b.length) (cond ((bAt b a)==58) (Ki b a (bAt b a) (ltI 0 a) (λu v=>c u v true) (λw r q A=>Al w r q (λj e x=>vl (A1 (e+1)) λh=>O4 L n j h c t) (λ_=>c e0 e0 false))) (Ki b a (bAt b a) false (λl m=>c l m true) (λo f d y=>Al o f d (λp g z=>vl (A1 (g+1)) λi=>O4 L n p i c t) (λ_=>c e0 e0 false)))) none) (t ())
theorem Ah0(b:Code)(c:Tk (R:=R) L Q Y s b)(a:Code)(d:Me (R:=R) L Q Y s a)(n:Nat)(e:By)(f:Int):D0 0 ((L1 L).keep 2) (bd (L1 L) Q Y (cd [1,0,1,0,0] (G3 [1,0,1,0,0,1,0,0,1,1] a (G3 [1,0,1,0,0,1,0,0,1,0,1] b N4)))) n ⟨gp [(0,pS e),(4,pI f)] 68,[],s⟩ k =
 O4 L n e f (λe D C=>k .ret ⟨gp [(2,pS e),(0,pS D),(0,pB C)] 69,[],s⟩) (λ_=>k (.exit 0) ⟨gp [] 74,[],s⟩):=by
 induction n generalizing e f with
 | zero=>rfl
 | succ n B=>rw[O4];exact let q:=(E6 1 (E5 (L1 L) Q Y (cd [1,0,1,0,0,1,1] N4) (lpK 0 ((L1 L).keep 2) (bd (L1 L) Q Y (cd [1,0,1,0,0] (G3 [1,0,1,0,0,1,0,0,1,1] a (G3 [1,0,1,0,0,1,0,0,1,0,1] b N4)))) n k)));let w:=(E5 (L1 L) Q Y a q);(a8 (by kernel_rfl) (A0 (A0 (A0 ((c w e f (bAt e f) (ltI 0 f)).trans (congr (congr rfl (by kernel_rfl)) (fx4 λv u r t=>(a8 (by kernel_rfl) ((d q v u r t).trans (congr (congr rfl (fx3 λm z x=>(a8 (by kernel_rfl) (A4 λj=>(B m j))))) (by kernel_rfl))))))) ((c w e f (bAt e f) false).trans (congr (congr rfl (by kernel_rfl)) (fx4 λo i g h=>(a8 (by kernel_rfl) ((d q o i g h).trans (congr (congr rfl (fx3 λp A y=>(a8 (by kernel_rfl) (A4 λl=>(B p l))))) (by kernel_rfl)))))))) rfl) rfl))
noncomputable def Ag0{R:Type}(L:Nat)(b:By)(a:By->By->Bool->Option R):Option R:=O4 L L b 0 a (λ_=>a e0 e0 false)
theorem Cg3(a:Code)(c:Tk (R:=PV × List Blk × Z) L Q Y s a)(b:Code)(d:Me (R:=PV × List Blk × Z) L Q Y s b)(e:By):A9 (L1 L) Q Y (cd [] (G3 [1,0,1,0,0,1,0,0,1,1] b (G3 [1,0,1,0,0,1,0,0,1,0,1] a N4))) ⟨[pS e]++tps 73,[],s⟩ (F7 (L1 L) af0)=Ag0 L e (λf g h=>some (.tup [pS f,pS g,pB h],[],s)):=by unfold Ag0;exact(a8 (by kernel_rfl) ((Ah0 L Q Y s (E6 0 (E5 (L1 L) Q Y (cd [1,1] N4) (F7 (L1 L) af0))) a c b d L e 0).trans (by kernel_rfl)))
theorem Cg4(d:Nat)(s0):evC (L1 L) (d+1) Z Y 61 [pS s0] [] s=Ag0 L s0 (λa b c=>some (.tup [pS a,pS b,pB c],[],s)):=
 (evE (fn:=af0) (by kernel_rfl)).trans (a8 (by kernel_rfl) (Cg3 L (evC (L1 L) d) Y s (cd [1,0,1,0,0,1,0,0,1,0,1] N4) (Ag1 L (evC (L1 L) d) Y s) (cd [1,0,1,0,0,1,0,0,1,1] N4) (Ag9 L (evC (L1 L) d) Y s) s0))
noncomputable abbrev L0:Code:=C8 ae9
noncomputable def J0(L:Nat):Cfg:=B6 L [41] (A3 [(36,[2,0,1,3,0,4,0]),(20,[2,0,1,3,0,0]),(2,[0,1,0,0])]) [(61,Be4),(23,Ub),(62,Be2),(63,MB),(45,Be5)] (A3 [(46,[2,0]),(45,[2,7]),(44,[2,7,173]),(43,[2,2,4]),(42,[2,0]),(41,[2,2,4,4,160]),(37,[2,2,3,0,4,0]),(40,[2,2,3,0,4,0]),(39,[2,0]),(38,[2,2,3,0,4,0,147]),(36,[2,2,3,0,4,0,135]),(35,[2,2,3,0,4,0]),(34,[2,2,3,0,1,2]),(33,[2,2,3,0,1,133]),(32,[2,2,3,0,1]),(31,[2,0]),(30,[2,2,3,0,1,0,0,122]),(29,[2,2,3,0,1,0,0]),(28,[2,0]),(27,[2,2,3,0,1,114]),(26,[2,2,3,0,1]),(25,[2,2,3,0,1,95]),(24,[2,2,3,0,1]),(21,[2,2,3,0,0]),(23,[2,2,3,0]),(22,[2,2,3,0,0,79]),(20,[2,2,3,0,0,73]),(19,[2,2,3,0,0]),(18,[2,2,3,0]),(17,[2,2,0,2,0,66]),(16,[2,2,0,2,0]),(15,[2,2,0,2]),(14,[2,2,0,1]),(13,[2,2,0]),(12,[2,0]),(11,[2,2,0,49]),(10,[2,0]),(9,[2,2,0,38]),(8,[2,0]),(7,[2,2,0,34]),(6,[2,2,0,0]),(3,[0,1,1]),(5,[2,0]),(4,[0,1,1,27]),(2,[0,1,1,15]),(1,[0,1,1]),(0,[0,1])]) [61,23,62,45] (A3 [(4,[2,2,4,4]),(5,[2,2,3,0,4,0]),(2,[2,2,3,0]),(3,[2,2,3,0,0]),(0,[0,1]),(1,[0,1,1])]) (some [2,0]) [] [] []
noncomputable def Eh{R:Type}(L n:Nat)(a:By)(b:Int)(c:(List Blk)->Option R)(d:By->Option R):Option R:=match n with|0=>none|n+1=>cond (ltI b (a.length:Int)) (cond (inR b a.length) (cond (not (ltI 32 (bAt a b))) (c []) (cond (inR b a.length) (cond ((bAt a b)==127) (c []) (Eh L n a (A1 (b+1)) c d)) none)) none) (d a)
theorem Af6(n a i1):D0 1 ((J0 L).keep 2) (bd (J0 L) Q Y (cd [1,0,1,0,0] L0)) n ⟨gp [(0,pS a),(1,.ptr 0 0 0),(1,pI i1)] 182,[bU0],s⟩ k =
 Eh L n a i1 (λb=>k .ret ⟨gp [(2,.ptr 0 0 0),(0,pI (4:Int))] 183,(bU0::b),s⟩) (λa=>k (.exit 0) ⟨gp [(0,pS a),(1,.ptr 0 0 0)] 184,[bU0],s⟩):=by
 induction n generalizing a i1 with
 | zero=>rfl
 | succ n c=>rw[Eh];simp only[<-c];kernel_rfl
noncomputable def X9{R:Type}(L n:Nat)(b a:By)(c:Int)(g:By)(f:By->By->By->By->Option R):Option R:=match n with|0=>none|n+1=>cond (not (ltI c 0)) (cond (inR c a.length) (cond ((bAt a c)==64) (cond (I7 0 c a.length) (vl (cut a 0 c) λd=>cond (I7 (A1 (c+1)) (a.length:Int) a.length) (vl (cut a (A1 (c+1)) (a.length:Int)) λe=>f b e d g) none) none) (X9 L n b a (A1 (c-1)) g f)) none) (f b a e0 g)
theorem CO(n b a i2 c):D0 2 ((J0 L).keep 20) (bd (J0 L) Q Y (cd [1,1,1,1,1,1,1,1,1,1,1,0,1,0,0] L0)) n ⟨gp [(2,.ptr 0 0 0),(2,pS b),(3,pS a),(0,.ptr 1 0 0),(0,pI i2)] 175,[bU0,(bU b [] 0 [] 0 0 0 0 0 0 0 0 0 (-1) c)],s⟩ k =
 X9 L n b a i2 c (λb a e c=>k (.exit 2) ⟨gp [(2,.ptr 0 0 0),(2,pS b),(3,pS a),(0,.ptr 1 0 0)] 176,[bU0,(bU b e 0 [] 0 0 0 0 0 0 0 0 0 (-1) c)],s⟩):=by
 induction n generalizing b a i2 c with
 | zero=>rfl
 | succ n d=>rw[X9];simp only[<-d];kernel_rfl
noncomputable def Ce{R:Type}(c a:By)(d:Int)(h:Bool)(f g:By)(i:(List Blk)->Option R)(j:By->By->Int->Bool->By->By->Option R)(l:By->By->Int->Bool->By->By->Option R):Option R:=cond h (cond (A2 a.length) (vl (↑(Q9 a ([93]:List UInt8)):Int) λe=>vl (A1 (e+1)) λb=>cond (ltI (a.length:Int) b) (i [(bU c f 0 [] 0 0 0 0 0 0 0 0 0 (-1) g)]) (cond (ltI b (a.length:Int)) (cond (inR b a.length) (cond ((bAt a b)!=58) (i [(bU c f 0 [] 0 0 0 0 0 0 0 0 0 (-1) g)]) (j c a b ((bAt a b)!=58) f g)) none) (j c a b false f g))) none) (l c a d h f g)
abbrev Tf(b:Code):Prop:=∀(k:Out->St Z->Option R) c a d e f g,A9 (J0 L) Q Y b ⟨gp [(2,.ptr 0 0 0),(2,pS c),(3,pS a),(0,.ptr 1 0 0),(1,pI d),(95,pB e)] 78,[bU0,(bU c f 0 [] 0 0 0 0 0 0 0 0 0 (-1) g)],s⟩ k=Ce c a d e f g (λh=>k .ret ⟨gp [(2,.ptr 0 0 0),(0,pI (4:Int))] 183,(bU0::h),s⟩) (λc a d e f g=>k .normal ⟨gp [(2,.ptr 0 0 0),(2,pS c),(3,pS a),(0,.ptr 1 0 0),(1,pI d),(114,pB e)] 59,[bU0,(bU c f 0 [] 0 0 0 0 0 0 0 0 0 (-1) g)],s⟩) (λc a d e f g=>k .normal ⟨gp [(2,.ptr 0 0 0),(2,pS c),(3,pS a),(0,.ptr 1 0 0),(1,pI d),(95,pB e)] 78,[bU0,(bU c f 0 [] 0 0 0 0 0 0 0 0 0 (-1) g)],s⟩)
theorem CL:Tf (R:=R) L Q Y s (cd [1,1,1,1,1,1,1,1,1,1,1,1,1,0,1] L0):=by intro k b a c d e f;unfold Ce;kernel_rfl
noncomputable def Ei{R:Type}(L n:Nat)(b a:By)(x j:Int)(u:By)(m:Int)(q:By)(o n8 p c d e f g h:Int)(i:By)(v:(List Blk)->Option R)(w:By->Int->By->Int->By->Int->Int->Int->Int->Int->Int->Int->Int->Int->By->Option R):Option R:=match n with|0=>none|n+1=>cond (ltI j (a.length:Int)) (cond (inR j a.length) (cond (ltI (bAt a j) (48:Int)) (v [(bU b u m q o n8 p c d e f g h (-1) i),(bH m q o n8 p c d e f g h)]) (cond (inR j a.length) (cond (ltI 57 (bAt a j)) (v [(bU b u m q o n8 p c d e f g h (-1) i),(bH m q o n8 p c d e f g h)]) (cond (inR j a.length) (vl (wu8 ((bAt a j)-48)) λr=>vl (A1 ((A1 (x*10))+(A1 r))) λl=>vl (if ((1048576:Int)<l) then (1048576:Int) else l) λt=>Ei L n b a t (A1 (j+1)) u m q o n8 p c d e f g h i v w) none)) none)) none) (w b x u m q o n8 p c d e f g h i)
theorem CP(n a authority1 n2 i3 i f s6 g n8 h b c d e n14 n15 s16):D0 3 ((J0 L).keep 36) (bd (J0 L) Q Y (cd [1,1,1,1,1,1,1,1,1,1,1,1,1,1,1,1,1,0,1,0,1,0,1,0,0] L0)) n ⟨gp [(2,.ptr 0 0 0),(2,pS a),(3,pS authority1),(0,.ptr 1 0 0),(4,pI n2),(0,pI i3)] 170,[bU0,(bU a i f s6 g n8 h b c d e n14 n15 (-1) s16),(bH f s6 g n8 h b c d e n14 n15)],s⟩ k =
 Ei L n a authority1 n2 i3 i f s6 g n8 h b c d e n14 n15 s16 (λo=>k .ret ⟨gp [(2,.ptr 0 0 0),(0,pI (16:Int))] 183,(bU0::o),s⟩) (λa q r l i f m g n8 h b c d e j=>k (.exit 4) ⟨gp [(2,.ptr 0 0 0),(2,pS a),(4,.ptr 1 0 0),(4,pI q)] 171,[bU0,(bU a r l i f m g n8 h b c d e (-1) j),(bH l i f m g n8 h b c d e)],s⟩):=by
 induction n generalizing a authority1 n2 i3 i f s6 g n8 h b c d e n14 n15 s16 with
 | zero=>rfl
 | succ n p=>rw[Ei];simp only[<-p];kernel_rfl
noncomputable def R9{R:Type}(L:Nat)(d b:By)(t:Int)(x y:By)(w:Int->By->By->Int->By->Int->Int->Int->Int->Int->Int->Int->Int->Int->Int->By->(List Blk)->Option R):Option R:=cond (I7 0 t b.length) (vl (cut b 0 t) λv=>cond (A2 v.length) (vl (B9 v) λa=>cond ((↑(a).2:Int)!=0) (w (↑(a).2:Int) e0 e0 0 e0 0 0 0 0 0 0 0 0 0 0 e0 [(bU d x 0 [] 0 0 0 0 0 0 0 0 0 (-1) y),(bH (hK a) (hN a) (hV a) (hA a 0) (hA a 1) (hA a 2) (hA a 3) (hA a 4) (hA a 5) (hA a 6) (hA a 7))]) (vl (A1 (t+1)) λA=>cond (ltI A (b.length:Int)) (vl (A1 (t+1)) λB=>Ei L L d b 0 B x (hK a) (hN a) (hV a) (hA a 0) (hA a 1) (hA a 2) (hA a 3) (hA a 4) (hA a 5) (hA a 6) (hA a 7) y (λz=>w 16 e0 e0 0 e0 0 0 0 0 0 0 0 0 0 0 e0 z) (λc u q e p f g h i j l m n o r=>cond (ltI 65535 u) (w 16 e0 e0 0 e0 0 0 0 0 0 0 0 0 0 0 e0 [(bU c q e p f g h i j l m n o (-1) r),(bH e p f g h i j l m n o)]) (cond (u==(L3 c)) (w 0 c q e p f g h i j l m n o (-1) r [(bU c q e p f g h i j l m n o (-1) r),(bH e p f g h i j l m n o)]) (w 0 c q e p f g h i j l m n o u r [(bU c q e p f g h i j l m n o u r),(bH e p f g h i j l m n o)])))) (cond (((-1):Int)==(L3 d)) (w 0 d x (hK a) (hN a) (hV a) (hA a 0) (hA a 1) (hA a 2) (hA a 3) (hA a 4) (hA a 5) (hA a 6) (hA a 7) (-1) y [(bU d x (hK a) (hN a) (hV a) (hA a 0) (hA a 1) (hA a 2) (hA a 3) (hA a 4) (hA a 5) (hA a 6) (hA a 7) (-1) y),(bH (hK a) (hN a) (hV a) (hA a 0) (hA a 1) (hA a 2) (hA a 3) (hA a 4) (hA a 5) (hA a 6) (hA a 7))]) (w 0 d x (hK a) (hN a) (hV a) (hA a 0) (hA a 1) (hA a 2) (hA a 3) (hA a 4) (hA a 5) (hA a 6) (hA a 7) (-1) y [(bU d x (hK a) (hN a) (hV a) (hA a 0) (hA a 1) (hA a 2) (hA a 3) (hA a 4) (hA a 5) (hA a 6) (hA a 7) (-1) y),(bH (hK a) (hN a) (hV a) (hA a 0) (hA a 1) (hA a 2) (hA a 3) (hA a 4) (hA a 5) (hA a 6) (hA a 7))])))) none) none
abbrev Tg(b:Code):Prop:=∀(k:Out->St Z->Option R) name0 authority1 end2 b3 a s5,A9 (J0 L) Q Y b ⟨gp [(2,.ptr 0 0 0),(2,pS name0),(3,pS authority1),(0,.ptr 1 0 0),(1,pI end2),(114,pB b3)] 59,[bU0,(bU name0 a 0 [] 0 0 0 0 0 0 0 0 0 (-1) s5)],s⟩ k=R9 L name0 authority1 end2 a s5 (λn0 p q j a l m n n8 o d e f g h i c=>k .ret ⟨gp [(2,.ptr 0 0 0),(0,pI n0)] 183,((bU p q j a l m n n8 o d e f g h i)::c),s⟩)
theorem CM:Tg (R:=R) L Q Y s (cd [1,1,1,1,1,1,1,1,1,1,1,1,1,1] L0):=by intro k c b e j h i;unfold R9;exact(a8 (by kernel_rfl) (A0 (A4 λg=>(A0 (A4 λa=>(A0 rfl (A4 λf=>(A0 (A4 λd=>((CP L Q Y s (E6 4 (E5 (J0 L) Q Y (cd [1,1,1,1,1,1,1,1,1,1,1,1,1,1,1,1,1,0,1,0,1,1] L0) (E5 (J0 L) Q Y (cd [1,1,1,1,1,1,1,1,1,1,1,1,1,1,1,1,1,1] L0) k))) L c b 0 d h (hK a) (hN a) (hV a) (hA a 0) (hA a 1) (hA a 2) (hA a 3) (hA a 4) (hA a 5) (hA a 6) (hA a 7) i).trans (by kernel_rfl))) (A0 rfl rfl))))) rfl)) rfl))
noncomputable def Kh{R:Type}(L:Nat)(p c:By)(u:Int)(A B:By)(x:Int->By->By->Int->By->Int->Int->Int->Int->Int->Int->Int->Int->Int->Int->By->(List Blk)->Option R):Option R:=cond (I7 0 u c.length) (vl (cut c 0 u) λv=>cond (A2 v.length) (vl (B9 v) λa=>cond ((↑(a).2:Int)!=0) (x (↑(a).2:Int) e0 e0 0 e0 0 0 0 0 0 0 0 0 0 0 e0 [(bU p A 0 [] 0 0 0 0 0 0 0 0 0 (-1) B),(bH (hK a) (hN a) (hV a) (hA a 0) (hA a 1) (hA a 2) (hA a 3) (hA a 4) (hA a 5) (hA a 6) (hA a 7))]) (vl (A1 (u+1)) λy=>cond (ltI y (c.length:Int)) (vl (A1 (u+1)) λz=>Ei L L p c 0 z A (hK a) (hN a) (hV a) (hA a 0) (hA a 1) (hA a 2) (hA a 3) (hA a 4) (hA a 5) (hA a 6) (hA a 7) B (λw=>x 16 e0 e0 0 e0 0 0 0 0 0 0 0 0 0 0 e0 w) (λb t q d o e f g h i j l m n r=>cond (ltI 65535 t) (x 16 e0 e0 0 e0 0 0 0 0 0 0 0 0 0 0 e0 [(bU b q d o e f g h i j l m n (-1) r),(bH d o e f g h i j l m n)]) (cond (t==(L3 b)) (x 0 b q d o e f g h i j l m n (-1) r [(bU b q d o e f g h i j l m n (-1) r),(bH d o e f g h i j l m n)]) (x 0 b q d o e f g h i j l m n t r [(bU b q d o e f g h i j l m n t r),(bH d o e f g h i j l m n)])))) (cond (((-1):Int)==(L3 p)) (x 0 p A (hK a) (hN a) (hV a) (hA a 0) (hA a 1) (hA a 2) (hA a 3) (hA a 4) (hA a 5) (hA a 6) (hA a 7) (-1) B [(bU p A (hK a) (hN a) (hV a) (hA a 0) (hA a 1) (hA a 2) (hA a 3) (hA a 4) (hA a 5) (hA a 6) (hA a 7) (-1) B),(bH (hK a) (hN a) (hV a) (hA a 0) (hA a 1) (hA a 2) (hA a 3) (hA a 4) (hA a 5) (hA a 6) (hA a 7))]) (x 0 p A (hK a) (hN a) (hV a) (hA a 0) (hA a 1) (hA a 2) (hA a 3) (hA a 4) (hA a 5) (hA a 6) (hA a 7) (-1) B [(bU p A (hK a) (hN a) (hV a) (hA a 0) (hA a 1) (hA a 2) (hA a 3) (hA a 4) (hA a 5) (hA a 6) (hA a 7) (-1) B),(bH (hK a) (hN a) (hV a) (hA a 0) (hA a 1) (hA a 2) (hA a 3) (hA a 4) (hA a 5) (hA a 6) (hA a 7))])))) none) none
abbrev Th(b:Code):Prop:=∀(k:Out->St Z->Option R) name0 authority1 end2 b3 a s5,A9 (J0 L) Q Y b ⟨gp [(2,.ptr 0 0 0),(2,pS name0),(3,pS authority1),(0,.ptr 1 0 0),(1,pI end2),(95,pB b3)] 78,[bU0,(bU name0 a 0 [] 0 0 0 0 0 0 0 0 0 (-1) s5)],s⟩ k=Kh L name0 authority1 end2 a s5 (λn0 p q j a l m n n8 o d e f g h i c=>k .ret ⟨gp [(2,.ptr 0 0 0),(0,pI n0)] 183,((bU p q j a l m n n8 o d e f g h i)::c),s⟩)
theorem CN:Th (R:=R) L Q Y s (cd [1,1,1,1,1,1,1,1,1,1,1,1,1,1] L0):=by intro k d b f j h i;unfold Kh;exact(a8 (by kernel_rfl) (A0 (A4 λg=>(A0 (A4 λa=>(A0 rfl (A4 λe=>(A0 (A4 λc=>((CP L Q Y s (E6 4 (E5 (J0 L) Q Y (cd [1,1,1,1,1,1,1,1,1,1,1,1,1,1,1,1,1,0,1,0,1,1] L0) (E5 (J0 L) Q Y (cd [1,1,1,1,1,1,1,1,1,1,1,1,1,1,1,1,1,1] L0) k))) L d b 0 c h (hK a) (hN a) (hV a) (hA a 0) (hA a 1) (hA a 2) (hA a 3) (hA a 4) (hA a 5) (hA a 6) (hA a 7) i).trans (by kernel_rfl))) (A0 rfl rfl))))) rfl)) rfl))
noncomputable def Hi{R:Type}(L:Nat)(v b O:By)(A:Int->By->By->Int->By->Int->Int->Int->Int->Int->Int->Int->Int->Int->Int->By->(List Blk)->Option R):Option R:=vl (A1 ((b.length:Int)-1)) λC=>X9 L L v b C O (λg a r t=>cond (A2 a.length) (vl (↑(Q9 a ([58]:List UInt8)):Int) λq=>cond (not (a==e0)) (cond (inR 0 a.length) (vl (bAt a (0:Int)) λD=>Ce g a q (D==91) r t (λB=>A 4 e0 e0 0 e0 0 0 0 0 0 0 0 0 0 0 e0 B) (λm e o M F G=>R9 L m e o F G A) (λn f p N H I=>Kh L n f p H I A)) none) (Ce g a q false r t (λu=>A 4 e0 e0 0 e0 0 0 0 0 0 0 0 0 0 0 e0 u) (λh c j J w x=>R9 L h c j w x A) (λi d l K y z=>Kh L i d l y z A))) none)
abbrev Ti(b:Code):Prop:=∀(k:Out->St Z->Option R) name0 authority1 a,A9 (J0 L) Q Y b ⟨gp [(2,.ptr 0 0 0),(2,pS name0),(3,pS authority1),(0,.ptr 1 0 0)] 176,[bU0,(bU name0 [] 0 [] 0 0 0 0 0 0 0 0 0 (-1) a)],s⟩ k=Hi L name0 authority1 a (λn0 p a j q l m n n8 o d e f g h i c=>k .ret ⟨gp [(2,.ptr 0 0 0),(0,pI n0)] 183,((bU p a j q l m n n8 o d e f g h i)::c),s⟩)
theorem Af1(b:Code)(d:Tf (R:=R) L Q Y s b)(a:Code)(e:Tg (R:=R) L Q Y s a)(f:Th (R:=R) L Q Y s a):Ti (R:=R) L Q Y s (cd [1,1,1,1,1,1,1,1,1,1,1] (G3 [1,1,1,1,1,1,1,1,1,1,1,1,1,1] a (G3 [1,1,1,1,1,1,1,1,1,1,1,1,1,0,1] b L0))):=by intro k B l T;unfold Hi;exact let S:=(E5 (J0 L) Q Y a k);(a8 (by kernel_rfl) (A4 λJ=>((CO L Q Y s (E6 2 (E5 (J0 L) Q Y (cd [1,1,1,1,1,1,1,1,1,1,1,1] (G3 [1,1,1,1,1,1,1,1,1,1,1,1,1,1] a (G3 [1,1,1,1,1,1,1,1,1,1,1,1,1,0,1] b L0))) k)) L B l J T).trans (congr rfl (fx4 λm c x y=>(a8 (by kernel_rfl) (A0 (A4 λw=>(A0 (A0 (A4 λK=>((d S m c w (K==91) x y).trans (congr (congr (congr rfl (by kernel_rfl)) (fx6 λr i u H M N=>(a8 (by kernel_rfl) ((e k r i u H M N).trans (by kernel_rfl))))) (fx6 λt j v I O P=>(a8 (by kernel_rfl) ((f k t j v I O P).trans (by kernel_rfl))))))) rfl) ((d S m c w false x y).trans (congr (congr (congr rfl (by kernel_rfl)) (fx6 λn g p z C D=>(a8 (by kernel_rfl) ((e k n g p z C D).trans (by kernel_rfl))))) (fx6 λo h q A F G=>(a8 (by kernel_rfl) ((f k o h q A F G).trans (by kernel_rfl)))))))) rfl)))))))
theorem Af2:Ti (R:=R) L Q Y s (cd [1,1,1,1,1,1,1,1,1,1,1] L0):=by intro k b a c;exact a8 (by kernel_rfl) (Af1 L Q Y s (cd [1,1,1,1,1,1,1,1,1,1,1,1,1,0,1] L0) (CL L Q Y s) (cd [1,1,1,1,1,1,1,1,1,1,1,1,1,1] L0) (CM L Q Y s) (CN L Q Y s) k b a c)
noncomputable def JU{R:Type}(L:Nat)(y z b:By)(J:Int->By->By->Int->By->Int->Int->Int->Int->Int->Int->Int->Int->Int->Int->By->(List Blk)->Option R):Option R:=vl (A1 ((b.length:Int)-1)) λw=>X9 L L y b w z (λg a r t=>cond (A2 a.length) (vl (↑(Q9 a ([58]:List UInt8)):Int) λq=>cond (not (a==e0)) (cond (inR 0 a.length) (vl (bAt a (0:Int)) λx=>Ce g a q (x==91) r t (λu=>J 4 e0 e0 0 e0 0 0 0 0 0 0 0 0 0 0 e0 u) (λh c m K A B=>R9 L h c m A B J) (λi d n M C D=>Kh L i d n C D J)) none) (Ce g a q false r t (λv=>J 4 e0 e0 0 e0 0 0 0 0 0 0 0 0 0 0 e0 v) (λj e o N F G=>R9 L j e o F G J) (λl f p O H I=>Kh L l f p H I J))) none)
abbrev Tj(b:Code):Prop:=∀(k:Out->St Z->Option R) name0 rest1 authority2 b3,A9 (J0 L) Q Y b ⟨gp [(2,.ptr 0 0 0),(2,pS name0),(0,pS rest1),(2,pS authority2),(0,.ptr 1 0 0),(66,pB b3)] 109,[bU0,(bU name0 [] 0 [] 0 0 0 0 0 0 0 0 0 (-1) rest1)],s⟩ k=JU L name0 rest1 authority2 (λn0 o p i q j l m n8 n c d e f g h a=>k .ret ⟨gp [(2,.ptr 0 0 0),(0,pI n0)] 183,((bU o p i q j l m n8 n c d e f g h)::a),s⟩)
theorem Af4(b:Code)(d:Tf (R:=R) L Q Y s b)(a:Code)(e:Tg (R:=R) L Q Y s a)(f:Th (R:=R) L Q Y s a):Tj (R:=R) L Q Y s (cd [1,1,1,1,1,1,1,1,1,1,1] (G3 [1,1,1,1,1,1,1,1,1,1,1,1,1,1] a (G3 [1,1,1,1,1,1,1,1,1,1,1,1,1,0,1] b L0))):=by intro k G H m U;unfold JU;exact let T:=(E5 (J0 L) Q Y a k);(a8 (by kernel_rfl) (A4 λD=>((CO L Q Y s (E6 2 (E5 (J0 L) Q Y (cd [1,1,1,1,1,1,1,1,1,1,1,1] (G3 [1,1,1,1,1,1,1,1,1,1,1,1,1,1] a (G3 [1,1,1,1,1,1,1,1,1,1,1,1,1,0,1] b L0))) k)) L G m D H).trans (congr rfl (fx4 λl c x y=>(a8 (by kernel_rfl) (A0 (A4 λw=>(A0 (A0 (A4 λF=>((d T l c w (F==91) x y).trans (congr (congr (congr rfl (by kernel_rfl)) (fx6 λn g r z I J=>(a8 (by kernel_rfl) ((e k n g r z I J).trans (by kernel_rfl))))) (fx6 λo h t A K M=>(a8 (by kernel_rfl) ((f k o h t A K M).trans (by kernel_rfl))))))) rfl) ((d T l c w false x y).trans (congr (congr (congr rfl (by kernel_rfl)) (fx6 λp i u B N O=>(a8 (by kernel_rfl) ((e k p i u B N O).trans (by kernel_rfl))))) (fx6 λq j v C P S=>(a8 (by kernel_rfl) ((f k q j v C P S).trans (by kernel_rfl)))))))) rfl)))))))
theorem Af5:Tj (R:=R) L Q Y s (cd [1,1,1,1,1,1,1,1,1,1,1] L0):=by intro k b c a d;exact a8 (by kernel_rfl) (Af4 L Q Y s (cd [1,1,1,1,1,1,1,1,1,1,1,1,1,0,1] L0) (CL L Q Y s) (cd [1,1,1,1,1,1,1,1,1,1,1,1,1,1] L0) (CM L Q Y s) (CN L Q Y s) k b c a d)
noncomputable def Pc{R:Type}(L:Nat)(s0:By)(k0:By->By->Int->By->Int->Int->Int->Int->Int->Int->Int->Int->Int->Int->By->Int->(List Blk)->Option R):Option R:=Eh L L s0 0 (λb4=>k0 e0 e0 0 e0 0 0 0 0 0 0 0 0 0 0 e0 4 (bU0::b4)) (λa=>cond (A2 a.length) (cond (not (((Dj a)).2).2) (k0 e0 e0 0 e0 0 0 0 0 0 0 0 0 0 0 e0 15 [bU0]) (cond (not (E7 ((Dj a)).1)) (k0 ((Dj a)).1 e0 0 e0 0 0 0 0 0 0 0 0 0 (-1) (((Dj a)).2).1 0 [(bU (((Dj a)).1) e0 (0:Int) e0 (0:Int) (0:Int) (0:Int) (0:Int) (0:Int) (0:Int) (0:Int) (0:Int) (0:Int) ((-1):Int) ((((Dj a)).2).1))]) (cond (ltI (↑(j4 (((Dj a)).2).1):Int) (2:Int)) (k0 e0 e0 0 e0 0 0 0 0 0 0 0 0 0 0 e0 4 [bU0]) (cond (I7 0 (2:Int) (j4 (((Dj a)).2).1)) (vl (cut (((Dj a)).2).1 (0:Int) (2:Int)) λb5=>cond (not (b5==[47,47])) (k0 e0 e0 0 e0 0 0 0 0 0 0 0 0 0 0 e0 4 [bU0]) (cond (I7 2 (↑(j4 (((Dj a)).2).1):Int) (j4 (((Dj a)).2).1)) (vl (cut (((Dj a)).2).1 (2:Int) (↑(j4 (((Dj a)).2).1):Int)) λb=>cond (A2 b.length) (vl (↑(Q9 b ([47,63,35]:List UInt8)):Int) λd=>cond (I7 0 d b.length) (cond (I7 d (b.length:Int) b.length) (vl (cut b d (b.length:Int)) λc=>cond (c==e0) (cond (J6 1 c.length) (vl (([47]:List UInt8)++c) λb2=>Hi L ((Dj a)).1 (cut b 0 d) b2 (λa9 P S e T f g h i j l m n o p U a5=>k0 P S e T f g h i j l m n o p U a9 ((bU P S e T f g h i j l m n o p U)::a5))) none) (cond (inR 0 c.length) (cond ((bAt c (0:Int))!=47) (cond (J6 1 c.length) (vl (([47]:List UInt8)++c) λb3=>Hi L ((Dj a)).1 (cut b 0 d) b3 (λb0 V W q X r t u v w x y z A B a0 a6=>k0 V W q X r t u v w x y z A B a0 b0 ((bU V W q X r t u v w x y z A B a0)::a6))) none) (JU L ((Dj a)).1 c (cut b 0 d) (λb1 a1 a2 C a3 D F G H I J K M N O a4 a7=>k0 a1 a2 C a3 D F G H I J K M N O a4 b1 ((bU a1 a2 C a3 D F G H I J K M N O a4)::a7)))) none)) none) none) none) none)) none)))) none)
theorem Cg0(a:Code)(b:Ti (R:=PV × List Blk × Z) L Q Y s a)(c:Tj (R:=PV × List Blk × Z) L Q Y s a)(t:By):A9 (J0 L) Q Y (cd [] (G3 [1,1,1,1,1,1,1,1,1,1,1] a L0)) ⟨[pS t]++tps 186,[],s⟩ (F7 (J0 L) ae9)=Pc L t (λu v w x y z A B r8 C m n o p q r l=>some (.tup [(gU u v w x y z A B r8 C m n o p q),pI r],l,s)):=by unfold Pc;exact let j:=(F7 (J0 L) ae9);(a8 (by kernel_rfl) ((Af6 L Q Y s (E6 0 (E5 (J0 L) Q Y (cd [1,1] (G3 [1,1,1,1,1,1,1,1,1,1,1] a L0)) j)) L t 0).trans (congr (congr rfl (by kernel_rfl)) (fx1 λe=>(a8 (by kernel_rfl) (A0 (A0 rfl (A0 rfl (A0 rfl (A0 (A4 λD=>(A0 rfl (A0 (A4 λf=>(A0 (A4 λd=>(A0 (A0 (A4 λi=>(A0 (A0 (A4 λg=>((b j ((Dj e)).1 (cut f 0 d) g).trans (by kernel_rfl))) rfl) (A0 (A0 (A0 (A4 λh=>((b j ((Dj e)).1 (cut f 0 d) h).trans (by kernel_rfl))) rfl) ((c j ((Dj e)).1 i (cut f 0 d) ((bAt i (0:Int))!=47)).trans (by kernel_rfl))) rfl))) rfl) rfl)) rfl)) rfl))) rfl)))) rfl))))))
theorem Cg1(d:Nat)(s0):evC (J0 L) (d+1) Z Y 41 [pS s0] [] s=Pc L s0 (λi j l m n o p q r8 r b c e f g h a=>some (.tup [(gU i j l m n o p q r8 r b c e f g),pI h],a,s)):=
 (evE (fn:=ae9) (by kernel_rfl)).trans (a8 (by kernel_rfl) (Cg0 L (evC (J0 L) d) Y s (cd [1,1,1,1,1,1,1,1,1,1,1] L0) (Af2 L (evC (J0 L) d) Y s) (Af5 L (evC (J0 L) d) Y s) s0))
noncomputable def Zb(L:Nat):Cfg:=B6 L [14] (A3 []) [(41,Be3)] (A3 [(3,[2,0]),(2,[2,0]),(1,[0,1,3]),(0,[0,1])]) [] (A3 []) (some [2,0]) [] [] []
noncomputable def EH{R:Type}(L:Nat)(b:By)(c:By->By->Int->By->Int->Int->Int->Int->Int->Int->Int->Int->Int->Int->By->Int->(List Blk)->Option R):Option R:=cond (ltI 2048 (b.length:Int)) (c e0 e0 0 e0 0 0 0 0 0 0 0 0 0 0 e0 3 [bU0]) (cond (A2 b.length) (vl (C0 b) λa=>c (uS a) (uU a) (uK a) (uN a) (uV a) (uA a 0) (uA a 1) (uA a 2) (uA a 3) (uA a 4) (uA a 5) (uA a 6) (uA a 7) (uP a) (uR a) (uE a) [(bQ a)]) none)
theorem A72(d:Nat)(s0):evC (Zb L) (d+1) Z Y 14 [pS s0] [] s=EH L s0 (λi j l m n o p q r8 r b c e f g h a=>some (.tup [(gU i j l m n o p q r8 r b c e f g),pI h],a,s)):=by refine(evE (fn:=Tryz.f14) (by kernel_rfl)).trans ?_;generalize evC (Zb L) d=Q;unfold EH;kernel_rfl
noncomputable def TD(L:Nat):Cfg:=B6 L [25] (A3 []) [] (A3 [(1,[2]),(0,[1])]) [] (A3 []) (some [2]) [] [] []
noncomputable def Bk3{R:Type}(L:Nat)(f h:By)(i:Int)(j:By)(l m n o u8 p a b c d:Int)(e:By)(g:Bool->(List Blk)->Option R):Option R:=cond (f==[104,116,116,112]) (g true [(bU f h i j l m n o u8 p a b c d e)]) (g (f==[119,115]) [(bU f h i j l m n o u8 p a b c d e)])
theorem Cf8(d:Nat)(u0 u1 u2 u3 u4 u5 u6 u7 u8 u9 u10 u11 u12 u13 u14):evC (TD L) (d+1) Z Y 25 [(gU u0 u1 u2 u3 u4 u5 u6 u7 u8 u9 u10 u11 u12 u13 u14)] [] s=Bk3 L u0 u1 u2 u3 u4 u5 u6 u7 u8 u9 u10 u11 u12 u13 u14 (λb a=>some (pB b,a,s)):=by refine(evE (fn:=Tryz.f25) (by kernel_rfl)).trans ?_;generalize evC (TD L) d=Q;unfold Bk3;kernel_rfl
end
theorem Ah1{R:Type}{e:Bool->Option R}(s:By):VV LF s e=e (E7 s):=by unfold VV E7 Dx bWs Z7 Qs;generalize (s==([104,116,116,112]:List UInt8))=a;generalize (s==([119,115]:List UInt8))=b;generalize (s==([104,116,116,112,115]:List UInt8))=c;generalize (s==([119,115,115]:List UInt8))=d;cases a<;>cases b<;>cases c<;>cases d<;>rfl
theorem A77{R:Type}{e:Int->Option R}(s:By):Bk4 LF s e=e (L3 s):=by unfold Bk4 L3 Dx bWs Z7 Qs;generalize (s==([104,116,116,112]:List UInt8))=a;generalize (s==([119,115]:List UInt8))=b;generalize (s==([104,116,116,112,115]:List UInt8))=c;generalize (s==([119,115,115]:List UInt8))=d;cases a<;>cases b<;>cases c<;>cases d<;>rfl
theorem Kb(a b:UInt8):((a.toNat:Int)==(b.toNat:Int))=(a==b):=by rw[aa5,beq_iff_eq,beq_iff_eq];exact⟨λh=>aa8.1 (by omega),λh=>by rw[h]⟩
theorem Cf7{R:Type}{a:Int->Option R}{b:By->By->Int->Option R}(s t:By)(i:Nat)(h:s.length<=1000000000)(k:t.length<=1000000000)(g:i<s.length):∀(r j n:Nat),j+r=t.length->r<n->
  He LF n s t (i:Int) (j:Int) a b=if (t.drop j).contains (s.getD i 0)=true then a (i:Int) else b s t (i:Int):=by
 intro r
 induction r with
 | zero=>
  intro j n d e;obtain⟨n,rfl⟩:∃m,n=m+1:=⟨n-1,by omega⟩
  rw[He];rw[A6,c9 (by omega)];rfl
 | succ r f=>
  intro j n d e;obtain⟨n,rfl⟩:∃m,n=m+1:=⟨n-1,by omega⟩
  have c:A1 ((j:Int)+1)=((j+1:Nat):Int):=by rw[A7];rfl
  rw[He];rw[A8,E9,E9,D1,D1,Kb,D2 t j (by omega),ab1,c];simp only[cond_true];rw[f (j+1) n (by omega) (by omega)];cases (s.getD i 0==t.getD j 0)<;>rfl
theorem Bw4{R:Type}{a:Int->Option R}{c:By->Option R}(s t:By)(j:s.length<=1000000000)(k:t.length<=1000000000):∀(r i n:Nat),i+r=s.length->r<n->
  Hf LF n s t (i:Int) a c=if Q9 (s.drop i) t<r then a ((i+Q9 (s.drop i) t:Nat):Int) else c s:=by
 have e:=C6;intro r
 induction r with
 | zero=>
  intro i n f g;obtain⟨n,rfl⟩:∃m,n=m+1:=⟨n-1,by omega⟩
  rw[Hf];rw[A6,F5];rfl
 | succ r l=>
  intro i n f g;obtain⟨n,rfl⟩:∃m,n=m+1:=⟨n-1,by omega⟩
  have d:A1 ((i:Int)+1)=((i+1:Nat):Int):=by rw[A7];rfl
  rw[Hf];rw[A8,cond_true];refine a8 (Cf7 s t i j k (by omega) t.length 0 LF (by omega) (by omega)) ?_;rw[j8,d,l (i+1) n (by omega) (by omega),D2 s i (by omega)];unfold Q9;cases h:t.contains (s.getD i 0) with
  | true=>
   rw[if_pos rfl,x3,h];rfl
  | false=>
   rw[if_neg (by simp),x3,h];simp only[j0,if_true,j6,ab8];rw[show i+1+(ae6 (λb=>!t.contains b) (s.drop (i+1))).length=i+((ae6 (λb=>!t.contains b) (s.drop (i+1))).length+1) by omega]
theorem At2(s t:By):Q9 s t<=s.length:=af5 (List.takeWhile_sublist _)
theorem A70{R:Type}{a:Int->Option R}(s t:By)(b:A2 s.length=true)(c:A2 t.length=true):Cf5 LF s t a=a (Q9 s t:Int):=by
 have e:=M3 b;have f:=M3 c;have d:=C6;have g:=At2 s t;refine(Bw4 s t e f s.length 0 LF (by omega) (by omega)).trans ?_;rw[j8,Nat.zero_add];split
 ·rfl
 ·rw[show Q9 s t=s.length by omega]
set_option maxHeartbeats 4000000 in theorem CT{R:Type}(s:By)(i:Nat)(b:UInt8)(f:By->Int->Option R)(g:Unit->Option R) :
  Al s (i:Int) (b.toNat:Int) (λs i _=>f s i) g=if P6 b=true\/(i≠0/\K7 b=true) then f s i else g ():=by
 have a:(b=43)=(b.toNat=43):=by rw[eq_iff_iff,<-aa8];rfl
 have d:(b=45)=(b.toNat=45):=by rw[eq_iff_iff,<-aa8];rfl
 have e:(b=46)=(b.toNat=46):=by rw[eq_iff_iff,<-aa8];rfl
 simp only[U2,Ej,a,d,e];unfold Al Hl Ww Kk Hk Kj Hj;generalize b.toNat=c;simp only[cond_eq_ite,ad4,Ov,beq_iff_eq,Bool.not_eq_false',Lr,beq_eq_false_iff_ne,j1,j0,ab0,Bool.true_eq_false,if_true,if_false,ne_eq]
 repeat' split
 all_goals first|rfl|(exfalso;omega)
theorem WN{c:UInt8}:∀{p:By},c∉p->p.takeWhile (λb=>b !=c)=p
 | [],_=>rfl
 | b::p,h=>by
  simp only[ad1,not_or] at h;rw[x3,if_pos (by simpa using af8 h.1),WN h.2]
theorem Ci9{c:UInt8}{p:By}(r:By)(h:c∉p):(p++c::r).takeWhile (λb=>b !=c)=p:=by
 rw[List.takeWhile_append_of_pos (λx a=>by
  rw[bne_iff_ne];intro e;subst e;exact h a),x3,if_neg (by simp),aa6]
theorem Dk7{c b:UInt8}(r:By)(h:b≠c):(b::r).takeWhile (λb=>b !=c)=b::r.takeWhile λb=>b !=c:=by rw[x3,if_pos (by simpa using h)]
theorem B58(b:UInt8):((b.toNat:Int)==58)=(b==58):=Kb b 58
theorem A75{R:Type}{c:By->By->Bool->Option R}(s:By)(q:s.length<=1000000000):∀(r i n:Nat),1<=i->i+r=s.length->r<n->
  O4 LF n s (i:Int) c (λ_=>c [] [] false)=if ((s.drop i).takeWhile λb=>b !=58).all K7=true/\((s.drop i).takeWhile λb=>b !=58).length<r then c (B3 (s.take (i+((s.drop i).takeWhile λb=>b !=58).length))) (s.drop (i+((s.drop i).takeWhile λb=>b !=58).length+1)) true else c [] [] false:=by
 intro r
 induction r with
 | zero=>
  intro i n k l o;obtain⟨n,rfl⟩:∃m,n=m+1:=⟨n-1,by omega⟩
  rw[O4];rw[A6,F5];rfl
 | succ r p=>
  intro i n k l o;obtain⟨n,rfl⟩:∃m,n=m+1:=⟨n-1,by omega⟩
  have g:A1 ((i:Int)+1)=((i+1:Nat):Int):=by rw[A7];rfl
  rw[O4];unfold Ki;rw[A8,E9,D1,D2 s i (by omega),B58,A8];simp only[cond_true,cond_false];by_cases a:s.getD i 0=58
  ·rw[a,show((58:UInt8)==58)=true from rfl,cond_true,show((58:UInt8)::s.drop (i+1)).takeWhile (λb=>b !=58)=[] from rfl,if_pos ⟨rfl,by simp⟩];simp only[vl];rw[I2,K2,b8,E0 (by rw[p4];omega),g,I2,Q8,b8];rfl
  ·rw[show(s.getD i 0==58)=false by simpa using a,cond_false,Dk7 _ a];simp only[vl];refine(CT s i (s.getD i 0) (λf e=>O4 LF n f (A1 (e+1)) c λ_=>c [] [] false) (λ_=>c [] [] false)).trans ?_;rw[g,p (i+1) n (by omega) (by omega) (by omega),aa3,j6];have j:(P6 (s.getD i 0)=true\/i≠0/\K7 (s.getD i 0)=true)↔K7 (s.getD i 0)=true:=by
    refine⟨λh=>?_,λh=>.inr ⟨by omega,h⟩⟩;rcases h with h|⟨_,h⟩
    ·rw[Ej];rw[U2] at h;exact h.elim .inl λh=>.inr (.inl h)
    ·exact h
   by_cases d:K7 (s.getD i 0)=true
   ·rw[if_pos (j.2 d)];simp only[d,x7,ab8];rw[show i+1+((s.drop (i+1)).takeWhile λb=>b !=58).length=i+(((s.drop (i+1)).takeWhile λb=>b !=58).length+1) by omega]
   ·rw[if_neg (λh=>d (j.1 h)),if_neg (λh=>d (by have:=h.1;rw[w9] at this;exact this.1))]
theorem A76{R:Type}{a:By->By->Bool->Option R}(s:By)(n:A2 s.length=true):Ag0 LF s a=a (Dj s).1 (Dj s).2.1 (Dj s).2.2:=by
 have u:=M3 n;have o:=C6;obtain⟨N,hN⟩:∃m,LF=m+1:=⟨LF-1,by omega⟩
 unfold Ag0;rw[show O4 LF LF = @O4 R LF (N+1) by rw[<-hN],O4];unfold Ki;cases s with
 | nil=>
  rfl
 | cons b r=>
  rw[j6] at u;rw[B7 (by simp only[j6];omega),M8 (by omega) (by simp),Ah,ac8,B58,A6];simp only[cond_true,cond_false,vl];have l:A1 (((0:Nat):Int)+1)=((1:Nat):Int):=rfl;have go:Al (b::r) ((0:Nat):Int) (b.toNat:Int) (λe d _=>O4 LF N e (A1 (d+1)) a λ_=>a [] [] false) (λ_=>a [] [] false)=if P6 b=true/\(r.takeWhile λb=>b !=58).all K7=true/\(r.takeWhile λb=>b !=58).length<r.length then a (B3 ((b::r).take (1+(r.takeWhile λb=>b !=58).length))) ((b::r).drop (1+(r.takeWhile λb=>b !=58).length+1)) true else a [] [] false:=by
   refine(CT (b::r) 0 b (λe d=>O4 LF N e (A1 (d+1)) a λ_=>a [] [] false) (λ_=>a [] [] false)).trans ?_;rw[l,A75 (b::r) (by simp;omega) r.length 1 N (by omega) (by simp;omega) (by omega)];by_cases j:P6 b=true
   ·rw[if_pos (.inl j)];simp only[j,true_and];rfl
   ·rw[if_neg (by simp[j]),if_neg (λh=>j h.1)]
  have k:∀c,(bif c then Al (b::r) 0 (b.toNat:Int) (λe d _=>O4 LF N e (A1 (d+1)) a λ_=>a [] [] false) (λ_=>a [] [] false) else Al (b::r) 0 (b.toNat:Int) (λe d _=>O4 LF N e (A1 (d+1)) a λ_=>a [] [] false) (λ_=>a [] [] false))=Al (b::r) ((0:Nat):Int) (b.toNat:Int) (λe d _=>O4 LF N e (A1 (d+1)) a λ_=>a [] [] false) (λ_=>a [] [] false):=λc=>by cases c<;>rfl
  refine(k _).trans (go.trans ?_);unfold Dj;rcases Q1 58 r with f|⟨p,t,rfl,f⟩
  ·rw[WN f,F5];by_cases i:b=58
   ·subst i;rw[show ab5 (58::r) [58]=([],r,true) from T4 (p:=[]) (by simp)];rfl
   ·rw[Jt (by simp only[ad1,not_or];exact⟨af8 i,f⟩)];rfl
  ·rw[Ci9 t f];by_cases i:b=58
   ·subst i;rw[show ab5 (58::(p++58::t)) [58]=([],p++58::t,true) from T4 (p:=[]) (by simp),if_neg (λh=>by cases h.1)];rfl
   ·rw[show ab5 (b::(p++58::t)) [58]=(b::p,t,true) from T4 (p:=b::p) (by simp only[ad1,not_or];exact⟨af8 i,f⟩)];simp only[x7];have q:S6 (b::p)=(P6 b&&p.all K7):=rfl;rw[q];by_cases g:P6 b=true/\p.all K7=true
    ·rw[if_pos ⟨g.1,g.2,by simp⟩,g.1,g.2,show(b::(p++58::t))=(b::p)++58::t from rfl,show 1+p.length=(b::p).length by rw[j6];omega,ac6,show(b::p)++58::t=((b::p)++[58])++t by simp,ac2 (by simp)];rfl
    ·rw[if_neg (λh=>g ⟨h.1,h.2.1⟩),if_neg (by simpa using g)]
def LG:Int->By->Option Int
 | n,[]=>some n
 | n,b::r=>if 48<=b.toNat/\b.toNat<=57 then LG (min (n*10+((b.toNat-48:Nat):Int)) 1048576) r else none
theorem Aa3:∀(l:By) (n v:Int),0<=v->v<=65536->n<=1048576->(v<65536->n=v)->(v=65536->65536<=n)->Gx v l=(LG n l).bind λm=>if 65535<m then none else some m
 | [],n,v,d,e,f,c,g=>by
  unfold Gx LG;rw[aa1];by_cases h:v<65536
  ·rw[if_pos h,F5,c h]
  ·rw[if_neg h,P9]
 | b::r,n,v,d,e,f,c,g=>by
  unfold Gx LG;by_cases a:48<=b.toNat/\b.toNat<=57
  ·rw[if_pos a,if_pos a];exact Aa3 r _ _ (by omega) (by omega) (by omega) (by omega) (by omega)
  ·rw[if_neg a,if_neg a];rfl
theorem Ax5(b:UInt8)(r:By):Gx (-1) (b::r)=Gx 0 (b::r):=rfl
theorem Ac5:∀(l:By) (n m:Int),0<=n->n<=1048576->LG n l=some m->0<=m/\m<=1048576
 | [],n,m,a,c,h=>by
  obtain rfl:n=m:=Option.some.inj h;exact⟨a,c⟩
 | b::r,n,m,a,c,h=>by
  unfold LG at h;split at h
  ·exact Ac5 r _ m (by omega) (by omega) h
  ·cases h
theorem Af9{R:Type}(q u t:By)(d:Int)(e:By)(f g h j k l o p c:Int)(a:By)(L:a.length<=1000000000)(w:List Blk->Option R)(x:By->Int->By->Int->By->Int->Int->Int->Int->Int->Int->Int->Int->Int->By->Option R):∀(r i n:Nat) (v:Int),i+r=a.length->r<n->0<=v->v<=1048576->
  Ei LF n q a v (i:Int) u d e f g h j k l o p c t w x=match LG v (a.drop i) with
   | none=>w [bU q u d e f g h j k l o p c (-1) t,bH d e f g h j k l o p c]
   | some m=>x q m u d e f g h j k l o p c t:=by
 intro r
 induction r with
 | zero=>
  intro i n v I J D F;obtain⟨n,rfl⟩:∃m,n=m+1:=⟨n-1,by omega⟩
  rw[Ei];rw[A6,c9 (by omega)];rfl
 | succ r K=>
  intro i n v I J D F;obtain⟨n,rfl⟩:∃m,n=m+1:=⟨n-1,by omega⟩
  have y:A1 ((i:Int)+1)=((i+1:Nat):Int):=by rw[A7];rfl
  rw[Ei];rw[A8,E9,D1,D2 a i (by omega),y];have M:=(a.getD i 0).toNat_lt;generalize a.getD i 0=b at *;unfold LG;simp only[cond_true,vl];by_cases G:b.toNat<48
  ·rw[A8,cond_true,F5]
  ·rw[A6,cond_false];by_cases H:57<b.toNat
   ·rw[A8,cond_true,F5]
   ·rw[A6,cond_false,if_pos (show 48<=b.toNat/\b.toNat<=57 by omega)];have z:A1 (v*10)=v*10:=A7;have A:wu8 ((b.toNat:Int)-48)=((b.toNat-48:Nat):Int):=by rw[L9];omega
    have B:A1 ((b.toNat-48:Nat):Int)=((b.toNat-48:Nat):Int):=A7;have C:A1 (v*10+((b.toNat-48:Nat):Int))=v*10+((b.toNat-48:Nat):Int):=A7;rw[z,A,B,C,show(if (1048576:Int)<v*10+((b.toNat-48:Nat):Int) then (1048576:Int) else v*10+((b.toNat-48:Nat):Int))=min (v*10+((b.toNat-48:Nat):Int)) 1048576 by omega];exact K (i+1) n _ (by omega) (by omega) (by omega) (by omega)
abbrev KE(R:Type):=Int->By->By->Int->By->Int->Int->Int->Int->Int->Int->Int->Int->Int->Int->By->List Blk->Option R
abbrev MQ{R:Type}(a:KE R)(q:S9 × Nat)(H:List Blk):Option R:=a (uE q) (uS q) (uU q) (uK q) (uN q) (uV q) (uA q 0) (uA q 1) (uA q 2) (uA q 3) (uA q 4) (uA q 5) (uA q 6) (uA q 7) (uP q) (uR q) H
theorem Io(c l j a:By)(e:Nat)(q:a.length<=1000000000)(w:e<=a.length):∃H,∀(R:Type) (f:KE R),R9 LF c a (e:Int) l j f=MQ f (hpT (a.take e) (a.drop e) c l j) H:=by
 have p:=C6;have n:A1 ((e:Int)+1)=((e+1:Nat):Int):=by rw[A7];rfl
 have k:A2 (a.take e).length=true:=E0 (by rw[p4];omega);by_cases h:(B9 (a.take e)).2=0
 ·by_cases t:e+1<a.length
  ·have i:(a.drop e).drop 1=a.drop (e+1):=by rw[ab2]
   have r:=D2 a (e+1) t;have u:Gx (-1) (a.drop (e+1))=(LG 0 (a.drop (e+1))).bind λm=>if 65535<m then none else some m:=by
    rw[r,Ax5];exact Aa3 _ 0 0 (by omega) (by omega) (by omega) (by omega) (by omega)
   have x:=@Ac5 (a.drop (e+1)) 0;generalize v:LG 0 (a.drop (e+1))=g at *;have o:g=none\/(∃m,g=some m/\65535<m)\/(∃m,g=some m/\¬ 65535<m/\m=L3 c)\/∃m,g=some m/\¬ 65535<m/\m≠L3 c:=by
    cases g with
    | none=>exact .inl rfl
    | some m=>
     by_cases b:65535<m
     ·exact .inr (.inl ⟨m,rfl,b⟩)
     ·by_cases d:m=L3 c
      ·exact .inr (.inr (.inl ⟨m,rfl,b,d⟩))
      ·exact .inr (.inr (.inr ⟨m,rfl,b,d⟩))
   rcases o with rfl|⟨m,rfl,b⟩|⟨m,rfl,b,d⟩|⟨m,rfl,b,d⟩
   all_goals
    apply w8;intro R f;unfold R9 hpT;rw[I2,K2,b8,i,u];simp only[vl,cond_true,k,h,n];rw[A8,Af9 c l j _ _ _ _ _ _ _ _ _ _ _ a q _ _ (a.length-(e+1)) (e+1) LF 0 (by omega) (by omega) (by omega) (by omega),v]
   ·rfl
   ·simp only[aa1,if_pos b];rw[A8];rfl
   ·simp only[aa1,if_neg b,if_pos d];rw[A6,show(m==L3 c)=true by simpa using d];rfl
   ·simp only[aa1,if_neg b,if_neg d];rw[A6,show(m==L3 c)=false by simpa using d];rfl
  ·have i:(a.drop e).drop 1=[]:=by rw[ab2,c9 (by omega)]
   apply w8;intro R f;unfold R9 hpT;rw[I2,K2,b8,i];simp only[vl,cond_true,k,h,n];rw[A6];simp only[Gx,show((-1:Int)<65536)=True by simp,if_true,ite_self,show((((0:Nat):Int)!=0))=false from rfl,cond_false,ne_eq,not_true_eq_false,if_false];cases (-1:Int)==L3 c<;>rfl
 ·apply w8;intro R f;unfold R9 hpT;rw[I2,K2,b8];simp only[vl,cond_true,k];rw[show(((B9 (a.take e)).2:Int)!=0)=true by simpa using h,cond_true,if_pos h];rfl
theorem Ct3{c:UInt8}{a:By}(h:Gu c a=none):c∉a:=λd=>by
 rcases Q1 c a with b|⟨p,r,rfl,b⟩
 ·exact b d
 ·rw[Vm r b] at h;cases h
theorem ZA(c:UInt8)(a:By):Q9 a [c]=match Gu c a with|some k=>k|none=>a.length:=by
 have e:Q9 a [c]=(a.takeWhile λb=>b !=c).length:=by
  unfold Q9
  congr 2
  funext b
  simp[ab1,bne];rfl
 rw[e];cases h:Gu c a with
 | none=>rw[WN (Ct3 h)]
 | some k=>
  obtain⟨p,r,rfl,d,rfl⟩:=Qb h;rw[Ci9 r d]
theorem JT(c f d a:By)(w:a.length<=1000000000):∃H,∀(R:Type) (g:KE R),(cond (not (a==([]:By)))
   (cond (inR (0:Int) (j4 a))
   (Ce c a (Q9 a [58]:Int) (bAt a 0==(91:Int)) f d (λH=>MQ g (Z5,4) H) (λo t n y u v=>R9 LF o t n u v g) (λo t n y u v=>R9 LF o t n u v g))
   none)
   (Ce c a (Q9 a [58]:Int) false f d (λH=>MQ g (Z5,4) H) (λo t n y u v=>R9 LF o t n u v g) (λo t n y u v=>R9 LF o t n u v g)))=MQ g (M7 c f d a) H:=by
 cases a with
 | nil=>
  obtain⟨H,e⟩:=Io c f d [] 0 w (ab6 _);exact⟨H,e⟩
 | cons b r=>
  have F:(((b.toNat:Int))==91)=(b==91):=Kb b 91;have z:(!((b::r)==([]:By)))=true:=rfl;have G:inR (0:Int) (b::r).length=true:=M8 (by omega) (by simp);have A:A2 (b::r).length=true:=E0 w;rw[Vk];unfold Ee Ce;simp only[z,G,A,cond_true,cond_false,vl,Ah,ac8,F,ae5,p9,ZA];by_cases j:b=91
  ·rw[show(b==91)=true by simpa using j,if_pos j];simp only[cond_true];cases B:Gu 93 (b::r) with
   | none=>
    apply w8;intro R g;simp only;rw[A7,A8];rfl
   | some k=>
    obtain⟨_,K⟩:=TY B;have C:A1 ((k:Int)+1)=((k+1:Nat):Int):=by rw[A7];rfl
    simp only[C];rw[A6];simp only[cond_false];obtain⟨H,e⟩:=Io c f d (b::r) (k+1) w (by omega);by_cases I:k+1<(b::r).length
    ·rw[A8,E9];simp only[cond_true,D1];have m:=D2 (b::r) (k+1) I;by_cases i:(b::r).getD (k+1) 0=58
     ·have l:hpC ((b::r).take (k+1)) ((b::r).drop (k+1)) c f d=hpT ((b::r).take (k+1)) ((b::r).drop (k+1)) c f d:=if_neg (λh=>h.2 (by rw[m,i];rfl));rw[l];refine⟨H,λR g=>a8 ?_ (e R g)⟩;rw[i];rfl
     ·have l:hpC ((b::r).take (k+1)) ((b::r).drop (k+1)) c f d=(Z5,4):=if_pos ⟨by rw[m];simp,by rw[m];simpa using i⟩;rw[l];apply w8;intro R g;rw[show((((b::r).getD (k+1) 0).toNat:Int)!=58)=true by rw[bne,B58];simpa using i];rfl
    ·have m:(b::r).drop (k+1)=[]:=c9 (by omega);rw[A6];have l:hpC ((b::r).take (k+1)) ((b::r).drop (k+1)) c f d=hpT ((b::r).take (k+1)) ((b::r).drop (k+1)) c f d:=if_neg (λh=>h.1 m);rw[l];exact⟨H,e⟩
  ·rw[show(b==91)=false by simpa using j,if_neg j];simp only[cond_false];cases B:Gu 58 (b::r) with
   | none=>
    obtain⟨H,e⟩:=Io c f d (b::r) (b::r).length w (ab6 _);rw[List.take_length,List.drop_length] at e;exact⟨H,e⟩
   | some k=>
    obtain⟨p,q,x,J,D⟩:=Qb B;obtain⟨H,e⟩:=Io c f d (b::r) k w (by rw[x,j2];omega);have m:(b::r).drop k=58::q:=by rw[x,<-D,List.drop_left]
    have l:hpC ((b::r).take k) ((b::r).drop k) c f d=hpT ((b::r).take k) ((b::r).drop k) c f d:=if_neg (λh=>h.2 (by rw[m];rfl));refine⟨H,λR g=>(e R g).trans ?_⟩;show _=MQ g (hpC _ _ c f d) H;rw[l]
theorem Af8{R:Type}{c:By->By->By->By->Option R}(d a f:By)(l:a.length<=1000000000)(b:(64:UInt8)∉a):∀(j n:Nat),j<=a.length->j<n->X9 LF n d a ((j:Int)-1) f c=c d a [] f:=by
 intro j
 induction j with
 | zero=>
  intro n g i;obtain⟨n,rfl⟩:∃m,n=m+1:=⟨n-1,by omega⟩
  rw[X9];rw[A8];rfl
 | succ j k=>
  intro n g i;obtain⟨n,rfl⟩:∃m,n=m+1:=⟨n-1,by omega⟩
  rw[X9];have h:a.getD j 0≠64:=λe=>b (by
   rw[<-e,j5,p6 (by omega)];exact z7 _)
  rw[show((j+1:Nat):Int)-1=(j:Int) by omega,A6,E9,D1,show(((a.getD j 0).toNat:Int)==64)=(a.getD j 0==64) from Kb _ 64,show(a.getD j 0==64)=false by simpa using h];simp only[j0,cond_true,cond_false];rw[C7 (n:=(j:Int)-1) (by omega) (by omega)];exact k n (by omega) (by omega)
theorem Af7{R:Type}{b:By->By->By->By->Option R}(c p r d:By)(l:(p++64::r).length<=1000000000)(a:(64:UInt8)∉r):∀(k n:Nat),k<=r.length->p.length+k<n->X9 LF n c (p++64::r) ((p.length+k:Nat):Int) d b=b c r p d:=by
 have o:(p++64::r).length=p.length+r.length+1:=by rw[j2,j6];omega
 intro k
 induction k with
 | zero=>
  intro n g i;obtain⟨n,rfl⟩:∃m,n=m+1:=⟨n-1,by omega⟩
  have f:A1 ((p.length:Int)+1)=((p.length+1:Nat):Int):=by rw[A7];rfl
  rw[X9];rw[Nat.add_zero,A6,E9,D1,show(p++64::r).getD p.length 0=64 by simp[j5]];simp only[vl,cond_true,j0];rw[I2,K2,b8,ac6,f,I2,Q8,b8,show p++64::r=(p++[64])++r by simp,ac2 (by simp)];rfl
 | succ k j=>
  intro n g i;obtain⟨n,rfl⟩:∃m,n=m+1:=⟨n-1,by omega⟩
  rw[X9];have h:(p++64::r).getD (p.length+(k+1)) 0≠64:=λe=>a (by
   rw[<-e,j5,List.getElem?_append_right (by omega),show p.length+(k+1)-p.length=k+1 by omega,List.getElem?_cons_succ,p6 (by omega)];exact z7 _)
  rw[A6,E9,D1,show((((p++64::r).getD (p.length+(k+1)) 0).toNat:Int)==64)=((p++64::r).getD (p.length+(k+1)) 0==64) from Kb _ 64,show((p++64::r).getD (p.length+(k+1)) 0==64)=false by simpa using h,show((p.length+(k+1):Nat):Int)-1=((p.length+k:Nat):Int) by omega];simp only[j0,cond_true,cond_false];rw[C7 (n:=((p.length+k:Nat):Int)) (by omega) (by omega)];exact j n (by omega) (by omega)
theorem Af3(c d a:By)(f:a.length<=1000000000):∃H,∀(R:Type) (b:KE R),Hi LF c a d b=MQ b (F9 c d a) H:=by
 have j:=C6;unfold F9;by_cases h:0<=K3 64 a
 ·obtain⟨p,r,rfl,g,k⟩:=IK h;rw[if_pos h,k,b8,ac6,show p++64::r=(p++[64])++r by simp,ac2 (by simp),show(p++[64])++r=p++64::r by simp];have m:(p++64::r).length=p.length+r.length+1:=by rw[j2,j6];omega
  obtain⟨H,e⟩:=JT c p d r (by omega);refine⟨H,λR b=>a8 ?_ (e R b)⟩;unfold Hi;simp only[vl];rw[A7,show((p++64::r).length:Int)-1=((p.length+r.length:Nat):Int) by omega,Af7 c p r d f g r.length LF (ab6 _) (by omega),M5];rfl
 ·rw[if_neg h];have i:(64:UInt8)∉a:=λl=>by
   obtain⟨p,r,rfl,g⟩:=AG l;rw[Qc p g] at h;omega
  obtain⟨H,e⟩:=JT c [] d a f;refine⟨H,λR b=>a8 ?_ (e R b)⟩;unfold Hi;simp only[vl];rw[A7,Af8 c a d f i a.length LF (ab6 _) (by omega),E0 f];rfl
theorem A74{R:Type}{a:List Blk->Option R}{b:By->Option R}(s:By)(g:s.length<=1000000000):∀(r i n:Nat),i+r=s.length->r<n->
  Eh LF n s (i:Int) a b=if (s.drop i).any ctl then a [] else b s:=by
 intro r
 induction r with
 | zero=>
  intro i n d e;obtain⟨n,rfl⟩:∃m,n=m+1:=⟨n-1,by omega⟩
  rw[Eh];rw[A6,c9 (by omega)];rfl
 | succ r f=>
  intro i n d e;obtain⟨n,rfl⟩:∃m,n=m+1:=⟨n-1,by omega⟩
  have c:A1 ((i:Int)+1)=((i+1:Nat):Int):=by rw[A7];rfl
  rw[Eh];rw[A8,E9,D1,D2 s i (by omega),c,ab7,Bg1];simp only[cond_true];rw[f (i+1) n (by omega) (by omega)];cases ltI 32 ((s.getD i 0).toNat:Int) with
  | false=>rfl
  | true=>cases (((s.getD i 0).toNat:Int)==127)<;>rfl
theorem TR(t:By):Q9 t [47,63,35]=I6 t:=by
 unfold Q9 I6
 congr 2
 funext b
 simp[L4,ab1,Bool.or_assoc];rfl
theorem Dj9(r:By):([47,47]:By).isPrefixOf r=(r.take 2==[47,47]):=by rw[aa5,ab3,List.prefix_iff_eq_take,beq_iff_eq];exact eq_comm
theorem Bw5(s:By)(i:A2 s.length=true):∃H,∀(R:Type) (d:KU R),Pc LF s d=HD d (C0 s) H:=by
 have P:=M3 i;have M:=C6;have L:∀{R:Type} (d:List Blk->Option R) (y:By->Option R),Eh LF LF s 0 d y=if s.any ctl then d [] else y s:=λd y=>A74 s P s.length 0 LF (by omega) (by omega)
 unfold C0;by_cases g:s.any ctl=true
 ·rw[if_pos g];apply w8;intro R d;unfold Pc;rw[L,if_pos g];rfl
 rw[if_neg g];have x:(ab5 s [58]).2.1.length<=s.length:=by
  rcases Q1 58 s with h|⟨p,r,rfl,h⟩
  ·rw[Jt h];exact ae2 _
  ·rw[T4 h,j2,j6];show r.length<=_;omega
 have a:Dj s=if (ab5 s [58]).2.2&&S6 (ab5 s [58]).1 then (B3 (ab5 s [58]).1,(ab5 s [58]).2.1,true) else ([],[],false):=rfl
 generalize ab5 s [58]=q at *;obtain⟨p,r,f⟩:=q;simp only at a x ⊢;cases v:(f&&S6 p) with
 | false=>
  rw[v] at a;rw[if_pos (by rw[<-af3,v];rfl)];apply w8;intro R d;unfold Pc;rw[L,if_neg g,i,a];rfl
 | true=>
 rw[v] at a;rw[if_neg (by rw[<-af3,v];simp)];simp only[if_true] at a;cases c:E7 (B3 p) with
 | false=>
  apply w8;intro R d;unfold Pc;rw[L,if_neg g,i,a];simp only[vl,cond_true,j1,cond_false];rw[c];rfl
 | true=>
 rw[if_neg (by simp)];by_cases U:r.length<2
 ·rw[if_pos (by rw[Dj9];simp only[ad4,beq_eq_false_iff_ne];intro e;have:=congrArg j4 e;rw[p4] at this;simp at this;omega)];apply w8;intro R d;unfold Pc;rw[L,if_neg g,i,a];simp only[vl,cond_true,j1,cond_false];rw[c,A8];rfl
 have z:cut r (0:Int) (2:Int)=r.take 2:=K2 r 2;have K:cut r (2:Int) (r.length:Int)=r.drop 2:=Q8 r 2;rw[Dj9];cases Ok:(r.take 2==([47,47]:By)) with
 | false=>
  apply w8;intro R d;unfold Pc;rw[L,if_neg g,i,a];simp only[vl,cond_true,j1,cond_false];rw[c,A6,I2];simp only[vl,cond_true,j1,cond_false,z];rw[Ok];rfl
 | true=>
 rw[if_neg (by simp)];generalize S:r.drop 2=t at *;have lt:t.length<=r.length:=by rw[<-S,j7];omega
 have Q:=Xe t;obtain⟨H,e⟩:=Af3 (B3 p) (R0 (t.drop (I6 t))) (t.take (I6 t)) (by rw[p4];omega);refine⟨(λq=>bU (uS q) (uU q) (uK q) (uN q) (uV q) (uA q 0) (uA q 1) (uA q 2) (uA q 3) (uA q 4) (uA q 5) (uA q 6) (uA q 7) (uP q) (uR q)::H) (F9 (B3 p) (R0 (t.drop (I6 t))) (t.take (I6 t))),λR d=>?_⟩;refine a8 ?_ (e R λn0 G I A J B C D n8 F j k l m n o w=>d G I A J B C D n8 F j k l m n o n0 (bU G I A J B C D n8 F j k l m n o::w));unfold Pc;rw[L,if_neg g,i,a];simp only[vl,cond_true,j1,cond_false];rw[c,A6,I2];simp only[vl,cond_true,j1,cond_false,z];rw[Ok,I2];simp only[vl,cond_true,j1,cond_false,K];rw[M5,TR,I2,I2,K2,Q8,b8];simp only[cond_true];have V:(t.drop (I6 t)).length<=t.length:=by rw[j7];omega
 generalize t.drop (I6 t)=X at *;generalize t.take (I6 t)=T at *;unfold R0;cases X with
 | nil=>rfl
 | cons b X=>
  have N:inR (0:Int) (b::X).length=true:=M8 (by omega) (by simp);have O:((((b::X).getD 0 0).toNat:Int)!=47)=(b !=47):=by rw[bne,bne];exact congrArg _ (Kb b 47)
  rw[show((b::X)==([]:By))=false from rfl,N,Ah,O];simp only[cond_true,cond_false,ae5,p9];by_cases u:b=47
  ·rw[show(b !=47)=false by simpa using u,if_pos u];rfl
  ·rw[show(b !=47)=true by simpa using u,if_neg u,J7 (by omega)];rfl
theorem Cg2(s:By)(a:A2 s.length=true):∃r H,Pc LF s rvU=rv r H/\r.stab [0,0] H=pvU (C0 s):=by obtain⟨H,e⟩:=Bw5 s a;exact⟨_,_,e _ _,rfl⟩
theorem A73(s:By)(a:A2 s.length=true):∃r H,EH LF s rvU=rv r H/\r.stab [0,0] H=pvU (B5 s):=by
 unfold EH B5;by_cases h:2048<s.length
 ·rw[A8,if_pos h];exact⟨_,_,rfl,rfl⟩
 ·rw[A6,if_neg h,a];exact⟨_,_,rfl,rfl⟩
section
variable {Z R : Type} (L : Nat) (Q : G0) (Y : Yh Z) (s : Z) (k : Out -> St Z -> Option R)
noncomputable def GV(L:Nat):Cfg:=B6 L [148] (A3 []) [] (A3 [(1,[2]),(0,[0])]) [] (A3 []) (some [2]) [] [] []
noncomputable def VQ{R:Type}(L:Nat)(n0:Int)(a:Bool->Option R):Option R:=cond (not (ltI n0 0)) (cond (not (ltI 1114111 n0)) (cond (ltI n0 55296) (a true) (a (ltI 57343 n0))) (a false)) (a false)
theorem Bv7(d:Nat)(n0):evC (GV L) (d+1) Z Y 148 [pI n0] [] s=VQ L n0 (λa=>some (pB a,[],s)):=by refine(evE (fn:=Tryz.f148) (by kernel_rfl)).trans ?_;generalize evC (GV L) d=Q;unfold VQ;kernel_rfl
noncomputable abbrev Ny:Code:=C8 ae0
noncomputable def X2(L:Nat):Cfg:=B6 L [151] (A3 [(6,[0,5,0])]) [] (A3 [(9,[6]),(8,[0,6]),(7,[0,6]),(6,[0,6,11]),(5,[0,6]),(4,[0]),(2,[0,0]),(3,[0,0]),(1,[0,0,6]),(0,[0,0,0])]) [] (A3 [(0,[0,6]),(1,[0,6])]) (some [6]) [] [] []
noncomputable def Gc{R:Type}(L n:Nat)(a b:Int)(e:Int->Int->Option R):Option R:=match n with|0=>none|n+1=>cond (ltI 455 a) (vl (A1 (w6 a (35:Int))) λc=>vl (A1 (b+36)) λd=>Gc L n c d e) (e a b)
theorem VC(n a b):D0 0 ((X2 L).keep 6) (bd (X2 L) Q Y (cd [1,1,1,1,0,0,0] Ny)) n ⟨gp [(0,pI a),(6,pI b)] 23,[],s⟩ k =
 Gc L n a b (λa b=>k (.exit 0) ⟨gp [(0,pI a),(6,pI b)] 23,[],s⟩):=by
 induction n generalizing a b with
 | zero=>rfl
 | succ n c=>rw[Gc];simp only[<-c];kernel_rfl
noncomputable def Gb{R:Type}(L:Nat)(b h:Int)(i:Int->Option R):Option R:=cond (h !=0) (vl (A1 (w6 b h)) λg=>Gc L L (A1 (b+g)) 0 (λa d=>vl (A1 ((36:Int)*a)) λe=>vl (A1 (a+38)) λc=>cond (c !=0) (vl (A1 (w6 e c)) λf=>i (A1 (d+f))) none)) none
abbrev CF(b:Code):Prop:=∀(k:Out->St Z->Option R) delta0 n1,A9 (X2 L) Q Y b ⟨gp [(0,pI delta0),(0,pI n1)] 29,[],s⟩ k=Gb L delta0 n1 (λn0=>k .ret ⟨gp [(6,pI n0)] 24,[],s⟩)
theorem VB:CF (R:=R) L Q Y s (cd [1,1] Ny):=by intro k a c;unfold Gb;exact(a8 (by kernel_rfl) (A0 (A4 λb=>((VC L Q Y s (E6 0 (E5 (X2 L) Q Y (cd [1,1,1,1,1] Ny) k)) L (A1 (a+b)) 0).trans (by kernel_rfl))) rfl))
noncomputable def JJ{R:Type}(L:Nat)(a h:Int)(b:Bool)(g:Int->Option R):Option R:=cond b (vl (A1 (w6 a (700:Int))) λe=>Gb L e h (λc=>g c)) (vl (A1 (w6 a (2:Int))) λf=>Gb L f h (λd=>g d))
theorem Bt6(d:Code)(a:CF (R:=PV × List Blk × Z) L Q Y s d)(b e:Int)(c:Bool):A9 (X2 L) Q Y (cd [] (G3 [1,1] d Ny)) ⟨[pI b,pI e,pB c]++tps 28,[],s⟩ (F7 (X2 L) ae0)=JJ L b e c (λi=>some (pI i,[],s)):=by unfold JJ;exact let h:=(F7 (X2 L) ae0);(a8 (by kernel_rfl) (A0 (A4 λf=>((a h f e).trans (by kernel_rfl))) (A4 λg=>((a h g e).trans (by kernel_rfl)))))
theorem Bt7(d:Nat)(delta0 n1 first2):evC (X2 L) (d+1) Z Y 151 [pI delta0,pI n1,pB first2] [] s=JJ L delta0 n1 first2 (λa=>some (pI a,[],s)):=
 (evE (fn:=ae0) (by kernel_rfl)).trans (a8 (by kernel_rfl) (Bt6 L (evC (X2 L) d) Y s (cd [1,1] Ny) (VB L (evC (X2 L) d) Y s) delta0 n1 first2))
noncomputable def Ar0(L:Nat):Cfg:=B6 L [149] (A3 []) [] (A3 [(1,[4]),(0,[0,0])]) [] (A3 []) (some [4]) [] [] []
noncomputable def Cz7{R:Type}(L:Nat)(c a:Int)(e:Int->Option R):Option R:=vl (A1 ((36:Int)*(A1 (c+1)))) λb=>vl (if ((if ((A1 (b-a))<(26:Int)) then (A1 (b-a)) else (26:Int)) > (1:Int)) then (if ((A1 (b-a))<(26:Int)) then (A1 (b-a)) else (26:Int)) else (1:Int)) λd=>e d
theorem Cz8(d:Nat)(kk0 bias1):evC (Ar0 L) (d+1) Z Y 149 [pI kk0,pI bias1] [] s=Cz7 L kk0 bias1 (λa=>some (pI a,[],s)):=by refine(evE (fn:=Tryz.f149) (by kernel_rfl)).trans ?_;generalize evC (Ar0 L) d=Q;unfold Cz7;kernel_rfl
noncomputable def TB(L:Nat):Cfg:=B6 L [150] (A3 []) [] (A3 [(3,[2]),(2,[2]),(1,[0,3]),(0,[0])]) [] (A3 []) (some [2]) [] [] []
noncomputable def Bj5{R:Type}(L:Nat)(a:Int)(d:Int->Option R):Option R:=cond (ltI a 26) (vl (wu8 (A1 ((97:Int)+a))) λb=>d b) (vl (A1 ((A1 ((48:Int)+a))-26)) λc=>d (wu8 c))
theorem Cd4(d:Nat)(d0):evC (TB L) (d+1) Z Y 150 [pI d0] [] s=Bj5 L d0 (λa=>some (p8 a,[],s)):=by refine(evE (fn:=Tryz.f150) (by kernel_rfl)).trans ?_;generalize evC (TB L) d=Q;unfold Bj5;kernel_rfl
noncomputable abbrev Sc:Code:=C8 ae1
noncomputable def Iy(L:Nat):Cfg:=B6 L [176] (A3 []) [] (A3 [(7,[2]),(2,[2]),(4,[2]),(6,[2]),(5,[0,22]),(3,[0,12]),(1,[0,2]),(0,[0])]) [] (A3 [(0,[])]) (some [2]) [] [] []
noncomputable def Wx{R:Type}(a:Int)(g:Bool)(e:Int->Option R)(f:Int->Bool->Option R):Option R:=cond g (vl (A1 (wu8 (a-65))) λb=>e b) (cond (not (ltI a 48)) (cond (not (ltI 57 a)) (vl (A1 (wu8 (a-48))) λc=>vl (A1 (c+26)) λd=>e d) (f a (not (ltI 57 a)))) (f a false))
abbrev OS(b:Code):Prop:=∀(k:Out->St Z->Option R) a c,A9 (Iy L) Q Y b ⟨gp [(0,p8 a),(12,pB c)] 20,[],s⟩ k=Wx a c (λn0=>k .ret ⟨gp [(2,pI n0)] 31,[],s⟩) (λa c=>k .normal ⟨gp [(0,p8 a),(22,pB c)] 10,[],s⟩)
theorem A82:OS (R:=R) L Q Y s (cd [1,0,0,1,1,1] Sc):=by intro k a b;unfold Wx;kernel_rfl
noncomputable def Wy{R:Type}(a:Int)(l:Bool)(f:Int->Option R)(j:Int->Bool->Option R):Option R:=cond l (vl (A1 (wu8 (a-97))) λg=>f g) (cond (not (ltI a 65)) (Wx a (not (ltI 90 a)) (λh=>f h) (λb c=>j b c)) (Wx a false (λi=>f i) (λd e=>j d e)))
abbrev AT(b:Code):Prop:=∀(k:Out->St Z->Option R) a c,A9 (Iy L) Q Y b ⟨gp [(0,p8 a),(2,pB c)] 30,[],s⟩ k=Wy a c (λn0=>k .ret ⟨gp [(2,pI n0)] 31,[],s⟩) (λa c=>k .normal ⟨gp [(0,p8 a),(22,pB c)] 10,[],s⟩)
theorem A83(a:Code)(b:OS (R:=R) L Q Y s a):AT (R:=R) L Q Y s (cd [1,0,0,1] (G3 [1,0,0,1,1,1] a Sc)):=by intro k c d;unfold Wy;simp only[<-b k];kernel_rfl
theorem A84:AT (R:=R) L Q Y s (cd [1,0,0,1] Sc):=by intro k a b;exact a8 (by kernel_rfl) (A83 L Q Y s (cd [1,0,0,1,1,1] Sc) (A82 L Q Y s) k a b)
noncomputable def Cg9{R:Type}(L:Nat)(c:Int)(d:Int->Option R):Option R:=cond (not (ltI c 97)) (Wy c (not (ltI 122 c)) (λa=>d a) (λe f=>d (-1))) (Wy c false (λb=>d b) (λg h=>d (-1)))
theorem C03(b:Code)(a:AT (R:=PV × List Blk × Z) L Q Y s b)(c:Int):A9 (Iy L) Q Y (cd [] (G3 [1,0,0,1] b Sc)) ⟨[p8 c]++tps 33,[],s⟩ (F7 (Iy L) ae1)=Cg9 L c (λe=>some (pI e,[],s)):=by unfold Cg9;exact let d:=(E6 0 (E5 (Iy L) Q Y (cd [1,1] Sc) (F7 (Iy L) ae1)));(a8 (by kernel_rfl) (A0 ((a d c (not (ltI 122 c))).trans (by kernel_rfl)) ((a d c false).trans (by kernel_rfl))))
theorem C04(d:Nat)(b0):evC (Iy L) (d+1) Z Y 176 [p8 b0] [] s=Cg9 L b0 (λa=>some (pI a,[],s)):=
 (evE (fn:=ae1) (by kernel_rfl)).trans (a8 (by kernel_rfl) (C03 L (evC (Iy L) d) Y s (cd [1,0,0,1] Sc) (A84 L (evC (Iy L) d) Y s) b0))
noncomputable abbrev Bq:Code:=C8 ad9
noncomputable def N0(L:Nat):Cfg:=B6 L [120] (A3 [(32,[0,1,0,0,1,0,0,0,0,2,0,0]),(25,[0,1,0,0,1,0,0,0,0,2]),(18,[0,1,0,0,1,0,0,0,0,0,0]),(15,[0,1,0,0,1,0,0,0,0]),(5,[0,1,0,0,0])]) [(148,Ua),(149,An5),(150,Bd4),(151,FH)] (A3 [(43,[2,0]),(42,[0,3,1,0,0,0,0]),(41,[0,3,1,0,0,0,0]),(26,[0,3,1,0,0,0,0,2]),(40,[0,3,1,0,0,0,0,2]),(39,[0,3,1,0,0,0,0,2]),(38,[0,3,1,0,0,1,2]),(37,[0,3,1,0,0,0,3]),(36,[0,3,1,0,0,0,0,2,0,0]),(35,[0,3,1,0,0,0,0,2,0,0]),(34,[0,3,1,0,0,0,0,2,0,0,0]),(33,[0,3,1,0,0,0,0,2,0,0,0]),(32,[0,3,1,0,0,0,0,2,0,0,94]),(31,[0,3,1,0,0,0,0,2,0,0]),(30,[0,3,1,0,0,0,0,2,0]),(29,[0,3,1,0,0,0,0,2,90]),(28,[0,3,1,0,0,0,0,2]),(27,[0,3,1,0,0,0,0,2,82]),(25,[0,3,1,0,0,0,0,2,74]),(24,[0,3,1,0,0,0,0,2]),(23,[0,3,1,0,0,0,0]),(22,[0,3,1,0,1,0,0]),(19,[0,3,1,0,0,0,0,0,0]),(21,[0,3,1,0,0,0,0,0,0]),(20,[0,3,1,0,0,0,0,0,0,56]),(18,[0,3,1,0,0,0,0,0,0,48]),(17,[0,3,1,0,0,0,0,0,0]),(16,[0,3,1,0,0,0,0,0]),(15,[0,3,1,0,0,0,0,46]),(14,[0,3,1,0,0,0,0]),(13,[0,3,1,0]),(12,[0,3,1,0,42]),(11,[0,3,1,0]),(6,[0,3,0]),(10,[0,3,0]),(9,[0,3,0,30]),(8,[2,0]),(7,[0,3,0,25]),(5,[0,3,0,17]),(4,[0,3,0]),(3,[0,3]),(2,[2,0]),(1,[0,18]),(0,[0])]) [148,149,150,151] (A3 [(2,[4]),(3,[0,3,1,0,0,0,0]),(6,[0,3,1,0,0,0,0]),(7,[0,3,1,0,0,0,0,2]),(8,[0,3,1,0,0,0,3,0]),(9,[0,3,1,0,0,0,0,2,0,0]),(4,[0,3,1,0,0,0,0,0]),(5,[0,3,1,0,0,0,0,0,0]),(0,[0,3]),(1,[0,3,0])]) (some [2,0]) [] [] []
noncomputable def U6{R:Type}(L n:Nat)(c b:Bool)(a:LL)(d:Int)(e:LL)(f:LL->Option R)(g:Bool->Bool->LL->LL->Option R):Option R:=match n with|0=>none|n+1=>cond (ltI d (a.length:Int)) (cond (inR d a.length) (cond (okE Kp a (b9 d) 0) (vl (gE a (b9 d) 0) λh=>cond (not (ptI h)) (f e) (cond (inR d a.length) (cond (okE Kp a (b9 d) 0) (vl (gE a (b9 d) 0) λi=>cond (ltI i 128) (cond (inR d a.length) (cond (okE Kp a (b9 d) 0) (vl (gE a (b9 d) 0) λj=>cond (F6 (e.length+1)) (U6 L n c b a (A1 (d+1)) (e++[[(SV.int .u8 (wu8 j))]]) f g) none) none) none) (U6 L n c b a (A1 (d+1)) e f g)) none) none)) none) none) (g c b a e)
theorem A18(n b a c i3 l4):D0 1 ((N0 L).keep 5) (bd (N0 L) Q Y (cd [1,1,1,0,1,0,0] Bq)) n ⟨gp [(0,.s (.sl b a 1 c)),(3,.fl 0),(0,pI i3)] 148,[.arr true 5 1 l4],s⟩ k =
 U6 L n b a c i3 l4 (λe=>k .ret ⟨gp [(2,pS ([]:List UInt8)),(0,pI (2:Int))] 150,[.arr true 5 1 e],s⟩) (λb a c f=>k (.exit 0) ⟨gp [(0,.s (.sl b a 1 c)),(3,.fl 0)] 149,[.arr true 5 1 f],s⟩):=by
 induction n generalizing b a c i3 l4 with
 | zero=>rfl
 | succ n d=>rw[U6];simp only[<-d];kernel_rfl
noncomputable def Il{R:Type}(L n:Nat)(c b:Bool)(a:LL)(h e o f g d i:Int)(l10:LL)(p:Bool->Bool->LL->Int->Int->Int->Int->Int->Int->LL->Option R):Option R:=match n with|0=>none|n+1=>cond (ltI i (a.length:Int)) (cond (inR i a.length) (cond (okE Kp a (b9 i) 0) (vl (gE a (b9 i) 0) λl=>cond (not (ltI l o)) (cond (inR i a.length) (cond (okE Kp a (b9 i) 0) (vl (gE a (b9 i) 0) λj=>vl (if (j<d) then j else d) λm=>Il L n c b a h e o f g m (A1 (i+1)) l10 p) none) none) (Il L n c b a h e o f g d (A1 (i+1)) l10 p)) none) none) (p c b a h e o f g d l10)
theorem A19(n b a c h d i e g f i9 l10):D0 1 ((N0 L).keep 18) (bd (N0 L) Q Y (cd [1,1,1,1,1,1,1,0,0,0,1,0,1,0,1,0,0] Bq)) n ⟨gp [(0,.s (.sl b a 1 c)),(3,.fl 0),(1,pI h),(0,pI d),(0,pI i),(0,pI e),(0,pI g),(0,pI f),(0,pI i9)] 141,[.arr true 5 1 l10],s⟩ k =
 Il L n b a c h d i e g f i9 l10 (λb a c h d i e g f l=>k (.exit 4) ⟨gp [(0,.s (.sl b a 1 c)),(3,.fl 0),(1,pI h),(0,pI d),(0,pI i),(0,pI e),(0,pI g),(0,pI f)] 142,[.arr true 5 1 l],s⟩):=by
 induction n generalizing b a c h d i e g f i9 l10 with
 | zero=>rfl
 | succ n j=>rw[Il];simp only[<-j];kernel_rfl
noncomputable def Fg{R:Type}(L n:Nat)(c b:Bool)(f:LL)(i g w h a i8 u e:Int)(o:LL)(v:Bool->Bool->LL->Int->Int->Int->Int->Int->Int->LL->Option R):Option R:=match n with|0=>none|n+1=>cond (ltN e 10000000000) (cond (ltN a 1000000) (vl (K9 (ab4 (36:Int) e) a) λp=>cond (not (ltI u p)) (cond (ltN e 10000000000) (cond (ltN a 1000000) (vl (K9 (ab4 (36:Int) e) a) λd=>vl (A1 ((36:Int)-d)) λj=>cond (j !=0) (vl (s7 (A1 (u-d)) j) λl=>cond (ltN (A1 (d+l)) 36) (vl (↑(ae3 (Aj (b9 (A1 (d+l))))):Int) λq=>cond (F6 (o.length+1)) (vl (A1 ((36:Int)-d)) λm=>cond (m !=0) (vl (A1 (w6 (A1 (u-d)) m)) λr=>vl (A1 (e+1)) λt=>Fg L n c b f i g w h a i8 r t (o++[[(SV.int .u8 q)]]) v) none) none) none) none) none) none) (v c b f i g w h i8 u o)) none) none
theorem JL(n b a c f d g e bias7 i8 q9 kk10 l11):D0 1 ((N0 L).keep 32) (bd (N0 L) Q Y (cd [1,1,1,1,1,1,1,0,0,0,1,0,1,1,1,1,0,1,0,0,1,0,0,1,1,1,1,0,0,0] Bq)) n ⟨gp [(0,.s (.sl b a 1 c)),(3,.fl 0),(1,pI f),(0,pI d),(0,pI g),(0,pI e),(0,pI bias7),(2,pI i8),(0,pI q9),(0,pI kk10)] 138,[.arr true 5 1 l11],s⟩ k =
 Fg L n b a c f d g e bias7 i8 q9 kk10 l11 (λb a c f d g e h l j=>k (.exit 8) ⟨gp [(0,.s (.sl b a 1 c)),(3,.fl 0),(1,pI f),(0,pI d),(0,pI g),(0,pI e),(3,pI h),(0,pI l)] 139,[.arr true 5 1 j],s⟩):=by
 induction n generalizing b a c f d g e bias7 i8 q9 kk10 l11 with
 | zero=>rfl
 | succ n i=>rw[Fg];simp only[<-i];kernel_rfl
noncomputable def Ap{R:Type}(L n:Nat)(c b:Bool)(a:LL)(i d B e f i8:Int)(I:LL)(H:Bool->Bool->LL->Int->Int->Int->Int->Int->LL->Option R):Option R:=match n with|0=>none|n+1=>cond (ltI i8 (a.length:Int)) (cond (inR i8 a.length) (cond (okE Kp a (b9 i8) 0) (vl (gE a (b9 i8) 0) λJ=>cond (ltI J B) (vl (A1 (e+1)) λw=>cond (inR i8 a.length) (cond (okE Kp a (b9 i8) 0) (vl (gE a (b9 i8) 0) λK=>cond (K !=B) (Ap L n c b a i d B w f (A1 (i8+1)) I H) (Fg L L c b a i d B w f i8 w 0 I (λr p u g j N m F C z=>cond (ltN C 36) (vl (↑(ae3 (Aj (b9 C))):Int) λO=>cond (F6 (z.length+1)) (vl (A1 (g+1)) λx=>cond (ltN m 1152921504606846976) (cond (ltN x 1000000) (cond (ltI 0 x) (vl (↑(Q3 (b9 m) (b9 x) (g==j)):Int) λP=>vl (A1 (g+1)) λS=>vl (A1 (F+1)) λT=>Ap L n r p u S j N 0 P T (z++[[(SV.int .u8 O)]]) H) none) none) none) none) none))) none) none) (cond (inR i8 a.length) (cond (okE Kp a (b9 i8) 0) (vl (gE a (b9 i8) 0) λM=>cond (M !=B) (Ap L n c b a i d B e f (A1 (i8+1)) I H) (Fg L L c b a i d B e f i8 e 0 I (λt q v h l U o G D A=>cond (ltN D 36) (vl (↑(ae3 (Aj (b9 D))):Int) λV=>cond (F6 (A.length+1)) (vl (A1 (h+1)) λy=>cond (ltN o 1152921504606846976) (cond (ltN y 1000000) (cond (ltI 0 y) (vl (↑(Q3 (b9 o) (b9 y) (h==l)):Int) λW=>vl (A1 (h+1)) λX=>vl (A1 (G+1)) λa0=>Ap L n t q v X l U 0 W a0 (A++[[(SV.int .u8 V)]]) H) none) none) none) none) none))) none) none)) none) none) (H c b a i d B e f I)
theorem A20(n b a c g d t e f i8 l9):D0 1 ((N0 L).keep 25) (bd (N0 L) Q Y (cd [1,1,1,1,1,1,1,0,0,0,1,0,1,1,1,1,0,1,0,0] Bq)) n ⟨gp [(0,.s (.sl b a 1 c)),(3,.fl 0),(1,pI g),(0,pI d),(0,pI t),(0,pI e),(0,pI f),(2,pI i8)] 140,[.arr true 5 1 l9],s⟩ k =
 Ap L n b a c g d t e f i8 l9 (λb a c g d t e f l8=>k (.exit 6) ⟨gp [(0,.s (.sl b a 1 c)),(3,.fl 0),(1,pI g),(0,pI d),(0,pI t),(0,pI e),(0,pI f)] 143,[.arr true 5 1 l8],s⟩):=by
 induction n generalizing b a c g d t e f i8 l9 with
 | zero=>rfl
 | succ n M=>rw[Ap];exact let N:=(E6 8 (E5 (N0 L) Q Y (cd [1,1,1,1,1,1,1,0,0,0,1,0,1,1,1,1,0,1,0,0,1,0,0,1,1,1,1,1] Bq) (E6 7 (E5 (N0 L) Q Y (cd [1,1,1,1,1,1,1,0,0,0,1,0,1,1,1,1,0,1,0,0,1,1] Bq) (lpK 1 ((N0 L).keep 25) (bd (N0 L) Q Y (cd [1,1,1,1,1,1,1,0,0,0,1,0,1,1,1,1,0,1,0,0] Bq)) n k)))));(a8 (by kernel_rfl) (A0 (A0 (A0 (A4 λS=>(A0 (A4 λr=>(A0 (A0 (A4 λT=>(A0 (M b a c g d t r f (A1 (i8+1)) l9) ((JL L Q Y s N L b a c g d t r f i8 r 0 l9).trans (congr rfl (Cr2 λj h m w p A u O X y=>(a8 (by kernel_rfl) (A0 (A4 λB=>(A0 (A4 λV=>(A0 (A0 (A0 (A4 λC=>(A4 λD=>(A4 λF=>(M j h m D p A 0 C F (y++[[(SV.int .u8 B)]]))))) rfl) rfl) rfl)) rfl)) rfl))))))) rfl) rfl)) (A0 (A0 (A4 λU=>(A0 (M b a c g d t e f (A1 (i8+1)) l9) ((JL L Q Y s N L b a c g d t e f i8 e 0 l9).trans (congr rfl (Cr2 λl i o x q G v P a0 z=>(a8 (by kernel_rfl) (A0 (A4 λH=>(A0 (A4 λW=>(A0 (A0 (A0 (A4 λI=>(A4 λJ=>(A4 λK=>(M l i o J q G 0 I K (z++[[(SV.int .u8 H)]]))))) rfl) rfl) rfl)) rfl)) rfl))))))) rfl) rfl))) rfl) rfl) rfl))
noncomputable def Fh{R:Type}(L n:Nat)(l j:Bool)(g:LL)(v w K x y:Int)(J:LL)(I:LL->Option R):Option R:=match n with|0=>none|n+1=>cond (ltI v (g.length:Int)) (Il L L l j g v w K x y 1073741824 0 J (λd b h f m B p r a z=>vl (A1 (f+1)) λC=>vl (A1 ((A1 (a-B))*C)) λD=>Ap L L d b h f m a (A1 (p+D)) r 0 z (λe c i u o F q t A=>vl (A1 (q+1)) λG=>vl (A1 (F+1)) λH=>Fh L n e c i u o H G t A I))) (I J)
theorem JM(n points_z0 points_t1 points2 done3 basic4 n5 delta6 bias7 l8):D0 1 ((N0 L).keep 15) (bd (N0 L) Q Y (cd [1,1,1,1,1,1,1,0,0,0] Bq)) n ⟨gp [(0,.s (.sl points_z0 points_t1 1 points2)),(3,.fl 0),(1,pI done3),(0,pI basic4),(0,pI n5),(0,pI delta6),(0,pI bias7)] 143,[.arr true 5 1 l8],s⟩ k =
 Fh L n points_z0 points_t1 points2 done3 basic4 n5 delta6 bias7 l8 (λB=>k (.exit 2) ⟨gp [(4,.fl 0)] 149,[.arr true 5 1 B],s⟩):=by
 induction n generalizing points_z0 points_t1 points2 done3 basic4 n5 delta6 bias7 l8 with
 | zero=>rfl
 | succ n A=>rw[Fh];exact(a8 (by kernel_rfl) (A0 ((A19 L Q Y s (E6 4 (E5 (N0 L) Q Y (cd [1,1,1,1,1,1,1,0,0,0,1,0,1,1] Bq) (E6 3 (lpK 1 ((N0 L).keep 15) (bd (N0 L) Q Y (cd [1,1,1,1,1,1,1,0,0,0] Bq)) n k)))) L points_z0 points_t1 points2 done3 basic4 n5 delta6 bias7 1073741824 0 l8).trans (congr rfl (Cr2 λc a e o g x i l j r=>(a8 (by kernel_rfl) (A4 λy=>(A4 λu=>((A20 L Q Y s (E6 6 (E5 (N0 L) Q Y (cd [1,1,1,1,1,1,1,0,0,0,1,0,1,1,1,1,1] Bq) (E6 3 (lpK 1 ((N0 L).keep 15) (bd (N0 L) Q Y (cd [1,1,1,1,1,1,1,0,0,0] Bq)) n k)))) L c a e o g j (A1 (i+u)) l 0 r).trans (congr rfl (fx9 λd b f p h z q m t=>(a8 (by kernel_rfl) (A4 λv=>(A4 λw=>(A d b f p h w v m t))))))))))))) rfl))
noncomputable def Ac6{R:Type}(L:Nat)(f e:Bool)(d:LL)(o:Unit->Option R)(m:By->Int->LL->Option R):Option R:=cond (ltI 256 (d.length:Int)) (o ()) (U6 L L f e d 0 [] (λn=>m ([]:List UInt8) 2 n) (λb a c g=>vl (g.length:Int) λl=>vl (g.length:Int) λj=>cond (ltI 0 j) (cond (F6 (g.length+1)) (Fh L L b a c l j 128 0 72 (g++[[(SV.int .u8 (45:Int))]]) (λh=>cond (ad6 h Nj) (m (ac0 Lh h) 0 h) none)) none) (Fh L L b a c l j 128 0 72 g (λi=>cond (ad6 i Nj) (m (ac0 Lh i) 0 i) none))))
theorem Cy2(d:Nat)(points_z0 points_t1 points2):evC (N0 L) (d+1) Z Y 120 [.s (.sl points_z0 points_t1 1 points2)] [] s=Ac6 L points_z0 points_t1 points2 (λ_=>some (.tup [pS ([]:List UInt8),pI (3:Int)],[],s)) (λj l i=>some (.tup [pS j,pI l],[.arr true 5 1 i],s)):=by refine(evE (fn:=ad9) (by kernel_rfl)).trans ?_;generalize evC (N0 L) d=Q;unfold Ac6;exact let h:=(E6 2 (E5 (N0 L) Q Y (cd [1,1,1,1,1,1,1,1] Bq) (F7 (N0 L) ad9)));(a8 (by kernel_rfl) (A0 rfl ((A18 L Q Y s (E6 0 (E5 (N0 L) Q Y (cd [1,1,1,1] Bq) (F7 (N0 L) ad9))) L points_z0 points_t1 points2 0 []).trans (congr (congr rfl (by kernel_rfl)) (fx4 λb a c g=>(a8 (by kernel_rfl) (A4 λe=>(A4 λf=>(A0 (A0 ((JM L Q Y s h L b a c e f 128 0 72 (g++[[(SV.int .u8 (45:Int))]])).trans (by kernel_rfl)) rfl) ((JM L Q Y s h L b a c e f 128 0 72 g).trans (by kernel_rfl)))))))))))
noncomputable abbrev Y2:Code:=C8 ac7
noncomputable def J3(L:Nat):Cfg:=B6 L [156] (A3 [(27,[0,1,0,2,1,0,0,0,0,0,0,0]),(23,[0,1,0,2,1,0,0,0,0]),(13,[0,1,0,0,1,0]),(5,[0,1,0,0,0])]) [(176,B38),(149,An5),(151,FH),(148,Ua)] (A3 [(51,[2,0]),(50,[0,5,1,0,0,0,0]),(49,[2,0]),(48,[0,5,1,0,0,0,0,118]),(47,[0,5,1,0,0,0,0]),(46,[2,0]),(45,[0,5,1,0,0,0,0,103]),(44,[0,5,1,0,0,0,0]),(43,[0,5,1,0,0,0,0]),(42,[0,5,1,0,0,0,0]),(41,[0,5,1,0,0,0]),(26,[0,5,1,0,0,0,0,0,0,0]),(40,[2,0]),(39,[0,5,1,0,0,0,0,0,0,0,77]),(38,[0,5,1,0,0,0,0,0,0,0]),(37,[0,5,1,0,0,0,0,0,0,0,1,69]),(36,[0,5,1,0,0,0,0,0,0,0,0,0]),(35,[2,0]),(34,[0,5,1,0,0,0,0,0,0,0,0,64]),(33,[0,5,1,0,0,0,0,0,0,0,0]),(32,[2,0]),(31,[0,5,1,0,0,0,0,0,0,0,0,57]),(30,[0,5,1,0,0,0,0,0,0,0,0]),(29,[0,5,1,0,0,0,0,0,0,0,0]),(28,[2,0]),(27,[0,5,1,0,0,0,0,0,0,0,50]),(25,[0,5,1,0,0,0,0,0,0,0]),(24,[0,5,1,0,0,0,0,0,0]),(23,[0,5,1,0,0,0,0,46]),(22,[0,5,1,0,0,0,0]),(21,[0,5,1,0,0,0]),(20,[0,5,1]),(19,[0,5,1,44]),(18,[0,3,1,1]),(17,[2,0]),(16,[0,3,1,43]),(14,[0,3,1,0]),(15,[0,3,1,0]),(13,[0,3,1,0,30]),(12,[0,3,1,0]),(11,[0,3,1]),(6,[0,3,0]),(10,[0,3,0]),(9,[0,3,0,28]),(8,[2,0]),(7,[0,3,0,24]),(5,[0,3,0,18]),(4,[0,3,0]),(3,[0,3]),(2,[2,0]),(1,[0,19]),(0,[0])]) [176,149,151,148] (A3 [(4,[6]),(5,[0,5,1,0,0,0,0]),(6,[0,5,1,0,0,1,0]),(7,[0,5,1,0,0,0,0,0,0,0]),(2,[0,3,1]),(3,[0,3,1,0]),(0,[0,3]),(1,[0,3,0])]) (some [2,0]) [] [] [] (rw:=[(47,6)])
noncomputable def Ef{R:Type}(L n:Nat)(c:By)(a b:Int)(d:Unit->Option R)(e:By->Int->Option R):Option R:=match n with|0=>none|n+1=>cond (ltI b (c.length:Int)) (cond (inR b c.length) (cond (not (ltI (bAt c b) (128:Int))) (d ()) (cond (inR b c.length) (cond ((bAt c b)==45) (Ef L n c b (A1 (b+1)) d e) (Ef L n c a (A1 (b+1)) d e)) none)) none) (e c a)
theorem Ad7(n b a i2):D0 0 ((J3 L).keep 5) (bd (J3 L) Q Y (cd [1,1,1,0,1,0,0] Y2)) n ⟨gp [(0,pS b),(3,pI a),(0,pI i2)] 129,[],s⟩ k =
 Ef L n b a i2 (λ_=>k .ret ⟨gp [(2,.fl 0),(0,pI (4:Int))] 131,[.arr true 3 1 []],s⟩) (λb a=>k (.exit 0) ⟨gp [(0,pS b),(3,pI a)] 130,[],s⟩):=by
 induction n generalizing b a i2 with
 | zero=>rfl
 | succ n c=>rw[Ef];simp only[<-c];kernel_rfl
noncomputable def Hd{R:Type}(L n:Nat)(c:By)(a b:Int)(d:LL)(e:By->Int->LL->Option R):Option R:=match n with|0=>none|n+1=>cond (ltI b a) (cond (inR b c.length) (cond (F6 (d.length+1)) (Hd L n c a (A1 (b+1)) (d++[[(SV.int .i64 (A1 (bAt c b)))]]) e) none) none) (e c a d)
theorem Ad8(n b a i2 l3):D0 1 ((J3 L).keep 13) (bd (J3 L) Q Y (cd [1,1,1,1,1,0,1,0,0] Y2)) n ⟨gp [(0,pS b),(3,pI a),(1,.fl 0),(0,pI i2)] 127,[.arr true 3 1 l3],s⟩ k =
 Hd L n b a i2 l3 (λb a d=>k (.exit 2) ⟨gp [(0,pS b),(3,pI a),(1,.fl 0)] 128,[.arr true 3 1 d],s⟩):=by
 induction n generalizing b a i2 l3 with
 | zero=>rfl
 | succ n c=>rw[Hd];simp only[<-c];kernel_rfl
noncomputable def V3{R:Type}(L n:Nat)(l:By)(g:LL)(b q r a f o h:Int)(j:LL)(m:Int->LL->Option R)(p:By->LL->Int->Int->Int->Int->LL->Option R):Option R:=match n with|0=>none|n+1=>cond (not (ltI b (l.length:Int))) (m 4 j) (cond (inR b l.length) (cond (inR (bAt l b) 256) (vl (D9 (u8n (bAt l b))) λi=>cond (ltI i 0) (m 4 j) (vl (A1 (r+(A1 (i*o)))) λc=>cond (ltI 1099511627776 c) (m 19 j) (cond (ltN h 10000000000) (cond (ltN a 1000000) (vl (K9 (ab4 (36:Int) h) a) λd=>cond (ltI i d) (p l g (A1 (b+1)) q c f j) (vl (A1 ((36:Int)-d)) λe=>cond (ltI 1099511627776 (A1 (o*e))) (m 19 j) (V3 L n l g (A1 (b+1)) q c a f (A1 (o*e)) (A1 (h+1)) j m p))) none) none))) none) none)
theorem Ad9(n f a b d c bias5 old6 w7 kk8 l9):D0 1 ((J3 L).keep 27) (bd (J3 L) Q Y (cd [1,1,1,1,1,1,1,1,1,1,1,0,0,0,1,0,1,0,1,0,0] Y2)) n ⟨gp [(0,pS f),(5,.s (.sl false false 1 a)),(1,pI b),(0,pI d),(0,pI c),(0,pI bias5),(0,pB false),(0,pI old6),(0,pI w7),(0,pI kk8)] 119,[.arr true 3 1 l9],s⟩ k =
 V3 L n f a b d c bias5 old6 w7 kk8 l9 (λn0 h=>k .ret ⟨gp [(2,.fl 1),(0,pI n0)] 131,[.arr true 3 1 h,.arr true 3 1 []],s⟩) (λf a b d c e i=>k (.exit 6) ⟨gp [(0,pS f),(5,.s (.sl false false 1 a)),(1,pI b),(0,pI d),(0,pI c),(1,pB false),(0,pI e)] 121,[.arr true 3 1 i],s⟩):=by
 induction n generalizing f a b d c bias5 old6 w7 kk8 l9 with
 | zero=>rfl
 | succ n g=>rw[V3];simp only[<-g];kernel_rfl
noncomputable def P2{R:Type}(L n:Nat)(C:By)(m:LL)(q D y p:Int)(B:LL)(x:Int->LL->Option R)(z:LL->LL->Option R)(A:LL->LL->Option R):Option R:=match n with|0=>none|n+1=>cond (ltI q (C.length:Int)) (V3 L L C m q D y p y 1 0 B (λt r=>x t r) (λw a o d b h i=>vl (A1 ((a.length:Int)+1)) λj=>cond (ltN (A1 (b-h)) 1152921504606846976) (cond (ltN j 1000000) (cond (ltI 0 j) (vl (↑(Q3 (b9 (A1 (b-h))) (b9 j) false):Int) λu=>vl (A1 ((a.length:Int)+1)) λl=>cond (l !=0) (vl (A1 (w6 b l)) λe=>vl (A1 ((a.length:Int)+1)) λf=>cond (f !=0) (cond (not (ptI (A1 (d+e)))) (x 2 i) (cond (I7 0 (s7 b f) a.length) (vl (cut a 0 (s7 b f)) λc=>cond (I7 (s7 b f) (a.length:Int) a.length) (vl (cut a (s7 b f) (a.length:Int)) λg=>cond (F6 (0+c.length)) (cond (F6 (c.length+1)) (cond (F6 ((j4 (c++[[(SV.int .i64 (A1 (d+e)))]]))+g.length)) (cond (ltI 256 (↑(j4 ((c++[[(SV.int .i64 (A1 (d+e)))]])++g)):Int)) (z i ((c++[[(SV.int .i64 (A1 (d+e)))]])++g)) (vl (A1 ((s7 b f)+1)) λv=>P2 L n w ((c++[[(SV.int .i64 (A1 (d+e)))]])++g) o (A1 (d+e)) v u i x z A)) none) none) none) none) none)) none) none) none) none) none)) (A m B)
theorem Ae0(n s0 out1 at2 n3 i4 bias5 l6):D0 1 ((J3 L).keep 23) (bd (J3 L) Q Y (cd [1,1,1,1,1,1,1,1,1,1,1,0,0,0] Y2)) n ⟨gp [(0,pS s0),(5,.s (.sl false false 1 out1)),(1,pI at2),(0,pI n3),(0,pI i4),(0,pI bias5),(0,pB false)] 122,[.arr true 3 1 l6],s⟩ k =
 P2 L n s0 out1 at2 n3 i4 bias5 l6 (λn0 g=>k .ret ⟨gp [(2,.fl 1),(0,pI n0)] 131,[.arr true 3 1 g,.arr true 3 1 []],s⟩) (λv g=>k .ret ⟨gp [(2,.fl 2),(0,pI (3:Int))] 131,[.arr true 3 1 v,.arr false 3 1 g,.arr true 3 1 []],s⟩) (λj g=>k (.exit 4) ⟨gp [(6,.s (.sl false false 1 j))] 128,[.arr true 3 1 g],s⟩):=by
 induction n generalizing s0 out1 at2 n3 i4 bias5 l6 with
 | zero=>rfl
 | succ n u=>rw[P2];exact(a8 (by kernel_rfl) (A0 ((Ad9 L Q Y s (E6 6 (E5 (J3 L) Q Y (cd [1,1,1,1,1,1,1,1,1,1,1,0,0,0,1,0,1,1] Y2) (E6 5 (lpK 1 ((J3 L).keep 23) (bd (J3 L) Q Y (cd [1,1,1,1,1,1,1,1,1,1,1,0,0,0] Y2)) n k)))) L s0 out1 at2 n3 i4 bias5 i4 1 0 l6).trans (congr (congr rfl (by kernel_rfl)) (fx7 λl o c a p m d=>(a8 (by kernel_rfl) (A4 λq=>(A0 (A0 (A0 (A4 λh=>(A4 λr=>(A0 (A4 λb=>(A4 λt=>(A0 (A0 rfl (A0 (A4 λe=>(A0 (A4 λf=>(A0 (A0 (A0 (A0 rfl (A4 λi=>(u l ((e++[[(SV.int .i64 (A1 (a+b)))]])++f) c (A1 (a+b)) i h d))) rfl) rfl) rfl)) rfl)) rfl)) rfl))) rfl))) rfl) rfl) rfl)))))) rfl))
noncomputable def V4{R:Type}(L n:Nat)(h:By)(a m j f:Int)(g:LL)(i:Int->LL->Option R)(l:By->Int->Int->LL->Option R):Option R:=match n with|0=>none|n+1=>cond (not (ltI a (h.length:Int))) (i 4 g) (cond (inR a h.length) (cond (inR (bAt h a) 256) (vl (D9 (u8n (bAt h a))) λb=>cond (ltI b 0) (i 4 g) (vl (A1 (m+(A1 (b*j)))) λc=>cond (ltI 1099511627776 c) (i 19 g) (cond (ltN f 10000000000) (cond (ltN 72 1000000) (vl (K9 (ab4 (36:Int) f) (72:Int)) λd=>cond (ltI b d) (l h (A1 (a+1)) c g) (vl (A1 ((36:Int)-d)) λe=>cond (ltI 1099511627776 (A1 (j*e))) (i 19 g) (V4 L n h (A1 (a+1)) c (A1 (j*e)) (A1 (f+1)) g i l))) none) none))) none) none)
theorem Ae1(n c a b w3 kk4 l5):D0 1 ((J3 L).keep 27) (bd (J3 L) Q Y (cd [1,1,1,1,1,1,1,1,1,1,1,0,0,0,1,0,1,0,1,0,0] Y2)) n ⟨gp [(0,pS c),(5,.fl 0),(1,pI a),(0,pI (128:Int)),(0,pI b),(0,pI (72:Int)),(0,pB true),(0,pI (0:Int)),(0,pI w3),(0,pI kk4)] 119,[.arr true 3 1 l5],s⟩ k =
 V4 L n c a b w3 kk4 l5 (λn0 e=>k .ret ⟨gp [(2,.fl 1),(0,pI n0)] 131,[.arr true 3 1 e,.arr true 3 1 []],s⟩) (λc a b f=>k (.exit 6) ⟨gp [(0,pS c),(5,.fl 0),(1,pI a),(0,pI (128:Int)),(0,pI b),(1,pB true),(0,pI (0:Int))] 121,[.arr true 3 1 f],s⟩):=by
 induction n generalizing c a b w3 kk4 l5 with
 | zero=>rfl
 | succ n d=>rw[V4];simp only[<-d];kernel_rfl
noncomputable def K4{R:Type}(L n:Nat)(D:By)(m:Int)(C:LL)(A:Int->LL->Option R)(B:LL->LL->Option R)(F:LL->LL->Option R)(G:LL->Option R):Option R:=match n with|0=>none|n+1=>cond (ltI m (D.length:Int)) (V4 L L D m 0 1 0 C (λu o=>A u o) (λz l b a=>vl (A1 (b-0)) λi=>vl (A1 ((a.length:Int)+1)) λe=>cond (ltN i 1152921504606846976) (cond (ltN e 1000000) (cond (ltI 0 e) (vl (↑(Q3 (b9 i) (b9 e) true):Int) λv=>vl (A1 ((a.length:Int)+1)) λj=>cond (j !=0) (vl (A1 (w6 b j)) λw=>vl (A1 ((128:Int)+w)) λf=>vl (A1 ((a.length:Int)+1)) λc=>cond (c !=0) (cond (not (ptI f)) (A 2 a) (cond (I7 0 (s7 b c) a.length) (cond (I7 (s7 b c) (a.length:Int) a.length) (cond (F6 (0+(j4 (aa0 ((b9 (s7 b c))-0) (aa9 0 a))))) (cond (F6 ((j4 (aa0 ((b9 (s7 b c))-0) (aa9 0 a)))+1)) (vl ((aa0 ((b9 (s7 b c))-0) (aa9 0 a))++[[(SV.int .i64 f)]]) λh=>cond (F6 (h.length+(j4 (aa0 ((b9 (a.length:Int))-(b9 (s7 b c))) (aa9 (b9 (s7 b c)) a))))) (vl (h++(aa0 ((b9 (a.length:Int))-(b9 (s7 b c))) (aa9 (b9 (s7 b c)) a))) λd=>cond (ltI 256 (d.length:Int)) (B a d) (vl (A1 ((s7 b c)+1)) λx=>P2 L n z d l f x v a (λy p=>A y p) (λq r=>B q r) (λg t=>F g t))) none) none) none) none) none)) none) none) none) none) none)) (G C)
theorem CI(n s0 at1 l2):D0 1 ((J3 L).keep 23) (bd (J3 L) Q Y (cd [1,1,1,1,1,1,1,1,1,1,1,0,0,0] Y2)) n ⟨gp [(0,pS s0),(5,.fl 0),(1,pI at1),(0,pI (128:Int)),(0,pI (0:Int)),(0,pI (72:Int)),(0,pB true)] 122,[.arr true 3 1 l2],s⟩ k =
 K4 L n s0 at1 l2 (λn0 d=>k .ret ⟨gp [(2,.fl 1),(0,pI n0)] 131,[.arr true 3 1 d,.arr true 3 1 []],s⟩) (λl d=>k .ret ⟨gp [(2,.fl 2),(0,pI (3:Int))] 131,[.arr true 3 1 l,.arr false 3 1 d,.arr true 3 1 []],s⟩) (λh d=>k (.exit 4) ⟨gp [(6,.s (.sl false false 1 h))] 128,[.arr true 3 1 d],s⟩) (λl=>k (.exit 4) ⟨gp [(6,.fl 0)] 128,[.arr true 3 1 l],s⟩):=by
 induction n generalizing s0 at1 l2 with
 | zero=>rfl
 | succ n A=>rw[K4];exact(a8 (by kernel_rfl) (A0 ((Ae1 L Q Y s (E6 6 (E5 (J3 L) Q Y (cd [1,1,1,1,1,1,1,1,1,1,1,0,0,0,1,0,1,1] Y2) (E6 5 (lpK 1 ((J3 L).keep 23) (bd (J3 L) Q Y (cd [1,1,1,1,1,1,1,1,1,1,1,0,0,0] Y2)) n k)))) L s0 at1 0 1 0 l2).trans (congr (congr rfl (by kernel_rfl)) (fx4 λi a m b=>(a8 (by kernel_rfl) (A4 λu=>(A4 λv=>(A0 (A0 (A0 (A4 λe=>(A4 λw=>(A0 (A4 λx=>(A4 λf=>(A4 λy=>(A0 (A0 rfl (A0 (A0 (A0 (A0 (A4 λo=>(A0 (A4 λc=>(A0 rfl (A4 λg=>((Ae0 L Q Y s k n i c a f g e b).trans (congr (congr (congr rfl (fx2 λz p=>rfl)) (fx2 λq r=>rfl)) (fx2 λj t=>rfl)))))) rfl)) rfl) rfl) rfl) rfl)) rfl)))) rfl))) rfl) rfl) rfl))))))) rfl))
noncomputable def Bk0{R:Type}(L:Nat)(A:By)(u:Int->LL->Option R)(v:Int->LL->Option R)(y:LL->LL->Option R)(z:LL->LL->Option R):Option R:=cond (ltI 1024 (A.length:Int)) (u 3 []) (Ef L L A 0 0 (λ_=>u 4 []) (λx e=>Hd L L x e 0 [] (λt a b=>cond (ltI 256 (b.length:Int)) (v 3 b) (cond (ltI 0 a) (vl (A1 (a+1)) λw=>K4 L L t w b (λq f=>v q f) (λg h=>y g h) (λc i=>z c i) (λj=>u 0 j)) (K4 L L t a b (λr l=>v r l) (λm n=>y m n) (λd o=>z d o) (λp=>u 0 p))))))
theorem Cf1(d:Nat)(s0):evC (J3 L) (d+1) Z Y 156 [pS s0] [] s=Bk0 L s0 (λf c=>some (.tup [.fl 0,pI f],[.arr true 3 1 c],s)) (λf c=>some (.tup [.fl 1,pI f],[.arr true 3 1 c,.arr true 3 1 []],s)) (λl c=>some (.tup [.fl 2,pI (3:Int)],[.arr true 3 1 l,.arr false 3 1 c,.arr true 3 1 []],s)) (λf c=>some (.tup [.s (.sl false false 1 f),pI (0:Int)],[.arr true 3 1 c],s)):=by refine(evE (fn:=ac7) (by kernel_rfl)).trans ?_;generalize evC (J3 L) d=Q;unfold Bk0;exact let j:=(E6 4 (E5 (J3 L) Q Y (cd [1,1,1,1,1,1,1,1,1,1,1,1] Y2) (F7 (J3 L) ac7)));(a8 (by kernel_rfl) (A0 rfl ((Ad7 L Q Y s (E6 0 (E5 (J3 L) Q Y (cd [1,1,1,1] Y2) (F7 (J3 L) ac7))) L s0 0 0).trans (congr (congr rfl (by kernel_rfl)) (fx2 λi a=>(a8 (by kernel_rfl) ((Ad8 L Q Y s (E6 2 (E5 (J3 L) Q Y (cd [1,1,1,1,1,1] Y2) (F7 (J3 L) ac7))) L i a 0 []).trans (congr rfl (fx3 λg b e=>(a8 (by kernel_rfl) (A0 rfl (A0 (A4 λh=>((CI L Q Y s j L g h e).trans (by kernel_rfl))) ((CI L Q Y s j L g b e).trans (by kernel_rfl))))))))))))))
noncomputable abbrev Z8:Code:=C8 ad8
noncomputable def O8(L:Nat):Cfg:=B6 L [119] (A3 [(17,[0,1,0,0,0,1,0,0,0]),(3,[0,1,0,0,0])]) [(148,Ua)] (A3 [(27,[2,0]),(26,[0,3,0]),(25,[0,3,0,1]),(24,[2,0]),(23,[0,3,0,1,0,77]),(18,[0,3,0,1,0,0,0]),(22,[0,3,0,1,0,0,0]),(21,[2,0]),(20,[0,3,0,1,0,0,0,0,61]),(19,[0,3,0,1,0,0,0,0]),(17,[0,3,0,1,0,0,0,48]),(16,[0,3,0,1,0,0,0]),(15,[2,0]),(14,[0,3,0,1,0,0,46]),(9,[0,3,0,1,0,0]),(11,[0,3,0,1,0,0]),(13,[0,3,0,1,0,0]),(6,[2,0]),(12,[0,3,0,0,35]),(10,[0,3,0,0,26]),(8,[0,3,0,0,17]),(7,[0,3,0,0,0,0,0,11]),(5,[0,3,0,0,0,0,0]),(4,[0,3,0,0]),(3,[0,3,0,9]),(2,[0,3,0]),(1,[0,3]),(0,[0])]) [148] (A3 [(0,[4]),(1,[0,3,0]),(3,[0,3,0,1,0,0]),(4,[0,3,0,1,0,0,0]),(2,[0,3,0,1,0,0])]) (some [2,0]) [] [] []
noncomputable def Wu{R:Type}(L n:Nat)(d:By)(a e:Int)(c:LL)(b:By->Int->Int->LL->Option R):Option R:=match n with|0=>none|n+1=>b d a e c
theorem A64(n c a d b):D0 1 ((O8 L).keep 17) (bd (O8 L) Q Y (cd [1,1,0,1,0,0,1,0,1,1,1,1,0,1,0,0] Z8)) n ⟨gp [(0,pS c),(3,.fl 0),(0,pI a),(1,pI (1:Int)),(0,pI d),(0,pI (0:Int)),(0,pI (1:Int))] 84,[.arr true 3 1 b],s⟩ k =
 Wu L n c a d b (λc a d b=>k (.exit 3) ⟨gp [(0,pS c),(3,.fl 0),(0,pI a),(1,pI (1:Int)),(0,pI d),(0,pI (0:Int))] 85,[.arr true 3 1 b],s⟩):=by
 induction n generalizing c a d b with
 | zero=>rfl
 | succ n e=>rw[Wu];kernel_rfl
noncomputable def Wt{R:Type}(L:Nat)(i:By)(g j:Int)(h:LL)(d:LL->Option R)(l:By->Int->LL->Option R):Option R:=vl (A1 ((i.length:Int)-g)) λe=>cond (ltI e 1) (d h) (Wu L L i g j h (λf c b a=>cond (ltI b 0) (d a) (cond (not (ptI b)) (d a) (cond (F6 (a.length+1)) (l f (A1 (c+1)) (a++[[(SV.int .i64 b)]])) none))))
abbrev AR(b:Code):Prop:=∀(k:Out->St Z->Option R) c a b2 b3 l4,A9 (O8 L) Q Y b ⟨gp [(0,pS c),(3,.fl 0),(0,pI a),(0,pI b2),(0,pI (1:Int)),(0,pI b2),(0,pI (0:Int)),(11,pB b3)] 73,[.arr true 3 1 l4],s⟩ k=Wt L c a b2 l4 (λd=>k .ret ⟨gp [(2,.fl 1),(0,pB false)] 91,[.arr true 3 1 d,.arr true 3 1 []],s⟩) (λc a e=>k .normal ⟨gp [(0,pS c),(3,.fl 0),(0,pI a)] 89,[.arr true 3 1 e],s⟩)
theorem A58:AR (R:=R) L Q Y s (cd [1,1,0,1,0,0,1,0,1,1,1] Z8):=by intro k e b a f c;unfold Wt;exact(a8 (by kernel_rfl) (A4 λd=>(A0 rfl ((A64 L Q Y s (E6 3 (E5 (O8 L) Q Y (cd [1,1,0,1,0,0,1,0,1,1,1,1,1] Z8) k)) L e b a c).trans (by kernel_rfl)))))
noncomputable def Mb{R:Type}(h:By)(e c:Int)(i:Bool)(d:LL)(f:By->Int->Int->Int->Int->LL->Option R)(g:LL->Option R):Option R:=cond i (vl (A1 (c-224)) λa=>f h e 3 a 2048 d) (cond (not (ltI c 240)) (cond (ltI c 245) (vl (A1 (c-240)) λb=>f h e 4 b 65536 d) (g d)) (g d))
abbrev OP(b:Code):Prop:=∀(k:Out->St Z->Option R) d c b2 b3 l4,A9 (O8 L) Q Y b ⟨gp [(0,pS d),(3,.fl 0),(0,pI c),(0,pI b2),(26,pB b3)] 61,[.arr true 3 1 l4],s⟩ k=Mb d c b2 b3 l4 (λd c g h a f=>k .normal ⟨gp [(0,pS d),(3,.fl 0),(0,pI c),(1,pI g),(0,pI h),(0,pI a)] 85,[.arr true 3 1 f],s⟩) (λe=>k .ret ⟨gp [(2,.fl 1),(0,pB false)] 91,[.arr true 3 1 e,.arr true 3 1 []],s⟩)
theorem A60:OP (R:=R) L Q Y s (cd [1,1,0,1,0,0,1,0,1,1,0,0,1,1,1,1,1] Z8):=by intro k e c a b d;unfold Mb;kernel_rfl
noncomputable def Mc{R:Type}(v:By)(r c:Int)(x:Bool)(u:LL)(t:By->Int->Int->Int->Int->LL->Option R)(w:LL->Option R):Option R:=cond x (vl (A1 (c-192)) λj=>t v r 2 j 128 u) (cond (not (ltI c 224)) (Mb v r c (ltI c 240) u (λn d l p a f=>t n d l p a f) (λg=>w g)) (Mb v r c false u (λo e m q b h=>t o e m q b h) (λi=>w i)))
abbrev Qm(b:Code):Prop:=∀(k:Out->St Z->Option R) d c b2 b3 l4,A9 (O8 L) Q Y b ⟨gp [(0,pS d),(3,.fl 0),(0,pI c),(0,pI b2),(17,pB b3)] 70,[.arr true 3 1 l4],s⟩ k=Mc d c b2 b3 l4 (λd c g h a f=>k .normal ⟨gp [(0,pS d),(3,.fl 0),(0,pI c),(1,pI g),(0,pI h),(0,pI a)] 85,[.arr true 3 1 f],s⟩) (λe=>k .ret ⟨gp [(2,.fl 1),(0,pB false)] 91,[.arr true 3 1 e,.arr true 3 1 []],s⟩)
theorem A61(a:Code)(b:OP (R:=R) L Q Y s a):Qm (R:=R) L Q Y s (cd [1,1,0,1,0,0,1,0,1,1,0,0,1,1,1] (G3 [1,1,0,1,0,0,1,0,1,1,0,0,1,1,1,1,1] a Z8)):=by intro k g e c d f;unfold Mc;simp only[<-b k];kernel_rfl
theorem A62:Qm (R:=R) L Q Y s (cd [1,1,0,1,0,0,1,0,1,1,0,0,1,1,1] Z8):=by intro k e c a b d;exact a8 (by kernel_rfl) (A61 L Q Y s (cd [1,1,0,1,0,0,1,0,1,1,0,0,1,1,1,1,1] Z8) (A60 L Q Y s) k e c a b d)
noncomputable def Fl{R:Type}(L n:Nat)(h:By)(f j m a c:Int)(g:LL)(i:LL->Option R)(l:By->Int->Int->Int->Int->LL->Option R):Option R:=match n with|0=>none|n+1=>cond (ltI c j) (cond (inR (A1 (f+c)) h.length) (vl (bAt h (A1 (f+c))) λb=>cond (ltI (A1 b) (128:Int)) (i g) (cond (ltI 191 (A1 b)) (i g) (vl (A1 ((A1 (m*64))+(A1 b))) λd=>vl (A1 (d-128)) λe=>Fl L n h f j e a (A1 (c+1)) g i l))) none) (l h f j m a g)
theorem A66(n d b c e a kk5 l6):D0 1 ((O8 L).keep 17) (bd (O8 L) Q Y (cd [1,1,0,1,0,0,1,0,1,1,1,1,0,1,0,0] Z8)) n ⟨gp [(0,pS d),(3,.fl 0),(0,pI b),(1,pI c),(0,pI e),(0,pI a),(0,pI kk5)] 84,[.arr true 3 1 l6],s⟩ k =
 Fl L n d b c e a kk5 l6 (λg=>k .ret ⟨gp [(2,.fl 1),(0,pB false)] 91,[.arr true 3 1 g,.arr true 3 1 []],s⟩) (λd b c e a h=>k (.exit 3) ⟨gp [(0,pS d),(3,.fl 0),(0,pI b),(1,pI c),(0,pI e),(0,pI a)] 85,[.arr true 3 1 h],s⟩):=by
 induction n generalizing d b c e a kk5 l6 with
 | zero=>rfl
 | succ n f=>rw[Fl];simp only[<-f];kernel_rfl
noncomputable def Dv{R:Type}(L:Nat)(o:By)(l n q d:Int)(m:LL)(j:LL->Option R)(p:By->Int->LL->Option R):Option R:=vl (A1 ((o.length:Int)-l)) λg=>cond (ltI g n) (j m) (Fl L L o l n q d 1 m (λf=>j f) (λi e h c b a=>cond (ltI c b) (j a) (cond (not (ptI c)) (j a) (cond (F6 (a.length+1)) (p i (A1 (e+h)) (a++[[(SV.int .i64 c)]])) none))))
abbrev AS(b:Code):Prop:=∀(k:Out->St Z->Option R) c a n2 v3 least4 l5,A9 (O8 L) Q Y b ⟨gp [(0,pS c),(3,.fl 0),(0,pI a),(1,pI n2),(0,pI v3),(0,pI least4)] 85,[.arr true 3 1 l5],s⟩ k=Dv L c a n2 v3 least4 l5 (λd=>k .ret ⟨gp [(2,.fl 1),(0,pB false)] 91,[.arr true 3 1 d,.arr true 3 1 []],s⟩) (λc a e=>k .normal ⟨gp [(0,pS c),(3,.fl 0),(0,pI a)] 89,[.arr true 3 1 e],s⟩)
theorem A63:AS (R:=R) L Q Y s (cd [1,1,0,1,0,0,1,0,1,1,1] Z8):=by intro k f c e g a d;unfold Dv;exact(a8 (by kernel_rfl) (A4 λb=>(A0 rfl ((A66 L Q Y s (E6 3 (E5 (O8 L) Q Y (cd [1,1,0,1,0,0,1,0,1,1,1,1,1] Z8) k)) L f c e g a 1 d).trans (by kernel_rfl)))))
noncomputable def Z1{R:Type}(L n:Nat)(d:By)(c:Int)(D:LL)(e:LL->Option R)(C:LL->Option R):Option R:=match n with|0=>none|n+1=>cond (ltI c (d.length:Int)) (cond (inR c d.length) (cond (ltI (A1 (bAt d c)) (128:Int)) (Wt L d c (A1 (bAt d c)) D (λG=>e G) (λI F H=>Z1 L n I F H e C)) (cond (not (ltI (A1 (bAt d c)) (194:Int))) (Mc d c (A1 (bAt d c)) (ltI (A1 (bAt d c)) (224:Int)) D (λw f u A a j=>Dv L w f u A a j (λm=>e m) (λx g o=>Z1 L n x g o e C)) (λl=>e l)) (Mc d c (A1 (bAt d c)) false D (λy h v B b p=>Dv L y h v B b p (λr=>e r) (λz i t=>Z1 L n z i t e C)) (λq=>e q)))) none) (C D)
theorem A67(a:Code)(e:AR (R:=R) L Q Y s a)(d:AS (R:=R) L Q Y s a)(b:Code)(c:Qm (R:=R) L Q Y s b)(n:Nat)(i:By)(h:Int)(j:LL):D0 1 ((O8 L).keep 3) (bd (O8 L) Q Y (cd [1,1,0,1,0,0] (G3 [1,1,0,1,0,0,1,0,1,1,0,0,1,1,1] b (G3 [1,1,0,1,0,0,1,0,1,1,1] a Z8)))) n ⟨gp [(0,pS i),(3,.fl 0),(0,pI h)] 89,[.arr true 3 1 j],s⟩ k =
 Z1 L n i h j (λI=>k .ret ⟨gp [(2,.fl 1),(0,pB false)] 91,[.arr true 3 1 I,.arr true 3 1 []],s⟩) (λI=>k (.exit 0) ⟨gp [(4,.fl 0)] 90,[.arr true 3 1 I],s⟩):=by
 induction n generalizing i h j with
 | zero=>rfl
 | succ n G=>rw[Z1];exact let D:=(E6 1 (lpK 1 ((O8 L).keep 3) (bd (O8 L) Q Y (cd [1,1,0,1,0,0] (G3 [1,1,0,1,0,0,1,0,1,1,0,0,1,1,1] b (G3 [1,1,0,1,0,0,1,0,1,1,1] a Z8)))) n k));let K:=(E6 2 (E5 (O8 L) Q Y a D));(a8 (by kernel_rfl) (A0 (A0 (A0 ((e D i h (A1 (bAt i h)) (ltI (A1 (bAt i h)) (128:Int)) j).trans (congr (congr rfl (by kernel_rfl)) (fx3 λJ F H=>(a8 (by kernel_rfl) (G J F H))))) (A0 ((c K i h (A1 (bAt i h)) (ltI (A1 (bAt i h)) (224:Int)) j).trans (congr (congr rfl (fx6 λx l v B f q=>(a8 (by kernel_rfl) ((d D x l v B f q).trans (congr (congr rfl (by kernel_rfl)) (fx3 λy m r=>(a8 (by kernel_rfl) (G y m r)))))))) (by kernel_rfl))) ((c K i h (A1 (bAt i h)) false j).trans (congr (congr rfl (fx6 λz o w C g t=>(a8 (by kernel_rfl) ((d D z o w C g t).trans (congr (congr rfl (by kernel_rfl)) (fx3 λA p u=>(a8 (by kernel_rfl) (G A p u)))))))) (by kernel_rfl))))) rfl) rfl))
noncomputable def Cz3{R:Type}(L:Nat)(e:By)(c:LL->Option R)(d:LL->Option R):Option R:=Z1 L L e 0 [] (λa=>c a) (λb=>d b)
theorem Cz4(b:Code)(c:AR (R:=PV × List Blk × Z) L Q Y s b)(e:AS (R:=PV × List Blk × Z) L Q Y s b)(a:Code)(d:Qm (R:=PV × List Blk × Z) L Q Y s a)(g:By):A9 (O8 L) Q Y (cd [] (G3 [1,1,0,1,0,0,1,0,1,1,0,0,1,1,1] a (G3 [1,1,0,1,0,0,1,0,1,1,1] b Z8))) ⟨[pS g]++tps 94,[],s⟩ (F7 (O8 L) ad8)=Cz3 L g (λf=>some (.tup [.fl 1,pB false],[.arr true 3 1 f,.arr true 3 1 []],s)) (λf=>some (.tup [.fl 0,pB true],[.arr true 3 1 f],s)):=by unfold Cz3;exact(a8 (by kernel_rfl) ((A67 L Q Y s (E6 0 (E5 (O8 L) Q Y (cd [1,1,1] Z8) (F7 (O8 L) ad8))) b c e a d L g 0 []).trans (by kernel_rfl)))
theorem Cz5(d:Nat)(s0):evC (O8 L) (d+1) Z Y 119 [pS s0] [] s=Cz3 L s0 (λa=>some (.tup [.fl 1,pB false],[.arr true 3 1 a,.arr true 3 1 []],s)) (λa=>some (.tup [.fl 0,pB true],[.arr true 3 1 a],s)):=
 (evE (fn:=ad8) (by kernel_rfl)).trans (a8 (by kernel_rfl) (Cz4 L (evC (O8 L) d) Y s (cd [1,1,0,1,0,0,1,0,1,1,1] Z8) (A58 L (evC (O8 L) d) Y s) (A63 L (evC (O8 L) d) Y s) (cd [1,1,0,1,0,0,1,0,1,1,0,0,1,1,1] Z8) (A62 L (evC (O8 L) d) Y s) s0))
noncomputable abbrev Bf9:Code:=C8 af2
noncomputable def Lf(L:Nat):Cfg:=B6 L [127] (A3 [(6,[0,1,0,1,0])]) [(156,Bd9),(120,An1)] (A3 [(12,[2]),(11,[0,4,1,0]),(7,[0,2,1,0]),(10,[2]),(9,[0,2,1,0,34]),(8,[0,2,1,0]),(6,[0,2,1,0,12]),(5,[0,2,1,0]),(4,[0,2,1]),(3,[2]),(2,[0,2,11]),(1,[0,2,0]),(0,[0])]) [120] (A3 [(0,[0,2,1]),(1,[0,2,1,0])]) (some [2]) [] [] []
noncomputable def X8{R:Type}(L n:Nat)(a:By)(d:Bool)(b:LL)(e:Bool)(c:Int)(f:Unit->Option R)(g:By->Bool->LL->Bool->Option R):Option R:=match n with|0=>none|n+1=>cond (ltI c (b.length:Int)) (cond e (cond (inR c b.length) (cond (okE Kp b (b9 c) 0) (cond (not (ltI (gE b (b9 c) 0) (65:Int))) (cond (inR c b.length) (cond (okE Kp b (b9 c) 0) (cond (not (ltI 90 (gE b (b9 c) 0))) (f ()) (X8 L n a d b true (A1 (c+1)) f g)) none) none) (X8 L n a d b true (A1 (c+1)) f g)) none) none) (cond (inR c b.length) (cond (okE Kp b (b9 c) 0) (cond (inR c b.length) (cond (okE Kp b (b9 c) 0) (cond (not (ltI (gE b (b9 c) 0) (65:Int))) (cond (inR c b.length) (cond (okE Kp b (b9 c) 0) (cond (not (ltI 90 (gE b (b9 c) 0))) (f ()) (X8 L n a d b (not (ltI (gE b (b9 c) 0) (128:Int))) (A1 (c+1)) f g)) none) none) (X8 L n a d b (not (ltI (gE b (b9 c) 0) (128:Int))) (A1 (c+1)) f g)) none) none) none) none)) (g a d b e)
theorem Ae4(n c b d a i4):D0 0 ((Lf L).keep 6) (bd (Lf L) Q Y (cd [1,1,1,1,0,1,0,0] Bf9)) n ⟨gp [(0,pS c),(2,.s (.sl b b 1 d)),(1,pB a),(0,pI i4)] 50,[],s⟩ k =
 X8 L n c b d a i4 (λ_=>k .ret ⟨gp [(2,pB false)] 54,[],s⟩) (λc b d a=>k (.exit 0) ⟨gp [(0,pS c),(2,.s (.sl b b 1 d)),(1,pB a)] 51,[],s⟩):=by
 induction n generalizing c b d a i4 with
 | zero=>rfl
 | succ n e=>rw[X8];simp only[<-e];kernel_rfl
noncomputable def Bk2{R:Type}(L:Nat)(a:By)(e:Bool->Option R):Option R:=cond (A2 a.length) (vl (↑((N6 a)).2:Int) λf=>cond (f !=0) (e false) (X8 L L a (af6 ((N6 a)).1) (Lt ((N6 a)).1) false 0 (λ_=>e false) (λc h d b=>cond (ad6 d Na) (vl ((W4 (ac0 elI d))).1 λi=>vl (↑((W4 (ac0 elI d))).2:Int) λg=>cond (g==0) (cond (i==c) (e b) (e false)) (e false)) none))) none
theorem Cf4(d:Nat)(rest0):evC (Lf L) (d+1) Z Y 127 [pS rest0] [] s=Bk2 L rest0 (λb=>some (pB b,[],s)):=by refine(evE (fn:=af2) (by kernel_rfl)).trans ?_;generalize evC (Lf L) d=Q;unfold Bk2;exact(a8 (by kernel_rfl) (A0 (A4 λa=>(A0 rfl ((Ae4 L Q Y s (E6 0 (E5 (Lf L) Q Y (cd [1,1,1,1,1] Bf9) (F7 (Lf L) af2))) L rest0 (af6 ((N6 rest0)).1) (Lt ((N6 rest0)).1) false 0).trans (by kernel_rfl)))) rfl))
noncomputable abbrev Bf7:Code:=C8 ag1
noncomputable def Ld(L:Nat):Cfg:=B6 L [94] (A3 [(4,[0,1,0])]) [(127,Be1)] (A3 [(9,[2]),(5,[0,2]),(8,[2]),(7,[0,2,52]),(6,[0,2,0]),(4,[0,2,24]),(3,[0,2]),(2,[2]),(1,[0,23]),(0,[0])]) [127] (A3 [(0,[0]),(1,[0,2])]) (some [2]) [] [] []
noncomputable def O2{R:Type}(L n:Nat)(a:By)(b:Int)(c:Unit->Option R)(d:By->Option R):Option R:=match n with|0=>none|n+1=>cond (ltI b (a.length:Int)) (cond (inR b a.length) (cond (not (ltI (bAt a b) (97:Int))) (cond (not (ltI 122 (bAt a b))) (O2 L n a (A1 (b+1)) c d) (cond (not (ltI (bAt a b) (48:Int))) (cond (not (ltI 57 (bAt a b))) (O2 L n a (A1 (b+1)) c d) (cond ((bAt a b)==45) (O2 L n a (A1 (b+1)) c d) (cond (not ((bAt a b)==95)) (c ()) (O2 L n a (A1 (b+1)) c d)))) (cond ((bAt a b)==45) (O2 L n a (A1 (b+1)) c d) (cond (not ((bAt a b)==95)) (c ()) (O2 L n a (A1 (b+1)) c d))))) (cond (not (ltI (bAt a b) (48:Int))) (cond (not (ltI 57 (bAt a b))) (O2 L n a (A1 (b+1)) c d) (cond ((bAt a b)==45) (O2 L n a (A1 (b+1)) c d) (cond (not ((bAt a b)==95)) (c ()) (O2 L n a (A1 (b+1)) c d)))) (cond ((bAt a b)==45) (O2 L n a (A1 (b+1)) c d) (cond (not ((bAt a b)==95)) (c ()) (O2 L n a (A1 (b+1)) c d))))) none) (d a)
theorem Ad3(n a i1):D0 0 ((Ld L).keep 4) (bd (Ld L) Q Y (cd [1,1,0,1,0,0] Bf7)) n ⟨gp [(0,pS a),(2,pI i1)] 66,[],s⟩ k =
 O2 L n a i1 (λ_=>k .ret ⟨gp [(2,pB false)] 67,[],s⟩) (λa=>k (.exit 0) ⟨gp [(0,pS a)] 69,[],s⟩):=by
 induction n generalizing a i1 with
 | zero=>rfl
 | succ n b=>rw[O2];simp only[<-b];kernel_rfl
noncomputable def Bj8{R:Type}(L:Nat)(c:By)(b:Bool->Option R):Option R:=cond (c==[]) (b false) (cond (ltI 63 (c.length:Int)) (b false) (cond (inR 0 c.length) (cond ((bAt c (0:Int))==45) (b false) (vl (A1 ((c.length:Int)-1)) λd=>cond (inR d c.length) (cond ((bAt c d)==45) (b false) (O2 L L c 0 (λ_=>b false) (λa=>cond (ltI (a.length:Int) (4:Int)) (b true) (cond (I7 0 (4:Int) a.length) (vl (cut a 0 (4:Int)) λf=>cond (not (f==[120,110,45,45])) (b true) (cond (I7 4 (a.length:Int) a.length) (vl (cut a 4 (a.length:Int)) λe=>cond (A2 e.length) (b (Dt e)) none) none)) none)))) none)) none))
theorem Ce8(d:Nat)(s0):evC (Ld L) (d+1) Z Y 94 [pS s0] [] s=Bj8 L s0 (λb=>some (pB b,[],s)):=by refine(evE (fn:=ag1) (by kernel_rfl)).trans ?_;generalize evC (Ld L) d=Q;unfold Bj8;exact(a8 (by kernel_rfl) (A0 rfl (A0 rfl (A0 (A0 rfl (A4 λa=>(A0 (A0 rfl ((Ad3 L Q Y s (E6 0 (E5 (Ld L) Q Y (cd [1,1,1] Bf7) (F7 (Ld L) ag1))) L s0 0).trans (by kernel_rfl))) rfl))) rfl))))
noncomputable def TC(L:Nat):Cfg:=B6 L [89] (A3 []) [(119,B35),(17,An3),(120,An1),(94,Bd8)] (A3 [(15,[2,0]),(14,[2,0]),(13,[6,37]),(12,[6]),(11,[2,0]),(10,[9,29]),(9,[9,0]),(8,[7]),(7,[6,20]),(6,[0,3,1]),(5,[2,0]),(4,[0,3,15]),(3,[2,0]),(2,[0,3,12]),(1,[0,3,0]),(0,[0])]) [17,120,94] (A3 []) (some [2,0]) [] [] []
noncomputable def Bj7{R:Type}(L:Nat)(a:By)(b:By->Int->Option R):Option R:=cond (A2 a.length) (cond (not (aa4 (Ck a))) (b ([]:List UInt8) 4) (cond (ltI 256 (↑(j4 (Lt (Qu a))):Int)) (b ([]:List UInt8) 3) (cond (A2 a.length) (cond (ltI (↑(j4 (Lt (Qu a))):Int) (a.length:Int)) (cond (A2 (j4 (B3 a))) (cond (ad6 (Lt (Qu (B3 a))) Na) (vl ((W4 (ac0 elI (Lt (Qu (B3 a)))))).1 λd=>vl (↑((W4 (ac0 elI (Lt (Qu (B3 a)))))).2:Int) λe=>cond (e !=0) (b ([]:List UInt8) 14) (cond (J6 4 d.length) (vl (([120,110,45,45]:List UInt8)++d) λc=>cond (A2 c.length) (cond (not (J5 c)) (b ([]:List UInt8) 14) (b c 0)) none) none)) none) none) (cond (A2 (j4 (B3 a))) (cond (not (J5 (B3 a))) (b ([]:List UInt8) 14) (b (B3 a) 0)) none)) none))) none
theorem Ce7(d:Nat)(s0):evC (TC L) (d+1) Z Y 89 [pS s0] [] s=Bj7 L s0 (λa b=>some (.tup [pS a,pI b],[],s)):=by refine(evE (fn:=Tryz.f89) (by kernel_rfl)).trans ?_;generalize evC (TC L) d=Q;unfold Bj7;kernel_rfl
end
theorem Ae3{R:Type}{a:Bool->Option R}(n:Int):VQ LF n a=a (ptI n):=by
 unfold VQ;by_cases h:n<0
 ·rw[B7 h];have:ptI n=false:=by
   cases n with
   | ofNat m=>exact absurd h (by simp)
   | negSucc m=>rfl
  grind
 ·obtain⟨m,rfl⟩:=x4 (show 0<=n by omega);rw[A6,Lw];unfold V0;by_cases b:1114111<m
  ·rw[A8];have:v8 m 1114111=false:=by rw[k9,ne_eq,p5];omega
   grind
  ·rw[A6];have:v8 m 1114111=true:=by rw[p5];omega
   rw[this];by_cases c:m<55296
   ·rw[A8];have:Nat.blt m 55296=true:=by rw[ad2];omega
    grind
   ·rw[A6];have e:Nat.blt m 55296=false:=by rw[k9,ne_eq,ad2];omega
    rw[e];simp only[j0,cond_true,cond_false,ad0,x7]
    congr 1
theorem Ac2{R:Type}{k0:Int->Int->Option R}:∀(d n k:Nat),d<2305843009213693952->d<n->k+d<=4611686018427387904->
  ∃a b,a<=455/\b<=k+d/\Yr d k=b+36*a / (a+38)/\Gc LF n (d:Int) (k:Int) k0=k0 (a:Int) (b:Int):=by
 intro d
 induction d using ac3 with
 | _ d l=>
  intro n k p r q;obtain⟨n,rfl⟩:∃m,n=m+1:=⟨n-1,by omega⟩
  rw[Gc];by_cases h:455<d
  ·obtain⟨a,b,g,o,i,j⟩:=l (d / 35) (by omega) n (k+36) (by omega) (by omega) (by omega);refine⟨a,b,g,by omega,by rw[GI h];exact i,?_⟩;have e:w6 (d:Int) 35=((d / 35:Nat):Int):=M9 d 35;have c:A1 ((d / 35:Nat):Int)=((d / 35:Nat):Int):=A7;have f:A1 ((k:Int)+36)=((k+36:Nat):Int):=by rw[A7];rfl
   rw[A8];simp only[cond_true,vl,e,c,f];exact j
  ·refine⟨d,k,by omega,by omega,Rv h,?_⟩;rw[A6];rfl
theorem Ac3{R:Type}{k0:Int->Option R}(d c:Int)(f:Bool)(z:ltN d 1152921504606846976=true)(A:ltN c 1000000=true)(B:ltI 0 c=true):JJ LF d c f k0=k0 (Q3 d.toNat c.toNat f:Nat):=by
 obtain⟨k,F⟩:=E3.1 z;obtain⟨j,D⟩:=E3.1 A;obtain⟨d,rfl⟩:=x4 k;obtain⟨c,rfl⟩:=x4 j;have J:=Lr.1 B;have C:=C6;have key:∀x:Nat,x<1152921504606846976->Gb LF (x:Int) (c:Int) k0=k0 ((Yr (x+x / c) 0:Nat):Int):=by
  intro x L;have G:x / c<=x:=x9 _ _;unfold Gb;have g:w6 (x:Int) (c:Int)=((x / c:Nat):Int):=M9 x c;generalize x / c=q at *;have h:A1 (q:Int)=(q:Int):=A7;have o:A1 ((x:Int)+(q:Int))=((x+q:Nat):Int):=by rw[A7];rfl
  rw[show((c:Int)!=0)=true by simp;omega];simp only[cond_true,vl,g,h,o];obtain⟨a,n,H,I,w,y⟩:=Ac2 (R:=R) (k0:=λb l=>vl (A1 ((36)*b)) λm=>vl (A1 (b+(38))) λe=>cond (e !=(0)) (vl (A1 (w6 m e)) λi=>k0 (A1 (l+i))) none) (x+q) LF 0 (by omega) (by omega) (by omega);refine a8 y ?_;have K:36*a / (a+38)<=36*a:=x9 _ _;have p:A1 (36*(a:Int))=((36*a:Nat):Int):=by rw[A7];rfl
  have r:A1 ((a:Int)+38)=((a+38:Nat):Int):=by rw[A7];rfl
  have t:w6 ((36*a:Nat):Int) ((a+38:Nat):Int)=((36*a / (a+38):Nat):Int):=M9 _ _;have u:A1 ((36*a / (a+38):Nat):Int)=((36*a / (a+38):Nat):Int):=A7;have v:A1 ((n:Int)+((36*a / (a+38):Nat):Int))=((n+36*a / (a+38):Nat):Int):=by rw[A7];rfl
  simp only[vl,p,r,t,u,v];rw[show(((a+38:Nat):Int)!=0)=true by simp;omega,w];rfl
 unfold JJ Q3;rw[b8,b8];cases f with
 | true=>
  have g:w6 (d:Int) 700=((d / 700:Nat):Int):=M9 d 700;have h:A1 ((d / 700:Nat):Int)=((d / 700:Nat):Int):=A7;simp only[cond_true,vl,g,h,if_true];exact key _ (by omega)
 | false=>
  have g:w6 (d:Int) 2=((d / 2:Nat):Int):=M9 d 2;have h:A1 ((d / 2:Nat):Int)=((d / 2:Nat):Int):=A7;simp only[cond_false,vl,g,h,ab0,if_false];exact key _ (by omega)
theorem A06{R:Type}{b:Int->Option R}(d:Int)(c:ltN d 36=true):Bj5 LF d b=b ((Aj d.toNat).toNat:Nat):=by
 obtain⟨a,e⟩:=E3.1 c;obtain⟨d,rfl⟩:=x4 a;unfold Bj5;rw[b8,MV (by omega)];by_cases h:d<26
 ·rw[A8,if_pos h];simp only[cond_true,vl]
  congr 1
  rw[A7,L9];rfl
 ·rw[A6,if_neg h];simp only[cond_false,vl]
  congr 1
  rw[C7 (n:=48+(d:Int)) (by omega) (by omega),A7,L9];omega
theorem Bx0{R:Type}{g:Int->Option R}(b:Int)(h:inR b 256=true):Cg9 LF b g=g (D9 (u8n b)):=by
 simp only[inR,w9,decide_eq_true_eq] at h;have j:b=((u8n b).toNat:Int):=by
  unfold u8n;simp;omega
 generalize u8n b=c at *;subst j;have i:=c.toNat_lt;unfold Cg9 D9;simp only[Wy,Wx,vl];rcases DB c with⟨d,f,e⟩|⟨d,f,e⟩|⟨d,f,e⟩|⟨d,f,o,e⟩
 ·have a:A1 (wu8 ((c.toNat:Int)-97))=((c.toNat-97:Nat):Int):=by
   rw[L9,A7];omega
  simp (disch:=omega) only[B7,E2,j1,j0,cond_false,cond_true,a,e]
 ·have a:A1 (wu8 ((c.toNat:Int)-65))=((c.toNat-65:Nat):Int):=by
   rw[L9,A7];omega
  simp (disch:=omega) only[B7,E2,j1,j0,cond_false,cond_true,a,e]
 ·have a:A1 (A1 (wu8 ((c.toNat:Int)-48))+26)=((c.toNat-22:Nat):Int):=by
   rw[L9,C7 (n:=(c.toNat:Int)-48) (by omega) (by omega),A7];omega
  simp (disch:=omega) only[B7,E2,j1,j0,cond_false,cond_true,a,e]
 ·rw[e];by_cases k:c.toNat<48
  ·simp (disch:=omega) only[B7,E2,j1,j0,cond_false,cond_true]
  ·by_cases l:c.toNat<65
   ·simp (disch:=omega) only[B7,E2,j1,j0,cond_false,cond_true]
   ·by_cases m:c.toNat<97
    ·simp (disch:=omega) only[B7,E2,j1,j0,cond_false,cond_true]
    ·simp (disch:=omega) only[B7,E2,j1,j0,cond_false,cond_true]
theorem Bw3{R:Type}{a:Int->Option R}(k b:Int)(c:ltN k 10000000000=true)(d:ltN b 1000000=true):Cz7 LF k b a=a (K9 (ab4 36 k) b):=by obtain⟨j,l⟩:=E3.1 c;obtain⟨e,f⟩:=E3.1 d;unfold Cz7 K9;have g:A1 (k+1)=k+1:=A7;have h:A1 ((36:Int)*(k+1))=36*(k+1):=A7;have i:A1 (36*(k+1)-b)=36*(k+1)-b:=A7;grind
theorem Cd9(z t:Bool)(c:LL)(done a u delta i:Int)(b:Nat)(T:b<1000000):∀(r q k n:Nat) (l:LL),q<10 ^ r->q<1152921504606846976->k+r<=1000->r<n->l.length+r<=200000->
  ∃(d:Nat) (pre:By),d<36/\P4 q k b=pre++[Aj d]/\∀(R:Type) (g:Bool->Bool->LL->Int->Int->Int->Int->Int->Int->LL->Option R),Fg LF n z t c done a u delta (b:Int) i (q:Int) (k:Int) l g=g z t c done a u delta i (d:Int) (l++pre.map D8):=by
 have f:∀k:Nat,K9 (ab4 36 (k:Int)) (b:Int)=(thr k b:Int):=λk=>by
  rw[show ab4 36 (k:Int)=((36*k:Nat):Int) from rfl,Xi]
 have j:∀(q k n:Nat) (l:LL),q<thr k b->k<=1000->∃(d:Nat) (pre:By),d<36/\P4 q k b=pre++[Aj d]/\∀(R:Type) (g:Bool->Bool->LL->Int->Int->Int->Int->Int->Int->LL->Option R),Fg LF (n+1) z t c done a u delta (b:Int) i (q:Int) (k:Int) l g=g z t c done a u delta i (d:Int) (l++pre.map D8):=by
  intro q k n l p v;have x:=V8 k b;refine⟨q,[],by omega,by rw[Pz p];rfl,λR g=>?_⟩;rw[Fg];have o:ltI (q:Int) (thr k b:Int)=true:=A8;rw[N9,N9,f];grind
 intro r
 induction r with
 | zero=>
  intro q k n l h _ v P N;have x:=V8 k b;obtain⟨n,rfl⟩:∃m,n=m+1:=⟨n-1,by omega⟩
  exact j q k n l (by simp at h;omega) (by omega)
 | succ r Q=>
  intro q k n l h w v P N;have x:=V8 k b;obtain⟨n,rfl⟩:∃m,n=m+1:=⟨n-1,by omega⟩
  by_cases p:q<thr k b
  ·exact j q k n l p (by omega)
  ·have L:(q-thr k b) / (36-thr k b)<10 ^ r:=TO (by omega) (by rw[Nat.pow_succ] at h;omega);have M:(q-thr k b) / (36-thr k b)<=q:=Nat.le_trans (x9 _ _) (by omega);have O:(q-thr k b) % (36-thr k b)<36-thr k b:=ae7 _ (by omega);obtain⟨d,pre,e0,K,e⟩:=Q ((q-thr k b) / (36-thr k b)) (k+1) n (l++[D8 (Aj (thr k b+(q-thr k b) % (36-thr k b)))]) L (by omega) (by omega) (by omega) (by rw[j2,s8];omega);refine⟨d,Aj (thr k b+(q-thr k b) % (36-thr k b))::pre,e0,by rw[Zk p,K];rfl,λR g=>?_⟩;rw[Fg];have y:A1 ((q:Int)-(thr k b:Int))=((q-thr k b:Nat):Int):=by rw[A7];omega
   have C:A1 ((36:Int)-(thr k b:Int))=((36-thr k b:Nat):Int):=by rw[A7];omega
   have D:s7 ((q-thr k b:Nat):Int) ((36-thr k b:Nat):Int)=(((q-thr k b) % (36-thr k b):Nat):Int):=Hq _ _;have F:w6 ((q-thr k b:Nat):Int) ((36-thr k b:Nat):Int)=(((q-thr k b) / (36-thr k b):Nat):Int):=M9 _ _;have I:((((36-thr k b:Nat):Int))!=0)=true:=by rw[bne_iff_ne];omega
   have J:A1 ((k:Int)+1)=((k+1:Nat):Int):=by rw[A7];rfl
   have o:ltI (q:Int) (thr k b:Int)=false:=A6;rw[N9,N9,f];simp only[vl,o,y,C,D,F,I,J,cond_true,cond_false,j0];generalize hA:(q-thr k b) / (36-thr k b)=A at *;generalize S:(q-thr k b) % (36-thr k b)=B at *;have G:A1 ((thr k b:Int)+(B:Int))=((thr k b+B:Nat):Int):=by rw[A7];rfl
   have H:A1 (A:Int)=(A:Int):=A7;rw[G,H,N9,F3 (by omega),b8];refine a8 (e R g) ?_;simp[v7,D8]
theorem Cy3(z t:Bool)(c:List Nat)(a m:Nat)(Z:m<=1114112)(Y:c.length<=256):∀(r i n:Nat) (s:PH),i+r=c.length->r<n->s.delta+r<=1000000000000->s.bias<=500->s.out.length+20*r<=90000->s.done+r<=1000->a<=256->
  (∀(R:Type) (d:Bool->Bool->LL->Int->Int->Int->Int->Int->LL->Option R),Ap LF n z t (B4 c) (s.done:Int) (a:Int) (m:Int) (s.delta:Int) (s.bias:Int) (i:Int) (s.out.map D8) d =
   d z t (B4 c) ((H4 m a (c.drop i) s).done:Int) (a:Int) (m:Int) ((H4 m a (c.drop i) s).delta:Int) ((H4 m a (c.drop i) s).bias:Int) ((H4 m a (c.drop i) s).out.map D8))/\
  (H4 m a (c.drop i) s).bias<=500/\(H4 m a (c.drop i) s).out.length<=s.out.length+20*(c.drop i).countP (· == m)/\(H4 m a (c.drop i) s).done=s.done+(c.drop i).countP (· == m)/\
  (H4 m a (c.drop i) s).delta<=(if 0<(c.drop i).countP (· == m) then r else s.delta+r):=by
 have S:=C6;intro r
 induction r with
 | zero=>
  intro i n s T U O B P Q C;obtain⟨n,rfl⟩:∃m,n=m+1:=⟨n-1,by omega⟩
  rw[c9 (by omega)];refine⟨λR d=>?_,B,by simp[H4],by simp[H4],by simp[H4]⟩;rw[Ap];rw[C9,A6];rfl
 | succ r H=>
  intro i n s T U O B P Q C;obtain⟨n,rfl⟩:∃m,n=m+1:=⟨n-1,by omega⟩
  rw[Uu c i (by omega)];have F:=Zq c i (by omega);have ok:=Qe (l:=c) (i:=i) (by omega);have e:inR (i:Int) (B4 c).length=true:=M8 (by omega) (by rw[C9];omega);have f:ltI (i:Int) ((B4 c).length:Int)=true:=B7 (by rw[C9];omega);generalize c.getD i 0=p at *;have A:A1 ((i:Int)+1)=((i+1:Nat):Int):=by rw[A7];rfl
  have M:A1 ((s.delta:Int)+1)=((s.delta+1:Nat):Int):=by rw[A7];rfl
  have I:A1 ((s.done:Int)+1)=((s.done+1:Nat):Int):=by rw[A7];rfl
  by_cases G:p<m
  ·have g:(p==m)=false:=by rw[beq_eq_false_iff_ne];omega
   have u:H4 m a (p::c.drop (i+1)) s=H4 m a (c.drop (i+1)) { s with delta:=s.delta+1 }:=by rw[H4,if_pos G]
   obtain⟨v,w,x,y,h⟩:=H (i+1) n { s with delta:=s.delta+1 } (by omega) (by omega) (by simp only;omega) B (by simp only;omega) (by simp only;omega) C;rw[u,ab9 (by rw[g];simp)];refine⟨λR d=>?_,w,x,y,?_⟩
   ·rw[Ap];rw[b8];simp only[e,f,ok,cond_true,vl,F,A,M];rw[A8,cond_true,show((p:Int)!=(m:Int))=true by rw[bne_iff_ne];omega,cond_true];exact v R d
   ·simp only at h;split at h<;>split<;>omega
  ·by_cases L:p=m
   ·subst L;have K:=MZ (q:=s.delta) (k:=0) (b:=s.bias) (by omega);have D:=Nu s.delta (s.done+1) (s.done==a) (by omega);have u:H4 p a (p::c.drop (i+1)) s=H4 p a (c.drop (i+1)) { delta:=0,bias:=Q3 s.delta (s.done+1) (s.done==a),done:=s.done+1,out:=s.out++P4 s.delta 0 s.bias }:=by rw[H4,if_neg G,if_pos rfl]
    obtain⟨v,w,x,y,h⟩:=H (i+1) n { delta:=0,bias:=Q3 s.delta (s.done+1) (s.done==a),done:=s.done+1,out:=s.out++P4 s.delta 0 s.bias } (by omega) (by omega) (by simp only;omega) D (by simp only[j2];omega) (by simp only;omega) C;obtain⟨W,pre,X,J,N⟩:=Cd9 z t (B4 c) (s.done:Int) (a:Int) (p:Int) (s.delta:Int) (i:Int) s.bias (by omega) 19 s.delta 0 LF (s.out.map D8) (by omega) (by omega) (by omega) (by omega) (by rw[p7];omega);rw[u,List.countP_cons_of_pos (by simp)];refine⟨λR d=>?_,w,?_,?_,?_⟩
    ·rw[Ap];have j:((s.done:Int)==(a:Int))=(s.done==a):=by
      rw[aa5,beq_iff_eq,beq_iff_eq];omega
     rw[b8];simp only[e,f,ok,cond_true,vl,F,A,I];rw[A6,cond_false,bne_self_eq_false,cond_false];refine a8 (N R _) ?_;have V:pre.length+1=(P4 s.delta 0 s.bias).length:=by rw[J];simp
     rw[N9,b8,F3 (by rw[j2,p7,p7];omega)];simp only[vl,cond_true,A,I];rw[N9,N9,A8,j];simp only[cond_true,b8];have o:s.out.map D8++pre.map D8++[[SV.int .u8 (((Aj W).toNat:Nat):Int)]]=(s.out++P4 s.delta 0 s.bias).map D8:=by
      rw[J,aa7,aa7,v7];rfl
     rw[o];exact v R d
    ·simp only[j2] at x;omega
    ·simp only at y;omega
    ·simp only at h;rw[P9];split at h<;>omega
   ·have g:(p==m)=false:=by rw[beq_eq_false_iff_ne];omega
    have u:H4 m a (p::c.drop (i+1)) s=H4 m a (c.drop (i+1)) s:=by rw[H4,if_neg G,if_neg L]
    obtain⟨v,w,x,y,h⟩:=H (i+1) n s (by omega) (by omega) (by omega) B (by omega) (by omega) C;rw[u,ab9 (by rw[g];simp)];refine⟨λR d=>?_,w,x,y,?_⟩
    ·rw[Ap];rw[b8];simp only[e,f,ok,cond_true,vl,F,A];rw[A6,cond_false,show((p:Int)!=(m:Int))=true by rw[bne_iff_ne];omega,cond_true];exact v R d
    ·split at h<;>split<;>omega
theorem A21{R:Type}{k0:Bool->Bool->LL->Int->Int->Int->Int->Int->Int->LL->Option R}(z t:Bool)(a:List Nat)(q:a.length<=256)(n0:Nat)(b delta c done:Int)(l:LL):∀(r i n m:Nat),i+r=a.length->r<n->
  Il LF n z t (B4 a) done b (n0:Int) delta c (m:Int) (i:Int) l k0=k0 z t (B4 a) done b (n0:Int) delta c ((G9 n0 (a.drop i) m:Nat):Int) l:=by
 intro r
 induction r with
 | zero=>
  intro i n m k o;obtain⟨n,rfl⟩:∃m,n=m+1:=⟨n-1,by omega⟩
  rw[Il];rw[C9,A6,c9 (by omega)];rfl
 | succ r f=>
  intro i n m k o;obtain⟨n,rfl⟩:∃m,n=m+1:=⟨n-1,by omega⟩
  have j:=Zq a i (by omega);have ok:=Qe (l:=a) (i:=i) (by omega);have d:inR (i:Int) (B4 a).length=true:=M8 (by omega) (by rw[C9];omega);have e:ltI (i:Int) ((B4 a).length:Int)=true:=B7 (by rw[C9];omega);rw[Il,Uu a i (by omega)];generalize a.getD i 0=p at *;have g:A1 ((i:Int)+1)=((i+1:Nat):Int):=by rw[A7];rfl
  rw[b8];simp only[d,e,ok,cond_true,vl,j,g,G9];by_cases h:n0<=p
  ·rw[if_pos h,A6,j0,cond_true];have:(if (p:Int)<(m:Int) then (p:Int) else (m:Int))=((min m p:Nat):Int):=by split<;>omega
   rw[this];exact f (i+1) n (min m p) (by omega) (by omega)
  ·rw[if_neg h,A8,j1,cond_false];exact f (i+1) n m (by omega) (by omega)
theorem Ce0(z t:Bool)(a:List Nat)(b:Nat)(B:a.length<=256)(T:b<=256)(i:∀p∈a,p<=1114111):∀(f n d:Nat) (s:PH),s.done=a.countP (λp=>decide (p<n))->a.length<=s.done+f->f<d->s.delta<=300->s.bias<=500->s.out.length+20*(a.length-s.done)<=80000->n<=1114112->
  ∀(R:Type) (k0:LL->Option R),Fh LF d z t (B4 a) (s.done:Int) (b:Int) (n:Int) (s.delta:Int) (s.bias:Int) (s.out.map D8) k0=k0 ((R3 a b f n s).out.map D8):=by
 intro f;have S:=C6
 induction f with
 | zero=>
  intro n d s V X Y O y P Q R k0;obtain⟨d,rfl⟩:∃m,d=m+1:=⟨d-1,by omega⟩
  rw[Fh];rw[C9,A6];rfl
 | succ f Z=>
  intro n d s V X Y O y P Q R k0;obtain⟨d,rfl⟩:∃m,d=m+1:=⟨d-1,by omega⟩
  rw[Fh];rw[C9];have U:a.countP (λp=>decide (p<n))<=a.length:=y9;by_cases o:s.done<a.length
  ·obtain⟨v,g,q⟩:=Ar5 (n:=n) (l:=a) (by omega);obtain⟨g1,g2,x⟩:=Ed n a 1114112;obtain⟨D,F,w⟩:=Ed n a 1073741824;have g4:=x v g q;have G:=w v g q;have g5:=i v g;have e:G9 n a 1114112∈a/\n<=G9 n a 1114112:=by grind
   have h:G9 n a 1073741824∈a/\n<=G9 n a 1073741824:=by grind
   have heq:G9 n a 1073741824=G9 n a 1114112:=by grind
   have W:R3 a b (f+1) n s=R3 a b f (G9 n a 1114112+1) { H4 (G9 n a 1114112) b a { s with delta:=s.delta+(G9 n a 1114112-n)*(s.done+1) } with delta:=(H4 (G9 n a 1114112) b a { s with delta:=s.delta+(G9 n a 1114112-n)*(s.done+1) }).delta+1 }:=by
    rw[R3,if_pos o]
   rw[W,A8,cond_true];have c:=λ(K:Bool->Bool->LL->Int->Int->Int->Int->Int->Int->LL->Option R)=>A21 (k0:=K) z t a B n (b:Int) (s.delta:Int) (s.bias:Int) (s.done:Int) (s.out.map D8) a.length 0 LF 1073741824 (by omega) (by omega)
   rw[j8,heq] at c;refine a8 (c _) ?_;clear c heq D F w G h;generalize G9 n a 1114112=m at *;have C:(m-n)*(s.done+1)<=1114112*256:=ae8 (by omega) (by omega);have H:A1 ((s.done:Int)+1)=((s.done+1:Nat):Int):=by rw[A7];rfl
   have I:A1 ((m:Int)-(n:Int))=((m-n:Nat):Int):=by rw[A7];omega
   have J:A1 (((m-n:Nat):Int)*((s.done+1:Nat):Int))=(((m-n)*(s.done+1):Nat):Int):=by
    rw[<-Int.natCast_mul];exact A7
   have L:A1 ((s.delta:Int)+(((m-n)*(s.done+1):Nat):Int))=((s.delta+(m-n)*(s.done+1):Nat):Int):=by
    rw[A7];rfl
   simp only[vl,H,I,J,L];have k:=Cy3 z t a b m (by omega) B a.length 0 LF { s with delta:=s.delta+(m-n)*(s.done+1) } (by omega) (by omega) (by simp only;omega) y (by simp only;omega) (by simp only;omega) T;rw[j8] at k;obtain⟨q1,q2,q3,q4,q5⟩:=k;refine a8 (q1 R _) ?_;have j:0<a.countP (· == m):=List.countP_pos_iff.2 ⟨m,e.1,by simp⟩;rw[if_pos j] at q5;have u:=Um e.2 a x;generalize H4 m b a { s with delta:=s.delta+(m-n)*(s.done+1) } = r at *;simp only at q3 q4;have M:A1 ((r.delta:Int)+1)=((r.delta+1:Nat):Int):=by rw[A7];rfl
   have N:A1 ((m:Int)+1)=((m+1:Nat):Int):=by rw[A7];rfl
   have A:a.countP (λp=>decide (p<m+1))<=a.length:=y9;simp only[M,N];exact Z (m+1) d { r with delta:=r.delta+1 } (by simp only;omega) (by simp only;omega) (by omega) (by simp only;omega) q2 (by simp only;omega) (by omega) R k0
  ·rw[A6];rw[R3,if_neg o];rfl
theorem A16(z t:Bool)(P:List Int)(C:P.length<=256):∀(r i n:Nat) (out:By),i+r=P.length->r<n->out.length+r<=1000->
  ((P.drop i).all ptI=true->∀(R:Type) (a:LL->Option R) (b:Bool->Bool->LL->LL->Option R),U6 LF n z t (Ar P) (i:Int) (out.map D8) a b=b z t (Ar P) ((out++W0 (P.drop i)).map D8))/\
  ((P.drop i).all ptI=false->∃l,∀(R:Type) (a:LL->Option R) (b:Bool->Bool->LL->LL->Option R),U6 LF n z t (Ar P) (i:Int) (out.map D8) a b=a l):=by
 intro r
 induction r with
 | zero=>
  intro i n out w y A;obtain⟨n,rfl⟩:∃m,n=m+1:=⟨n-1,by omega⟩
  rw[c9 (by omega)];refine⟨λ_ R a b=>?_,λh=>(by cases h)⟩;rw[U6];rw[U8,A6];simp[W0]
 | succ r v=>
  intro i n out w y A;obtain⟨n,rfl⟩:∃m,n=m+1:=⟨n-1,by omega⟩
  have o:=At4 P i (by omega);have ok:=UP (l:=P) (i:=i) (by omega);have f:inR (i:Int) (Ar P).length=true:=M8 (by omega) (by rw[U8];omega);have g:ltI (i:Int) ((Ar P).length:Int)=true:=B7 (by rw[U8];omega);rw[YU P i (by omega)];generalize P.getD i 0=x at *;have u:A1 ((i:Int)+1)=((i+1:Nat):Int):=by rw[A7];rfl
  cases j:ptI x with
  | false=>
   refine⟨λh=>?_,λ_=>⟨out.map D8,λR a b=>?_⟩⟩
   ·rw[aa3,j] at h;cases h
   ·rw[U6];rw[b8];simp only[f,g,ok,cond_true,vl,o,j,j0]
  | true=>
   obtain⟨B,D⟩:=Sy j;rw[aa3,j,x7];by_cases c:x<128
   ·have d:W0 (x::P.drop (i+1))=y8 x.toNat::W0 (P.drop (i+1)):=by
     unfold W0;rw[List.filter_cons_of_pos (by simpa using c)];rfl
    have k:out.map D8++[[SV.int .u8 (wu8 x)]]=(out++[y8 x.toNat]).map D8:=by rw[Cj1 x B c];simp
    obtain⟨p,q⟩:=v (i+1) n (out++[y8 x.toNat]) (by omega) (by omega) (by simp;omega);have step:∀(R:Type) (a:LL->Option R) (b:Bool->Bool->LL->LL->Option R),U6 LF (n+1) z t (Ar P) (i:Int) (out.map D8) a b=U6 LF n z t (Ar P) ((i+1:Nat):Int) ((out++[y8 x.toNat]).map D8) a b:=by
     intro R a b;rw[U6];rw[b8];simp only[f,g,ok,cond_true,vl,o,j,j1,cond_false,u];rw[B7 c,p7,F3 (by omega),k];rfl
    refine⟨λh R a b=>?_,λh=>?_⟩
    ·rw[step,p h,d];simp
    ·obtain⟨l,e⟩:=q h;exact⟨l,λR a b=>by rw[step];exact e R a b⟩
   ·have d:W0 (x::P.drop (i+1))=W0 (P.drop (i+1)):=by
     unfold W0;rw[List.filter_cons_of_neg (by simpa using c)]
    obtain⟨p,q⟩:=v (i+1) n out (by omega) (by omega) (by omega);have step:∀(R:Type) (a:LL->Option R) (b:Bool->Bool->LL->LL->Option R),U6 LF (n+1) z t (Ar P) (i:Int) (out.map D8) a b=U6 LF n z t (Ar P) ((i+1:Nat):Int) (out.map D8) a b:=by
     intro R a b;rw[U6];rw[b8];simp only[f,g,ok,cond_true,vl,o,j,j1,cond_false,u];rw[A6];rfl
    refine⟨λh R a b=>?_,λh=>?_⟩
    ·rw[step,p h,d]
    ·obtain⟨l,e⟩:=q h;exact⟨l,λR a b=>by rw[step];exact e R a b⟩
theorem A17(z t:Bool)(P:List Int):(W4 P=([],3)/\∀(R:Type) (b:Unit->Option R) (f:By->Int->LL->Option R),Ac6 LF z t (Ar P) b f=b ())\/
  (∃l,∀(R:Type) (b:Unit->Option R) (f:By->Int->LL->Option R),Ac6 LF z t (Ar P) b f=f (W4 P).1 ((W4 P).2:Nat) l):=by
 have x:=C6;by_cases i:256<P.length
 ·refine .inl ⟨by unfold W4;rw[if_pos i],λR b f=>?_⟩;unfold Ac6;rw[U8,A8];rfl
 ·right
  obtain⟨v,w⟩:=A16 z t P (by omega) P.length 0 LF [] (by omega) (by omega) (by simp;omega);rw[j8] at v w;cases g:P.all ptI with
  | false=>
   obtain⟨l,e⟩:=w g;refine⟨l,λR b f=>?_⟩;unfold Ac6;rw[U8,A6,cond_false];refine a8 (e R _ _) ?_;unfold W4;rw[if_neg i,g];rfl
  | true=>
   obtain⟨a,rfl,A,m⟩:=Bj4 g;rw[p7] at i;have k:W4 (a.map λn:Nat=>(n:Int))=Cx a:=by
    unfold W4;rw[p7,if_neg i,g];simp[Function.comp_def]
   have j:=Sd a;have y:a.countP (λp=>decide (p<128))<=a.length:=y9;have main:∀(o:By),o.length<=300->∀(R:Type) (b:LL->Option R),Fh LF LF z t (B4 a) ((H9 a).length:Int) ((H9 a).length:Int) 128 0 72 (o.map D8) b=b ((R3 a (H9 a).length 256 128 { delta:=0,bias:=72,done:=(H9 a).length,out:=o }).out.map D8):=by
    intro o B R b;exact Ce0 z t a (H9 a).length (by omega) (by omega) m 256 128 LF { delta:=0,bias:=72,done:=(H9 a).length,out:=o } j (by simp only;omega) (by omega) (by simp) (by simp) (by simp only;omega) (by omega) R b
   have d:Cx a=((R3 a (H9 a).length 256 128 { delta:=0,bias:=72,done:=(H9 a).length,out:=if (H9 a).isEmpty then [] else H9 a++[45] }).out,0):=by
    unfold Cx;grind
   refine⟨(Cx a).1.map D8,λR b f=>?_⟩;unfold Ac6;rw[U8,p7,A6,cond_false,k];have r:=v g R;refine a8 (r _ _) ?_;rw[x6,GO,Qd];simp only[vl,p7];by_cases c:H9 a=[]
   ·rw[c,x5,A6,cond_false];have q:=main [] (by simp) R;rw[c,x5] at q;rw[List.map_nil] at q;refine a8 (q _) ?_;rw[c] at d;rw[d];simp only[List.isEmpty_nil,if_true,x5];rw[W8,X6];rfl
   ·have u:0<(H9 a).length:=x8.2 c;rw[A8,cond_true,F3 (by omega),cond_true];have h:(H9 a).map D8++[[SV.int .u8 (45:Int)]]=(H9 a++[45]).map D8:=by rw[aa7];rfl
    rw[h];refine a8 (main (H9 a++[45]) (by simp;omega) R _) ?_;rw[d,if_neg (by simpa using c)];rw[W8,X6];rfl
theorem Cy4(z t:Bool)(p:LL)(b:p.all Na=true):∃r H,Ac6 LF z t p (λ_=>rv (.tup [.s (.str []),.s (.int .i64 3)]) []) (λd e l=>rv (.tup [.s (.str d),.s (.int .i64 e)]) [.arr true 5 1 l])=rv r H/\
  r.stab [0,0] H = .tup [.s (.str (W4 (p.map elI)).1),.s (.int .i64 ((W4 (p.map elI)).2:Nat))]:=by
 obtain⟨P,rfl⟩:=Bh1 b;rw[YV];rcases A17 z t P with⟨c,a⟩|⟨l,a⟩
 ·exact⟨_,_,a _ _ _,by rw[c];rfl⟩
 ·exact⟨_,_,a _ _ _,rfl⟩
theorem A53{R:Type}{k0:Unit->Option R}{k1:By->Int->Option R}(s:By)(k:s.length<=1000000):∀(r i n cut:Nat),i+r=s.length->r<n->
  Ef LF n s (cut:Int) (i:Int) k0 k1=if (s.drop i).any (λb=>v8 128 b.toNat) then k0 () else k1 s ((if 45∈s.drop i then i+G4 (s.drop i) else cut:Nat):Int):=by
 intro r
 induction r with
 | zero=>
  intro i n cut g j;obtain⟨n,rfl⟩:∃m,n=m+1:=⟨n-1,by omega⟩
  rw[Ef];rw[A6,c9 (by omega)];rfl
 | succ r d=>
  intro i n cut g j;obtain⟨n,rfl⟩:∃m,n=m+1:=⟨n-1,by omega⟩
  rw[Ef];have e:A1 ((i:Int)+1)=((i+1:Nat):Int):=by rw[A7];rfl
  rw[A8,E9,D1,D2 s i (by omega),e,ab7];simp only[cond_true];generalize s.getD i 0=b;by_cases h:128<=b.toNat
  ·rw[A6,Nat.ble_eq_true_of_le h];rfl
  ·have:v8 128 b.toNat=false:=by rw[k9,ne_eq,p5];exact h
   rw[A8,this,ad0,j1,cond_false];have f:((b.toNat:Int)==45)=(b==45):=Q7 b 45 (by omega);rw[f];by_cases a:b=45
   ·subst a;rw[show((45:UInt8)==45)=true from rfl,cond_true];refine(d (i+1) n i (by omega) (by omega)).trans ?_;have c:(45:UInt8)∈45::s.drop (i+1):=by simp
    rw[if_pos c];have:(if (45:UInt8)∈s.drop (i+1) then i+1+G4 (s.drop (i+1)) else i)=i+G4 (45::s.drop (i+1)):=by
     rw[G4];grind
    rw[this]
   ·rw[show(b==45)=false from beq_eq_false_iff_ne.2 a,cond_false];refine(d (i+1) n cut (by omega) (by omega)).trans ?_;have c:((45:UInt8)∈b::s.drop (i+1))↔((45:UInt8)∈s.drop (i+1)):=by simp[af8 a]
    have:(if (45:UInt8)∈s.drop (i+1) then i+1+G4 (s.drop (i+1)) else cut)=(if (45:UInt8)∈b::s.drop (i+1) then i+G4 (b::s.drop (i+1)) else cut):=by
     by_cases q:(45:UInt8)∈s.drop (i+1)
     ·rw[if_pos q,if_pos (c.2 q),G4,if_pos q];omega
     grind
    rw[this]
theorem A48{R:Type}{k0:By->Int->LL->Option R}(s:By)(q:s.length<=1000000)(k:Nat)(p:k<=s.length):∀(r i n:Nat) (l:List Nat),i+r=k->r<n->l.length=i->
  Hd LF n s (k:Int) (i:Int) (B4 l) k0=k0 s (k:Int) (B4 (l++((s.take k).drop i).map (·.toNat))):=by
 intro r
 induction r with
 | zero=>
  intro i n l f h g;obtain⟨n,rfl⟩:∃m,n=m+1:=⟨n-1,by omega⟩
  rw[Hd];rw[A6,c9 (by rw[p4];omega)];simp
 | succ r j=>
  intro i n l f h g;obtain⟨n,rfl⟩:∃m,n=m+1:=⟨n-1,by omega⟩
  rw[Hd];have c:A1 ((i:Int)+1)=((i+1:Nat):Int):=by rw[A7];rfl
  have e:(s.take k).drop i=s.getD i 0::(s.take k).drop (i+1):=by
   rw[D2 (s.take k) i (by rw[p4];omega)]
   congr 1
   rw[j5,j5,List.getElem?_take_of_lt (by omega)]
  rw[A8,E9,D1,e,C9,F3 (by omega),c];simp only[cond_true];generalize s.getD i 0=b;have o:=b.toNat_lt;have d:A1 (b.toNat:Int)=(b.toNat:Int):=A7;have a:B4 l++[[SV.int .i64 (A1 (b.toNat:Int))]]=B4 (l++[b.toNat]):=by rw[d,Ka];rfl
  rw[a];refine(j (i+1) n _ (by omega) (by omega) (by simp;omega)).trans ?_;simp
theorem A51(s:By)(hs:s.length<=1000000)(out:LL)(f b e:Int)(l:LL)(P:0<=b)(Q:b<1000000):∀(r p n k:Nat) (i w:Int),p+r=s.length->r<n->0<=i->i<=1099511627776->0<=w->w<=1099511627776->k+r<=10000000->
  ((T9 b (s.drop p) i w ((36*k:Nat):Int)).1=0->∃o,p<o/\o<=s.length/\(T9 b (s.drop p) i w ((36*k:Nat):Int)).2.1=s.drop o/\∀(R:Type) (a:Int->LL->Option R) (d:By->LL->Int->Int->Int->Int->LL->Option R),V3 LF n s out (p:Int) f i b e w (k:Int) l a d=d s out (o:Int) f (T9 b (s.drop p) i w ((36*k:Nat):Int)).2.2 e l)/\
  ((T9 b (s.drop p) i w ((36*k:Nat):Int)).1≠0->∀(R:Type) (a:Int->LL->Option R) (d:By->LL->Int->Int->Int->Int->LL->Option R),V3 LF n s out (p:Int) f i b e w (k:Int) l a d=a (T9 b (s.drop p) i w ((36*k:Nat):Int)).1 l):=by
 intro r
 induction r with
 | zero=>
  intro p n k i w X W U D G g V;obtain⟨n,rfl⟩:∃m,n=m+1:=⟨n-1,by omega⟩
  rw[c9 (by omega)];refine⟨λh=>by simp[T9] at h,λ_ R a d=>?_⟩;rw[V3];rw[A6];rfl
 | succ r Z=>
  intro p n k i w X W U D G g V;obtain⟨n,rfl⟩:∃m,n=m+1:=⟨n-1,by omega⟩
  have S:=D2 s p (by omega);have C:=D1 s p;rw[S];generalize s.getD p 0=c at *;have Y:=Fp c;have ht:=Mn ((36*k:Nat):Int) b;have e0:ab4 36 (k:Int)=((36*k:Nat):Int):=rfl;have J:A1 ((p:Int)+1)=((p+1:Nat):Int):=by rw[A7];rfl
  have K:A1 ((k:Int)+1)=((k+1:Nat):Int):=by rw[A7];rfl
  have start:∀(R:Type) (a:Int->LL->Option R) (d:By->LL->Int->Int->Int->Int->LL->Option R),V3 LF (n+1) s out (p:Int) f i b e w (k:Int) l a d =
    cond (ltI (D9 c) 0) (a 4 l)
     (vl (A1 (i+(A1 (D9 c*w)))) λj=>cond (ltI 1099511627776 j) (a 19 l)
      (cond (ltI (D9 c) (K9 ((36*k:Nat):Int) b)) (d s out ((p+1:Nat):Int) f j e l)
       (vl (A1 (36-(K9 ((36*k:Nat):Int) b))) λq=>cond (ltI 1099511627776 (A1 (w*q))) (a 19 l) (V3 LF n s out ((p+1:Nat):Int) f j b e (A1 (w*q)) ((k+1:Nat):Int) l a d)))):=by
   intro R a d;rw[V3];have T:=c.toNat_lt;rw[A8,E9,C,E9,It,N9,N9,e0,J,K];rfl
  unfold T9;by_cases y:D9 c<0
  ·rw[if_pos y];refine⟨λh=>by simp at h,λ_ R a d=>?_⟩;rw[start,B7 y];rfl
  ·rw[if_neg y];have hm:=De (by omega) Y.2 G g;have u:A1 (D9 c*w)=D9 c*w:=A7;have v:A1 (i+D9 c*w)=i+D9 c*w:=A7;by_cases z:1099511627776<i+D9 c*w
   ·rw[if_pos z];refine⟨λh=>by simp at h,λ_ R a d=>?_⟩;rw[start,A6,u,v];simp only[vl,cond_false];rw[B7 z];rfl
   ·rw[if_neg z];by_cases A:D9 c<K9 ((36*k:Nat):Int) b
    ·rw[if_pos A];refine⟨λ_=>⟨p+1,by omega,by omega,rfl,λR a d=>?_⟩,λh=>absurd rfl h⟩;rw[start,A6,u,v];simp only[vl,cond_false];rw[A6,B7 A];rfl
    ·rw[if_neg A];have H:A1 (36-K9 ((36*k:Nat):Int) b)=36-K9 ((36*k:Nat):Int) b:=A7;have F:=De (x:=36-K9 ((36*k:Nat):Int) b) (by omega) (by omega) G g;rw[af4] at F;have I:A1 (w*(36-K9 ((36*k:Nat):Int) b))=w*(36-K9 ((36*k:Nat):Int) b):=A7;by_cases B:1099511627776<w*(36-K9 ((36*k:Nat):Int) b)
     ·rw[if_pos B];refine⟨λh=>by simp at h,λ_ R a d=>?_⟩;rw[start,A6,u,v];simp only[vl,cond_false];rw[A6,A6,H,I,B7 B];rfl
     ·rw[if_neg B];have L:((36*k:Nat):Int)+36=((36*(k+1):Nat):Int):=by omega
      rw[L];obtain⟨q1,q2⟩:=Z (p+1) n (k+1) (i+D9 c*w) (w*(36-K9 ((36*k:Nat):Int) b)) (by omega) (by omega) (by omega) (by omega) (by omega) (by omega) (by omega);have t:∀(R:Type) (a:Int->LL->Option R) (d:By->LL->Int->Int->Int->Int->LL->Option R),V3 LF (n+1) s out (p:Int) f i b e w (k:Int) l a d=V3 LF n s out ((p+1:Nat):Int) f (i+D9 c*w) b e (w*(36-K9 ((36*k:Nat):Int) b)) ((k+1:Nat):Int) l a d:=by simp_all
      refine⟨λh=>?_,λh R a d=>by rw[t];exact q2 h R a d⟩;obtain⟨o,g1,M,N,O⟩:=q1 h;exact⟨o,by omega,M,N,λR a d=>by rw[t];exact O R a d⟩
theorem A52(s:By)(Z:s.length<=1000000)(l:LL):∀(r p n k:Nat) (i w:Int),p+r=s.length->r<n->0<=i->i<=1099511627776->0<=w->w<=1099511627776->k+r<=10000000->
  ((T9 72 (s.drop p) i w ((36*k:Nat):Int)).1=0->∃f,p<f/\f<=s.length/\(T9 72 (s.drop p) i w ((36*k:Nat):Int)).2.1=s.drop f/\∀(R:Type) (a:Int->LL->Option R) (b:By->Int->Int->LL->Option R),V4 LF n s (p:Int) i w (k:Int) l a b=b s (f:Int) (T9 72 (s.drop p) i w ((36*k:Nat):Int)).2.2 l)/\
  ((T9 72 (s.drop p) i w ((36*k:Nat):Int)).1≠0->∀(R:Type) (a:Int->LL->Option R) (b:By->Int->Int->LL->Option R),V4 LF n s (p:Int) i w (k:Int) l a b=a (T9 72 (s.drop p) i w ((36*k:Nat):Int)).1 l):=by
 intro r
 induction r with
 | zero=>
  intro p n k i w S Q O A C d P;obtain⟨n,rfl⟩:∃m,n=m+1:=⟨n-1,by omega⟩
  rw[c9 (by omega)];refine⟨λh=>by simp[T9] at h,λ_ R a b=>?_⟩;rw[V4];rw[A6];rfl
 | succ r U=>
  intro p n k i w S Q O A C d P;obtain⟨n,rfl⟩:∃m,n=m+1:=⟨n-1,by omega⟩
  have M:=D2 s p (by omega);have z:=D1 s p;rw[M];generalize s.getD p 0=c at *;have T:=Fp c;have ht:=Mn ((36*k:Nat):Int) 72;have e0:ab4 36 (k:Int)=((36*k:Nat):Int):=rfl;have G:A1 ((p:Int)+1)=((p+1:Nat):Int):=by rw[A7];rfl
  have H:A1 ((k:Int)+1)=((k+1:Nat):Int):=by rw[A7];rfl
  have start:∀(R:Type) (a:Int->LL->Option R) (b:By->Int->Int->LL->Option R),V4 LF (n+1) s (p:Int) i w (k:Int) l a b =
    cond (ltI (D9 c) 0) (a 4 l)
     (vl (A1 (i+(A1 (D9 c*w)))) λe=>cond (ltI 1099511627776 e) (a 19 l)
      (cond (ltI (D9 c) (K9 ((36*k:Nat):Int) 72)) (b s ((p+1:Nat):Int) e l)
       (vl (A1 (36-(K9 ((36*k:Nat):Int) 72))) λg=>cond (ltI 1099511627776 (A1 (w*g))) (a 19 l) (V4 LF n s ((p+1:Nat):Int) e (A1 (w*g)) ((k+1:Nat):Int) l a b)))):=by
   intro R a b;rw[V4];have N:=c.toNat_lt;rw[A8,E9,z,E9,It,N9,N9,e0,G,H];rfl
  unfold T9;by_cases t:D9 c<0
  ·rw[if_pos t];refine⟨λh=>by simp at h,λ_ R a b=>?_⟩;rw[start,B7 t];rfl
  ·rw[if_neg t];have Y:=De (by omega) T.2 C d;have o:A1 (D9 c*w)=D9 c*w:=A7;have q:A1 (i+D9 c*w)=i+D9 c*w:=A7;by_cases u:1099511627776<i+D9 c*w
   ·rw[if_pos u];refine⟨λh=>by simp at h,λ_ R a b=>?_⟩;rw[start,A6,o,q];simp only[vl,cond_false];rw[B7 u];rfl
   ·rw[if_neg u];by_cases v:D9 c<K9 ((36*k:Nat):Int) 72
    ·rw[if_pos v];refine⟨λ_=>⟨p+1,by omega,by omega,rfl,λR a b=>?_⟩,λh=>absurd rfl h⟩;rw[start,A6,o,q];simp only[vl,cond_false];rw[A6,B7 v];rfl
    ·rw[if_neg v];have D:A1 (36-K9 ((36*k:Nat):Int) 72)=36-K9 ((36*k:Nat):Int) 72:=A7;have B:=De (x:=36-K9 ((36*k:Nat):Int) 72) (by omega) (by omega) C d;rw[af4] at B;have F:A1 (w*(36-K9 ((36*k:Nat):Int) 72))=w*(36-K9 ((36*k:Nat):Int) 72):=A7;by_cases y:1099511627776<w*(36-K9 ((36*k:Nat):Int) 72)
     ·rw[if_pos y];refine⟨λh=>by simp at h,λ_ R a b=>?_⟩;rw[start,A6,o,q];simp only[vl,cond_false];rw[A6,A6,D,F,B7 y];rfl
     ·rw[if_neg y];have I:((36*k:Nat):Int)+36=((36*(k+1):Nat):Int):=by omega
      rw[I];obtain⟨V,W⟩:=U (p+1) n (k+1) (i+D9 c*w) (w*(36-K9 ((36*k:Nat):Int) 72)) (by omega) (by omega) (by omega) (by omega) (by omega) (by omega) (by omega);have j:∀(R:Type) (a:Int->LL->Option R) (b:By->Int->Int->LL->Option R),V4 LF (n+1) s (p:Int) i w (k:Int) l a b=V4 LF n s ((p+1:Nat):Int) (i+D9 c*w) (w*(36-K9 ((36*k:Nat):Int) 72)) ((k+1:Nat):Int) l a b:=by simp_all
      refine⟨λh=>?_,λh R a b=>by rw[j];exact W h R a b⟩;obtain⟨f,X,J,K,L⟩:=V h;exact⟨f,by omega,J,K,λR a b=>by rw[j];exact L R a b⟩
theorem NV(l:List Nat)(k:Nat):(B4 l).take k=B4 (l.take k):=by unfold B4;rw[List.map_take]
theorem NU(l:List Nat)(k:Nat):(B4 l).drop k=B4 (l.drop k):=by unfold B4;rw[List.map_drop]
theorem A50(s:By)(hs:s.length<=1000000)(l:LL):∀(r p f:Nat) (a:List Nat) (n i b:Nat),p+r=s.length->r<f->a.length<=256->n<=1114111->i<=1000->b<=500->
  ((G8 (s.drop p) a n i b false).2=0->∀(R:Type) (c:Int->LL->Option R) (d e:LL->LL->Option R),P2 LF f s (B4 a) (p:Int) (n:Int) (i:Int) (b:Int) l c d e=e (B4 (G8 (s.drop p) a n i b false).1) l)/\
  ((G8 (s.drop p) a n i b false).2≠0->(G8 (s.drop p) a n i b false).1=[]/\((∀(R:Type) (c:Int->LL->Option R) (d e:LL->LL->Option R),P2 LF f s (B4 a) (p:Int) (n:Int) (i:Int) (b:Int) l c d e=c ((G8 (s.drop p) a n i b false).2:Nat) l)\/
   ((G8 (s.drop p) a n i b false).2=3/\∃D,∀(R:Type) (c:Int->LL->Option R) (d e:LL->LL->Option R),P2 LF f s (B4 a) (p:Int) (n:Int) (i:Int) (b:Int) l c d e=d l D))):=by
 have a0:=C6;intro r
 induction r using ac3 with
 | _ r ih=>
  intro p f a n i b hp hf h2 h3 h4 h5;obtain⟨f,rfl⟩:∃m,f=m+1:=⟨f-1,by omega⟩
  by_cases hr:r=0
  ·rw[c9 (by omega),Cv];refine⟨λ_ R c d e=>?_,λh=>absurd rfl h⟩;rw[P2];rw[A6];rfl
  ·have q:s.drop p≠[]:=λh=>by
    have:=congrArg j4 h;rw[j7] at this;simp at this;omega
   obtain⟨z,H⟩:=A51 s hs (B4 a) (n:Int) (b:Int) (i:Int) l (by omega) (by omega) r p LF 0 (i:Int) 1 hp (by omega) (by omega) (by omega) (by omega) (by omega) (by omega);obtain⟨F,G⟩:=Ut b (s.drop p) i 1 0;have y:T9 (b:Int) (s.drop p) (i:Int) 1 ((36*0:Nat):Int)=T9 (b:Int) (s.drop p) (i:Int) ((1:Nat):Int) ((36*0:Nat):Int):=rfl;rw[y] at z H;by_cases o:(D6 b (s.drop p) i 1 0).2.2=0
   ·rw[Dz q a n i b false o];have T:=G o;have K:(T9 (b:Int) (s.drop p) (i:Int) ((1:Nat):Int) ((36*0:Nat):Int)).1=0:=by rw[F,o];rfl
    obtain⟨v,a1,a2,w,x⟩:=z K;obtain⟨L,O,_⟩:=Ur (b:Int) (s.drop p) (i:Int) ((1:Nat):Int) ((36*0:Nat):Int) (by omega) (by omega) (by omega) K;rw[T] at L O w x;simp only at L O w x;rw[w];generalize (D6 b (s.drop p) i 1 0).1=X at *;have el:A1 (((B4 a).length:Int)+1)=((a.length+1:Nat):Int):=by rw[C9,A7];rfl
    have U:A1 ((X:Int)-(i:Int))=((X-i:Nat):Int):=by rw[A7];omega
    have Z:w6 (X:Int) ((a.length+1:Nat):Int)=((X / (a.length+1):Nat):Int):=M9 _ _;have em:s7 (X:Int) ((a.length+1:Nat):Int)=((X % (a.length+1):Nat):Int):=Hq _ _;have a5:X / (a.length+1)<=X:=x9 _ _;have J:=ae7 X (show 0<a.length+1 by omega);have A:=Nu (X-i) (a.length+1) false (by omega);generalize hQ:X / (a.length+1)=Q at *;generalize hM:X % (a.length+1)=M at *;have V:A1 (Q:Int)=(Q:Int):=A7;have W:A1 ((n:Int)+(Q:Int))=((n+Q:Nat):Int):=by rw[A7];rfl
    have Y:A1 ((M:Int)+1)=((M+1:Nat):Int):=by rw[A7];rfl
    have C:(((a.length+1:Nat):Int)!=0)=true:=by rw[bne_iff_ne];omega
    have P:cut (B4 a) 0 (M:Int)=B4 (a.take M):=by rw[K2,b8,NV]
    have S:cut (B4 a) (M:Int) ((B4 a).length:Int)=B4 (a.drop M):=by rw[Q8,b8,NU]
    have t:∀N:Nat,B4 (a.take M)++[[SV.int .i64 (N:Int)]]++B4 (a.drop M)=B4 (U9 a M N):=λN=>by
     unfold U9;rw[Ka,v7];rfl
    have start:∀(R:Type) (c:Int->LL->Option R) (d e:LL->LL->Option R),P2 LF (f+1) s (B4 a) (p:Int) (n:Int) (i:Int) (b:Int) l c d e =
      cond (not (V0 (n+Q))) (c 2 l) (cond (ltI 256 ((a.length+1:Nat):Int)) (d l (B4 (U9 a M (n+Q))))
       (P2 LF f s (B4 (U9 a M (n+Q))) (v:Int) ((n+Q:Nat):Int) ((M+1:Nat):Int) ((Q3 (X-i) (a.length+1) false:Nat):Int) l c d e)):=by
     intro R c d e;rw[P2];rw[A8,cond_true];refine(x R _ _).trans ?_;have s1:I7 (0:Int) (M:Int) (B4 a).length=true:=Af (by omega) (by omega) (by rw[C9];omega);have s2:I7 (M:Int) ((B4 a).length:Int) (B4 a).length=true:=Af (by omega) (by rw[C9];omega) (by omega);have t1:ltN ((X-i:Nat):Int) 1152921504606846976=true:=N9;have t2:ltN ((a.length+1:Nat):Int) 1000000=true:=N9;have t3:ltI 0 ((a.length+1:Nat):Int)=true:=A8;have l1:(B4 (a.take M)).length=M:=by rw[C9,p4];omega
     have l2:(B4 (a.drop M)).length=a.length-M:=by rw[C9,j7]
     have r1:F6 (0+(B4 (a.take M)).length)=true:=F3 (by omega);have r2:F6 ((B4 (a.take M)).length+1)=true:=F3 (by omega);have r3:F6 ((B4 (a.take M)++[[SV.int .i64 ((n+Q:Nat):Int)]]).length+(B4 (a.drop M)).length)=true:=F3 (by rw[j2,s8];omega);have l3:(B4 (U9 a M (n+Q))).length=a.length+1:=by rw[C9,Be]
     simp only[vl,el,U,Z,em,V,W,Y,C,s1,s2,t1,t2,t3,P,S,r1,r2,r3,t,l3,cond_true,b8,Lw]
    cases g:V0 (n+Q) with
    | false=>
     rw[if_neg (by simp)];refine⟨λh=>by simp at h,λ_=>⟨rfl,.inl λR c d e=>?_⟩⟩;rw[start,g];rfl
    | true=>
     rw[if_pos rfl];by_cases I:256<a.length+1
     ·rw[if_pos I];refine⟨λh=>by simp at h,λ_=>⟨rfl,.inr ⟨rfl,B4 (U9 a M (n+Q)),λR c d e=>?_⟩⟩⟩;rw[start,g,A8];rfl
     ·rw[if_neg I];have B:n+Q<=1114111:=by
       unfold V0 at g;simp only[w9,p5] at g;exact g.1
      have k:∀(R:Type) (c:Int->LL->Option R) (d e:LL->LL->Option R),P2 LF (f+1) s (B4 a) (p:Int) (n:Int) (i:Int) (b:Int) l c d e=P2 LF f s (B4 (U9 a M (n+Q))) (v:Int) ((n+Q:Nat):Int) ((M+1:Nat):Int) ((Q3 (X-i) (a.length+1) false:Nat):Int) l c d e:=by
       intro R c d e;rw[start,g,A6];rfl
      obtain⟨z1,z2⟩:=ih (s.length-v) (by omega) v f (U9 a M (n+Q)) (n+Q) (M+1) (Q3 (X-i) (a.length+1) false) (by omega) (by omega) (by rw[Be];omega) B (by omega) A;refine⟨λh R c d e=>by rw[k];exact z1 h R c d e,λh=>?_⟩;obtain⟨y1,u⟩:=z2 h;refine⟨y1,?_⟩;rcases u with u|⟨u,D,y3⟩
      ·exact .inl λR c d e=>by rw[k];exact u R c d e
      ·exact .inr ⟨u,D,λR c d e=>by rw[k];exact y3 R c d e⟩
   ·rw[Gq q a n i b false o];clear z G;refine⟨λh=>absurd h o,λ_=>⟨rfl,.inl λR c d e=>?_⟩⟩;rw[P2];rw[A8,cond_true];have j:=congrArg Prod.fst F;simp only at j;refine(H (by rw[j];omega) R _ _).trans ?_;rw[j]
theorem Bn1:∀(r:Nat) (s:By) (a:List Nat) (n i b:Nat) (f:Bool),s.length<=r->0<a.length->(G8 s a n i b f).2=0->(G8 s a n i b f).1≠[]:=by
 intro r
 induction r with
 | zero=>
  intro s a n i b f d l h;obtain rfl:=y7.1 (Nat.le_zero.1 d);rw[Cv];grind
 | succ r m=>
  intro s a n i b f d l h;by_cases e:s=[]
  ·grind
  ·by_cases c:(D6 b s i 1 0).2.2=0
   ·rw[Dz e a n i b f c] at h ⊢;split at h
    ·rename_i g;rw[if_pos g];split at h
     ·omega
     ·rename_i j;rw[if_neg j];have k:=Px b s i 1 0 c;exact m _ _ _ _ _ _ (by omega) (by rw[Be];omega) h
    omega
   ·rw[Gq e a n i b f c] at h;omega
theorem A49(s:By)(K:s.length<=1000000)(p:Nat)(a:List Nat)(h2:a.length<=256)(hp:p<=s.length) :
  (s.drop p=[]/\∀(R:Type) (b:Int->LL->Option R) (c d:LL->LL->Option R) (g:LL->Option R),K4 LF LF s (p:Int) (B4 a) b c d g=g (B4 a))\/
  ((G8 (s.drop p) a 128 0 72 true).2=0/\(G8 (s.drop p) a 128 0 72 true).1≠[]/\∀(R:Type) (b:Int->LL->Option R) (c d:LL->LL->Option R) (g:LL->Option R),K4 LF LF s (p:Int) (B4 a) b c d g=d (B4 (G8 (s.drop p) a 128 0 72 true).1) (B4 a))\/
  ((G8 (s.drop p) a 128 0 72 true).1=[]/\((∀(R:Type) (b:Int->LL->Option R) (c d:LL->LL->Option R) (g:LL->Option R),K4 LF LF s (p:Int) (B4 a) b c d g=b ((G8 (s.drop p) a 128 0 72 true).2:Nat) (B4 a))\/
   ((G8 (s.drop p) a 128 0 72 true).2=3/\∃F,∀(R:Type) (b:Int->LL->Option R) (c d:LL->LL->Option R) (g:LL->Option R),K4 LF LF s (p:Int) (B4 a) b c d g=c (B4 a) F))):=by
 have a0:=C6;obtain⟨f,B⟩:∃m,LF=m+1:=⟨LF-1,by omega⟩
 by_cases hr:s.length<=p
 ·refine .inl ⟨c9 hr,λR b c d g=>?_⟩;have e:K4 LF LF s (p:Int) (B4 a) b c d g=K4 LF (f+1) s (p:Int) (B4 a) b c d g:=by rw[<-B]
  rw[e,K4];rw[A6];rfl
 ·right
  have o:s.drop p≠[]:=λh=>by
   have:=congrArg j4 h;grind
  obtain⟨u,y⟩:=A52 s K (B4 a) (s.length-p) p LF 0 0 1 (by omega) (by omega) (by omega) (by omega) (by omega) (by omega) (by omega);obtain⟨G,x⟩:=Ut 72 (s.drop p) 0 1 0;have n:T9 72 (s.drop p) 0 1 ((36*0:Nat):Int)=T9 ((72:Nat):Int) (s.drop p) ((0:Nat):Int) ((1:Nat):Int) ((36*0:Nat):Int):=rfl;rw[n] at u y;by_cases A:(D6 72 (s.drop p) 0 1 0).2.2=0
  ·rw[Dz o a 128 0 72 true A];have H:=x A;have k:(T9 ((72:Nat):Int) (s.drop p) ((0:Nat):Int) ((1:Nat):Int) ((36*0:Nat):Int)).1=0:=by grind
   obtain⟨r,a1,a2,v,w⟩:=u k;obtain⟨L,O,_⟩:=Ur ((72:Nat):Int) (s.drop p) ((0:Nat):Int) ((1:Nat):Int) ((36*0:Nat):Int) (by omega) (by omega) (by omega) k;rw[H] at L O v w;simp only at L O v w;clear u y G x H k n;rw[v];generalize (D6 72 (s.drop p) 0 1 0).1=X at *;have Z:A1 (((B4 a).length:Int)+1)=((a.length+1:Nat):Int):=by rw[C9,A7];rfl
   have T:A1 ((X:Int)-0)=(X:Int):=by rw[A7];omega
   have Y:w6 (X:Int) ((a.length+1:Nat):Int)=((X / (a.length+1):Nat):Int):=M9 _ _;have em:s7 (X:Int) ((a.length+1:Nat):Int)=((X % (a.length+1):Nat):Int):=Hq _ _;have a5:X / (a.length+1)<=X:=x9 _ _;have J:=ae7 X (show 0<a.length+1 by omega);have z:=Nu X (a.length+1) true (by omega);generalize hQ:X / (a.length+1)=Q at *;generalize hM:X % (a.length+1)=M at *;have U:A1 (Q:Int)=(Q:Int):=A7;have V:A1 ((128:Int)+(Q:Int))=((128+Q:Nat):Int):=by rw[A7];rfl
   have W:A1 ((M:Int)+1)=((M+1:Nat):Int):=by rw[A7];rfl
   have D:(((a.length+1:Nat):Int)!=0)=true:=by rw[bne_iff_ne];omega
   have P:aa0 (M-0) (aa9 0 (B4 a))=B4 (a.take M):=by rw[af7,j8,NV]
   have S:aa0 ((B4 a).length-M) (aa9 M (B4 a))=B4 (a.drop M):=by
    rw[List.take_of_length_le (by rw[j7];omega),NU]
   have q:∀N:Nat,B4 (a.take M)++[[SV.int .i64 (N:Int)]]++B4 (a.drop M)=B4 (U9 a M N):=λN=>by
    unfold U9;rw[Ka,v7];rfl
   have start:∀(R:Type) (b:Int->LL->Option R) (c d:LL->LL->Option R) (g:LL->Option R),K4 LF LF s (p:Int) (B4 a) b c d g =
     cond (not (V0 (128+Q))) (b 2 (B4 a)) (cond (ltI 256 ((a.length+1:Nat):Int)) (c (B4 a) (B4 (U9 a M (128+Q))))
      (P2 LF f s (B4 (U9 a M (128+Q))) (r:Int) ((128+Q:Nat):Int) ((M+1:Nat):Int) ((Q3 X (a.length+1) true:Nat):Int) (B4 a) b c d)):=by
    intro R b c d g;have e:K4 LF LF s (p:Int) (B4 a) b c d g=K4 LF (f+1) s (p:Int) (B4 a) b c d g:=by rw[<-B]
    rw[e,K4];rw[A8,cond_true];refine(w R _ _).trans ?_;have s1:I7 (0:Int) (M:Int) (B4 a).length=true:=Af (by omega) (by omega) (by rw[C9];omega);have s2:I7 (M:Int) ((B4 a).length:Int) (B4 a).length=true:=Af (by omega) (by rw[C9];omega) (by omega);have t1:ltN (X:Int) 1152921504606846976=true:=N9;have t2:ltN ((a.length+1:Nat):Int) 1000000=true:=N9;have t3:ltI 0 ((a.length+1:Nat):Int)=true:=A8;have l1:(B4 (a.take M)).length=M:=by rw[C9,p4];omega
    have l2:(B4 (a.drop M)).length=a.length-M:=by rw[C9,j7]
    have r1:F6 (0+(B4 (a.take M)).length)=true:=F3 (by omega);have r2:F6 ((B4 (a.take M)).length+1)=true:=F3 (by omega);have r3:F6 ((B4 (a.take M)++[[SV.int .i64 ((128+Q:Nat):Int)]]).length+(B4 (a.drop M)).length)=true:=F3 (by rw[j2,s8];omega);have l3:(B4 (U9 a M (128+Q))).length=a.length+1:=by rw[C9,Be]
    simp only[vl,Z,T,Y,em,U,V,W,D,s1,s2,t1,t2,t3,b8,P,S,r1,r2,r3,q,l3,cond_true,Lw]
   cases j:V0 (128+Q) with
   | false=>
    rw[if_neg (by simp)];refine .inr ⟨rfl,.inl λR b c d g=>?_⟩;rw[start,j];rfl
   | true=>
    rw[if_pos rfl];by_cases I:256<a.length+1
    ·rw[if_pos I];refine .inr ⟨rfl,.inr ⟨rfl,B4 (U9 a M (128+Q)),λR b c d g=>?_⟩⟩;rw[start,j,A8];rfl
    ·rw[if_neg I];have C:128+Q<=1114111:=by
      unfold V0 at j;simp_all
     have l:∀(R:Type) (b:Int->LL->Option R) (c d:LL->LL->Option R) (g:LL->Option R),K4 LF LF s (p:Int) (B4 a) b c d g=P2 LF f s (B4 (U9 a M (128+Q))) (r:Int) ((128+Q:Nat):Int) ((M+1:Nat):Int) ((Q3 X (a.length+1) true:Nat):Int) (B4 a) b c d:=by
      intro R b c d g;rw[start,j,A6];rfl
     obtain⟨z1,z2⟩:=A50 s K (B4 a) (s.length-r) r f (U9 a M (128+Q)) (128+Q) (M+1) (Q3 X (a.length+1) true) (by omega) (by omega) (by rw[Be];omega) C (by omega) z;have hX:X-0=X:=af7 X;rw[hX];by_cases k:(G8 (s.drop r) (U9 a M (128+Q)) (128+Q) (M+1) (Q3 X (a.length+1) true) false).2=0
     ·refine .inl ⟨k,?_,λR b c d g=>by rw[l];exact z1 k R b c d⟩;exact Bn1 _ _ _ _ _ _ _ (ab6 _) (by rw[Be];omega) k
     ·obtain⟨y1,t⟩:=z2 k;refine .inr ⟨y1,?_⟩;rcases t with t|⟨t,F,y3⟩
      ·exact .inl λR b c d g=>by rw[l];exact t R b c d
      ·exact .inr ⟨t,F,λR b c d g=>by rw[l];exact y3 R b c d⟩
  ·rw[Gq o a 128 0 72 true A];clear u x;refine .inr ⟨rfl,.inl λR b c d g=>?_⟩;have e:K4 LF LF s (p:Int) (B4 a) b c d g=K4 LF (f+1) s (p:Int) (B4 a) b c d g:=by rw[<-B]
   rw[e,K4];rw[A8,cond_true];have i:=congrArg Prod.fst G;simp only at i;refine(y (by rw[i];omega) R _ _).trans ?_;rw[i]
theorem Cf2(s:By)(M:A2 s.length=true):∃r H,Bk0 LF s (λi f=>rv (.tup [.fl 0,.s (.int .i64 i)]) [.arr true 3 1 f]) (λi f=>rv (.tup [.fl 1,.s (.int .i64 i)]) [.arr true 3 1 f,.arr true 3 1 []]) (λx f=>rv (.tup [.fl 2,.s (.int .i64 (3:Int))]) [.arr true 3 1 x,.arr false 3 1 f,.arr true 3 1 []]) (λi f=>rv (.tup [.s (.sl false false 1 i),.s (.int .i64 (0:Int))]) [.arr true 3 1 f])=rv r H/\
  r.stab [1,0] H = .tup [.s (.sl (N6 s).1.isEmpty (N6 s).1.isEmpty 1 (Lt (N6 s).1)),.s (.int .i64 ((N6 s).2:Nat))]:=by
 have G:=C6;unfold Bk0 N6;by_cases z:1024<s.length
 ·rw[if_pos z,A8];exact⟨_,_,rfl,rfl⟩
 ·rw[if_neg z,A6,cond_false];have e:=λ(R:Type) (C:Unit->Option R) (D:By->Int->Option R)=>A53 (k0:=C) (k1:=D) s (by omega) s.length 0 LF 0 (by omega) (by omega)
  rw[j8] at e;cases y:s.any (λb=>v8 128 b.toNat) with
  | true=>
   rw[if_pos rfl];refine⟨.tup [.fl 0,.s (.int .i64 4)],[.arr true 3 1 []],(e _ _ _).trans ?_,rfl⟩;rw[y,if_pos rfl]
  | false=>
   rw[if_neg (by simp)];obtain⟨L,F⟩:=Oq s;have I:=Ot s;have q:(if (45:UInt8)∈s then 0+G4 s else 0)=G4 s:=by
    split
    ·omega
    ·rename_i h;exact(F h).2.symm
   rw[y,q] at e;have c:=λ(R:Type) (K:By->Int->LL->Option R)=>A48 (k0:=K) s (by omega) (G4 s) (by omega) (G4 s) 0 LF [] (by omega) (by omega) rfl
   rw[j8] at c;have g:((s.take (G4 s)).map (·.toNat)).length=G4 s:=by rw[p7,p4];omega
   generalize N:G4 s=m at *;generalize A:(s.take m).map (·.toNat)=d at *;by_cases k:256<m
   ·rw[if_pos k];refine⟨.tup [.fl 1,.s (.int .i64 3)],[.arr true 3 1 (B4 d),.arr true 3 1 []],(e _ _ _).trans ?_,rfl⟩;rw[if_neg (by simp)];refine(c _ _).trans ?_;rw[x6,C9,g,A8];rfl
   ·rw[if_neg k];have o:∀p:Nat,p<=s.length->∀(X:Option (PV × List Blk × Unit)),X=K4 LF LF s (p:Int) (B4 d) (λi f=>rv (.tup [.fl 1,.s (.int .i64 i)]) [.arr true 3 1 f,.arr true 3 1 []]) (λx f=>rv (.tup [.fl 2,.s (.int .i64 (3:Int))]) [.arr true 3 1 x,.arr false 3 1 f,.arr true 3 1 []]) (λi f=>rv (.tup [.s (.sl false false 1 i),.s (.int .i64 (0:Int))]) [.arr true 3 1 f]) (λl=>rv (.tup [.fl 0,.s (.int .i64 0)]) [.arr true 3 1 l])->
      ∃r H,X=rv r H/\r.stab [1,0] H = .tup [.s (.sl (G8 (s.drop p) d 128 0 72 true).1.isEmpty (G8 (s.drop p) d 128 0 72 true).1.isEmpty 1 (Lt (G8 (s.drop p) d 128 0 72 true).1)),.s (.int .i64 ((G8 (s.drop p) d 128 0 72 true).2:Nat))]:=by
     intro p J X t;rcases A49 s (by omega) p d (by omega) J with⟨j,n⟩|⟨j,u,n⟩|⟨j,n|⟨u,O,n⟩⟩
     ·refine⟨_,_,t.trans (n _ _ _ _ _),?_⟩;rw[j,Cv,Df];simp[PV.stab,Og,Qt,PV.snap,L8,Vx]
     ·refine⟨_,_,t.trans (n _ _ _ _ _),?_⟩;rw[j,Df];have:(G8 (s.drop p) d 128 0 72 true).1.isEmpty=false:=by
       cases h:(G8 (s.drop p) d 128 0 72 true).1 with
       | nil=>exact absurd h u
       | cons a r=>rfl
      rw[this];rfl
     ·refine⟨_,_,t.trans (n _ _ _ _ _),?_⟩;rw[j];rfl
     ·refine⟨_,_,t.trans (n _ _ _ _ _),?_⟩;rw[j,u];rfl
    by_cases B:m=0
    ·subst B;rw[if_pos rfl];have:=o 0 (by omega) _ rfl;rw[j8] at this;obtain⟨r,H,v,w⟩:=this;refine⟨r,H,(e _ _ _).trans ?_,w⟩;rw[if_neg (by simp)];refine(c _ _).trans ?_;rw[x6,C9,g,A6,cond_false,A6,cond_false];exact v
    ·rw[if_neg B];obtain⟨r,H,v,w⟩:=o (m+1) (by omega) _ rfl;refine⟨r,H,(e _ _ _).trans ?_,w⟩;rw[if_neg (by simp)];refine(c _ _).trans ?_;have j:A1 ((m:Int)+1)=((m+1:Nat):Int):=by rw[A7];rfl
     rw[x6,C9,g,A6,cond_false,A8,cond_true,j];exact v
theorem Z0{R:Type}{d:LL->Option R}{e:By->Int->Int->Int->Int->LL->Option R}(s:By)(u:s.length<=1000000000)(n i m v c a:Nat)(l:LL)(q:a<m)(r:m<=4)(p:i+a<s.length)(w:v<=100000)(t:0<n) :
  Fl LF n s i m v c a l d e=if 128<=(s.getD (i+a) 0).toNat/\(s.getD (i+a) 0).toNat<=191 then Fl LF (n-1) s i m ((v*64+(s.getD (i+a) 0).toNat-128:Nat):Int) c ((a+1:Nat):Int) l d e else d l:=by
 have o:=(s.getD (i+a) 0).toNat_lt;obtain⟨n,rfl⟩:∃m,n=m+1:=⟨n-1,by omega⟩
 rw[Fl];have f:A1 ((i:Int)+a)=((i+a:Nat):Int):=by rw[A7];rfl
 have g:A1 ((a:Int)+1)=((a+1:Nat):Int):=by rw[A7];rfl
 rw[A8,f,g,E9,D1];generalize (s.getD (i+a) 0).toNat=b at *;simp only[cond_true,vl];rw[C7 (n:=(b:Int)) (by omega) (by omega),Nat.add_sub_cancel];by_cases j:b<128
 ·rw[A8,F5];rfl
 ·rw[A6,cond_false];by_cases k:191<b
  ·rw[A8,F5];rfl
  ·rw[A6,cond_false,P9];have h:A1 (A1 (A1 ((v:Int)*64)+(b:Int))-128)=((v*64+b-128:Nat):Int):=by
    rw[C7 (n:=(v:Int)*64) (by omega) (by omega),C7 (n:=(v:Int)*64+b) (by omega) (by omega),A7];omega
   rw[h]
theorem Pa{R:Type}{c:LL->Option R}{b:By->Int->Int->Int->Int->LL->Option R}(s:By)(n i m v a:Nat)(l:LL)(d:0<n) :
  Fl LF n s i m v a m l c b=b s i m v a l:=by
 obtain⟨n,rfl⟩:∃m,n=m+1:=⟨n-1,by omega⟩
 rw[Fl];rw[A6];rfl
theorem Qo{R:Type}{b:LL->Option R}{c:By->Int->LL->Option R}(s:By)(k:s.length<=1000000000)(i m v a:Nat)(P:List Nat)(e:P.length<=1000000000)(f:i+m<=s.length)(l:v<=10000000)(g:m<=4) :
  cond (ltI (v:Int) (a:Int)) (b (B4 P)) (cond (not (ptI v)) (b (B4 P)) (cond (F6 ((B4 P).length+1)) (c s (A1 ((i:Int)+m)) (B4 P++[[SV.int .i64 (v:Int)]])) none)) =
   if a<=v/\V0 v=true then c s ((i+m:Nat):Int) (B4 (P++[v])) else b (B4 P):=by
 have d:A1 ((i:Int)+m)=((i+m:Nat):Int):=by rw[A7];rfl
 rw[d,C9,F3 (by omega),Ka,show ptI (v:Int)=V0 v from rfl];by_cases h:v<a
 ·rw[A8,F5];rfl
 ·rw[A6,cond_false];cases j:V0 v with
  | false=>rw[if_neg (by simp)];rfl
  | true=>rw[if_pos ⟨by omega,rfl⟩];rfl
theorem Bv8{R:Type}{d:LL->Option R}{f:By->Int->LL->Option R}(s:By)(e:s.length<=1000000000)(i v a:Nat)(P:List Nat)(k:P.length<=1000000000)(m:i<s.length)(n:v<=32) :
  Dv LF s i 2 v a (B4 P) d f=if 2<=s.length-i/\128<=(s.getD (i+1) 0).toNat/\(s.getD (i+1) 0).toNat<=191 then
   (if a<=v*64+(s.getD (i+1) 0).toNat-128/\V0 (v*64+(s.getD (i+1) 0).toNat-128)=true then f s ((i+2:Nat):Int) (B4 (P++[v*64+(s.getD (i+1) 0).toNat-128])) else d (B4 P)) else d (B4 P):=by
 have l:=(s.getD (i+1) 0).toNat_lt;have j:=C6;unfold Dv;have g:A1 ((s.length:Int)-i)=((s.length-i:Nat):Int):=by rw[A7];omega
 rw[g];simp only[vl];by_cases h:s.length-i<2
 ·rw[A8,F5];rfl
 ·rw[A6,cond_false];refine a8 (Z0 s e LF i 2 v a 1 (B4 P) (by omega) (by omega) (by omega) (by omega) (by omega)) ?_;generalize (s.getD (i+1) 0).toNat=b at *;by_cases c:128<=b/\b<=191
  ·rw[if_pos c,if_pos ⟨by omega,c⟩];refine a8 (Pa s (LF-1) i 2 _ a (B4 P) (by omega)) ?_;exact Qo s e i 2 _ a P k (by omega) (by omega) (by omega)
  ·rw[if_neg c,if_neg (λh=>c h.2)]
theorem Bv9{R:Type}{e:LL->Option R}{f:By->Int->LL->Option R}(s:By)(d:s.length<=1000000000)(i v a:Nat)(P:List Nat)(k:P.length<=1000000000)(n:i<s.length)(o:v<=32) :
  Dv LF s i 3 v a (B4 P) e f=if 3<=s.length-i/\(128<=(s.getD (i+1) 0).toNat/\(s.getD (i+1) 0).toNat<=191)/\(128<=(s.getD (i+2) 0).toNat/\(s.getD (i+2) 0).toNat<=191) then
   (if a<=(v*64+(s.getD (i+1) 0).toNat-128)*64+(s.getD (i+2) 0).toNat-128/\V0 ((v*64+(s.getD (i+1) 0).toNat-128)*64+(s.getD (i+2) 0).toNat-128)=true then f s ((i+3:Nat):Int) (B4 (P++[(v*64+(s.getD (i+1) 0).toNat-128)*64+(s.getD (i+2) 0).toNat-128])) else e (B4 P)) else e (B4 P):=by
 have m:=(s.getD (i+1) 0).toNat_lt;have l:=(s.getD (i+2) 0).toNat_lt;have j:=C6;unfold Dv;have g:A1 ((s.length:Int)-i)=((s.length-i:Nat):Int):=by rw[A7];omega
 rw[g];simp only[vl];by_cases h:s.length-i<3
 ·rw[A8,F5];rfl
 ·rw[A6,cond_false];refine a8 (Z0 s d LF i 3 v a 1 (B4 P) (by omega) (by omega) (by omega) (by omega) (by omega)) ?_;by_cases b:128<=(s.getD (i+1) 0).toNat/\(s.getD (i+1) 0).toNat<=191
  ·rw[if_pos b];refine a8 (Z0 s d (LF-1) i 3 _ a 2 (B4 P) (by omega) (by omega) (by omega) (by omega) (by omega)) ?_;by_cases c:128<=(s.getD (i+2) 0).toNat/\(s.getD (i+2) 0).toNat<=191
   ·rw[if_pos c,if_pos ⟨by omega,b,c⟩];refine a8 (Pa s (LF-2) i 3 _ a (B4 P) (by omega)) ?_;exact Qo s d i 3 _ a P k (by omega) (by omega) (by omega)
   ·rw[if_neg c,if_neg (λh=>c h.2.2)]
  ·rw[if_neg b,if_neg (λh=>b h.2.1)]
theorem Bw0{R:Type}{f:LL->Option R}{g:By->Int->LL->Option R}(s:By)(e:s.length<=1000000000)(i v a:Nat)(P:List Nat)(l:P.length<=1000000000)(p:i<s.length)(q:v<=20) :
  Dv LF s i 4 v a (B4 P) f g=if 4<=s.length-i/\(128<=(s.getD (i+1) 0).toNat/\(s.getD (i+1) 0).toNat<=191)/\(128<=(s.getD (i+2) 0).toNat/\(s.getD (i+2) 0).toNat<=191)/\(128<=(s.getD (i+3) 0).toNat/\(s.getD (i+3) 0).toNat<=191) then
   (if a<=((v*64+(s.getD (i+1) 0).toNat-128)*64+(s.getD (i+2) 0).toNat-128)*64+(s.getD (i+3) 0).toNat-128/\V0 (((v*64+(s.getD (i+1) 0).toNat-128)*64+(s.getD (i+2) 0).toNat-128)*64+(s.getD (i+3) 0).toNat-128)=true then g s ((i+4:Nat):Int) (B4 (P++[((v*64+(s.getD (i+1) 0).toNat-128)*64+(s.getD (i+2) 0).toNat-128)*64+(s.getD (i+3) 0).toNat-128])) else f (B4 P)) else f (B4 P):=by
 have o:=(s.getD (i+1) 0).toNat_lt;have m:=(s.getD (i+2) 0).toNat_lt;have n:=(s.getD (i+3) 0).toNat_lt;have k:=C6;unfold Dv;have j:A1 ((s.length:Int)-i)=((s.length-i:Nat):Int):=by rw[A7];omega
 rw[j];simp only[vl];by_cases h:s.length-i<4
 ·rw[A8,F5];rfl
 ·rw[A6,cond_false];refine a8 (Z0 s e LF i 4 v a 1 (B4 P) (by omega) (by omega) (by omega) (by omega) (by omega)) ?_;by_cases b:128<=(s.getD (i+1) 0).toNat/\(s.getD (i+1) 0).toNat<=191
  ·rw[if_pos b];refine a8 (Z0 s e (LF-1) i 4 _ a 2 (B4 P) (by omega) (by omega) (by omega) (by omega) (by omega)) ?_;by_cases c:128<=(s.getD (i+2) 0).toNat/\(s.getD (i+2) 0).toNat<=191
   ·rw[if_pos c];refine a8 (Z0 s e (LF-2) i 4 _ a 3 (B4 P) (by omega) (by omega) (by omega) (by omega) (by omega)) ?_;by_cases d:128<=(s.getD (i+3) 0).toNat/\(s.getD (i+3) 0).toNat<=191
    ·rw[if_pos d,if_pos ⟨by omega,b,c,d⟩];refine a8 (Pa s (LF-3) i 4 _ a (B4 P) (by omega)) ?_;exact Qo s e i 4 _ a P l (by omega) (by omega) (by omega)
    ·rw[if_neg d,if_neg (λh=>d h.2.2.2)]
   ·rw[if_neg c,if_neg (λh=>c h.2.2.1)]
  ·rw[if_neg b,if_neg (λh=>b h.2.1)]
theorem A65{R:Type}{a:By->Int->Int->LL->Option R}(n:Nat)(b:0<n)(s:By)(i v:Int)(l:LL):Wu LF n s i v l a=a s i v l:=by
 obtain⟨n,rfl⟩:∃m,n=m+1:=⟨n-1,by omega⟩
 rw[Wu]
theorem A59{R:Type}{a:LL->Option R}{b:By->Int->LL->Option R}(s:By)(e:s.length<=1000000000)(i v:Nat)(P:List Nat)(d:P.length<=1000000000)(f:i<s.length)(g:v<128) :
  Wt LF s i v (B4 P) a b=b s ((i+1:Nat):Int) (B4 (P++[v])):=by
 unfold Wt;have c:A1 ((s.length:Int)-i)=((s.length-i:Nat):Int):=by rw[A7];omega
 rw[c];simp only[vl];rw[A6,cond_false];refine a8 (show _=cond (ltI (v:Int) ((0:Nat):Int)) (a (B4 P)) (cond (not (ptI v)) (a (B4 P)) (cond (F6 ((B4 P).length+1)) (b s (A1 ((i:Int)+(1:Nat))) (B4 P++[[SV.int .i64 (v:Int)]])) none)) from A65 LF (by have:=C6;omega) _ _ _ _) ?_;rw[Qo s e i 1 v 0 P d (by omega) (by omega) (by omega),if_pos];refine⟨ae2 _,?_⟩;simp only[V0,w9,ae4,p5,ad2];omega
theorem B94{v:Nat}(h:v<2048):V0 v=true:=by simp only[V0,w9,ae4,p5,ad2];omega
theorem A68{R:Type}{k0 k1:LL->Option R}(s:By)(h:s.length<=1000000000)(n i:Nat)(P:List Nat)(d:P.length<=1000000000)(f:i<s.length) :
  Z1 LF (n+1) s i (B4 P) k0 k1=if (s9 (s.drop i)).1=65533/\(s9 (s.drop i)).2=1 then k0 (B4 P) else Z1 LF n s ((i+(s9 (s.drop i)).2:Nat):Int) (B4 (P++[(s9 (s.drop i)).1])) k0 k1:=by
 have g:∀k,(s.drop i).getD k 0=s.getD (i+k) 0:=λk=>by grind
 have r:s9 (s.drop i)=y5 (s.length-i) (s.getD i 0).toNat (s.getD (i+1) 0).toNat (s.getD (i+2) 0).toNat (s.getD (i+3) 0).toNat:=by
  rw[Lib.decodeL_N,g,g,g,g,j7];rfl
 have v:=(s.getD i 0).toNat_lt;have j:=(s.getD (i+1) 0).toNat_lt;have m:=(s.getD (i+2) 0).toNat_lt;have t:=(s.getD (i+3) 0).toNat_lt;rw[r];rw[Z1,A8,E9,D1,C7 (n:=((s.getD i 0).toNat:Int)) (by omega) (by omega)];simp only[cond_true];generalize (s.getD i 0).toNat=b at *;by_cases l:b<128
 ·rw[A8,cond_true];have e:y5 (s.length-i) b (s.getD (i+1) 0).toNat (s.getD (i+2) 0).toNat (s.getD (i+3) 0).toNat=(b,1):=by unfold y5;rw[if_pos l]
  rw[e];simp only;rw[F5];exact A59 s h i b P d f l
 ·rw[E2 (show(128:Int)<=b by omega),cond_false];by_cases u:b<194
  ·rw[B7 (show(b:Int)<194 by omega)];have e:y5 (s.length-i) b (s.getD (i+1) 0).toNat (s.getD (i+2) 0).toNat (s.getD (i+3) 0).toNat=(65533,1):=by
    unfold y5;grind
   rw[e,if_pos ⟨rfl,rfl⟩];simp only[j1,cond_false];unfold Mc;unfold Mb;rw[cond_false,B7 (show(b:Int)<224 by omega),B7 (show(b:Int)<240 by omega)];rfl
  ·rw[E2 (show(194:Int)<=b by omega)];simp only[j0,cond_true];by_cases o:b<224
   ·rw[B7 (show(b:Int)<224 by omega)];unfold Mc;have c:A1 ((b:Int)-192)=((b-192:Nat):Int):=by rw[A7];omega
    rw[cond_true,c,Dl8 _ _ _ _ _ ⟨by omega,o⟩ j];simp only[vl];refine a8 (Bv8 s h i (b-192) 128 P d f (by omega)) ?_;by_cases a:2<=s.length-i/\128<=(s.getD (i+1) 0).toNat/\(s.getD (i+1) 0).toNat<=191
    ·rw[if_pos a,if_pos a];simp only;rw[if_pos ⟨by omega,B94 (by omega)⟩,F5]
    ·rw[if_neg a,if_neg a,if_pos ⟨rfl,rfl⟩]
   ·rw[E2 (show(224:Int)<=b by omega)];unfold Mc;rw[cond_false,E2 (show(224:Int)<=b by omega)];simp only[j0,cond_true];by_cases p:b<240
    ·rw[B7 (show(b:Int)<240 by omega)];unfold Mb;have c:A1 ((b:Int)-224)=((b-224:Nat):Int):=by rw[A7];omega
     rw[cond_true,c,Dl9 _ _ _ _ _ ⟨by omega,p⟩ j m];simp only[vl];refine a8 (Bv9 s h i (b-224) 2048 P d f (by omega)) ?_;by_cases a:3<=s.length-i/\(128<=(s.getD (i+1) 0).toNat/\(s.getD (i+1) 0).toNat<=191)/\(128<=(s.getD (i+2) 0).toNat/\(s.getD (i+2) 0).toNat<=191)
     ·rw[if_pos a,if_pos a];split
      ·simp only;rw[F5]
      ·rw[if_pos ⟨rfl,rfl⟩]
     ·rw[if_neg a,if_neg a,if_pos ⟨rfl,rfl⟩]
    ·rw[E2 (show(240:Int)<=b by omega)];unfold Mb;rw[cond_false,E2 (show(240:Int)<=b by omega)];simp only[j0,cond_true];by_cases q:b<245
     ·rw[B7 (show(b:Int)<245 by omega),cond_true];have c:A1 ((b:Int)-240)=((b-240:Nat):Int):=by rw[A7];omega
      rw[c,Dm0 _ _ _ _ _ ⟨by omega,q⟩ j m t];simp only[vl];refine a8 (Bw0 s h i (b-240) 65536 P d f (by omega)) ?_;by_cases a:4<=s.length-i/\(128<=(s.getD (i+1) 0).toNat/\(s.getD (i+1) 0).toNat<=191)/\(128<=(s.getD (i+2) 0).toNat/\(s.getD (i+2) 0).toNat<=191)/\(128<=(s.getD (i+3) 0).toNat/\(s.getD (i+3) 0).toNat<=191)
      ·rw[if_pos a,if_pos a];split
       ·simp only;rw[F5]
       ·rw[if_pos ⟨rfl,rfl⟩]
      ·rw[if_neg a,if_neg a,if_pos ⟨rfl,rfl⟩]
     ·rw[E2 (show(245:Int)<=b by omega),cond_false];have e:y5 (s.length-i) b (s.getD (i+1) 0).toNat (s.getD (i+2) 0).toNat (s.getD (i+3) 0).toNat=(65533,1):=by
       unfold y5;grind
      rw[e,if_pos ⟨rfl,rfl⟩]
theorem Bw1(s:By)(k:s.length<=1000000000):∀(r i n:Nat) (P:List Nat),i+r=s.length->r<n->P.length<=i->
  (Ck (s.drop i)=none->∃l,∀(R:Type) (k0 k1:LL->Option R),Z1 LF n s i (B4 P) k0 k1=k0 l)/\
  (∀q,Ck (s.drop i)=some q->∀(R:Type) (k0 k1:LL->Option R),Z1 LF n s i (B4 P) k0 k1=k1 (B4 (P++q))):=by
 intro r
 induction r using ac3 with
 | _ r o=>
  intro i n P v w u;obtain⟨n,rfl⟩:∃m,n=m+1:=⟨n-1,by omega⟩
  by_cases j:i<s.length
  ·have d:s.drop i≠[]:=by rw[ne_eq,<-y7,j7];omega
   have c:=λ(R:Type) (k0 k1:LL->Option R)=>A68 (k0:=k0) (k1:=k1) s k n i P (by omega) j
   have x:=Lib.decodeL_width (s.drop i);have g:=Lib.decodeL_le (s.drop i) d;rw[j7] at g;rw[Bt4 _ d];by_cases a:(s9 (s.drop i)).1=65533/\(s9 (s.drop i)).2=1
   ·rw[if_pos a];refine⟨λ_=>⟨B4 P,λR k0 k1=>?_⟩,λq b=>by cases b⟩;refine(c R k0 k1).trans ?_;rw[if_pos a]
   ·rw[if_neg a,ab2];obtain⟨w1,t⟩:=o (r-(s9 (s.drop i)).2) (by omega) (i+(s9 (s.drop i)).2) n (P++[(s9 (s.drop i)).1]) (by omega) (by omega) (by rw[j2,s8];omega);constructor
    ·intro h;cases b:Ck (s.drop (i+(s9 (s.drop i)).2)) with
     | some q=>rw[b] at h;cases h
     | none=>
      obtain⟨l,e⟩:=w1 b;refine⟨l,λR k0 k1=>?_⟩;refine(c R k0 k1).trans ?_;rw[if_neg a];exact e R k0 k1
    ·intro q h R k0 k1;cases b:Ck (s.drop (i+(s9 (s.drop i)).2)) with
     | none=>rw[b] at h;cases h
     | some p=>
      rw[b] at h;simp only[ac4,p9] at h;subst h;refine(c R k0 k1).trans ?_;rw[if_neg a];refine(t p b R k0 k1).trans ?_;rw[v7];rfl
  ·have f:s.drop i=[]:=by rw[<-y7,j7];omega
   have e:∀(R:Type) (k0 k1:LL->Option R),Z1 LF (n+1) s i (B4 P) k0 k1=k1 (B4 P):=λR k0 k1=>by
    rw[Z1];rw[A6];rfl
   rw[f,show Ck []=some [] from rfl];refine⟨λh=>(by cases h),λq b R k0 k1=>?_⟩;simp only[p9] at b;subst b;rw[aa6];exact e R k0 k1
theorem Cz6(s:By)(d:A2 s.length=true):∃r H,Cz3 LF s (λa=>rv (.tup [.fl 1,.s (.bool false)]) [.arr true 3 1 a,.arr true 3 1 []]) (λa=>rv (.tup [.fl 0,.s (.bool true)]) [.arr true 3 1 a])=rv r H/\
  r.stab [1,0] H = .tup [.s (.sl (Qu s).isEmpty (Qu s).isEmpty 1 (Lt (Qu s))),.s (.bool (Ck s).isSome)]:=by
 have f:=M3 d;obtain⟨w1,c⟩:=Bw1 s f s.length 0 LF [] (by omega) (by have:=C6;omega) (ae2 _);rw[j8] at w1 c;unfold Qu;cases b:Ck s with
 | none=>
  obtain⟨l,e⟩:=w1 b;exact⟨_,_,e _ _ _,rfl⟩
 | some q=>
  refine⟨_,_,c q b _ _ _,?_⟩;cases q<;>rfl
theorem A56{R:Type}{a:Unit->Option R}{d:By->Bool->LL->Bool->Option R}(s:By)(z:Bool)(p:List Nat)(t:p.length<=1000000000):∀(r i n:Nat) (b:Bool),i+r=p.length->r<n->
  X8 LF n s z (B4 p) b (i:Int) a d=if (p.drop i).any (λp=>v8 65 p&&v8 p 90) then a () else d s z (B4 p) (b||((p.drop i).any λp=>v8 128 p)):=by
 intro r
 induction r with
 | zero=>
  intro i n b h j;obtain⟨n,rfl⟩:∃m,n=m+1:=⟨n-1,by omega⟩
  rw[X8];rw[C9,A6,c9 (by omega)];simp
 | succ r k=>
  intro i n b h j;obtain⟨n,rfl⟩:∃m,n=m+1:=⟨n-1,by omega⟩
  rw[X8];have f:A1 ((i:Int)+1)=((i+1:Nat):Int):=by rw[A7];rfl
  have g:p.drop i=p.getD i 0::p.drop (i+1):=by
   rw[j5,p6 (by omega),aa2,ac1]
  rw[C9,A8,E9,b8,Qe (by omega),Zq _ _ (by omega),g,ab7,ab7,f];simp only[cond_true];generalize p.getD i 0=q;have go:∀c:Bool,X8 LF n s z (B4 p) c ((i+1:Nat):Int) a d=_:=λc=>k (i+1) n c (by omega) (by omega)
  simp only[go];by_cases l:q<65
  ·rw[show ltI (q:Int) (65:Int)=true from A8,show v8 65 q=false by rw[k9,ne_eq,p5];omega];have e:v8 128 q=false:=by rw[k9,ne_eq,p5];omega
   rw[show ltI (q:Int) (128:Int)=true from A8,e];cases b<;>simp
  ·rw[show ltI (q:Int) (65:Int)=false from A6,show v8 65 q=true by rw[p5];omega];by_cases e:90<q
   ·rw[show ltI (90:Int) (q:Int)=true from A8,show v8 q 90=false by rw[k9,ne_eq,p5];omega];by_cases o:q<128
    ·rw[show ltI (q:Int) (128:Int)=true from A8,show v8 128 q=false by rw[k9,ne_eq,p5];omega];cases b<;>simp
    ·rw[show ltI (q:Int) (128:Int)=false from A6,show v8 128 q=true by rw[p5];omega];cases b<;>simp
   ·rw[show ltI (90:Int) (q:Int)=false from A6,show v8 q 90=true by rw[p5];omega];cases b<;>simp
theorem A57{R:Type}{a:Bool->Option R}(s:By)(b:A2 s.length=true):Bk2 LF s a=a (Dt s):=by
 have c:=C6;unfold Bk2 Dt;rw[b,cond_true];simp only[vl];by_cases h:(N6 s).2=0
 ·have e:(((N6 s).2:Int)!=(0:Int))=false:=by rw[h];rfl
  rw[e,cond_false,Df,h];have g:=YO s;refine a8 (A56 s _ (N6 s).1 (by omega) (N6 s).1.length 0 LF false (by omega) (by omega)) ?_;rw[j8];cases d:(N6 s).1.any (λp=>v8 65 p&&v8 p 90) with
  | true=>simp
  | false=>
   rw[if_neg (by simp),Dq,Uv,Ux];simp only[cond_true,vl,ad0,j0];by_cases f:(Cx (N6 s).1).2=0;all_goals grind
 grind
theorem A37{R:Type}{g:Unit->Option R}{j:By->Option R}(s:By)(v:s.length<=1000000000):∀(r i n:Nat),i+r=s.length->r<n->
  O2 LF n s (i:Int) g j=if (s.drop i).all K6 then j s else g ():=by
 intro r
 induction r with
 | zero=>
  intro i n l c;obtain⟨n,rfl⟩:∃m,n=m+1:=⟨n-1,by omega⟩
  rw[O2];rw[A6,c9 (by omega)];rfl
 | succ r o=>
  intro i n l c;obtain⟨n,rfl⟩:∃m,n=m+1:=⟨n-1,by omega⟩
  rw[O2];have k:A1 ((i:Int)+1)=((i+1:Nat):Int):=by rw[A7];rfl
  rw[A8,E9,D1,D2 s i (by omega),k,aa3];simp only[cond_true];rw[o (i+1) n (by omega) (by omega)];generalize s.getD i 0=b;have f:=Bg b;have t:((b.toNat:Int)==45)=(b==45):=Q7 b 45 (by omega);have u:((b.toNat:Int)==95)=(b==95):=Q7 b 95 (by omega);rw[t,u];cases a:K6 b with
  | true=>
   rw[f] at a;simp only[x7];by_cases d:b=45
   ·subst d;simp (disch:=decide) [ltI]
   ·by_cases e:b=95
    ·subst e;simp (disch:=decide) [ltI]
    ·rcases a with a|a|a|a
     ·rw[show ltI (b.toNat:Int) 97=false from A6,show ltI (122:Int) b.toNat=false from A6];rfl
     ·rw[show ltI (b.toNat:Int) 97=true from A8,show ltI (b.toNat:Int) 48=false from A6,show ltI (57:Int) b.toNat=false from A6];rfl
     ·exact absurd a d
     ·exact absurd a e
  | false=>
   have c:¬((97<=b.toNat/\b.toNat<=122)\/(48<=b.toNat/\b.toNat<=57)\/b=45\/b=95):=λh=>by rw[f.2 h] at a;cases a
   have p:(b==45)=false:=by simpa using λh=>c (.inr (.inr (.inl h)))
   have q:(b==95)=false:=by simpa using λh=>c (.inr (.inr (.inr h)))
   rw[p,q];simp only[j0,cond_true,cond_false,Bool.false_and,ab0,if_false];by_cases d:b.toNat<48
   ·rw[show ltI (b.toNat:Int) 97=true from A8,show ltI (b.toNat:Int) 48=true from A8];rfl
   ·by_cases e:b.toNat<97
    ·rw[show ltI (b.toNat:Int) 97=true from A8,show ltI (b.toNat:Int) 48=false from A6,show ltI (57:Int) b.toNat=true from A8];rfl
    ·rw[show ltI (b.toNat:Int) 97=false from A6,show ltI (122:Int) b.toNat=true from A8,show ltI (b.toNat:Int) 48=false from A6,show ltI (57:Int) b.toNat=true from A8];rfl
theorem Ci0(s:By)(h:4<=s.length):(s.take 4==([120,110,45,45]:List UInt8))=xnB.isPrefixOf s:=by
 match s,h with
 | a::b::c::d::t,_=>
  simp only[List.take_succ_cons,List.take_zero,xnB,List.isPrefixOf,ac9];rw[show((a::b::c::d::[])==([120,110,45,45]:List UInt8))=(a==120&&(b==110&&(c==45&&(d==45&&true)))) from rfl,ac9];rw[aa5];simp only[w9,beq_iff_eq];exact⟨λh=>⟨h.1.symm,h.2.1.symm,h.2.2.1.symm,h.2.2.2.symm⟩,λh=>⟨h.1.symm,h.2.1.symm,h.2.2.1.symm,h.2.2.2.symm⟩⟩
theorem A38{R:Type}{c:Bool->Option R}(s:By)(e:A2 s.length=true):Bj8 LF s c=c (J5 s):=by
 have k:=M3 e;have i:=C6;unfold Bj8 J5;by_cases a:s=[]
 ·grind
 ·have r:0<s.length:=x8.2 a;have j:s.isEmpty=false:=by simpa using a
  have b:(s==([]:List UInt8))=false:=by simpa using a
  rw[b,cond_false,j];by_cases n:63<s.length
  ·rw[A8,show v8 s.length 63=false by rw[k9,ne_eq,p5];omega];rfl
  ·rw[A6,cond_false,show v8 s.length 63=true by rw[p5];omega,E9];have m:(bAt s 0==(45:Int))=(s.getD 0 0==45):=by rw[Ah];exact Q7 _ 45 (by omega)
   have d:A1 ((s.length:Int)-1)=((s.length-1:Nat):Int):=by rw[A7];omega
   rw[m,d];simp only[cond_true,vl];rw[E9,D1,show((((s.getD (s.length-1) 0).toNat:Nat):Int)==45)=(s.getD (s.length-1) 0==45) from Q7 _ 45 (by omega)];cases f:(s.getD 0 0==45) with
   | true=>
    grind
   | false=>
    rw[show(s.getD 0 0 !=45)=true by unfold bne;rw[f];rfl];simp only[cond_true,cond_false];cases g:(s.getD (s.length-1) 0==45) with
    | true=>
     grind
    | false=>
     rw[show(s.getD (s.length-1) 0 !=45)=true by unfold bne;rw[g];rfl];simp only[cond_false];refine a8 (A37 s k s.length 0 LF (by omega) (by omega)) ?_;rw[j8];cases o:s.all K6 with
     | false=>simp
     | true=>
      rw[if_pos rfl];simp only[j0,x7,ac9];by_cases p:s.length<4
      ·rw[A8];have:xnB.isPrefixOf s=false:=by
        rw[k9,ne_eq,ab3];intro h;have:=h.length_le;simp only[xnB,j6,x5] at this;omega
       grind
      ·rw[A6,cond_false,I2,cond_true,K2];have l:(aa0 (b9 4) s==([120,110,45,45]:List UInt8))=xnB.isPrefixOf s:=Ci0 s (by omega);rw[l];cases q:xnB.isPrefixOf s with
       | false=>rfl
       | true=>
        rw[I2,Q8];simp only[j1,cond_false,cond_true];rw[E0 (by rw[j7];omega)];rfl
theorem A35{R:Type}{h:By->Int->Option R}(s:By)(c:A2 s.length=true):Bj7 LF s h=h (H5 s).1 ((H5 s).2:Nat):=by
 have m:=M3 c;have j:=C6;unfold Bj7 H5;rw[c,cond_true];cases f:Ck s with
 | none=>rfl
 | some p=>
  have hN:(Qu s)=p:=by unfold Qu;rw[f];rfl
  rw[hN,Df,C9];simp only[ad3,j1,cond_false,cond_true];by_cases d:256<p.length
  ·rw[if_pos d,A8];rfl
  ·rw[if_neg d,A6,cond_false,E0 (by rw[Y7];exact m)];by_cases e:p.length<s.length
   ·rw[if_pos e,A8];have a:=Ac0 (l:=s) (by rw[f];rfl);cases g:Ck (B3 s) with
    | none=>rw[g] at a;cases a
    | some q=>
     have b:Qu (B3 s)=q:=by unfold Qu;rw[g];rfl
     have k:=YX q;rw[b,Df,Dq,Uv,Ux];simp only[cond_true,vl];rw[J7 (by omega),cond_true,E0 (by rw[j2];simp only[j6,x5];omega),cond_true];by_cases i:(Cx q).2=0
     ·rw[i,if_pos rfl];show cond (not (J5 (xnB++(Cx q).1))) _ _=_;cases n:J5 (xnB++(Cx q).1) with
      | true=>rfl
      | false=>rfl
     grind
   ·rw[if_neg e,A6];grind
section
variable {Z R : Type} (L : Nat) (Q : G0) (Y : Yh Z) (s : Z) (k : Out -> St Z -> Option R)
noncomputable abbrev GN:Code:=C8 ad7
noncomputable def Qy(L:Nat):Cfg:=B6 L [115] (A3 []) [] (A3 [(7,[2]),(2,[2]),(4,[2]),(6,[2]),(5,[0,23]),(3,[0,12]),(1,[0,2]),(0,[0])]) [] (A3 [(0,[])]) (some [2]) [] [] []
noncomputable def JN{R:Type}(a:Int)(h:Bool)(f:Int->Option R)(g:Int->Bool->Option R):Option R:=cond h (vl (A1 (wu8 (a-97))) λb=>vl (A1 (b+10)) λc=>f c) (cond (not (ltI a 65)) (cond (not (ltI 70 a)) (vl (A1 (wu8 (a-65))) λd=>vl (A1 (d+10)) λe=>f e) (g a (not (ltI 70 a)))) (g a false))
abbrev Ad2(b:Code):Prop:=∀(k:Out->St Z->Option R) a c,A9 (Qy L) Q Y b ⟨gp [(0,p8 a),(12,pB c)] 21,[],s⟩ k=JN a c (λn0=>k .ret ⟨gp [(2,pI n0)] 32,[],s⟩) (λa c=>k .normal ⟨gp [(0,p8 a),(23,pB c)] 10,[],s⟩)
theorem Bu7:Ad2 (R:=R) L Q Y s (cd [1,0,0,1,1,1] GN):=by intro k a b;unfold JN;kernel_rfl
noncomputable def JO{R:Type}(b:Int)(l:Bool)(f:Int->Option R)(j:Int->Bool->Option R):Option R:=cond l (vl (A1 (wu8 (b-48))) λg=>f g) (cond (not (ltI b 97)) (JN b (not (ltI 102 b)) (λh=>f h) (λc d=>j c d)) (JN b false (λi=>f i) (λe a=>j e a)))
abbrev JP(b:Code):Prop:=∀(k:Out->St Z->Option R) a c,A9 (Qy L) Q Y b ⟨gp [(0,p8 a),(2,pB c)] 31,[],s⟩ k=JO a c (λn0=>k .ret ⟨gp [(2,pI n0)] 32,[],s⟩) (λa c=>k .normal ⟨gp [(0,p8 a),(23,pB c)] 10,[],s⟩)
theorem Bu8(a:Code)(b:Ad2 (R:=R) L Q Y s a):JP (R:=R) L Q Y s (cd [1,0,0,1] (G3 [1,0,0,1,1,1] a GN)):=by intro k c d;unfold JO;simp only[<-b k];kernel_rfl
theorem Bu9:JP (R:=R) L Q Y s (cd [1,0,0,1] GN):=by intro k a b;exact a8 (by kernel_rfl) (Bu8 L Q Y s (cd [1,0,0,1,1,1] GN) (Bu7 L Q Y s) k a b)
noncomputable def rhx{R:Type}(L:Nat)(c:Int)(d:Int->Option R):Option R:=cond (not (ltI c 48)) (JO c (not (ltI 57 c)) (λa=>d a) (λe f=>d (-1))) (JO c false (λb=>d b) (λg h=>d (-1)))
theorem Dc3(b:Code)(a:JP (R:=PV × List Blk × Z) L Q Y s b)(c:Int):A9 (Qy L) Q Y (cd [] (G3 [1,0,0,1] b GN)) ⟨[p8 c]++tps 34,[],s⟩ (F7 (Qy L) ad7)=rhx L c (λe=>some (pI e,[],s)):=by unfold rhx;exact let d:=(E6 0 (E5 (Qy L) Q Y (cd [1,1] GN) (F7 (Qy L) ad7)));(a8 (by kernel_rfl) (A0 ((a d c (not (ltI 57 c))).trans (by kernel_rfl)) ((a d c false).trans (by kernel_rfl))))
theorem Dc4(d:Nat)(b0):evC (Qy L) (d+1) Z Y 115 [p8 b0] [] s=rhx L b0 (λa=>some (pI a,[],s)):=
 (evE (fn:=ad7) (by kernel_rfl)).trans (a8 (by kernel_rfl) (Dc3 L (evC (Qy L) d) Y s (cd [1,0,0,1] GN) (Bu9 L (evC (Qy L) d) Y s) b0))
noncomputable abbrev Bf6:Code:=C8 ag0
noncomputable def Lc(L:Nat):Cfg:=B6 L [85] (A3 [(3,[0,1,0,0,0])]) [(115,C62)] (A3 [(11,[2,0]),(4,[0,3,0]),(10,[0,3,0]),(9,[0,3,0]),(8,[2,0]),(7,[0,3,0,36]),(6,[0,3,0]),(5,[0,3,0,9]),(3,[0,3,0,3]),(2,[0,3,0]),(1,[0,3]),(0,[0])]) [115] (A3 [(0,[4]),(1,[0,3,0])]) (some [2,0]) [] [] []
noncomputable def P0{R:Type}(L n:Nat)(b:By)(a:Int)(c:LL)(d:LL->Option R)(j:LL->Option R):Option R:=match n with|0=>none|n+1=>cond (ltI a (b.length:Int)) (cond (inR a b.length) (cond ((bAt b a)!=37) (cond (inR a b.length) (cond (F6 (c.length+1)) (P0 L n b (A1 (a+1)) (c++[[(SV.int .u8 (bAt b a))]]) d j) none) none) (vl (A1 ((b.length:Int)-a)) λl=>cond (ltI l 3) (d c) (cond (inR (A1 (a+1)) b.length) (vl (bAt b (A1 (a+1))) λf=>cond (inR f 256) (cond (ltI (Ex (u8n f)) (0:Int)) (d c) (cond (inR (A1 (a+2)) b.length) (vl (bAt b (A1 (a+2))) λg=>cond (inR g 256) (cond (ltI (Ex (u8n g)) (0:Int)) (d c) (cond (inR (A1 (a+1)) b.length) (vl (bAt b (A1 (a+1))) λh=>cond (inR h 256) (vl (A1 ((16:Int)*(Ex (u8n h)))) λm=>cond (inR (A1 (a+2)) b.length) (vl (bAt b (A1 (a+2))) λi=>cond (inR i 256) (vl (A1 (m+(Ex (u8n i)))) λo=>cond (F6 (c.length+1)) (vl (A1 ((A1 (a+2))+1)) λe=>P0 L n b e (c++[[(SV.int .u8 (wu8 o))]]) d j) none) none) none) none) none)) none) none)) none) none))) none) (j c)
theorem Ad1(n s0 i1 l2):D0 1 ((Lc L).keep 3) (bd (Lc L) Q Y (cd [1,1,0,1,0,0] Bf6)) n ⟨gp [(0,pS s0),(3,.fl 0),(0,pI i1)] 57,[.arr true 5 1 l2],s⟩ k =
 P0 L n s0 i1 l2 (λa=>k .ret ⟨gp [(2,pS ([]:List UInt8)),(0,pB false)] 59,[.arr true 5 1 a],s⟩) (λa=>k (.exit 0) ⟨gp [(4,.fl 0)] 58,[.arr true 5 1 a],s⟩):=by
 induction n generalizing s0 i1 l2 with
 | zero=>rfl
 | succ n b=>rw[P0];simp only[<-b];kernel_rfl
noncomputable def Bj6{R:Type}(L:Nat)(d:By)(c:By->Bool->LL->Option R):Option R:=P0 L L d 0 [] (λb=>c ([]:List UInt8) false b) (λa=>cond (ad6 a Nj) (c (ac0 Lh a) true a) none)
theorem Ce4(d:Nat)(s0):evC (Lc L) (d+1) Z Y 85 [pS s0] [] s=Bj6 L s0 (λb c a=>some (.tup [pS b,pB c],[.arr true 5 1 a],s)):=by refine(evE (fn:=ag0) (by kernel_rfl)).trans ?_;generalize evC (Lc L) d=Q;unfold Bj6;exact(a8 (by kernel_rfl) ((Ad1 L Q Y s (E6 0 (E5 (Lc L) Q Y (cd [1,1,1] Bf6) (F7 (Lc L) ag0))) L s0 0 []).trans (by kernel_rfl)))
noncomputable def Wq{R:Type}(L n:Nat)(b:LL)(a:Int)(c:Unit->Option R)(d:Unit->Option R):Option R:=match n with|0=>none|n+1=>cond (ltI a (b.length:Int)) (cond (inR a b.length) (cond (okE Qx b (b9 a) 0) (cond (A2 (j4 (gX b (b9 a) 0))) (cond (not (J5 (gX b (b9 a) 0))) (c ()) (Wq L n b (A1 (a+1)) c d)) none) none) none) (d ())
noncomputable def Dk2{R:Type}(L:Nat)(a:By)(b:Bool->Option R):Option R:=cond (a==[]) (b false) (cond (ltI 253 (a.length:Int)) (b false) (cond (A2 a.length) (cond (E4 a) (b false) (cond (A2 a.length) (vl (D5 (pcs (u8n (46:Int)) a)) λc=>Wq L L c 0 (λ_=>b false) (λ_=>b true)) none)) none))
end
section
variable {Z R : Type} (L : Nat) (Q : G0) (Y : Yh Z) (s : Z) (k : Out -> St Z -> Option R)
noncomputable abbrev R5:Code:=C8 af1
noncomputable def J9(L:Nat):Cfg:=B6 L [63] (A3 [(23,[2,0,6,0,0])]) [(84,B37),(85,Bd6),(86,FN),(87,Be0),(88,Nr),(89,Bd7)] (A3 [(35,[2,0]),(34,[2,0]),(33,[2,7,108]),(32,[2,0]),(31,[2,7,105]),(24,[2,7,0,0]),(30,[2,7,0,0]),(29,[2,7,0,0,0]),(28,[2,7,0,0,0,94]),(27,[2,0]),(26,[2,7,0,0,0,0,89]),(25,[2,7,0,0,0,0]),(23,[2,7,0,0,79]),(22,[2,7,0,0]),(21,[2,7,0]),(20,[2,3,3]),(19,[2,0]),(18,[2,0]),(17,[2,5,74]),(16,[2,5,0]),(15,[2,3,69]),(14,[2,3]),(13,[2,3,62]),(12,[2,0]),(11,[2,3,51]),(10,[2,3,0]),(9,[2,0]),(8,[2,0]),(7,[2,1,43]),(6,[2,1,0]),(5,[2,0]),(4,[0,1,33]),(3,[0,1,22]),(2,[2,0]),(1,[0,1,14]),(0,[0,1])]) [85,86,87,89] (A3 [(0,[2,7]),(1,[2,7,0,0])]) (some [2,0]) [] [] []
noncomputable def Gz{R:Type}(b:By)(e:Bool)(f:Unit->Option R)(g:Int->Int->Int->Int->Int->Int->Int->Int->Int->Int->LL->Option R)(h:By->Bool->Option R):Option R:=cond e (vl (A1 ((b.length:Int)-1)) λd=>cond (inR d b.length) (cond ((bAt b d)!=93) (f ()) (cond (ltI (b.length:Int) (2:Int)) (f ()) (vl (A1 ((b.length:Int)-1)) λc=>cond (I7 1 c b.length) (vl (cut b 1 c) λa=>cond (A2 a.length) (cond (not (aa4 (v6B a))) (g 14 0 0 0 0 0 0 0 0 0 [[(SV.int .u16 (↑(v6c 0 a):Int))],[(SV.int .u16 (↑(v6c 1 a):Int))],[(SV.int .u16 (↑(v6c 2 a):Int))],[(SV.int .u16 (↑(v6c 3 a):Int))],[(SV.int .u16 (↑(v6c 4 a):Int))],[(SV.int .u16 (↑(v6c 5 a):Int))],[(SV.int .u16 (↑(v6c 6 a):Int))],[(SV.int .u16 (↑(v6c 7 a):Int))]]) (g 0 3 (↑(v6c 0 a):Int) (↑(v6c 1 a):Int) (↑(v6c 2 a):Int) (↑(v6c 3 a):Int) (↑(v6c 4 a):Int) (↑(v6c 5 a):Int) (↑(v6c 6 a):Int) (↑(v6c 7 a):Int) [[(SV.int .u16 (↑(v6c 0 a):Int))],[(SV.int .u16 (↑(v6c 1 a):Int))],[(SV.int .u16 (↑(v6c 2 a):Int))],[(SV.int .u16 (↑(v6c 3 a):Int))],[(SV.int .u16 (↑(v6c 4 a):Int))],[(SV.int .u16 (↑(v6c 5 a):Int))],[(SV.int .u16 (↑(v6c 6 a):Int))],[(SV.int .u16 (↑(v6c 7 a):Int))]])) none) none))) none) (h b e)
abbrev Wn(b:Code):Prop:=∀(k:Out->St Z->Option R) a c,A9 (J9 L) Q Y b ⟨gp [(0,pS a),(1,.ptr 0 0 0),(22,pB c)] 97,[.box [pI (0:Int),pS ([]:List UInt8),p32 (0:Int),p16 (0:Int),p16 (0:Int),p16 (0:Int),p16 (0:Int),p16 (0:Int),p16 (0:Int),p16 (0:Int),p16 (0:Int)]],s⟩ k=Gz a c (λ_=>k .ret ⟨gp [(2,.ptr 0 0 0),(0,pI (14:Int))] 119,[.box [pI (0:Int),pS ([]:List UInt8),p32 (0:Int),p16 (0:Int),p16 (0:Int),p16 (0:Int),p16 (0:Int),p16 (0:Int),p16 (0:Int),p16 (0:Int),p16 (0:Int)]],s⟩) (λn0 d e f g h i j n8 l l10=>k .ret ⟨gp [(2,.ptr 0 0 0),(0,pI n0)] 119,[.box [pI d,pS ([]:List UInt8),p32 (0:Int),p16 e,p16 f,p16 g,p16 h,p16 i,p16 j,p16 n8,p16 l],.arr false 25 1 l10],s⟩) (λa c=>k .normal ⟨gp [(0,pS a),(1,.ptr 0 0 0),(22,pB c)] 97,[.box [pI (0:Int),pS ([]:List UInt8),p32 (0:Int),p16 (0:Int),p16 (0:Int),p16 (0:Int),p16 (0:Int),p16 (0:Int),p16 (0:Int),p16 (0:Int),p16 (0:Int)]],s⟩)
theorem LH:Wn (R:=R) L Q Y s (cd [1,1,0,1] R5):=by intro k a b;unfold Gz;kernel_rfl
noncomputable def J1{R:Type}(L n:Nat)(a:By)(e:LL)(c:Int)(g:Int->Option R)(h:By->Option R):Option R:=match n with|0=>none|n+1=>cond (ltI c (e.length:Int)) (cond (inR c e.length) (cond (okE Qx e (b9 c) 0) (cond (A2 (j4 (gX e (b9 c) 0))) (vl ((H5 (gX e (b9 c) 0))).1 λb=>vl (↑((H5 (gX e (b9 c) 0))).2:Int) λd=>cond (d !=0) (g d) (cond (ltI 0 c) (cond (J6 a.length 1) (vl (a++[46]) λf=>cond (J6 f.length b.length) (J1 L n (f++b) e (A1 (c+1)) g h) none) none) (cond (J6 a.length b.length) (J1 L n (a++b) e (A1 (c+1)) g h) none))) none) none) none) (h a)
theorem Re(n a p1 i2):D0 1 ((J9 L).keep 23) (bd (J9 L) Q Y (cd [1,1,1,1,1,1,1,1,1,0,1,0,0] R5)) n ⟨gp [(2,.ptr 0 0 0),(7,pS a),(0,.s (.sl false false 1 p1)),(0,pI i2)] 110,[.box [pI (0:Int),pS ([]:List UInt8),p32 (0:Int),p16 (0:Int),p16 (0:Int),p16 (0:Int),p16 (0:Int),p16 (0:Int),p16 (0:Int),p16 (0:Int),p16 (0:Int)]],s⟩ k =
 J1 L n a p1 i2 (λn0=>k .ret ⟨gp [(2,.ptr 0 0 0),(0,pI n0)] 119,[.box [pI (0:Int),pS ([]:List UInt8),p32 (0:Int),p16 (0:Int),p16 (0:Int),p16 (0:Int),p16 (0:Int),p16 (0:Int),p16 (0:Int),p16 (0:Int),p16 (0:Int)]],s⟩) (λa=>k (.exit 0) ⟨gp [(2,.ptr 0 0 0),(7,pS a)] 112,[.box [pI (0:Int),pS ([]:List UInt8),p32 (0:Int),p16 (0:Int),p16 (0:Int),p16 (0:Int),p16 (0:Int),p16 (0:Int),p16 (0:Int),p16 (0:Int),p16 (0:Int)]],s⟩):=by
 induction n generalizing a p1 i2 with
 | zero=>rfl
 | succ n b=>rw[J1];simp only[<-b];kernel_rfl
noncomputable def Dh{R:Type}(L:Nat)(b:By)(c:Int->Int->By->Int->Option R):Option R:=cond (A2 b.length) (cond (E4 b) (cond (A2 b.length) (cond (not (aa4 (pnB b))) (c 14 0 ([]:List UInt8) 0) (c 0 2 ([]:List UInt8) (↑(N1 (pnB b)):Int))) none) (cond (A2 b.length) (vl (D5 (pcs (u8n (46:Int)) b)) λd=>J1 L L ([]:List UInt8) d 0 (λe=>c e 0 ([]:List UInt8) 0) (λa=>cond (ltI 253 (a.length:Int)) (c 3 0 ([]:List UInt8) 0) (cond (A2 a.length) (cond (E4 a) (c 14 0 ([]:List UInt8) 0) (c 0 1 a 0)) none))) none)) none
abbrev Wo(b:Code):Prop:=∀(k:Out->St Z->Option R) s0,A9 (J9 L) Q Y b ⟨gp [(2,.ptr 0 0 0),(3,pS s0)] 116,[.box [pI (0:Int),pS ([]:List UInt8),p32 (0:Int),p16 (0:Int),p16 (0:Int),p16 (0:Int),p16 (0:Int),p16 (0:Int),p16 (0:Int),p16 (0:Int),p16 (0:Int)]],s⟩ k=Dh L s0 (λn0 a d c=>k .ret ⟨gp [(2,.ptr 0 0 0),(0,pI n0)] 119,[.box [pI a,pS d,p32 c,p16 (0:Int),p16 (0:Int),p16 (0:Int),p16 (0:Int),p16 (0:Int),p16 (0:Int),p16 (0:Int),p16 (0:Int)]],s⟩)
theorem LI:Wo (R:=R) L Q Y s (cd [1,1,1,1,1,1] R5):=by intro k b;unfold Dh;exact(a8 (by kernel_rfl) (A0 (A0 (A0 (A0 rfl rfl) rfl) (A0 (A4 λa=>((Re L Q Y s (E6 0 (E5 (J9 L) Q Y (cd [1,1,1,1,1,1,1,1,1,1] R5) k)) L ([]:List UInt8) a 0).trans (by kernel_rfl))) rfl)) rfl))
noncomputable def Lz{R:Type}(L:Nat)(b:By)(c:Int->Int->By->Int->Option R):Option R:=cond (A2 b.length) (cond (E4 b) (cond (A2 b.length) (cond (not (aa4 (pnB b))) (c 14 0 ([]:List UInt8) 0) (c 0 2 ([]:List UInt8) (↑(N1 (pnB b)):Int))) none) (cond (A2 b.length) (vl (D5 (pcs (u8n (46:Int)) b)) λd=>J1 L L ([]:List UInt8) d 0 (λe=>c e 0 ([]:List UInt8) 0) (λa=>cond (ltI 253 (a.length:Int)) (c 3 0 ([]:List UInt8) 0) (cond (A2 a.length) (cond (E4 a) (c 14 0 ([]:List UInt8) 0) (c 0 1 a 0)) none))) none)) none
abbrev Wp(b:Code):Prop:=∀(k:Out->St Z->Option R) s0 b1,A9 (J9 L) Q Y b ⟨gp [(2,.ptr 0 0 0),(3,pS s0),(62,pB b1)] 53,[.box [pI (0:Int),pS ([]:List UInt8),p32 (0:Int),p16 (0:Int),p16 (0:Int),p16 (0:Int),p16 (0:Int),p16 (0:Int),p16 (0:Int),p16 (0:Int),p16 (0:Int)]],s⟩ k=Lz L s0 (λn0 a d c=>k .ret ⟨gp [(2,.ptr 0 0 0),(0,pI n0)] 119,[.box [pI a,pS d,p32 c,p16 (0:Int),p16 (0:Int),p16 (0:Int),p16 (0:Int),p16 (0:Int),p16 (0:Int),p16 (0:Int),p16 (0:Int)]],s⟩)
theorem LK:Wp (R:=R) L Q Y s (cd [1,1,1,1,1,1] R5):=by intro k c b;unfold Lz;exact(a8 (by kernel_rfl) (A0 (A0 (A0 (A0 rfl rfl) rfl) (A0 (A4 λa=>((Re L Q Y s (E6 0 (E5 (J9 L) Q Y (cd [1,1,1,1,1,1,1,1,1,1] R5) k)) L ([]:List UInt8) a 0).trans (by kernel_rfl))) rfl)) rfl))
noncomputable def Di{R:Type}(L:Nat)(a:By)(r:Int->Int->By->Int->Option R):Option R:=cond (A2 a.length) (cond (not (aa4 (Q5 a))) (r 14 0 ([]:List UInt8) 0) (cond (not ((Fe a)==[])) (vl (A1 ((↑(j4 (Fe a)):Int)-1)) λb=>cond (inR b (j4 (Fe a))) (cond ((bAt (Fe a) b)==46) (vl (A1 ((↑(j4 (Fe a)):Int)-1)) λc=>cond (I7 0 c (j4 (Fe a))) (vl (cut (Fe a) (0:Int) c) λn=>Dh L n (λd e o f=>r d e o f)) none) (Lz L (Fe a) (λg h p i=>r g h p i))) none) (Lz L (Fe a) (λj l q m=>r j l q m)))) none
abbrev Ma(b:Code):Prop:=∀(k:Out->St Z->Option R) raw0 b1,A9 (J9 L) Q Y b ⟨gp [(0,pS raw0),(1,.ptr 0 0 0),(22,pB b1)] 97,[.box [pI (0:Int),pS ([]:List UInt8),p32 (0:Int),p16 (0:Int),p16 (0:Int),p16 (0:Int),p16 (0:Int),p16 (0:Int),p16 (0:Int),p16 (0:Int),p16 (0:Int)]],s⟩ k=Di L raw0 (λn0 a d c=>k .ret ⟨gp [(2,.ptr 0 0 0),(0,pI n0)] 119,[.box [pI a,pS d,p32 c,p16 (0:Int),p16 (0:Int),p16 (0:Int),p16 (0:Int),p16 (0:Int),p16 (0:Int),p16 (0:Int),p16 (0:Int)]],s⟩)
theorem LM(b:Code)(c:Wo (R:=R) L Q Y s b)(a:Wp (R:=R) L Q Y s b):Ma (R:=R) L Q Y s (cd [1,1,1] (G3 [1,1,1,1,1,1] b R5)):=by intro k d h;unfold Di;exact(a8 (by kernel_rfl) (A0 (A0 rfl (A0 (A4 λe=>(A0 (A0 (A4 λg=>(A0 (A4 λf=>((c k f).trans (by kernel_rfl))) rfl)) ((a k (Fe d) ((bAt (Fe d) e)==46)).trans (by kernel_rfl))) rfl)) ((a k (Fe d) false).trans (by kernel_rfl)))) rfl))
theorem LN:Ma (R:=R) L Q Y s (cd [1,1,1] R5):=by intro k a b;exact a8 (by kernel_rfl) (LM L Q Y s (cd [1,1,1,1,1,1] R5) (LI L Q Y s) (LK L Q Y s) k a b)
noncomputable def Wm{R:Type}(L:Nat)(a:By)(j:Int->By->Int->Int->Int->By->Int->Option R)(O:Int->Int->Int->Int->Int->Int->Int->Int->Int->Int->LL->Option R):Option R:=cond (ltI 1024 (a.length:Int)) (j 0 ([]:List UInt8) 0 3 0 ([]:List UInt8) 0) (cond (not (a==[])) (cond (inR 0 a.length) (Gz a ((bAt a (0:Int))==91) (λ_=>j 0 ([]:List UInt8) 0 14 0 ([]:List UInt8) 0) (λn o p q r t u v w x l=>O o p q r t u v w x n l) (λb M=>Di L b (λy d h e=>j d h e y d h e))) none) (Gz a false (λ_=>j 0 ([]:List UInt8) 0 14 0 ([]:List UInt8) 0) (λz A B C D F G H I J m=>O A B C D F G H I J z m) (λc N=>Di L c (λK f i g=>j f i g K f i g))))
theorem A32(e:Code)(a:Wn (R:=PV × List Blk × Z) L Q Y s e)(d:Code)(b:Ma (R:=PV × List Blk × Z) L Q Y s d)(c:By):A9 (J9 L) Q Y (cd [] (G3 [1,1,1] d (G3 [1,1,0,1] e R5))) ⟨[pS c]++tps 122,[],s⟩ (F7 (J9 L) af1)=Wm L c (λj l m n v y w=>some (.tup [.agg [pI j,pS l,p32 m,p16 (0:Int),p16 (0:Int),p16 (0:Int),p16 (0:Int),p16 (0:Int),p16 (0:Int),p16 (0:Int),p16 (0:Int)],pI n],[.box [pI v,pS y,p32 w,p16 (0:Int),p16 (0:Int),p16 (0:Int),p16 (0:Int),p16 (0:Int),p16 (0:Int),p16 (0:Int),p16 (0:Int)]],s)) (λj l m n q r t u r8 x l10=>some (.tup [.agg [pI j,pS ([]:List UInt8),p32 (0:Int),p16 l,p16 m,p16 n,p16 q,p16 r,p16 t,p16 u,p16 r8],pI x],[.box [pI j,pS ([]:List UInt8),p32 (0:Int),p16 l,p16 m,p16 n,p16 q,p16 r,p16 t,p16 u,p16 r8],.arr false 25 1 l10],s)):=by unfold Wm;exact let o:=(F7 (J9 L) af1);let p:=(E5 (J9 L) Q Y d o);(a8 (by kernel_rfl) (A0 rfl (A0 (A0 ((a p c ((bAt c (0:Int))==91)).trans (congr (congr (congr rfl (by kernel_rfl)) (by kernel_rfl)) (fx2 λf h=>(a8 (by kernel_rfl) ((b o f h).trans (by kernel_rfl)))))) rfl) ((a p c false).trans (congr (congr (congr rfl (by kernel_rfl)) (by kernel_rfl)) (fx2 λg i=>(a8 (by kernel_rfl) ((b o g i).trans (by kernel_rfl)))))))))
theorem A33(d:Nat)(raw0):evC (J9 L) (d+1) Z Y 63 [pS raw0] [] s=Wm L raw0 (λa b c e j n l=>some (.tup [.agg [pI a,pS b,p32 c,p16 (0:Int),p16 (0:Int),p16 (0:Int),p16 (0:Int),p16 (0:Int),p16 (0:Int),p16 (0:Int),p16 (0:Int)],pI e],[.box [pI j,pS n,p32 l,p16 (0:Int),p16 (0:Int),p16 (0:Int),p16 (0:Int),p16 (0:Int),p16 (0:Int),p16 (0:Int),p16 (0:Int)]],s)) (λa b c e f g h i r8 m l10=>some (.tup [.agg [pI a,pS ([]:List UInt8),p32 (0:Int),p16 b,p16 c,p16 e,p16 f,p16 g,p16 h,p16 i,p16 r8],pI m],[.box [pI a,pS ([]:List UInt8),p32 (0:Int),p16 b,p16 c,p16 e,p16 f,p16 g,p16 h,p16 i,p16 r8],.arr false 25 1 l10],s)):=
 (evE (fn:=af1) (by kernel_rfl)).trans (a8 (by kernel_rfl) (A32 L (evC (J9 L) d) Y s (cd [1,1,0,1] R5) (LH L (evC (J9 L) d) Y s) (cd [1,1,1] R5) (LN L (evC (J9 L) d) Y s) raw0))
end
theorem Ce6{R:Type}{g:Int->Option R}(b:Int)(h:inR b 256=true):rhx LF b g=g (Ex (u8n b)):=by
 simp only[inR,w9,decide_eq_true_eq] at h;have j:b=((u8n b).toNat:Int):=by
  unfold u8n;simp;omega
 generalize u8n b=c at *;subst j;have i:=c.toNat_lt;unfold rhx;simp only[JO,JN,vl,Ex];rcases Cw c with⟨d,f,e⟩|⟨d,f,e⟩|⟨d,f,e⟩|⟨d,f,o,e⟩
 ·have a:A1 (wu8 ((c.toNat:Int)-48))=((dig c:Nat):Int):=by
   rw[L9,A7];omega
  rw[P9];simp (disch:=omega) only[B7,E2,j1,j0,cond_false,cond_true,a]
 ·have a:A1 (A1 (wu8 ((c.toNat:Int)-97))+10)=((dig c:Nat):Int):=by
   rw[L9,C7 (n:=(c.toNat:Int)-97) (by omega) (by omega),A7];omega
  rw[P9];simp (disch:=omega) only[B7,E2,j1,j0,cond_false,cond_true,a]
 ·have a:A1 (A1 (wu8 ((c.toNat:Int)-65))+10)=((dig c:Nat):Int):=by
   rw[L9,C7 (n:=(c.toNat:Int)-65) (by omega) (by omega),A7];omega
  rw[P9];simp (disch:=omega) only[B7,E2,j1,j0,cond_false,cond_true,a]
 ·rw[e,if_neg (by decide)];by_cases k:c.toNat<48
  ·simp (disch:=omega) only[B7,E2,j1,j0,cond_false,cond_true]
  ·by_cases l:c.toNat<65
   ·simp (disch:=omega) only[B7,E2,j1,j0,cond_false,cond_true]
   ·by_cases m:c.toNat<97
    ·simp (disch:=omega) only[B7,E2,j1,j0,cond_false,cond_true]
    ·simp (disch:=omega) only[B7,E2,j1,j0,cond_false,cond_true]
theorem A31(s:By)(Q:s.length<=1000000000):∀(m i n:Nat) (a:By),i<=s.length->s.length-i<=m->m<n->a.length<=i->
  (∀t,Q5 (s.drop i)=some t->∀(R:Type) (c:LL->Option R) (d:LL->Option R),P0 LF n s (i:Int) (a.map D8) c d=d ((a++t).map D8))/\
  (Q5 (s.drop i)=none->∃l,∀(R:Type) (c:LL->Option R) (d:LL->Option R),P0 LF n s (i:Int) (a.map D8) c d=c l):=by
 intro m
 induction m with
 | zero=>
  intro i n a K L M J;obtain⟨n,rfl⟩:∃m,n=m+1:=⟨n-1,by omega⟩
  rw[c9 (by omega)];refine⟨λt f R c d=>?_,λh=>(by cases h)⟩;simp only[Q5,p9] at f;subst f;rw[P0];rw[A6,aa6];rfl
 | succ m G=>
  intro i n a K L M J;obtain⟨n,rfl⟩:∃m,n=m+1:=⟨n-1,by omega⟩
  by_cases z:i<s.length
  ·have D:A1 ((i:Int)+1)=((i+1:Nat):Int):=by rw[A7];rfl
   have H:A1 ((i:Int)+2)=((i+2:Nat):Int):=by rw[A7];rfl
   have I:A1 (((i+2:Nat):Int)+1)=((i+3:Nat):Int):=by rw[A7];omega
   have F:A1 ((s.length:Int)-i)=((s.length-i:Nat):Int):=by rw[A7];omega
   have p:(a.map D8).length=a.length:=p7 _;have v:∀b:UInt8,a.map D8++[[SV.int .u8 (b.toNat:Int)]]=(a++[b]).map D8:=λb=>by rw[aa7];rfl
   have C:(((s.getD i 0).toNat:Int)!=37) = !(s.getD i 0==37):=congrArg _ (Q7 _ 37 (by omega));rw[D2 s i z];by_cases g:s.getD i 0=37
   ·by_cases P:i+2<s.length
    ·rw[D2 s (i+1) (by omega),D2 s (i+1+1) (by omega),g,JE];obtain⟨A,B⟩:=G (i+3) n (a++[y8 (16*dig (s.getD (i+1) 0)+dig (s.getD (i+2) 0))]) (by omega) (by omega) (by omega) (by simp;omega);have top:∀(R:Type) (c:LL->Option R) (d:LL->Option R),P0 LF (n+1) s (i:Int) (a.map D8) c d=cond (decide (dig (s.getD (i+1) 0)<16)&&decide (dig (s.getD (i+2) 0)<16)) (P0 LF n s ((i+3:Nat):Int) ((a++[y8 (16*dig (s.getD (i+1) 0)+dig (s.getD (i+2) 0))]).map D8) c d) (c (a.map D8)):=by
      intro R c d;rw[P0];rw[A8,E9,D1,C,g,p,H,F,D,E9,E9,D1,D1];simp only[vl];rw[E2 (show(3:Int)<=((s.length-i:Nat):Int) by omega)];simp only[cond_true,j1,cond_false,beq_self_eq_true,WQ,It,YS,F3 (show a.length+1<=68719476736 by omega),I];generalize s.getD (i+1) 0=x at *;generalize s.getD (i+2) 0=y at *;by_cases N:dig x<16
      ·by_cases O:dig y<16
       ·have w1:Ex x=(dig x:Int):=by unfold Ex;rw[if_pos N]
        have T:Ex y=(dig y:Int):=by unfold Ex;rw[if_pos O]
        have U:A1 ((16:Int)*(dig x:Int))=((16*dig x:Nat):Int):=by rw[A7];omega
        have V:A1 (((16*dig x:Nat):Int)+(dig y:Int))=((16*dig x+dig y:Nat):Int):=by rw[A7];omega
        have W:wu8 ((16*dig x+dig y:Nat):Int)=((y8 (16*dig x+dig y)).toNat:Int):=by
         rw[L9];simp;omega
        grind
       grind
      grind
     by_cases o:dig (s.getD (i+1) 0)<16/\dig (s.getD (i+2) 0)<16
     ·rw[if_pos o];have w:(decide (dig (s.getD (i+1) 0)<16)&&decide (dig (s.getD (i+2) 0)<16))=true:=by rw[decide_eq_true o.1,decide_eq_true o.2];rfl
      refine⟨λt f R c d=>?_,λh=>?_⟩
      ·cases j:Q5 (s.drop (i+3)) with
       | none=>rw[j] at f;cases f
       | some q=>
        rw[j] at f;simp only[ac4,p9] at f;subst f;rw[top,w,cond_true,A q j,v7];rfl
      ·cases j:Q5 (s.drop (i+3)) with
       | some q=>rw[j] at h;cases h
       | none=>
        obtain⟨l,e⟩:=B j;exact⟨l,λR c d=>by rw[top,w,cond_true,e]⟩
     ·rw[if_neg o];have w:(decide (dig (s.getD (i+1) 0)<16)&&decide (dig (s.getD (i+2) 0)<16))=false:=by grind
      exact⟨λt h=>(by cases h),λ_=>⟨_,λR c d=>by rw[top,w,cond_false]⟩⟩
    ·have k:Q5 (s.getD i 0::s.drop (i+1))=none:=by
      rw[g];cases o:s.drop (i+1) with
      | nil=>rfl
      | cons x r=>
       cases r with
       | nil=>rfl
       | cons y S=>
        exfalso;have:=congrArg j4 o;rw[j7,j6,j6] at this;omega
     rw[k];refine⟨λt h=>(by cases h),λ_=>⟨a.map D8,λR c d=>?_⟩⟩;rw[P0];rw[A8,E9,D1,C,g,F];simp only[vl];rw[B7 (show((s.length-i:Nat):Int)<3 by omega)];rfl
   ·rw[UY _ g];obtain⟨A,B⟩:=G (i+1) n (a++[s.getD i 0]) (by omega) (by omega) (by omega) (by simp;omega);have u:(s.getD i 0==37)=false:=by simpa using g
    have top:∀(R:Type) (c:LL->Option R) (d:LL->Option R),P0 LF (n+1) s (i:Int) (a.map D8) c d=P0 LF n s ((i+1:Nat):Int) ((a++[s.getD i 0]).map D8) c d:=by
     intro R c d;rw[P0];rw[A8,E9,D1,C,u,p,F3 (by omega),D,v];rfl
    refine⟨λt f R c d=>?_,λh=>?_⟩
    ·cases j:Q5 (s.drop (i+1)) with
     | none=>rw[j] at f;cases f
     | some q=>
      rw[j] at f;simp only[ac4,p9] at f;subst f;rw[top,A q j,v7];rfl
    ·cases j:Q5 (s.drop (i+1)) with
     | some q=>rw[j] at h;cases h
     | none=>
      obtain⟨l,e⟩:=B j;exact⟨l,λR c d=>by rw[top,e]⟩
  ·rw[c9 (by omega)];refine⟨λt f R c d=>?_,λh=>(by cases h)⟩;simp only[Q5,p9] at f;subst f;rw[P0];rw[A6,aa6];rfl
theorem Ce5(s:By)(d:A2 s.length=true):∃r H,Bj6 LF s (λi j h=>rv (.tup [.s (.str i),.s (.bool j)]) [.arr true 5 1 h])=rv r H/\
  r.stab [0,0] H = .tup [.s (.str (Fe s)),.s (.bool (Q5 s).isSome)]:=by
 have g:=M3 d;have f:=C6;obtain⟨b,c⟩:=A31 s g s.length 0 LF [] (by omega) (by omega) (by omega) (by simp);rw[j8] at b c;unfold Fe;cases a:Q5 s with
 | none=>
  obtain⟨l,e⟩:=c a;exact⟨.tup [.s (.str []),.s (.bool false)],[.arr true 5 1 l],e _ _ _,rfl⟩
 | some t=>
  refine⟨.tup [.s (.str t),.s (.bool true)],[.arr true 5 1 (t.map D8)],?_,rfl⟩;unfold Bj6;refine a8 (b t a _ _ _) ?_;rw[x6,W8,X6];rfl
theorem Bu6{R:Type}{a b:Unit->Option R}(l:List By)(k:l.length<=1000000001)(h:∀x∈l,x.length<=1000000000):∀(r i n:Nat),i+r=l.length->r<n->
  Wq LF n (D5 l) (i:Int) a b=if (l.drop i).all J5 then b () else a ():=by
 intro r
 induction r with
 | zero=>
  intro i n e f;obtain⟨n,rfl⟩:∃m,n=m+1:=⟨n-1,by omega⟩
  rw[Wq];rw[G6,A6,c9 (by omega)];rfl
 | succ r j=>
  intro i n e f;obtain⟨n,rfl⟩:∃m,n=m+1:=⟨n-1,by omega⟩
  rw[Wq];have c:A1 ((i:Int)+1)=((i+1:Nat):Int):=by rw[A7];rfl
  have d:l.drop i=l.getD i []::l.drop (i+1):=by
   rw[j5,p6 (by omega),aa2,ac1]
  have g:(l.getD i []).length<=1000000000:=h _ (by
   rw[j5,p6 (by omega),aa2];exact z7 _)
  rw[G6,A8,E9,b8,T7 (by omega),Y5,E0 g,d,aa3,c];simp only[cond_true];rw[j (i+1) n (by omega) (by omega)];cases J5 (l.getD i []) with
  | true=>rw[x7];rfl
  | false=>rfl
theorem Dh6{R:Type}{c:Bool->Option R}(s:By)(b:A2 s.length=true):Dk2 LF s c=c (Cg s):=by
 have k:=M3 b;have d:=C6;unfold Dk2;by_cases a:s=[]
 ·subst a;rfl
 ·have f:(s==([]:By))=false:=by simpa using a
  rw[f,cond_false];unfold Cg;by_cases i:253<s.length
  ·rw[A8,show v8 s.length 253=false by rw[k9,ne_eq,p5];omega];rfl
  ·rw[A6,cond_false,b,cond_true,show v8 s.length 253=true by rw[p5];omega];cases j:E4 s with
   | true=>rfl
   | false=>
    rw[cond_false,cond_true];have g:=Ih 46 s;have e:=Gn 46 s;refine a8 (Bu6 (pcs 46 s) (by omega) (λx h=>by have:=(Ca h).2;omega) (pcs 46 s).length 0 LF (by omega) (by omega)) ?_;grind
def jn:Nat->By->List By->By
 | _,name,[]=>name
 | 0,name,x::r=>jn 1 (name++x) r
 | i+1,name,x::r=>jn (i+2) (name++[46]++x) r
theorem Bh4:∀(l:List By) (i:Nat) (name:By),jn (i+1) name l=name++ad5 [46] l
 | [],i,name=>by simp[jn,ad5]
 | x::r,i,name=>by
  rw[jn,Bh4 r];simp[ad5]
theorem Ct6(l:List By):jn 0 [] l=ac5 l [46]:=by
 cases l with
 | nil=>rfl
 | cons x r=>rw[jn,Bh4,Lib.join_cons,x6]
theorem Ci3{x:By}(h:(H5 x).2=0):(H5 x).1.length<=63:=by
 have a:F1 [x]=([(H5 x).1],0):=by simp[F1,h]
 have:=(Jp [x] (by rw[a])).1 (H5 x).1 (by rw[a];simp);exact(Bn this).le
theorem VK(e:List By)(C:e.length<=1000000)(D:∀x∈e,x.length<=1000000000):∀(c:List By) (i n:Nat) (name:By),e.drop i=c->i+c.length=e.length->c.length<n->name.length<=64*i->
  ((F1 c).2=0->∀(R:Type) (a:Int->Option R) (b:By->Option R),J1 LF n name (D5 e) (i:Int) a b=b (jn i name (F1 c).1))/\
  ((F1 c).2≠0->∀(R:Type) (a:Int->Option R) (b:By->Option R),J1 LF n name (D5 e) (i:Int) a b=a ((F1 c).2:Nat)):=by
 intro c
 induction c with
 | nil=>
  intro i n name p q y t;obtain⟨n,rfl⟩:∃m,n=m+1:=⟨n-1,by omega⟩
  simp only[x5] at q;refine⟨λ_ R a b=>?_,λh=>absurd rfl h⟩;rw[J1];rw[G6,A6];simp only[F1,jn];rfl
 | cons x r z=>
  intro i n name p q y t;simp only[j6] at q y;obtain⟨n,rfl⟩:∃m,n=m+1:=⟨n-1,by omega⟩
  have A:A1 ((i:Int)+1)=((i+1:Nat):Int):=by rw[A7];rfl
  have k:e.getD i []=x:=by
   have:=congrArg (λl=>l.getD 0 []) p;simpa[j5,List.getElem?_drop] using this
  have g:e.drop (i+1)=r:=by
   rw[<-ab2,p];rfl
  have u:x.length<=1000000000:=D x (by
   rw[<-k,j5,p6 (by omega),aa2];exact z7 _)
  have top:∀(R:Type) (a:Int->Option R) (b:By->Option R),J1 LF (n+1) name (D5 e) (i:Int) a b=cond (((H5 x).2:Int)!=0) (a ((H5 x).2:Nat)) (cond (ltI 0 (i:Int)) (cond (J6 name.length 1) (cond (J6 (name++[46]).length (H5 x).1.length) (J1 LF n (name++[46]++(H5 x).1) (D5 e) ((i+1:Nat):Int) a b) none) none) (cond (J6 name.length (H5 x).1.length) (J1 LF n (name++(H5 x).1) (D5 e) ((i+1:Nat):Int) a b) none)):=by
   intro R a b;rw[J1];rw[G6,A8,E9,b8,T7 (by omega),Y5,k,E0 u,A];rfl
  unfold F1;by_cases h:(H5 x).2=0
  ·rw[if_pos h];have B:=Ci3 h;have o:(((H5 x).2:Int)!=0)=false:=by rw[h];rfl
   cases i with
   | zero=>
    obtain⟨v,w⟩:=z 1 n (name++(H5 x).1) g (by omega) (by omega) (by rw[j2];omega);have d:∀(R:Type) (a:Int->Option R) (b:By->Option R),J1 LF (n+1) name (D5 e) ((0:Nat):Int) a b=J1 LF n (name++(H5 x).1) (D5 e) ((1:Nat):Int) a b:=by
     intro R a b;rw[top,o,A6,J7 (m:=name.length) (n:=(H5 x).1.length) (by omega)];rfl
    exact⟨λf R a b=>(d R a b).trans (v f R a b),λf R a b=>(d R a b).trans (w f R a b)⟩
   | succ j=>
    obtain⟨v,w⟩:=z (j+2) n (name++[46]++(H5 x).1) g (by omega) (by omega) (by rw[j2,j2,s8];omega);have d:∀(R:Type) (a:Int->Option R) (b:By->Option R),J1 LF (n+1) name (D5 e) ((j+1:Nat):Int) a b=J1 LF n (name++[46]++(H5 x).1) (D5 e) ((j+2:Nat):Int) a b:=by
     intro R a b;rw[top,o,A8,J7 (by omega),J7 (by rw[j2,s8];omega)];rfl
    exact⟨λf R a b=>(d R a b).trans (v f R a b),λf R a b=>(d R a b).trans (w f R a b)⟩
  ·rw[if_neg h];have o:(((H5 x).2:Int)!=0)=true:=by simpa using h
   exact⟨λf=>absurd f h,λ_ R a b=>by rw[top,o,cond_true]⟩
theorem LJ{R:Type}{b:Int->Int->By->Int->Option R}(u:By)(q:u.length<=1024):Dh LF u b =
  if E4 u then (match pnB u with
   | some v=>b 0 2 [] (v:Nat)
   | none=>b 14 0 [] 0)
  else if (F1 (pcs 46 u)).2=0 then (
   if 253<(ac5 (F1 (pcs 46 u)).1 [46]).length then b 3 0 [] 0 else if E4 (ac5 (F1 (pcs 46 u)).1 [46]) then b 14 0 [] 0 else b 0 1 (ac5 (F1 (pcs 46 u)).1 [46]) 0)
  else b ((F1 (pcs 46 u)).2:Nat) 0 [] 0:=by
 have h:=C6;unfold Dh;rw[M5,cond_true];cases o:E4 u with
 | true=>
  rw[if_pos rfl,cond_true,cond_true];cases p:pnB u with
  | none=>rfl
  | some v=>rfl
 | false=>
  rw[if_neg (by simp),cond_false,cond_true];have l:=Ih 46 u;have i:=Gn 46 u;obtain⟨f,m⟩:=VK (pcs 46 u) (by omega) (λx d=>by have:=(Ca d).2;omega) (pcs 46 u) 0 LF [] (j8) (by omega) (by omega) (by simp);rw[Ct6] at f;by_cases c:(F1 (pcs 46 u)).2=0
  ·rw[if_pos c];refine a8 (f c _ _ _) ?_;obtain⟨g,n⟩:=Jp _ c;have j:=UD [46] 63 (F1 (pcs 46 u)).1 (λx d=>(Bn (g x d)).le);have e:(63+([46]:By).length)*(F1 (pcs 46 u)).1.length<=64*1025:=ae8 (by simp) (by omega);generalize ac5 (F1 (pcs 46 u)).1 [46]=name at *;by_cases a:253<name.length
   ·rw[if_pos a,A8,cond_true]
   ·rw[if_neg a,A6,cond_false,M5,cond_true];cases k:E4 name with
    | true=>rfl
    | false=>rfl
  ·rw[if_neg c];exact m c _ _ _
abbrev Dc5:Int->By->Int->Int->Int->By->Int->Option (PV × List Blk × Unit):=λc d e f a g b=>rv (.tup [.agg (Ug c d e 0 0 0 0 0 0 0 0),.s (.int .i64 f)]) [.box (Ug a g b 0 0 0 0 0 0 0 0)]
abbrev Dm3:Int->Int->Int->Int->Int->Int->Int->Int->Int->Int->LL->Option (PV × List Blk × Unit):=λa b c d e f g h r8 i l10=>rv (.tup [.agg (Ug a [] 0 b c d e f g h r8),.s (.int .i64 i)]) [.box (Ug a [] 0 b c d e f g h r8),.arr false 25 1 l10]
theorem WL{t:By}(h:t≠[])(a:t.getD (t.length-1) 0=46):G2 t=t.take (t.length-1):=by unfold G2;rw[if_pos ((DU t 46 h).2 a),List.dropLast_eq_take]
theorem Aj6{t:By}(h:t≠[])(a:¬t.getD (t.length-1) 0=46):G2 t=t:=by unfold G2;grind
theorem Rd(s:By)(x:s.length<=1024)(j:s.head?≠some 91):∃r H,Di LF s (λh b d c=>Dc5 b d c h b d c)=rv r H/\r.stab [0,0] H = .tup [BT (B9 s).1,.s (.int .i64 ((B9 s).2:Nat))]:=by
 have l:=C6;unfold Di;rw[M5,cond_true];cases i:Q5 s with
 | none=>
  have e:B9 s=(K8,14):=by unfold B9;rw[F5,if_neg j,i]
  rw[e];exact⟨_,_,rfl,rfl⟩
 | some t=>
  have p:t.length<=s.length:=EA s t i;have q:Fe s=t:=by unfold Fe;rw[i];rfl
  have o:(G2 t).length<=t.length:=by unfold G2;split<;>simp
  have m:B9 s=if E4 (G2 t) then (match pnB (G2 t) with
      | some v=>(⟨2,[],v,z8⟩,0)
      | none=>(K8,14))
     else if (F1 (pcs 46 (G2 t))).2=0 then (
      let name:=ac5 (F1 (pcs 46 (G2 t))).1 [46]
      if 253<name.length then (K8,3) else if E4 name then (K8,14) else (⟨1,name,0,z8⟩,0))
     else (K8,(F1 (pcs 46 (G2 t))).2):=by
   unfold B9;rw[F5,if_neg j,i];rfl
  have f:∃r H,Dh LF (G2 t) (λh b d c=>Dc5 b d c h b d c)=rv r H/\r.stab [0,0] H = .tup [BT (B9 s).1,.s (.int .i64 ((B9 s).2:Nat))]:=by
   rw[LJ _ (by omega),m];split
   ·split<;>exact⟨_,_,rfl,rfl⟩
   ·split
    ·simp only;split
     ·exact⟨_,_,rfl,rfl⟩
     ·split<;>exact⟨_,_,rfl,rfl⟩
    ·exact⟨_,_,rfl,rfl⟩
  rw[q];simp only[ad3,j1,cond_false];by_cases a:t=[]
  ·subst a;exact f
  ·have w:0<t.length:=x8.2 a;have n:(t==([]:By))=false:=by simpa using a
   have k:A1 ((t.length:Int)-1)=((t.length-1:Nat):Int):=by rw[A7];omega
   have u:(((t.getD (t.length-1) 0).toNat:Int)==46)=(t.getD (t.length-1) 0==46):=Q7 _ 46 (by omega);rw[n,k];simp only[j0,cond_true,vl];rw[E9,D1,u,cond_true];by_cases g:t.getD (t.length-1) 0=46
   ·rw[g,beq_self_eq_true,cond_true,I2,cond_true,K2,b8,<-WL a g];exact f
   ·rw[show(t.getD (t.length-1) 0==46)=false by simpa using g,cond_false];rw[Aj6 a g] at f;exact f
theorem A34(s:By)(k:A2 s.length=true):∃r H,Wm LF s Dc5 Dm3=rv r H/\r.stab [0,0] H = .tup [BT (B9 s).1,.s (.int .i64 ((B9 s).2:Nat))]:=by
 have u:=M3 k;have l:=C6;unfold Wm;by_cases i:1024<s.length
 ·have e:B9 s=(K8,3):=by unfold B9;rw[if_pos i]
  rw[e,A8,cond_true];exact⟨_,_,rfl,rfl⟩
 ·rw[A6,cond_false];by_cases c:s=[]
  ·subst c;exact Rd [] (by simp) (by simp)
  ·have q:0<s.length:=x8.2 c;have m:(s==([]:By))=false:=by simpa using c
   have o:(bAt s 0==(91:Int))=(s.getD 0 0==91):=by rw[Ah];exact Q7 _ 91 (by omega)
   have g:s.head? = some (s.getD 0 0):=by
    cases s with
    | nil=>exact absurd rfl c
    | cons b t=>rfl
   rw[m,j0,cond_true,E9,cond_true,o];by_cases f:s.getD 0 0=91
   ·have e:B9 s=P8 s:=by unfold B9 P8;rw[if_neg i,if_pos (by rw[g,f])]<;>rfl
    have j:A1 ((s.length:Int)-1)=((s.length-1:Nat):Int):=by rw[A7];omega
    have p:(((s.getD (s.length-1) 0).toNat:Int)!=93) = !(s.getD (s.length-1) 0==93):=congrArg _ (Q7 _ 93 (by omega));rw[e,f,beq_self_eq_true];unfold Gz P8;simp only[vl,j,cond_true];rw[E9,D1,p,cond_true];by_cases d:s.getD (s.length-1) 0=93
    ·have f:2<=s.length:=by grind
     rw[if_pos ⟨(DU s 93 c).2 d,f⟩,d,beq_self_eq_true,j1,cond_false,A6,cond_false,show(1:Int)=((1:Nat):Int) from rfl,I2,cond_true,Hy];have n:((s.take (s.length-1)).drop 1).length<=s.length:=by rw[j7,p4];omega
     rw[M5,cond_true];unfold v6c;cases v:v6B ((s.take (s.length-1)).drop 1) with
     | none=>exact⟨_,_,rfl,rfl⟩
     | some a=>exact⟨_,_,rfl,rfl⟩
    ·rw[if_neg (λh=>d ((DU s 93 c).1 h.1)),show(s.getD (s.length-1) 0==93)=false by simpa using d];exact⟨_,_,rfl,rfl⟩
   ·rw[show(s.getD 0 0==91)=false by simpa using f];exact Rd s (by omega) (by rw[g];simpa using f)
section
theorem KO:B0 j9 GX 148 Ua:=xf [] (GV LF) Ye rfl trivial rfl (by kernel_rfl) follows λargs=>by
 unfold Ye;split
 ·rename_i n;exact⟨rfl,rfl,rfl,_,_,(Bv7 LF noY () 0 n).trans (Ae3 n ),rfl⟩
 ·trivial
theorem Al1:B0 j9 GX 151 FH:=xf [] (X2 LF) Yc rfl trivial rfl (by kernel_rfl) follows λargs=>by
 unfold Yc;split
 ·rename_i d c f;exact λa=>λb=>λe=>⟨rfl,rfl,rfl,_,_,(Bt7 LF noY () 0 d c f).trans (Ac3 d c f a b e),rfl⟩
 ·trivial
theorem Cm7:B0 j9 GX 149 An5:=xf [] (Ar0 LF) RF rfl trivial rfl (by kernel_rfl) follows λargs=>by
 unfold RF;split
 ·rename_i k b;exact λa=>λc=>⟨rfl,rfl,rfl,_,_,(Cz8 LF noY () 0 k b).trans (Bw3 k b a c),rfl⟩
 ·trivial
theorem C40:B0 j9 GX 150 Bd4:=xf [] (TB LF) FI rfl trivial rfl (by kernel_rfl) follows λargs=>by
 unfold FI;split
 ·rename_i d;exact λa=>⟨rfl,rfl,rfl,_,_,(Cd4 LF noY () 0 d).trans (A06 d a),rfl⟩
 ·trivial
theorem Dg7:B0 j9 GX 176 B38:=xf [] (Iy LF) RK rfl trivial rfl (by kernel_rfl) follows λargs=>by
 unfold RK;split
 ·rename_i b;exact λa=>⟨rfl,rfl,rfl,_,_,(C04 LF noY () 0 b).trans (Bx0 b a),rfl⟩
 ·trivial
theorem Cm4:B0 j9 GX 120 An1:=xf [0,0] (N0 LF) QZ rfl ⟨KO,Cm7,C40,Al1,trivial⟩ rfl (by kernel_rfl) follows λargs=>by
 unfold QZ;split
 ·rename_i b a p;exact λc=>(let⟨r,H,e,q⟩:=Cy4 b a p c;⟨rfl,rfl,rfl,r,H,(Cy2 LF noY () 0 b a p).trans e,q⟩)
 ·trivial
theorem C45:B0 j9 GX 156 Bd9:=xf [1,0] (J3 LF) FP rfl ⟨Dg7,Cm7,Al1,KO,trivial⟩ rfl (by kernel_rfl) follows λargs=>by
 unfold FP;split
 ·rename_i s;exact λa=>(let⟨r,H,e,q⟩:=Cf2 s a;⟨rfl,rfl,rfl,r,H,(Cf1 LF noY () 0 s).trans e,q⟩)
 ·trivial
theorem Dg3:B0 j9 GX 119 B35:=xf [1,0] (O8 LF) RE rfl ⟨KO,trivial⟩ rfl (by kernel_rfl) follows λargs=>by
 unfold RE;split
 ·rename_i s;exact λa=>(let⟨r,H,e,q⟩:=Cz6 s a;⟨rfl,rfl,rfl,r,H,(Cz5 LF noY () 0 s).trans e,q⟩)
 ·trivial
theorem C47:B0 j9 GX 127 Be1:=xf [] (Lf LF) FR rfl ⟨C45,Cm4,trivial⟩ rfl (by kernel_rfl) follows λargs=>by
 unfold FR;split
 ·rename_i s;exact λa=>⟨rfl,rfl,rfl,_,_,(Cf4 LF noY () 0 s).trans (A57 s a),rfl⟩
 ·trivial
theorem C44:B0 j9 GX 94 Bd8:=xf [] (Ld LF) FM rfl ⟨C47,trivial⟩ rfl (by kernel_rfl) follows λargs=>by
 unfold FM;split
 ·rename_i s;exact λa=>⟨rfl,rfl,rfl,_,_,(Ce8 LF noY () 0 s).trans (A38 s a),rfl⟩
 ·trivial
theorem C43:B0 j9 GX 89 Bd7:=xf [0,0] (TC LF) FL rfl ⟨Dg3,Cm5,Cm4,C44,trivial⟩ rfl (by kernel_rfl) follows λargs=>by
 unfold FL;split
 ·rename_i s;exact λa=>⟨rfl,rfl,rfl,_,_,(Ce7 LF noY () 0 s).trans (A35 s a),rfl⟩
 ·trivial
theorem Dl0:B0 j9 GX 115 C62:=xf [] (Qy LF) An2 rfl trivial rfl (by kernel_rfl) follows λargs=>by
 unfold An2;split
 ·rename_i b;exact λa=>⟨rfl,rfl,rfl,_,_,(Dc4 LF noY () 0 b).trans (Ce6 b a),rfl⟩
 ·trivial
theorem C42:B0 j9 GX 85 Bd6:=xf [0,0] (Lc LF) FK rfl ⟨Dl0,trivial⟩ rfl (by kernel_rfl) follows λargs=>by
 unfold FK;split
 ·rename_i s;exact λa=>(let⟨r,H,e,q⟩:=Ce5 s a;⟨rfl,rfl,rfl,r,H,(Ce4 LF noY () 0 s).trans e,q⟩)
 ·trivial
theorem B13:B0 j9 GX 63 MB:=xf [0,0] (J9 LF) Rp rfl ⟨Dg6,C42,Bc0,C46,Xq,C43,trivial⟩ rfl (by kernel_rfl) follows λargs=>by
 unfold Rp;split
 ·rename_i s;exact λa=>(let⟨r,H,e,q⟩:=A34 s a;⟨rfl,rfl,rfl,r,H,(A33 LF noY () 0 s).trans e,q⟩)
 ·trivial
end
section
theorem Al3:B0 j9 GX 23 Ub:=xf [] (GW LF) Yg rfl trivial rfl (by kernel_rfl) follows λargs=>by
 unfold Yg;split
 ·rename_i s;exact⟨rfl,rfl,rfl,_,_,(Bw6 LF noY () 0 s).trans (Ah1 s ),rfl⟩
 ·trivial
theorem C51:B0 j9 GX 45 Be5:=xf [] (TE LF) FX rfl trivial rfl (by kernel_rfl) follows λargs=>by
 unfold FX;split
 ·rename_i s;exact⟨rfl,rfl,rfl,_,_,(Cg5 LF noY () 0 s).trans (A77 s ),rfl⟩
 ·trivial
theorem C48:B0 j9 GX 62 Be2:=xf [] (Am LF) FS rfl trivial rfl (by kernel_rfl) follows λargs=>by
 unfold FS;split
 ·rename_i s t;exact λa=>λb=>⟨rfl,rfl,rfl,_,_,(Cf6 LF noY () 0 s t).trans (A70 s t a b),rfl⟩
 ·trivial
theorem C50:B0 j9 GX 61 Be4:=xf [0,0,0] (L1 LF) FW rfl ⟨Cm5,trivial⟩ rfl (by kernel_rfl) follows λargs=>by
 unfold FW;split
 ·rename_i s;exact λa=>⟨rfl,rfl,rfl,_,_,(Cg4 LF noY () 0 s).trans (A76 s a),rfl⟩
 ·trivial
theorem C49:B0 j9 GX 41 Be3:=xf [0,0] (J0 LF) FU rfl ⟨C50,Al3,C48,B13,C51,trivial⟩ rfl (by kernel_rfl) follows λargs=>by
 unfold FU;split
 ·rename_i s;exact λa=>(let⟨r,H,e,q⟩:=Cg2 s a;⟨rfl,rfl,rfl,r,H,(Cg1 LF noY () 0 s).trans e,q⟩)
 ·trivial
theorem PE:B0 j9 GX 14 Jn:=xf [0,0] (Zb LF) Rq rfl ⟨C49,trivial⟩ rfl (by kernel_rfl) follows λargs=>by
 unfold Rq;split
 ·rename_i s;exact λa=>(let⟨r,H,e,q⟩:=A73 s a;⟨rfl,rfl,rfl,r,H,(A72 LF noY () 0 s).trans e,q⟩)
 ·trivial
end
theorem Cf9(a p:By)(k:Int)(l:By)(v4 c d e f g h i j m:Int)(o:By) :
  ∃r H,Bk3 LF a p k l v4 c d e f g h i j m o (λn b=>rv (.s (.bool n)) b)=rv r H/\r.stab [] H = .s (.bool (Ak a)):=by
 unfold Bk3 Ak;rw[show(a==([104,116,116,112]:By))=(a==Dx) from rfl,show(a==([119,115]:By))=(a==bWs) from rfl];cases a==Dx<;>exact⟨_,_,rfl,rfl⟩
theorem Cg7(g v:By)(p:Int)(q:By)(v4 h i j k l m n o t:Int)(u:By)(w:(not (Ak g))=true) :
  ∃r H,Bk5 LF g v p q v4 h i j k l m n o t u (λD F x G y z A B n8 C b c d e f a=>rv (gU D F x G y z A B n8 C b c d e f) a)=rv r H/\r.stab [] H=gU g v p q v4 h i j k l m n o t u:=by
 unfold Bk5;rw[w];exact⟨_,_,rfl,rfl⟩
section
theorem Bl9:B0 j9 GX 25 DL:=xf [] (TD LF) FT rfl trivial rfl (by kernel_rfl) follows λargs=>by
 unfold FT;split
 ·rename_i n o j k v4 a b c d f g h i l m;exact(let⟨r,H,e,q⟩:=Cf9 n o j k v4 a b c d f g h i l m ; ⟨rfl,rfl,rfl,r,H,(Cf8 LF noY () 0 n o j k v4 a b c d f g h i l m).trans e,q⟩)
 ·trivial
theorem C53:B0 j9 GX 29 Be8:=xf [] (TF LF) Ud rfl ⟨Bl9,trivial⟩ rfl (by kernel_rfl) follows λargs=>by
 unfold Ud;split
 ·rename_i n o j k v4 a b c d f g h i l m;exact λp=>(let⟨r,H,e,q⟩:=Cg7 n o j k v4 a b c d f g h i l m p;⟨rfl,rfl,rfl,r,H,(Cg6 LF noY () 0 n o j k v4 a b c d f g h i l m).trans e,q⟩)
 ·trivial
end
theorem Dg4:B0 j9 GX 29 RG:=λargs ret d h=>by
 have a:=C52 args ret d;have b:=C53 args ret d;unfold RG at h;unfold Be7 at a;unfold Be8 at b;generalize C5 _ args=l at h a b;unfold Be6 at h;split at h
 ·rename_i i w t u v4 j k m n o p q r g v;cases c:Ak i with
  | true=>
   refine a ?_;unfold Uc;rw[Dm c];exact h
  | false=>
   refine b ?_;unfold Ud;rw[Dm (by rw[c];rfl)];obtain⟨e,f⟩:=Bk9 c g;rw[e,f] at h;exact h
 ·cases h
end
section
open Go
def ofB(u:S9):Bool:=E7 u.sch&&Dn u
structure OC where
 s:By
 k:Int
 n:By
 v:Int
 a:List Int
 p:Int
 b:Bool
def ofC(i n:By)(j:Int)(k:By)(v4 a b c d e f g h l:Int)(m:By):OC:=
 cond (ofB (mkU i n j k v4 (n8 a b c d e f g h) l m)) ⟨i,j,k,v4,[a,b,c,d,e,f,g,h],prt i l,true⟩ ⟨[],0,[],0,[0,0,0,0,0,0,0,0],0,false⟩
abbrev oS(c:OC):By:=c.s
abbrev oK(c:OC):Int:=c.k
abbrev oN(c:OC):By:=c.n
abbrev oV(c:OC):Int:=c.v
abbrev oA(c:OC)(i:Nat):Int:=c.a.getD i 0
abbrev oP(c:OC):Int:=c.p
abbrev oB(c:OC):Bool:=c.b
def Dl7:By:=[108,111,99,97,108,104,111,115,116]
def IO(i:Int)(j:By)(v4 a b c d e f g h:Int):Bool:=
 cond (L7 (mkH i j v4 (n8 a b c d e f g h))) (cond (i==2) (KB .u32 v4 24==127) (cond (i==3) ((a==0)&&((b==0)&&((c==0)&&((d==0)&&((e==0)&&((f==0)&&((g==0)&&((h==1)&&true)))))))) (Lg Dl7 j))) false
def Bf3:By:=[102,105,108,101]
def Ao9:By:=[97,98,111,117,116]
def Mo(i n:By)(k:Int)(l:By)(v4 a b c d e f g h m:Int)(j:By):Bool:=
 cond (Dn (mkU i n k l v4 (n8 a b c d e f g h) m j)) (cond (i==Z7||(i==Qs||i==Bf3)) true (cond (i==Ao9) (j==[98,108,97,110,107]||j==[115,114,99,100,111,99]) (cond (E7 i) (IO k l v4 a b c d e f g h) false))) false
def Db8(b:By)(h:B2)(a:Int):By:=
 if E7 b=true/\L7 h=true/\0<=a/\a<=65535 then b++58::47::47::(T5 h++(if a=L3 b then [] else 58::R1 a)) else []
end
section
open Go Go.Proofs
set_option maxRecDepth 100000
section
def Am7:List PV->Tr
 | [.agg [.s (.str l),.s (.str m),.s (.int .i64 n),.s (.str i),.s (.int .u32 v4),.s (.int .u16 a),.s (.int .u16 b),.s (.int .u16 c),.s (.int .u16 d),.s (.int .u16 e),.s (.int .u16 f),.s (.int .u16 g),.s (.int .u16 h),.s (.int .i64 j),.s (.str k)]]=>.need (smU l m i k) (.need (ltN v4 4294967296) (.need (ok8 a b c d e f g h) (.need (Er j) (.ret (.tup [.agg [.s (.str (oS (ofC l m n i v4 a b c d e f g h j k))),.s (.int .i64 (oK (ofC l m n i v4 a b c d e f g h j k))),.s (.str (oN (ofC l m n i v4 a b c d e f g h j k))),.s (.int .u32 (oV (ofC l m n i v4 a b c d e f g h j k))),.s (.int .u16 (oA (ofC l m n i v4 a b c d e f g h j k) 0)),.s (.int .u16 (oA (ofC l m n i v4 a b c d e f g h j k) 1)),.s (.int .u16 (oA (ofC l m n i v4 a b c d e f g h j k) 2)),.s (.int .u16 (oA (ofC l m n i v4 a b c d e f g h j k) 3)),.s (.int .u16 (oA (ofC l m n i v4 a b c d e f g h j k) 4)),.s (.int .u16 (oA (ofC l m n i v4 a b c d e f g h j k) 5)),.s (.int .u16 (oA (ofC l m n i v4 a b c d e f g h j k) 6)),.s (.int .u16 (oA (ofC l m n i v4 a b c d e f g h j k) 7)),.s (.int .i64 (oP (ofC l m n i v4 a b c d e f g h j k)))],.s (.bool (oB (ofC l m n i v4 a b c d e f g h j k)))]) []))))
 | _=>.fail
def B29(args:List PV):Tr:=Am7 (C5 [[0,0,0,0,0,0,0,0,0,0,0,0,0,0,0]] args)
def QN:List PV->Tr
 | [.agg [.s (.str l),.s (.int .i64 j),.s (.str i),.s (.int .u32 v4),.s (.int .u16 a),.s (.int .u16 b),.s (.int .u16 c),.s (.int .u16 d),.s (.int .u16 e),.s (.int .u16 f),.s (.int .u16 g),.s (.int .u16 h),.s (.int .i64 k)]]=>.need (A2 (j4 i)) (.need (ltN v4 4294967296) (.need (ok8 a b c d e f g h) (.ret (.s (.str (Db8 l (mkH j i v4 (n8 a b c d e f g h)) k))) [])))
 | _=>.fail
def Am6(args:List PV):Tr:=QN (C5 [[0,0,0,0,0,0,0,0,0,0,0,0,0]] args)
def FE:List PV->Tr
 | [.agg [.s (.int .i64 j),.s (.str i),.s (.int .u32 v4),.s (.int .u16 a),.s (.int .u16 b),.s (.int .u16 c),.s (.int .u16 d),.s (.int .u16 e),.s (.int .u16 f),.s (.int .u16 g),.s (.int .u16 h)]]=>.need (A2 (j4 i)) (.need (ltN v4 4294967296) (.need (ok8 a b c d e f g h) (.ret (.s (.bool (IO j i v4 a b c d e f g h))) [])))
 | _=>.fail
def Po(args:List PV):Tr:=FE (C5 [[0,0,0,0,0,0,0,0,0,0,0]] args)
def Xz:List PV->Tr
 | [.agg [.s (.str l),.s (.str m),.s (.int .i64 n),.s (.str i),.s (.int .u32 v4),.s (.int .u16 a),.s (.int .u16 b),.s (.int .u16 c),.s (.int .u16 d),.s (.int .u16 e),.s (.int .u16 f),.s (.int .u16 g),.s (.int .u16 h),.s (.int .i64 j),.s (.str k)]]=>.need (smU l m i k) (.need (ltN v4 4294967296) (.need (ok8 a b c d e f g h) (.need (Er j) (.ret (.s (.bool (Mo l m n i v4 a b c d e f g h j k))) []))))
 | _=>.fail
def Nn(args:List PV):Tr:=Xz (C5 [[0,0,0,0,0,0,0,0,0,0,0,0,0,0,0]] args)
def Rk:List PV->Tr
 | []=>.ret (.s (.bool true)) []
 | _=>.fail
def Xu(args:List PV):Tr:=Rk (C5 [] args)
end
end
end Go.Proofs.YtcfingekgbbclaaGreatDoor.E
