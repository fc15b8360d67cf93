/-
  Parts of the proof, merged by a program of the prover's own; no condition.
-/
import Derived.Test.YtfkhfkjcidamaaaGreatDoorKMC5
open Eq renaming trans->a8
open Int renaming toNat_natCast->b8,toNat->b9,tmod->p4,tdiv->v7,eq_ofNat_of_zero_le->x3,mul->ab2,mul_comm->af4
open List renaming drop_of_length_le->c9,length->j2,length_append->j4,getD_eq_getElem?_getD->j5,length_cons->j6,length_drop->j7,drop_zero->j8,length_take->o5,getElem?_eq_getElem->o6,length_map->o7,length_singleton->p5,append_assoc->p9,replicate->w6,takeWhile_cons->w9,length_nil->x4,nil_append->x5,length_pos_iff->x6,length_eq_zero_iff->y5,countP_le_length->y8,getElem_mem->y9,take->z7,all_cons->aa2,append_nil->aa4,map_append->aa5,drop->aa7,contains_cons->aa9,drop_drop->ab0,isPrefixOf_iff_prefix->ab1,any_cons->ab5,countP_cons_of_neg->ab7,map->ab8,getElem_cons_drop->ab9,drop_left'->ac0,take_left->ac4,getD_cons_zero->ac6,mem_cons->ac9,all->ad4,head?_cons->ae3,takeWhile->ae4,isEmpty->af6
open Bool renaming not_false->j0,not_true->j1,eq_false_iff->k9,and_eq_true->p6,true_and->w8,eq_iff_iff->x7,false_eq_true->aa8,and_true->ac7,false_or->ac8,not_eq_true'->ad2,or_eq_true->ae2,not_and->af3
open Go.Proofs.Tryz renaming prog->j9,f154->ac5,f155->ad5,f174->ad6,f175->ad7,f191->ad8,f193->ad9,f57->ae7,f90->ae8,f93->ae9,f113->af1,f129->af2,f45->af9,f77->ag0,f92->ag1
open Nat renaming ble_eq->o0,ble->o8,div_le_self->x8,le_refl->ab4,add_lt_add_iff_right->ab6,strongRecOn->ac1,blt_eq->ad0,zero_le->ae0,mod_lt->ae5,mul_le_mul->ae6,sub_zero->af7
open Option.some renaming injEq->o9
open Go.Lib renaming decodeL->p7,decodeN->x9,cut->ab3,join->ac3,joinTail->ad3,decDigits->af0
open Exists renaming intro->v8
open UInt8 renaming ofNat->y7,toNat_inj->aa6,toNat->ae1
open Option renaming bind_some->aa0,getD_some->aa1,isSome->aa3,map_some->ac2,isSome_some->ad1
open List.Sublist renaming length_le->af5
open Ne renaming symm->af8
namespace Go.Proofs.YtfkhfkjcidamaaaGreatDoor.E
set_option linter.all false
section
open Go Go.Proofs
set_option maxRecDepth 100000
section
variable {Z R : Type} (L : Nat) (Q : F8) (Y : Yh Z) (s : Z) (k : Out -> St Z -> Option R)
noncomputable def JR(L:Nat):Cfg:=B5 L [91] (A2 []) [] (A2 [(1,[2]),(0,[0])]) [] (A2 []) (some [2]) [] [] []
noncomputable def ZH{R:Type}(L:Nat)(b:By)(a:Bool->Option R):Option R:=cond (b==[104,116,116,112]) (a true) (cond (b==[104,116,116,112,115]) (a true) (cond (b==[119,115]) (a true) (a (b==[119,115,115]))))
theorem Ca2(d:Nat)(s0):evC (JR L) (d+1) Z Y 91 [pS s0] [] s=ZH L s0 (λa=>some (pB a,[],s)):=by refine(evE (fn:=Tryz.f91) (by kernel_rfl)).trans ?_;generalize evC (JR L) d=Q;unfold ZH;kernel_rfl
noncomputable def WO(L:Nat):Cfg:=B5 L [94] (A2 []) [] (A2 [(8,[2]),(4,[2]),(7,[2]),(6,[7]),(5,[3,3]),(3,[3,0]),(2,[3,0]),(1,[3]),(0,[0])]) [] (A2 [(0,[])]) (some [2]) [] [] []
noncomputable def Bx0{R:Type}(L:Nat)(b:By)(a:Int->Option R):Option R:=cond (b==[104,116,116,112]) (cond (b==[104,116,116,112]) (a 80) (cond (b==[104,116,116,112,115]) (cond (b==[104,116,116,112,115]) (a 443) (a (-1))) (cond (b==[119,115,115]) (a 443) (a (-1))))) (cond (b==[119,115]) (a 80) (cond (b==[104,116,116,112,115]) (cond (b==[104,116,116,112,115]) (a 443) (a (-1))) (cond (b==[119,115,115]) (a 443) (a (-1)))))
theorem Cw5(d:Nat)(s0):evC (WO L) (d+1) Z Y 94 [pS s0] [] s=Bx0 L s0 (λa=>some (pI a,[],s)):=by refine(evE (fn:=Tryz.f94) (by kernel_rfl)).trans ?_;generalize evC (WO L) d=Q;unfold Bx0;kernel_rfl
noncomputable abbrev Wd:Code:=C3 ag1
noncomputable def Aq(L:Nat):Cfg:=B5 L [92] (A2 [(5,[0,0,2,0,0]),(2,[0,0,2,0])]) [] (A2 [(9,[4]),(3,[0,0,3]),(6,[0,0,3,0]),(8,[4]),(7,[0,0,3,0,18]),(5,[0,0,3,0,9]),(4,[0,0,3,0]),(2,[0,0,3,4]),(1,[0,0,3]),(0,[0,0])]) [] (A2 [(0,[0]),(1,[0,0,3]),(2,[0,0,3]),(3,[0,0,3,0])]) (some [4]) [] [] []
noncomputable def Hr{R:Type}(L n:Nat)(d a:By)(c b:Int)(e:Int->Option R)(f:By->By->Int->Option R):Option R:=match n with|0=>none|n+1=>cond (ltI b (a.length:Int)) (cond (inR c d.length) (cond (inR b a.length) (cond ((bAt d c)==(bAt a b)) (e c) (Hr L n d a c (A1 (b+1)) e f)) none) none) (f d a c)
theorem An9(n c a b kk3):C7 0 ((Aq L).keep 5) (bd (Aq L) Q Y (cd [1,0,1,0,0,1,0,0,1,0,0] Wd)) n ⟨gp [(0,pS c),(0,pS a),(3,pI b),(0,pI kk3)] 22,[],s⟩ k =
 Hr L n c a b kk3 (λn0=>k .ret ⟨gp [(4,pI n0)] 24,[],s⟩) (λc a b=>k (.exit 2) ⟨gp [(0,pS c),(0,pS a),(3,pI b)] 23,[],s⟩):=by
 induction n generalizing c a b kk3 with
 | zero=>rfl
 | succ n d=>rw[Hr];simp only[<-d];kernel_rfl
noncomputable def Hs{R:Type}(L n:Nat)(e b:By)(f:Int)(g:Int->Option R)(h:By->Option R):Option R:=match n with|0=>none|n+1=>cond (ltI f (e.length:Int)) (Hr L L e b f 0 g (λd a c=>Hs L n d a (A1 (c+1)) g h)) (h e)
theorem Ao0(n b set1 i2):C7 0 ((Aq L).keep 2) (bd (Aq L) Q Y (cd [1,0,1,0,0] Wd)) n ⟨gp [(0,pS b),(0,pS set1),(3,pI i2)] 23,[],s⟩ k =
 Hs L n b set1 i2 (λn0=>k .ret ⟨gp [(4,pI n0)] 24,[],s⟩) (λb=>k (.exit 0) ⟨gp [(0,pS b)] 28,[],s⟩):=by
 induction n generalizing b set1 i2 with
 | zero=>rfl
 | succ n e=>rw[Hs];exact(a8 (by kernel_rfl) (A0 ((An9 L Q Y s (E0 2 (E0 1 (D9 (Aq L) Q Y (cd [1,0,1,0,0,1,1] Wd) (lpK 0 ((Aq L).keep 2) (bd (Aq L) Q Y (cd [1,0,1,0,0] Wd)) n k)))) L b set1 i2 0).trans (congr (congr rfl (by kernel_rfl)) (fx3 λd a c=>(a8 (by kernel_rfl) (e d a (A1 (c+1))))))) rfl))
noncomputable def Cv5{R:Type}(L:Nat)(e a:By)(d:Int->Option R):Option R:=Hs L L e a 0 d (λc=>vl (c.length:Int) λb=>d b)
theorem Cv6(d:Nat)(s0 set1):evC (Aq L) (d+1) Z Y 92 [pS s0,pS set1] [] s=Cv5 L s0 set1 (λa=>some (pI a,[],s)):=by refine(evE (fn:=ag1) (by kernel_rfl)).trans ?_;generalize evC (Aq L) d=Q;unfold Cv5;exact(a8 (by kernel_rfl) ((Ao0 L Q Y s (E0 0 (D9 (Aq L) Q Y (cd [1,1] Wd) (F0 (Aq L) ag1))) L s0 set1 0).trans (by kernel_rfl)))
noncomputable abbrev N4:Code:=C3 ae8
noncomputable def L4(L:Nat):Cfg:=B5 L [90] (A2 [(2,[0,1,0,0,0])]) [(127,Aw7)] (A2 [(11,[2,0,0]),(3,[0,4]),(10,[2,0,0]),(9,[0,4,67]),(8,[0,4,1,0]),(7,[0,4,0,0]),(6,[2,0,0]),(5,[0,4,0,16]),(4,[0,4,0]),(2,[0,4,6]),(1,[0,4]),(0,[0])]) [127] (A2 [(0,[]),(1,[0,4])]) (some [2,0,0]) [] [] []
noncomputable def Lf{R:Type}(a:By)(b f:Int)(e:Bool)(g:By->By->Option R)(h:By->Int->Int->Bool->Option R):Option R:=cond e (cond (I6 0 b a.length) (cond (A3 (j2 (cut a 0 b))) (vl (B9 (cut a 0 b)) λc=>cond (I6 (A1 (b+1)) (a.length:Int) a.length) (vl (cut a (A1 (b+1)) (a.length:Int)) λd=>g c d) none) none) none) (h a b f e)
abbrev Vh(b:Code):Prop:=∀(k:Out->St Z->Option R) a e c d,A9 (L4 L) Q Y b ⟨gp [(0,pS a),(4,pI e),(0,p8 c),(16,pB d)] 50,[],s⟩ k=Lf a e c d (λa f=>k .ret ⟨gp [(2,pS a),(0,pS f),(0,pB true)] 69,[],s⟩) (λa e c d=>k .normal ⟨gp [(0,pS a),(4,pI e),(0,p8 c),(16,pB d)] 50,[],s⟩)
theorem Ap3:Vh (R:=R) L Q Y s (cd [1,0,1,0,0,1,0,0,1,0,1] N4):=by intro k d c a b;unfold Lf;kernel_rfl
noncomputable def Lg{R:Type}(c:By)(a:Int)(b:By->Int->Option R):Option R:=b c a
abbrev Vi(b:Code):Prop:=∀(k:Out->St Z->Option R) c a,A9 (L4 L) Q Y b ⟨gp [(0,pS c),(4,pI a),(1,pB true),(0,pB true)] 65,[],s⟩ k=Lg c a (λc a=>k .normal ⟨gp [(0,pS c),(4,pI a),(67,pB false)] 0,[],s⟩)
theorem ER:Vi (R:=R) L Q Y s (cd [1,0,1,0,0,1,0,0,1,1,1,1] N4):=by intro k b a;unfold Lg;kernel_rfl
noncomputable def Hw{R:Type}(c:By)(a:Int)(b:By->Int->Option R):Option R:=b c a
abbrev Vj(b:Code):Prop:=∀(k:Out->St Z->Option R) c a other2,A9 (L4 L) Q Y b ⟨gp [(0,pS c),(4,pI a),(1,pB true),(0,pB other2)] 65,[],s⟩ k=Hw c a (λc a=>k .normal ⟨gp [(0,pS c),(4,pI a),(67,pB false)] 0,[],s⟩)
theorem ES:Vj (R:=R) L Q Y s (cd [1,0,1,0,0,1,0,0,1,1,1,1] N4):=by intro k c b a;unfold Hw;kernel_rfl
noncomputable def Yq{R:Type}(c:By)(a d:Int)(b:By->Int->Option R):Option R:=cond (not (ltI d 48)) (cond (not (ltI 57 d)) (Lg c a b) (cond (d==43) (Lg c a b) (cond (d==45) (Lg c a b) (Hw c a b)))) (cond (d==43) (Hw c a b) (cond (d==45) (Hw c a b) (Hw c a b)))
abbrev Vk(b:Code):Prop:=∀(k:Out->St Z->Option R) c a b2,A9 (L4 L) Q Y b ⟨gp [(0,pS c),(4,pI a),(0,p8 b2),(0,pB true)] 66,[],s⟩ k=Yq c a b2 (λc a=>k .normal ⟨gp [(0,pS c),(4,pI a),(67,pB false)] 0,[],s⟩)
theorem Ap4(a:Code)(c:Vi (R:=R) L Q Y s a)(b:Vj (R:=R) L Q Y s a):Vk (R:=R) L Q Y s (cd [1,0,1,0,0,1,0,0,1,1,1] (G2 [1,0,1,0,0,1,0,0,1,1,1,1] a N4)):=by intro k e d f;unfold Yq;exact(a8 (by kernel_rfl) (A0 (A0 ((c k e d).trans (by kernel_rfl)) (A0 ((c k e d).trans (by kernel_rfl)) (A0 ((c k e d).trans (by kernel_rfl)) ((b k e d (f==46)).trans (by kernel_rfl))))) (A0 ((b k e d true).trans (by kernel_rfl)) (A0 ((b k e d true).trans (by kernel_rfl)) ((b k e d (f==46)).trans (by kernel_rfl))))))
theorem Ap5:Vk (R:=R) L Q Y s (cd [1,0,1,0,0,1,0,0,1,1,1] N4):=by intro k c b a;exact a8 (by kernel_rfl) (Ap4 L Q Y s (cd [1,0,1,0,0,1,0,0,1,1,1,1] N4) (ER L Q Y s) (ES L Q Y s) k c b a)
noncomputable def Lh{R:Type}(d:By)(b:Int)(a:Bool)(e:Unit->Option R)(c:By->Int->Bool->Option R):Option R:=cond (not a) (cond (b==0) (e ()) (c d b (b==0))) (c d b false)
abbrev MT(b:Code):Prop:=∀(k:Out->St Z->Option R) c a letter2,A9 (L4 L) Q Y b ⟨gp [(0,pS c),(4,pI a),(1,pB letter2),(0,pB true)] 65,[],s⟩ k=Lh c a letter2 (λ_=>k .ret ⟨gp [(2,pS e0),(0,pS e0),(0,pB false)] 69,[],s⟩) (λc a d=>k .normal ⟨gp [(0,pS c),(4,pI a),(67,pB d)] 0,[],s⟩)
theorem Ap6:MT (R:=R) L Q Y s (cd [1,0,1,0,0,1,0,0,1,1,1,1] N4):=by intro k c b a;unfold Lh;kernel_rfl
noncomputable def Hx{R:Type}(f:By)(c:Int)(a b:Bool)(d:Unit->Option R)(e:By->Int->Bool->Option R):Option R:=cond (not a) (cond (not b) (d ()) (cond (c==0) (d ()) (e f c (c==0)))) (e f c false)
abbrev MU(b:Code):Prop:=∀(k:Out->St Z->Option R) c a letter2 other3,A9 (L4 L) Q Y b ⟨gp [(0,pS c),(4,pI a),(1,pB letter2),(0,pB other3)] 65,[],s⟩ k=Hx c a letter2 other3 (λ_=>k .ret ⟨gp [(2,pS e0),(0,pS e0),(0,pB false)] 69,[],s⟩) (λc a d=>k .normal ⟨gp [(0,pS c),(4,pI a),(67,pB d)] 0,[],s⟩)
theorem Ap7:MU (R:=R) L Q Y s (cd [1,0,1,0,0,1,0,0,1,1,1,1] N4):=by intro k d c a b;unfold Hx;kernel_rfl
noncomputable def Hy{R:Type}(f:By)(c b:Int)(a:Bool)(d:Unit->Option R)(e:By->Int->Bool->Option R):Option R:=cond (not (ltI b 48)) (cond (not (ltI 57 b)) (Lh f c a (λ_=>d ()) e) (cond (b==43) (Lh f c a (λ_=>d ()) e) (cond (b==45) (Lh f c a (λ_=>d ()) e) (Hx f c a (b==46) (λ_=>d ()) e)))) (cond (b==43) (Hx f c a true (λ_=>d ()) e) (cond (b==45) (Hx f c a true (λ_=>d ()) e) (Hx f c a (b==46) (λ_=>d ()) e)))
abbrev Vl(b:Code):Prop:=∀(k:Out->St Z->Option R) d c a letter3,A9 (L4 L) Q Y b ⟨gp [(0,pS d),(4,pI c),(0,p8 a),(0,pB letter3)] 66,[],s⟩ k=Hy d c a letter3 (λ_=>k .ret ⟨gp [(2,pS e0),(0,pS e0),(0,pB false)] 69,[],s⟩) (λd c a=>k .normal ⟨gp [(0,pS d),(4,pI c),(67,pB a)] 0,[],s⟩)
theorem Ap8(a:Code)(d:Vi (R:=R) L Q Y s a)(e:Vj (R:=R) L Q Y s a)(b:MT (R:=R) L Q Y s a)(c:MU (R:=R) L Q Y s a):Vl (R:=R) L Q Y s (cd [1,0,1,0,0,1,0,0,1,1,1] (G2 [1,0,1,0,0,1,0,0,1,1,1,1] a N4)):=by intro k i h g f;unfold Hy;simp only[<-b k,<-c k];kernel_rfl
theorem Ap9:Vl (R:=R) L Q Y s (cd [1,0,1,0,0,1,0,0,1,1,1] N4):=by intro k d c b a;exact a8 (by kernel_rfl) (Ap8 L Q Y s (cd [1,0,1,0,0,1,0,0,1,1,1,1] N4) (ER L Q Y s) (ES L Q Y s) (Ap6 L Q Y s) (Ap7 L Q Y s) k d c b a)
noncomputable def Ap{R:Type}(f:By)(c a:Int)(d:By->Int->Bool->Option R)(g:Unit->Option R):Option R:=cond (not (ltI a 97)) (cond (not (ltI 122 a)) (Yq f c a (λe b=>d e b false)) (cond (not (ltI a 65)) (Hy f c a (not (ltI 90 a)) (λ_=>g ()) d) (Hy f c a false (λ_=>g ()) d))) (cond (not (ltI a 65)) (Hy f c a (not (ltI 90 a)) (λ_=>g ()) d) (Hy f c a false (λ_=>g ()) d))
abbrev Ni(b:Code):Prop:=∀(k:Out->St Z->Option R) d c a b3,A9 (L4 L) Q Y b ⟨gp [(0,pS d),(4,pI c),(0,p8 a),(16,pB b3)] 50,[],s⟩ k=Ap d c a (λd c a=>k .normal ⟨gp [(0,pS d),(4,pI c),(67,pB a)] 0,[],s⟩) (λ_=>k .ret ⟨gp [(2,pS e0),(0,pS e0),(0,pB false)] 69,[],s⟩)
theorem Aq0(a:Code)(b:Vk (R:=R) L Q Y s a)(c:Vl (R:=R) L Q Y s a):Ni (R:=R) L Q Y s (cd [1,0,1,0,0,1,0,0,1,1] (G2 [1,0,1,0,0,1,0,0,1,1,1] a N4)):=by intro k g f d e;unfold Ap;simp only[<-b k,<-c k];kernel_rfl
theorem Aq1:Ni (R:=R) L Q Y s (cd [1,0,1,0,0,1,0,0,1,1] N4):=by intro k d c a b;exact a8 (by kernel_rfl) (Aq0 L Q Y s (cd [1,0,1,0,0,1,0,0,1,1,1] N4) (Ap5 L Q Y s) (Ap9 L Q Y s) k d c a b)
noncomputable def O0{R:Type}(L n:Nat)(b:By)(a:Int)(c:By->By->Bool->Option R)(t:Unit->Option R):Option R:=match n with|0=>none|n+1=>cond (ltI a (b.length:Int)) (cond (inR a b.length) (cond ((bAt b a)==58) (Lf b a (bAt b a) (ltI 0 a) (λu v=>c u v true) (λw r q A=>Ap w r q (λj e x=>vl (A1 (e+1)) λh=>O0 L n j h c t) (λ_=>c e0 e0 false))) (Lf b a (bAt b a) false (λl m=>c l m true) (λo f d y=>Ap o f d (λp g z=>vl (A1 (g+1)) λi=>O0 L n p i c t) (λ_=>c e0 e0 false)))) none) (t ())
theorem Aq2(b:Code)(c:Vh (R:=R) L Q Y s b)(a:Code)(d:Ni (R:=R) L Q Y s a)(n:Nat)(e:By)(f:Int):C7 0 ((L4 L).keep 2) (bd (L4 L) Q Y (cd [1,0,1,0,0] (G2 [1,0,1,0,0,1,0,0,1,1] a (G2 [1,0,1,0,0,1,0,0,1,0,1] b N4)))) n ⟨gp [(0,pS e),(4,pI f)] 68,[],s⟩ k =
 O0 L n e f (λe D C=>k .ret ⟨gp [(2,pS e),(0,pS D),(0,pB C)] 69,[],s⟩) (λ_=>k (.exit 0) ⟨gp [] 74,[],s⟩):=by
 induction n generalizing e f with
 | zero=>rfl
 | succ n B=>rw[O0];exact let q:=(E0 1 (D9 (L4 L) Q Y (cd [1,0,1,0,0,1,1] N4) (lpK 0 ((L4 L).keep 2) (bd (L4 L) Q Y (cd [1,0,1,0,0] (G2 [1,0,1,0,0,1,0,0,1,1] a (G2 [1,0,1,0,0,1,0,0,1,0,1] b N4)))) n k)));let w:=(D9 (L4 L) Q Y a q);(a8 (by kernel_rfl) (A0 (A0 (A0 ((c w e f (bAt e f) (ltI 0 f)).trans (congr (congr rfl (by kernel_rfl)) (fx4 λv u r t=>(a8 (by kernel_rfl) ((d q v u r t).trans (congr (congr rfl (fx3 λm z x=>(a8 (by kernel_rfl) (A4 λj=>(B m j))))) (by kernel_rfl))))))) ((c w e f (bAt e f) false).trans (congr (congr rfl (by kernel_rfl)) (fx4 λo i g h=>(a8 (by kernel_rfl) ((d q o i g h).trans (congr (congr rfl (fx3 λp A y=>(a8 (by kernel_rfl) (A4 λl=>(B p l))))) (by kernel_rfl)))))))) rfl) rfl))
noncomputable def Ap2{R:Type}(L:Nat)(b:By)(a:By->By->Bool->Option R):Option R:=O0 L L b 0 a (λ_=>a e0 e0 false)
theorem Cw3(a:Code)(c:Vh (R:=PV × List Blk × Z) L Q Y s a)(b:Code)(d:Ni (R:=PV × List Blk × Z) L Q Y s b)(e:By):A9 (L4 L) Q Y (cd [] (G2 [1,0,1,0,0,1,0,0,1,1] b (G2 [1,0,1,0,0,1,0,0,1,0,1] a N4))) ⟨[pS e]++tps 73,[],s⟩ (F0 (L4 L) ae8)=Ap2 L e (λf g h=>some (.tup [pS f,pS g,pB h],[],s)):=by unfold Ap2;exact(a8 (by kernel_rfl) ((Aq2 L Q Y s (E0 0 (D9 (L4 L) Q Y (cd [1,1] N4) (F0 (L4 L) ae8))) a c b d L e 0).trans (by kernel_rfl)))
theorem Cw4(d:Nat)(s0):evC (L4 L) (d+1) Z Y 90 [pS s0] [] s=Ap2 L s0 (λa b c=>some (.tup [pS a,pS b,pB c],[],s)):=
 (evE (fn:=ae8) (by kernel_rfl)).trans (a8 (by kernel_rfl) (Cw3 L (evC (L4 L) d) Y s (cd [1,0,1,0,0,1,0,0,1,0,1] N4) (Ap3 L (evC (L4 L) d) Y s) (cd [1,0,1,0,0,1,0,0,1,1] N4) (Aq1 L (evC (L4 L) d) Y s) s0))
noncomputable abbrev L3:Code:=C3 ae7
noncomputable def J5(L:Nat):Cfg:=B5 L [57] (A2 [(36,[2,0,1,3,0,4,0]),(20,[2,0,1,3,0,0]),(2,[0,1,0,0])]) [(90,Bp8),(91,IM),(92,Bp7),(93,OW),(94,Bp9)] (A2 [(46,[2,0]),(45,[2,7]),(44,[2,7,173]),(43,[2,2,4]),(42,[2,0]),(41,[2,2,4,4,160]),(37,[2,2,3,0,4,0]),(40,[2,2,3,0,4,0]),(39,[2,0]),(38,[2,2,3,0,4,0,147]),(36,[2,2,3,0,4,0,135]),(35,[2,2,3,0,4,0]),(34,[2,2,3,0,1,2]),(33,[2,2,3,0,1,133]),(32,[2,2,3,0,1]),(31,[2,0]),(30,[2,2,3,0,1,0,0,122]),(29,[2,2,3,0,1,0,0]),(28,[2,0]),(27,[2,2,3,0,1,114]),(26,[2,2,3,0,1]),(25,[2,2,3,0,1,95]),(24,[2,2,3,0,1]),(21,[2,2,3,0,0]),(23,[2,2,3,0]),(22,[2,2,3,0,0,79]),(20,[2,2,3,0,0,73]),(19,[2,2,3,0,0]),(18,[2,2,3,0]),(17,[2,2,0,2,0,66]),(16,[2,2,0,2,0]),(15,[2,2,0,2]),(14,[2,2,0,1]),(13,[2,2,0]),(12,[2,0]),(11,[2,2,0,49]),(10,[2,0]),(9,[2,2,0,38]),(8,[2,0]),(7,[2,2,0,34]),(6,[2,2,0,0]),(3,[0,1,1]),(5,[2,0]),(4,[0,1,1,27]),(2,[0,1,1,15]),(1,[0,1,1]),(0,[0,1])]) [90,91,92,94] (A2 [(4,[2,2,4,4]),(5,[2,2,3,0,4,0]),(2,[2,2,3,0]),(3,[2,2,3,0,0]),(0,[0,1]),(1,[0,1,1])]) (some [2,0]) [] [] []
noncomputable def El{R:Type}(L n:Nat)(a:By)(b:Int)(c:(List Blk)->Option R)(d:By->Option R):Option R:=match n with|0=>none|n+1=>cond (ltI b (a.length:Int)) (cond (inR b a.length) (cond (not (ltI 32 (bAt a b))) (c []) (cond (inR b a.length) (cond ((bAt a b)==127) (c []) (El L n a (A1 (b+1)) c d)) none)) none) (d a)
theorem Ao8(n a i1):C7 1 ((J5 L).keep 2) (bd (J5 L) Q Y (cd [1,0,1,0,0] L3)) n ⟨gp [(0,pS a),(1,.ptr 0 0 0),(1,pI i1)] 182,[bU0],s⟩ k =
 El L n a i1 (λb=>k .ret ⟨gp [(2,.ptr 0 0 0),(0,pI (4:Int))] 183,(bU0::b),s⟩) (λa=>k (.exit 0) ⟨gp [(0,pS a),(1,.ptr 0 0 0)] 184,[bU0],s⟩):=by
 induction n generalizing a i1 with
 | zero=>rfl
 | succ n c=>rw[El];simp only[<-c];kernel_rfl
noncomputable def Y3{R:Type}(L n:Nat)(b a:By)(c:Int)(g:By)(f:By->By->By->By->Option R):Option R:=match n with|0=>none|n+1=>cond (not (ltI c 0)) (cond (inR c a.length) (cond ((bAt a c)==64) (cond (I6 0 c a.length) (vl (cut a 0 c) λd=>cond (I6 (A1 (c+1)) (a.length:Int) a.length) (vl (cut a (A1 (c+1)) (a.length:Int)) λe=>f b e d g) none) none) (Y3 L n b a (A1 (c-1)) g f)) none) (f b a e0 g)
theorem EP(n b a i2 c):C7 2 ((J5 L).keep 20) (bd (J5 L) Q Y (cd [1,1,1,1,1,1,1,1,1,1,1,0,1,0,0] L3)) n ⟨gp [(2,.ptr 0 0 0),(2,pS b),(3,pS a),(0,.ptr 1 0 0),(0,pI i2)] 175,[bU0,(bU b [] 0 [] 0 0 0 0 0 0 0 0 0 (-1) c)],s⟩ k =
 Y3 L n b a i2 c (λb a e c=>k (.exit 2) ⟨gp [(2,.ptr 0 0 0),(2,pS b),(3,pS a),(0,.ptr 1 0 0)] 176,[bU0,(bU b e 0 [] 0 0 0 0 0 0 0 0 0 (-1) c)],s⟩):=by
 induction n generalizing b a i2 c with
 | zero=>rfl
 | succ n d=>rw[Y3];simp only[<-d];kernel_rfl
noncomputable def Cj{R:Type}(c a:By)(d:Int)(h:Bool)(f g:By)(i:(List Blk)->Option R)(j:By->By->Int->Bool->By->By->Option R)(l:By->By->Int->Bool->By->By->Option R):Option R:=cond h (cond (A3 a.length) (vl (↑(Q9 a ([93]:List UInt8)):Int) λe=>vl (A1 (e+1)) λb=>cond (ltI (a.length:Int) b) (i [(bU c f 0 [] 0 0 0 0 0 0 0 0 0 (-1) g)]) (cond (ltI b (a.length:Int)) (cond (inR b a.length) (cond ((bAt a b)!=58) (i [(bU c f 0 [] 0 0 0 0 0 0 0 0 0 (-1) g)]) (j c a b ((bAt a b)!=58) f g)) none) (j c a b false f g))) none) (l c a d h f g)
abbrev Vb(b:Code):Prop:=∀(k:Out->St Z->Option R) c a d e f g,A9 (J5 L) Q Y b ⟨gp [(2,.ptr 0 0 0),(2,pS c),(3,pS a),(0,.ptr 1 0 0),(1,pI d),(95,pB e)] 78,[bU0,(bU c f 0 [] 0 0 0 0 0 0 0 0 0 (-1) g)],s⟩ k=Cj c a d e f g (λh=>k .ret ⟨gp [(2,.ptr 0 0 0),(0,pI (4:Int))] 183,(bU0::h),s⟩) (λc a d e f g=>k .normal ⟨gp [(2,.ptr 0 0 0),(2,pS c),(3,pS a),(0,.ptr 1 0 0),(1,pI d),(114,pB e)] 59,[bU0,(bU c f 0 [] 0 0 0 0 0 0 0 0 0 (-1) g)],s⟩) (λc a d e f g=>k .normal ⟨gp [(2,.ptr 0 0 0),(2,pS c),(3,pS a),(0,.ptr 1 0 0),(1,pI d),(95,pB e)] 78,[bU0,(bU c f 0 [] 0 0 0 0 0 0 0 0 0 (-1) g)],s⟩)
theorem EM:Vb (R:=R) L Q Y s (cd [1,1,1,1,1,1,1,1,1,1,1,1,1,0,1] L3):=by intro k b a c d e f;unfold Cj;kernel_rfl
noncomputable def Em{R:Type}(L n:Nat)(b a:By)(y l:Int)(v:By)(o:Int)(r:By)(p i q c d e f g h:Int)(j:By)(w:(List Blk)->Option R)(x:By->Int->By->Int->By->Int->Int->Int->Int->Int->Int->Int->Int->Int->By->Option R):Option R:=match n with|0=>none|n+1=>cond (ltI l (a.length:Int)) (cond (inR l a.length) (cond (ltI (bAt a l) (48:Int)) (w [(bU b v o r p i q c d e f g h (-1) j),(bH o r p i q c d e f g h)]) (cond (inR l a.length) (cond (ltI 57 (bAt a l)) (w [(bU b v o r p i q c d e f g h (-1) j),(bH o r p i q c d e f g h)]) (cond (inR l a.length) (vl (wu8 ((bAt a l)-48)) λt=>vl (A1 ((A1 (y*10))+(A1 t))) λm=>vl (if ((1048576:Int)<m) then (1048576:Int) else m) λu=>Em L n b a u (A1 (l+1)) v o r p i q c d e f g h j w x) none)) none)) none) (x b y v o r p i q c d e f g h j)
theorem EQ(n a authority1 n2 i3 j g s6 h f i b c d e n14 n15 s16):C7 3 ((J5 L).keep 36) (bd (J5 L) Q Y (cd [1,1,1,1,1,1,1,1,1,1,1,1,1,1,1,1,1,0,1,0,1,0,1,0,0] L3)) n ⟨gp [(2,.ptr 0 0 0),(2,pS a),(3,pS authority1),(0,.ptr 1 0 0),(4,pI n2),(0,pI i3)] 170,[bU0,(bU a j g s6 h f i b c d e n14 n15 (-1) s16),(bH g s6 h f i b c d e n14 n15)],s⟩ k =
 Em L n a authority1 n2 i3 j g s6 h f i b c d e n14 n15 s16 (λp=>k .ret ⟨gp [(2,.ptr 0 0 0),(0,pI (16:Int))] 183,(bU0::p),s⟩) (λa r t m j g o h f i b c d e l=>k (.exit 4) ⟨gp [(2,.ptr 0 0 0),(2,pS a),(4,.ptr 1 0 0),(4,pI r)] 171,[bU0,(bU a t m j g o h f i b c d e (-1) l),(bH m j g o h f i b c d e)],s⟩):=by
 induction n generalizing a authority1 n2 i3 j g s6 h f i b c d e n14 n15 s16 with
 | zero=>rfl
 | succ n q=>rw[Em];simp only[<-q];kernel_rfl
noncomputable def R7{R:Type}(L:Nat)(d b:By)(t:Int)(x y:By)(w:Int->By->By->Int->By->Int->Int->Int->Int->Int->Int->Int->Int->Int->Int->By->(List Blk)->Option R):Option R:=cond (I6 0 t b.length) (vl (cut b 0 t) λv=>cond (A3 v.length) (vl (C9 v) λa=>cond ((↑(a).2:Int)!=0) (w (↑(a).2:Int) e0 e0 0 e0 0 0 0 0 0 0 0 0 0 0 e0 [(bU d x 0 [] 0 0 0 0 0 0 0 0 0 (-1) y),(bH (hK a) (hN a) (hV a) (hA a 0) (hA a 1) (hA a 2) (hA a 3) (hA a 4) (hA a 5) (hA a 6) (hA a 7))]) (vl (A1 (t+1)) λA=>cond (ltI A (b.length:Int)) (vl (A1 (t+1)) λB=>Em L L d b 0 B x (hK a) (hN a) (hV a) (hA a 0) (hA a 1) (hA a 2) (hA a 3) (hA a 4) (hA a 5) (hA a 6) (hA a 7) y (λz=>w 16 e0 e0 0 e0 0 0 0 0 0 0 0 0 0 0 e0 z) (λc u q e p f g h i j l m n o r=>cond (ltI 65535 u) (w 16 e0 e0 0 e0 0 0 0 0 0 0 0 0 0 0 e0 [(bU c q e p f g h i j l m n o (-1) r),(bH e p f g h i j l m n o)]) (cond (u==(Q6 c)) (w 0 c q e p f g h i j l m n o (-1) r [(bU c q e p f g h i j l m n o (-1) r),(bH e p f g h i j l m n o)]) (w 0 c q e p f g h i j l m n o u r [(bU c q e p f g h i j l m n o u r),(bH e p f g h i j l m n o)])))) (cond (((-1):Int)==(Q6 d)) (w 0 d x (hK a) (hN a) (hV a) (hA a 0) (hA a 1) (hA a 2) (hA a 3) (hA a 4) (hA a 5) (hA a 6) (hA a 7) (-1) y [(bU d x (hK a) (hN a) (hV a) (hA a 0) (hA a 1) (hA a 2) (hA a 3) (hA a 4) (hA a 5) (hA a 6) (hA a 7) (-1) y),(bH (hK a) (hN a) (hV a) (hA a 0) (hA a 1) (hA a 2) (hA a 3) (hA a 4) (hA a 5) (hA a 6) (hA a 7))]) (w 0 d x (hK a) (hN a) (hV a) (hA a 0) (hA a 1) (hA a 2) (hA a 3) (hA a 4) (hA a 5) (hA a 6) (hA a 7) (-1) y [(bU d x (hK a) (hN a) (hV a) (hA a 0) (hA a 1) (hA a 2) (hA a 3) (hA a 4) (hA a 5) (hA a 6) (hA a 7) (-1) y),(bH (hK a) (hN a) (hV a) (hA a 0) (hA a 1) (hA a 2) (hA a 3) (hA a 4) (hA a 5) (hA a 6) (hA a 7))])))) none) none
abbrev Vd(b:Code):Prop:=∀(k:Out->St Z->Option R) name0 authority1 end2 b3 a s5,A9 (J5 L) Q Y b ⟨gp [(2,.ptr 0 0 0),(2,pS name0),(3,pS authority1),(0,.ptr 1 0 0),(1,pI end2),(114,pB b3)] 59,[bU0,(bU name0 a 0 [] 0 0 0 0 0 0 0 0 0 (-1) s5)],s⟩ k=R7 L name0 authority1 end2 a s5 (λn0 q r l a m n o i p d e f g h j c=>k .ret ⟨gp [(2,.ptr 0 0 0),(0,pI n0)] 183,((bU q r l a m n o i p d e f g h j)::c),s⟩)
theorem EN:Vd (R:=R) L Q Y s (cd [1,1,1,1,1,1,1,1,1,1,1,1,1,1] L3):=by intro k c b e j h i;unfold R7;exact(a8 (by kernel_rfl) (A0 (A4 λg=>(A0 (A4 λa=>(A0 rfl (A4 λf=>(A0 (A4 λd=>((EQ L Q Y s (E0 4 (D9 (J5 L) Q Y (cd [1,1,1,1,1,1,1,1,1,1,1,1,1,1,1,1,1,0,1,0,1,1] L3) (D9 (J5 L) Q Y (cd [1,1,1,1,1,1,1,1,1,1,1,1,1,1,1,1,1,1] L3) k))) L c b 0 d h (hK a) (hN a) (hV a) (hA a 0) (hA a 1) (hA a 2) (hA a 3) (hA a 4) (hA a 5) (hA a 6) (hA a 7) i).trans (by kernel_rfl))) (A0 rfl rfl))))) rfl)) rfl))
noncomputable def Le{R:Type}(L:Nat)(p c:By)(u:Int)(A B:By)(x:Int->By->By->Int->By->Int->Int->Int->Int->Int->Int->Int->Int->Int->Int->By->(List Blk)->Option R):Option R:=cond (I6 0 u c.length) (vl (cut c 0 u) λv=>cond (A3 v.length) (vl (C9 v) λa=>cond ((↑(a).2:Int)!=0) (x (↑(a).2:Int) e0 e0 0 e0 0 0 0 0 0 0 0 0 0 0 e0 [(bU p A 0 [] 0 0 0 0 0 0 0 0 0 (-1) B),(bH (hK a) (hN a) (hV a) (hA a 0) (hA a 1) (hA a 2) (hA a 3) (hA a 4) (hA a 5) (hA a 6) (hA a 7))]) (vl (A1 (u+1)) λy=>cond (ltI y (c.length:Int)) (vl (A1 (u+1)) λz=>Em L L p c 0 z A (hK a) (hN a) (hV a) (hA a 0) (hA a 1) (hA a 2) (hA a 3) (hA a 4) (hA a 5) (hA a 6) (hA a 7) B (λw=>x 16 e0 e0 0 e0 0 0 0 0 0 0 0 0 0 0 e0 w) (λb t q d o e f g h i j l m n r=>cond (ltI 65535 t) (x 16 e0 e0 0 e0 0 0 0 0 0 0 0 0 0 0 e0 [(bU b q d o e f g h i j l m n (-1) r),(bH d o e f g h i j l m n)]) (cond (t==(Q6 b)) (x 0 b q d o e f g h i j l m n (-1) r [(bU b q d o e f g h i j l m n (-1) r),(bH d o e f g h i j l m n)]) (x 0 b q d o e f g h i j l m n t r [(bU b q d o e f g h i j l m n t r),(bH d o e f g h i j l m n)])))) (cond (((-1):Int)==(Q6 p)) (x 0 p A (hK a) (hN a) (hV a) (hA a 0) (hA a 1) (hA a 2) (hA a 3) (hA a 4) (hA a 5) (hA a 6) (hA a 7) (-1) B [(bU p A (hK a) (hN a) (hV a) (hA a 0) (hA a 1) (hA a 2) (hA a 3) (hA a 4) (hA a 5) (hA a 6) (hA a 7) (-1) B),(bH (hK a) (hN a) (hV a) (hA a 0) (hA a 1) (hA a 2) (hA a 3) (hA a 4) (hA a 5) (hA a 6) (hA a 7))]) (x 0 p A (hK a) (hN a) (hV a) (hA a 0) (hA a 1) (hA a 2) (hA a 3) (hA a 4) (hA a 5) (hA a 6) (hA a 7) (-1) B [(bU p A (hK a) (hN a) (hV a) (hA a 0) (hA a 1) (hA a 2) (hA a 3) (hA a 4) (hA a 5) (hA a 6) (hA a 7) (-1) B),(bH (hK a) (hN a) (hV a) (hA a 0) (hA a 1) (hA a 2) (hA a 3) (hA a 4) (hA a 5) (hA a 6) (hA a 7))])))) none) none
abbrev Ve(b:Code):Prop:=∀(k:Out->St Z->Option R) name0 authority1 end2 b3 a s5,A9 (J5 L) Q Y b ⟨gp [(2,.ptr 0 0 0),(2,pS name0),(3,pS authority1),(0,.ptr 1 0 0),(1,pI end2),(95,pB b3)] 78,[bU0,(bU name0 a 0 [] 0 0 0 0 0 0 0 0 0 (-1) s5)],s⟩ k=Le L name0 authority1 end2 a s5 (λn0 q r l a m n o i p d e f g h j c=>k .ret ⟨gp [(2,.ptr 0 0 0),(0,pI n0)] 183,((bU q r l a m n o i p d e f g h j)::c),s⟩)
theorem EO:Ve (R:=R) L Q Y s (cd [1,1,1,1,1,1,1,1,1,1,1,1,1,1] L3):=by intro k d b f j h i;unfold Le;exact(a8 (by kernel_rfl) (A0 (A4 λg=>(A0 (A4 λa=>(A0 rfl (A4 λe=>(A0 (A4 λc=>((EQ L Q Y s (E0 4 (D9 (J5 L) Q Y (cd [1,1,1,1,1,1,1,1,1,1,1,1,1,1,1,1,1,0,1,0,1,1] L3) (D9 (J5 L) Q Y (cd [1,1,1,1,1,1,1,1,1,1,1,1,1,1,1,1,1,1] L3) k))) L d b 0 c h (hK a) (hN a) (hV a) (hA a 0) (hA a 1) (hA a 2) (hA a 3) (hA a 4) (hA a 5) (hA a 6) (hA a 7) i).trans (by kernel_rfl))) (A0 rfl rfl))))) rfl)) rfl))
noncomputable def Hv{R:Type}(L:Nat)(v b O:By)(A:Int->By->By->Int->By->Int->Int->Int->Int->Int->Int->Int->Int->Int->Int->By->(List Blk)->Option R):Option R:=vl (A1 ((b.length:Int)-1)) λC=>Y3 L L v b C O (λg a r t=>cond (A3 a.length) (vl (↑(Q9 a ([58]:List UInt8)):Int) λq=>cond (not (a==e0)) (cond (inR 0 a.length) (vl (bAt a (0:Int)) λD=>Cj g a q (D==91) r t (λB=>A 4 e0 e0 0 e0 0 0 0 0 0 0 0 0 0 0 e0 B) (λm e o M F G=>R7 L m e o F G A) (λn f p N H I=>Le L n f p H I A)) none) (Cj g a q false r t (λu=>A 4 e0 e0 0 e0 0 0 0 0 0 0 0 0 0 0 e0 u) (λh c j J w x=>R7 L h c j w x A) (λi d l K y z=>Le L i d l y z A))) none)
abbrev Vf(b:Code):Prop:=∀(k:Out->St Z->Option R) name0 authority1 a,A9 (J5 L) Q Y b ⟨gp [(2,.ptr 0 0 0),(2,pS name0),(3,pS authority1),(0,.ptr 1 0 0)] 176,[bU0,(bU name0 [] 0 [] 0 0 0 0 0 0 0 0 0 (-1) a)],s⟩ k=Hv L name0 authority1 a (λn0 q a l r m n o i p d e f g h j c=>k .ret ⟨gp [(2,.ptr 0 0 0),(0,pI n0)] 183,((bU q a l r m n o i p d e f g h j)::c),s⟩)
theorem Ao3(b:Code)(d:Vb (R:=R) L Q Y s b)(a:Code)(e:Vd (R:=R) L Q Y s a)(f:Ve (R:=R) L Q Y s a):Vf (R:=R) L Q Y s (cd [1,1,1,1,1,1,1,1,1,1,1] (G2 [1,1,1,1,1,1,1,1,1,1,1,1,1,1] a (G2 [1,1,1,1,1,1,1,1,1,1,1,1,1,0,1] b L3))):=by intro k B l T;unfold Hv;exact let S:=(D9 (J5 L) Q Y a k);(a8 (by kernel_rfl) (A4 λJ=>((EP L Q Y s (E0 2 (D9 (J5 L) Q Y (cd [1,1,1,1,1,1,1,1,1,1,1,1] (G2 [1,1,1,1,1,1,1,1,1,1,1,1,1,1] a (G2 [1,1,1,1,1,1,1,1,1,1,1,1,1,0,1] b L3))) k)) L B l J T).trans (congr rfl (fx4 λm c x y=>(a8 (by kernel_rfl) (A0 (A4 λw=>(A0 (A0 (A4 λK=>((d S m c w (K==91) x y).trans (congr (congr (congr rfl (by kernel_rfl)) (fx6 λr i u H M N=>(a8 (by kernel_rfl) ((e k r i u H M N).trans (by kernel_rfl))))) (fx6 λt j v I O P=>(a8 (by kernel_rfl) ((f k t j v I O P).trans (by kernel_rfl))))))) rfl) ((d S m c w false x y).trans (congr (congr (congr rfl (by kernel_rfl)) (fx6 λn g p z C D=>(a8 (by kernel_rfl) ((e k n g p z C D).trans (by kernel_rfl))))) (fx6 λo h q A F G=>(a8 (by kernel_rfl) ((f k o h q A F G).trans (by kernel_rfl)))))))) rfl)))))))
theorem Ao4:Vf (R:=R) L Q Y s (cd [1,1,1,1,1,1,1,1,1,1,1] L3):=by intro k b a c;exact a8 (by kernel_rfl) (Ao3 L Q Y s (cd [1,1,1,1,1,1,1,1,1,1,1,1,1,0,1] L3) (EM L Q Y s) (cd [1,1,1,1,1,1,1,1,1,1,1,1,1,1] L3) (EN L Q Y s) (EO L Q Y s) k b a c)
noncomputable def MS{R:Type}(L:Nat)(y z b:By)(J:Int->By->By->Int->By->Int->Int->Int->Int->Int->Int->Int->Int->Int->Int->By->(List Blk)->Option R):Option R:=vl (A1 ((b.length:Int)-1)) λw=>Y3 L L y b w z (λg a r t=>cond (A3 a.length) (vl (↑(Q9 a ([58]:List UInt8)):Int) λq=>cond (not (a==e0)) (cond (inR 0 a.length) (vl (bAt a (0:Int)) λx=>Cj g a q (x==91) r t (λu=>J 4 e0 e0 0 e0 0 0 0 0 0 0 0 0 0 0 e0 u) (λh c m K A B=>R7 L h c m A B J) (λi d n M C D=>Le L i d n C D J)) none) (Cj g a q false r t (λv=>J 4 e0 e0 0 e0 0 0 0 0 0 0 0 0 0 0 e0 v) (λj e o N F G=>R7 L j e o F G J) (λl f p O H I=>Le L l f p H I J))) none)
abbrev Vg(b:Code):Prop:=∀(k:Out->St Z->Option R) name0 rest1 authority2 b3,A9 (J5 L) Q Y b ⟨gp [(2,.ptr 0 0 0),(2,pS name0),(0,pS rest1),(2,pS authority2),(0,.ptr 1 0 0),(66,pB b3)] 109,[bU0,(bU name0 [] 0 [] 0 0 0 0 0 0 0 0 0 (-1) rest1)],s⟩ k=MS L name0 rest1 authority2 (λn0 p q j r l m n h o c d e f g i a=>k .ret ⟨gp [(2,.ptr 0 0 0),(0,pI n0)] 183,((bU p q j r l m n h o c d e f g i)::a),s⟩)
theorem Ao6(b:Code)(d:Vb (R:=R) L Q Y s b)(a:Code)(e:Vd (R:=R) L Q Y s a)(f:Ve (R:=R) L Q Y s a):Vg (R:=R) L Q Y s (cd [1,1,1,1,1,1,1,1,1,1,1] (G2 [1,1,1,1,1,1,1,1,1,1,1,1,1,1] a (G2 [1,1,1,1,1,1,1,1,1,1,1,1,1,0,1] b L3))):=by intro k G H m U;unfold MS;exact let T:=(D9 (J5 L) Q Y a k);(a8 (by kernel_rfl) (A4 λD=>((EP L Q Y s (E0 2 (D9 (J5 L) Q Y (cd [1,1,1,1,1,1,1,1,1,1,1,1] (G2 [1,1,1,1,1,1,1,1,1,1,1,1,1,1] a (G2 [1,1,1,1,1,1,1,1,1,1,1,1,1,0,1] b L3))) k)) L G m D H).trans (congr rfl (fx4 λl c x y=>(a8 (by kernel_rfl) (A0 (A4 λw=>(A0 (A0 (A4 λF=>((d T l c w (F==91) x y).trans (congr (congr (congr rfl (by kernel_rfl)) (fx6 λn g r z I J=>(a8 (by kernel_rfl) ((e k n g r z I J).trans (by kernel_rfl))))) (fx6 λo h t A K M=>(a8 (by kernel_rfl) ((f k o h t A K M).trans (by kernel_rfl))))))) rfl) ((d T l c w false x y).trans (congr (congr (congr rfl (by kernel_rfl)) (fx6 λp i u B N O=>(a8 (by kernel_rfl) ((e k p i u B N O).trans (by kernel_rfl))))) (fx6 λq j v C P S=>(a8 (by kernel_rfl) ((f k q j v C P S).trans (by kernel_rfl)))))))) rfl)))))))
theorem Ao7:Vg (R:=R) L Q Y s (cd [1,1,1,1,1,1,1,1,1,1,1] L3):=by intro k b c a d;exact a8 (by kernel_rfl) (Ao6 L Q Y s (cd [1,1,1,1,1,1,1,1,1,1,1,1,1,0,1] L3) (EM L Q Y s) (cd [1,1,1,1,1,1,1,1,1,1,1,1,1,1] L3) (EN L Q Y s) (EO L Q Y s) k b c a d)
noncomputable def Qg{R:Type}(L:Nat)(s0:By)(k0:By->By->Int->By->Int->Int->Int->Int->Int->Int->Int->Int->Int->Int->By->Int->(List Blk)->Option R):Option R:=El L L s0 0 (λb4=>k0 e0 e0 0 e0 0 0 0 0 0 0 0 0 0 0 e0 4 (bU0::b4)) (λa=>cond (A3 a.length) (cond (not (((Dp a)).2).2) (k0 e0 e0 0 e0 0 0 0 0 0 0 0 0 0 0 e0 15 [bU0]) (cond (not (J1 ((Dp a)).1)) (k0 ((Dp a)).1 e0 0 e0 0 0 0 0 0 0 0 0 0 (-1) (((Dp a)).2).1 0 [(bU (((Dp a)).1) e0 (0:Int) e0 (0:Int) (0:Int) (0:Int) (0:Int) (0:Int) (0:Int) (0:Int) (0:Int) (0:Int) ((-1):Int) ((((Dp a)).2).1))]) (cond (ltI (↑(j2 (((Dp a)).2).1):Int) (2:Int)) (k0 e0 e0 0 e0 0 0 0 0 0 0 0 0 0 0 e0 4 [bU0]) (cond (I6 0 (2:Int) (j2 (((Dp a)).2).1)) (vl (cut (((Dp a)).2).1 (0:Int) (2:Int)) λb5=>cond (not (b5==[47,47])) (k0 e0 e0 0 e0 0 0 0 0 0 0 0 0 0 0 e0 4 [bU0]) (cond (I6 2 (↑(j2 (((Dp a)).2).1):Int) (j2 (((Dp a)).2).1)) (vl (cut (((Dp a)).2).1 (2:Int) (↑(j2 (((Dp a)).2).1):Int)) λb=>cond (A3 b.length) (vl (↑(Q9 b ([47,63,35]:List UInt8)):Int) λd=>cond (I6 0 d b.length) (cond (I6 d (b.length:Int) b.length) (vl (cut b d (b.length:Int)) λc=>cond (c==e0) (cond (E7 1 c.length) (vl (([47]:List UInt8)++c) λb2=>Hv L ((Dp a)).1 (cut b 0 d) b2 (λa9 P S e T f g h i j l m n o p U a5=>k0 P S e T f g h i j l m n o p U a9 ((bU P S e T f g h i j l m n o p U)::a5))) none) (cond (inR 0 c.length) (cond ((bAt c (0:Int))!=47) (cond (E7 1 c.length) (vl (([47]:List UInt8)++c) λb3=>Hv L ((Dp a)).1 (cut b 0 d) b3 (λb0 V W q X r t u v w x y z A B a0 a6=>k0 V W q X r t u v w x y z A B a0 b0 ((bU V W q X r t u v w x y z A B a0)::a6))) none) (MS L ((Dp a)).1 c (cut b 0 d) (λb1 a1 a2 C a3 D F G H I J K M N O a4 a7=>k0 a1 a2 C a3 D F G H I J K M N O a4 b1 ((bU a1 a2 C a3 D F G H I J K M N O a4)::a7)))) none)) none) none) none) none)) none)))) none)
theorem Cw0(a:Code)(b:Vf (R:=PV × List Blk × Z) L Q Y s a)(c:Vg (R:=PV × List Blk × Z) L Q Y s a)(t:By):A9 (J5 L) Q Y (cd [] (G2 [1,1,1,1,1,1,1,1,1,1,1] a L3)) ⟨[pS t]++tps 186,[],s⟩ (F0 (J5 L) ae7)=Qg L t (λu v w x y z A B r8 C m n o p q r l=>some (.tup [(gU u v w x y z A B r8 C m n o p q),pI r],l,s)):=by unfold Qg;exact let j:=(F0 (J5 L) ae7);(a8 (by kernel_rfl) ((Ao8 L Q Y s (E0 0 (D9 (J5 L) Q Y (cd [1,1] (G2 [1,1,1,1,1,1,1,1,1,1,1] a L3)) j)) L t 0).trans (congr (congr rfl (by kernel_rfl)) (fx1 λe=>(a8 (by kernel_rfl) (A0 (A0 rfl (A0 rfl (A0 rfl (A0 (A4 λD=>(A0 rfl (A0 (A4 λf=>(A0 (A4 λd=>(A0 (A0 (A4 λi=>(A0 (A0 (A4 λg=>((b j ((Dp e)).1 (cut f 0 d) g).trans (by kernel_rfl))) rfl) (A0 (A0 (A0 (A4 λh=>((b j ((Dp e)).1 (cut f 0 d) h).trans (by kernel_rfl))) rfl) ((c j ((Dp e)).1 i (cut f 0 d) ((bAt i (0:Int))!=47)).trans (by kernel_rfl))) rfl))) rfl) rfl)) rfl)) rfl))) rfl)))) rfl))))))
theorem Cw1(d:Nat)(s0):evC (J5 L) (d+1) Z Y 57 [pS s0] [] s=Qg L s0 (λi j l m n o p q r8 r b c e f g h a=>some (.tup [(gU i j l m n o p q r8 r b c e f g),pI h],a,s)):=
 (evE (fn:=ae7) (by kernel_rfl)).trans (a8 (by kernel_rfl) (Cw0 L (evC (J5 L) d) Y s (cd [1,1,1,1,1,1,1,1,1,1,1] L3) (Ao4 L (evC (J5 L) d) Y s) (Ao7 L (evC (J5 L) d) Y s) s0))
noncomputable def BB(L:Nat):Cfg:=B5 L [28] (A2 []) [(57,UL)] (A2 [(3,[2,0]),(2,[2,0]),(1,[0,1,3]),(0,[0,1])]) [] (A2 []) (some [2,0]) [] [] []
noncomputable def GH{R:Type}(L:Nat)(b:By)(c:By->By->Int->By->Int->Int->Int->Int->Int->Int->Int->Int->Int->Int->By->Int->(List Blk)->Option R):Option R:=cond (ltI 2048 (b.length:Int)) (c e0 e0 0 e0 0 0 0 0 0 0 0 0 0 0 e0 3 [bU0]) (cond (A3 b.length) (vl (C4 b) λa=>c (uS a) (uU a) (uK a) (uN a) (uV a) (uA a 0) (uA a 1) (uA a 2) (uA a 3) (uA a 4) (uA a 5) (uA a 6) (uA a 7) (uP a) (uR a) (uE a) [(bQ a)]) none)
theorem Bh7(d:Nat)(s0):evC (BB L) (d+1) Z Y 28 [pS s0] [] s=GH L s0 (λi j l m n o p q r8 r b c e f g h a=>some (.tup [(gU i j l m n o p q r8 r b c e f g),pI h],a,s)):=by refine(evE (fn:=Tryz.f28) (by kernel_rfl)).trans ?_;generalize evC (BB L) d=Q;unfold GH;kernel_rfl
noncomputable def JS(L:Nat):Cfg:=B5 L [58] (A2 []) [(91,IM),(59,UC),(95,GR)] (A2 [(11,[2]),(8,[1,1]),(10,[1,1]),(9,[1,1,37]),(7,[1,1,28]),(6,[1,1]),(5,[1,1]),(4,[1,1,15]),(3,[1,1]),(2,[2]),(1,[1,5]),(0,[1])]) [91,59,95] (A2 []) (some [2]) [] [] []
noncomputable def Vm{R:Type}(L:Nat)(j t:By)(u:Int)(m:By)(n o p q u8 r e f g c:Int)(a:By)(z:By->(List Blk)->Option R):Option R:=cond (not (J1 j)) (cond (E7 j.length 1) (vl (j++[58]) λA=>cond (E7 A.length a.length) (z (A++a) [(bU j t u m n o p q u8 r e f g c a)]) none) none) (cond (E7 j.length 3) (vl (j++[58,47,47]) λb=>cond (not (t==e0)) (cond (E7 t.length 1) (vl (t++[64]) λh=>cond (E7 b.length h.length) (cond (A3 m.length) (cond (ltN n 4294967296) (cond (ok8 o p q u8 r e f g) (vl (Bt (mkH u m n (n8 o p q u8 r e f g))) λi=>cond (E7 (j2 (b++h)) i.length) (cond (not (ltI c 0)) (cond (ltN c 9223372036854775808) (vl (af0 (b9 c)) λD=>cond (E7 1 D.length) (vl (([58]:List UInt8)++D) λF=>cond (E7 (j2 ((b++h)++i)) F.length) (vl (((b++h)++i)++F) λv=>cond (E7 v.length a.length) (z (v++a) [(bU j t u m n o p q u8 r e f g c a)]) none) none) none) none) (cond (ltI c ((-1):Int)) (cond (E7 (j2 ((b++h)++i)) 2) (vl (((b++h)++i)++[58,120]) λw=>cond (E7 w.length a.length) (z (w++a) [(bU j t u m n o p q u8 r e f g c a)]) none) none) (cond (E7 (j2 ((b++h)++i)) a.length) (vl (((b++h)++i)++a) λB=>z B [(bU j t u m n o p q u8 r e f g c a)]) none))) none) none) none) none) none) none) (cond (A3 m.length) (cond (ltN n 4294967296) (cond (ok8 o p q u8 r e f g) (vl (Bt (mkH u m n (n8 o p q u8 r e f g))) λd=>cond (E7 b.length d.length) (cond (not (ltI c 0)) (cond (ltN c 9223372036854775808) (vl (af0 (b9 c)) λx=>cond (E7 1 x.length) (vl (([58]:List UInt8)++x) λl=>cond (E7 (j2 (b++d)) l.length) (cond (E7 (j2 ((b++d)++l)) a.length) (vl (((b++d)++l)++a) λC=>z C [(bU j t u m n o p q u8 r e f g c a)]) none) none) none) none) (cond (ltI c ((-1):Int)) (cond (E7 (j2 (b++d)) 2) (vl ((b++d)++[58,120]) λy=>cond (E7 y.length a.length) (z (y++a) [(bU j t u m n o p q u8 r e f g c a)]) none) none) (cond (E7 (j2 (b++d)) a.length) (z ((b++d)++a) [(bU j t u m n o p q u8 r e f g c a)]) none))) none) none) none) none)) none)
theorem Ca3(d:Nat)(u0 u1 u2 u3 u4 u5 u6 u7 u8 u9 u10 u11 u12 u13 u14):evC (JS L) (d+1) Z Y 58 [(gU u0 u1 u2 u3 u4 u5 u6 u7 u8 u9 u10 u11 u12 u13 u14)] [] s=Vm L u0 u1 u2 u3 u4 u5 u6 u7 u8 u9 u10 u11 u12 u13 u14 (λb a=>some (pS b,a,s)):=by refine(evE (fn:=Tryz.f58) (by kernel_rfl)).trans ?_;generalize evC (JS L) d=Q;unfold Vm;kernel_rfl
noncomputable def Ue(L:Nat):Cfg:=B5 L [54] (A2 []) [(58,IO),(57,UL)] (A2 [(2,[2]),(1,[1,1,0]),(0,[1])]) [58] (A2 []) (some [2]) [] [] []
noncomputable def Yr{R:Type}(L:Nat)(h i:By)(q:Int)(j:By)(l m n o u8 p b c d e:Int)(f:By)(r:Bool->(List Blk)->Option R):Option R:=cond (smU h i j f) (cond (ltN l 4294967296) (cond (ok8 m n o u8 p b c d) (cond (M8 e) (vl (Ez (mkU h i q j l (n8 m n o u8 p b c d) e f)) λg=>cond (A3 g.length) (vl (C4 g) λa=>cond ((uE a)==0) (r (((uS a)==h)&&(((uU a)==i)&&(((uK a)==q)&&(((uN a)==j)&&(((uV a)==l)&&(((uA a 0)==m)&&(((uA a 1)==n)&&(((uA a 2)==o)&&(((uA a 3)==u8)&&(((uA a 4)==p)&&(((uA a 5)==b)&&(((uA a 6)==c)&&(((uA a 7)==d)&&(((uP a)==e)&&(((uR a)==f)&&true))))))))))))))) [(bU h i q j l m n o u8 p b c d e f),(bQ a)]) (r false [(bU h i q j l m n o u8 p b c d e f),(bQ a)])) none) none) none) none) none
theorem Aq4(d:Nat)(u0 u1 u2 u3 u4 u5 u6 u7 u8 u9 u10 u11 u12 u13 u14):evC (Ue L) (d+1) Z Y 54 [(gU u0 u1 u2 u3 u4 u5 u6 u7 u8 u9 u10 u11 u12 u13 u14)] [] s=Yr L u0 u1 u2 u3 u4 u5 u6 u7 u8 u9 u10 u11 u12 u13 u14 (λb a=>some (pB b,a,s)):=by refine(evE (fn:=Tryz.f54) (by kernel_rfl)).trans ?_;generalize evC (Ue L) d=Q;unfold Yr;kernel_rfl
noncomputable def WM(L:Nat):Cfg:=B5 L [32] (A2 []) [(54,Lr),(58,IO)] (A2 [(3,[2]),(2,[2]),(1,[1,3]),(0,[1])]) [54,58] (A2 []) (some [2]) [] [] []
noncomputable def Bw8{R:Type}(L:Nat)(f g:By)(o:Int)(h:By)(i j l m u8 n a b c d:Int)(e:By)(q:By->(List Blk)->Option R):Option R:=cond (smU f g h e) (cond (ltN i 4294967296) (cond (ok8 j l m u8 n a b c) (cond (M8 d) (cond (not (O8 (mkU f g o h i (n8 j l m u8 n a b c) d e))) (q e0 [(bU f g o h i j l m u8 n a b c d e)]) (cond (smU f g h e) (cond (ltN i 4294967296) (cond (ok8 j l m u8 n a b c) (cond (M8 d) (vl (Ez (mkU f g o h i (n8 j l m u8 n a b c) d e)) λp=>q p [(bU f g o h i j l m u8 n a b c d e)]) none) none) none) none)) none) none) none) none
theorem Cv3(d:Nat)(u0 u1 u2 u3 u4 u5 u6 u7 u8 u9 u10 u11 u12 u13 u14):evC (WM L) (d+1) Z Y 32 [(gU u0 u1 u2 u3 u4 u5 u6 u7 u8 u9 u10 u11 u12 u13 u14)] [] s=Bw8 L u0 u1 u2 u3 u4 u5 u6 u7 u8 u9 u10 u11 u12 u13 u14 (λb a=>some (pS b,a,s)):=by refine(evE (fn:=Tryz.f32) (by kernel_rfl)).trans ?_;generalize evC (WM L) d=Q;unfold Bw8;kernel_rfl
noncomputable def WN(L:Nat):Cfg:=B5 L [29] (A2 []) [] (A2 [(1,[2]),(0,[1])]) [] (A2 []) (some [2]) [] [] []
noncomputable def Bw9{R:Type}(L:Nat)(f h:By)(i:Int)(j:By)(l m n o u8 p a b c d:Int)(e:By)(g:Bool->(List Blk)->Option R):Option R:=cond (f==[104,116,116,112]) (g true [(bU f h i j l m n o u8 p a b c d e)]) (g (f==[119,115]) [(bU f h i j l m n o u8 p a b c d e)])
theorem Cv8(d:Nat)(u0 u1 u2 u3 u4 u5 u6 u7 u8 u9 u10 u11 u12 u13 u14):evC (WN L) (d+1) Z Y 29 [(gU u0 u1 u2 u3 u4 u5 u6 u7 u8 u9 u10 u11 u12 u13 u14)] [] s=Bw9 L u0 u1 u2 u3 u4 u5 u6 u7 u8 u9 u10 u11 u12 u13 u14 (λb a=>some (pB b,a,s)):=by refine(evE (fn:=Tryz.f29) (by kernel_rfl)).trans ?_;generalize evC (WN L) d=Q;unfold Bw9;kernel_rfl
end
theorem Aq3{R:Type}{e:Bool->Option R}(s:By):ZH LF s e=e (J1 s):=by unfold ZH J1 Cp bWs Ay Tm;generalize (s==([104,116,116,112]:List UInt8))=a;generalize (s==([119,115]:List UInt8))=b;generalize (s==([104,116,116,112,115]:List UInt8))=c;generalize (s==([119,115,115]:List UInt8))=d;cases a<;>cases b<;>cases c<;>cases d<;>rfl
theorem Bi2{R:Type}{e:Int->Option R}(s:By):Bx0 LF s e=e (Q6 s):=by unfold Bx0 Q6 Cp bWs Ay Tm;generalize (s==([104,116,116,112]:List UInt8))=a;generalize (s==([119,115]:List UInt8))=b;generalize (s==([104,116,116,112,115]:List UInt8))=c;generalize (s==([119,115,115]:List UInt8))=d;cases a<;>cases b<;>cases c<;>cases d<;>rfl
theorem Kz(a b:UInt8):((a.toNat:Int)==(b.toNat:Int))=(a==b):=by rw[x7,beq_iff_eq,beq_iff_eq];exact⟨λh=>aa6.1 (by omega),λh=>by rw[h]⟩
theorem Cv7{R:Type}{a:Int->Option R}{b:By->By->Int->Option R}(s t:By)(i:Nat)(h:s.length<=1000000000)(k:t.length<=1000000000)(g:i<s.length):∀(r j n:Nat),j+r=t.length->r<n->
  Hr LF n s t (i:Int) (j:Int) a b=if (t.drop j).contains (s.getD i 0)=true then a (i:Int) else b s t (i:Int):=by
 intro r
 induction r with
 | zero=>
  intro j n d e;obtain⟨n,rfl⟩:∃m,n=m+1:=⟨n-1,by omega⟩
  rw[Hr];rw[A6,c9 (by omega)];rfl
 | succ r f=>
  intro j n d e;obtain⟨n,rfl⟩:∃m,n=m+1:=⟨n-1,by omega⟩
  have c:A1 ((j:Int)+1)=((j+1:Nat):Int):=by rw[A7];rfl
  rw[Hr];rw[A8,E9,E9,D3,D3,Kz,D5 t j (by omega),aa9,c];simp only[cond_true];rw[f (j+1) n (by omega) (by omega)];cases (s.getD i 0==t.getD j 0)<;>rfl
theorem Ca0{R:Type}{a:Int->Option R}{c:By->Option R}(s t:By)(j:s.length<=1000000000)(k:t.length<=1000000000):∀(r i n:Nat),i+r=s.length->r<n->
  Hs LF n s t (i:Int) a c=if Q9 (s.drop i) t<r then a ((i+Q9 (s.drop i) t:Nat):Int) else c s:=by
 have e:=C2;intro r
 induction r with
 | zero=>
  intro i n f g;obtain⟨n,rfl⟩:∃m,n=m+1:=⟨n-1,by omega⟩
  rw[Hs];rw[A6,G3];rfl
 | succ r l=>
  intro i n f g;obtain⟨n,rfl⟩:∃m,n=m+1:=⟨n-1,by omega⟩
  have d:A1 ((i:Int)+1)=((i+1:Nat):Int):=by rw[A7];rfl
  rw[Hs];rw[A8,cond_true];refine a8 (Cv7 s t i j k (by omega) t.length 0 LF (by omega) (by omega)) ?_;rw[j8,d,l (i+1) n (by omega) (by omega),D5 s i (by omega)];unfold Q9;cases h:t.contains (s.getD i 0) with
  | true=>
   rw[if_pos rfl,w9,h];rfl
  | false=>
   rw[if_neg (by simp),w9,h];simp only[j0,if_true,j6,ab6];rw[show i+1+(ae4 (λb=>!t.contains b) (s.drop (i+1))).length=i+((ae4 (λb=>!t.contains b) (s.drop (i+1))).length+1) by omega]
theorem A31(s t:By):Q9 s t<=s.length:=af5 (List.takeWhile_sublist _)
theorem Bh5{R:Type}{a:Int->Option R}(s t:By)(b:A3 s.length=true)(c:A3 t.length=true):Cv5 LF s t a=a (Q9 s t:Int):=by
 have e:=K7 b;have f:=K7 c;have d:=C2;have g:=A31 s t;refine(Ca0 s t e f s.length 0 LF (by omega) (by omega)).trans ?_;rw[j8,Nat.zero_add];split
 ·rfl
 ·rw[show Q9 s t=s.length by omega]
set_option maxHeartbeats 4000000 in theorem ET{R:Type}(s:By)(i:Nat)(b:UInt8)(f:By->Int->Option R)(g:Unit->Option R) :
  Ap s (i:Int) (b.toNat:Int) (λs i _=>f s i) g=if P7 b=true\/(i≠0/\O5 b=true) then f s i else g ():=by
 have a:(b=43)=(b.toNat=43):=by rw[eq_iff_iff,<-aa6];rfl
 have d:(b=45)=(b.toNat=45):=by rw[eq_iff_iff,<-aa6];rfl
 have e:(b=46)=(b.toNat=46):=by rw[eq_iff_iff,<-aa6];rfl
 simp only[U3,Ji,a,d,e];unfold Ap Hy Yq Lh Hx Lg Hw;generalize b.toNat=c;simp only[cond_eq_ite,ad2,Kv,beq_iff_eq,Bool.not_eq_false',Mr,beq_eq_false_iff_ne,j1,j0,aa8,Bool.true_eq_false,if_true,if_false,ne_eq]
 repeat' split
 all_goals first|rfl|(exfalso;omega)
theorem ZZ{c:UInt8}:∀{p:By},c∉p->p.takeWhile (λb=>b !=c)=p
 | [],_=>rfl
 | b::p,h=>by
  simp only[ac9,not_or] at h;rw[w9,if_pos (by simpa using af8 h.1),ZZ h.2]
theorem Cz3{c:UInt8}{p:By}(r:By)(h:c∉p):(p++c::r).takeWhile (λb=>b !=c)=p:=by
 rw[List.takeWhile_append_of_pos (λx a=>by
  rw[bne_iff_ne];intro e;subst e;exact h a),w9,if_neg (by simp),aa4]
theorem D29{c b:UInt8}(r:By)(h:b≠c):(b::r).takeWhile (λb=>b !=c)=b::r.takeWhile λb=>b !=c:=by rw[w9,if_pos (by simpa using h)]
theorem Ck6(b:UInt8):((b.toNat:Int)==58)=(b==58):=Kz b 58
theorem Bi0{R:Type}{c:By->By->Bool->Option R}(s:By)(q:s.length<=1000000000):∀(r i n:Nat),1<=i->i+r=s.length->r<n->
  O0 LF n s (i:Int) c (λ_=>c [] [] false)=if ((s.drop i).takeWhile λb=>b !=58).all O5=true/\((s.drop i).takeWhile λb=>b !=58).length<r then c (B9 (s.take (i+((s.drop i).takeWhile λb=>b !=58).length))) (s.drop (i+((s.drop i).takeWhile λb=>b !=58).length+1)) true else c [] [] false:=by
 intro r
 induction r with
 | zero=>
  intro i n k l o;obtain⟨n,rfl⟩:∃m,n=m+1:=⟨n-1,by omega⟩
  rw[O0];rw[A6,G3];rfl
 | succ r p=>
  intro i n k l o;obtain⟨n,rfl⟩:∃m,n=m+1:=⟨n-1,by omega⟩
  have g:A1 ((i:Int)+1)=((i+1:Nat):Int):=by rw[A7];rfl
  rw[O0];unfold Lf;rw[A8,E9,D3,D5 s i (by omega),Ck6,A8];simp only[cond_true,cond_false];by_cases a:s.getD i 0=58
  ·rw[a,show((58:UInt8)==58)=true from rfl,cond_true,show((58:UInt8)::s.drop (i+1)).takeWhile (λb=>b !=58)=[] from rfl,if_pos ⟨rfl,by simp⟩];simp only[vl];rw[I1,K6,b8,E6 (by rw[o5];omega),g,I1,P4,b8];rfl
  ·rw[show(s.getD i 0==58)=false by simpa using a,cond_false,D29 _ a];simp only[vl];refine(ET s i (s.getD i 0) (λf e=>O0 LF n f (A1 (e+1)) c λ_=>c [] [] false) (λ_=>c [] [] false)).trans ?_;rw[g,p (i+1) n (by omega) (by omega) (by omega),aa2,j6];have j:(P7 (s.getD i 0)=true\/i≠0/\O5 (s.getD i 0)=true)↔O5 (s.getD i 0)=true:=by
    refine⟨λh=>?_,λh=>.inr ⟨by omega,h⟩⟩;rcases h with h|⟨_,h⟩
    ·rw[Ji];rw[U3] at h;exact h.elim .inl λh=>.inr (.inl h)
    ·exact h
   by_cases d:O5 (s.getD i 0)=true
   ·rw[if_pos (j.2 d)];simp only[d,w8,ab6];rw[show i+1+((s.drop (i+1)).takeWhile λb=>b !=58).length=i+(((s.drop (i+1)).takeWhile λb=>b !=58).length+1) by omega]
   ·rw[if_neg (λh=>d (j.1 h)),if_neg (λh=>d (by have:=h.1;rw[p6] at this;exact this.1))]
theorem Bi1{R:Type}{a:By->By->Bool->Option R}(s:By)(n:A3 s.length=true):Ap2 LF s a=a (Dp s).1 (Dp s).2.1 (Dp s).2.2:=by
 have u:=K7 n;have o:=C2;obtain⟨N,hN⟩:∃m,LF=m+1:=⟨LF-1,by omega⟩
 unfold Ap2;rw[show O0 LF LF = @O0 R LF (N+1) by rw[<-hN],O0];unfold Lf;cases s with
 | nil=>
  rfl
 | cons b r=>
  rw[j6] at u;rw[B7 (by simp only[j6];omega),K3 (by omega) (by simp),Ai,ac6,Ck6,A6];simp only[cond_true,cond_false,vl];have l:A1 (((0:Nat):Int)+1)=((1:Nat):Int):=rfl;have go:Ap (b::r) ((0:Nat):Int) (b.toNat:Int) (λe d _=>O0 LF N e (A1 (d+1)) a λ_=>a [] [] false) (λ_=>a [] [] false)=if P7 b=true/\(r.takeWhile λb=>b !=58).all O5=true/\(r.takeWhile λb=>b !=58).length<r.length then a (B9 ((b::r).take (1+(r.takeWhile λb=>b !=58).length))) ((b::r).drop (1+(r.takeWhile λb=>b !=58).length+1)) true else a [] [] false:=by
   refine(ET (b::r) 0 b (λe d=>O0 LF N e (A1 (d+1)) a λ_=>a [] [] false) (λ_=>a [] [] false)).trans ?_;rw[l,Bi0 (b::r) (by simp;omega) r.length 1 N (by omega) (by simp;omega) (by omega)];by_cases j:P7 b=true
   ·rw[if_pos (.inl j)];simp only[j,true_and];rfl
   ·rw[if_neg (by simp[j]),if_neg (λh=>j h.1)]
  have k:∀c,(bif c then Ap (b::r) 0 (b.toNat:Int) (λe d _=>O0 LF N e (A1 (d+1)) a λ_=>a [] [] false) (λ_=>a [] [] false) else Ap (b::r) 0 (b.toNat:Int) (λe d _=>O0 LF N e (A1 (d+1)) a λ_=>a [] [] false) (λ_=>a [] [] false))=Ap (b::r) ((0:Nat):Int) (b.toNat:Int) (λe d _=>O0 LF N e (A1 (d+1)) a λ_=>a [] [] false) (λ_=>a [] [] false):=λc=>by cases c<;>rfl
  refine(k _).trans (go.trans ?_);unfold Dp;rcases U0 58 r with f|⟨p,t,rfl,f⟩
  ·rw[ZZ f,G3];by_cases i:b=58
   ·subst i;rw[show ab3 (58::r) [58]=([],r,true) from Ak (p:=[]) (by simp)];rfl
   ·rw[Rc (by simp only[ac9,not_or];exact⟨af8 i,f⟩)];rfl
  ·rw[Cz3 t f];by_cases i:b=58
   ·subst i;rw[show ab3 (58::(p++58::t)) [58]=([],p++58::t,true) from Ak (p:=[]) (by simp),if_neg (λh=>by cases h.1)];rfl
   ·rw[show ab3 (b::(p++58::t)) [58]=(b::p,t,true) from Ak (p:=b::p) (by simp only[ac9,not_or];exact⟨af8 i,f⟩)];simp only[w8];have q:W9 (b::p)=(P7 b&&p.all O5):=rfl;rw[q];by_cases g:P7 b=true/\p.all O5=true
    ·rw[if_pos ⟨g.1,g.2,by simp⟩,g.1,g.2,show(b::(p++58::t))=(b::p)++58::t from rfl,show 1+p.length=(b::p).length by rw[j6];omega,ac4,show(b::p)++58::t=((b::p)++[58])++t by simp,ac0 (by simp)];rfl
    ·rw[if_neg (λh=>g ⟨h.1,h.2.1⟩),if_neg (by simpa using g)]
def OD:Int->By->Option Int
 | n,[]=>some n
 | n,b::r=>if 48<=b.toNat/\b.toNat<=57 then OD (min (n*10+((b.toNat-48:Nat):Int)) 1048576) r else none
theorem Aj6:∀(l:By) (n v:Int),0<=v->v<=65536->n<=1048576->(v<65536->n=v)->(v=65536->65536<=n)->Jy v l=(OD n l).bind λm=>if 65535<m then none else some m
 | [],n,v,d,e,f,c,g=>by
  unfold Jy OD;rw[aa0];by_cases h:v<65536
  ·rw[if_pos h,G3,c h]
  ·rw[if_neg h,T5]
 | b::r,n,v,d,e,f,c,g=>by
  unfold Jy OD;by_cases a:48<=b.toNat/\b.toNat<=57
  ·rw[if_pos a,if_pos a];exact Aj6 r _ _ (by omega) (by omega) (by omega) (by omega) (by omega)
  ·rw[if_neg a,if_neg a];rfl
theorem A73(b:UInt8)(r:By):Jy (-1) (b::r)=Jy 0 (b::r):=rfl
theorem Al2:∀(l:By) (n m:Int),0<=n->n<=1048576->OD n l=some m->0<=m/\m<=1048576
 | [],n,m,a,c,h=>by
  obtain rfl:n=m:=Option.some.inj h;exact⟨a,c⟩
 | b::r,n,m,a,c,h=>by
  unfold OD at h;split at h
  ·exact Al2 r _ m (by omega) (by omega) h
  ·cases h
theorem Ap1{R:Type}(q u t:By)(d:Int)(e:By)(f g h j k l o p c:Int)(a:By)(L:a.length<=1000000000)(w:List Blk->Option R)(x:By->Int->By->Int->By->Int->Int->Int->Int->Int->Int->Int->Int->Int->By->Option R):∀(r i n:Nat) (v:Int),i+r=a.length->r<n->0<=v->v<=1048576->
  Em LF n q a v (i:Int) u d e f g h j k l o p c t w x=match OD v (a.drop i) with
   | none=>w [bU q u d e f g h j k l o p c (-1) t,bH d e f g h j k l o p c]
   | some m=>x q m u d e f g h j k l o p c t:=by
 intro r
 induction r with
 | zero=>
  intro i n v I J D F;obtain⟨n,rfl⟩:∃m,n=m+1:=⟨n-1,by omega⟩
  rw[Em];rw[A6,c9 (by omega)];rfl
 | succ r K=>
  intro i n v I J D F;obtain⟨n,rfl⟩:∃m,n=m+1:=⟨n-1,by omega⟩
  have y:A1 ((i:Int)+1)=((i+1:Nat):Int):=by rw[A7];rfl
  rw[Em];rw[A8,E9,D3,D5 a i (by omega),y];have M:=(a.getD i 0).toNat_lt;generalize a.getD i 0=b at *;unfold OD;simp only[cond_true,vl];by_cases G:b.toNat<48
  ·rw[A8,cond_true,G3]
  ·rw[A6,cond_false];by_cases H:57<b.toNat
   ·rw[A8,cond_true,G3]
   ·rw[A6,cond_false,if_pos (show 48<=b.toNat/\b.toNat<=57 by omega)];have z:A1 (v*10)=v*10:=A7;have A:wu8 ((b.toNat:Int)-48)=((b.toNat-48:Nat):Int):=by rw[M4];omega
    have B:A1 ((b.toNat-48:Nat):Int)=((b.toNat-48:Nat):Int):=A7;have C:A1 (v*10+((b.toNat-48:Nat):Int))=v*10+((b.toNat-48:Nat):Int):=A7;rw[z,A,B,C,show(if (1048576:Int)<v*10+((b.toNat-48:Nat):Int) then (1048576:Int) else v*10+((b.toNat-48:Nat):Int))=min (v*10+((b.toNat-48:Nat):Int)) 1048576 by omega];exact K (i+1) n _ (by omega) (by omega) (by omega) (by omega)
abbrev KE(R:Type):=Int->By->By->Int->By->Int->Int->Int->Int->Int->Int->Int->Int->Int->Int->By->List Blk->Option R
abbrev PN{R:Type}(a:KE R)(q:X2 × Nat)(H:List Blk):Option R:=a (uE q) (uS q) (uU q) (uK q) (uN q) (uV q) (uA q 0) (uA q 1) (uA q 2) (uA q 3) (uA q 4) (uA q 5) (uA q 6) (uA q 7) (uP q) (uR q) H
theorem Jf(c l j a:By)(e:Nat)(q:a.length<=1000000000)(w:e<=a.length):∃H,∀(R:Type) (f:KE R),R7 LF c a (e:Int) l j f=PN f (hpT (a.take e) (a.drop e) c l j) H:=by
 have p:=C2;have n:A1 ((e:Int)+1)=((e+1:Nat):Int):=by rw[A7];rfl
 have k:A3 (a.take e).length=true:=E6 (by rw[o5];omega);by_cases h:(C9 (a.take e)).2=0
 ·by_cases t:e+1<a.length
  ·have i:(a.drop e).drop 1=a.drop (e+1):=by rw[ab0]
   have r:=D5 a (e+1) t;have u:Jy (-1) (a.drop (e+1))=(OD 0 (a.drop (e+1))).bind λm=>if 65535<m then none else some m:=by
    rw[r,A73];exact Aj6 _ 0 0 (by omega) (by omega) (by omega) (by omega) (by omega)
   have x:=@Al2 (a.drop (e+1)) 0;generalize v:OD 0 (a.drop (e+1))=g at *;have o:g=none\/(∃m,g=some m/\65535<m)\/(∃m,g=some m/\¬ 65535<m/\m=Q6 c)\/∃m,g=some m/\¬ 65535<m/\m≠Q6 c:=by
    cases g with
    | none=>exact .inl rfl
    | some m=>
     by_cases b:65535<m
     ·exact .inr (.inl ⟨m,rfl,b⟩)
     ·by_cases d:m=Q6 c
      ·exact .inr (.inr (.inl ⟨m,rfl,b,d⟩))
      ·exact .inr (.inr (.inr ⟨m,rfl,b,d⟩))
   rcases o with rfl|⟨m,rfl,b⟩|⟨m,rfl,b,d⟩|⟨m,rfl,b,d⟩
   all_goals
    apply v8;intro R f;unfold R7 hpT;rw[I1,K6,b8,i,u];simp only[vl,cond_true,k,h,n];rw[A8,Ap1 c l j _ _ _ _ _ _ _ _ _ _ _ a q _ _ (a.length-(e+1)) (e+1) LF 0 (by omega) (by omega) (by omega) (by omega),v]
   ·rfl
   ·simp only[aa0,if_pos b];rw[A8];rfl
   ·simp only[aa0,if_neg b,if_pos d];rw[A6,show(m==Q6 c)=true by simpa using d];rfl
   ·simp only[aa0,if_neg b,if_neg d];rw[A6,show(m==Q6 c)=false by simpa using d];rfl
  ·have i:(a.drop e).drop 1=[]:=by rw[ab0,c9 (by omega)]
   apply v8;intro R f;unfold R7 hpT;rw[I1,K6,b8,i];simp only[vl,cond_true,k,h,n];rw[A6];simp only[Jy,show((-1:Int)<65536)=True by simp,if_true,ite_self,show((((0:Nat):Int)!=0))=false from rfl,cond_false,ne_eq,not_true_eq_false,if_false];cases (-1:Int)==Q6 c<;>rfl
 ·apply v8;intro R f;unfold R7 hpT;rw[I1,K6,b8];simp only[vl,cond_true,k];rw[show(((C9 (a.take e)).2:Int)!=0)=true by simpa using h,cond_true,if_pos h];rfl
theorem Da8{c:UInt8}{a:By}(h:Hh c a=none):c∉a:=λd=>by
 rcases U0 c a with b|⟨p,r,rfl,b⟩
 ·exact b d
 ·rw[Ah9 r b] at h;cases h
theorem Ag5(c:UInt8)(a:By):Q9 a [c]=match Hh c a with|some k=>k|none=>a.length:=by
 have e:Q9 a [c]=(a.takeWhile λb=>b !=c).length:=by
  unfold Q9
  congr 2
  funext b
  simp[aa9,bne];rfl
 rw[e];cases h:Hh c a with
 | none=>rw[ZZ (Da8 h)]
 | some k=>
  obtain⟨p,r,rfl,d,rfl⟩:=Rh h;rw[Cz3 r d]
theorem MR(c f d a:By)(w:a.length<=1000000000):∃H,∀(R:Type) (g:KE R),(cond (not (a==([]:By)))
   (cond (inR (0:Int) (j2 a))
   (Cj c a (Q9 a [58]:Int) (bAt a 0==(91:Int)) f d (λH=>PN g (Cq,4) H) (λo t n y u v=>R7 LF o t n u v g) (λo t n y u v=>R7 LF o t n u v g))
   none)
   (Cj c a (Q9 a [58]:Int) false f d (λH=>PN g (Cq,4) H) (λo t n y u v=>R7 LF o t n u v g) (λo t n y u v=>R7 LF o t n u v g)))=PN g (U9 c f d a) H:=by
 cases a with
 | nil=>
  obtain⟨H,e⟩:=Jf c f d [] 0 w (ab4 _);exact⟨H,e⟩
 | cons b r=>
  have F:(((b.toNat:Int))==91)=(b==91):=Kz b 91;have z:(!((b::r)==([]:By)))=true:=rfl;have G:inR (0:Int) (b::r).length=true:=K3 (by omega) (by simp);have A:A3 (b::r).length=true:=E6 w;rw[Xf];unfold Kx Cj;simp only[z,G,A,cond_true,cond_false,vl,Ai,ac6,F,ae3,o9,Ag5];by_cases j:b=91
  ·rw[show(b==91)=true by simpa using j,if_pos j];simp only[cond_true];cases B:Hh 93 (b::r) with
   | none=>
    apply v8;intro R g;simp only;rw[A7,A8];rfl
   | some k=>
    obtain⟨_,K⟩:=XJ B;have C:A1 ((k:Int)+1)=((k+1:Nat):Int):=by rw[A7];rfl
    simp only[C];rw[A6];simp only[cond_false];obtain⟨H,e⟩:=Jf c f d (b::r) (k+1) w (by omega);by_cases I:k+1<(b::r).length
    ·rw[A8,E9];simp only[cond_true,D3];have m:=D5 (b::r) (k+1) I;by_cases i:(b::r).getD (k+1) 0=58
     ·have l:hpC ((b::r).take (k+1)) ((b::r).drop (k+1)) c f d=hpT ((b::r).take (k+1)) ((b::r).drop (k+1)) c f d:=if_neg (λh=>h.2 (by rw[m,i];rfl));rw[l];refine⟨H,λR g=>a8 ?_ (e R g)⟩;rw[i];rfl
     ·have l:hpC ((b::r).take (k+1)) ((b::r).drop (k+1)) c f d=(Cq,4):=if_pos ⟨by rw[m];simp,by rw[m];simpa using i⟩;rw[l];apply v8;intro R g;rw[show((((b::r).getD (k+1) 0).toNat:Int)!=58)=true by rw[bne,Ck6];simpa using i];rfl
    ·have m:(b::r).drop (k+1)=[]:=c9 (by omega);rw[A6];have l:hpC ((b::r).take (k+1)) ((b::r).drop (k+1)) c f d=hpT ((b::r).take (k+1)) ((b::r).drop (k+1)) c f d:=if_neg (λh=>h.1 m);rw[l];exact⟨H,e⟩
  ·rw[show(b==91)=false by simpa using j,if_neg j];simp only[cond_false];cases B:Hh 58 (b::r) with
   | none=>
    obtain⟨H,e⟩:=Jf c f d (b::r) (b::r).length w (ab4 _);rw[List.take_length,List.drop_length] at e;exact⟨H,e⟩
   | some k=>
    obtain⟨p,q,x,J,D⟩:=Rh B;obtain⟨H,e⟩:=Jf c f d (b::r) k w (by rw[x,j4];omega);have m:(b::r).drop k=58::q:=by rw[x,<-D,List.drop_left]
    have l:hpC ((b::r).take k) ((b::r).drop k) c f d=hpT ((b::r).take k) ((b::r).drop k) c f d:=if_neg (λh=>h.2 (by rw[m];rfl));refine⟨H,λR g=>(e R g).trans ?_⟩;show _=PN g (hpC _ _ c f d) H;rw[l]
theorem Ap0{R:Type}{c:By->By->By->By->Option R}(d a f:By)(l:a.length<=1000000000)(b:(64:UInt8)∉a):∀(j n:Nat),j<=a.length->j<n->Y3 LF n d a ((j:Int)-1) f c=c d a [] f:=by
 intro j
 induction j with
 | zero=>
  intro n g i;obtain⟨n,rfl⟩:∃m,n=m+1:=⟨n-1,by omega⟩
  rw[Y3];rw[A8];rfl
 | succ j k=>
  intro n g i;obtain⟨n,rfl⟩:∃m,n=m+1:=⟨n-1,by omega⟩
  rw[Y3];have h:a.getD j 0≠64:=λe=>b (by
   rw[<-e,j5,o6 (by omega)];exact y9 _)
  rw[show((j+1:Nat):Int)-1=(j:Int) by omega,A6,E9,D3,show(((a.getD j 0).toNat:Int)==64)=(a.getD j 0==64) from Kz _ 64,show(a.getD j 0==64)=false by simpa using h];simp only[j0,cond_true,cond_false];rw[C8 (n:=(j:Int)-1) (by omega) (by omega)];exact k n (by omega) (by omega)
theorem Ao9{R:Type}{b:By->By->By->By->Option R}(c p r d:By)(l:(p++64::r).length<=1000000000)(a:(64:UInt8)∉r):∀(k n:Nat),k<=r.length->p.length+k<n->Y3 LF n c (p++64::r) ((p.length+k:Nat):Int) d b=b c r p d:=by
 have o:(p++64::r).length=p.length+r.length+1:=by rw[j4,j6];omega
 intro k
 induction k with
 | zero=>
  intro n g i;obtain⟨n,rfl⟩:∃m,n=m+1:=⟨n-1,by omega⟩
  have f:A1 ((p.length:Int)+1)=((p.length+1:Nat):Int):=by rw[A7];rfl
  rw[Y3];rw[Nat.add_zero,A6,E9,D3,show(p++64::r).getD p.length 0=64 by simp[j5]];simp only[vl,cond_true,j0];rw[I1,K6,b8,ac4,f,I1,P4,b8,show p++64::r=(p++[64])++r by simp,ac0 (by simp)];rfl
 | succ k j=>
  intro n g i;obtain⟨n,rfl⟩:∃m,n=m+1:=⟨n-1,by omega⟩
  rw[Y3];have h:(p++64::r).getD (p.length+(k+1)) 0≠64:=λe=>a (by
   rw[<-e,j5,List.getElem?_append_right (by omega),show p.length+(k+1)-p.length=k+1 by omega,List.getElem?_cons_succ,o6 (by omega)];exact y9 _)
  rw[A6,E9,D3,show((((p++64::r).getD (p.length+(k+1)) 0).toNat:Int)==64)=((p++64::r).getD (p.length+(k+1)) 0==64) from Kz _ 64,show((p++64::r).getD (p.length+(k+1)) 0==64)=false by simpa using h,show((p.length+(k+1):Nat):Int)-1=((p.length+k:Nat):Int) by omega];simp only[j0,cond_true,cond_false];rw[C8 (n:=((p.length+k:Nat):Int)) (by omega) (by omega)];exact j n (by omega) (by omega)
theorem Ao5(c d a:By)(f:a.length<=1000000000):∃H,∀(R:Type) (b:KE R),Hv LF c a d b=PN b (H9 c d a) H:=by
 have j:=C2;unfold H9;by_cases h:0<=L6 64 a
 ·obtain⟨p,r,rfl,g,k⟩:=LE h;rw[if_pos h,k,b8,ac4,show p++64::r=(p++[64])++r by simp,ac0 (by simp),show(p++[64])++r=p++64::r by simp];have m:(p++64::r).length=p.length+r.length+1:=by rw[j4,j6];omega
  obtain⟨H,e⟩:=MR c p d r (by omega);refine⟨H,λR b=>a8 ?_ (e R b)⟩;unfold Hv;simp only[vl];rw[A7,show((p++64::r).length:Int)-1=((p.length+r.length:Nat):Int) by omega,Ao9 c p r d f g r.length LF (ab4 _) (by omega),J9];rfl
 ·rw[if_neg h];have i:(64:UInt8)∉a:=λl=>by
   obtain⟨p,r,rfl,g⟩:=CC l;rw[CB p g] at h;omega
  obtain⟨H,e⟩:=MR c [] d a f;refine⟨H,λR b=>a8 ?_ (e R b)⟩;unfold Hv;simp only[vl];rw[A7,Ap0 c a d f i a.length LF (ab4 _) (by omega),E6 f];rfl
theorem Bh9{R:Type}{a:List Blk->Option R}{b:By->Option R}(s:By)(g:s.length<=1000000000):∀(r i n:Nat),i+r=s.length->r<n->
  El LF n s (i:Int) a b=if (s.drop i).any ctl then a [] else b s:=by
 intro r
 induction r with
 | zero=>
  intro i n d e;obtain⟨n,rfl⟩:∃m,n=m+1:=⟨n-1,by omega⟩
  rw[El];rw[A6,c9 (by omega)];rfl
 | succ r f=>
  intro i n d e;obtain⟨n,rfl⟩:∃m,n=m+1:=⟨n-1,by omega⟩
  have c:A1 ((i:Int)+1)=((i+1:Nat):Int):=by rw[A7];rfl
  rw[El];rw[A8,E9,D3,D5 s i (by omega),c,ab5,Bs0];simp only[cond_true];rw[f (i+1) n (by omega) (by omega)];cases ltI 32 ((s.getD i 0).toNat:Int) with
  | false=>rfl
  | true=>cases (((s.getD i 0).toNat:Int)==127)<;>rfl
theorem XE(t:By):Q9 t [47,63,35]=K4 t:=by
 unfold Q9 K4
 congr 2
 funext b
 simp[W6,aa9,Bool.or_assoc];rfl
theorem D22(r:By):([47,47]:By).isPrefixOf r=(r.take 2==[47,47]):=by rw[x7,ab1,List.prefix_iff_eq_take,beq_iff_eq];exact eq_comm
theorem Ca1(s:By)(i:A3 s.length=true):∃H,∀(R:Type) (d:KU R),Qg LF s d=JY d (C4 s) H:=by
 have P:=K7 i;have M:=C2;have L:∀{R:Type} (d:List Blk->Option R) (y:By->Option R),El LF LF s 0 d y=if s.any ctl then d [] else y s:=λd y=>Bh9 s P s.length 0 LF (by omega) (by omega)
 unfold C4;by_cases g:s.any ctl=true
 ·rw[if_pos g];apply v8;intro R d;unfold Qg;rw[L,if_pos g];rfl
 rw[if_neg g];have x:(ab3 s [58]).2.1.length<=s.length:=by
  rcases U0 58 s with h|⟨p,r,rfl,h⟩
  ·rw[Rc h];exact ae0 _
  ·rw[Ak h,j4,j6];show r.length<=_;omega
 have a:Dp s=if (ab3 s [58]).2.2&&W9 (ab3 s [58]).1 then (B9 (ab3 s [58]).1,(ab3 s [58]).2.1,true) else ([],[],false):=rfl
 generalize ab3 s [58]=q at *;obtain⟨p,r,f⟩:=q;simp only at a x ⊢;cases v:(f&&W9 p) with
 | false=>
  rw[v] at a;rw[if_pos (by rw[<-af3,v];rfl)];apply v8;intro R d;unfold Qg;rw[L,if_neg g,i,a];rfl
 | true=>
 rw[v] at a;rw[if_neg (by rw[<-af3,v];simp)];simp only[if_true] at a;cases c:J1 (B9 p) with
 | false=>
  apply v8;intro R d;unfold Qg;rw[L,if_neg g,i,a];simp only[vl,cond_true,j1,cond_false];rw[c];rfl
 | true=>
 rw[if_neg (by simp)];by_cases U:r.length<2
 ·rw[if_pos (by rw[D22];simp only[ad2,beq_eq_false_iff_ne];intro e;have:=congrArg j2 e;rw[o5] at this;simp at this;omega)];apply v8;intro R d;unfold Qg;rw[L,if_neg g,i,a];simp only[vl,cond_true,j1,cond_false];rw[c,A8];rfl
 have z:cut r (0:Int) (2:Int)=r.take 2:=K6 r 2;have K:cut r (2:Int) (r.length:Int)=r.drop 2:=P4 r 2;rw[D22];cases Um:(r.take 2==([47,47]:By)) with
 | false=>
  apply v8;intro R d;unfold Qg;rw[L,if_neg g,i,a];simp only[vl,cond_true,j1,cond_false];rw[c,A6,I1];simp only[vl,cond_true,j1,cond_false,z];rw[Um];rfl
 | true=>
 rw[if_neg (by simp)];generalize S:r.drop 2=t at *;have lt:t.length<=r.length:=by rw[<-S,j7];omega
 have Q:=Yz t;obtain⟨H,e⟩:=Ao5 (B9 p) (X1 (t.drop (K4 t))) (t.take (K4 t)) (by rw[o5];omega);refine⟨(λq=>bU (uS q) (uU q) (uK q) (uN q) (uV q) (uA q 0) (uA q 1) (uA q 2) (uA q 3) (uA q 4) (uA q 5) (uA q 6) (uA q 7) (uP q) (uR q)::H) (H9 (B9 p) (X1 (t.drop (K4 t))) (t.take (K4 t))),λR d=>?_⟩;refine a8 ?_ (e R λn0 G I A J B C D n8 F j k l m n o w=>d G I A J B C D n8 F j k l m n o n0 (bU G I A J B C D n8 F j k l m n o::w));unfold Qg;rw[L,if_neg g,i,a];simp only[vl,cond_true,j1,cond_false];rw[c,A6,I1];simp only[vl,cond_true,j1,cond_false,z];rw[Um,I1];simp only[vl,cond_true,j1,cond_false,K];rw[J9,XE,I1,I1,K6,P4,b8];simp only[cond_true];have V:(t.drop (K4 t)).length<=t.length:=by rw[j7];omega
 generalize t.drop (K4 t)=X at *;generalize t.take (K4 t)=T at *;unfold X1;cases X with
 | nil=>rfl
 | cons b X=>
  have N:inR (0:Int) (b::X).length=true:=K3 (by omega) (by simp);have O:((((b::X).getD 0 0).toNat:Int)!=47)=(b !=47):=by rw[bne,bne];exact congrArg _ (Kz b 47)
  rw[show((b::X)==([]:By))=false from rfl,N,Ai,O];simp only[cond_true,cond_false,ae3,o9];by_cases u:b=47
  ·rw[show(b !=47)=false by simpa using u,if_pos u];rfl
  ·rw[show(b !=47)=true by simpa using u,if_neg u,G0 (by omega)];rfl
theorem Cw2(s:By)(a:A3 s.length=true):∃r H,Qg LF s rvU=rv r H/\r.stab [0,0] H=pvU (C4 s):=by obtain⟨H,e⟩:=Ca1 s a;exact⟨_,_,e _ _,rfl⟩
theorem Bh8(s:By)(a:A3 s.length=true):∃r H,GH LF s rvU=rv r H/\r.stab [0,0] H=pvU (W5 s):=by
 unfold GH W5;by_cases h:2048<s.length
 ·rw[A8,if_pos h];exact⟨_,_,rfl,rfl⟩
 ·rw[A6,if_neg h,a];exact⟨_,_,rfl,rfl⟩
section
variable {Z R : Type} (L : Nat) (Q : F8) (Y : Yh Z) (s : Z) (k : Out -> St Z -> Option R)
noncomputable def JQ(L:Nat):Cfg:=B5 L [194] (A2 []) [] (A2 [(1,[2]),(0,[0])]) [] (A2 []) (some [2]) [] [] []
noncomputable def ZD{R:Type}(L:Nat)(n0:Int)(a:Bool->Option R):Option R:=cond (not (ltI n0 0)) (cond (not (ltI 1114111 n0)) (cond (ltI n0 55296) (a true) (a (ltI 57343 n0))) (a false)) (a false)
theorem B93(d:Nat)(n0):evC (JQ L) (d+1) Z Y 194 [pI n0] [] s=ZD L n0 (λa=>some (pB a,[],s)):=by refine(evE (fn:=Tryz.f194) (by kernel_rfl)).trans ?_;generalize evC (JQ L) d=Q;unfold ZD;kernel_rfl
noncomputable abbrev Pd:Code:=C3 ad9
noncomputable def X6(L:Nat):Cfg:=B5 L [193] (A2 [(6,[0,5,0])]) [] (A2 [(9,[6]),(8,[0,6]),(7,[0,6]),(6,[0,6,11]),(5,[0,6]),(4,[0]),(2,[0,0]),(3,[0,0]),(1,[0,0,6]),(0,[0,0,0])]) [] (A2 [(0,[0,6]),(1,[0,6])]) (some [6]) [] [] []
noncomputable def Gl{R:Type}(L n:Nat)(a b:Int)(e:Int->Int->Option R):Option R:=match n with|0=>none|n+1=>cond (ltI 455 a) (vl (A1 (v7 a (35:Int))) λc=>vl (A1 (b+36)) λd=>Gl L n c d e) (e a b)
theorem YP(n a b):C7 0 ((X6 L).keep 6) (bd (X6 L) Q Y (cd [1,1,1,1,0,0,0] Pd)) n ⟨gp [(0,pI a),(6,pI b)] 23,[],s⟩ k =
 Gl L n a b (λa b=>k (.exit 0) ⟨gp [(0,pI a),(6,pI b)] 23,[],s⟩):=by
 induction n generalizing a b with
 | zero=>rfl
 | succ n c=>rw[Gl];simp only[<-c];kernel_rfl
noncomputable def Gk{R:Type}(L:Nat)(b h:Int)(i:Int->Option R):Option R:=cond (h !=0) (vl (A1 (v7 b h)) λg=>Gl L L (A1 (b+g)) 0 (λa d=>vl (A1 ((36:Int)*a)) λe=>vl (A1 (a+38)) λc=>cond (c !=0) (vl (A1 (v7 e c)) λf=>i (A1 (d+f))) none)) none
abbrev EH(b:Code):Prop:=∀(k:Out->St Z->Option R) delta0 n1,A9 (X6 L) Q Y b ⟨gp [(0,pI delta0),(0,pI n1)] 29,[],s⟩ k=Gk L delta0 n1 (λn0=>k .ret ⟨gp [(6,pI n0)] 24,[],s⟩)
theorem YO:EH (R:=R) L Q Y s (cd [1,1] Pd):=by intro k a c;unfold Gk;exact(a8 (by kernel_rfl) (A0 (A4 λb=>((YP L Q Y s (E0 0 (D9 (X6 L) Q Y (cd [1,1,1,1,1] Pd) k)) L (A1 (a+b)) 0).trans (by kernel_rfl))) rfl))
noncomputable def MG{R:Type}(L:Nat)(a h:Int)(b:Bool)(g:Int->Option R):Option R:=cond b (vl (A1 (v7 a (700:Int))) λe=>Gk L e h (λc=>g c)) (vl (A1 (v7 a (2:Int))) λf=>Gk L f h (λd=>g d))
theorem B69(d:Code)(a:EH (R:=PV × List Blk × Z) L Q Y s d)(b e:Int)(c:Bool):A9 (X6 L) Q Y (cd [] (G2 [1,1] d Pd)) ⟨[pI b,pI e,pB c]++tps 28,[],s⟩ (F0 (X6 L) ad9)=MG L b e c (λi=>some (pI i,[],s)):=by unfold MG;exact let h:=(F0 (X6 L) ad9);(a8 (by kernel_rfl) (A0 (A4 λf=>((a h f e).trans (by kernel_rfl))) (A4 λg=>((a h g e).trans (by kernel_rfl)))))
theorem B70(d:Nat)(delta0 n1 first2):evC (X6 L) (d+1) Z Y 193 [pI delta0,pI n1,pB first2] [] s=MG L delta0 n1 first2 (λa=>some (pI a,[],s)):=
 (evE (fn:=ad9) (by kernel_rfl)).trans (a8 (by kernel_rfl) (B69 L (evC (X6 L) d) Y s (cd [1,1] Pd) (YO L (evC (X6 L) d) Y s) delta0 n1 first2))
noncomputable def A06(L:Nat):Cfg:=B5 L [192] (A2 []) [] (A2 [(1,[4]),(0,[0,0])]) [] (A2 []) (some [4]) [] [] []
noncomputable def Dh2{R:Type}(L:Nat)(c a:Int)(e:Int->Option R):Option R:=vl (A1 ((36:Int)*(A1 (c+1)))) λb=>vl (if ((if ((A1 (b-a))<(26:Int)) then (A1 (b-a)) else (26:Int)) > (1:Int)) then (if ((A1 (b-a))<(26:Int)) then (A1 (b-a)) else (26:Int)) else (1:Int)) λd=>e d
theorem Dh3(d:Nat)(kk0 bias1):evC (A06 L) (d+1) Z Y 192 [pI kk0,pI bias1] [] s=Dh2 L kk0 bias1 (λa=>some (pI a,[],s)):=by refine(evE (fn:=Tryz.f192) (by kernel_rfl)).trans ?_;generalize evC (A06 L) d=Q;unfold Dh2;kernel_rfl
noncomputable def WH(L:Nat):Cfg:=B5 L [195] (A2 []) [] (A2 [(3,[2]),(2,[2]),(1,[0,3]),(0,[0])]) [] (A2 []) (some [2]) [] [] []
noncomputable def Bv8{R:Type}(L:Nat)(a:Int)(d:Int->Option R):Option R:=cond (ltI a 26) (vl (wu8 (A1 ((97:Int)+a))) λb=>d b) (vl (A1 ((A1 ((48:Int)+a))-26)) λc=>d (wu8 c))
theorem Cs1(d:Nat)(d0):evC (WH L) (d+1) Z Y 195 [pI d0] [] s=Bv8 L d0 (λa=>some (p8 a,[],s)):=by refine(evE (fn:=Tryz.f195) (by kernel_rfl)).trans ?_;generalize evC (WH L) d=Q;unfold Bv8;kernel_rfl
noncomputable abbrev Tt:Code:=C3 ad8
noncomputable def Jr(L:Nat):Cfg:=B5 L [191] (A2 []) [] (A2 [(7,[2]),(2,[2]),(4,[2]),(6,[2]),(5,[0,22]),(3,[0,12]),(1,[0,2]),(0,[0])]) [] (A2 [(0,[])]) (some [2]) [] [] []
noncomputable def Ys{R:Type}(a:Int)(g:Bool)(e:Int->Option R)(f:Int->Bool->Option R):Option R:=cond g (vl (A1 (wu8 (a-65))) λb=>e b) (cond (not (ltI a 48)) (cond (not (ltI 57 a)) (vl (A1 (wu8 (a-48))) λc=>vl (A1 (c+26)) λd=>e d) (f a (not (ltI 57 a)))) (f a false))
abbrev RM(b:Code):Prop:=∀(k:Out->St Z->Option R) a c,A9 (Jr L) Q Y b ⟨gp [(0,p8 a),(12,pB c)] 20,[],s⟩ k=Ys a c (λn0=>k .ret ⟨gp [(2,pI n0)] 31,[],s⟩) (λa c=>k .normal ⟨gp [(0,p8 a),(22,pB c)] 10,[],s⟩)
theorem Bj0:RM (R:=R) L Q Y s (cd [1,0,0,1,1,1] Tt):=by intro k a b;unfold Ys;kernel_rfl
noncomputable def Yt{R:Type}(a:Int)(l:Bool)(f:Int->Option R)(j:Int->Bool->Option R):Option R:=cond l (vl (A1 (wu8 (a-97))) λg=>f g) (cond (not (ltI a 65)) (Ys a (not (ltI 90 a)) (λh=>f h) (λb c=>j b c)) (Ys a false (λi=>f i) (λd e=>j d e)))
abbrev CP(b:Code):Prop:=∀(k:Out->St Z->Option R) a c,A9 (Jr L) Q Y b ⟨gp [(0,p8 a),(2,pB c)] 30,[],s⟩ k=Yt a c (λn0=>k .ret ⟨gp [(2,pI n0)] 31,[],s⟩) (λa c=>k .normal ⟨gp [(0,p8 a),(22,pB c)] 10,[],s⟩)
theorem Bj1(a:Code)(b:RM (R:=R) L Q Y s a):CP (R:=R) L Q Y s (cd [1,0,0,1] (G2 [1,0,0,1,1,1] a Tt)):=by intro k c d;unfold Yt;simp only[<-b k];kernel_rfl
theorem Bj2:CP (R:=R) L Q Y s (cd [1,0,0,1] Tt):=by intro k a b;exact a8 (by kernel_rfl) (Bj1 L Q Y s (cd [1,0,0,1,1,1] Tt) (Bj0 L Q Y s) k a b)
noncomputable def Cx0{R:Type}(L:Nat)(c:Int)(d:Int->Option R):Option R:=cond (not (ltI c 97)) (Yt c (not (ltI 122 c)) (λa=>d a) (λe f=>d (-1))) (Yt c false (λb=>d b) (λg h=>d (-1)))
theorem Di3(b:Code)(a:CP (R:=PV × List Blk × Z) L Q Y s b)(c:Int):A9 (Jr L) Q Y (cd [] (G2 [1,0,0,1] b Tt)) ⟨[p8 c]++tps 33,[],s⟩ (F0 (Jr L) ad8)=Cx0 L c (λe=>some (pI e,[],s)):=by unfold Cx0;exact let d:=(E0 0 (D9 (Jr L) Q Y (cd [1,1] Tt) (F0 (Jr L) ad8)));(a8 (by kernel_rfl) (A0 ((a d c (not (ltI 122 c))).trans (by kernel_rfl)) ((a d c false).trans (by kernel_rfl))))
theorem Di4(d:Nat)(b0):evC (Jr L) (d+1) Z Y 191 [p8 b0] [] s=Cx0 L b0 (λa=>some (pI a,[],s)):=
 (evE (fn:=ad8) (by kernel_rfl)).trans (a8 (by kernel_rfl) (Di3 L (evC (Jr L) d) Y s (cd [1,0,0,1] Tt) (Bj2 L (evC (Jr L) d) Y s) b0))
noncomputable abbrev Bw:Code:=C3 ad5
noncomputable def N0(L:Nat):Cfg:=B5 L [155] (A2 [(32,[0,1,0,0,1,0,0,0,0,2,0,0]),(25,[0,1,0,0,1,0,0,0,0,2]),(18,[0,1,0,0,1,0,0,0,0,0,0]),(15,[0,1,0,0,1,0,0,0,0]),(5,[0,1,0,0,0])]) [(194,Vw),(192,Aw9),(195,Bo7),(193,HP)] (A2 [(43,[2,0]),(42,[0,3,1,0,0,0,0]),(41,[0,3,1,0,0,0,0]),(26,[0,3,1,0,0,0,0,2]),(40,[0,3,1,0,0,0,0,2]),(39,[0,3,1,0,0,0,0,2]),(38,[0,3,1,0,0,1,2]),(37,[0,3,1,0,0,0,3]),(36,[0,3,1,0,0,0,0,2,0,0]),(35,[0,3,1,0,0,0,0,2,0,0]),(34,[0,3,1,0,0,0,0,2,0,0,0]),(33,[0,3,1,0,0,0,0,2,0,0,0]),(32,[0,3,1,0,0,0,0,2,0,0,94]),(31,[0,3,1,0,0,0,0,2,0,0]),(30,[0,3,1,0,0,0,0,2,0]),(29,[0,3,1,0,0,0,0,2,90]),(28,[0,3,1,0,0,0,0,2]),(27,[0,3,1,0,0,0,0,2,82]),(25,[0,3,1,0,0,0,0,2,74]),(24,[0,3,1,0,0,0,0,2]),(23,[0,3,1,0,0,0,0]),(22,[0,3,1,0,1,0,0]),(19,[0,3,1,0,0,0,0,0,0]),(21,[0,3,1,0,0,0,0,0,0]),(20,[0,3,1,0,0,0,0,0,0,56]),(18,[0,3,1,0,0,0,0,0,0,48]),(17,[0,3,1,0,0,0,0,0,0]),(16,[0,3,1,0,0,0,0,0]),(15,[0,3,1,0,0,0,0,46]),(14,[0,3,1,0,0,0,0]),(13,[0,3,1,0]),(12,[0,3,1,0,42]),(11,[0,3,1,0]),(6,[0,3,0]),(10,[0,3,0]),(9,[0,3,0,30]),(8,[2,0]),(7,[0,3,0,25]),(5,[0,3,0,17]),(4,[0,3,0]),(3,[0,3]),(2,[2,0]),(1,[0,18]),(0,[0])]) [194,192,195,193] (A2 [(2,[4]),(3,[0,3,1,0,0,0,0]),(6,[0,3,1,0,0,0,0]),(7,[0,3,1,0,0,0,0,2]),(8,[0,3,1,0,0,0,3,0]),(9,[0,3,1,0,0,0,0,2,0,0]),(4,[0,3,1,0,0,0,0,0]),(5,[0,3,1,0,0,0,0,0,0]),(0,[0,3]),(1,[0,3,0])]) (some [2,0]) [] [] []
noncomputable def U8{R:Type}(L n:Nat)(c b:Bool)(a:LL)(d:Int)(e:LL)(f:LL->Option R)(g:Bool->Bool->LL->LL->Option R):Option R:=match n with|0=>none|n+1=>cond (ltI d (a.length:Int)) (cond (inR d a.length) (cond (okE Lm a (b9 d) 0) (vl (gE a (b9 d) 0) λh=>cond (not (ptI h)) (f e) (cond (inR d a.length) (cond (okE Lm a (b9 d) 0) (vl (gE a (b9 d) 0) λi=>cond (ltI i 128) (cond (inR d a.length) (cond (okE Lm a (b9 d) 0) (vl (gE a (b9 d) 0) λj=>cond (F9 (e.length+1)) (U8 L n c b a (A1 (d+1)) (e++[[(SV.int .u8 (wu8 j))]]) f g) none) none) none) (U8 L n c b a (A1 (d+1)) e f g)) none) none)) none) none) (g c b a e)
theorem Bb6(n b a c i3 l4):C7 1 ((N0 L).keep 5) (bd (N0 L) Q Y (cd [1,1,1,0,1,0,0] Bw)) n ⟨gp [(0,.s (.sl b a 1 c)),(3,.fl 0),(0,pI i3)] 148,[.arr true 5 1 l4],s⟩ k =
 U8 L n b a c i3 l4 (λe=>k .ret ⟨gp [(2,pS ([]:List UInt8)),(0,pI (2:Int))] 150,[.arr true 5 1 e],s⟩) (λb a c f=>k (.exit 0) ⟨gp [(0,.s (.sl b a 1 c)),(3,.fl 0)] 149,[.arr true 5 1 f],s⟩):=by
 induction n generalizing b a c i3 l4 with
 | zero=>rfl
 | succ n d=>rw[U8];simp only[<-d];kernel_rfl
noncomputable def Jd{R:Type}(L n:Nat)(c b:Bool)(a:LL)(h e o f g d i:Int)(l10:LL)(p:Bool->Bool->LL->Int->Int->Int->Int->Int->Int->LL->Option R):Option R:=match n with|0=>none|n+1=>cond (ltI i (a.length:Int)) (cond (inR i a.length) (cond (okE Lm a (b9 i) 0) (vl (gE a (b9 i) 0) λl=>cond (not (ltI l o)) (cond (inR i a.length) (cond (okE Lm a (b9 i) 0) (vl (gE a (b9 i) 0) λj=>vl (if (j<d) then j else d) λm=>Jd L n c b a h e o f g m (A1 (i+1)) l10 p) none) none) (Jd L n c b a h e o f g d (A1 (i+1)) l10 p)) none) none) (p c b a h e o f g d l10)
theorem Bb7(n b a c h d i e g f i9 l10):C7 1 ((N0 L).keep 18) (bd (N0 L) Q Y (cd [1,1,1,1,1,1,1,0,0,0,1,0,1,0,1,0,0] Bw)) n ⟨gp [(0,.s (.sl b a 1 c)),(3,.fl 0),(1,pI h),(0,pI d),(0,pI i),(0,pI e),(0,pI g),(0,pI f),(0,pI i9)] 141,[.arr true 5 1 l10],s⟩ k =
 Jd L n b a c h d i e g f i9 l10 (λb a c h d i e g f l=>k (.exit 4) ⟨gp [(0,.s (.sl b a 1 c)),(3,.fl 0),(1,pI h),(0,pI d),(0,pI i),(0,pI e),(0,pI g),(0,pI f)] 142,[.arr true 5 1 l],s⟩):=by
 induction n generalizing b a c h d i e g f i9 l10 with
 | zero=>rfl
 | succ n j=>rw[Jd];simp only[<-j];kernel_rfl
noncomputable def Fo{R:Type}(L n:Nat)(c b:Bool)(f:LL)(i g w h a i8 u e:Int)(o:LL)(v:Bool->Bool->LL->Int->Int->Int->Int->Int->Int->LL->Option R):Option R:=match n with|0=>none|n+1=>cond (ltN e 10000000000) (cond (ltN a 1000000) (vl (L1 (ab2 (36:Int) e) a) λp=>cond (not (ltI u p)) (cond (ltN e 10000000000) (cond (ltN a 1000000) (vl (L1 (ab2 (36:Int) e) a) λd=>vl (A1 ((36:Int)-d)) λj=>cond (j !=0) (vl (p4 (A1 (u-d)) j) λl=>cond (ltN (A1 (d+l)) 36) (vl (↑(ae1 (Am (b9 (A1 (d+l))))):Int) λq=>cond (F9 (o.length+1)) (vl (A1 ((36:Int)-d)) λm=>cond (m !=0) (vl (A1 (v7 (A1 (u-d)) m)) λr=>vl (A1 (e+1)) λt=>Fo L n c b f i g w h a i8 r t (o++[[(SV.int .u8 q)]]) v) none) none) none) none) none) none) (v c b f i g w h i8 u o)) none) none
theorem MI(n b a c f d g e bias7 i8 q9 kk10 l11):C7 1 ((N0 L).keep 32) (bd (N0 L) Q Y (cd [1,1,1,1,1,1,1,0,0,0,1,0,1,1,1,1,0,1,0,0,1,0,0,1,1,1,1,0,0,0] Bw)) n ⟨gp [(0,.s (.sl b a 1 c)),(3,.fl 0),(1,pI f),(0,pI d),(0,pI g),(0,pI e),(0,pI bias7),(2,pI i8),(0,pI q9),(0,pI kk10)] 138,[.arr true 5 1 l11],s⟩ k =
 Fo L n b a c f d g e bias7 i8 q9 kk10 l11 (λb a c f d g e h l j=>k (.exit 8) ⟨gp [(0,.s (.sl b a 1 c)),(3,.fl 0),(1,pI f),(0,pI d),(0,pI g),(0,pI e),(3,pI h),(0,pI l)] 139,[.arr true 5 1 j],s⟩):=by
 induction n generalizing b a c f d g e bias7 i8 q9 kk10 l11 with
 | zero=>rfl
 | succ n i=>rw[Fo];simp only[<-i];kernel_rfl
noncomputable def Aw{R:Type}(L n:Nat)(c b:Bool)(a:LL)(i d B e f i8:Int)(I:LL)(H:Bool->Bool->LL->Int->Int->Int->Int->Int->LL->Option R):Option R:=match n with|0=>none|n+1=>cond (ltI i8 (a.length:Int)) (cond (inR i8 a.length) (cond (okE Lm a (b9 i8) 0) (vl (gE a (b9 i8) 0) λJ=>cond (ltI J B) (vl (A1 (e+1)) λw=>cond (inR i8 a.length) (cond (okE Lm a (b9 i8) 0) (vl (gE a (b9 i8) 0) λK=>cond (K !=B) (Aw L n c b a i d B w f (A1 (i8+1)) I H) (Fo L L c b a i d B w f i8 w 0 I (λr p u g j N m F C z=>cond (ltN C 36) (vl (↑(ae1 (Am (b9 C))):Int) λO=>cond (F9 (z.length+1)) (vl (A1 (g+1)) λx=>cond (ltN m 1152921504606846976) (cond (ltN x 1000000) (cond (ltI 0 x) (vl (↑(Q4 (b9 m) (b9 x) (g==j)):Int) λP=>vl (A1 (g+1)) λS=>vl (A1 (F+1)) λT=>Aw L n r p u S j N 0 P T (z++[[(SV.int .u8 O)]]) H) none) none) none) none) none))) none) none) (cond (inR i8 a.length) (cond (okE Lm a (b9 i8) 0) (vl (gE a (b9 i8) 0) λM=>cond (M !=B) (Aw L n c b a i d B e f (A1 (i8+1)) I H) (Fo L L c b a i d B e f i8 e 0 I (λt q v h l U o G D A=>cond (ltN D 36) (vl (↑(ae1 (Am (b9 D))):Int) λV=>cond (F9 (A.length+1)) (vl (A1 (h+1)) λy=>cond (ltN o 1152921504606846976) (cond (ltN y 1000000) (cond (ltI 0 y) (vl (↑(Q4 (b9 o) (b9 y) (h==l)):Int) λW=>vl (A1 (h+1)) λX=>vl (A1 (G+1)) λa0=>Aw L n t q v X l U 0 W a0 (A++[[(SV.int .u8 V)]]) H) none) none) none) none) none))) none) none)) none) none) (H c b a i d B e f I)
theorem Bb8(n b a c g d t e f i8 l9):C7 1 ((N0 L).keep 25) (bd (N0 L) Q Y (cd [1,1,1,1,1,1,1,0,0,0,1,0,1,1,1,1,0,1,0,0] Bw)) n ⟨gp [(0,.s (.sl b a 1 c)),(3,.fl 0),(1,pI g),(0,pI d),(0,pI t),(0,pI e),(0,pI f),(2,pI i8)] 140,[.arr true 5 1 l9],s⟩ k =
 Aw L n b a c g d t e f i8 l9 (λb a c g d t e f l8=>k (.exit 6) ⟨gp [(0,.s (.sl b a 1 c)),(3,.fl 0),(1,pI g),(0,pI d),(0,pI t),(0,pI e),(0,pI f)] 143,[.arr true 5 1 l8],s⟩):=by
 induction n generalizing b a c g d t e f i8 l9 with
 | zero=>rfl
 | succ n M=>rw[Aw];exact let N:=(E0 8 (D9 (N0 L) Q Y (cd [1,1,1,1,1,1,1,0,0,0,1,0,1,1,1,1,0,1,0,0,1,0,0,1,1,1,1,1] Bw) (E0 7 (D9 (N0 L) Q Y (cd [1,1,1,1,1,1,1,0,0,0,1,0,1,1,1,1,0,1,0,0,1,1] Bw) (lpK 1 ((N0 L).keep 25) (bd (N0 L) Q Y (cd [1,1,1,1,1,1,1,0,0,0,1,0,1,1,1,1,0,1,0,0] Bw)) n k)))));(a8 (by kernel_rfl) (A0 (A0 (A0 (A4 λS=>(A0 (A4 λr=>(A0 (A0 (A4 λT=>(A0 (M b a c g d t r f (A1 (i8+1)) l9) ((MI L Q Y s N L b a c g d t r f i8 r 0 l9).trans (congr rfl (C90 λj h m w p A u O X y=>(a8 (by kernel_rfl) (A0 (A4 λB=>(A0 (A4 λV=>(A0 (A0 (A0 (A4 λC=>(A4 λD=>(A4 λF=>(M j h m D p A 0 C F (y++[[(SV.int .u8 B)]]))))) rfl) rfl) rfl)) rfl)) rfl))))))) rfl) rfl)) (A0 (A0 (A4 λU=>(A0 (M b a c g d t e f (A1 (i8+1)) l9) ((MI L Q Y s N L b a c g d t e f i8 e 0 l9).trans (congr rfl (C90 λl i o x q G v P a0 z=>(a8 (by kernel_rfl) (A0 (A4 λH=>(A0 (A4 λW=>(A0 (A0 (A0 (A4 λI=>(A4 λJ=>(A4 λK=>(M l i o J q G 0 I K (z++[[(SV.int .u8 H)]]))))) rfl) rfl) rfl)) rfl)) rfl))))))) rfl) rfl))) rfl) rfl) rfl))
noncomputable def Fp{R:Type}(L n:Nat)(l j:Bool)(g:LL)(v w K x y:Int)(J:LL)(I:LL->Option R):Option R:=match n with|0=>none|n+1=>cond (ltI v (g.length:Int)) (Jd L L l j g v w K x y 1073741824 0 J (λd b h f m B p r a z=>vl (A1 (f+1)) λC=>vl (A1 ((A1 (a-B))*C)) λD=>Aw L L d b h f m a (A1 (p+D)) r 0 z (λe c i u o F q t A=>vl (A1 (q+1)) λG=>vl (A1 (F+1)) λH=>Fp L n e c i u o H G t A I))) (I J)
theorem MJ(n points_z0 points_t1 points2 done3 basic4 n5 delta6 bias7 l8):C7 1 ((N0 L).keep 15) (bd (N0 L) Q Y (cd [1,1,1,1,1,1,1,0,0,0] Bw)) n ⟨gp [(0,.s (.sl points_z0 points_t1 1 points2)),(3,.fl 0),(1,pI done3),(0,pI basic4),(0,pI n5),(0,pI delta6),(0,pI bias7)] 143,[.arr true 5 1 l8],s⟩ k =
 Fp L n points_z0 points_t1 points2 done3 basic4 n5 delta6 bias7 l8 (λB=>k (.exit 2) ⟨gp [(4,.fl 0)] 149,[.arr true 5 1 B],s⟩):=by
 induction n generalizing points_z0 points_t1 points2 done3 basic4 n5 delta6 bias7 l8 with
 | zero=>rfl
 | succ n A=>rw[Fp];exact(a8 (by kernel_rfl) (A0 ((Bb7 L Q Y s (E0 4 (D9 (N0 L) Q Y (cd [1,1,1,1,1,1,1,0,0,0,1,0,1,1] Bw) (E0 3 (lpK 1 ((N0 L).keep 15) (bd (N0 L) Q Y (cd [1,1,1,1,1,1,1,0,0,0] Bw)) n k)))) L points_z0 points_t1 points2 done3 basic4 n5 delta6 bias7 1073741824 0 l8).trans (congr rfl (C90 λc a e o g x i l j r=>(a8 (by kernel_rfl) (A4 λy=>(A4 λu=>((Bb8 L Q Y s (E0 6 (D9 (N0 L) Q Y (cd [1,1,1,1,1,1,1,0,0,0,1,0,1,1,1,1,1] Bw) (E0 3 (lpK 1 ((N0 L).keep 15) (bd (N0 L) Q Y (cd [1,1,1,1,1,1,1,0,0,0] Bw)) n k)))) L c a e o g j (A1 (i+u)) l 0 r).trans (congr rfl (fx9 λd b f p h z q m t=>(a8 (by kernel_rfl) (A4 λv=>(A4 λw=>(A d b f p h w v m t))))))))))))) rfl))
noncomputable def Al3{R:Type}(L:Nat)(f e:Bool)(d:LL)(o:Unit->Option R)(m:By->Int->LL->Option R):Option R:=cond (ltI 256 (d.length:Int)) (o ()) (U8 L L f e d 0 [] (λn=>m ([]:List UInt8) 2 n) (λb a c g=>vl (g.length:Int) λl=>vl (g.length:Int) λj=>cond (ltI 0 j) (cond (F9 (g.length+1)) (Fp L L b a c l j 128 0 72 (g++[[(SV.int .u8 (45:Int))]]) (λh=>cond (ad4 h Ol) (m (ab8 Mg h) 0 h) none)) none) (Fp L L b a c l j 128 0 72 g (λi=>cond (ad4 i Ol) (m (ab8 Mg i) 0 i) none))))
theorem Df5(d:Nat)(points_z0 points_t1 points2):evC (N0 L) (d+1) Z Y 155 [.s (.sl points_z0 points_t1 1 points2)] [] s=Al3 L points_z0 points_t1 points2 (λ_=>some (.tup [pS ([]:List UInt8),pI (3:Int)],[],s)) (λj l i=>some (.tup [pS j,pI l],[.arr true 5 1 i],s)):=by refine(evE (fn:=ad5) (by kernel_rfl)).trans ?_;generalize evC (N0 L) d=Q;unfold Al3;exact let h:=(E0 2 (D9 (N0 L) Q Y (cd [1,1,1,1,1,1,1,1] Bw) (F0 (N0 L) ad5)));(a8 (by kernel_rfl) (A0 rfl ((Bb6 L Q Y s (E0 0 (D9 (N0 L) Q Y (cd [1,1,1,1] Bw) (F0 (N0 L) ad5))) L points_z0 points_t1 points2 0 []).trans (congr (congr rfl (by kernel_rfl)) (fx4 λb a c g=>(a8 (by kernel_rfl) (A4 λe=>(A4 λf=>(A0 (A0 ((MJ L Q Y s h L b a c e f 128 0 72 (g++[[(SV.int .u8 (45:Int))]])).trans (by kernel_rfl)) rfl) ((MJ L Q Y s h L b a c e f 128 0 72 g).trans (by kernel_rfl)))))))))))
noncomputable abbrev Y7:Code:=C3 ac5
noncomputable def J8(L:Nat):Cfg:=B5 L [154] (A2 [(27,[0,1,0,2,1,0,0,0,0,0,0,0]),(23,[0,1,0,2,1,0,0,0,0]),(13,[0,1,0,0,1,0]),(5,[0,1,0,0,0])]) [(191,Ch9),(192,Aw9),(193,HP),(194,Vw)] (A2 [(51,[2,0]),(50,[0,5,1,0,0,0,0]),(49,[2,0]),(48,[0,5,1,0,0,0,0,118]),(47,[0,5,1,0,0,0,0]),(46,[2,0]),(45,[0,5,1,0,0,0,0,103]),(44,[0,5,1,0,0,0,0]),(43,[0,5,1,0,0,0,0]),(42,[0,5,1,0,0,0,0]),(41,[0,5,1,0,0,0]),(26,[0,5,1,0,0,0,0,0,0,0]),(40,[2,0]),(39,[0,5,1,0,0,0,0,0,0,0,77]),(38,[0,5,1,0,0,0,0,0,0,0]),(37,[0,5,1,0,0,0,0,0,0,0,1,69]),(36,[0,5,1,0,0,0,0,0,0,0,0,0]),(35,[2,0]),(34,[0,5,1,0,0,0,0,0,0,0,0,64]),(33,[0,5,1,0,0,0,0,0,0,0,0]),(32,[2,0]),(31,[0,5,1,0,0,0,0,0,0,0,0,57]),(30,[0,5,1,0,0,0,0,0,0,0,0]),(29,[0,5,1,0,0,0,0,0,0,0,0]),(28,[2,0]),(27,[0,5,1,0,0,0,0,0,0,0,50]),(25,[0,5,1,0,0,0,0,0,0,0]),(24,[0,5,1,0,0,0,0,0,0]),(23,[0,5,1,0,0,0,0,46]),(22,[0,5,1,0,0,0,0]),(21,[0,5,1,0,0,0]),(20,[0,5,1]),(19,[0,5,1,44]),(18,[0,3,1,1]),(17,[2,0]),(16,[0,3,1,43]),(14,[0,3,1,0]),(15,[0,3,1,0]),(13,[0,3,1,0,30]),(12,[0,3,1,0]),(11,[0,3,1]),(6,[0,3,0]),(10,[0,3,0]),(9,[0,3,0,28]),(8,[2,0]),(7,[0,3,0,24]),(5,[0,3,0,18]),(4,[0,3,0]),(3,[0,3]),(2,[2,0]),(1,[0,19]),(0,[0])]) [191,192,193,194] (A2 [(4,[6]),(5,[0,5,1,0,0,0,0]),(6,[0,5,1,0,0,1,0]),(7,[0,5,1,0,0,0,0,0,0,0]),(2,[0,3,1]),(3,[0,3,1,0]),(0,[0,3]),(1,[0,3,0])]) (some [2,0]) [] [] [] (rw:=[(47,6)])
noncomputable def Ej{R:Type}(L n:Nat)(c:By)(a b:Int)(d:Unit->Option R)(e:By->Int->Option R):Option R:=match n with|0=>none|n+1=>cond (ltI b (c.length:Int)) (cond (inR b c.length) (cond (not (ltI (bAt c b) (128:Int))) (d ()) (cond (inR b c.length) (cond ((bAt c b)==45) (Ej L n c b (A1 (b+1)) d e) (Ej L n c a (A1 (b+1)) d e)) none)) none) (e c a)
theorem Am9(n b a i2):C7 0 ((J8 L).keep 5) (bd (J8 L) Q Y (cd [1,1,1,0,1,0,0] Y7)) n ⟨gp [(0,pS b),(3,pI a),(0,pI i2)] 129,[],s⟩ k =
 Ej L n b a i2 (λ_=>k .ret ⟨gp [(2,.fl 0),(0,pI (4:Int))] 131,[.arr true 3 1 []],s⟩) (λb a=>k (.exit 0) ⟨gp [(0,pS b),(3,pI a)] 130,[],s⟩):=by
 induction n generalizing b a i2 with
 | zero=>rfl
 | succ n c=>rw[Ej];simp only[<-c];kernel_rfl
noncomputable def Hq{R:Type}(L n:Nat)(c:By)(a b:Int)(d:LL)(e:By->Int->LL->Option R):Option R:=match n with|0=>none|n+1=>cond (ltI b a) (cond (inR b c.length) (cond (F9 (d.length+1)) (Hq L n c a (A1 (b+1)) (d++[[(SV.int .i64 (A1 (bAt c b)))]]) e) none) none) (e c a d)
theorem An0(n b a i2 l3):C7 1 ((J8 L).keep 13) (bd (J8 L) Q Y (cd [1,1,1,1,1,0,1,0,0] Y7)) n ⟨gp [(0,pS b),(3,pI a),(1,.fl 0),(0,pI i2)] 127,[.arr true 3 1 l3],s⟩ k =
 Hq L n b a i2 l3 (λb a d=>k (.exit 2) ⟨gp [(0,pS b),(3,pI a),(1,.fl 0)] 128,[.arr true 3 1 d],s⟩):=by
 induction n generalizing b a i2 l3 with
 | zero=>rfl
 | succ n c=>rw[Hq];simp only[<-c];kernel_rfl
noncomputable def V4{R:Type}(L n:Nat)(l:By)(g:LL)(b q r a f o h:Int)(j:LL)(m:Int->LL->Option R)(p:By->LL->Int->Int->Int->Int->LL->Option R):Option R:=match n with|0=>none|n+1=>cond (not (ltI b (l.length:Int))) (m 4 j) (cond (inR b l.length) (cond (inR (bAt l b) 256) (vl (E3 (u8n (bAt l b))) λi=>cond (ltI i 0) (m 4 j) (vl (A1 (r+(A1 (i*o)))) λc=>cond (ltI 1099511627776 c) (m 19 j) (cond (ltN h 10000000000) (cond (ltN a 1000000) (vl (L1 (ab2 (36:Int) h) a) λd=>cond (ltI i d) (p l g (A1 (b+1)) q c f j) (vl (A1 ((36:Int)-d)) λe=>cond (ltI 1099511627776 (A1 (o*e))) (m 19 j) (V4 L n l g (A1 (b+1)) q c a f (A1 (o*e)) (A1 (h+1)) j m p))) none) none))) none) none)
theorem An1(n f a b d c bias5 old6 w7 kk8 l9):C7 1 ((J8 L).keep 27) (bd (J8 L) Q Y (cd [1,1,1,1,1,1,1,1,1,1,1,0,0,0,1,0,1,0,1,0,0] Y7)) n ⟨gp [(0,pS f),(5,.s (.sl false false 1 a)),(1,pI b),(0,pI d),(0,pI c),(0,pI bias5),(0,pB false),(0,pI old6),(0,pI w7),(0,pI kk8)] 119,[.arr true 3 1 l9],s⟩ k =
 V4 L n f a b d c bias5 old6 w7 kk8 l9 (λn0 h=>k .ret ⟨gp [(2,.fl 1),(0,pI n0)] 131,[.arr true 3 1 h,.arr true 3 1 []],s⟩) (λf a b d c e i=>k (.exit 6) ⟨gp [(0,pS f),(5,.s (.sl false false 1 a)),(1,pI b),(0,pI d),(0,pI c),(1,pB false),(0,pI e)] 121,[.arr true 3 1 i],s⟩):=by
 induction n generalizing f a b d c bias5 old6 w7 kk8 l9 with
 | zero=>rfl
 | succ n g=>rw[V4];simp only[<-g];kernel_rfl
noncomputable def P2{R:Type}(L n:Nat)(C:By)(m:LL)(q D y p:Int)(B:LL)(x:Int->LL->Option R)(z:LL->LL->Option R)(A:LL->LL->Option R):Option R:=match n with|0=>none|n+1=>cond (ltI q (C.length:Int)) (V4 L L C m q D y p y 1 0 B (λt r=>x t r) (λw a o d b h i=>vl (A1 ((a.length:Int)+1)) λj=>cond (ltN (A1 (b-h)) 1152921504606846976) (cond (ltN j 1000000) (cond (ltI 0 j) (vl (↑(Q4 (b9 (A1 (b-h))) (b9 j) false):Int) λu=>vl (A1 ((a.length:Int)+1)) λl=>cond (l !=0) (vl (A1 (v7 b l)) λe=>vl (A1 ((a.length:Int)+1)) λf=>cond (f !=0) (cond (not (ptI (A1 (d+e)))) (x 2 i) (cond (I6 0 (p4 b f) a.length) (vl (cut a 0 (p4 b f)) λc=>cond (I6 (p4 b f) (a.length:Int) a.length) (vl (cut a (p4 b f) (a.length:Int)) λg=>cond (F9 (0+c.length)) (cond (F9 (c.length+1)) (cond (F9 ((j2 (c++[[(SV.int .i64 (A1 (d+e)))]]))+g.length)) (cond (ltI 256 (↑(j2 ((c++[[(SV.int .i64 (A1 (d+e)))]])++g)):Int)) (z i ((c++[[(SV.int .i64 (A1 (d+e)))]])++g)) (vl (A1 ((p4 b f)+1)) λv=>P2 L n w ((c++[[(SV.int .i64 (A1 (d+e)))]])++g) o (A1 (d+e)) v u i x z A)) none) none) none) none) none)) none) none) none) none) none)) (A m B)
theorem An2(n s0 out1 at2 n3 i4 bias5 l6):C7 1 ((J8 L).keep 23) (bd (J8 L) Q Y (cd [1,1,1,1,1,1,1,1,1,1,1,0,0,0] Y7)) n ⟨gp [(0,pS s0),(5,.s (.sl false false 1 out1)),(1,pI at2),(0,pI n3),(0,pI i4),(0,pI bias5),(0,pB false)] 122,[.arr true 3 1 l6],s⟩ k =
 P2 L n s0 out1 at2 n3 i4 bias5 l6 (λn0 g=>k .ret ⟨gp [(2,.fl 1),(0,pI n0)] 131,[.arr true 3 1 g,.arr true 3 1 []],s⟩) (λv g=>k .ret ⟨gp [(2,.fl 2),(0,pI (3:Int))] 131,[.arr true 3 1 v,.arr false 3 1 g,.arr true 3 1 []],s⟩) (λj g=>k (.exit 4) ⟨gp [(6,.s (.sl false false 1 j))] 128,[.arr true 3 1 g],s⟩):=by
 induction n generalizing s0 out1 at2 n3 i4 bias5 l6 with
 | zero=>rfl
 | succ n u=>rw[P2];exact(a8 (by kernel_rfl) (A0 ((An1 L Q Y s (E0 6 (D9 (J8 L) Q Y (cd [1,1,1,1,1,1,1,1,1,1,1,0,0,0,1,0,1,1] Y7) (E0 5 (lpK 1 ((J8 L).keep 23) (bd (J8 L) Q Y (cd [1,1,1,1,1,1,1,1,1,1,1,0,0,0] Y7)) n k)))) L s0 out1 at2 n3 i4 bias5 i4 1 0 l6).trans (congr (congr rfl (by kernel_rfl)) (fx7 λl o c a p m d=>(a8 (by kernel_rfl) (A4 λq=>(A0 (A0 (A0 (A4 λh=>(A4 λr=>(A0 (A4 λb=>(A4 λt=>(A0 (A0 rfl (A0 (A4 λe=>(A0 (A4 λf=>(A0 (A0 (A0 (A0 rfl (A4 λi=>(u l ((e++[[(SV.int .i64 (A1 (a+b)))]])++f) c (A1 (a+b)) i h d))) rfl) rfl) rfl)) rfl)) rfl)) rfl))) rfl))) rfl) rfl) rfl)))))) rfl))
noncomputable def V5{R:Type}(L n:Nat)(h:By)(a m j f:Int)(g:LL)(i:Int->LL->Option R)(l:By->Int->Int->LL->Option R):Option R:=match n with|0=>none|n+1=>cond (not (ltI a (h.length:Int))) (i 4 g) (cond (inR a h.length) (cond (inR (bAt h a) 256) (vl (E3 (u8n (bAt h a))) λb=>cond (ltI b 0) (i 4 g) (vl (A1 (m+(A1 (b*j)))) λc=>cond (ltI 1099511627776 c) (i 19 g) (cond (ltN f 10000000000) (cond (ltN 72 1000000) (vl (L1 (ab2 (36:Int) f) (72:Int)) λd=>cond (ltI b d) (l h (A1 (a+1)) c g) (vl (A1 ((36:Int)-d)) λe=>cond (ltI 1099511627776 (A1 (j*e))) (i 19 g) (V5 L n h (A1 (a+1)) c (A1 (j*e)) (A1 (f+1)) g i l))) none) none))) none) none)
theorem An3(n c a b w3 kk4 l5):C7 1 ((J8 L).keep 27) (bd (J8 L) Q Y (cd [1,1,1,1,1,1,1,1,1,1,1,0,0,0,1,0,1,0,1,0,0] Y7)) n ⟨gp [(0,pS c),(5,.fl 0),(1,pI a),(0,pI (128:Int)),(0,pI b),(0,pI (72:Int)),(0,pB true),(0,pI (0:Int)),(0,pI w3),(0,pI kk4)] 119,[.arr true 3 1 l5],s⟩ k =
 V5 L n c a b w3 kk4 l5 (λn0 e=>k .ret ⟨gp [(2,.fl 1),(0,pI n0)] 131,[.arr true 3 1 e,.arr true 3 1 []],s⟩) (λc a b f=>k (.exit 6) ⟨gp [(0,pS c),(5,.fl 0),(1,pI a),(0,pI (128:Int)),(0,pI b),(1,pB true),(0,pI (0:Int))] 121,[.arr true 3 1 f],s⟩):=by
 induction n generalizing c a b w3 kk4 l5 with
 | zero=>rfl
 | succ n d=>rw[V5];simp only[<-d];kernel_rfl
noncomputable def K8{R:Type}(L n:Nat)(D:By)(m:Int)(C:LL)(A:Int->LL->Option R)(B:LL->LL->Option R)(F:LL->LL->Option R)(G:LL->Option R):Option R:=match n with|0=>none|n+1=>cond (ltI m (D.length:Int)) (V5 L L D m 0 1 0 C (λu o=>A u o) (λz l b a=>vl (A1 (b-0)) λi=>vl (A1 ((a.length:Int)+1)) λe=>cond (ltN i 1152921504606846976) (cond (ltN e 1000000) (cond (ltI 0 e) (vl (↑(Q4 (b9 i) (b9 e) true):Int) λv=>vl (A1 ((a.length:Int)+1)) λj=>cond (j !=0) (vl (A1 (v7 b j)) λw=>vl (A1 ((128:Int)+w)) λf=>vl (A1 ((a.length:Int)+1)) λc=>cond (c !=0) (cond (not (ptI f)) (A 2 a) (cond (I6 0 (p4 b c) a.length) (cond (I6 (p4 b c) (a.length:Int) a.length) (cond (F9 (0+(j2 (z7 ((b9 (p4 b c))-0) (aa7 0 a))))) (cond (F9 ((j2 (z7 ((b9 (p4 b c))-0) (aa7 0 a)))+1)) (vl ((z7 ((b9 (p4 b c))-0) (aa7 0 a))++[[(SV.int .i64 f)]]) λh=>cond (F9 (h.length+(j2 (z7 ((b9 (a.length:Int))-(b9 (p4 b c))) (aa7 (b9 (p4 b c)) a))))) (vl (h++(z7 ((b9 (a.length:Int))-(b9 (p4 b c))) (aa7 (b9 (p4 b c)) a))) λd=>cond (ltI 256 (d.length:Int)) (B a d) (vl (A1 ((p4 b c)+1)) λx=>P2 L n z d l f x v a (λy p=>A y p) (λq r=>B q r) (λg t=>F g t))) none) none) none) none) none)) none) none) none) none) none)) (G C)
theorem EK(n s0 at1 l2):C7 1 ((J8 L).keep 23) (bd (J8 L) Q Y (cd [1,1,1,1,1,1,1,1,1,1,1,0,0,0] Y7)) n ⟨gp [(0,pS s0),(5,.fl 0),(1,pI at1),(0,pI (128:Int)),(0,pI (0:Int)),(0,pI (72:Int)),(0,pB true)] 122,[.arr true 3 1 l2],s⟩ k =
 K8 L n s0 at1 l2 (λn0 d=>k .ret ⟨gp [(2,.fl 1),(0,pI n0)] 131,[.arr true 3 1 d,.arr true 3 1 []],s⟩) (λl d=>k .ret ⟨gp [(2,.fl 2),(0,pI (3:Int))] 131,[.arr true 3 1 l,.arr false 3 1 d,.arr true 3 1 []],s⟩) (λh d=>k (.exit 4) ⟨gp [(6,.s (.sl false false 1 h))] 128,[.arr true 3 1 d],s⟩) (λl=>k (.exit 4) ⟨gp [(6,.fl 0)] 128,[.arr true 3 1 l],s⟩):=by
 induction n generalizing s0 at1 l2 with
 | zero=>rfl
 | succ n A=>rw[K8];exact(a8 (by kernel_rfl) (A0 ((An3 L Q Y s (E0 6 (D9 (J8 L) Q Y (cd [1,1,1,1,1,1,1,1,1,1,1,0,0,0,1,0,1,1] Y7) (E0 5 (lpK 1 ((J8 L).keep 23) (bd (J8 L) Q Y (cd [1,1,1,1,1,1,1,1,1,1,1,0,0,0] Y7)) n k)))) L s0 at1 0 1 0 l2).trans (congr (congr rfl (by kernel_rfl)) (fx4 λi a m b=>(a8 (by kernel_rfl) (A4 λu=>(A4 λv=>(A0 (A0 (A0 (A4 λe=>(A4 λw=>(A0 (A4 λx=>(A4 λf=>(A4 λy=>(A0 (A0 rfl (A0 (A0 (A0 (A0 (A4 λo=>(A0 (A4 λc=>(A0 rfl (A4 λg=>((An2 L Q Y s k n i c a f g e b).trans (congr (congr (congr rfl (fx2 λz p=>rfl)) (fx2 λq r=>rfl)) (fx2 λj t=>rfl)))))) rfl)) rfl) rfl) rfl) rfl)) rfl)))) rfl))) rfl) rfl) rfl))))))) rfl))
noncomputable def Bw5{R:Type}(L:Nat)(A:By)(u:Int->LL->Option R)(v:Int->LL->Option R)(y:LL->LL->Option R)(z:LL->LL->Option R):Option R:=cond (ltI 1024 (A.length:Int)) (u 3 []) (Ej L L A 0 0 (λ_=>u 4 []) (λx e=>Hq L L x e 0 [] (λt a b=>cond (ltI 256 (b.length:Int)) (v 3 b) (cond (ltI 0 a) (vl (A1 (a+1)) λw=>K8 L L t w b (λq f=>v q f) (λg h=>y g h) (λc i=>z c i) (λj=>u 0 j)) (K8 L L t a b (λr l=>v r l) (λm n=>y m n) (λd o=>z d o) (λp=>u 0 p))))))
theorem Cu9(d:Nat)(s0):evC (J8 L) (d+1) Z Y 154 [pS s0] [] s=Bw5 L s0 (λf c=>some (.tup [.fl 0,pI f],[.arr true 3 1 c],s)) (λf c=>some (.tup [.fl 1,pI f],[.arr true 3 1 c,.arr true 3 1 []],s)) (λl c=>some (.tup [.fl 2,pI (3:Int)],[.arr true 3 1 l,.arr false 3 1 c,.arr true 3 1 []],s)) (λf c=>some (.tup [.s (.sl false false 1 f),pI (0:Int)],[.arr true 3 1 c],s)):=by refine(evE (fn:=ac5) (by kernel_rfl)).trans ?_;generalize evC (J8 L) d=Q;unfold Bw5;exact let j:=(E0 4 (D9 (J8 L) Q Y (cd [1,1,1,1,1,1,1,1,1,1,1,1] Y7) (F0 (J8 L) ac5)));(a8 (by kernel_rfl) (A0 rfl ((Am9 L Q Y s (E0 0 (D9 (J8 L) Q Y (cd [1,1,1,1] Y7) (F0 (J8 L) ac5))) L s0 0 0).trans (congr (congr rfl (by kernel_rfl)) (fx2 λi a=>(a8 (by kernel_rfl) ((An0 L Q Y s (E0 2 (D9 (J8 L) Q Y (cd [1,1,1,1,1,1] Y7) (F0 (J8 L) ac5))) L i a 0 []).trans (congr rfl (fx3 λg b e=>(a8 (by kernel_rfl) (A0 rfl (A0 (A4 λh=>((EK L Q Y s j L g h e).trans (by kernel_rfl))) ((EK L Q Y s j L g b e).trans (by kernel_rfl))))))))))))))
noncomputable abbrev Z8:Code:=C3 ad7
noncomputable def O6(L:Nat):Cfg:=B5 L [175] (A2 [(17,[0,1,0,0,0,1,0,0,0]),(3,[0,1,0,0,0])]) [(194,Vw)] (A2 [(27,[2,0]),(26,[0,3,0]),(25,[0,3,0,1]),(24,[2,0]),(23,[0,3,0,1,0,77]),(18,[0,3,0,1,0,0,0]),(22,[0,3,0,1,0,0,0]),(21,[2,0]),(20,[0,3,0,1,0,0,0,0,61]),(19,[0,3,0,1,0,0,0,0]),(17,[0,3,0,1,0,0,0,48]),(16,[0,3,0,1,0,0,0]),(15,[2,0]),(14,[0,3,0,1,0,0,46]),(9,[0,3,0,1,0,0]),(11,[0,3,0,1,0,0]),(13,[0,3,0,1,0,0]),(6,[2,0]),(12,[0,3,0,0,35]),(10,[0,3,0,0,26]),(8,[0,3,0,0,17]),(7,[0,3,0,0,0,0,0,11]),(5,[0,3,0,0,0,0,0]),(4,[0,3,0,0]),(3,[0,3,0,9]),(2,[0,3,0]),(1,[0,3]),(0,[0])]) [194] (A2 [(0,[4]),(1,[0,3,0]),(3,[0,3,0,1,0,0]),(4,[0,3,0,1,0,0,0]),(2,[0,3,0,1,0,0])]) (some [2,0]) [] [] []
noncomputable def Yo{R:Type}(L n:Nat)(d:By)(a e:Int)(c:LL)(b:By->Int->Int->LL->Option R):Option R:=match n with|0=>none|n+1=>b d a e c
theorem Bg9(n c a d b):C7 1 ((O6 L).keep 17) (bd (O6 L) Q Y (cd [1,1,0,1,0,0,1,0,1,1,1,1,0,1,0,0] Z8)) n ⟨gp [(0,pS c),(3,.fl 0),(0,pI a),(1,pI (1:Int)),(0,pI d),(0,pI (0:Int)),(0,pI (1:Int))] 84,[.arr true 3 1 b],s⟩ k =
 Yo L n c a d b (λc a d b=>k (.exit 3) ⟨gp [(0,pS c),(3,.fl 0),(0,pI a),(1,pI (1:Int)),(0,pI d),(0,pI (0:Int))] 85,[.arr true 3 1 b],s⟩):=by
 induction n generalizing c a d b with
 | zero=>rfl
 | succ n e=>rw[Yo];kernel_rfl
noncomputable def Yn{R:Type}(L:Nat)(i:By)(g j:Int)(h:LL)(d:LL->Option R)(l:By->Int->LL->Option R):Option R:=vl (A1 ((i.length:Int)-g)) λe=>cond (ltI e 1) (d h) (Yo L L i g j h (λf c b a=>cond (ltI b 0) (d a) (cond (not (ptI b)) (d a) (cond (F9 (a.length+1)) (l f (A1 (c+1)) (a++[[(SV.int .i64 b)]])) none))))
abbrev CN(b:Code):Prop:=∀(k:Out->St Z->Option R) c a b2 b3 l4,A9 (O6 L) Q Y b ⟨gp [(0,pS c),(3,.fl 0),(0,pI a),(0,pI b2),(0,pI (1:Int)),(0,pI b2),(0,pI (0:Int)),(11,pB b3)] 73,[.arr true 3 1 l4],s⟩ k=Yn L c a b2 l4 (λd=>k .ret ⟨gp [(2,.fl 1),(0,pB false)] 91,[.arr true 3 1 d,.arr true 3 1 []],s⟩) (λc a e=>k .normal ⟨gp [(0,pS c),(3,.fl 0),(0,pI a)] 89,[.arr true 3 1 e],s⟩)
theorem Bg3:CN (R:=R) L Q Y s (cd [1,1,0,1,0,0,1,0,1,1,1] Z8):=by intro k e b a f c;unfold Yn;exact(a8 (by kernel_rfl) (A4 λd=>(A0 rfl ((Bg9 L Q Y s (E0 3 (D9 (O6 L) Q Y (cd [1,1,0,1,0,0,1,0,1,1,1,1,1] Z8) k)) L e b a c).trans (by kernel_rfl)))))
noncomputable def Nf{R:Type}(h:By)(e c:Int)(i:Bool)(d:LL)(f:By->Int->Int->Int->Int->LL->Option R)(g:LL->Option R):Option R:=cond i (vl (A1 (c-224)) λa=>f h e 3 a 2048 d) (cond (not (ltI c 240)) (cond (ltI c 245) (vl (A1 (c-240)) λb=>f h e 4 b 65536 d) (g d)) (g d))
abbrev RK(b:Code):Prop:=∀(k:Out->St Z->Option R) d c b2 b3 l4,A9 (O6 L) Q Y b ⟨gp [(0,pS d),(3,.fl 0),(0,pI c),(0,pI b2),(26,pB b3)] 61,[.arr true 3 1 l4],s⟩ k=Nf d c b2 b3 l4 (λd c g h a f=>k .normal ⟨gp [(0,pS d),(3,.fl 0),(0,pI c),(1,pI g),(0,pI h),(0,pI a)] 85,[.arr true 3 1 f],s⟩) (λe=>k .ret ⟨gp [(2,.fl 1),(0,pB false)] 91,[.arr true 3 1 e,.arr true 3 1 []],s⟩)
theorem Bg5:RK (R:=R) L Q Y s (cd [1,1,0,1,0,0,1,0,1,1,0,0,1,1,1,1,1] Z8):=by intro k e c a b d;unfold Nf;kernel_rfl
noncomputable def Ng{R:Type}(v:By)(r c:Int)(x:Bool)(u:LL)(t:By->Int->Int->Int->Int->LL->Option R)(w:LL->Option R):Option R:=cond x (vl (A1 (c-192)) λj=>t v r 2 j 128 u) (cond (not (ltI c 224)) (Nf v r c (ltI c 240) u (λn d l p a f=>t n d l p a f) (λg=>w g)) (Nf v r c false u (λo e m q b h=>t o e m q b h) (λi=>w i)))
abbrev Ru(b:Code):Prop:=∀(k:Out->St Z->Option R) d c b2 b3 l4,A9 (O6 L) Q Y b ⟨gp [(0,pS d),(3,.fl 0),(0,pI c),(0,pI b2),(17,pB b3)] 70,[.arr true 3 1 l4],s⟩ k=Ng d c b2 b3 l4 (λd c g h a f=>k .normal ⟨gp [(0,pS d),(3,.fl 0),(0,pI c),(1,pI g),(0,pI h),(0,pI a)] 85,[.arr true 3 1 f],s⟩) (λe=>k .ret ⟨gp [(2,.fl 1),(0,pB false)] 91,[.arr true 3 1 e,.arr true 3 1 []],s⟩)
theorem Bg6(a:Code)(b:RK (R:=R) L Q Y s a):Ru (R:=R) L Q Y s (cd [1,1,0,1,0,0,1,0,1,1,0,0,1,1,1] (G2 [1,1,0,1,0,0,1,0,1,1,0,0,1,1,1,1,1] a Z8)):=by intro k g e c d f;unfold Ng;simp only[<-b k];kernel_rfl
theorem Bg7:Ru (R:=R) L Q Y s (cd [1,1,0,1,0,0,1,0,1,1,0,0,1,1,1] Z8):=by intro k e c a b d;exact a8 (by kernel_rfl) (Bg6 L Q Y s (cd [1,1,0,1,0,0,1,0,1,1,0,0,1,1,1,1,1] Z8) (Bg5 L Q Y s) k e c a b d)
noncomputable def Ft{R:Type}(L n:Nat)(h:By)(f j m a c:Int)(g:LL)(i:LL->Option R)(l:By->Int->Int->Int->Int->LL->Option R):Option R:=match n with|0=>none|n+1=>cond (ltI c j) (cond (inR (A1 (f+c)) h.length) (vl (bAt h (A1 (f+c))) λb=>cond (ltI (A1 b) (128:Int)) (i g) (cond (ltI 191 (A1 b)) (i g) (vl (A1 ((A1 (m*64))+(A1 b))) λd=>vl (A1 (d-128)) λe=>Ft L n h f j e a (A1 (c+1)) g i l))) none) (l h f j m a g)
theorem Bh1(n d b c e a kk5 l6):C7 1 ((O6 L).keep 17) (bd (O6 L) Q Y (cd [1,1,0,1,0,0,1,0,1,1,1,1,0,1,0,0] Z8)) n ⟨gp [(0,pS d),(3,.fl 0),(0,pI b),(1,pI c),(0,pI e),(0,pI a),(0,pI kk5)] 84,[.arr true 3 1 l6],s⟩ k =
 Ft L n d b c e a kk5 l6 (λg=>k .ret ⟨gp [(2,.fl 1),(0,pB false)] 91,[.arr true 3 1 g,.arr true 3 1 []],s⟩) (λd b c e a h=>k (.exit 3) ⟨gp [(0,pS d),(3,.fl 0),(0,pI b),(1,pI c),(0,pI e),(0,pI a)] 85,[.arr true 3 1 h],s⟩):=by
 induction n generalizing d b c e a kk5 l6 with
 | zero=>rfl
 | succ n f=>rw[Ft];simp only[<-f];kernel_rfl
noncomputable def Ea{R:Type}(L:Nat)(o:By)(l n q d:Int)(m:LL)(j:LL->Option R)(p:By->Int->LL->Option R):Option R:=vl (A1 ((o.length:Int)-l)) λg=>cond (ltI g n) (j m) (Ft L L o l n q d 1 m (λf=>j f) (λi e h c b a=>cond (ltI c b) (j a) (cond (not (ptI c)) (j a) (cond (F9 (a.length+1)) (p i (A1 (e+h)) (a++[[(SV.int .i64 c)]])) none))))
abbrev CO(b:Code):Prop:=∀(k:Out->St Z->Option R) c a n2 v3 least4 l5,A9 (O6 L) Q Y b ⟨gp [(0,pS c),(3,.fl 0),(0,pI a),(1,pI n2),(0,pI v3),(0,pI least4)] 85,[.arr true 3 1 l5],s⟩ k=Ea L c a n2 v3 least4 l5 (λd=>k .ret ⟨gp [(2,.fl 1),(0,pB false)] 91,[.arr true 3 1 d,.arr true 3 1 []],s⟩) (λc a e=>k .normal ⟨gp [(0,pS c),(3,.fl 0),(0,pI a)] 89,[.arr true 3 1 e],s⟩)
theorem Bg8:CO (R:=R) L Q Y s (cd [1,1,0,1,0,0,1,0,1,1,1] Z8):=by intro k f c e g a d;unfold Ea;exact(a8 (by kernel_rfl) (A4 λb=>(A0 rfl ((Bh1 L Q Y s (E0 3 (D9 (O6 L) Q Y (cd [1,1,0,1,0,0,1,0,1,1,1,1,1] Z8) k)) L f c e g a 1 d).trans (by kernel_rfl)))))
noncomputable def Z3{R:Type}(L n:Nat)(d:By)(c:Int)(D:LL)(e:LL->Option R)(C:LL->Option R):Option R:=match n with|0=>none|n+1=>cond (ltI c (d.length:Int)) (cond (inR c d.length) (cond (ltI (A1 (bAt d c)) (128:Int)) (Yn L d c (A1 (bAt d c)) D (λG=>e G) (λI F H=>Z3 L n I F H e C)) (cond (not (ltI (A1 (bAt d c)) (194:Int))) (Ng d c (A1 (bAt d c)) (ltI (A1 (bAt d c)) (224:Int)) D (λw f u A a j=>Ea L w f u A a j (λm=>e m) (λx g o=>Z3 L n x g o e C)) (λl=>e l)) (Ng d c (A1 (bAt d c)) false D (λy h v B b p=>Ea L y h v B b p (λr=>e r) (λz i t=>Z3 L n z i t e C)) (λq=>e q)))) none) (C D)
theorem Bh2(a:Code)(e:CN (R:=R) L Q Y s a)(d:CO (R:=R) L Q Y s a)(b:Code)(c:Ru (R:=R) L Q Y s b)(n:Nat)(i:By)(h:Int)(j:LL):C7 1 ((O6 L).keep 3) (bd (O6 L) Q Y (cd [1,1,0,1,0,0] (G2 [1,1,0,1,0,0,1,0,1,1,0,0,1,1,1] b (G2 [1,1,0,1,0,0,1,0,1,1,1] a Z8)))) n ⟨gp [(0,pS i),(3,.fl 0),(0,pI h)] 89,[.arr true 3 1 j],s⟩ k =
 Z3 L n i h j (λI=>k .ret ⟨gp [(2,.fl 1),(0,pB false)] 91,[.arr true 3 1 I,.arr true 3 1 []],s⟩) (λI=>k (.exit 0) ⟨gp [(4,.fl 0)] 90,[.arr true 3 1 I],s⟩):=by
 induction n generalizing i h j with
 | zero=>rfl
 | succ n G=>rw[Z3];exact let D:=(E0 1 (lpK 1 ((O6 L).keep 3) (bd (O6 L) Q Y (cd [1,1,0,1,0,0] (G2 [1,1,0,1,0,0,1,0,1,1,0,0,1,1,1] b (G2 [1,1,0,1,0,0,1,0,1,1,1] a Z8)))) n k));let K:=(E0 2 (D9 (O6 L) Q Y a D));(a8 (by kernel_rfl) (A0 (A0 (A0 ((e D i h (A1 (bAt i h)) (ltI (A1 (bAt i h)) (128:Int)) j).trans (congr (congr rfl (by kernel_rfl)) (fx3 λJ F H=>(a8 (by kernel_rfl) (G J F H))))) (A0 ((c K i h (A1 (bAt i h)) (ltI (A1 (bAt i h)) (224:Int)) j).trans (congr (congr rfl (fx6 λx l v B f q=>(a8 (by kernel_rfl) ((d D x l v B f q).trans (congr (congr rfl (by kernel_rfl)) (fx3 λy m r=>(a8 (by kernel_rfl) (G y m r)))))))) (by kernel_rfl))) ((c K i h (A1 (bAt i h)) false j).trans (congr (congr rfl (fx6 λz o w C g t=>(a8 (by kernel_rfl) ((d D z o w C g t).trans (congr (congr rfl (by kernel_rfl)) (fx3 λA p u=>(a8 (by kernel_rfl) (G A p u)))))))) (by kernel_rfl))))) rfl) rfl))
noncomputable def Dg8{R:Type}(L:Nat)(e:By)(c:LL->Option R)(d:LL->Option R):Option R:=Z3 L L e 0 [] (λa=>c a) (λb=>d b)
theorem Dg9(b:Code)(c:CN (R:=PV × List Blk × Z) L Q Y s b)(e:CO (R:=PV × List Blk × Z) L Q Y s b)(a:Code)(d:Ru (R:=PV × List Blk × Z) L Q Y s a)(g:By):A9 (O6 L) Q Y (cd [] (G2 [1,1,0,1,0,0,1,0,1,1,0,0,1,1,1] a (G2 [1,1,0,1,0,0,1,0,1,1,1] b Z8))) ⟨[pS g]++tps 94,[],s⟩ (F0 (O6 L) ad7)=Dg8 L g (λf=>some (.tup [.fl 1,pB false],[.arr true 3 1 f,.arr true 3 1 []],s)) (λf=>some (.tup [.fl 0,pB true],[.arr true 3 1 f],s)):=by unfold Dg8;exact(a8 (by kernel_rfl) ((Bh2 L Q Y s (E0 0 (D9 (O6 L) Q Y (cd [1,1,1] Z8) (F0 (O6 L) ad7))) b c e a d L g 0 []).trans (by kernel_rfl)))
theorem Dh0(d:Nat)(s0):evC (O6 L) (d+1) Z Y 175 [pS s0] [] s=Dg8 L s0 (λa=>some (.tup [.fl 1,pB false],[.arr true 3 1 a,.arr true 3 1 []],s)) (λa=>some (.tup [.fl 0,pB true],[.arr true 3 1 a],s)):=
 (evE (fn:=ad7) (by kernel_rfl)).trans (a8 (by kernel_rfl) (Dg9 L (evC (O6 L) d) Y s (cd [1,1,0,1,0,0,1,0,1,1,1] Z8) (Bg3 L (evC (O6 L) d) Y s) (Bg8 L (evC (O6 L) d) Y s) (cd [1,1,0,1,0,0,1,0,1,1,0,0,1,1,1] Z8) (Bg7 L (evC (O6 L) d) Y s) s0))
noncomputable abbrev Br6:Code:=C3 af1
noncomputable def Md(L:Nat):Cfg:=B5 L [113] (A2 [(6,[0,1,0,1,0])]) [(154,Bp3),(155,Aw4)] (A2 [(12,[2]),(11,[0,4,1,0]),(7,[0,2,1,0]),(10,[2]),(9,[0,2,1,0,34]),(8,[0,2,1,0]),(6,[0,2,1,0,12]),(5,[0,2,1,0]),(4,[0,2,1]),(3,[2]),(2,[0,2,11]),(1,[0,2,0]),(0,[0])]) [155] (A2 [(0,[0,2,1]),(1,[0,2,1,0])]) (some [2]) [] [] []
noncomputable def Y2{R:Type}(L n:Nat)(a:By)(d:Bool)(b:LL)(e:Bool)(c:Int)(f:Unit->Option R)(g:By->Bool->LL->Bool->Option R):Option R:=match n with|0=>none|n+1=>cond (ltI c (b.length:Int)) (cond e (cond (inR c b.length) (cond (okE Lm b (b9 c) 0) (cond (not (ltI (gE b (b9 c) 0) (65:Int))) (cond (inR c b.length) (cond (okE Lm b (b9 c) 0) (cond (not (ltI 90 (gE b (b9 c) 0))) (f ()) (Y2 L n a d b true (A1 (c+1)) f g)) none) none) (Y2 L n a d b true (A1 (c+1)) f g)) none) none) (cond (inR c b.length) (cond (okE Lm b (b9 c) 0) (cond (inR c b.length) (cond (okE Lm b (b9 c) 0) (cond (not (ltI (gE b (b9 c) 0) (65:Int))) (cond (inR c b.length) (cond (okE Lm b (b9 c) 0) (cond (not (ltI 90 (gE b (b9 c) 0))) (f ()) (Y2 L n a d b (not (ltI (gE b (b9 c) 0) (128:Int))) (A1 (c+1)) f g)) none) none) (Y2 L n a d b (not (ltI (gE b (b9 c) 0) (128:Int))) (A1 (c+1)) f g)) none) none) none) none)) (g a d b e)
theorem An6(n c b d a i4):C7 0 ((Md L).keep 6) (bd (Md L) Q Y (cd [1,1,1,1,0,1,0,0] Br6)) n ⟨gp [(0,pS c),(2,.s (.sl b b 1 d)),(1,pB a),(0,pI i4)] 50,[],s⟩ k =
 Y2 L n c b d a i4 (λ_=>k .ret ⟨gp [(2,pB false)] 54,[],s⟩) (λc b d a=>k (.exit 0) ⟨gp [(0,pS c),(2,.s (.sl b b 1 d)),(1,pB a)] 51,[],s⟩):=by
 induction n generalizing c b d a i4 with
 | zero=>rfl
 | succ n e=>rw[Y2];simp only[<-e];kernel_rfl
noncomputable def Bw7{R:Type}(L:Nat)(a:By)(e:Bool->Option R):Option R:=cond (A3 a.length) (vl (↑((N6 a)).2:Int) λf=>cond (f !=0) (e false) (Y2 L L a (af6 ((N6 a)).1) (Mt ((N6 a)).1) false 0 (λ_=>e false) (λc h d b=>cond (ad4 d Od) (vl ((W4 (ab8 elI d))).1 λi=>vl (↑((W4 (ab8 elI d))).2:Int) λg=>cond (g==0) (cond (i==c) (e b) (e false)) (e false)) none))) none
theorem Cv2(d:Nat)(rest0):evC (Md L) (d+1) Z Y 113 [pS rest0] [] s=Bw7 L rest0 (λb=>some (pB b,[],s)):=by refine(evE (fn:=af1) (by kernel_rfl)).trans ?_;generalize evC (Md L) d=Q;unfold Bw7;exact(a8 (by kernel_rfl) (A0 (A4 λa=>(A0 rfl ((An6 L Q Y s (E0 0 (D9 (Md L) Q Y (cd [1,1,1,1,1] Br6) (F0 (Md L) af1))) L rest0 (af6 ((N6 rest0)).1) (Mt ((N6 rest0)).1) false 0).trans (by kernel_rfl)))) rfl))
noncomputable abbrev Br4:Code:=C3 ag0
noncomputable def Mb(L:Nat):Cfg:=B5 L [77] (A2 [(4,[0,1,0])]) [(113,Bp5)] (A2 [(9,[2]),(5,[0,2]),(8,[2]),(7,[0,2,52]),(6,[0,2,0]),(4,[0,2,24]),(3,[0,2]),(2,[2]),(1,[0,23]),(0,[0])]) [113] (A2 [(0,[0]),(1,[0,2])]) (some [2]) [] [] []
noncomputable def N9{R:Type}(L n:Nat)(a:By)(b:Int)(c:Unit->Option R)(d:By->Option R):Option R:=match n with|0=>none|n+1=>cond (ltI b (a.length:Int)) (cond (inR b a.length) (cond (not (ltI (bAt a b) (97:Int))) (cond (not (ltI 122 (bAt a b))) (N9 L n a (A1 (b+1)) c d) (cond (not (ltI (bAt a b) (48:Int))) (cond (not (ltI 57 (bAt a b))) (N9 L n a (A1 (b+1)) c d) (cond ((bAt a b)==45) (N9 L n a (A1 (b+1)) c d) (cond (not ((bAt a b)==95)) (c ()) (N9 L n a (A1 (b+1)) c d)))) (cond ((bAt a b)==45) (N9 L n a (A1 (b+1)) c d) (cond (not ((bAt a b)==95)) (c ()) (N9 L n a (A1 (b+1)) c d))))) (cond (not (ltI (bAt a b) (48:Int))) (cond (not (ltI 57 (bAt a b))) (N9 L n a (A1 (b+1)) c d) (cond ((bAt a b)==45) (N9 L n a (A1 (b+1)) c d) (cond (not ((bAt a b)==95)) (c ()) (N9 L n a (A1 (b+1)) c d)))) (cond ((bAt a b)==45) (N9 L n a (A1 (b+1)) c d) (cond (not ((bAt a b)==95)) (c ()) (N9 L n a (A1 (b+1)) c d))))) none) (d a)
theorem Am1(n a i1):C7 0 ((Mb L).keep 4) (bd (Mb L) Q Y (cd [1,1,0,1,0,0] Br4)) n ⟨gp [(0,pS a),(2,pI i1)] 66,[],s⟩ k =
 N9 L n a i1 (λ_=>k .ret ⟨gp [(2,pB false)] 67,[],s⟩) (λa=>k (.exit 0) ⟨gp [(0,pS a)] 69,[],s⟩):=by
 induction n generalizing a i1 with
 | zero=>rfl
 | succ n b=>rw[N9];simp only[<-b];kernel_rfl
noncomputable def Bw3{R:Type}(L:Nat)(c:By)(b:Bool->Option R):Option R:=cond (c==[]) (b false) (cond (ltI 63 (c.length:Int)) (b false) (cond (inR 0 c.length) (cond ((bAt c (0:Int))==45) (b false) (vl (A1 ((c.length:Int)-1)) λd=>cond (inR d c.length) (cond ((bAt c d)==45) (b false) (N9 L L c 0 (λ_=>b false) (λa=>cond (ltI (a.length:Int) (4:Int)) (b true) (cond (I6 0 (4:Int) a.length) (vl (cut a 0 (4:Int)) λf=>cond (not (f==[120,110,45,45])) (b true) (cond (I6 4 (a.length:Int) a.length) (vl (cut a 4 (a.length:Int)) λe=>cond (A3 e.length) (b (Dy e)) none) none)) none)))) none)) none))
theorem Cu3(d:Nat)(s0):evC (Mb L) (d+1) Z Y 77 [pS s0] [] s=Bw3 L s0 (λb=>some (pB b,[],s)):=by refine(evE (fn:=ag0) (by kernel_rfl)).trans ?_;generalize evC (Mb L) d=Q;unfold Bw3;exact(a8 (by kernel_rfl) (A0 rfl (A0 rfl (A0 (A0 rfl (A4 λa=>(A0 (A0 rfl ((Am1 L Q Y s (E0 0 (D9 (Mb L) Q Y (cd [1,1,1] Br4) (F0 (Mb L) ag0))) L s0 0).trans (by kernel_rfl))) rfl))) rfl))))
noncomputable def WL(L:Nat):Cfg:=B5 L [131] (A2 []) [(175,Ch4),(127,Aw7),(155,Aw4),(77,UF)] (A2 [(15,[2,0]),(14,[2,0]),(13,[6,37]),(12,[6]),(11,[2,0]),(10,[9,29]),(9,[9,0]),(8,[7]),(7,[6,20]),(6,[0,3,1]),(5,[2,0]),(4,[0,3,15]),(3,[2,0]),(2,[0,3,12]),(1,[0,3,0]),(0,[0])]) [127,155,77] (A2 []) (some [2,0]) [] [] []
noncomputable def Bw2{R:Type}(L:Nat)(a:By)(b:By->Int->Option R):Option R:=cond (A3 a.length) (cond (not (aa3 (Dk a))) (b ([]:List UInt8) 4) (cond (ltI 256 (↑(j2 (Mt (Se a))):Int)) (b ([]:List UInt8) 3) (cond (A3 a.length) (cond (ltI (↑(j2 (Mt (Se a))):Int) (a.length:Int)) (cond (A3 (j2 (B9 a))) (cond (ad4 (Mt (Se (B9 a))) Od) (vl ((W4 (ab8 elI (Mt (Se (B9 a)))))).1 λd=>vl (↑((W4 (ab8 elI (Mt (Se (B9 a)))))).2:Int) λe=>cond (e !=0) (b ([]:List UInt8) 14) (cond (E7 4 d.length) (vl (([120,110,45,45]:List UInt8)++d) λc=>cond (A3 c.length) (cond (not (L2 c)) (b ([]:List UInt8) 14) (b c 0)) none) none)) none) none) (cond (A3 (j2 (B9 a))) (cond (not (L2 (B9 a))) (b ([]:List UInt8) 14) (b (B9 a) 0)) none)) none))) none
theorem Cu2(d:Nat)(s0):evC (WL L) (d+1) Z Y 131 [pS s0] [] s=Bw2 L s0 (λa b=>some (.tup [pS a,pI b],[],s)):=by refine(evE (fn:=Tryz.f131) (by kernel_rfl)).trans ?_;generalize evC (WL L) d=Q;unfold Bw2;kernel_rfl
end
theorem An5{R:Type}{a:Bool->Option R}(n:Int):ZD LF n a=a (ptI n):=by
 unfold ZD;by_cases h:n<0
 ·rw[B7 h];have:ptI n=false:=by
   cases n with
   | ofNat m=>exact absurd h (by simp)
   | negSucc m=>rfl
  grind
 ·obtain⟨m,rfl⟩:=x3 (show 0<=n by omega);rw[A6,Mx];unfold V3;by_cases b:1114111<m
  ·rw[A8];have:o8 m 1114111=false:=by rw[k9,ne_eq,o0];omega
   grind
  ·rw[A6];have:o8 m 1114111=true:=by rw[o0];omega
   rw[this];by_cases c:m<55296
   ·rw[A8];have:Nat.blt m 55296=true:=by rw[ad0];omega
    grind
   ·rw[A6];have e:Nat.blt m 55296=false:=by rw[k9,ne_eq,ad0];omega
    rw[e];simp only[j0,cond_true,cond_false,ac8,w8]
    congr 1
theorem Ak8{R:Type}{k0:Int->Int->Option R}:∀(d n k:Nat),d<2305843009213693952->d<n->k+d<=4611686018427387904->
  ∃a b,a<=455/\b<=k+d/\AQ d k=b+36*a / (a+38)/\Gl LF n (d:Int) (k:Int) k0=k0 (a:Int) (b:Int):=by
 intro d
 induction d using ac1 with
 | _ d l=>
  intro n k p r q;obtain⟨n,rfl⟩:∃m,n=m+1:=⟨n-1,by omega⟩
  rw[Gl];by_cases h:455<d
  ·obtain⟨a,b,g,o,i,j⟩:=l (d / 35) (by omega) n (k+36) (by omega) (by omega) (by omega);refine⟨a,b,g,by omega,by rw[JB h];exact i,?_⟩;have e:v7 (d:Int) 35=((d / 35:Nat):Int):=L8 d 35;have c:A1 ((d / 35:Nat):Int)=((d / 35:Nat):Int):=A7;have f:A1 ((k:Int)+36)=((k+36:Nat):Int):=by rw[A7];rfl
   rw[A8];simp only[cond_true,vl,e,c,f];exact j
  ·refine⟨d,k,by omega,by omega,Tj h,?_⟩;rw[A6];rfl
theorem Ak9{R:Type}{k0:Int->Option R}(d c:Int)(f:Bool)(z:ltN d 1152921504606846976=true)(A:ltN c 1000000=true)(B:ltI 0 c=true):MG LF d c f k0=k0 (Q4 d.toNat c.toNat f:Nat):=by
 obtain⟨k,F⟩:=E5.1 z;obtain⟨j,D⟩:=E5.1 A;obtain⟨d,rfl⟩:=x3 k;obtain⟨c,rfl⟩:=x3 j;have J:=Mr.1 B;have C:=C2;have key:∀x:Nat,x<1152921504606846976->Gk LF (x:Int) (c:Int) k0=k0 ((AQ (x+x / c) 0:Nat):Int):=by
  intro x L;have G:x / c<=x:=x8 _ _;unfold Gk;have g:v7 (x:Int) (c:Int)=((x / c:Nat):Int):=L8 x c;generalize x / c=q at *;have h:A1 (q:Int)=(q:Int):=A7;have o:A1 ((x:Int)+(q:Int))=((x+q:Nat):Int):=by rw[A7];rfl
  rw[show((c:Int)!=0)=true by simp;omega];simp only[cond_true,vl,g,h,o];obtain⟨a,n,H,I,w,y⟩:=Ak8 (R:=R) (k0:=λb l=>vl (A1 ((36)*b)) λm=>vl (A1 (b+(38))) λe=>cond (e !=(0)) (vl (A1 (v7 m e)) λi=>k0 (A1 (l+i))) none) (x+q) LF 0 (by omega) (by omega) (by omega);refine a8 y ?_;have K:36*a / (a+38)<=36*a:=x8 _ _;have p:A1 (36*(a:Int))=((36*a:Nat):Int):=by rw[A7];rfl
  have r:A1 ((a:Int)+38)=((a+38:Nat):Int):=by rw[A7];rfl
  have t:v7 ((36*a:Nat):Int) ((a+38:Nat):Int)=((36*a / (a+38):Nat):Int):=L8 _ _;have u:A1 ((36*a / (a+38):Nat):Int)=((36*a / (a+38):Nat):Int):=A7;have v:A1 ((n:Int)+((36*a / (a+38):Nat):Int))=((n+36*a / (a+38):Nat):Int):=by rw[A7];rfl
  simp only[vl,p,r,t,u,v];rw[show(((a+38:Nat):Int)!=0)=true by simp;omega,w];rfl
 unfold MG Q4;rw[b8,b8];cases f with
 | true=>
  have g:v7 (d:Int) 700=((d / 700:Nat):Int):=L8 d 700;have h:A1 ((d / 700:Nat):Int)=((d / 700:Nat):Int):=A7;simp only[cond_true,vl,g,h,if_true];exact key _ (by omega)
 | false=>
  have g:v7 (d:Int) 2=((d / 2:Nat):Int):=L8 d 2;have h:A1 ((d / 2:Nat):Int)=((d / 2:Nat):Int):=A7;simp only[cond_false,vl,g,h,aa8,if_false];exact key _ (by omega)
theorem Ba3{R:Type}{b:Int->Option R}(d:Int)(c:ltN d 36=true):Bv8 LF d b=b ((Am d.toNat).toNat:Nat):=by
 obtain⟨a,e⟩:=E5.1 c;obtain⟨d,rfl⟩:=x3 a;unfold Bv8;rw[b8,PT (by omega)];by_cases h:d<26
 ·rw[A8,if_pos h];simp only[cond_true,vl]
  congr 1
  rw[A7,M4];rfl
 ·rw[A6,if_neg h];simp only[cond_false,vl]
  congr 1
  rw[C8 (n:=48+(d:Int)) (by omega) (by omega),A7,M4];omega
theorem Cb1{R:Type}{g:Int->Option R}(b:Int)(h:inR b 256=true):Cx0 LF b g=g (E3 (u8n b)):=by
 simp only[inR,p6,decide_eq_true_eq] at h;have j:b=((u8n b).toNat:Int):=by
  unfold u8n;simp;omega
 generalize u8n b=c at *;subst j;have i:=c.toNat_lt;unfold Cx0 E3;simp only[Yt,Ys,vl];rcases FC c with⟨d,f,e⟩|⟨d,f,e⟩|⟨d,f,e⟩|⟨d,f,o,e⟩
 ·have a:A1 (wu8 ((c.toNat:Int)-97))=((c.toNat-97:Nat):Int):=by
   rw[M4,A7];omega
  simp (disch:=omega) only[B7,E4,j1,j0,cond_false,cond_true,a,e]
 ·have a:A1 (wu8 ((c.toNat:Int)-65))=((c.toNat-65:Nat):Int):=by
   rw[M4,A7];omega
  simp (disch:=omega) only[B7,E4,j1,j0,cond_false,cond_true,a,e]
 ·have a:A1 (A1 (wu8 ((c.toNat:Int)-48))+26)=((c.toNat-22:Nat):Int):=by
   rw[M4,C8 (n:=(c.toNat:Int)-48) (by omega) (by omega),A7];omega
  simp (disch:=omega) only[B7,E4,j1,j0,cond_false,cond_true,a,e]
 ·rw[e];by_cases k:c.toNat<48
  ·simp (disch:=omega) only[B7,E4,j1,j0,cond_false,cond_true]
  ·by_cases l:c.toNat<65
   ·simp (disch:=omega) only[B7,E4,j1,j0,cond_false,cond_true]
   ·by_cases m:c.toNat<97
    ·simp (disch:=omega) only[B7,E4,j1,j0,cond_false,cond_true]
    ·simp (disch:=omega) only[B7,E4,j1,j0,cond_false,cond_true]
theorem B99{R:Type}{a:Int->Option R}(k b:Int)(c:ltN k 10000000000=true)(d:ltN b 1000000=true):Dh2 LF k b a=a (L1 (ab2 36 k) b):=by obtain⟨j,l⟩:=E5.1 c;obtain⟨e,f⟩:=E5.1 d;unfold Dh2 L1;have g:A1 (k+1)=k+1:=A7;have h:A1 ((36:Int)*(k+1))=36*(k+1):=A7;have i:A1 (36*(k+1)-b)=36*(k+1)-b:=A7;grind
theorem Cs6(z t:Bool)(c:LL)(done a u delta i:Int)(b:Nat)(T:b<1000000):∀(r q k n:Nat) (l:LL),q<10 ^ r->q<1152921504606846976->k+r<=1000->r<n->l.length+r<=200000->
  ∃(d:Nat) (pre:By),d<36/\P5 q k b=pre++[Am d]/\∀(R:Type) (g:Bool->Bool->LL->Int->Int->Int->Int->Int->Int->LL->Option R),Fo LF n z t c done a u delta (b:Int) i (q:Int) (k:Int) l g=g z t c done a u delta i (d:Int) (l++pre.map E2):=by
 have f:∀k:Nat,L1 (ab2 36 (k:Int)) (b:Int)=(thr k b:Int):=λk=>by
  rw[show ab2 36 (k:Int)=((36*k:Nat):Int) from rfl,Zd]
 have j:∀(q k n:Nat) (l:LL),q<thr k b->k<=1000->∃(d:Nat) (pre:By),d<36/\P5 q k b=pre++[Am d]/\∀(R:Type) (g:Bool->Bool->LL->Int->Int->Int->Int->Int->Int->LL->Option R),Fo LF (n+1) z t c done a u delta (b:Int) i (q:Int) (k:Int) l g=g z t c done a u delta i (d:Int) (l++pre.map E2):=by
  intro q k n l p v;have x:=V8 k b;refine⟨q,[],by omega,by rw[Rf p];rfl,λR g=>?_⟩;rw[Fo];have o:ltI (q:Int) (thr k b:Int)=true:=A8;rw[L7,L7,f];grind
 intro r
 induction r with
 | zero=>
  intro q k n l h _ v P N;have x:=V8 k b;obtain⟨n,rfl⟩:∃m,n=m+1:=⟨n-1,by omega⟩
  exact j q k n l (by simp at h;omega) (by omega)
 | succ r Q=>
  intro q k n l h w v P N;have x:=V8 k b;obtain⟨n,rfl⟩:∃m,n=m+1:=⟨n-1,by omega⟩
  by_cases p:q<thr k b
  ·exact j q k n l p (by omega)
  ·have L:(q-thr k b) / (36-thr k b)<10 ^ r:=XA (by omega) (by rw[Nat.pow_succ] at h;omega);have M:(q-thr k b) / (36-thr k b)<=q:=Nat.le_trans (x8 _ _) (by omega);have O:(q-thr k b) % (36-thr k b)<36-thr k b:=ae5 _ (by omega);obtain⟨d,pre,e0,K,e⟩:=Q ((q-thr k b) / (36-thr k b)) (k+1) n (l++[E2 (Am (thr k b+(q-thr k b) % (36-thr k b)))]) L (by omega) (by omega) (by omega) (by rw[j4,p5];omega);refine⟨d,Am (thr k b+(q-thr k b) % (36-thr k b))::pre,e0,by rw[BH p,K];rfl,λR g=>?_⟩;rw[Fo];have y:A1 ((q:Int)-(thr k b:Int))=((q-thr k b:Nat):Int):=by rw[A7];omega
   have C:A1 ((36:Int)-(thr k b:Int))=((36-thr k b:Nat):Int):=by rw[A7];omega
   have D:p4 ((q-thr k b:Nat):Int) ((36-thr k b:Nat):Int)=(((q-thr k b) % (36-thr k b):Nat):Int):=Cl _ _;have F:v7 ((q-thr k b:Nat):Int) ((36-thr k b:Nat):Int)=(((q-thr k b) / (36-thr k b):Nat):Int):=L8 _ _;have I:((((36-thr k b:Nat):Int))!=0)=true:=by rw[bne_iff_ne];omega
   have J:A1 ((k:Int)+1)=((k+1:Nat):Int):=by rw[A7];rfl
   have o:ltI (q:Int) (thr k b:Int)=false:=A6;rw[L7,L7,f];simp only[vl,o,y,C,D,F,I,J,cond_true,cond_false,j0];generalize hA:(q-thr k b) / (36-thr k b)=A at *;generalize S:(q-thr k b) % (36-thr k b)=B at *;have G:A1 ((thr k b:Int)+(B:Int))=((thr k b+B:Nat):Int):=by rw[A7];rfl
   have H:A1 (A:Int)=(A:Int):=A7;rw[G,H,L7,F4 (by omega),b8];refine a8 (e R g) ?_;simp[p9,E2]
theorem Df6(z t:Bool)(c:List Nat)(a m:Nat)(Z:m<=1114112)(Y:c.length<=256):∀(r i n:Nat) (s:SE),i+r=c.length->r<n->s.delta+r<=1000000000000->s.bias<=500->s.out.length+20*r<=90000->s.done+r<=1000->a<=256->
  (∀(R:Type) (d:Bool->Bool->LL->Int->Int->Int->Int->Int->LL->Option R),Aw LF n z t (B6 c) (s.done:Int) (a:Int) (m:Int) (s.delta:Int) (s.bias:Int) (i:Int) (s.out.map E2) d =
   d z t (B6 c) ((I3 m a (c.drop i) s).done:Int) (a:Int) (m:Int) ((I3 m a (c.drop i) s).delta:Int) ((I3 m a (c.drop i) s).bias:Int) ((I3 m a (c.drop i) s).out.map E2))/\
  (I3 m a (c.drop i) s).bias<=500/\(I3 m a (c.drop i) s).out.length<=s.out.length+20*(c.drop i).countP (· == m)/\(I3 m a (c.drop i) s).done=s.done+(c.drop i).countP (· == m)/\
  (I3 m a (c.drop i) s).delta<=(if 0<(c.drop i).countP (· == m) then r else s.delta+r):=by
 have S:=C2;intro r
 induction r with
 | zero=>
  intro i n s T U O B P Q C;obtain⟨n,rfl⟩:∃m,n=m+1:=⟨n-1,by omega⟩
  rw[c9 (by omega)];refine⟨λR d=>?_,B,by simp[I3],by simp[I3],by simp[I3]⟩;rw[Aw];rw[D4,A6];rfl
 | succ r H=>
  intro i n s T U O B P Q C;obtain⟨n,rfl⟩:∃m,n=m+1:=⟨n-1,by omega⟩
  rw[Wo c i (by omega)];have F:=BM c i (by omega);have ok:=Rl (l:=c) (i:=i) (by omega);have e:inR (i:Int) (B6 c).length=true:=K3 (by omega) (by rw[D4];omega);have f:ltI (i:Int) ((B6 c).length:Int)=true:=B7 (by rw[D4];omega);generalize c.getD i 0=p at *;have A:A1 ((i:Int)+1)=((i+1:Nat):Int):=by rw[A7];rfl
  have M:A1 ((s.delta:Int)+1)=((s.delta+1:Nat):Int):=by rw[A7];rfl
  have I:A1 ((s.done:Int)+1)=((s.done+1:Nat):Int):=by rw[A7];rfl
  by_cases G:p<m
  ·have g:(p==m)=false:=by rw[beq_eq_false_iff_ne];omega
   have u:I3 m a (p::c.drop (i+1)) s=I3 m a (c.drop (i+1)) { s with delta:=s.delta+1 }:=by rw[I3,if_pos G]
   obtain⟨v,w,x,y,h⟩:=H (i+1) n { s with delta:=s.delta+1 } (by omega) (by omega) (by simp only;omega) B (by simp only;omega) (by simp only;omega) C;rw[u,ab7 (by rw[g];simp)];refine⟨λR d=>?_,w,x,y,?_⟩
   ·rw[Aw];rw[b8];simp only[e,f,ok,cond_true,vl,F,A,M];rw[A8,cond_true,show((p:Int)!=(m:Int))=true by rw[bne_iff_ne];omega,cond_true];exact v R d
   ·simp only at h;split at h<;>split<;>omega
  ·by_cases L:p=m
   ·subst L;have K:=PX (q:=s.delta) (k:=0) (b:=s.bias) (by omega);have D:=Pa s.delta (s.done+1) (s.done==a) (by omega);have u:I3 p a (p::c.drop (i+1)) s=I3 p a (c.drop (i+1)) { delta:=0,bias:=Q4 s.delta (s.done+1) (s.done==a),done:=s.done+1,out:=s.out++P5 s.delta 0 s.bias }:=by rw[I3,if_neg G,if_pos rfl]
    obtain⟨v,w,x,y,h⟩:=H (i+1) n { delta:=0,bias:=Q4 s.delta (s.done+1) (s.done==a),done:=s.done+1,out:=s.out++P5 s.delta 0 s.bias } (by omega) (by omega) (by simp only;omega) D (by simp only[j4];omega) (by simp only;omega) C;obtain⟨W,pre,X,J,N⟩:=Cs6 z t (B6 c) (s.done:Int) (a:Int) (p:Int) (s.delta:Int) (i:Int) s.bias (by omega) 19 s.delta 0 LF (s.out.map E2) (by omega) (by omega) (by omega) (by omega) (by rw[o7];omega);rw[u,List.countP_cons_of_pos (by simp)];refine⟨λR d=>?_,w,?_,?_,?_⟩
    ·rw[Aw];have j:((s.done:Int)==(a:Int))=(s.done==a):=by
      rw[x7,beq_iff_eq,beq_iff_eq];omega
     rw[b8];simp only[e,f,ok,cond_true,vl,F,A,I];rw[A6,cond_false,bne_self_eq_false,cond_false];refine a8 (N R _) ?_;have V:pre.length+1=(P5 s.delta 0 s.bias).length:=by rw[J];simp
     rw[L7,b8,F4 (by rw[j4,o7,o7];omega)];simp only[vl,cond_true,A,I];rw[L7,L7,A8,j];simp only[cond_true,b8];have o:s.out.map E2++pre.map E2++[[SV.int .u8 (((Am W).toNat:Nat):Int)]]=(s.out++P5 s.delta 0 s.bias).map E2:=by
      rw[J,aa5,aa5,p9];rfl
     rw[o];exact v R d
    ·simp only[j4] at x;omega
    ·simp only at y;omega
    ·simp only at h;rw[T5];split at h<;>omega
   ·have g:(p==m)=false:=by rw[beq_eq_false_iff_ne];omega
    have u:I3 m a (p::c.drop (i+1)) s=I3 m a (c.drop (i+1)) s:=by rw[I3,if_neg G,if_neg L]
    obtain⟨v,w,x,y,h⟩:=H (i+1) n s (by omega) (by omega) (by omega) B (by omega) (by omega) C;rw[u,ab7 (by rw[g];simp)];refine⟨λR d=>?_,w,x,y,?_⟩
    ·rw[Aw];rw[b8];simp only[e,f,ok,cond_true,vl,F,A];rw[A6,cond_false,show((p:Int)!=(m:Int))=true by rw[bne_iff_ne];omega,cond_true];exact v R d
    ·split at h<;>split<;>omega
theorem Bb9{R:Type}{k0:Bool->Bool->LL->Int->Int->Int->Int->Int->Int->LL->Option R}(z t:Bool)(a:List Nat)(q:a.length<=256)(n0:Nat)(b delta c done:Int)(l:LL):∀(r i n m:Nat),i+r=a.length->r<n->
  Jd LF n z t (B6 a) done b (n0:Int) delta c (m:Int) (i:Int) l k0=k0 z t (B6 a) done b (n0:Int) delta c ((H8 n0 (a.drop i) m:Nat):Int) l:=by
 intro r
 induction r with
 | zero=>
  intro i n m k o;obtain⟨n,rfl⟩:∃m,n=m+1:=⟨n-1,by omega⟩
  rw[Jd];rw[D4,A6,c9 (by omega)];rfl
 | succ r f=>
  intro i n m k o;obtain⟨n,rfl⟩:∃m,n=m+1:=⟨n-1,by omega⟩
  have j:=BM a i (by omega);have ok:=Rl (l:=a) (i:=i) (by omega);have d:inR (i:Int) (B6 a).length=true:=K3 (by omega) (by rw[D4];omega);have e:ltI (i:Int) ((B6 a).length:Int)=true:=B7 (by rw[D4];omega);rw[Jd,Wo a i (by omega)];generalize a.getD i 0=p at *;have g:A1 ((i:Int)+1)=((i+1:Nat):Int):=by rw[A7];rfl
  rw[b8];simp only[d,e,ok,cond_true,vl,j,g,H8];by_cases h:n0<=p
  ·rw[if_pos h,A6,j0,cond_true];have:(if (p:Int)<(m:Int) then (p:Int) else (m:Int))=((min m p:Nat):Int):=by split<;>omega
   rw[this];exact f (i+1) n (min m p) (by omega) (by omega)
  ·rw[if_neg h,A8,j1,cond_false];exact f (i+1) n m (by omega) (by omega)
theorem Cs7(z t:Bool)(a:List Nat)(b:Nat)(B:a.length<=256)(T:b<=256)(i:∀p∈a,p<=1114111):∀(f n d:Nat) (s:SE),s.done=a.countP (λp=>decide (p<n))->a.length<=s.done+f->f<d->s.delta<=300->s.bias<=500->s.out.length+20*(a.length-s.done)<=80000->n<=1114112->
  ∀(R:Type) (k0:LL->Option R),Fp LF d z t (B6 a) (s.done:Int) (b:Int) (n:Int) (s.delta:Int) (s.bias:Int) (s.out.map E2) k0=k0 ((R1 a b f n s).out.map E2):=by
 intro f;have S:=C2
 induction f with
 | zero=>
  intro n d s V X Y O y P Q R k0;obtain⟨d,rfl⟩:∃m,d=m+1:=⟨d-1,by omega⟩
  rw[Fp];rw[D4,A6];rfl
 | succ f Z=>
  intro n d s V X Y O y P Q R k0;obtain⟨d,rfl⟩:∃m,d=m+1:=⟨d-1,by omega⟩
  rw[Fp];rw[D4];have U:a.countP (λp=>decide (p<n))<=a.length:=y8;by_cases o:s.done<a.length
  ·obtain⟨v,g,q⟩:=A14 (n:=n) (l:=a) (by omega);obtain⟨g1,g2,x⟩:=Ei n a 1114112;obtain⟨D,F,w⟩:=Ei n a 1073741824;have g4:=x v g q;have G:=w v g q;have g5:=i v g;have e:H8 n a 1114112∈a/\n<=H8 n a 1114112:=by grind
   have h:H8 n a 1073741824∈a/\n<=H8 n a 1073741824:=by grind
   have heq:H8 n a 1073741824=H8 n a 1114112:=by grind
   have W:R1 a b (f+1) n s=R1 a b f (H8 n a 1114112+1) { I3 (H8 n a 1114112) b a { s with delta:=s.delta+(H8 n a 1114112-n)*(s.done+1) } with delta:=(I3 (H8 n a 1114112) b a { s with delta:=s.delta+(H8 n a 1114112-n)*(s.done+1) }).delta+1 }:=by
    rw[R1,if_pos o]
   rw[W,A8,cond_true];have c:=λ(K:Bool->Bool->LL->Int->Int->Int->Int->Int->Int->LL->Option R)=>Bb9 (k0:=K) z t a B n (b:Int) (s.delta:Int) (s.bias:Int) (s.done:Int) (s.out.map E2) a.length 0 LF 1073741824 (by omega) (by omega)
   rw[j8,heq] at c;refine a8 (c _) ?_;clear c heq D F w G h;generalize H8 n a 1114112=m at *;have C:(m-n)*(s.done+1)<=1114112*256:=ae6 (by omega) (by omega);have H:A1 ((s.done:Int)+1)=((s.done+1:Nat):Int):=by rw[A7];rfl
   have I:A1 ((m:Int)-(n:Int))=((m-n:Nat):Int):=by rw[A7];omega
   have J:A1 (((m-n:Nat):Int)*((s.done+1:Nat):Int))=(((m-n)*(s.done+1):Nat):Int):=by
    rw[<-Int.natCast_mul];exact A7
   have L:A1 ((s.delta:Int)+(((m-n)*(s.done+1):Nat):Int))=((s.delta+(m-n)*(s.done+1):Nat):Int):=by
    rw[A7];rfl
   simp only[vl,H,I,J,L];have k:=Df6 z t a b m (by omega) B a.length 0 LF { s with delta:=s.delta+(m-n)*(s.done+1) } (by omega) (by omega) (by simp only;omega) y (by simp only;omega) (by simp only;omega) T;rw[j8] at k;obtain⟨q1,q2,q3,q4,q5⟩:=k;refine a8 (q1 R _) ?_;have j:0<a.countP (· == m):=List.countP_pos_iff.2 ⟨m,e.1,by simp⟩;rw[if_pos j] at q5;have u:=Wi e.2 a x;generalize I3 m b a { s with delta:=s.delta+(m-n)*(s.done+1) } = r at *;simp only at q3 q4;have M:A1 ((r.delta:Int)+1)=((r.delta+1:Nat):Int):=by rw[A7];rfl
   have N:A1 ((m:Int)+1)=((m+1:Nat):Int):=by rw[A7];rfl
   have A:a.countP (λp=>decide (p<m+1))<=a.length:=y8;simp only[M,N];exact Z (m+1) d { r with delta:=r.delta+1 } (by simp only;omega) (by simp only;omega) (by omega) (by simp only;omega) q2 (by simp only;omega) (by omega) R k0
  ·rw[A6];rw[R1,if_neg o];rfl
theorem Bb4(z t:Bool)(P:List Int)(C:P.length<=256):∀(r i n:Nat) (out:By),i+r=P.length->r<n->out.length+r<=1000->
  ((P.drop i).all ptI=true->∀(R:Type) (a:LL->Option R) (b:Bool->Bool->LL->LL->Option R),U8 LF n z t (Az P) (i:Int) (out.map E2) a b=b z t (Az P) ((out++W0 (P.drop i)).map E2))/\
  ((P.drop i).all ptI=false->∃l,∀(R:Type) (a:LL->Option R) (b:Bool->Bool->LL->LL->Option R),U8 LF n z t (Az P) (i:Int) (out.map E2) a b=a l):=by
 intro r
 induction r with
 | zero=>
  intro i n out w y A;obtain⟨n,rfl⟩:∃m,n=m+1:=⟨n-1,by omega⟩
  rw[c9 (by omega)];refine⟨λ_ R a b=>?_,λh=>(by cases h)⟩;rw[U8];rw[V0,A6];simp[W0]
 | succ r v=>
  intro i n out w y A;obtain⟨n,rfl⟩:∃m,n=m+1:=⟨n-1,by omega⟩
  have o:=A33 P i (by omega);have ok:=YD (l:=P) (i:=i) (by omega);have f:inR (i:Int) (Az P).length=true:=K3 (by omega) (by rw[V0];omega);have g:ltI (i:Int) ((Az P).length:Int)=true:=B7 (by rw[V0];omega);rw[Af8 P i (by omega)];generalize P.getD i 0=x at *;have u:A1 ((i:Int)+1)=((i+1:Nat):Int):=by rw[A7];rfl
  cases j:ptI x with
  | false=>
   refine⟨λh=>?_,λ_=>⟨out.map E2,λR a b=>?_⟩⟩
   ·rw[aa2,j] at h;cases h
   ·rw[U8];rw[b8];simp only[f,g,ok,cond_true,vl,o,j,j0]
  | true=>
   obtain⟨B,D⟩:=Uu j;rw[aa2,j,w8];by_cases c:x<128
   ·have d:W0 (x::P.drop (i+1))=y7 x.toNat::W0 (P.drop (i+1)):=by
     unfold W0;rw[List.filter_cons_of_pos (by simpa using c)];rfl
    have k:out.map E2++[[SV.int .u8 (wu8 x)]]=(out++[y7 x.toNat]).map E2:=by rw[Cz5 x B c];simp
    obtain⟨p,q⟩:=v (i+1) n (out++[y7 x.toNat]) (by omega) (by omega) (by simp;omega);have step:∀(R:Type) (a:LL->Option R) (b:Bool->Bool->LL->LL->Option R),U8 LF (n+1) z t (Az P) (i:Int) (out.map E2) a b=U8 LF n z t (Az P) ((i+1:Nat):Int) ((out++[y7 x.toNat]).map E2) a b:=by
     intro R a b;rw[U8];rw[b8];simp only[f,g,ok,cond_true,vl,o,j,j1,cond_false,u];rw[B7 c,o7,F4 (by omega),k];rfl
    refine⟨λh R a b=>?_,λh=>?_⟩
    ·rw[step,p h,d];simp
    ·obtain⟨l,e⟩:=q h;exact⟨l,λR a b=>by rw[step];exact e R a b⟩
   ·have d:W0 (x::P.drop (i+1))=W0 (P.drop (i+1)):=by
     unfold W0;rw[List.filter_cons_of_neg (by simpa using c)]
    obtain⟨p,q⟩:=v (i+1) n out (by omega) (by omega) (by omega);have step:∀(R:Type) (a:LL->Option R) (b:Bool->Bool->LL->LL->Option R),U8 LF (n+1) z t (Az P) (i:Int) (out.map E2) a b=U8 LF n z t (Az P) ((i+1:Nat):Int) (out.map E2) a b:=by
     intro R a b;rw[U8];rw[b8];simp only[f,g,ok,cond_true,vl,o,j,j1,cond_false,u];rw[A6];rfl
    refine⟨λh R a b=>?_,λh=>?_⟩
    ·rw[step,p h,d]
    ·obtain⟨l,e⟩:=q h;exact⟨l,λR a b=>by rw[step];exact e R a b⟩
theorem Bb5(z t:Bool)(P:List Int):(W4 P=([],3)/\∀(R:Type) (b:Unit->Option R) (f:By->Int->LL->Option R),Al3 LF z t (Az P) b f=b ())\/
  (∃l,∀(R:Type) (b:Unit->Option R) (f:By->Int->LL->Option R),Al3 LF z t (Az P) b f=f (W4 P).1 ((W4 P).2:Nat) l):=by
 have x:=C2;by_cases i:256<P.length
 ·refine .inl ⟨by unfold W4;rw[if_pos i],λR b f=>?_⟩;unfold Al3;rw[V0,A8];rfl
 ·right
  obtain⟨v,w⟩:=Bb4 z t P (by omega) P.length 0 LF [] (by omega) (by omega) (by simp;omega);rw[j8] at v w;cases g:P.all ptI with
  | false=>
   obtain⟨l,e⟩:=w g;refine⟨l,λR b f=>?_⟩;unfold Al3;rw[V0,A6,cond_false];refine a8 (e R _ _) ?_;unfold W4;rw[if_neg i,g];rfl
  | true=>
   obtain⟨a,rfl,A,m⟩:=Bv5 g;rw[o7] at i;have k:W4 (a.map λn:Nat=>(n:Int))=Da a:=by
    unfold W4;rw[o7,if_neg i,g];simp[Function.comp_def]
   have j:=Tu a;have y:a.countP (λp=>decide (p<128))<=a.length:=y8;have main:∀(o:By),o.length<=300->∀(R:Type) (b:LL->Option R),Fp LF LF z t (B6 a) ((I8 a).length:Int) ((I8 a).length:Int) 128 0 72 (o.map E2) b=b ((R1 a (I8 a).length 256 128 { delta:=0,bias:=72,done:=(I8 a).length,out:=o }).out.map E2):=by
    intro o B R b;exact Cs7 z t a (I8 a).length (by omega) (by omega) m 256 128 LF { delta:=0,bias:=72,done:=(I8 a).length,out:=o } j (by simp only;omega) (by omega) (by simp) (by simp) (by simp only;omega) (by omega) R b
   have d:Da a=((R1 a (I8 a).length 256 128 { delta:=0,bias:=72,done:=(I8 a).length,out:=if (I8 a).isEmpty then [] else I8 a++[45] }).out,0):=by
    unfold Da;grind
   refine⟨(Da a).1.map E2,λR b f=>?_⟩;unfold Al3;rw[V0,o7,A6,cond_false,k];have r:=v g R;refine a8 (r _ _) ?_;rw[x5,JH,Rj];simp only[vl,o7];by_cases c:I8 a=[]
   ·rw[c,x4,A6,cond_false];have q:=main [] (by simp) R;rw[c,x4] at q;rw[List.map_nil] at q;refine a8 (q _) ?_;rw[c] at d;rw[d];simp only[List.isEmpty_nil,if_true,x4];rw[X3,Y0];rfl
   ·have u:0<(I8 a).length:=x6.2 c;rw[A8,cond_true,F4 (by omega),cond_true];have h:(I8 a).map E2++[[SV.int .u8 (45:Int)]]=(I8 a++[45]).map E2:=by rw[aa5];rfl
    rw[h];refine a8 (main (I8 a++[45]) (by simp;omega) R _) ?_;rw[d,if_neg (by simpa using c)];rw[X3,Y0];rfl
theorem Df7(z t:Bool)(p:LL)(b:p.all Od=true):∃r H,Al3 LF z t p (λ_=>rv (.tup [.s (.str []),.s (.int .i64 3)]) []) (λd e l=>rv (.tup [.s (.str d),.s (.int .i64 e)]) [.arr true 5 1 l])=rv r H/\
  r.stab [0,0] H = .tup [.s (.str (W4 (p.map elI)).1),.s (.int .i64 ((W4 (p.map elI)).2:Nat))]:=by
 obtain⟨P,rfl⟩:=Bt1 b;rw[Ag0];rcases Bb5 z t P with⟨c,a⟩|⟨l,a⟩
 ·exact⟨_,_,a _ _ _,by rw[c];rfl⟩
 ·exact⟨_,_,a _ _ _,rfl⟩
theorem Bf8{R:Type}{k0:Unit->Option R}{k1:By->Int->Option R}(s:By)(k:s.length<=1000000):∀(r i n cut:Nat),i+r=s.length->r<n->
  Ej LF n s (cut:Int) (i:Int) k0 k1=if (s.drop i).any (λb=>o8 128 b.toNat) then k0 () else k1 s ((if 45∈s.drop i then i+G6 (s.drop i) else cut:Nat):Int):=by
 intro r
 induction r with
 | zero=>
  intro i n cut g j;obtain⟨n,rfl⟩:∃m,n=m+1:=⟨n-1,by omega⟩
  rw[Ej];rw[A6,c9 (by omega)];rfl
 | succ r d=>
  intro i n cut g j;obtain⟨n,rfl⟩:∃m,n=m+1:=⟨n-1,by omega⟩
  rw[Ej];have e:A1 ((i:Int)+1)=((i+1:Nat):Int):=by rw[A7];rfl
  rw[A8,E9,D3,D5 s i (by omega),e,ab5];simp only[cond_true];generalize s.getD i 0=b;by_cases h:128<=b.toNat
  ·rw[A6,Nat.ble_eq_true_of_le h];rfl
  ·have:o8 128 b.toNat=false:=by rw[k9,ne_eq,o0];exact h
   rw[A8,this,ac8,j1,cond_false];have f:((b.toNat:Int)==45)=(b==45):=Q8 b 45 (by omega);rw[f];by_cases a:b=45
   ·subst a;rw[show((45:UInt8)==45)=true from rfl,cond_true];refine(d (i+1) n i (by omega) (by omega)).trans ?_;have c:(45:UInt8)∈45::s.drop (i+1):=by simp
    rw[if_pos c];have:(if (45:UInt8)∈s.drop (i+1) then i+1+G6 (s.drop (i+1)) else i)=i+G6 (45::s.drop (i+1)):=by
     rw[G6];grind
    rw[this]
   ·rw[show(b==45)=false from beq_eq_false_iff_ne.2 a,cond_false];refine(d (i+1) n cut (by omega) (by omega)).trans ?_;have c:((45:UInt8)∈b::s.drop (i+1))↔((45:UInt8)∈s.drop (i+1)):=by simp[af8 a]
    have:(if (45:UInt8)∈s.drop (i+1) then i+1+G6 (s.drop (i+1)) else cut)=(if (45:UInt8)∈b::s.drop (i+1) then i+G6 (b::s.drop (i+1)) else cut):=by
     by_cases q:(45:UInt8)∈s.drop (i+1)
     ·rw[if_pos q,if_pos (c.2 q),G6,if_pos q];omega
     grind
    rw[this]
theorem Bf3{R:Type}{k0:By->Int->LL->Option R}(s:By)(q:s.length<=1000000)(k:Nat)(p:k<=s.length):∀(r i n:Nat) (l:List Nat),i+r=k->r<n->l.length=i->
  Hq LF n s (k:Int) (i:Int) (B6 l) k0=k0 s (k:Int) (B6 (l++((s.take k).drop i).map (·.toNat))):=by
 intro r
 induction r with
 | zero=>
  intro i n l f h g;obtain⟨n,rfl⟩:∃m,n=m+1:=⟨n-1,by omega⟩
  rw[Hq];rw[A6,c9 (by rw[o5];omega)];simp
 | succ r j=>
  intro i n l f h g;obtain⟨n,rfl⟩:∃m,n=m+1:=⟨n-1,by omega⟩
  rw[Hq];have c:A1 ((i:Int)+1)=((i+1:Nat):Int):=by rw[A7];rfl
  have e:(s.take k).drop i=s.getD i 0::(s.take k).drop (i+1):=by
   rw[D5 (s.take k) i (by rw[o5];omega)]
   congr 1
   rw[j5,j5,List.getElem?_take_of_lt (by omega)]
  rw[A8,E9,D3,e,D4,F4 (by omega),c];simp only[cond_true];generalize s.getD i 0=b;have o:=b.toNat_lt;have d:A1 (b.toNat:Int)=(b.toNat:Int):=A7;have a:B6 l++[[SV.int .i64 (A1 (b.toNat:Int))]]=B6 (l++[b.toNat]):=by rw[d,Ky];rfl
  rw[a];refine(j (i+1) n _ (by omega) (by omega) (by simp;omega)).trans ?_;simp
theorem Bf6(s:By)(hs:s.length<=1000000)(out:LL)(f b e:Int)(l:LL)(P:0<=b)(Q:b<1000000):∀(r p n k:Nat) (i w:Int),p+r=s.length->r<n->0<=i->i<=1099511627776->0<=w->w<=1099511627776->k+r<=10000000->
  ((T8 b (s.drop p) i w ((36*k:Nat):Int)).1=0->∃o,p<o/\o<=s.length/\(T8 b (s.drop p) i w ((36*k:Nat):Int)).2.1=s.drop o/\∀(R:Type) (a:Int->LL->Option R) (d:By->LL->Int->Int->Int->Int->LL->Option R),V4 LF n s out (p:Int) f i b e w (k:Int) l a d=d s out (o:Int) f (T8 b (s.drop p) i w ((36*k:Nat):Int)).2.2 e l)/\
  ((T8 b (s.drop p) i w ((36*k:Nat):Int)).1≠0->∀(R:Type) (a:Int->LL->Option R) (d:By->LL->Int->Int->Int->Int->LL->Option R),V4 LF n s out (p:Int) f i b e w (k:Int) l a d=a (T8 b (s.drop p) i w ((36*k:Nat):Int)).1 l):=by
 intro r
 induction r with
 | zero=>
  intro p n k i w X W U D G g V;obtain⟨n,rfl⟩:∃m,n=m+1:=⟨n-1,by omega⟩
  rw[c9 (by omega)];refine⟨λh=>by simp[T8] at h,λ_ R a d=>?_⟩;rw[V4];rw[A6];rfl
 | succ r Z=>
  intro p n k i w X W U D G g V;obtain⟨n,rfl⟩:∃m,n=m+1:=⟨n-1,by omega⟩
  have S:=D5 s p (by omega);have C:=D3 s p;rw[S];generalize s.getD p 0=c at *;have Y:=Fx c;have ht:=Nr ((36*k:Nat):Int) b;have e0:ab2 36 (k:Int)=((36*k:Nat):Int):=rfl;have J:A1 ((p:Int)+1)=((p+1:Nat):Int):=by rw[A7];rfl
  have K:A1 ((k:Int)+1)=((k+1:Nat):Int):=by rw[A7];rfl
  have start:∀(R:Type) (a:Int->LL->Option R) (d:By->LL->Int->Int->Int->Int->LL->Option R),V4 LF (n+1) s out (p:Int) f i b e w (k:Int) l a d =
    cond (ltI (E3 c) 0) (a 4 l)
     (vl (A1 (i+(A1 (E3 c*w)))) λj=>cond (ltI 1099511627776 j) (a 19 l)
      (cond (ltI (E3 c) (L1 ((36*k:Nat):Int) b)) (d s out ((p+1:Nat):Int) f j e l)
       (vl (A1 (36-(L1 ((36*k:Nat):Int) b))) λq=>cond (ltI 1099511627776 (A1 (w*q))) (a 19 l) (V4 LF n s out ((p+1:Nat):Int) f j b e (A1 (w*q)) ((k+1:Nat):Int) l a d)))):=by
   intro R a d;rw[V4];have T:=c.toNat_lt;rw[A8,E9,C,E9,Jm,L7,L7,e0,J,K];rfl
  unfold T8;by_cases y:E3 c<0
  ·rw[if_pos y];refine⟨λh=>by simp at h,λ_ R a d=>?_⟩;rw[start,B7 y];rfl
  ·rw[if_neg y];have hm:=Dh (by omega) Y.2 G g;have u:A1 (E3 c*w)=E3 c*w:=A7;have v:A1 (i+E3 c*w)=i+E3 c*w:=A7;by_cases z:1099511627776<i+E3 c*w
   ·rw[if_pos z];refine⟨λh=>by simp at h,λ_ R a d=>?_⟩;rw[start,A6,u,v];simp only[vl,cond_false];rw[B7 z];rfl
   ·rw[if_neg z];by_cases A:E3 c<L1 ((36*k:Nat):Int) b
    ·rw[if_pos A];refine⟨λ_=>⟨p+1,by omega,by omega,rfl,λR a d=>?_⟩,λh=>absurd rfl h⟩;rw[start,A6,u,v];simp only[vl,cond_false];rw[A6,B7 A];rfl
    ·rw[if_neg A];have H:A1 (36-L1 ((36*k:Nat):Int) b)=36-L1 ((36*k:Nat):Int) b:=A7;have F:=Dh (x:=36-L1 ((36*k:Nat):Int) b) (by omega) (by omega) G g;rw[af4] at F;have I:A1 (w*(36-L1 ((36*k:Nat):Int) b))=w*(36-L1 ((36*k:Nat):Int) b):=A7;by_cases B:1099511627776<w*(36-L1 ((36*k:Nat):Int) b)
     ·rw[if_pos B];refine⟨λh=>by simp at h,λ_ R a d=>?_⟩;rw[start,A6,u,v];simp only[vl,cond_false];rw[A6,A6,H,I,B7 B];rfl
     ·rw[if_neg B];have L:((36*k:Nat):Int)+36=((36*(k+1):Nat):Int):=by omega
      rw[L];obtain⟨q1,q2⟩:=Z (p+1) n (k+1) (i+E3 c*w) (w*(36-L1 ((36*k:Nat):Int) b)) (by omega) (by omega) (by omega) (by omega) (by omega) (by omega) (by omega);have t:∀(R:Type) (a:Int->LL->Option R) (d:By->LL->Int->Int->Int->Int->LL->Option R),V4 LF (n+1) s out (p:Int) f i b e w (k:Int) l a d=V4 LF n s out ((p+1:Nat):Int) f (i+E3 c*w) b e (w*(36-L1 ((36*k:Nat):Int) b)) ((k+1:Nat):Int) l a d:=by simp_all
      refine⟨λh=>?_,λh R a d=>by rw[t];exact q2 h R a d⟩;obtain⟨o,g1,M,N,O⟩:=q1 h;exact⟨o,by omega,M,N,λR a d=>by rw[t];exact O R a d⟩
theorem Bf7(s:By)(Z:s.length<=1000000)(l:LL):∀(r p n k:Nat) (i w:Int),p+r=s.length->r<n->0<=i->i<=1099511627776->0<=w->w<=1099511627776->k+r<=10000000->
  ((T8 72 (s.drop p) i w ((36*k:Nat):Int)).1=0->∃f,p<f/\f<=s.length/\(T8 72 (s.drop p) i w ((36*k:Nat):Int)).2.1=s.drop f/\∀(R:Type) (a:Int->LL->Option R) (b:By->Int->Int->LL->Option R),V5 LF n s (p:Int) i w (k:Int) l a b=b s (f:Int) (T8 72 (s.drop p) i w ((36*k:Nat):Int)).2.2 l)/\
  ((T8 72 (s.drop p) i w ((36*k:Nat):Int)).1≠0->∀(R:Type) (a:Int->LL->Option R) (b:By->Int->Int->LL->Option R),V5 LF n s (p:Int) i w (k:Int) l a b=a (T8 72 (s.drop p) i w ((36*k:Nat):Int)).1 l):=by
 intro r
 induction r with
 | zero=>
  intro p n k i w S Q O A C d P;obtain⟨n,rfl⟩:∃m,n=m+1:=⟨n-1,by omega⟩
  rw[c9 (by omega)];refine⟨λh=>by simp[T8] at h,λ_ R a b=>?_⟩;rw[V5];rw[A6];rfl
 | succ r U=>
  intro p n k i w S Q O A C d P;obtain⟨n,rfl⟩:∃m,n=m+1:=⟨n-1,by omega⟩
  have M:=D5 s p (by omega);have z:=D3 s p;rw[M];generalize s.getD p 0=c at *;have T:=Fx c;have ht:=Nr ((36*k:Nat):Int) 72;have e0:ab2 36 (k:Int)=((36*k:Nat):Int):=rfl;have G:A1 ((p:Int)+1)=((p+1:Nat):Int):=by rw[A7];rfl
  have H:A1 ((k:Int)+1)=((k+1:Nat):Int):=by rw[A7];rfl
  have start:∀(R:Type) (a:Int->LL->Option R) (b:By->Int->Int->LL->Option R),V5 LF (n+1) s (p:Int) i w (k:Int) l a b =
    cond (ltI (E3 c) 0) (a 4 l)
     (vl (A1 (i+(A1 (E3 c*w)))) λe=>cond (ltI 1099511627776 e) (a 19 l)
      (cond (ltI (E3 c) (L1 ((36*k:Nat):Int) 72)) (b s ((p+1:Nat):Int) e l)
       (vl (A1 (36-(L1 ((36*k:Nat):Int) 72))) λg=>cond (ltI 1099511627776 (A1 (w*g))) (a 19 l) (V5 LF n s ((p+1:Nat):Int) e (A1 (w*g)) ((k+1:Nat):Int) l a b)))):=by
   intro R a b;rw[V5];have N:=c.toNat_lt;rw[A8,E9,z,E9,Jm,L7,L7,e0,G,H];rfl
  unfold T8;by_cases t:E3 c<0
  ·rw[if_pos t];refine⟨λh=>by simp at h,λ_ R a b=>?_⟩;rw[start,B7 t];rfl
  ·rw[if_neg t];have Y:=Dh (by omega) T.2 C d;have o:A1 (E3 c*w)=E3 c*w:=A7;have q:A1 (i+E3 c*w)=i+E3 c*w:=A7;by_cases u:1099511627776<i+E3 c*w
   ·rw[if_pos u];refine⟨λh=>by simp at h,λ_ R a b=>?_⟩;rw[start,A6,o,q];simp only[vl,cond_false];rw[B7 u];rfl
   ·rw[if_neg u];by_cases v:E3 c<L1 ((36*k:Nat):Int) 72
    ·rw[if_pos v];refine⟨λ_=>⟨p+1,by omega,by omega,rfl,λR a b=>?_⟩,λh=>absurd rfl h⟩;rw[start,A6,o,q];simp only[vl,cond_false];rw[A6,B7 v];rfl
    ·rw[if_neg v];have D:A1 (36-L1 ((36*k:Nat):Int) 72)=36-L1 ((36*k:Nat):Int) 72:=A7;have B:=Dh (x:=36-L1 ((36*k:Nat):Int) 72) (by omega) (by omega) C d;rw[af4] at B;have F:A1 (w*(36-L1 ((36*k:Nat):Int) 72))=w*(36-L1 ((36*k:Nat):Int) 72):=A7;by_cases y:1099511627776<w*(36-L1 ((36*k:Nat):Int) 72)
     ·rw[if_pos y];refine⟨λh=>by simp at h,λ_ R a b=>?_⟩;rw[start,A6,o,q];simp only[vl,cond_false];rw[A6,A6,D,F,B7 y];rfl
     ·rw[if_neg y];have I:((36*k:Nat):Int)+36=((36*(k+1):Nat):Int):=by omega
      rw[I];obtain⟨V,W⟩:=U (p+1) n (k+1) (i+E3 c*w) (w*(36-L1 ((36*k:Nat):Int) 72)) (by omega) (by omega) (by omega) (by omega) (by omega) (by omega) (by omega);have j:∀(R:Type) (a:Int->LL->Option R) (b:By->Int->Int->LL->Option R),V5 LF (n+1) s (p:Int) i w (k:Int) l a b=V5 LF n s ((p+1:Nat):Int) (i+E3 c*w) (w*(36-L1 ((36*k:Nat):Int) 72)) ((k+1:Nat):Int) l a b:=by simp_all
      refine⟨λh=>?_,λh R a b=>by rw[j];exact W h R a b⟩;obtain⟨f,X,J,K,L⟩:=V h;exact⟨f,by omega,J,K,λR a b=>by rw[j];exact L R a b⟩
theorem QR(l:List Nat)(k:Nat):(B6 l).take k=B6 (l.take k):=by unfold B6;rw[List.map_take]
theorem QQ(l:List Nat)(k:Nat):(B6 l).drop k=B6 (l.drop k):=by unfold B6;rw[List.map_drop]
theorem Bf5(s:By)(hs:s.length<=1000000)(l:LL):∀(r p f:Nat) (a:List Nat) (n i b:Nat),p+r=s.length->r<f->a.length<=256->n<=1114111->i<=1000->b<=500->
  ((H7 (s.drop p) a n i b false).2=0->∀(R:Type) (c:Int->LL->Option R) (d e:LL->LL->Option R),P2 LF f s (B6 a) (p:Int) (n:Int) (i:Int) (b:Int) l c d e=e (B6 (H7 (s.drop p) a n i b false).1) l)/\
  ((H7 (s.drop p) a n i b false).2≠0->(H7 (s.drop p) a n i b false).1=[]/\((∀(R:Type) (c:Int->LL->Option R) (d e:LL->LL->Option R),P2 LF f s (B6 a) (p:Int) (n:Int) (i:Int) (b:Int) l c d e=c ((H7 (s.drop p) a n i b false).2:Nat) l)\/
   ((H7 (s.drop p) a n i b false).2=3/\∃D,∀(R:Type) (c:Int->LL->Option R) (d e:LL->LL->Option R),P2 LF f s (B6 a) (p:Int) (n:Int) (i:Int) (b:Int) l c d e=d l D))):=by
 have a0:=C2;intro r
 induction r using ac1 with
 | _ r ih=>
  intro p f a n i b hp hf h2 h3 h4 h5;obtain⟨f,rfl⟩:∃m,f=m+1:=⟨f-1,by omega⟩
  by_cases hr:r=0
  ·rw[c9 (by omega),Cy];refine⟨λ_ R c d e=>?_,λh=>absurd rfl h⟩;rw[P2];rw[A6];rfl
  ·have q:s.drop p≠[]:=λh=>by
    have:=congrArg j2 h;rw[j7] at this;simp at this;omega
   obtain⟨z,H⟩:=Bf6 s hs (B6 a) (n:Int) (b:Int) (i:Int) l (by omega) (by omega) r p LF 0 (i:Int) 1 hp (by omega) (by omega) (by omega) (by omega) (by omega) (by omega);obtain⟨F,G⟩:=Wn b (s.drop p) i 1 0;have y:T8 (b:Int) (s.drop p) (i:Int) 1 ((36*0:Nat):Int)=T8 (b:Int) (s.drop p) (i:Int) ((1:Nat):Int) ((36*0:Nat):Int):=rfl;rw[y] at z H;by_cases o:(D8 b (s.drop p) i 1 0).2.2=0
   ·rw[Ed q a n i b false o];have T:=G o;have K:(T8 (b:Int) (s.drop p) (i:Int) ((1:Nat):Int) ((36*0:Nat):Int)).1=0:=by rw[F,o];rfl
    obtain⟨v,a1,a2,w,x⟩:=z K;obtain⟨L,O,_⟩:=Wm (b:Int) (s.drop p) (i:Int) ((1:Nat):Int) ((36*0:Nat):Int) (by omega) (by omega) (by omega) K;rw[T] at L O w x;simp only at L O w x;rw[w];generalize (D8 b (s.drop p) i 1 0).1=X at *;have el:A1 (((B6 a).length:Int)+1)=((a.length+1:Nat):Int):=by rw[D4,A7];rfl
    have U:A1 ((X:Int)-(i:Int))=((X-i:Nat):Int):=by rw[A7];omega
    have Z:v7 (X:Int) ((a.length+1:Nat):Int)=((X / (a.length+1):Nat):Int):=L8 _ _;have em:p4 (X:Int) ((a.length+1:Nat):Int)=((X % (a.length+1):Nat):Int):=Cl _ _;have a5:X / (a.length+1)<=X:=x8 _ _;have J:=ae5 X (show 0<a.length+1 by omega);have A:=Pa (X-i) (a.length+1) false (by omega);generalize hQ:X / (a.length+1)=Q at *;generalize hM:X % (a.length+1)=M at *;have V:A1 (Q:Int)=(Q:Int):=A7;have W:A1 ((n:Int)+(Q:Int))=((n+Q:Nat):Int):=by rw[A7];rfl
    have Y:A1 ((M:Int)+1)=((M+1:Nat):Int):=by rw[A7];rfl
    have C:(((a.length+1:Nat):Int)!=0)=true:=by rw[bne_iff_ne];omega
    have P:cut (B6 a) 0 (M:Int)=B6 (a.take M):=by rw[K6,b8,QR]
    have S:cut (B6 a) (M:Int) ((B6 a).length:Int)=B6 (a.drop M):=by rw[P4,b8,QQ]
    have t:∀N:Nat,B6 (a.take M)++[[SV.int .i64 (N:Int)]]++B6 (a.drop M)=B6 (V2 a M N):=λN=>by
     unfold V2;rw[Ky,p9];rfl
    have start:∀(R:Type) (c:Int->LL->Option R) (d e:LL->LL->Option R),P2 LF (f+1) s (B6 a) (p:Int) (n:Int) (i:Int) (b:Int) l c d e =
      cond (not (V3 (n+Q))) (c 2 l) (cond (ltI 256 ((a.length+1:Nat):Int)) (d l (B6 (V2 a M (n+Q))))
       (P2 LF f s (B6 (V2 a M (n+Q))) (v:Int) ((n+Q:Nat):Int) ((M+1:Nat):Int) ((Q4 (X-i) (a.length+1) false:Nat):Int) l c d e)):=by
     intro R c d e;rw[P2];rw[A8,cond_true];refine(x R _ _).trans ?_;have s1:I6 (0:Int) (M:Int) (B6 a).length=true:=Af (by omega) (by omega) (by rw[D4];omega);have s2:I6 (M:Int) ((B6 a).length:Int) (B6 a).length=true:=Af (by omega) (by rw[D4];omega) (by omega);have t1:ltN ((X-i:Nat):Int) 1152921504606846976=true:=L7;have t2:ltN ((a.length+1:Nat):Int) 1000000=true:=L7;have t3:ltI 0 ((a.length+1:Nat):Int)=true:=A8;have l1:(B6 (a.take M)).length=M:=by rw[D4,o5];omega
     have l2:(B6 (a.drop M)).length=a.length-M:=by rw[D4,j7]
     have r1:F9 (0+(B6 (a.take M)).length)=true:=F4 (by omega);have r2:F9 ((B6 (a.take M)).length+1)=true:=F4 (by omega);have r3:F9 ((B6 (a.take M)++[[SV.int .i64 ((n+Q:Nat):Int)]]).length+(B6 (a.drop M)).length)=true:=F4 (by rw[j4,p5];omega);have l3:(B6 (V2 a M (n+Q))).length=a.length+1:=by rw[D4,Bk]
     simp only[vl,el,U,Z,em,V,W,Y,C,s1,s2,t1,t2,t3,P,S,r1,r2,r3,t,l3,cond_true,b8,Mx]
    cases g:V3 (n+Q) with
    | false=>
     rw[if_neg (by simp)];refine⟨λh=>by simp at h,λ_=>⟨rfl,.inl λR c d e=>?_⟩⟩;rw[start,g];rfl
    | true=>
     rw[if_pos rfl];by_cases I:256<a.length+1
     ·rw[if_pos I];refine⟨λh=>by simp at h,λ_=>⟨rfl,.inr ⟨rfl,B6 (V2 a M (n+Q)),λR c d e=>?_⟩⟩⟩;rw[start,g,A8];rfl
     ·rw[if_neg I];have B:n+Q<=1114111:=by
       unfold V3 at g;simp only[p6,o0] at g;exact g.1
      have k:∀(R:Type) (c:Int->LL->Option R) (d e:LL->LL->Option R),P2 LF (f+1) s (B6 a) (p:Int) (n:Int) (i:Int) (b:Int) l c d e=P2 LF f s (B6 (V2 a M (n+Q))) (v:Int) ((n+Q:Nat):Int) ((M+1:Nat):Int) ((Q4 (X-i) (a.length+1) false:Nat):Int) l c d e:=by
       intro R c d e;rw[start,g,A6];rfl
      obtain⟨z1,z2⟩:=ih (s.length-v) (by omega) v f (V2 a M (n+Q)) (n+Q) (M+1) (Q4 (X-i) (a.length+1) false) (by omega) (by omega) (by rw[Bk];omega) B (by omega) A;refine⟨λh R c d e=>by rw[k];exact z1 h R c d e,λh=>?_⟩;obtain⟨y1,u⟩:=z2 h;refine⟨y1,?_⟩;rcases u with u|⟨u,D,y3⟩
      ·exact .inl λR c d e=>by rw[k];exact u R c d e
      ·exact .inr ⟨u,D,λR c d e=>by rw[k];exact y3 R c d e⟩
   ·rw[Ha q a n i b false o];clear z G;refine⟨λh=>absurd h o,λ_=>⟨rfl,.inl λR c d e=>?_⟩⟩;rw[P2];rw[A8,cond_true];have j:=congrArg Prod.fst F;simp only at j;refine(H (by rw[j];omega) R _ _).trans ?_;rw[j]
theorem B01:∀(r:Nat) (s:By) (a:List Nat) (n i b:Nat) (f:Bool),s.length<=r->0<a.length->(H7 s a n i b f).2=0->(H7 s a n i b f).1≠[]:=by
 intro r
 induction r with
 | zero=>
  intro s a n i b f d l h;obtain rfl:=y5.1 (Nat.le_zero.1 d);rw[Cy];grind
 | succ r m=>
  intro s a n i b f d l h;by_cases e:s=[]
  ·grind
  ·by_cases c:(D8 b s i 1 0).2.2=0
   ·rw[Ed e a n i b f c] at h ⊢;split at h
    ·rename_i g;rw[if_pos g];split at h
     ·omega
     ·rename_i j;rw[if_neg j];have k:=Rd b s i 1 0 c;exact m _ _ _ _ _ _ (by omega) (by rw[Bk];omega) h
    omega
   ·rw[Ha e a n i b f c] at h;omega
theorem Bf4(s:By)(K:s.length<=1000000)(p:Nat)(a:List Nat)(h2:a.length<=256)(hp:p<=s.length) :
  (s.drop p=[]/\∀(R:Type) (b:Int->LL->Option R) (c d:LL->LL->Option R) (g:LL->Option R),K8 LF LF s (p:Int) (B6 a) b c d g=g (B6 a))\/
  ((H7 (s.drop p) a 128 0 72 true).2=0/\(H7 (s.drop p) a 128 0 72 true).1≠[]/\∀(R:Type) (b:Int->LL->Option R) (c d:LL->LL->Option R) (g:LL->Option R),K8 LF LF s (p:Int) (B6 a) b c d g=d (B6 (H7 (s.drop p) a 128 0 72 true).1) (B6 a))\/
  ((H7 (s.drop p) a 128 0 72 true).1=[]/\((∀(R:Type) (b:Int->LL->Option R) (c d:LL->LL->Option R) (g:LL->Option R),K8 LF LF s (p:Int) (B6 a) b c d g=b ((H7 (s.drop p) a 128 0 72 true).2:Nat) (B6 a))\/
   ((H7 (s.drop p) a 128 0 72 true).2=3/\∃F,∀(R:Type) (b:Int->LL->Option R) (c d:LL->LL->Option R) (g:LL->Option R),K8 LF LF s (p:Int) (B6 a) b c d g=c (B6 a) F))):=by
 have a0:=C2;obtain⟨f,B⟩:∃m,LF=m+1:=⟨LF-1,by omega⟩
 by_cases hr:s.length<=p
 ·refine .inl ⟨c9 hr,λR b c d g=>?_⟩;have e:K8 LF LF s (p:Int) (B6 a) b c d g=K8 LF (f+1) s (p:Int) (B6 a) b c d g:=by rw[<-B]
  rw[e,K8];rw[A6];rfl
 ·right
  have o:s.drop p≠[]:=λh=>by
   have:=congrArg j2 h;grind
  obtain⟨u,y⟩:=Bf7 s K (B6 a) (s.length-p) p LF 0 0 1 (by omega) (by omega) (by omega) (by omega) (by omega) (by omega) (by omega);obtain⟨G,x⟩:=Wn 72 (s.drop p) 0 1 0;have n:T8 72 (s.drop p) 0 1 ((36*0:Nat):Int)=T8 ((72:Nat):Int) (s.drop p) ((0:Nat):Int) ((1:Nat):Int) ((36*0:Nat):Int):=rfl;rw[n] at u y;by_cases A:(D8 72 (s.drop p) 0 1 0).2.2=0
  ·rw[Ed o a 128 0 72 true A];have H:=x A;have k:(T8 ((72:Nat):Int) (s.drop p) ((0:Nat):Int) ((1:Nat):Int) ((36*0:Nat):Int)).1=0:=by grind
   obtain⟨r,a1,a2,v,w⟩:=u k;obtain⟨L,O,_⟩:=Wm ((72:Nat):Int) (s.drop p) ((0:Nat):Int) ((1:Nat):Int) ((36*0:Nat):Int) (by omega) (by omega) (by omega) k;rw[H] at L O v w;simp only at L O v w;clear u y G x H k n;rw[v];generalize (D8 72 (s.drop p) 0 1 0).1=X at *;have Z:A1 (((B6 a).length:Int)+1)=((a.length+1:Nat):Int):=by rw[D4,A7];rfl
   have T:A1 ((X:Int)-0)=(X:Int):=by rw[A7];omega
   have Y:v7 (X:Int) ((a.length+1:Nat):Int)=((X / (a.length+1):Nat):Int):=L8 _ _;have em:p4 (X:Int) ((a.length+1:Nat):Int)=((X % (a.length+1):Nat):Int):=Cl _ _;have a5:X / (a.length+1)<=X:=x8 _ _;have J:=ae5 X (show 0<a.length+1 by omega);have z:=Pa X (a.length+1) true (by omega);generalize hQ:X / (a.length+1)=Q at *;generalize hM:X % (a.length+1)=M at *;have U:A1 (Q:Int)=(Q:Int):=A7;have V:A1 ((128:Int)+(Q:Int))=((128+Q:Nat):Int):=by rw[A7];rfl
   have W:A1 ((M:Int)+1)=((M+1:Nat):Int):=by rw[A7];rfl
   have D:(((a.length+1:Nat):Int)!=0)=true:=by rw[bne_iff_ne];omega
   have P:z7 (M-0) (aa7 0 (B6 a))=B6 (a.take M):=by rw[af7,j8,QR]
   have S:z7 ((B6 a).length-M) (aa7 M (B6 a))=B6 (a.drop M):=by
    rw[List.take_of_length_le (by rw[j7];omega),QQ]
   have q:∀N:Nat,B6 (a.take M)++[[SV.int .i64 (N:Int)]]++B6 (a.drop M)=B6 (V2 a M N):=λN=>by
    unfold V2;rw[Ky,p9];rfl
   have start:∀(R:Type) (b:Int->LL->Option R) (c d:LL->LL->Option R) (g:LL->Option R),K8 LF LF s (p:Int) (B6 a) b c d g =
     cond (not (V3 (128+Q))) (b 2 (B6 a)) (cond (ltI 256 ((a.length+1:Nat):Int)) (c (B6 a) (B6 (V2 a M (128+Q))))
      (P2 LF f s (B6 (V2 a M (128+Q))) (r:Int) ((128+Q:Nat):Int) ((M+1:Nat):Int) ((Q4 X (a.length+1) true:Nat):Int) (B6 a) b c d)):=by
    intro R b c d g;have e:K8 LF LF s (p:Int) (B6 a) b c d g=K8 LF (f+1) s (p:Int) (B6 a) b c d g:=by rw[<-B]
    rw[e,K8];rw[A8,cond_true];refine(w R _ _).trans ?_;have s1:I6 (0:Int) (M:Int) (B6 a).length=true:=Af (by omega) (by omega) (by rw[D4];omega);have s2:I6 (M:Int) ((B6 a).length:Int) (B6 a).length=true:=Af (by omega) (by rw[D4];omega) (by omega);have t1:ltN (X:Int) 1152921504606846976=true:=L7;have t2:ltN ((a.length+1:Nat):Int) 1000000=true:=L7;have t3:ltI 0 ((a.length+1:Nat):Int)=true:=A8;have l1:(B6 (a.take M)).length=M:=by rw[D4,o5];omega
    have l2:(B6 (a.drop M)).length=a.length-M:=by rw[D4,j7]
    have r1:F9 (0+(B6 (a.take M)).length)=true:=F4 (by omega);have r2:F9 ((B6 (a.take M)).length+1)=true:=F4 (by omega);have r3:F9 ((B6 (a.take M)++[[SV.int .i64 ((128+Q:Nat):Int)]]).length+(B6 (a.drop M)).length)=true:=F4 (by rw[j4,p5];omega);have l3:(B6 (V2 a M (128+Q))).length=a.length+1:=by rw[D4,Bk]
    simp only[vl,Z,T,Y,em,U,V,W,D,s1,s2,t1,t2,t3,b8,P,S,r1,r2,r3,q,l3,cond_true,Mx]
   cases j:V3 (128+Q) with
   | false=>
    rw[if_neg (by simp)];refine .inr ⟨rfl,.inl λR b c d g=>?_⟩;rw[start,j];rfl
   | true=>
    rw[if_pos rfl];by_cases I:256<a.length+1
    ·rw[if_pos I];refine .inr ⟨rfl,.inr ⟨rfl,B6 (V2 a M (128+Q)),λR b c d g=>?_⟩⟩;rw[start,j,A8];rfl
    ·rw[if_neg I];have C:128+Q<=1114111:=by
      unfold V3 at j;simp_all
     have l:∀(R:Type) (b:Int->LL->Option R) (c d:LL->LL->Option R) (g:LL->Option R),K8 LF LF s (p:Int) (B6 a) b c d g=P2 LF f s (B6 (V2 a M (128+Q))) (r:Int) ((128+Q:Nat):Int) ((M+1:Nat):Int) ((Q4 X (a.length+1) true:Nat):Int) (B6 a) b c d:=by
      intro R b c d g;rw[start,j,A6];rfl
     obtain⟨z1,z2⟩:=Bf5 s K (B6 a) (s.length-r) r f (V2 a M (128+Q)) (128+Q) (M+1) (Q4 X (a.length+1) true) (by omega) (by omega) (by rw[Bk];omega) C (by omega) z;have hX:X-0=X:=af7 X;rw[hX];by_cases k:(H7 (s.drop r) (V2 a M (128+Q)) (128+Q) (M+1) (Q4 X (a.length+1) true) false).2=0
     ·refine .inl ⟨k,?_,λR b c d g=>by rw[l];exact z1 k R b c d⟩;exact B01 _ _ _ _ _ _ _ (ab4 _) (by rw[Bk];omega) k
     ·obtain⟨y1,t⟩:=z2 k;refine .inr ⟨y1,?_⟩;rcases t with t|⟨t,F,y3⟩
      ·exact .inl λR b c d g=>by rw[l];exact t R b c d
      ·exact .inr ⟨t,F,λR b c d g=>by rw[l];exact y3 R b c d⟩
  ·rw[Ha o a 128 0 72 true A];clear u x;refine .inr ⟨rfl,.inl λR b c d g=>?_⟩;have e:K8 LF LF s (p:Int) (B6 a) b c d g=K8 LF (f+1) s (p:Int) (B6 a) b c d g:=by rw[<-B]
   rw[e,K8];rw[A8,cond_true];have i:=congrArg Prod.fst G;simp only at i;refine(y (by rw[i];omega) R _ _).trans ?_;rw[i]
theorem Cv0(s:By)(M:A3 s.length=true):∃r H,Bw5 LF s (λi f=>rv (.tup [.fl 0,.s (.int .i64 i)]) [.arr true 3 1 f]) (λi f=>rv (.tup [.fl 1,.s (.int .i64 i)]) [.arr true 3 1 f,.arr true 3 1 []]) (λx f=>rv (.tup [.fl 2,.s (.int .i64 (3:Int))]) [.arr true 3 1 x,.arr false 3 1 f,.arr true 3 1 []]) (λi f=>rv (.tup [.s (.sl false false 1 i),.s (.int .i64 (0:Int))]) [.arr true 3 1 f])=rv r H/\
  r.stab [1,0] H = .tup [.s (.sl (N6 s).1.isEmpty (N6 s).1.isEmpty 1 (Mt (N6 s).1)),.s (.int .i64 ((N6 s).2:Nat))]:=by
 have G:=C2;unfold Bw5 N6;by_cases z:1024<s.length
 ·rw[if_pos z,A8];exact⟨_,_,rfl,rfl⟩
 ·rw[if_neg z,A6,cond_false];have e:=λ(R:Type) (C:Unit->Option R) (D:By->Int->Option R)=>Bf8 (k0:=C) (k1:=D) s (by omega) s.length 0 LF 0 (by omega) (by omega)
  rw[j8] at e;cases y:s.any (λb=>o8 128 b.toNat) with
  | true=>
   rw[if_pos rfl];refine⟨.tup [.fl 0,.s (.int .i64 4)],[.arr true 3 1 []],(e _ _ _).trans ?_,rfl⟩;rw[y,if_pos rfl]
  | false=>
   rw[if_neg (by simp)];obtain⟨L,F⟩:=Ps s;have I:=Pt s;have q:(if (45:UInt8)∈s then 0+G6 s else 0)=G6 s:=by
    split
    ·omega
    ·rename_i h;exact(F h).2.symm
   rw[y,q] at e;have c:=λ(R:Type) (K:By->Int->LL->Option R)=>Bf3 (k0:=K) s (by omega) (G6 s) (by omega) (G6 s) 0 LF [] (by omega) (by omega) rfl
   rw[j8] at c;have g:((s.take (G6 s)).map (·.toNat)).length=G6 s:=by rw[o7,o5];omega
   generalize N:G6 s=m at *;generalize A:(s.take m).map (·.toNat)=d at *;by_cases k:256<m
   ·rw[if_pos k];refine⟨.tup [.fl 1,.s (.int .i64 3)],[.arr true 3 1 (B6 d),.arr true 3 1 []],(e _ _ _).trans ?_,rfl⟩;rw[if_neg (by simp)];refine(c _ _).trans ?_;rw[x5,D4,g,A8];rfl
   ·rw[if_neg k];have o:∀p:Nat,p<=s.length->∀(X:Option (PV × List Blk × Unit)),X=K8 LF LF s (p:Int) (B6 d) (λi f=>rv (.tup [.fl 1,.s (.int .i64 i)]) [.arr true 3 1 f,.arr true 3 1 []]) (λx f=>rv (.tup [.fl 2,.s (.int .i64 (3:Int))]) [.arr true 3 1 x,.arr false 3 1 f,.arr true 3 1 []]) (λi f=>rv (.tup [.s (.sl false false 1 i),.s (.int .i64 (0:Int))]) [.arr true 3 1 f]) (λl=>rv (.tup [.fl 0,.s (.int .i64 0)]) [.arr true 3 1 l])->
      ∃r H,X=rv r H/\r.stab [1,0] H = .tup [.s (.sl (H7 (s.drop p) d 128 0 72 true).1.isEmpty (H7 (s.drop p) d 128 0 72 true).1.isEmpty 1 (Mt (H7 (s.drop p) d 128 0 72 true).1)),.s (.int .i64 ((H7 (s.drop p) d 128 0 72 true).2:Nat))]:=by
     intro p J X t;rcases Bf4 s (by omega) p d (by omega) J with⟨j,n⟩|⟨j,u,n⟩|⟨j,n|⟨u,O,n⟩⟩
     ·refine⟨_,_,t.trans (n _ _ _ _ _),?_⟩;rw[j,Cy,Di];simp[PV.stab,Po,Sc,PV.snap,M3,Xp]
     ·refine⟨_,_,t.trans (n _ _ _ _ _),?_⟩;rw[j,Di];have:(H7 (s.drop p) d 128 0 72 true).1.isEmpty=false:=by
       cases h:(H7 (s.drop p) d 128 0 72 true).1 with
       | nil=>exact absurd h u
       | cons a r=>rfl
      rw[this];rfl
     ·refine⟨_,_,t.trans (n _ _ _ _ _),?_⟩;rw[j];rfl
     ·refine⟨_,_,t.trans (n _ _ _ _ _),?_⟩;rw[j,u];rfl
    by_cases B:m=0
    ·subst B;rw[if_pos rfl];have:=o 0 (by omega) _ rfl;rw[j8] at this;obtain⟨r,H,v,w⟩:=this;refine⟨r,H,(e _ _ _).trans ?_,w⟩;rw[if_neg (by simp)];refine(c _ _).trans ?_;rw[x5,D4,g,A6,cond_false,A6,cond_false];exact v
    ·rw[if_neg B];obtain⟨r,H,v,w⟩:=o (m+1) (by omega) _ rfl;refine⟨r,H,(e _ _ _).trans ?_,w⟩;rw[if_neg (by simp)];refine(c _ _).trans ?_;have j:A1 ((m:Int)+1)=((m+1:Nat):Int):=by rw[A7];rfl
     rw[x5,D4,g,A6,cond_false,A8,cond_true,j];exact v
theorem Z2{R:Type}{d:LL->Option R}{e:By->Int->Int->Int->Int->LL->Option R}(s:By)(u:s.length<=1000000000)(n i m v c a:Nat)(l:LL)(q:a<m)(r:m<=4)(p:i+a<s.length)(w:v<=100000)(t:0<n) :
  Ft LF n s i m v c a l d e=if 128<=(s.getD (i+a) 0).toNat/\(s.getD (i+a) 0).toNat<=191 then Ft LF (n-1) s i m ((v*64+(s.getD (i+a) 0).toNat-128:Nat):Int) c ((a+1:Nat):Int) l d e else d l:=by
 have o:=(s.getD (i+a) 0).toNat_lt;obtain⟨n,rfl⟩:∃m,n=m+1:=⟨n-1,by omega⟩
 rw[Ft];have f:A1 ((i:Int)+a)=((i+a:Nat):Int):=by rw[A7];rfl
 have g:A1 ((a:Int)+1)=((a+1:Nat):Int):=by rw[A7];rfl
 rw[A8,f,g,E9,D3];generalize (s.getD (i+a) 0).toNat=b at *;simp only[cond_true,vl];rw[C8 (n:=(b:Int)) (by omega) (by omega),Nat.add_sub_cancel];by_cases j:b<128
 ·rw[A8,G3];rfl
 ·rw[A6,cond_false];by_cases k:191<b
  ·rw[A8,G3];rfl
  ·rw[A6,cond_false,T5];have h:A1 (A1 (A1 ((v:Int)*64)+(b:Int))-128)=((v*64+b-128:Nat):Int):=by
    rw[C8 (n:=(v:Int)*64) (by omega) (by omega),C8 (n:=(v:Int)*64+b) (by omega) (by omega),A7];omega
   rw[h]
theorem Qd{R:Type}{c:LL->Option R}{b:By->Int->Int->Int->Int->LL->Option R}(s:By)(n i m v a:Nat)(l:LL)(d:0<n) :
  Ft LF n s i m v a m l c b=b s i m v a l:=by
 obtain⟨n,rfl⟩:∃m,n=m+1:=⟨n-1,by omega⟩
 rw[Ft];rw[A6];rfl
theorem Rv{R:Type}{b:LL->Option R}{c:By->Int->LL->Option R}(s:By)(k:s.length<=1000000000)(i m v a:Nat)(P:List Nat)(e:P.length<=1000000000)(f:i+m<=s.length)(l:v<=10000000)(g:m<=4) :
  cond (ltI (v:Int) (a:Int)) (b (B6 P)) (cond (not (ptI v)) (b (B6 P)) (cond (F9 ((B6 P).length+1)) (c s (A1 ((i:Int)+m)) (B6 P++[[SV.int .i64 (v:Int)]])) none)) =
   if a<=v/\V3 v=true then c s ((i+m:Nat):Int) (B6 (P++[v])) else b (B6 P):=by
 have d:A1 ((i:Int)+m)=((i+m:Nat):Int):=by rw[A7];rfl
 rw[d,D4,F4 (by omega),Ky,show ptI (v:Int)=V3 v from rfl];by_cases h:v<a
 ·rw[A8,G3];rfl
 ·rw[A6,cond_false];cases j:V3 v with
  | false=>rw[if_neg (by simp)];rfl
  | true=>rw[if_pos ⟨by omega,rfl⟩];rfl
theorem B94{R:Type}{d:LL->Option R}{f:By->Int->LL->Option R}(s:By)(e:s.length<=1000000000)(i v a:Nat)(P:List Nat)(k:P.length<=1000000000)(m:i<s.length)(n:v<=32) :
  Ea LF s i 2 v a (B6 P) d f=if 2<=s.length-i/\128<=(s.getD (i+1) 0).toNat/\(s.getD (i+1) 0).toNat<=191 then
   (if a<=v*64+(s.getD (i+1) 0).toNat-128/\V3 (v*64+(s.getD (i+1) 0).toNat-128)=true then f s ((i+2:Nat):Int) (B6 (P++[v*64+(s.getD (i+1) 0).toNat-128])) else d (B6 P)) else d (B6 P):=by
 have l:=(s.getD (i+1) 0).toNat_lt;have j:=C2;unfold Ea;have g:A1 ((s.length:Int)-i)=((s.length-i:Nat):Int):=by rw[A7];omega
 rw[g];simp only[vl];by_cases h:s.length-i<2
 ·rw[A8,G3];rfl
 ·rw[A6,cond_false];refine a8 (Z2 s e LF i 2 v a 1 (B6 P) (by omega) (by omega) (by omega) (by omega) (by omega)) ?_;generalize (s.getD (i+1) 0).toNat=b at *;by_cases c:128<=b/\b<=191
  ·rw[if_pos c,if_pos ⟨by omega,c⟩];refine a8 (Qd s (LF-1) i 2 _ a (B6 P) (by omega)) ?_;exact Rv s e i 2 _ a P k (by omega) (by omega) (by omega)
  ·rw[if_neg c,if_neg (λh=>c h.2)]
theorem B95{R:Type}{e:LL->Option R}{f:By->Int->LL->Option R}(s:By)(d:s.length<=1000000000)(i v a:Nat)(P:List Nat)(k:P.length<=1000000000)(n:i<s.length)(o:v<=32) :
  Ea LF s i 3 v a (B6 P) e f=if 3<=s.length-i/\(128<=(s.getD (i+1) 0).toNat/\(s.getD (i+1) 0).toNat<=191)/\(128<=(s.getD (i+2) 0).toNat/\(s.getD (i+2) 0).toNat<=191) then
   (if a<=(v*64+(s.getD (i+1) 0).toNat-128)*64+(s.getD (i+2) 0).toNat-128/\V3 ((v*64+(s.getD (i+1) 0).toNat-128)*64+(s.getD (i+2) 0).toNat-128)=true then f s ((i+3:Nat):Int) (B6 (P++[(v*64+(s.getD (i+1) 0).toNat-128)*64+(s.getD (i+2) 0).toNat-128])) else e (B6 P)) else e (B6 P):=by
 have m:=(s.getD (i+1) 0).toNat_lt;have l:=(s.getD (i+2) 0).toNat_lt;have j:=C2;unfold Ea;have g:A1 ((s.length:Int)-i)=((s.length-i:Nat):Int):=by rw[A7];omega
 rw[g];simp only[vl];by_cases h:s.length-i<3
 ·rw[A8,G3];rfl
 ·rw[A6,cond_false];refine a8 (Z2 s d LF i 3 v a 1 (B6 P) (by omega) (by omega) (by omega) (by omega) (by omega)) ?_;by_cases b:128<=(s.getD (i+1) 0).toNat/\(s.getD (i+1) 0).toNat<=191
  ·rw[if_pos b];refine a8 (Z2 s d (LF-1) i 3 _ a 2 (B6 P) (by omega) (by omega) (by omega) (by omega) (by omega)) ?_;by_cases c:128<=(s.getD (i+2) 0).toNat/\(s.getD (i+2) 0).toNat<=191
   ·rw[if_pos c,if_pos ⟨by omega,b,c⟩];refine a8 (Qd s (LF-2) i 3 _ a (B6 P) (by omega)) ?_;exact Rv s d i 3 _ a P k (by omega) (by omega) (by omega)
   ·rw[if_neg c,if_neg (λh=>c h.2.2)]
  ·rw[if_neg b,if_neg (λh=>b h.2.1)]
theorem B96{R:Type}{f:LL->Option R}{g:By->Int->LL->Option R}(s:By)(e:s.length<=1000000000)(i v a:Nat)(P:List Nat)(l:P.length<=1000000000)(p:i<s.length)(q:v<=20) :
  Ea LF s i 4 v a (B6 P) f g=if 4<=s.length-i/\(128<=(s.getD (i+1) 0).toNat/\(s.getD (i+1) 0).toNat<=191)/\(128<=(s.getD (i+2) 0).toNat/\(s.getD (i+2) 0).toNat<=191)/\(128<=(s.getD (i+3) 0).toNat/\(s.getD (i+3) 0).toNat<=191) then
   (if a<=((v*64+(s.getD (i+1) 0).toNat-128)*64+(s.getD (i+2) 0).toNat-128)*64+(s.getD (i+3) 0).toNat-128/\V3 (((v*64+(s.getD (i+1) 0).toNat-128)*64+(s.getD (i+2) 0).toNat-128)*64+(s.getD (i+3) 0).toNat-128)=true then g s ((i+4:Nat):Int) (B6 (P++[((v*64+(s.getD (i+1) 0).toNat-128)*64+(s.getD (i+2) 0).toNat-128)*64+(s.getD (i+3) 0).toNat-128])) else f (B6 P)) else f (B6 P):=by
 have o:=(s.getD (i+1) 0).toNat_lt;have m:=(s.getD (i+2) 0).toNat_lt;have n:=(s.getD (i+3) 0).toNat_lt;have k:=C2;unfold Ea;have j:A1 ((s.length:Int)-i)=((s.length-i:Nat):Int):=by rw[A7];omega
 rw[j];simp only[vl];by_cases h:s.length-i<4
 ·rw[A8,G3];rfl
 ·rw[A6,cond_false];refine a8 (Z2 s e LF i 4 v a 1 (B6 P) (by omega) (by omega) (by omega) (by omega) (by omega)) ?_;by_cases b:128<=(s.getD (i+1) 0).toNat/\(s.getD (i+1) 0).toNat<=191
  ·rw[if_pos b];refine a8 (Z2 s e (LF-1) i 4 _ a 2 (B6 P) (by omega) (by omega) (by omega) (by omega) (by omega)) ?_;by_cases c:128<=(s.getD (i+2) 0).toNat/\(s.getD (i+2) 0).toNat<=191
   ·rw[if_pos c];refine a8 (Z2 s e (LF-2) i 4 _ a 3 (B6 P) (by omega) (by omega) (by omega) (by omega) (by omega)) ?_;by_cases d:128<=(s.getD (i+3) 0).toNat/\(s.getD (i+3) 0).toNat<=191
    ·rw[if_pos d,if_pos ⟨by omega,b,c,d⟩];refine a8 (Qd s (LF-3) i 4 _ a (B6 P) (by omega)) ?_;exact Rv s e i 4 _ a P l (by omega) (by omega) (by omega)
    ·rw[if_neg d,if_neg (λh=>d h.2.2.2)]
   ·rw[if_neg c,if_neg (λh=>c h.2.2.1)]
  ·rw[if_neg b,if_neg (λh=>b h.2.1)]
theorem Bh0{R:Type}{a:By->Int->Int->LL->Option R}(n:Nat)(b:0<n)(s:By)(i v:Int)(l:LL):Yo LF n s i v l a=a s i v l:=by
 obtain⟨n,rfl⟩:∃m,n=m+1:=⟨n-1,by omega⟩
 rw[Yo]
theorem Bg4{R:Type}{a:LL->Option R}{b:By->Int->LL->Option R}(s:By)(e:s.length<=1000000000)(i v:Nat)(P:List Nat)(d:P.length<=1000000000)(f:i<s.length)(g:v<128) :
  Yn LF s i v (B6 P) a b=b s ((i+1:Nat):Int) (B6 (P++[v])):=by
 unfold Yn;have c:A1 ((s.length:Int)-i)=((s.length-i:Nat):Int):=by rw[A7];omega
 rw[c];simp only[vl];rw[A6,cond_false];refine a8 (show _=cond (ltI (v:Int) ((0:Nat):Int)) (a (B6 P)) (cond (not (ptI v)) (a (B6 P)) (cond (F9 ((B6 P).length+1)) (b s (A1 ((i:Int)+(1:Nat))) (B6 P++[[SV.int .i64 (v:Int)]])) none)) from Bh0 LF (by have:=C2;omega) _ _ _ _) ?_;rw[Rv s e i 1 v 0 P d (by omega) (by omega) (by omega),if_pos];refine⟨ae0 _,?_⟩;simp only[V3,p6,ae2,o0,ad0];omega
theorem Cn9{v:Nat}(h:v<2048):V3 v=true:=by simp only[V3,p6,ae2,o0,ad0];omega
theorem Bh3{R:Type}{k0 k1:LL->Option R}(s:By)(h:s.length<=1000000000)(n i:Nat)(P:List Nat)(d:P.length<=1000000000)(f:i<s.length) :
  Z3 LF (n+1) s i (B6 P) k0 k1=if (p7 (s.drop i)).1=65533/\(p7 (s.drop i)).2=1 then k0 (B6 P) else Z3 LF n s ((i+(p7 (s.drop i)).2:Nat):Int) (B6 (P++[(p7 (s.drop i)).1])) k0 k1:=by
 have g:∀k,(s.drop i).getD k 0=s.getD (i+k) 0:=λk=>by grind
 have r:p7 (s.drop i)=x9 (s.length-i) (s.getD i 0).toNat (s.getD (i+1) 0).toNat (s.getD (i+2) 0).toNat (s.getD (i+3) 0).toNat:=by
  rw[Lib.decodeL_N,g,g,g,g,j7];rfl
 have v:=(s.getD i 0).toNat_lt;have j:=(s.getD (i+1) 0).toNat_lt;have m:=(s.getD (i+2) 0).toNat_lt;have t:=(s.getD (i+3) 0).toNat_lt;rw[r];rw[Z3,A8,E9,D3,C8 (n:=((s.getD i 0).toNat:Int)) (by omega) (by omega)];simp only[cond_true];generalize (s.getD i 0).toNat=b at *;by_cases l:b<128
 ·rw[A8,cond_true];have e:x9 (s.length-i) b (s.getD (i+1) 0).toNat (s.getD (i+2) 0).toNat (s.getD (i+3) 0).toNat=(b,1):=by unfold x9;rw[if_pos l]
  rw[e];simp only;rw[G3];exact Bg4 s h i b P d f l
 ·rw[E4 (show(128:Int)<=b by omega),cond_false];by_cases u:b<194
  ·rw[B7 (show(b:Int)<194 by omega)];have e:x9 (s.length-i) b (s.getD (i+1) 0).toNat (s.getD (i+2) 0).toNat (s.getD (i+3) 0).toNat=(65533,1):=by
    unfold x9;grind
   rw[e,if_pos ⟨rfl,rfl⟩];simp only[j1,cond_false];unfold Ng;unfold Nf;rw[cond_false,B7 (show(b:Int)<224 by omega),B7 (show(b:Int)<240 by omega)];rfl
  ·rw[E4 (show(194:Int)<=b by omega)];simp only[j0,cond_true];by_cases o:b<224
   ·rw[B7 (show(b:Int)<224 by omega)];unfold Ng;have c:A1 ((b:Int)-192)=((b-192:Nat):Int):=by rw[A7];omega
    rw[cond_true,c,D39 _ _ _ _ _ ⟨by omega,o⟩ j];simp only[vl];refine a8 (B94 s h i (b-192) 128 P d f (by omega)) ?_;by_cases a:2<=s.length-i/\128<=(s.getD (i+1) 0).toNat/\(s.getD (i+1) 0).toNat<=191
    ·rw[if_pos a,if_pos a];simp only;rw[if_pos ⟨by omega,Cn9 (by omega)⟩,G3]
    ·rw[if_neg a,if_neg a,if_pos ⟨rfl,rfl⟩]
   ·rw[E4 (show(224:Int)<=b by omega)];unfold Ng;rw[cond_false,E4 (show(224:Int)<=b by omega)];simp only[j0,cond_true];by_cases p:b<240
    ·rw[B7 (show(b:Int)<240 by omega)];unfold Nf;have c:A1 ((b:Int)-224)=((b-224:Nat):Int):=by rw[A7];omega
     rw[cond_true,c,D40 _ _ _ _ _ ⟨by omega,p⟩ j m];simp only[vl];refine a8 (B95 s h i (b-224) 2048 P d f (by omega)) ?_;by_cases a:3<=s.length-i/\(128<=(s.getD (i+1) 0).toNat/\(s.getD (i+1) 0).toNat<=191)/\(128<=(s.getD (i+2) 0).toNat/\(s.getD (i+2) 0).toNat<=191)
     ·rw[if_pos a,if_pos a];split
      ·simp only;rw[G3]
      ·rw[if_pos ⟨rfl,rfl⟩]
     ·rw[if_neg a,if_neg a,if_pos ⟨rfl,rfl⟩]
    ·rw[E4 (show(240:Int)<=b by omega)];unfold Nf;rw[cond_false,E4 (show(240:Int)<=b by omega)];simp only[j0,cond_true];by_cases q:b<245
     ·rw[B7 (show(b:Int)<245 by omega),cond_true];have c:A1 ((b:Int)-240)=((b-240:Nat):Int):=by rw[A7];omega
      rw[c,D41 _ _ _ _ _ ⟨by omega,q⟩ j m t];simp only[vl];refine a8 (B96 s h i (b-240) 65536 P d f (by omega)) ?_;by_cases a:4<=s.length-i/\(128<=(s.getD (i+1) 0).toNat/\(s.getD (i+1) 0).toNat<=191)/\(128<=(s.getD (i+2) 0).toNat/\(s.getD (i+2) 0).toNat<=191)/\(128<=(s.getD (i+3) 0).toNat/\(s.getD (i+3) 0).toNat<=191)
      ·rw[if_pos a,if_pos a];split
       ·simp only;rw[G3]
       ·rw[if_pos ⟨rfl,rfl⟩]
      ·rw[if_neg a,if_neg a,if_pos ⟨rfl,rfl⟩]
     ·rw[E4 (show(245:Int)<=b by omega),cond_false];have e:x9 (s.length-i) b (s.getD (i+1) 0).toNat (s.getD (i+2) 0).toNat (s.getD (i+3) 0).toNat=(65533,1):=by
       unfold x9;grind
      rw[e,if_pos ⟨rfl,rfl⟩]
theorem B97(s:By)(k:s.length<=1000000000):∀(r i n:Nat) (P:List Nat),i+r=s.length->r<n->P.length<=i->
  (Dk (s.drop i)=none->∃l,∀(R:Type) (k0 k1:LL->Option R),Z3 LF n s i (B6 P) k0 k1=k0 l)/\
  (∀q,Dk (s.drop i)=some q->∀(R:Type) (k0 k1:LL->Option R),Z3 LF n s i (B6 P) k0 k1=k1 (B6 (P++q))):=by
 intro r
 induction r using ac1 with
 | _ r o=>
  intro i n P v w u;obtain⟨n,rfl⟩:∃m,n=m+1:=⟨n-1,by omega⟩
  by_cases j:i<s.length
  ·have d:s.drop i≠[]:=by rw[ne_eq,<-y5,j7];omega
   have c:=λ(R:Type) (k0 k1:LL->Option R)=>Bh3 (k0:=k0) (k1:=k1) s k n i P (by omega) j
   have x:=Lib.decodeL_width (s.drop i);have g:=Lib.decodeL_le (s.drop i) d;rw[j7] at g;rw[B67 _ d];by_cases a:(p7 (s.drop i)).1=65533/\(p7 (s.drop i)).2=1
   ·rw[if_pos a];refine⟨λ_=>⟨B6 P,λR k0 k1=>?_⟩,λq b=>by cases b⟩;refine(c R k0 k1).trans ?_;rw[if_pos a]
   ·rw[if_neg a,ab0];obtain⟨w1,t⟩:=o (r-(p7 (s.drop i)).2) (by omega) (i+(p7 (s.drop i)).2) n (P++[(p7 (s.drop i)).1]) (by omega) (by omega) (by rw[j4,p5];omega);constructor
    ·intro h;cases b:Dk (s.drop (i+(p7 (s.drop i)).2)) with
     | some q=>rw[b] at h;cases h
     | none=>
      obtain⟨l,e⟩:=w1 b;refine⟨l,λR k0 k1=>?_⟩;refine(c R k0 k1).trans ?_;rw[if_neg a];exact e R k0 k1
    ·intro q h R k0 k1;cases b:Dk (s.drop (i+(p7 (s.drop i)).2)) with
     | none=>rw[b] at h;cases h
     | some p=>
      rw[b] at h;simp only[ac2,o9] at h;subst h;refine(c R k0 k1).trans ?_;rw[if_neg a];refine(t p b R k0 k1).trans ?_;rw[p9];rfl
  ·have f:s.drop i=[]:=by rw[<-y5,j7];omega
   have e:∀(R:Type) (k0 k1:LL->Option R),Z3 LF (n+1) s i (B6 P) k0 k1=k1 (B6 P):=λR k0 k1=>by
    rw[Z3];rw[A6];rfl
   rw[f,show Dk []=some [] from rfl];refine⟨λh=>(by cases h),λq b R k0 k1=>?_⟩;simp only[o9] at b;subst b;rw[aa4];exact e R k0 k1
theorem Dh1(s:By)(d:A3 s.length=true):∃r H,Dg8 LF s (λa=>rv (.tup [.fl 1,.s (.bool false)]) [.arr true 3 1 a,.arr true 3 1 []]) (λa=>rv (.tup [.fl 0,.s (.bool true)]) [.arr true 3 1 a])=rv r H/\
  r.stab [1,0] H = .tup [.s (.sl (Se s).isEmpty (Se s).isEmpty 1 (Mt (Se s))),.s (.bool (Dk s).isSome)]:=by
 have f:=K7 d;obtain⟨w1,c⟩:=B97 s f s.length 0 LF [] (by omega) (by have:=C2;omega) (ae0 _);rw[j8] at w1 c;unfold Se;cases b:Dk s with
 | none=>
  obtain⟨l,e⟩:=w1 b;exact⟨_,_,e _ _ _,rfl⟩
 | some q=>
  refine⟨_,_,c q b _ _ _,?_⟩;cases q<;>rfl
theorem Bg1{R:Type}{a:Unit->Option R}{d:By->Bool->LL->Bool->Option R}(s:By)(z:Bool)(p:List Nat)(t:p.length<=1000000000):∀(r i n:Nat) (b:Bool),i+r=p.length->r<n->
  Y2 LF n s z (B6 p) b (i:Int) a d=if (p.drop i).any (λp=>o8 65 p&&o8 p 90) then a () else d s z (B6 p) (b||((p.drop i).any λp=>o8 128 p)):=by
 intro r
 induction r with
 | zero=>
  intro i n b h j;obtain⟨n,rfl⟩:∃m,n=m+1:=⟨n-1,by omega⟩
  rw[Y2];rw[D4,A6,c9 (by omega)];simp
 | succ r k=>
  intro i n b h j;obtain⟨n,rfl⟩:∃m,n=m+1:=⟨n-1,by omega⟩
  rw[Y2];have f:A1 ((i:Int)+1)=((i+1:Nat):Int):=by rw[A7];rfl
  have g:p.drop i=p.getD i 0::p.drop (i+1):=by
   rw[j5,o6 (by omega),aa1,ab9]
  rw[D4,A8,E9,b8,Rl (by omega),BM _ _ (by omega),g,ab5,ab5,f];simp only[cond_true];generalize p.getD i 0=q;have go:∀c:Bool,Y2 LF n s z (B6 p) c ((i+1:Nat):Int) a d=_:=λc=>k (i+1) n c (by omega) (by omega)
  simp only[go];by_cases l:q<65
  ·rw[show ltI (q:Int) (65:Int)=true from A8,show o8 65 q=false by rw[k9,ne_eq,o0];omega];have e:o8 128 q=false:=by rw[k9,ne_eq,o0];omega
   rw[show ltI (q:Int) (128:Int)=true from A8,e];cases b<;>simp
  ·rw[show ltI (q:Int) (65:Int)=false from A6,show o8 65 q=true by rw[o0];omega];by_cases e:90<q
   ·rw[show ltI (90:Int) (q:Int)=true from A8,show o8 q 90=false by rw[k9,ne_eq,o0];omega];by_cases o:q<128
    ·rw[show ltI (q:Int) (128:Int)=true from A8,show o8 128 q=false by rw[k9,ne_eq,o0];omega];cases b<;>simp
    ·rw[show ltI (q:Int) (128:Int)=false from A6,show o8 128 q=true by rw[o0];omega];cases b<;>simp
   ·rw[show ltI (90:Int) (q:Int)=false from A6,show o8 q 90=true by rw[o0];omega];cases b<;>simp
theorem Bg2{R:Type}{a:Bool->Option R}(s:By)(b:A3 s.length=true):Bw7 LF s a=a (Dy s):=by
 have c:=C2;unfold Bw7 Dy;rw[b,cond_true];simp only[vl];by_cases h:(N6 s).2=0
 ·have e:(((N6 s).2:Int)!=(0:Int))=false:=by rw[h];rfl
  rw[e,cond_false,Di,h];have g:=Af4 s;refine a8 (Bg1 s _ (N6 s).1 (by omega) (N6 s).1.length 0 LF false (by omega) (by omega)) ?_;rw[j8];cases d:(N6 s).1.any (λp=>o8 65 p&&o8 p 90) with
  | true=>simp
  | false=>
   rw[if_neg (by simp),Dv,Wp,Wr];simp only[cond_true,vl,ac8,j0];by_cases f:(Da (N6 s).1).2=0;all_goals grind
 grind
theorem Bd9{R:Type}{g:Unit->Option R}{j:By->Option R}(s:By)(v:s.length<=1000000000):∀(r i n:Nat),i+r=s.length->r<n->
  N9 LF n s (i:Int) g j=if (s.drop i).all U2 then j s else g ():=by
 intro r
 induction r with
 | zero=>
  intro i n l c;obtain⟨n,rfl⟩:∃m,n=m+1:=⟨n-1,by omega⟩
  rw[N9];rw[A6,c9 (by omega)];rfl
 | succ r o=>
  intro i n l c;obtain⟨n,rfl⟩:∃m,n=m+1:=⟨n-1,by omega⟩
  rw[N9];have k:A1 ((i:Int)+1)=((i+1:Nat):Int):=by rw[A7];rfl
  rw[A8,E9,D3,D5 s i (by omega),k,aa2];simp only[cond_true];rw[o (i+1) n (by omega) (by omega)];generalize s.getD i 0=b;have f:=Pu b;have t:((b.toNat:Int)==45)=(b==45):=Q8 b 45 (by omega);have u:((b.toNat:Int)==95)=(b==95):=Q8 b 95 (by omega);rw[t,u];cases a:U2 b with
  | true=>
   rw[f] at a;simp only[w8];by_cases d:b=45
   ·subst d;simp (disch:=decide) [ltI]
   ·by_cases e:b=95
    ·subst e;simp (disch:=decide) [ltI]
    ·rcases a with a|a|a|a
     ·rw[show ltI (b.toNat:Int) 97=false from A6,show ltI (122:Int) b.toNat=false from A6];rfl
     ·rw[show ltI (b.toNat:Int) 97=true from A8,show ltI (b.toNat:Int) 48=false from A6,show ltI (57:Int) b.toNat=false from A6];rfl
     ·exact absurd a d
     ·exact absurd a e
  | false=>
   have c:¬((97<=b.toNat/\b.toNat<=122)\/(48<=b.toNat/\b.toNat<=57)\/b=45\/b=95):=λh=>by rw[f.2 h] at a;cases a
   have p:(b==45)=false:=by simpa using λh=>c (.inr (.inr (.inl h)))
   have q:(b==95)=false:=by simpa using λh=>c (.inr (.inr (.inr h)))
   rw[p,q];simp only[j0,cond_true,cond_false,Bool.false_and,aa8,if_false];by_cases d:b.toNat<48
   ·rw[show ltI (b.toNat:Int) 97=true from A8,show ltI (b.toNat:Int) 48=true from A8];rfl
   ·by_cases e:b.toNat<97
    ·rw[show ltI (b.toNat:Int) 97=true from A8,show ltI (b.toNat:Int) 48=false from A6,show ltI (57:Int) b.toNat=true from A8];rfl
    ·rw[show ltI (b.toNat:Int) 97=false from A6,show ltI (122:Int) b.toNat=true from A8,show ltI (b.toNat:Int) 48=false from A6,show ltI (57:Int) b.toNat=true from A8];rfl
theorem Cy4(s:By)(h:4<=s.length):(s.take 4==([120,110,45,45]:List UInt8))=xnB.isPrefixOf s:=by
 match s,h with
 | a::b::c::d::t,_=>
  simp only[List.take_succ_cons,List.take_zero,xnB,List.isPrefixOf,ac7];rw[show((a::b::c::d::[])==([120,110,45,45]:List UInt8))=(a==120&&(b==110&&(c==45&&(d==45&&true)))) from rfl,ac7];rw[x7];simp only[p6,beq_iff_eq];exact⟨λh=>⟨h.1.symm,h.2.1.symm,h.2.2.1.symm,h.2.2.2.symm⟩,λh=>⟨h.1.symm,h.2.1.symm,h.2.2.1.symm,h.2.2.2.symm⟩⟩
theorem Be0{R:Type}{c:Bool->Option R}(s:By)(e:A3 s.length=true):Bw3 LF s c=c (L2 s):=by
 have k:=K7 e;have i:=C2;unfold Bw3 L2;by_cases a:s=[]
 ·grind
 ·have r:0<s.length:=x6.2 a;have j:s.isEmpty=false:=by simpa using a
  have b:(s==([]:List UInt8))=false:=by simpa using a
  rw[b,cond_false,j];by_cases n:63<s.length
  ·rw[A8,show o8 s.length 63=false by rw[k9,ne_eq,o0];omega];rfl
  ·rw[A6,cond_false,show o8 s.length 63=true by rw[o0];omega,E9];have m:(bAt s 0==(45:Int))=(s.getD 0 0==45):=by rw[Ai];exact Q8 _ 45 (by omega)
   have d:A1 ((s.length:Int)-1)=((s.length-1:Nat):Int):=by rw[A7];omega
   rw[m,d];simp only[cond_true,vl];rw[E9,D3,show((((s.getD (s.length-1) 0).toNat:Nat):Int)==45)=(s.getD (s.length-1) 0==45) from Q8 _ 45 (by omega)];cases f:(s.getD 0 0==45) with
   | true=>
    grind
   | false=>
    rw[show(s.getD 0 0 !=45)=true by unfold bne;rw[f];rfl];simp only[cond_true,cond_false];cases g:(s.getD (s.length-1) 0==45) with
    | true=>
     grind
    | false=>
     rw[show(s.getD (s.length-1) 0 !=45)=true by unfold bne;rw[g];rfl];simp only[cond_false];refine a8 (Bd9 s k s.length 0 LF (by omega) (by omega)) ?_;rw[j8];cases o:s.all U2 with
     | false=>simp
     | true=>
      rw[if_pos rfl];simp only[j0,w8,ac7];by_cases p:s.length<4
      ·rw[A8];have:xnB.isPrefixOf s=false:=by
        rw[k9,ne_eq,ab1];intro h;have:=h.length_le;simp only[xnB,j6,x4] at this;omega
       grind
      ·rw[A6,cond_false,I1,cond_true,K6];have l:(z7 (b9 4) s==([120,110,45,45]:List UInt8))=xnB.isPrefixOf s:=Cy4 s (by omega);rw[l];cases q:xnB.isPrefixOf s with
       | false=>rfl
       | true=>
        rw[I1,P4];simp only[j1,cond_false,cond_true];rw[E6 (by rw[j7];omega)];rfl
theorem Bd7{R:Type}{h:By->Int->Option R}(s:By)(c:A3 s.length=true):Bw2 LF s h=h (J0 s).1 ((J0 s).2:Nat):=by
 have m:=K7 c;have j:=C2;unfold Bw2 J0;rw[c,cond_true];cases f:Dk s with
 | none=>rfl
 | some p=>
  have hN:(Se s)=p:=by unfold Se;rw[f];rfl
  rw[hN,Di,D4];simp only[ad1,j1,cond_false,cond_true];by_cases d:256<p.length
  ·rw[if_pos d,A8];rfl
  ·rw[if_neg d,A6,cond_false,E6 (by rw[Gf];exact m)];by_cases e:p.length<s.length
   ·rw[if_pos e,A8];have a:=Ak6 (l:=s) (by rw[f];rfl);cases g:Dk (B9 s) with
    | none=>rw[g] at a;cases a
    | some q=>
     have b:Se (B9 s)=q:=by unfold Se;rw[g];rfl
     have k:=Ag2 q;rw[b,Di,Dv,Wp,Wr];simp only[cond_true,vl];rw[G0 (by omega),cond_true,E6 (by rw[j4];simp only[j6,x4];omega),cond_true];by_cases i:(Da q).2=0
     ·rw[i,if_pos rfl];show cond (not (L2 (xnB++(Da q).1))) _ _=_;cases n:L2 (xnB++(Da q).1) with
      | true=>rfl
      | false=>rfl
     grind
   ·rw[if_neg e,A6];grind
section
variable {Z R : Type} (L : Nat) (Q : F8) (Y : Yh Z) (s : Z) (k : Out -> St Z -> Option R)
noncomputable abbrev JG:Code:=C3 ad6
noncomputable def Sj(L:Nat):Cfg:=B5 L [174] (A2 []) [] (A2 [(7,[2]),(2,[2]),(4,[2]),(6,[2]),(5,[0,23]),(3,[0,12]),(1,[0,2]),(0,[0])]) [] (A2 [(0,[])]) (some [2]) [] [] []
noncomputable def MK{R:Type}(a:Int)(h:Bool)(f:Int->Option R)(g:Int->Bool->Option R):Option R:=cond h (vl (A1 (wu8 (a-97))) λb=>vl (A1 (b+10)) λc=>f c) (cond (not (ltI a 65)) (cond (not (ltI 70 a)) (vl (A1 (wu8 (a-65))) λd=>vl (A1 (d+10)) λe=>f e) (g a (not (ltI 70 a)))) (g a false))
abbrev Am0(b:Code):Prop:=∀(k:Out->St Z->Option R) a c,A9 (Sj L) Q Y b ⟨gp [(0,p8 a),(12,pB c)] 21,[],s⟩ k=MK a c (λn0=>k .ret ⟨gp [(2,pI n0)] 32,[],s⟩) (λa c=>k .normal ⟨gp [(0,p8 a),(23,pB c)] 10,[],s⟩)
theorem B81:Am0 (R:=R) L Q Y s (cd [1,0,0,1,1,1] JG):=by intro k a b;unfold MK;kernel_rfl
noncomputable def ML{R:Type}(b:Int)(l:Bool)(f:Int->Option R)(j:Int->Bool->Option R):Option R:=cond l (vl (A1 (wu8 (b-48))) λg=>f g) (cond (not (ltI b 97)) (MK b (not (ltI 102 b)) (λh=>f h) (λc d=>j c d)) (MK b false (λi=>f i) (λe a=>j e a)))
abbrev MM(b:Code):Prop:=∀(k:Out->St Z->Option R) a c,A9 (Sj L) Q Y b ⟨gp [(0,p8 a),(2,pB c)] 31,[],s⟩ k=ML a c (λn0=>k .ret ⟨gp [(2,pI n0)] 32,[],s⟩) (λa c=>k .normal ⟨gp [(0,p8 a),(23,pB c)] 10,[],s⟩)
theorem B82(a:Code)(b:Am0 (R:=R) L Q Y s a):MM (R:=R) L Q Y s (cd [1,0,0,1] (G2 [1,0,0,1,1,1] a JG)):=by intro k c d;unfold ML;simp only[<-b k];kernel_rfl
theorem B83:MM (R:=R) L Q Y s (cd [1,0,0,1] JG):=by intro k a b;exact a8 (by kernel_rfl) (B82 L Q Y s (cd [1,0,0,1,1,1] JG) (B81 L Q Y s) k a b)
noncomputable def rhx{R:Type}(L:Nat)(c:Int)(d:Int->Option R):Option R:=cond (not (ltI c 48)) (ML c (not (ltI 57 c)) (λa=>d a) (λe f=>d (-1))) (ML c false (λb=>d b) (λg h=>d (-1)))
theorem Du4(b:Code)(a:MM (R:=PV × List Blk × Z) L Q Y s b)(c:Int):A9 (Sj L) Q Y (cd [] (G2 [1,0,0,1] b JG)) ⟨[p8 c]++tps 34,[],s⟩ (F0 (Sj L) ad6)=rhx L c (λe=>some (pI e,[],s)):=by unfold rhx;exact let d:=(E0 0 (D9 (Sj L) Q Y (cd [1,1] JG) (F0 (Sj L) ad6)));(a8 (by kernel_rfl) (A0 ((a d c (not (ltI 57 c))).trans (by kernel_rfl)) ((a d c false).trans (by kernel_rfl))))
theorem Du5(d:Nat)(b0):evC (Sj L) (d+1) Z Y 174 [p8 b0] [] s=rhx L b0 (λa=>some (pI a,[],s)):=
 (evE (fn:=ad6) (by kernel_rfl)).trans (a8 (by kernel_rfl) (Du4 L (evC (Sj L) d) Y s (cd [1,0,0,1] JG) (B83 L (evC (Sj L) d) Y s) b0))
noncomputable abbrev Br2:Code:=C3 af2
noncomputable def Lz(L:Nat):Cfg:=B5 L [129] (A2 [(3,[0,1,0,0,0])]) [(174,Dp4)] (A2 [(11,[2,0]),(4,[0,3,0]),(10,[0,3,0]),(9,[0,3,0]),(8,[2,0]),(7,[0,3,0,36]),(6,[0,3,0]),(5,[0,3,0,9]),(3,[0,3,0,3]),(2,[0,3,0]),(1,[0,3]),(0,[0])]) [174] (A2 [(0,[4]),(1,[0,3,0])]) (some [2,0]) [] [] []
noncomputable def P0{R:Type}(L n:Nat)(b:By)(a:Int)(c:LL)(d:LL->Option R)(j:LL->Option R):Option R:=match n with|0=>none|n+1=>cond (ltI a (b.length:Int)) (cond (inR a b.length) (cond ((bAt b a)!=37) (cond (inR a b.length) (cond (F9 (c.length+1)) (P0 L n b (A1 (a+1)) (c++[[(SV.int .u8 (bAt b a))]]) d j) none) none) (vl (A1 ((b.length:Int)-a)) λl=>cond (ltI l 3) (d c) (cond (inR (A1 (a+1)) b.length) (vl (bAt b (A1 (a+1))) λf=>cond (inR f 256) (cond (ltI (Fe (u8n f)) (0:Int)) (d c) (cond (inR (A1 (a+2)) b.length) (vl (bAt b (A1 (a+2))) λg=>cond (inR g 256) (cond (ltI (Fe (u8n g)) (0:Int)) (d c) (cond (inR (A1 (a+1)) b.length) (vl (bAt b (A1 (a+1))) λh=>cond (inR h 256) (vl (A1 ((16:Int)*(Fe (u8n h)))) λm=>cond (inR (A1 (a+2)) b.length) (vl (bAt b (A1 (a+2))) λi=>cond (inR i 256) (vl (A1 (m+(Fe (u8n i)))) λo=>cond (F9 (c.length+1)) (vl (A1 ((A1 (a+2))+1)) λe=>P0 L n b e (c++[[(SV.int .u8 (wu8 o))]]) d j) none) none) none) none) none)) none) none)) none) none))) none) (j c)
theorem Al8(n s0 i1 l2):C7 1 ((Lz L).keep 3) (bd (Lz L) Q Y (cd [1,1,0,1,0,0] Br2)) n ⟨gp [(0,pS s0),(3,.fl 0),(0,pI i1)] 57,[.arr true 5 1 l2],s⟩ k =
 P0 L n s0 i1 l2 (λa=>k .ret ⟨gp [(2,pS ([]:List UInt8)),(0,pB false)] 59,[.arr true 5 1 a],s⟩) (λa=>k (.exit 0) ⟨gp [(4,.fl 0)] 58,[.arr true 5 1 a],s⟩):=by
 induction n generalizing s0 i1 l2 with
 | zero=>rfl
 | succ n b=>rw[P0];simp only[<-b];kernel_rfl
noncomputable def Bw0{R:Type}(L:Nat)(d:By)(c:By->Bool->LL->Option R):Option R:=P0 L L d 0 [] (λb=>c ([]:List UInt8) false b) (λa=>cond (ad4 a Ol) (c (ab8 Mg a) true a) none)
theorem Ct2(d:Nat)(s0):evC (Lz L) (d+1) Z Y 129 [pS s0] [] s=Bw0 L s0 (λb c a=>some (.tup [pS b,pB c],[.arr true 5 1 a],s)):=by refine(evE (fn:=af2) (by kernel_rfl)).trans ?_;generalize evC (Lz L) d=Q;unfold Bw0;exact(a8 (by kernel_rfl) ((Al8 L Q Y s (E0 0 (D9 (Lz L) Q Y (cd [1,1,1] Br2) (F0 (Lz L) af2))) L s0 0 []).trans (by kernel_rfl)))
noncomputable abbrev Cj8:Code:=C3 af9
noncomputable def Ub(L:Nat):Cfg:=B5 L [45] (A2 [(5,[2,0,0])]) [(75,Td),(76,Ki),(77,UF)] (A2 [(9,[2]),(6,[3,0]),(8,[2]),(7,[3,0,24]),(5,[3,0,16]),(4,[3,0]),(3,[3]),(2,[2]),(1,[0,14]),(0,[0])]) [75,77] (A2 [(0,[]),(1,[3,0])]) (some [2]) [] [] []
noncomputable def Nc{R:Type}(L n:Nat)(b:LL)(a:Int)(c:Unit->Option R)(d:Unit->Option R):Option R:=match n with|0=>none|n+1=>cond (ltI a (b.length:Int)) (cond (inR a b.length) (cond (okE Nq b (b9 a) 0) (cond (A3 (j2 (gX b (b9 a) 0))) (cond (not (L2 (gX b (b9 a) 0))) (c ()) (Nc L n b (A1 (a+1)) c d)) none) none) none) (d ())
theorem Bd6(n p0 i1):C7 0 ((Ub L).keep 5) (bd (Ub L) Q Y (cd [1,1,1,0,1,0,0] Cj8)) n ⟨gp [(3,.s (.sl false false 1 p0)),(0,pI i1)] 25,[],s⟩ k =
 Nc L n p0 i1 (λ_=>k .ret ⟨gp [(2,pB false)] 27,[],s⟩) (λ_=>k (.exit 0) ⟨gp [] 30,[],s⟩):=by
 induction n generalizing p0 i1 with
 | zero=>rfl
 | succ n a=>rw[Nc];simp only[<-a];kernel_rfl
noncomputable def Dg0{R:Type}(L:Nat)(a:By)(b:Bool->Option R):Option R:=cond (a==[]) (b false) (cond (ltI 253 (a.length:Int)) (b false) (cond (A3 a.length) (cond (G4 a) (b false) (cond (A3 a.length) (vl (D1 (pcs (u8n (46:Int)) a)) λc=>Nc L L c 0 (λ_=>b false) (λ_=>b true)) none)) none))
theorem Dg1(d:Nat)(name0):evC (Ub L) (d+1) Z Y 45 [pS name0] [] s=Dg0 L name0 (λb=>some (pB b,[],s)):=by refine(evE (fn:=af9) (by kernel_rfl)).trans ?_;generalize evC (Ub L) d=Q;unfold Dg0;exact(a8 (by kernel_rfl) (A0 rfl (A0 rfl (A0 (A0 rfl (A0 (A4 λa=>((Bd6 L Q Y s (E0 0 (D9 (Ub L) Q Y (cd [1,1,1,1] Cj8) (F0 (Ub L) af9))) L a 0).trans (by kernel_rfl))) rfl)) rfl))))
noncomputable def WK(L:Nat):Cfg:=B5 L [42] (A2 []) [(45,Aw5)] (A2 [(9,[2]),(4,[2]),(6,[2]),(8,[2]),(7,[1,32]),(5,[1,1,2,16]),(3,[1,1,2,0]),(2,[1,1,2]),(1,[1,1]),(0,[1])]) [45] (A2 [(0,[])]) (some [2]) [] [] []
noncomputable def Ct8{R:Type}(L:Nat)(c:Int)(b:By)(d e f g h i j l a:Int)(m:Bool->Int->By->Int->Int->Int->Int->Int->Int->Int->Int->Int->LL->Option R):Option R:=cond (c==1) (cond (A3 b.length) (cond (T7 b) (cond (d==0) (m ((e==0)&&((f==0)&&((g==0)&&((h==0)&&((i==0)&&((j==0)&&((l==0)&&((a==0)&&true)))))))) c b d e f g h i j l a (w6 8 [(SV.int .u16 (0:Int))])) (m false c b d e f g h i j l a (w6 8 [(SV.int .u16 (0:Int))]))) (m false c b d e f g h i j l a (w6 8 [(SV.int .u16 (0:Int))]))) none) (cond (c==2) (cond (b==[]) (m ((e==0)&&((f==0)&&((g==0)&&((h==0)&&((i==0)&&((j==0)&&((l==0)&&((a==0)&&true)))))))) c b d e f g h i j l a (w6 8 [(SV.int .u16 (0:Int))])) (m false c b d e f g h i j l a (w6 8 [(SV.int .u16 (0:Int))]))) (cond (c==3) (cond (b==[]) (m (d==0) c b d e f g h i j l a (w6 8 [(SV.int .u16 (0:Int))])) (m false c b d e f g h i j l a (w6 8 [(SV.int .u16 (0:Int))]))) (m false c b d e f g h i j l a (w6 8 [(SV.int .u16 (0:Int))]))))
theorem Ct9(d:Nat)(h0 h1 h2 h3 h4 h5 h6 h7 h8 h9 h10):evC (WK L) (d+1) Z Y 42 [.agg [pI h0,pS h1,p32 h2,p16 h3,p16 h4,p16 h5,p16 h6,p16 h7,p16 h8,p16 h9,p16 h10]] [] s=Ct8 L h0 h1 h2 h3 h4 h5 h6 h7 h8 h9 h10 (λn f o g h i j l e m b c a=>some (pB n,[.box [pI f,pS o,p32 g,p16 h,p16 i,p16 j,p16 l,p16 e,p16 m,p16 b,p16 c],.arr false 26 1 a],s)):=by refine(evE (fn:=Tryz.f42) (by kernel_rfl)).trans ?_;generalize evC (WK L) d=Q;unfold Ct8;kernel_rfl
noncomputable def WJ(L:Nat):Cfg:=B5 L [59] (A2 []) [(42,FK),(96,Ch5),(97,Ch7)] (A2 [(8,[2]),(5,[2]),(7,[2]),(6,[1,10]),(4,[1,5,0]),(3,[1,5]),(2,[2]),(1,[1,3]),(0,[1])]) [42,96,97] (A2 [(0,[1])]) (some [2]) [] [] []
noncomputable def Ct5{R:Type}(L:Nat)(j:Int)(l:By)(b c d e f g h i a:Int)(o:By->Int->By->Int->Int->Int->Int->Int->Int->Int->Int->Int->Option R):Option R:=cond (A3 l.length) (cond (ltN b 4294967296) (cond (ok8 c d e f g h i a) (cond (not (M0 (mkH j l b (n8 c d e f g h i a)))) (o ([]:List UInt8) j l b c d e f g h i a) (cond (j==1) (o l j l b c d e f g h i a) (cond (j==2) (cond (ltN b 4294967296) (o (Ii (b9 b)) j l b c d e f g h i a) none) (cond (ok8 c d e f g h i a) (vl (Oi (n8 c d e f g h i a)) λm=>cond (E7 1 m.length) (vl (([91]:List UInt8)++m) λn=>cond (E7 n.length 1) (vl (n++[93]) λp=>o p j l b c d e f g h i a) none) none) none)))) none) none) none
theorem Ct6(d:Nat)(h0 h1 h2 h3 h4 h5 h6 h7 h8 h9 h10):evC (WJ L) (d+1) Z Y 59 [.agg [pI h0,pS h1,p32 h2,p16 h3,p16 h4,p16 h5,p16 h6,p16 h7,p16 h8,p16 h9,p16 h10]] [] s=Ct5 L h0 h1 h2 h3 h4 h5 h6 h7 h8 h9 h10 (λm e n f g h i j c l a b=>some (pS m,[.box [pI e,pS n,p32 f,p16 g,p16 h,p16 i,p16 j,p16 c,p16 l,p16 a,p16 b]],s)):=by refine(evE (fn:=Tryz.f59) (by kernel_rfl)).trans ?_;generalize evC (WJ L) d=Q;unfold Ct5;kernel_rfl
noncomputable def WI(L:Nat):Cfg:=B5 L [20] (A2 []) [(45,Aw5)] (A2 [(3,[4]),(2,[4]),(1,[0,0,10]),(0,[0,0])]) [45] (A2 []) (some [4]) [] [] []
noncomputable def Bv9{R:Type}(L:Nat)(b a:By)(c:Bool->Option R):Option R:=cond (A3 b.length) (cond (not (T7 b)) (c false) (cond (A3 a.length) (cond (not (T7 a)) (c false) (cond (b==a) (c true) (cond (ltI (b.length:Int) (a.length:Int)) (vl (A1 ((a.length:Int)-(b.length:Int))) λd=>cond (I6 (A1 (d-1)) (a.length:Int) a.length) (vl (cut a (A1 (d-1)) (a.length:Int)) λe=>cond (E7 1 b.length) (vl (([46]:List UInt8)++b) λf=>c (e==f)) none) none) (c false)))) none)) none
theorem Ct1(d:Nat)(super0 name1):evC (WI L) (d+1) Z Y 20 [pS super0,pS name1] [] s=Bv9 L super0 name1 (λa=>some (pB a,[],s)):=by refine(evE (fn:=Tryz.f20) (by kernel_rfl)).trans ?_;generalize evC (WI L) d=Q;unfold Bv9;kernel_rfl
end
section
variable {Z R : Type} (L : Nat) (Q : F8) (Y : Yh Z) (s : Z) (k : Out -> St Z -> Option R)
noncomputable abbrev R3:Code:=C3 ae9
noncomputable def K5(L:Nat):Cfg:=B5 L [93] (A2 [(23,[2,0,6,0,0])]) [(128,Ch8),(129,Bp0),(75,Td),(130,Bp4),(76,Ki),(131,Bp2)] (A2 [(35,[2,0]),(34,[2,0]),(33,[2,7,108]),(32,[2,0]),(31,[2,7,105]),(24,[2,7,0,0]),(30,[2,7,0,0]),(29,[2,7,0,0,0]),(28,[2,7,0,0,0,94]),(27,[2,0]),(26,[2,7,0,0,0,0,89]),(25,[2,7,0,0,0,0]),(23,[2,7,0,0,79]),(22,[2,7,0,0]),(21,[2,7,0]),(20,[2,3,3]),(19,[2,0]),(18,[2,0]),(17,[2,5,74]),(16,[2,5,0]),(15,[2,3,69]),(14,[2,3]),(13,[2,3,62]),(12,[2,0]),(11,[2,3,51]),(10,[2,3,0]),(9,[2,0]),(8,[2,0]),(7,[2,1,43]),(6,[2,1,0]),(5,[2,0]),(4,[0,1,33]),(3,[0,1,22]),(2,[2,0]),(1,[0,1,14]),(0,[0,1])]) [129,75,130,131] (A2 [(0,[2,7]),(1,[2,7,0,0])]) (some [2,0]) [] [] []
noncomputable def Hm{R:Type}(b:By)(e:Bool)(f:Unit->Option R)(g:Int->Int->Int->Int->Int->Int->Int->Int->Int->Int->LL->Option R)(h:By->Bool->Option R):Option R:=cond e (vl (A1 ((b.length:Int)-1)) λd=>cond (inR d b.length) (cond ((bAt b d)!=93) (f ()) (cond (ltI (b.length:Int) (2:Int)) (f ()) (vl (A1 ((b.length:Int)-1)) λc=>cond (I6 1 c b.length) (vl (cut b 1 c) λa=>cond (A3 a.length) (cond (not (aa3 (v6B a))) (g 14 0 0 0 0 0 0 0 0 0 [[(SV.int .u16 (↑(v6c 0 a):Int))],[(SV.int .u16 (↑(v6c 1 a):Int))],[(SV.int .u16 (↑(v6c 2 a):Int))],[(SV.int .u16 (↑(v6c 3 a):Int))],[(SV.int .u16 (↑(v6c 4 a):Int))],[(SV.int .u16 (↑(v6c 5 a):Int))],[(SV.int .u16 (↑(v6c 6 a):Int))],[(SV.int .u16 (↑(v6c 7 a):Int))]]) (g 0 3 (↑(v6c 0 a):Int) (↑(v6c 1 a):Int) (↑(v6c 2 a):Int) (↑(v6c 3 a):Int) (↑(v6c 4 a):Int) (↑(v6c 5 a):Int) (↑(v6c 6 a):Int) (↑(v6c 7 a):Int) [[(SV.int .u16 (↑(v6c 0 a):Int))],[(SV.int .u16 (↑(v6c 1 a):Int))],[(SV.int .u16 (↑(v6c 2 a):Int))],[(SV.int .u16 (↑(v6c 3 a):Int))],[(SV.int .u16 (↑(v6c 4 a):Int))],[(SV.int .u16 (↑(v6c 5 a):Int))],[(SV.int .u16 (↑(v6c 6 a):Int))],[(SV.int .u16 (↑(v6c 7 a):Int))]])) none) none))) none) (h b e)
abbrev Yf(b:Code):Prop:=∀(k:Out->St Z->Option R) a c,A9 (K5 L) Q Y b ⟨gp [(0,pS a),(1,.ptr 0 0 0),(22,pB c)] 97,[.box [pI (0:Int),pS ([]:List UInt8),p32 (0:Int),p16 (0:Int),p16 (0:Int),p16 (0:Int),p16 (0:Int),p16 (0:Int),p16 (0:Int),p16 (0:Int),p16 (0:Int)]],s⟩ k=Hm a c (λ_=>k .ret ⟨gp [(2,.ptr 0 0 0),(0,pI (14:Int))] 119,[.box [pI (0:Int),pS ([]:List UInt8),p32 (0:Int),p16 (0:Int),p16 (0:Int),p16 (0:Int),p16 (0:Int),p16 (0:Int),p16 (0:Int),p16 (0:Int),p16 (0:Int)]],s⟩) (λn0 e f g h i j l d m l10=>k .ret ⟨gp [(2,.ptr 0 0 0),(0,pI n0)] 119,[.box [pI e,pS ([]:List UInt8),p32 (0:Int),p16 f,p16 g,p16 h,p16 i,p16 j,p16 l,p16 d,p16 m],.arr false 26 1 l10],s⟩) (λa c=>k .normal ⟨gp [(0,pS a),(1,.ptr 0 0 0),(22,pB c)] 97,[.box [pI (0:Int),pS ([]:List UInt8),p32 (0:Int),p16 (0:Int),p16 (0:Int),p16 (0:Int),p16 (0:Int),p16 (0:Int),p16 (0:Int),p16 (0:Int),p16 (0:Int)]],s⟩)
theorem OE:Yf (R:=R) L Q Y s (cd [1,1,0,1] R3):=by intro k a b;unfold Hm;kernel_rfl
noncomputable def J6{R:Type}(L n:Nat)(a:By)(e:LL)(c:Int)(g:Int->Option R)(h:By->Option R):Option R:=match n with|0=>none|n+1=>cond (ltI c (e.length:Int)) (cond (inR c e.length) (cond (okE Nq e (b9 c) 0) (cond (A3 (j2 (gX e (b9 c) 0))) (vl ((J0 (gX e (b9 c) 0))).1 λb=>vl (↑((J0 (gX e (b9 c) 0))).2:Int) λd=>cond (d !=0) (g d) (cond (ltI 0 c) (cond (E7 a.length 1) (vl (a++[46]) λf=>cond (E7 f.length b.length) (J6 L n (f++b) e (A1 (c+1)) g h) none) none) (cond (E7 a.length b.length) (J6 L n (a++b) e (A1 (c+1)) g h) none))) none) none) none) (h a)
theorem Sp(n a p1 i2):C7 1 ((K5 L).keep 23) (bd (K5 L) Q Y (cd [1,1,1,1,1,1,1,1,1,0,1,0,0] R3)) n ⟨gp [(2,.ptr 0 0 0),(7,pS a),(0,.s (.sl false false 1 p1)),(0,pI i2)] 110,[.box [pI (0:Int),pS ([]:List UInt8),p32 (0:Int),p16 (0:Int),p16 (0:Int),p16 (0:Int),p16 (0:Int),p16 (0:Int),p16 (0:Int),p16 (0:Int),p16 (0:Int)]],s⟩ k =
 J6 L n a p1 i2 (λn0=>k .ret ⟨gp [(2,.ptr 0 0 0),(0,pI n0)] 119,[.box [pI (0:Int),pS ([]:List UInt8),p32 (0:Int),p16 (0:Int),p16 (0:Int),p16 (0:Int),p16 (0:Int),p16 (0:Int),p16 (0:Int),p16 (0:Int),p16 (0:Int)]],s⟩) (λa=>k (.exit 0) ⟨gp [(2,.ptr 0 0 0),(7,pS a)] 112,[.box [pI (0:Int),pS ([]:List UInt8),p32 (0:Int),p16 (0:Int),p16 (0:Int),p16 (0:Int),p16 (0:Int),p16 (0:Int),p16 (0:Int),p16 (0:Int),p16 (0:Int)]],s⟩):=by
 induction n generalizing a p1 i2 with
 | zero=>rfl
 | succ n b=>rw[J6];simp only[<-b];kernel_rfl
noncomputable def Dl{R:Type}(L:Nat)(b:By)(c:Int->Int->By->Int->Option R):Option R:=cond (A3 b.length) (cond (G4 b) (cond (A3 b.length) (cond (not (aa3 (pnB b))) (c 14 0 ([]:List UInt8) 0) (c 0 2 ([]:List UInt8) (↑(N1 (pnB b)):Int))) none) (cond (A3 b.length) (vl (D1 (pcs (u8n (46:Int)) b)) λd=>J6 L L ([]:List UInt8) d 0 (λe=>c e 0 ([]:List UInt8) 0) (λa=>cond (ltI 253 (a.length:Int)) (c 3 0 ([]:List UInt8) 0) (cond (A3 a.length) (cond (G4 a) (c 14 0 ([]:List UInt8) 0) (c 0 1 a 0)) none))) none)) none
abbrev Yg(b:Code):Prop:=∀(k:Out->St Z->Option R) s0,A9 (K5 L) Q Y b ⟨gp [(2,.ptr 0 0 0),(3,pS s0)] 116,[.box [pI (0:Int),pS ([]:List UInt8),p32 (0:Int),p16 (0:Int),p16 (0:Int),p16 (0:Int),p16 (0:Int),p16 (0:Int),p16 (0:Int),p16 (0:Int),p16 (0:Int)]],s⟩ k=Dl L s0 (λn0 a d c=>k .ret ⟨gp [(2,.ptr 0 0 0),(0,pI n0)] 119,[.box [pI a,pS d,p32 c,p16 (0:Int),p16 (0:Int),p16 (0:Int),p16 (0:Int),p16 (0:Int),p16 (0:Int),p16 (0:Int),p16 (0:Int)]],s⟩)
theorem OF:Yg (R:=R) L Q Y s (cd [1,1,1,1,1,1] R3):=by intro k b;unfold Dl;exact(a8 (by kernel_rfl) (A0 (A0 (A0 (A0 rfl rfl) rfl) (A0 (A4 λa=>((Sp L Q Y s (E0 0 (D9 (K5 L) Q Y (cd [1,1,1,1,1,1,1,1,1,1] R3) k)) L ([]:List UInt8) a 0).trans (by kernel_rfl))) rfl)) rfl))
noncomputable def Na{R:Type}(L:Nat)(b:By)(c:Int->Int->By->Int->Option R):Option R:=cond (A3 b.length) (cond (G4 b) (cond (A3 b.length) (cond (not (aa3 (pnB b))) (c 14 0 ([]:List UInt8) 0) (c 0 2 ([]:List UInt8) (↑(N1 (pnB b)):Int))) none) (cond (A3 b.length) (vl (D1 (pcs (u8n (46:Int)) b)) λd=>J6 L L ([]:List UInt8) d 0 (λe=>c e 0 ([]:List UInt8) 0) (λa=>cond (ltI 253 (a.length:Int)) (c 3 0 ([]:List UInt8) 0) (cond (A3 a.length) (cond (G4 a) (c 14 0 ([]:List UInt8) 0) (c 0 1 a 0)) none))) none)) none
abbrev Yi(b:Code):Prop:=∀(k:Out->St Z->Option R) s0 b1,A9 (K5 L) Q Y b ⟨gp [(2,.ptr 0 0 0),(3,pS s0),(62,pB b1)] 53,[.box [pI (0:Int),pS ([]:List UInt8),p32 (0:Int),p16 (0:Int),p16 (0:Int),p16 (0:Int),p16 (0:Int),p16 (0:Int),p16 (0:Int),p16 (0:Int),p16 (0:Int)]],s⟩ k=Na L s0 (λn0 a d c=>k .ret ⟨gp [(2,.ptr 0 0 0),(0,pI n0)] 119,[.box [pI a,pS d,p32 c,p16 (0:Int),p16 (0:Int),p16 (0:Int),p16 (0:Int),p16 (0:Int),p16 (0:Int),p16 (0:Int),p16 (0:Int)]],s⟩)
theorem OH:Yi (R:=R) L Q Y s (cd [1,1,1,1,1,1] R3):=by intro k c b;unfold Na;exact(a8 (by kernel_rfl) (A0 (A0 (A0 (A0 rfl rfl) rfl) (A0 (A4 λa=>((Sp L Q Y s (E0 0 (D9 (K5 L) Q Y (cd [1,1,1,1,1,1,1,1,1,1] R3) k)) L ([]:List UInt8) a 0).trans (by kernel_rfl))) rfl)) rfl))
noncomputable def Dm{R:Type}(L:Nat)(a:By)(r:Int->Int->By->Int->Option R):Option R:=cond (A3 a.length) (cond (not (aa3 (S6 a))) (r 14 0 ([]:List UInt8) 0) (cond (not ((Fl a)==[])) (vl (A1 ((↑(j2 (Fl a)):Int)-1)) λb=>cond (inR b (j2 (Fl a))) (cond ((bAt (Fl a) b)==46) (vl (A1 ((↑(j2 (Fl a)):Int)-1)) λc=>cond (I6 0 c (j2 (Fl a))) (vl (cut (Fl a) (0:Int) c) λn=>Dl L n (λd e o f=>r d e o f)) none) (Na L (Fl a) (λg h p i=>r g h p i))) none) (Na L (Fl a) (λj l q m=>r j l q m)))) none
abbrev Nb(b:Code):Prop:=∀(k:Out->St Z->Option R) raw0 b1,A9 (K5 L) Q Y b ⟨gp [(0,pS raw0),(1,.ptr 0 0 0),(22,pB b1)] 97,[.box [pI (0:Int),pS ([]:List UInt8),p32 (0:Int),p16 (0:Int),p16 (0:Int),p16 (0:Int),p16 (0:Int),p16 (0:Int),p16 (0:Int),p16 (0:Int),p16 (0:Int)]],s⟩ k=Dm L raw0 (λn0 a d c=>k .ret ⟨gp [(2,.ptr 0 0 0),(0,pI n0)] 119,[.box [pI a,pS d,p32 c,p16 (0:Int),p16 (0:Int),p16 (0:Int),p16 (0:Int),p16 (0:Int),p16 (0:Int),p16 (0:Int),p16 (0:Int)]],s⟩)
theorem OI(b:Code)(c:Yg (R:=R) L Q Y s b)(a:Yi (R:=R) L Q Y s b):Nb (R:=R) L Q Y s (cd [1,1,1] (G2 [1,1,1,1,1,1] b R3)):=by intro k d h;unfold Dm;exact(a8 (by kernel_rfl) (A0 (A0 rfl (A0 (A4 λe=>(A0 (A0 (A4 λg=>(A0 (A4 λf=>((c k f).trans (by kernel_rfl))) rfl)) ((a k (Fl d) ((bAt (Fl d) e)==46)).trans (by kernel_rfl))) rfl)) ((a k (Fl d) false).trans (by kernel_rfl)))) rfl))
theorem OJ:Nb (R:=R) L Q Y s (cd [1,1,1] R3):=by intro k a b;exact a8 (by kernel_rfl) (OI L Q Y s (cd [1,1,1,1,1,1] R3) (OF L Q Y s) (OH L Q Y s) k a b)
noncomputable def Ye{R:Type}(L:Nat)(a:By)(j:Int->By->Int->Int->Int->By->Int->Option R)(O:Int->Int->Int->Int->Int->Int->Int->Int->Int->Int->LL->Option R):Option R:=cond (ltI 1024 (a.length:Int)) (j 0 ([]:List UInt8) 0 3 0 ([]:List UInt8) 0) (cond (not (a==[])) (cond (inR 0 a.length) (Hm a ((bAt a (0:Int))==91) (λ_=>j 0 ([]:List UInt8) 0 14 0 ([]:List UInt8) 0) (λn o p q r t u v w x l=>O o p q r t u v w x n l) (λb M=>Dm L b (λy d h e=>j d h e y d h e))) none) (Hm a false (λ_=>j 0 ([]:List UInt8) 0 14 0 ([]:List UInt8) 0) (λz A B C D F G H I J m=>O A B C D F G H I J z m) (λc N=>Dm L c (λK f i g=>j f i g K f i g))))
theorem Bd3(e:Code)(a:Yf (R:=PV × List Blk × Z) L Q Y s e)(d:Code)(b:Nb (R:=PV × List Blk × Z) L Q Y s d)(c:By):A9 (K5 L) Q Y (cd [] (G2 [1,1,1] d (G2 [1,1,0,1] e R3))) ⟨[pS c]++tps 122,[],s⟩ (F0 (K5 L) ae9)=Ye L c (λj l m n v y w=>some (.tup [.agg [pI j,pS l,p32 m,p16 (0:Int),p16 (0:Int),p16 (0:Int),p16 (0:Int),p16 (0:Int),p16 (0:Int),p16 (0:Int),p16 (0:Int)],pI n],[.box [pI v,pS y,p32 w,p16 (0:Int),p16 (0:Int),p16 (0:Int),p16 (0:Int),p16 (0:Int),p16 (0:Int),p16 (0:Int),p16 (0:Int)]],s)) (λj l m n q r t u r8 x l10=>some (.tup [.agg [pI j,pS ([]:List UInt8),p32 (0:Int),p16 l,p16 m,p16 n,p16 q,p16 r,p16 t,p16 u,p16 r8],pI x],[.box [pI j,pS ([]:List UInt8),p32 (0:Int),p16 l,p16 m,p16 n,p16 q,p16 r,p16 t,p16 u,p16 r8],.arr false 26 1 l10],s)):=by unfold Ye;exact let o:=(F0 (K5 L) ae9);let p:=(D9 (K5 L) Q Y d o);(a8 (by kernel_rfl) (A0 rfl (A0 (A0 ((a p c ((bAt c (0:Int))==91)).trans (congr (congr (congr rfl (by kernel_rfl)) (by kernel_rfl)) (fx2 λf h=>(a8 (by kernel_rfl) ((b o f h).trans (by kernel_rfl)))))) rfl) ((a p c false).trans (congr (congr (congr rfl (by kernel_rfl)) (by kernel_rfl)) (fx2 λg i=>(a8 (by kernel_rfl) ((b o g i).trans (by kernel_rfl)))))))))
theorem Bd4(d:Nat)(raw0):evC (K5 L) (d+1) Z Y 93 [pS raw0] [] s=Ye L raw0 (λa b c e j n l=>some (.tup [.agg [pI a,pS b,p32 c,p16 (0:Int),p16 (0:Int),p16 (0:Int),p16 (0:Int),p16 (0:Int),p16 (0:Int),p16 (0:Int),p16 (0:Int)],pI e],[.box [pI j,pS n,p32 l,p16 (0:Int),p16 (0:Int),p16 (0:Int),p16 (0:Int),p16 (0:Int),p16 (0:Int),p16 (0:Int),p16 (0:Int)]],s)) (λa b c e f g h i r8 m l10=>some (.tup [.agg [pI a,pS ([]:List UInt8),p32 (0:Int),p16 b,p16 c,p16 e,p16 f,p16 g,p16 h,p16 i,p16 r8],pI m],[.box [pI a,pS ([]:List UInt8),p32 (0:Int),p16 b,p16 c,p16 e,p16 f,p16 g,p16 h,p16 i,p16 r8],.arr false 26 1 l10],s)):=
 (evE (fn:=ae9) (by kernel_rfl)).trans (a8 (by kernel_rfl) (Bd3 L (evC (K5 L) d) Y s (cd [1,1,0,1] R3) (OE L (evC (K5 L) d) Y s) (cd [1,1,1] R3) (OJ L (evC (K5 L) d) Y s) raw0))
end
theorem Cu1{R:Type}{g:Int->Option R}(b:Int)(h:inR b 256=true):rhx LF b g=g (Fe (u8n b)):=by
 simp only[inR,p6,decide_eq_true_eq] at h;have j:b=((u8n b).toNat:Int):=by
  unfold u8n;simp;omega
 generalize u8n b=c at *;subst j;have i:=c.toNat_lt;unfold rhx;simp only[ML,MK,vl,Fe];rcases Cz c with⟨d,f,e⟩|⟨d,f,e⟩|⟨d,f,e⟩|⟨d,f,o,e⟩
 ·have a:A1 (wu8 ((c.toNat:Int)-48))=((dig c:Nat):Int):=by
   rw[M4,A7];omega
  rw[T5];simp (disch:=omega) only[B7,E4,j1,j0,cond_false,cond_true,a]
 ·have a:A1 (A1 (wu8 ((c.toNat:Int)-97))+10)=((dig c:Nat):Int):=by
   rw[M4,C8 (n:=(c.toNat:Int)-97) (by omega) (by omega),A7];omega
  rw[T5];simp (disch:=omega) only[B7,E4,j1,j0,cond_false,cond_true,a]
 ·have a:A1 (A1 (wu8 ((c.toNat:Int)-65))+10)=((dig c:Nat):Int):=by
   rw[M4,C8 (n:=(c.toNat:Int)-65) (by omega) (by omega),A7];omega
  rw[T5];simp (disch:=omega) only[B7,E4,j1,j0,cond_false,cond_true,a]
 ·rw[e,if_neg (by decide)];by_cases k:c.toNat<48
  ·simp (disch:=omega) only[B7,E4,j1,j0,cond_false,cond_true]
  ·by_cases l:c.toNat<65
   ·simp (disch:=omega) only[B7,E4,j1,j0,cond_false,cond_true]
   ·by_cases m:c.toNat<97
    ·simp (disch:=omega) only[B7,E4,j1,j0,cond_false,cond_true]
    ·simp (disch:=omega) only[B7,E4,j1,j0,cond_false,cond_true]
theorem Bd0(s:By)(Q:s.length<=1000000000):∀(m i n:Nat) (a:By),i<=s.length->s.length-i<=m->m<n->a.length<=i->
  (∀t,S6 (s.drop i)=some t->∀(R:Type) (c:LL->Option R) (d:LL->Option R),P0 LF n s (i:Int) (a.map E2) c d=d ((a++t).map E2))/\
  (S6 (s.drop i)=none->∃l,∀(R:Type) (c:LL->Option R) (d:LL->Option R),P0 LF n s (i:Int) (a.map E2) c d=c l):=by
 intro m
 induction m with
 | zero=>
  intro i n a K L M J;obtain⟨n,rfl⟩:∃m,n=m+1:=⟨n-1,by omega⟩
  rw[c9 (by omega)];refine⟨λt f R c d=>?_,λh=>(by cases h)⟩;simp only[S6,o9] at f;subst f;rw[P0];rw[A6,aa4];rfl
 | succ m G=>
  intro i n a K L M J;obtain⟨n,rfl⟩:∃m,n=m+1:=⟨n-1,by omega⟩
  by_cases z:i<s.length
  ·have D:A1 ((i:Int)+1)=((i+1:Nat):Int):=by rw[A7];rfl
   have H:A1 ((i:Int)+2)=((i+2:Nat):Int):=by rw[A7];rfl
   have I:A1 (((i+2:Nat):Int)+1)=((i+3:Nat):Int):=by rw[A7];omega
   have F:A1 ((s.length:Int)-i)=((s.length-i:Nat):Int):=by rw[A7];omega
   have p:(a.map E2).length=a.length:=o7 _;have v:∀b:UInt8,a.map E2++[[SV.int .u8 (b.toNat:Int)]]=(a++[b]).map E2:=λb=>by rw[aa5];rfl
   have C:(((s.getD i 0).toNat:Int)!=37) = !(s.getD i 0==37):=congrArg _ (Q8 _ 37 (by omega));rw[D5 s i z];by_cases g:s.getD i 0=37
   ·by_cases P:i+2<s.length
    ·rw[D5 s (i+1) (by omega),D5 s (i+1+1) (by omega),g,MB];obtain⟨A,B⟩:=G (i+3) n (a++[y7 (16*dig (s.getD (i+1) 0)+dig (s.getD (i+2) 0))]) (by omega) (by omega) (by omega) (by simp;omega);have top:∀(R:Type) (c:LL->Option R) (d:LL->Option R),P0 LF (n+1) s (i:Int) (a.map E2) c d=cond (decide (dig (s.getD (i+1) 0)<16)&&decide (dig (s.getD (i+2) 0)<16)) (P0 LF n s ((i+3:Nat):Int) ((a++[y7 (16*dig (s.getD (i+1) 0)+dig (s.getD (i+2) 0))]).map E2) c d) (c (a.map E2)):=by
      intro R c d;rw[P0];rw[A8,E9,D3,C,g,p,H,F,D,E9,E9,D3,D3];simp only[vl];rw[E4 (show(3:Int)<=((s.length-i:Nat):Int) by omega)];simp only[cond_true,j1,cond_false,beq_self_eq_true,Aa1,Jm,Af6,F4 (show a.length+1<=68719476736 by omega),I];generalize s.getD (i+1) 0=x at *;generalize s.getD (i+2) 0=y at *;by_cases N:dig x<16
      ·by_cases O:dig y<16
       ·have w1:Fe x=(dig x:Int):=by unfold Fe;rw[if_pos N]
        have T:Fe y=(dig y:Int):=by unfold Fe;rw[if_pos O]
        have U:A1 ((16:Int)*(dig x:Int))=((16*dig x:Nat):Int):=by rw[A7];omega
        have V:A1 (((16*dig x:Nat):Int)+(dig y:Int))=((16*dig x+dig y:Nat):Int):=by rw[A7];omega
        have W:wu8 ((16*dig x+dig y:Nat):Int)=((y7 (16*dig x+dig y)).toNat:Int):=by
         rw[M4];simp;omega
        grind
       grind
      grind
     by_cases o:dig (s.getD (i+1) 0)<16/\dig (s.getD (i+2) 0)<16
     ·rw[if_pos o];have w:(decide (dig (s.getD (i+1) 0)<16)&&decide (dig (s.getD (i+2) 0)<16))=true:=by rw[decide_eq_true o.1,decide_eq_true o.2];rfl
      refine⟨λt f R c d=>?_,λh=>?_⟩
      ·cases j:S6 (s.drop (i+3)) with
       | none=>rw[j] at f;cases f
       | some q=>
        rw[j] at f;simp only[ac2,o9] at f;subst f;rw[top,w,cond_true,A q j,p9];rfl
      ·cases j:S6 (s.drop (i+3)) with
       | some q=>rw[j] at h;cases h
       | none=>
        obtain⟨l,e⟩:=B j;exact⟨l,λR c d=>by rw[top,w,cond_true,e]⟩
     ·rw[if_neg o];have w:(decide (dig (s.getD (i+1) 0)<16)&&decide (dig (s.getD (i+2) 0)<16))=false:=by grind
      exact⟨λt h=>(by cases h),λ_=>⟨_,λR c d=>by rw[top,w,cond_false]⟩⟩
    ·have k:S6 (s.getD i 0::s.drop (i+1))=none:=by
      rw[g];cases o:s.drop (i+1) with
      | nil=>rfl
      | cons x r=>
       cases r with
       | nil=>rfl
       | cons y S=>
        exfalso;have:=congrArg j2 o;rw[j7,j6,j6] at this;omega
     rw[k];refine⟨λt h=>(by cases h),λ_=>⟨a.map E2,λR c d=>?_⟩⟩;rw[P0];rw[A8,E9,D3,C,g,F];simp only[vl];rw[B7 (show((s.length-i:Nat):Int)<3 by omega)];rfl
   ·rw[YL _ g];obtain⟨A,B⟩:=G (i+1) n (a++[s.getD i 0]) (by omega) (by omega) (by omega) (by simp;omega);have u:(s.getD i 0==37)=false:=by simpa using g
    have top:∀(R:Type) (c:LL->Option R) (d:LL->Option R),P0 LF (n+1) s (i:Int) (a.map E2) c d=P0 LF n s ((i+1:Nat):Int) ((a++[s.getD i 0]).map E2) c d:=by
     intro R c d;rw[P0];rw[A8,E9,D3,C,u,p,F4 (by omega),D,v];rfl
    refine⟨λt f R c d=>?_,λh=>?_⟩
    ·cases j:S6 (s.drop (i+1)) with
     | none=>rw[j] at f;cases f
     | some q=>
      rw[j] at f;simp only[ac2,o9] at f;subst f;rw[top,A q j,p9];rfl
    ·cases j:S6 (s.drop (i+1)) with
     | some q=>rw[j] at h;cases h
     | none=>
      obtain⟨l,e⟩:=B j;exact⟨l,λR c d=>by rw[top,e]⟩
  ·rw[c9 (by omega)];refine⟨λt f R c d=>?_,λh=>(by cases h)⟩;simp only[S6,o9] at f;subst f;rw[P0];rw[A6,aa4];rfl
theorem Ct3(s:By)(d:A3 s.length=true):∃r H,Bw0 LF s (λi j h=>rv (.tup [.s (.str i),.s (.bool j)]) [.arr true 5 1 h])=rv r H/\
  r.stab [0,0] H = .tup [.s (.str (Fl s)),.s (.bool (S6 s).isSome)]:=by
 have g:=K7 d;have f:=C2;obtain⟨b,c⟩:=Bd0 s g s.length 0 LF [] (by omega) (by omega) (by omega) (by simp);rw[j8] at b c;unfold Fl;cases a:S6 s with
 | none=>
  obtain⟨l,e⟩:=c a;exact⟨.tup [.s (.str []),.s (.bool false)],[.arr true 5 1 l],e _ _ _,rfl⟩
 | some t=>
  refine⟨.tup [.s (.str t),.s (.bool true)],[.arr true 5 1 (t.map E2)],?_,rfl⟩;unfold Bw0;refine a8 (b t a _ _ _) ?_;rw[x5,X3,Y0];rfl
theorem B79{R:Type}{a b:Unit->Option R}(l:List By)(k:l.length<=1000000001)(h:∀x∈l,x.length<=1000000000):∀(r i n:Nat),i+r=l.length->r<n->
  Nc LF n (D1 l) (i:Int) a b=if (l.drop i).all L2 then b () else a ():=by
 intro r
 induction r with
 | zero=>
  intro i n e f;obtain⟨n,rfl⟩:∃m,n=m+1:=⟨n-1,by omega⟩
  rw[Nc];rw[E1,A6,c9 (by omega)];rfl
 | succ r j=>
  intro i n e f;obtain⟨n,rfl⟩:∃m,n=m+1:=⟨n-1,by omega⟩
  rw[Nc];have c:A1 ((i:Int)+1)=((i+1:Nat):Int):=by rw[A7];rfl
  have d:l.drop i=l.getD i []::l.drop (i+1):=by
   rw[j5,o6 (by omega),aa1,ab9]
  have g:(l.getD i []).length<=1000000000:=h _ (by
   rw[j5,o6 (by omega),aa1];exact y9 _)
  rw[E1,A8,E9,b8,O9 (by omega),S8,E6 g,d,aa2,c];simp only[cond_true];rw[j (i+1) n (by omega) (by omega)];cases L2 (l.getD i []) with
  | true=>rw[w8];rfl
  | false=>rfl
theorem B80{R:Type}{c:Bool->Option R}(s:By)(b:A3 s.length=true):Dg0 LF s c=c (T7 s):=by
 have k:=K7 b;have d:=C2;unfold Dg0;by_cases a:s=[]
 ·subst a;rfl
 ·have f:(s==([]:By))=false:=by simpa using a
  rw[f,cond_false];unfold T7;by_cases i:253<s.length
  ·rw[A8,show o8 s.length 253=false by rw[k9,ne_eq,o0];omega];rfl
  ·rw[A6,cond_false,b,cond_true,show o8 s.length 253=true by rw[o0];omega];cases j:G4 s with
   | true=>rfl
   | false=>
    rw[cond_false,cond_true];have g:=Iz 46 s;have e:=Gy 46 s;refine a8 (B79 (pcs 46 s) (by omega) (λx h=>by have:=(Dx h).2;omega) (pcs 46 s).length 0 LF (by omega) (by omega)) ?_;grind
theorem Cu0(j:Int)(i:By)(v4 a b c d e f g h:Int)(n:A3 i.length=true)(o:ltN v4 4294967296=true)(p:ok8 a b c d e f g h=true) :
  ∃r H,Ct8 LF j i v4 a b c d e f g h (λz q A t u v w x n8 y l m k=>rv (.s (.bool z)) [.box (Sb q A t u v w x n8 y l m),.arr false 26 1 k])=rv r H/\
   r.stab [] H = .s (.bool (M0 (mkH j i v4 (n8 a b c d e f g h)))):=Bt0 j i v4 a b c d e f g h n o p
theorem Ct7(j:Int)(i:By)(v4 a b c d e f g h:Int)(m:A3 i.length=true)(n:ltN v4 4294967296=true)(o:ok8 a b c d e f g h=true) :
  ∃r H,Ct5 LF j i v4 a b c d e f g h (λy p z q t u v w n8 x k l=>rv (.s (.str y)) [.box (Sb p z q t u v w n8 x k l)])=rv r H/\
   r.stab [] H = .s (.str (Bt (mkH j i v4 (n8 a b c d e f g h)))):=Bs9 j i v4 a b c d e f g h m n o
theorem Di9(p s:By):p.isSuffixOf s=(o8 p.length s.length&&s.drop (s.length-p.length)==p):=by
 rw[x7,List.isSuffixOf_iff_suffix,p6,o0,beq_iff_eq];constructor
 ·rintro⟨t,rfl⟩;simp_all
 ·rintro⟨b,a⟩;rw[<-a];exact List.drop_suffix _ _
theorem Bc9{R:Type}{c:Bool->Option R}(p s:By)(a:A3 p.length=true)(b:A3 s.length=true):Bv9 LF p s c=c (Fc p s):=by
 have e:=K7 a;have f:=K7 b;unfold Bv9 Fc;rw[a,b,G0 (by omega)];cases T7 p with
 | false=>rfl
 | true=>
  cases T7 s with
  | false=>rfl
  | true=>
   simp only[j1,cond_false,cond_true,w8];cases (p==s) with
   | true=>rfl
   | false=>
    rw[Di9,j6];by_cases h:p.length<s.length
    ·have d:A1 (A1 ((s.length:Int)-p.length)-1)=((s.length-(p.length+1):Nat):Int):=by
      rw[C8 (n:=(s.length:Int)-p.length) (by omega) (by omega),A7];omega
     rw[A8];simp only[vl,cond_true,cond_false];rw[d,I1,P4,b8,show o8 (p.length+1) s.length=true by rw[o0];omega];rfl
    ·rw[A6,show o8 (p.length+1) s.length=false by rw[k9,ne_eq,o0];omega];rfl
def jn:Nat->By->List By->By
 | _,name,[]=>name
 | 0,name,x::r=>jn 1 (name++x) r
 | i+1,name,x::r=>jn (i+2) (name++[46]++x) r
theorem Bt4:∀(l:List By) (i:Nat) (name:By),jn (i+1) name l=name++ad3 [46] l
 | [],i,name=>by simp[jn,ad3]
 | x::r,i,name=>by
  rw[jn,Bt4 r];simp[ad3]
theorem Db0(l:List By):jn 0 [] l=ac3 l [46]:=by
 cases l with
 | nil=>rfl
 | cons x r=>rw[jn,Bt4,Lib.join_cons,x5]
theorem Cy7{x:By}(h:(J0 x).2=0):(J0 x).1.length<=63:=by
 have a:F7 [x]=([(J0 x).1],0):=by simp[F7,h]
 have:=(Kk [x] (by rw[a])).1 (J0 x).1 (by rw[a];simp);exact(Sa this).le
theorem YZ(e:List By)(C:e.length<=1000000)(D:∀x∈e,x.length<=1000000000):∀(c:List By) (i n:Nat) (name:By),e.drop i=c->i+c.length=e.length->c.length<n->name.length<=64*i->
  ((F7 c).2=0->∀(R:Type) (a:Int->Option R) (b:By->Option R),J6 LF n name (D1 e) (i:Int) a b=b (jn i name (F7 c).1))/\
  ((F7 c).2≠0->∀(R:Type) (a:Int->Option R) (b:By->Option R),J6 LF n name (D1 e) (i:Int) a b=a ((F7 c).2:Nat)):=by
 intro c
 induction c with
 | nil=>
  intro i n name p q y t;obtain⟨n,rfl⟩:∃m,n=m+1:=⟨n-1,by omega⟩
  simp only[x4] at q;refine⟨λ_ R a b=>?_,λh=>absurd rfl h⟩;rw[J6];rw[E1,A6];simp only[F7,jn];rfl
 | cons x r z=>
  intro i n name p q y t;simp only[j6] at q y;obtain⟨n,rfl⟩:∃m,n=m+1:=⟨n-1,by omega⟩
  have A:A1 ((i:Int)+1)=((i+1:Nat):Int):=by rw[A7];rfl
  have k:e.getD i []=x:=by
   have:=congrArg (λl=>l.getD 0 []) p;simpa[j5,List.getElem?_drop] using this
  have g:e.drop (i+1)=r:=by
   rw[<-ab0,p];rfl
  have u:x.length<=1000000000:=D x (by
   rw[<-k,j5,o6 (by omega),aa1];exact y9 _)
  have top:∀(R:Type) (a:Int->Option R) (b:By->Option R),J6 LF (n+1) name (D1 e) (i:Int) a b=cond (((J0 x).2:Int)!=0) (a ((J0 x).2:Nat)) (cond (ltI 0 (i:Int)) (cond (E7 name.length 1) (cond (E7 (name++[46]).length (J0 x).1.length) (J6 LF n (name++[46]++(J0 x).1) (D1 e) ((i+1:Nat):Int) a b) none) none) (cond (E7 name.length (J0 x).1.length) (J6 LF n (name++(J0 x).1) (D1 e) ((i+1:Nat):Int) a b) none)):=by
   intro R a b;rw[J6];rw[E1,A8,E9,b8,O9 (by omega),S8,k,E6 u,A];rfl
  unfold F7;by_cases h:(J0 x).2=0
  ·rw[if_pos h];have B:=Cy7 h;have o:(((J0 x).2:Int)!=0)=false:=by rw[h];rfl
   cases i with
   | zero=>
    obtain⟨v,w⟩:=z 1 n (name++(J0 x).1) g (by omega) (by omega) (by rw[j4];omega);have d:∀(R:Type) (a:Int->Option R) (b:By->Option R),J6 LF (n+1) name (D1 e) ((0:Nat):Int) a b=J6 LF n (name++(J0 x).1) (D1 e) ((1:Nat):Int) a b:=by
     intro R a b;rw[top,o,A6,G0 (m:=name.length) (n:=(J0 x).1.length) (by omega)];rfl
    exact⟨λf R a b=>(d R a b).trans (v f R a b),λf R a b=>(d R a b).trans (w f R a b)⟩
   | succ j=>
    obtain⟨v,w⟩:=z (j+2) n (name++[46]++(J0 x).1) g (by omega) (by omega) (by rw[j4,j4,p5];omega);have d:∀(R:Type) (a:Int->Option R) (b:By->Option R),J6 LF (n+1) name (D1 e) ((j+1:Nat):Int) a b=J6 LF n (name++[46]++(J0 x).1) (D1 e) ((j+2:Nat):Int) a b:=by
     intro R a b;rw[top,o,A8,G0 (by omega),G0 (by rw[j4,p5];omega)];rfl
    exact⟨λf R a b=>(d R a b).trans (v f R a b),λf R a b=>(d R a b).trans (w f R a b)⟩
  ·rw[if_neg h];have o:(((J0 x).2:Int)!=0)=true:=by simpa using h
   exact⟨λf=>absurd f h,λ_ R a b=>by rw[top,o,cond_true]⟩
theorem OG{R:Type}{b:Int->Int->By->Int->Option R}(u:By)(q:u.length<=1024):Dl LF u b =
  if G4 u then (match pnB u with
   | some v=>b 0 2 [] (v:Nat)
   | none=>b 14 0 [] 0)
  else if (F7 (pcs 46 u)).2=0 then (
   if 253<(ac3 (F7 (pcs 46 u)).1 [46]).length then b 3 0 [] 0 else if G4 (ac3 (F7 (pcs 46 u)).1 [46]) then b 14 0 [] 0 else b 0 1 (ac3 (F7 (pcs 46 u)).1 [46]) 0)
  else b ((F7 (pcs 46 u)).2:Nat) 0 [] 0:=by
 have h:=C2;unfold Dl;rw[J9,cond_true];cases o:G4 u with
 | true=>
  rw[if_pos rfl,cond_true,cond_true];cases p:pnB u with
  | none=>rfl
  | some v=>rfl
 | false=>
  rw[if_neg (by simp),cond_false,cond_true];have l:=Iz 46 u;have i:=Gy 46 u;obtain⟨f,m⟩:=YZ (pcs 46 u) (by omega) (λx d=>by have:=(Dx d).2;omega) (pcs 46 u) 0 LF [] (j8) (by omega) (by omega) (by simp);rw[Db0] at f;by_cases c:(F7 (pcs 46 u)).2=0
  ·rw[if_pos c];refine a8 (f c _ _ _) ?_;obtain⟨g,n⟩:=Kk _ c;have j:=XO [46] 63 (F7 (pcs 46 u)).1 (λx d=>(Sa (g x d)).le);have e:(63+([46]:By).length)*(F7 (pcs 46 u)).1.length<=64*1025:=ae6 (by simp) (by omega);generalize ac3 (F7 (pcs 46 u)).1 [46]=name at *;by_cases a:253<name.length
   ·rw[if_pos a,A8,cond_true]
   ·rw[if_neg a,A6,cond_false,J9,cond_true];cases k:G4 name with
    | true=>rfl
    | false=>rfl
  ·rw[if_neg c];exact m c _ _ _
abbrev Du6:Int->By->Int->Int->Int->By->Int->Option (PV × List Blk × Unit):=λc d e f a g b=>rv (.tup [.agg (Sb c d e 0 0 0 0 0 0 0 0),.s (.int .i64 f)]) [.box (Sb a g b 0 0 0 0 0 0 0 0)]
abbrev D44:Int->Int->Int->Int->Int->Int->Int->Int->Int->Int->LL->Option (PV × List Blk × Unit):=λa b c d e f g h r8 i l10=>rv (.tup [.agg (Sb a [] 0 b c d e f g h r8),.s (.int .i64 i)]) [.box (Sb a [] 0 b c d e f g h r8),.arr false 26 1 l10]
theorem ZX{t:By}(h:t≠[])(a:t.getD (t.length-1) 0=46):I7 t=t.take (t.length-1):=by unfold I7;rw[if_pos ((FU t 46 h).2 a),List.dropLast_eq_take]
theorem As9{t:By}(h:t≠[])(a:¬t.getD (t.length-1) 0=46):I7 t=t:=by unfold I7;grind
theorem So(s:By)(x:s.length<=1024)(j:s.head?≠some 91):∃r H,Dm LF s (λh b d c=>Du6 b d c h b d c)=rv r H/\r.stab [0,0] H = .tup [DU (C9 s).1,.s (.int .i64 ((C9 s).2:Nat))]:=by
 have l:=C2;unfold Dm;rw[J9,cond_true];cases i:S6 s with
 | none=>
  have e:C9 s=(L0,14):=by unfold C9;rw[G3,if_neg j,i]
  rw[e];exact⟨_,_,rfl,rfl⟩
 | some t=>
  have p:t.length<=s.length:=FZ s t i;have q:Fl s=t:=by unfold Fl;rw[i];rfl
  have o:(I7 t).length<=t.length:=by unfold I7;split<;>simp
  have m:C9 s=if G4 (I7 t) then (match pnB (I7 t) with
      | some v=>(⟨2,[],v,z8⟩,0)
      | none=>(L0,14))
     else if (F7 (pcs 46 (I7 t))).2=0 then (
      let name:=ac3 (F7 (pcs 46 (I7 t))).1 [46]
      if 253<name.length then (L0,3) else if G4 name then (L0,14) else (⟨1,name,0,z8⟩,0))
     else (L0,(F7 (pcs 46 (I7 t))).2):=by
   unfold C9;rw[G3,if_neg j,i];rfl
  have f:∃r H,Dl LF (I7 t) (λh b d c=>Du6 b d c h b d c)=rv r H/\r.stab [0,0] H = .tup [DU (C9 s).1,.s (.int .i64 ((C9 s).2:Nat))]:=by
   rw[OG _ (by omega),m];split
   ·split<;>exact⟨_,_,rfl,rfl⟩
   ·split
    ·simp only;split
     ·exact⟨_,_,rfl,rfl⟩
     ·split<;>exact⟨_,_,rfl,rfl⟩
    ·exact⟨_,_,rfl,rfl⟩
  rw[q];simp only[ad1,j1,cond_false];by_cases a:t=[]
  ·subst a;exact f
  ·have w:0<t.length:=x6.2 a;have n:(t==([]:By))=false:=by simpa using a
   have k:A1 ((t.length:Int)-1)=((t.length-1:Nat):Int):=by rw[A7];omega
   have u:(((t.getD (t.length-1) 0).toNat:Int)==46)=(t.getD (t.length-1) 0==46):=Q8 _ 46 (by omega);rw[n,k];simp only[j0,cond_true,vl];rw[E9,D3,u,cond_true];by_cases g:t.getD (t.length-1) 0=46
   ·rw[g,beq_self_eq_true,cond_true,I1,cond_true,K6,b8,<-ZX a g];exact f
   ·rw[show(t.getD (t.length-1) 0==46)=false by simpa using g,cond_false];rw[As9 a g] at f;exact f
theorem Bd5(s:By)(k:A3 s.length=true):∃r H,Ye LF s Du6 D44=rv r H/\r.stab [0,0] H = .tup [DU (C9 s).1,.s (.int .i64 ((C9 s).2:Nat))]:=by
 have u:=K7 k;have l:=C2;unfold Ye;by_cases i:1024<s.length
 ·have e:C9 s=(L0,3):=by unfold C9;rw[if_pos i]
  rw[e,A8,cond_true];exact⟨_,_,rfl,rfl⟩
 ·rw[A6,cond_false];by_cases c:s=[]
  ·subst c;exact So [] (by simp) (by simp)
  ·have q:0<s.length:=x6.2 c;have m:(s==([]:By))=false:=by simpa using c
   have o:(bAt s 0==(91:Int))=(s.getD 0 0==91):=by rw[Ai];exact Q8 _ 91 (by omega)
   have g:s.head? = some (s.getD 0 0):=by
    cases s with
    | nil=>exact absurd rfl c
    | cons b t=>rfl
   rw[m,j0,cond_true,E9,cond_true,o];by_cases f:s.getD 0 0=91
   ·have e:C9 s=Q0 s:=by unfold C9 Q0;rw[if_neg i,if_pos (by rw[g,f])]<;>rfl
    have j:A1 ((s.length:Int)-1)=((s.length-1:Nat):Int):=by rw[A7];omega
    have p:(((s.getD (s.length-1) 0).toNat:Int)!=93) = !(s.getD (s.length-1) 0==93):=congrArg _ (Q8 _ 93 (by omega));rw[e,f,beq_self_eq_true];unfold Hm Q0;simp only[vl,j,cond_true];rw[E9,D3,p,cond_true];by_cases d:s.getD (s.length-1) 0=93
    ·have f:2<=s.length:=by grind
     rw[if_pos ⟨(FU s 93 c).2 d,f⟩,d,beq_self_eq_true,j1,cond_false,A6,cond_false,show(1:Int)=((1:Nat):Int) from rfl,I1,cond_true,Fd];have n:((s.take (s.length-1)).drop 1).length<=s.length:=by rw[j7,o5];omega
     rw[J9,cond_true];unfold v6c;cases v:v6B ((s.take (s.length-1)).drop 1) with
     | none=>exact⟨_,_,rfl,rfl⟩
     | some a=>exact⟨_,_,rfl,rfl⟩
    ·rw[if_neg (λh=>d ((FU s 93 c).1 h.1)),show(s.getD (s.length-1) 0==93)=false by simpa using d];exact⟨_,_,rfl,rfl⟩
   ·rw[show(s.getD 0 0==91)=false by simpa using f];exact So s (by omega) (by rw[g];simpa using f)
section
theorem NO:B3 j9 GX 194 Vw:=xf [] (JQ LF) AD rfl trivial rfl (by kernel_rfl) follows λargs=>by
 unfold AD;split
 ·rename_i n;exact⟨rfl,rfl,rfl,_,_,(B93 LF noY () 0 n).trans (An5 n ),rfl⟩
 ·trivial
theorem Au5:B3 j9 GX 193 HP:=xf [] (X6 LF) Zz rfl trivial rfl (by kernel_rfl) follows λargs=>by
 unfold Zz;split
 ·rename_i d c f;exact λa=>λb=>λe=>⟨rfl,rfl,rfl,_,_,(B70 LF noY () 0 d c f).trans (Ak9 d c f a b e),rfl⟩
 ·trivial
theorem C37:B3 j9 GX 192 Aw9:=xf [] (A06 LF) UJ rfl trivial rfl (by kernel_rfl) follows λargs=>by
 unfold UJ;split
 ·rename_i k b;exact λa=>λc=>⟨rfl,rfl,rfl,_,_,(Dh3 LF noY () 0 k b).trans (B99 k b a c),rfl⟩
 ·trivial
theorem Dn0:B3 j9 GX 195 Bo7:=xf [] (WH LF) HT rfl trivial rfl (by kernel_rfl) follows λargs=>by
 unfold HT;split
 ·rename_i d;exact λa=>⟨rfl,rfl,rfl,_,_,(Cs1 LF noY () 0 d).trans (Ba3 d a),rfl⟩
 ·trivial
theorem Dz1:B3 j9 GX 191 Ch9:=xf [] (Jr LF) UQ rfl trivial rfl (by kernel_rfl) follows λargs=>by
 unfold UQ;split
 ·rename_i b;exact λa=>⟨rfl,rfl,rfl,_,_,(Di4 LF noY () 0 b).trans (Cb1 b a),rfl⟩
 ·trivial
theorem C32:B3 j9 GX 155 Aw4:=xf [0,0] (N0 LF) UA rfl ⟨NO,C37,Dn0,Au5,trivial⟩ rfl (by kernel_rfl) follows λargs=>by
 unfold UA;split
 ·rename_i b a p;exact λc=>(let⟨r,H,e,q⟩:=Df7 b a p c;⟨rfl,rfl,rfl,r,H,(Df5 LF noY () 0 b a p).trans e,q⟩)
 ·trivial
theorem Dn7:B3 j9 GX 154 Bp3:=xf [1,0] (J8 LF) IE rfl ⟨Dz1,C37,Au5,NO,trivial⟩ rfl (by kernel_rfl) follows λargs=>by
 unfold IE;split
 ·rename_i s;exact λa=>(let⟨r,H,e,q⟩:=Cv0 s a;⟨rfl,rfl,rfl,r,H,(Cu9 LF noY () 0 s).trans e,q⟩)
 ·trivial
theorem Dy5:B3 j9 GX 175 Ch4:=xf [1,0] (O6 LF) UI rfl ⟨NO,trivial⟩ rfl (by kernel_rfl) follows λargs=>by
 unfold UI;split
 ·rename_i s;exact λa=>(let⟨r,H,e,q⟩:=Dh1 s a;⟨rfl,rfl,rfl,r,H,(Dh0 LF noY () 0 s).trans e,q⟩)
 ·trivial
theorem Dn9:B3 j9 GX 113 Bp5:=xf [] (Md LF) IG rfl ⟨Dn7,C32,trivial⟩ rfl (by kernel_rfl) follows λargs=>by
 unfold IG;split
 ·rename_i s;exact λa=>⟨rfl,rfl,rfl,_,_,(Cv2 LF noY () 0 s).trans (Bg2 s a),rfl⟩
 ·trivial
theorem By7:B3 j9 GX 77 UF:=xf [] (Mb LF) IB rfl ⟨Dn9,trivial⟩ rfl (by kernel_rfl) follows λargs=>by
 unfold IB;split
 ·rename_i s;exact λa=>⟨rfl,rfl,rfl,_,_,(Cu3 LF noY () 0 s).trans (Be0 s a),rfl⟩
 ·trivial
theorem Dn5:B3 j9 GX 131 Bp2:=xf [0,0] (WL LF) IA rfl ⟨Dy5,C34,C32,By7,trivial⟩ rfl (by kernel_rfl) follows λargs=>by
 unfold IA;split
 ·rename_i s;exact λa=>⟨rfl,rfl,rfl,_,_,(Cu2 LF noY () 0 s).trans (Bd7 s a),rfl⟩
 ·trivial
theorem D30:B3 j9 GX 174 Dp4:=xf [] (Sj LF) Aw6 rfl trivial rfl (by kernel_rfl) follows λargs=>by
 unfold Aw6;split
 ·rename_i b;exact λa=>⟨rfl,rfl,rfl,_,_,(Du5 LF noY () 0 b).trans (Cu1 b a),rfl⟩
 ·trivial
theorem Dn3:B3 j9 GX 129 Bp0:=xf [0,0] (Lz LF) HW rfl ⟨D30,trivial⟩ rfl (by kernel_rfl) follows λargs=>by
 unfold HW;split
 ·rename_i s;exact λa=>(let⟨r,H,e,q⟩:=Ct3 s a;⟨rfl,rfl,rfl,r,H,(Ct2 LF noY () 0 s).trans e,q⟩)
 ·trivial
theorem Ce9:B3 j9 GX 93 OW:=xf [0,0] (K5 LF) Tc rfl ⟨Dz0,Dn3,NN,Dn8,Qp,Dn5,trivial⟩ rfl (by kernel_rfl) follows λargs=>by
 unfold Tc;split
 ·rename_i s;exact λa=>(let⟨r,H,e,q⟩:=Bd5 s a;⟨rfl,rfl,rfl,r,H,(Bd4 LF noY () 0 s).trans e,q⟩)
 ·trivial
theorem C33:B3 j9 GX 45 Aw5:=xf [] (Ub LF) UD rfl ⟨NN,Qp,By7,trivial⟩ rfl (by kernel_rfl) follows λargs=>by
 unfold UD;split
 ·rename_i s;exact λa=>⟨rfl,rfl,rfl,_,_,(Dg1 LF noY () 0 s).trans (B80 s a),rfl⟩
 ·trivial
theorem Ab2:B3 j9 GX 42 FK:=xf [] (WK LF) HZ rfl ⟨C33,trivial⟩ rfl (by kernel_rfl) follows λargs=>by
 unfold HZ;split
 ·rename_i j k v4 a b c d f g h i;exact λl=>λm=>λn=>(let⟨r,H,e,q⟩:=Cu0 j k v4 a b c d f g h i l m n;⟨rfl,rfl,rfl,r,H,(Ct9 LF noY () 0 j k v4 a b c d f g h i).trans e,q⟩)
 ·trivial
theorem By6:B3 j9 GX 59 UC:=xf [] (WJ LF) HY rfl ⟨Ab2,Dy7,Dy9,trivial⟩ rfl (by kernel_rfl) follows λargs=>by
 unfold HY;split
 ·rename_i j k v4 a b c d f g h i;exact λl=>λm=>λn=>(let⟨r,H,e,q⟩:=Ct7 j k v4 a b c d f g h i l m n;⟨rfl,rfl,rfl,r,H,(Ct6 LF noY () 0 j k v4 a b c d f g h i).trans e,q⟩)
 ·trivial
theorem Dn2:B3 j9 GX 20 Bo9:=xf [] (WI LF) HV rfl ⟨C33,trivial⟩ rfl (by kernel_rfl) follows λargs=>by
 unfold HV;split
 ·rename_i p s;exact λa=>λb=>⟨rfl,rfl,rfl,_,_,(Ct1 LF noY () 0 p s).trans (Bc9 p s a b),rfl⟩
 ·trivial
end
section
theorem Au7:B3 j9 GX 91 IM:=xf [] (JR LF) AG rfl trivial rfl (by kernel_rfl) follows λargs=>by
 unfold AG;split
 ·rename_i s;exact⟨rfl,rfl,rfl,_,_,(Ca2 LF noY () 0 s).trans (Aq3 s ),rfl⟩
 ·trivial
theorem Do3:B3 j9 GX 94 Bp9:=xf [] (WO LF) IN rfl trivial rfl (by kernel_rfl) follows λargs=>by
 unfold IN;split
 ·rename_i s;exact⟨rfl,rfl,rfl,_,_,(Cw5 LF noY () 0 s).trans (Bi2 s ),rfl⟩
 ·trivial
theorem Do1:B3 j9 GX 92 Bp7:=xf [] (Aq LF) II rfl trivial rfl (by kernel_rfl) follows λargs=>by
 unfold II;split
 ·rename_i s t;exact λa=>λb=>⟨rfl,rfl,rfl,_,_,(Cv6 LF noY () 0 s t).trans (Bh5 s t a b),rfl⟩
 ·trivial
theorem Do2:B3 j9 GX 90 Bp8:=xf [0,0,0] (L4 LF) IL rfl ⟨C34,trivial⟩ rfl (by kernel_rfl) follows λargs=>by
 unfold IL;split
 ·rename_i s;exact λa=>⟨rfl,rfl,rfl,_,_,(Cw4 LF noY () 0 s).trans (Bi1 s a),rfl⟩
 ·trivial
theorem By9:B3 j9 GX 57 UL:=xf [0,0] (J5 LF) IK rfl ⟨Do2,Au7,Do1,Ce9,Do3,trivial⟩ rfl (by kernel_rfl) follows λargs=>by
 unfold IK;split
 ·rename_i s;exact λa=>(let⟨r,H,e,q⟩:=Cw2 s a;⟨rfl,rfl,rfl,r,H,(Cw1 LF noY () 0 s).trans e,q⟩)
 ·trivial
theorem Cf1:B3 j9 GX 28 AF:=xf [0,0] (BB LF) Tf rfl ⟨By9,trivial⟩ rfl (by kernel_rfl) follows λargs=>by
 unfold Tf;split
 ·rename_i s;exact λa=>(let⟨r,H,e,q⟩:=Bh8 s a;⟨rfl,rfl,rfl,r,H,(Bh7 LF noY () 0 s).trans e,q⟩)
 ·trivial
end
end
end Go.Proofs.YtfkhfkjcidamaaaGreatDoor.E
