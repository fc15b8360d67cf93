/-
  Parts of the proof, merged by a program of the prover's own; no condition.
-/
import Derived.Test.YtcfingekgbbclaaGreatDoorKU5
open Eq renaming trans->a8
open Int renaming toNat_natCast->b8,toNat->b9,tmod->o9,tdiv->p9,eq_ofNat_of_zero_le->v8,mul->aa9,mul_comm->af0
open List renaming drop_of_length_le->c9,length->j2,length_append->j4,getD_eq_getElem?_getD->j5,length_cons->j6,length_drop->j7,drop_zero->j8,length_take->o0,getElem?_eq_getElem->o6,length_map->o7,length_singleton->p4,append_assoc->p6,replicate->s9,takeWhile_cons->v7,length_nil->w6,nil_append->w8,length_pos_iff->x3,length_eq_zero_iff->x6,countP_le_length->x8,getElem_mem->x9,take->y5,all_cons->y9,append_nil->aa1,map_append->aa2,drop->aa4,contains_cons->aa6,drop_drop->aa7,isPrefixOf_iff_prefix->aa8,any_cons->ab2,countP_cons_of_neg->ab4,map->ab5,getElem_cons_drop->ab6,drop_left'->ab7,take_left->ac1,getD_cons_zero->ac3,mem_cons->ac6,all->ad1,head?_cons->ae0,takeWhile->ae1,isEmpty->af2
open Bool renaming not_false->j0,not_true->j1,eq_false_iff->k9,and_eq_true->s8,true_and->w9,eq_iff_iff->aa0,false_eq_true->aa5,and_true->ac4,false_or->ac5,not_eq_true'->ac9,or_eq_true->ad9,not_and->ae9
open Go.Proofs.Tryz renaming prog->j9,f156->ac2,f115->ad2,f119->ad3,f120->ad4,f151->ad5,f176->ad6,f41->ae4,f61->ae5,f63->ae6,f127->ae8,f62->af5,f66->af6,f85->af7,f94->af8
open Nat renaming ble_eq->o5,ble->p7,div_le_self->x4,le_refl->ab1,add_lt_add_iff_right->ab3,strongRecOn->ab8,blt_eq->ac7,zero_le->ad7,mod_lt->ae2,mul_le_mul->ae3,sub_zero->af3
open Option.some renaming injEq->o8
open Go.Lib renaming decodeL->p5,decodeN->x5,cut->ab0,join->ac0,joinTail->ad0,decDigits->ae7
open Exists renaming intro->s7
open UInt8 renaming ofNat->x7,toNat_inj->aa3,toNat->ad8
open Option renaming bind_some->y7,getD_some->y8,isSome->z7,map_some->ab9,isSome_some->ac8
open List.Sublist renaming length_le->af1
open Ne renaming symm->af4
namespace Go.Proofs.YtcfingekgbbclaaGreatDoor.E
set_option linter.all false
section
open Go Go.Proofs
set_option maxRecDepth 100000
section
variable {Z R : Type} (L : Nat) (Q : F7) (Y : Yh Z) (s : Z) (k : Out -> St Z -> Option R)
noncomputable def GW(L:Nat):Cfg:=B4 L [23] (A2 []) [] (A2 [(1,[2]),(0,[0])]) [] (A2 []) (some [2]) [] [] []
noncomputable def VR{R:Type}(L:Nat)(b:By)(a:Bool->Option R):Option R:=cond (b==[104,116,116,112]) (a true) (cond (b==[104,116,116,112,115]) (a true) (cond (b==[119,115]) (a true) (a (b==[119,115,115]))))
theorem Bv1(d:Nat)(s0):evC (GW L) (d+1) Z Y 23 [pS s0] [] s=VR L s0 (λa=>some (pB a,[],s)):=by refine(evE (fn:=Tryz.f23) (by kernel_rfl)).trans ?_;generalize evC (GW L) d=Q;unfold VR;kernel_rfl
noncomputable def TD(L:Nat):Cfg:=B4 L [45] (A2 []) [] (A2 [(8,[2]),(4,[2]),(7,[2]),(6,[7]),(5,[3,3]),(3,[3,0]),(2,[3,0]),(1,[3]),(0,[0])]) [] (A2 [(0,[])]) (some [2]) [] [] []
noncomputable def Bj0{R:Type}(L:Nat)(b:By)(a:Int->Option R):Option R:=cond (b==[104,116,116,112]) (cond (b==[104,116,116,112]) (a 80) (cond (b==[104,116,116,112,115]) (cond (b==[104,116,116,112,115]) (a 443) (a (-1))) (cond (b==[119,115,115]) (a 443) (a (-1))))) (cond (b==[119,115]) (a 80) (cond (b==[104,116,116,112,115]) (cond (b==[104,116,116,112,115]) (a 443) (a (-1))) (cond (b==[119,115,115]) (a 443) (a (-1)))))
theorem Cf7(d:Nat)(s0):evC (TD L) (d+1) Z Y 45 [pS s0] [] s=Bj0 L s0 (λa=>some (pI a,[],s)):=by refine(evE (fn:=Tryz.f45) (by kernel_rfl)).trans ?_;generalize evC (TD L) d=Q;unfold Bj0;kernel_rfl
noncomputable abbrev Uk:Code:=C4 af5
noncomputable def Ag(L:Nat):Cfg:=B4 L [62] (A2 [(5,[0,0,2,0,0]),(2,[0,0,2,0])]) [] (A2 [(9,[4]),(3,[0,0,3]),(6,[0,0,3,0]),(8,[4]),(7,[0,0,3,0,18]),(5,[0,0,3,0,9]),(4,[0,0,3,0]),(2,[0,0,3,4]),(1,[0,0,3]),(0,[0,0])]) [] (A2 [(0,[0]),(1,[0,0,3]),(2,[0,0,3]),(3,[0,0,3,0])]) (some [4]) [] [] []
noncomputable def Gt{R:Type}(L n:Nat)(d a:By)(c b:Int)(e:Int->Option R)(f:By->By->Int->Option R):Option R:=match n with|0=>none|n+1=>cond (ltI b (a.length:Int)) (cond (inR c d.length) (cond (inR b a.length) (cond ((bAt d c)==(bAt a b)) (e c) (Gt L n d a c (A1 (b+1)) e f)) none) none) (f d a c)
theorem Ad6(n c a b kk3):C5 0 ((Ag L).keep 5) (bd (Ag L) Q Y (cd [1,0,1,0,0,1,0,0,1,0,0] Uk)) n ⟨gp [(0,pS c),(0,pS a),(3,pI b),(0,pI kk3)] 22,[],s⟩ k =
 Gt L n c a b kk3 (λn0=>k .ret ⟨gp [(4,pI n0)] 24,[],s⟩) (λc a b=>k (.exit 2) ⟨gp [(0,pS c),(0,pS a),(3,pI b)] 23,[],s⟩):=by
 induction n generalizing c a b kk3 with
 | zero=>rfl
 | succ n d=>rw[Gt];simp only[<-d];kernel_rfl
noncomputable def Gu{R:Type}(L n:Nat)(e b:By)(f:Int)(g:Int->Option R)(h:By->Option R):Option R:=match n with|0=>none|n+1=>cond (ltI f (e.length:Int)) (Gt L L e b f 0 g (λd a c=>Gu L n d a (A1 (c+1)) g h)) (h e)
theorem Ad7(n b set1 i2):C5 0 ((Ag L).keep 2) (bd (Ag L) Q Y (cd [1,0,1,0,0] Uk)) n ⟨gp [(0,pS b),(0,pS set1),(3,pI i2)] 23,[],s⟩ k =
 Gu L n b set1 i2 (λn0=>k .ret ⟨gp [(4,pI n0)] 24,[],s⟩) (λb=>k (.exit 0) ⟨gp [(0,pS b)] 28,[],s⟩):=by
 induction n generalizing b set1 i2 with
 | zero=>rfl
 | succ n e=>rw[Gu];exact(a8 (by kernel_rfl) (A0 ((Ad6 L Q Y s (E3 2 (E3 1 (E2 (Ag L) Q Y (cd [1,0,1,0,0,1,1] Uk) (lpK 0 ((Ag L).keep 2) (bd (Ag L) Q Y (cd [1,0,1,0,0] Uk)) n k)))) L b set1 i2 0).trans (congr (congr rfl (by kernel_rfl)) (fx3 λd a c=>(a8 (by kernel_rfl) (e d a (A1 (c+1))))))) rfl))
noncomputable def Ce5{R:Type}(L:Nat)(e a:By)(d:Int->Option R):Option R:=Gu L L e a 0 d (λc=>vl (c.length:Int) λb=>d b)
theorem Ce6(d:Nat)(s0 set1):evC (Ag L) (d+1) Z Y 62 [pS s0,pS set1] [] s=Ce5 L s0 set1 (λa=>some (pI a,[],s)):=by refine(evE (fn:=af5) (by kernel_rfl)).trans ?_;generalize evC (Ag L) d=Q;unfold Ce5;exact(a8 (by kernel_rfl) ((Ad7 L Q Y s (E3 0 (E2 (Ag L) Q Y (cd [1,1] Uk) (F5 (Ag L) af5))) L s0 set1 0).trans (by kernel_rfl)))
noncomputable abbrev M5:Code:=C4 ae5
noncomputable def K7(L:Nat):Cfg:=B4 L [61] (A2 [(2,[0,1,0,0,0])]) [(17,Al7)] (A2 [(11,[2,0,0]),(3,[0,4]),(10,[2,0,0]),(9,[0,4,67]),(8,[0,4,1,0]),(7,[0,4,0,0]),(6,[2,0,0]),(5,[0,4,0,16]),(4,[0,4,0]),(2,[0,4,6]),(1,[0,4]),(0,[0])]) [17] (A2 [(0,[]),(1,[0,4])]) (some [2,0,0]) [] [] []
noncomputable def Kd{R:Type}(a:By)(b f:Int)(e:Bool)(g:By->By->Option R)(h:By->Int->Int->Bool->Option R):Option R:=cond e (cond (I2 0 b a.length) (cond (A3 (j2 (cut a 0 b))) (vl (B6 (cut a 0 b)) λc=>cond (I2 (A1 (b+1)) (a.length:Int) a.length) (vl (cut a (A1 (b+1)) (a.length:Int)) λd=>g c d) none) none) none) (h a b f e)
abbrev Tn(b:Code):Prop:=∀(k:Out->St Z->Option R) a e c d,A9 (K7 L) Q Y b ⟨gp [(0,pS a),(4,pI e),(0,p8 c),(16,pB d)] 50,[],s⟩ k=Kd a e c d (λa f=>k .ret ⟨gp [(2,pS a),(0,pS f),(0,pB true)] 69,[],s⟩) (λa e c d=>k .normal ⟨gp [(0,pS a),(4,pI e),(0,p8 c),(16,pB d)] 50,[],s⟩)
theorem Af0:Tn (R:=R) L Q Y s (cd [1,0,1,0,0,1,0,0,1,0,1] M5):=by intro k d c a b;unfold Kd;kernel_rfl
noncomputable def Ke{R:Type}(c:By)(a:Int)(b:By->Int->Option R):Option R:=b c a
abbrev To(b:Code):Prop:=∀(k:Out->St Z->Option R) c a,A9 (K7 L) Q Y b ⟨gp [(0,pS c),(4,pI a),(1,pB true),(0,pB true)] 65,[],s⟩ k=Ke c a (λc a=>k .normal ⟨gp [(0,pS c),(4,pI a),(67,pB false)] 0,[],s⟩)
theorem CJ:To (R:=R) L Q Y s (cd [1,0,1,0,0,1,0,0,1,1,1,1] M5):=by intro k b a;unfold Ke;kernel_rfl
noncomputable def Gy{R:Type}(c:By)(a:Int)(b:By->Int->Option R):Option R:=b c a
abbrev Tp(b:Code):Prop:=∀(k:Out->St Z->Option R) c a other2,A9 (K7 L) Q Y b ⟨gp [(0,pS c),(4,pI a),(1,pB true),(0,pB other2)] 65,[],s⟩ k=Gy c a (λc a=>k .normal ⟨gp [(0,pS c),(4,pI a),(67,pB false)] 0,[],s⟩)
theorem CL:Tp (R:=R) L Q Y s (cd [1,0,1,0,0,1,0,0,1,1,1,1] M5):=by intro k c b a;unfold Gy;kernel_rfl
noncomputable def Ww{R:Type}(c:By)(a d:Int)(b:By->Int->Option R):Option R:=cond (not (ltI d 48)) (cond (not (ltI 57 d)) (Ke c a b) (cond (d==43) (Ke c a b) (cond (d==45) (Ke c a b) (Gy c a b)))) (cond (d==43) (Gy c a b) (cond (d==45) (Gy c a b) (Gy c a b)))
abbrev Tq(b:Code):Prop:=∀(k:Out->St Z->Option R) c a b2,A9 (K7 L) Q Y b ⟨gp [(0,pS c),(4,pI a),(0,p8 b2),(0,pB true)] 66,[],s⟩ k=Ww c a b2 (λc a=>k .normal ⟨gp [(0,pS c),(4,pI a),(67,pB false)] 0,[],s⟩)
theorem Af1(a:Code)(c:To (R:=R) L Q Y s a)(b:Tp (R:=R) L Q Y s a):Tq (R:=R) L Q Y s (cd [1,0,1,0,0,1,0,0,1,1,1] (G5 [1,0,1,0,0,1,0,0,1,1,1,1] a M5)):=by intro k e d f;unfold Ww;exact(a8 (by kernel_rfl) (A0 (A0 ((c k e d).trans (by kernel_rfl)) (A0 ((c k e d).trans (by kernel_rfl)) (A0 ((c k e d).trans (by kernel_rfl)) ((b k e d (f==46)).trans (by kernel_rfl))))) (A0 ((b k e d true).trans (by kernel_rfl)) (A0 ((b k e d true).trans (by kernel_rfl)) ((b k e d (f==46)).trans (by kernel_rfl))))))
theorem Af2:Tq (R:=R) L Q Y s (cd [1,0,1,0,0,1,0,0,1,1,1] M5):=by intro k c b a;exact a8 (by kernel_rfl) (Af1 L Q Y s (cd [1,0,1,0,0,1,0,0,1,1,1,1] M5) (CJ L Q Y s) (CL L Q Y s) k c b a)
noncomputable def Kf{R:Type}(d:By)(b:Int)(a:Bool)(e:Unit->Option R)(c:By->Int->Bool->Option R):Option R:=cond (not a) (cond (b==0) (e ()) (c d b (b==0))) (c d b false)
abbrev JQ(b:Code):Prop:=∀(k:Out->St Z->Option R) c a letter2,A9 (K7 L) Q Y b ⟨gp [(0,pS c),(4,pI a),(1,pB letter2),(0,pB true)] 65,[],s⟩ k=Kf c a letter2 (λ_=>k .ret ⟨gp [(2,pS e0),(0,pS e0),(0,pB false)] 69,[],s⟩) (λc a d=>k .normal ⟨gp [(0,pS c),(4,pI a),(67,pB d)] 0,[],s⟩)
theorem Af3:JQ (R:=R) L Q Y s (cd [1,0,1,0,0,1,0,0,1,1,1,1] M5):=by intro k c b a;unfold Kf;kernel_rfl
noncomputable def Gz{R:Type}(f:By)(c:Int)(a b:Bool)(d:Unit->Option R)(e:By->Int->Bool->Option R):Option R:=cond (not a) (cond (not b) (d ()) (cond (c==0) (d ()) (e f c (c==0)))) (e f c false)
abbrev JR(b:Code):Prop:=∀(k:Out->St Z->Option R) c a letter2 other3,A9 (K7 L) Q Y b ⟨gp [(0,pS c),(4,pI a),(1,pB letter2),(0,pB other3)] 65,[],s⟩ k=Gz c a letter2 other3 (λ_=>k .ret ⟨gp [(2,pS e0),(0,pS e0),(0,pB false)] 69,[],s⟩) (λc a d=>k .normal ⟨gp [(0,pS c),(4,pI a),(67,pB d)] 0,[],s⟩)
theorem Af4:JR (R:=R) L Q Y s (cd [1,0,1,0,0,1,0,0,1,1,1,1] M5):=by intro k d c a b;unfold Gz;kernel_rfl
noncomputable def Ha{R:Type}(f:By)(c b:Int)(a:Bool)(d:Unit->Option R)(e:By->Int->Bool->Option R):Option R:=cond (not (ltI b 48)) (cond (not (ltI 57 b)) (Kf f c a (λ_=>d ()) e) (cond (b==43) (Kf f c a (λ_=>d ()) e) (cond (b==45) (Kf f c a (λ_=>d ()) e) (Gz f c a (b==46) (λ_=>d ()) e)))) (cond (b==43) (Gz f c a true (λ_=>d ()) e) (cond (b==45) (Gz f c a true (λ_=>d ()) e) (Gz f c a (b==46) (λ_=>d ()) e)))
abbrev Ts(b:Code):Prop:=∀(k:Out->St Z->Option R) d c a letter3,A9 (K7 L) Q Y b ⟨gp [(0,pS d),(4,pI c),(0,p8 a),(0,pB letter3)] 66,[],s⟩ k=Ha d c a letter3 (λ_=>k .ret ⟨gp [(2,pS e0),(0,pS e0),(0,pB false)] 69,[],s⟩) (λd c a=>k .normal ⟨gp [(0,pS d),(4,pI c),(67,pB a)] 0,[],s⟩)
theorem Af5(a:Code)(d:To (R:=R) L Q Y s a)(e:Tp (R:=R) L Q Y s a)(b:JQ (R:=R) L Q Y s a)(c:JR (R:=R) L Q Y s a):Ts (R:=R) L Q Y s (cd [1,0,1,0,0,1,0,0,1,1,1] (G5 [1,0,1,0,0,1,0,0,1,1,1,1] a M5)):=by intro k i h g f;unfold Ha;simp only[<-b k,<-c k];kernel_rfl
theorem Af6:Ts (R:=R) L Q Y s (cd [1,0,1,0,0,1,0,0,1,1,1] M5):=by intro k d c b a;exact a8 (by kernel_rfl) (Af5 L Q Y s (cd [1,0,1,0,0,1,0,0,1,1,1,1] M5) (CJ L Q Y s) (CL L Q Y s) (Af3 L Q Y s) (Af4 L Q Y s) k d c b a)
noncomputable def Af{R:Type}(f:By)(c a:Int)(d:By->Int->Bool->Option R)(g:Unit->Option R):Option R:=cond (not (ltI a 97)) (cond (not (ltI 122 a)) (Ww f c a (λe b=>d e b false)) (cond (not (ltI a 65)) (Ha f c a (not (ltI 90 a)) (λ_=>g ()) d) (Ha f c a false (λ_=>g ()) d))) (cond (not (ltI a 65)) (Ha f c a (not (ltI 90 a)) (λ_=>g ()) d) (Ha f c a false (λ_=>g ()) d))
abbrev Mb(b:Code):Prop:=∀(k:Out->St Z->Option R) d c a b3,A9 (K7 L) Q Y b ⟨gp [(0,pS d),(4,pI c),(0,p8 a),(16,pB b3)] 50,[],s⟩ k=Af d c a (λd c a=>k .normal ⟨gp [(0,pS d),(4,pI c),(67,pB a)] 0,[],s⟩) (λ_=>k .ret ⟨gp [(2,pS e0),(0,pS e0),(0,pB false)] 69,[],s⟩)
theorem Af7(a:Code)(b:Tq (R:=R) L Q Y s a)(c:Ts (R:=R) L Q Y s a):Mb (R:=R) L Q Y s (cd [1,0,1,0,0,1,0,0,1,1] (G5 [1,0,1,0,0,1,0,0,1,1,1] a M5)):=by intro k g f d e;unfold Af;simp only[<-b k,<-c k];kernel_rfl
theorem Af8:Mb (R:=R) L Q Y s (cd [1,0,1,0,0,1,0,0,1,1] M5):=by intro k d c a b;exact a8 (by kernel_rfl) (Af7 L Q Y s (cd [1,0,1,0,0,1,0,0,1,1,1] M5) (Af2 L Q Y s) (Af6 L Q Y s) k d c a b)
noncomputable def N2{R:Type}(L n:Nat)(b:By)(a:Int)(c:By->By->Bool->Option R)(t:Unit->Option R):Option R:=match n with|0=>none|n+1=>cond (ltI a (b.length:Int)) (cond (inR a b.length) (cond ((bAt b a)==58) (Kd b a (bAt b a) (ltI 0 a) (λu v=>c u v true) (λw r q A=>Af w r q (λj e x=>vl (A1 (e+1)) λh=>N2 L n j h c t) (λ_=>c e0 e0 false))) (Kd b a (bAt b a) false (λl m=>c l m true) (λo f d y=>Af o f d (λp g z=>vl (A1 (g+1)) λi=>N2 L n p i c t) (λ_=>c e0 e0 false)))) none) (t ())
theorem Af9(b:Code)(c:Tn (R:=R) L Q Y s b)(a:Code)(d:Mb (R:=R) L Q Y s a)(n:Nat)(e:By)(f:Int):C5 0 ((K7 L).keep 2) (bd (K7 L) Q Y (cd [1,0,1,0,0] (G5 [1,0,1,0,0,1,0,0,1,1] a (G5 [1,0,1,0,0,1,0,0,1,0,1] b M5)))) n ⟨gp [(0,pS e),(4,pI f)] 68,[],s⟩ k =
 N2 L n e f (λe D C=>k .ret ⟨gp [(2,pS e),(0,pS D),(0,pB C)] 69,[],s⟩) (λ_=>k (.exit 0) ⟨gp [] 74,[],s⟩):=by
 induction n generalizing e f with
 | zero=>rfl
 | succ n B=>rw[N2];exact let q:=(E3 1 (E2 (K7 L) Q Y (cd [1,0,1,0,0,1,1] M5) (lpK 0 ((K7 L).keep 2) (bd (K7 L) Q Y (cd [1,0,1,0,0] (G5 [1,0,1,0,0,1,0,0,1,1] a (G5 [1,0,1,0,0,1,0,0,1,0,1] b M5)))) n k)));let w:=(E2 (K7 L) Q Y a q);(a8 (by kernel_rfl) (A0 (A0 (A0 ((c w e f (bAt e f) (ltI 0 f)).trans (congr (congr rfl (by kernel_rfl)) (fx4 λv u r t=>(a8 (by kernel_rfl) ((d q v u r t).trans (congr (congr rfl (fx3 λm z x=>(a8 (by kernel_rfl) (A4 λj=>(B m j))))) (by kernel_rfl))))))) ((c w e f (bAt e f) false).trans (congr (congr rfl (by kernel_rfl)) (fx4 λo i g h=>(a8 (by kernel_rfl) ((d q o i g h).trans (congr (congr rfl (fx3 λp A y=>(a8 (by kernel_rfl) (A4 λl=>(B p l))))) (by kernel_rfl)))))))) rfl) rfl))
noncomputable def Ae9{R:Type}(L:Nat)(b:By)(a:By->By->Bool->Option R):Option R:=N2 L L b 0 a (λ_=>a e0 e0 false)
theorem Cf5(a:Code)(c:Tn (R:=PV × List Blk × Z) L Q Y s a)(b:Code)(d:Mb (R:=PV × List Blk × Z) L Q Y s b)(e:By):A9 (K7 L) Q Y (cd [] (G5 [1,0,1,0,0,1,0,0,1,1] b (G5 [1,0,1,0,0,1,0,0,1,0,1] a M5))) ⟨[pS e]++tps 73,[],s⟩ (F5 (K7 L) ae5)=Ae9 L e (λf g h=>some (.tup [pS f,pS g,pB h],[],s)):=by unfold Ae9;exact(a8 (by kernel_rfl) ((Af9 L Q Y s (E3 0 (E2 (K7 L) Q Y (cd [1,1] M5) (F5 (K7 L) ae5))) a c b d L e 0).trans (by kernel_rfl)))
theorem Cf6(d:Nat)(s0):evC (K7 L) (d+1) Z Y 61 [pS s0] [] s=Ae9 L s0 (λa b c=>some (.tup [pS a,pS b,pB c],[],s)):=
 (evE (fn:=ae5) (by kernel_rfl)).trans (a8 (by kernel_rfl) (Cf5 L (evC (K7 L) d) Y s (cd [1,0,1,0,0,1,0,0,1,0,1] M5) (Af0 L (evC (K7 L) d) Y s) (cd [1,0,1,0,0,1,0,0,1,1] M5) (Af8 L (evC (K7 L) d) Y s) s0))
noncomputable abbrev K6:Code:=C4 ae4
noncomputable def I9(L:Nat):Cfg:=B4 L [41] (A2 [(36,[2,0,1,3,0,4,0]),(20,[2,0,1,3,0,0]),(2,[0,1,0,0])]) [(61,Bc8),(23,Np),(62,Bc6),(63,LV),(45,QS)] (A2 [(46,[2,0]),(45,[2,7]),(44,[2,7,173]),(43,[2,2,4]),(42,[2,0]),(41,[2,2,4,4,160]),(37,[2,2,3,0,4,0]),(40,[2,2,3,0,4,0]),(39,[2,0]),(38,[2,2,3,0,4,0,147]),(36,[2,2,3,0,4,0,135]),(35,[2,2,3,0,4,0]),(34,[2,2,3,0,1,2]),(33,[2,2,3,0,1,133]),(32,[2,2,3,0,1]),(31,[2,0]),(30,[2,2,3,0,1,0,0,122]),(29,[2,2,3,0,1,0,0]),(28,[2,0]),(27,[2,2,3,0,1,114]),(26,[2,2,3,0,1]),(25,[2,2,3,0,1,95]),(24,[2,2,3,0,1]),(21,[2,2,3,0,0]),(23,[2,2,3,0]),(22,[2,2,3,0,0,79]),(20,[2,2,3,0,0,73]),(19,[2,2,3,0,0]),(18,[2,2,3,0]),(17,[2,2,0,2,0,66]),(16,[2,2,0,2,0]),(15,[2,2,0,2]),(14,[2,2,0,1]),(13,[2,2,0]),(12,[2,0]),(11,[2,2,0,49]),(10,[2,0]),(9,[2,2,0,38]),(8,[2,0]),(7,[2,2,0,34]),(6,[2,2,0,0]),(3,[0,1,1]),(5,[2,0]),(4,[0,1,1,27]),(2,[0,1,1,15]),(1,[0,1,1]),(0,[0,1])]) [61,23,62,45] (A2 [(4,[2,2,4,4]),(5,[2,2,3,0,4,0]),(2,[2,2,3,0]),(3,[2,2,3,0,0]),(0,[0,1]),(1,[0,1,1])]) (some [2,0]) [] [] []
noncomputable def Dv{R:Type}(L n:Nat)(a:By)(b:Int)(c:(List Blk)->Option R)(d:By->Option R):Option R:=match n with|0=>none|n+1=>cond (ltI b (a.length:Int)) (cond (inR b a.length) (cond (not (ltI 32 (bAt a b))) (c []) (cond (inR b a.length) (cond ((bAt a b)==127) (c []) (Dv L n a (A1 (b+1)) c d)) none)) none) (d a)
theorem Ae5(n a i1):C5 1 ((I9 L).keep 2) (bd (I9 L) Q Y (cd [1,0,1,0,0] K6)) n ⟨gp [(0,pS a),(1,.ptr 0 0 0),(1,pI i1)] 182,[bU0],s⟩ k =
 Dv L n a i1 (λb=>k .ret ⟨gp [(2,.ptr 0 0 0),(0,pI (4:Int))] 183,(bU0::b),s⟩) (λa=>k (.exit 0) ⟨gp [(0,pS a),(1,.ptr 0 0 0)] 184,[bU0],s⟩):=by
 induction n generalizing a i1 with
 | zero=>rfl
 | succ n c=>rw[Dv];simp only[<-c];kernel_rfl
noncomputable def X2{R:Type}(L n:Nat)(b a:By)(c:Int)(g:By)(f:By->By->By->By->Option R):Option R:=match n with|0=>none|n+1=>cond (not (ltI c 0)) (cond (inR c a.length) (cond ((bAt a c)==64) (cond (I2 0 c a.length) (vl (cut a 0 c) λd=>cond (I2 (A1 (c+1)) (a.length:Int) a.length) (vl (cut a (A1 (c+1)) (a.length:Int)) λe=>f b e d g) none) none) (X2 L n b a (A1 (c-1)) g f)) none) (f b a e0 g)
theorem CH(n b a i2 c):C5 2 ((I9 L).keep 20) (bd (I9 L) Q Y (cd [1,1,1,1,1,1,1,1,1,1,1,0,1,0,0] K6)) n ⟨gp [(2,.ptr 0 0 0),(2,pS b),(3,pS a),(0,.ptr 1 0 0),(0,pI i2)] 175,[bU0,(bU b [] 0 [] 0 0 0 0 0 0 0 0 0 (-1) c)],s⟩ k =
 X2 L n b a i2 c (λb a e c=>k (.exit 2) ⟨gp [(2,.ptr 0 0 0),(2,pS b),(3,pS a),(0,.ptr 1 0 0)] 176,[bU0,(bU b e 0 [] 0 0 0 0 0 0 0 0 0 (-1) c)],s⟩):=by
 induction n generalizing b a i2 c with
 | zero=>rfl
 | succ n d=>rw[X2];simp only[<-d];kernel_rfl
noncomputable def Bv{R:Type}(c a:By)(d:Int)(h:Bool)(f g:By)(i:(List Blk)->Option R)(j:By->By->Int->Bool->By->By->Option R)(l:By->By->Int->Bool->By->By->Option R):Option R:=cond h (cond (A3 a.length) (vl (↑(P9 a ([93]:List UInt8)):Int) λe=>vl (A1 (e+1)) λb=>cond (ltI (a.length:Int) b) (i [(bU c f 0 [] 0 0 0 0 0 0 0 0 0 (-1) g)]) (cond (ltI b (a.length:Int)) (cond (inR b a.length) (cond ((bAt a b)!=58) (i [(bU c f 0 [] 0 0 0 0 0 0 0 0 0 (-1) g)]) (j c a b ((bAt a b)!=58) f g)) none) (j c a b false f g))) none) (l c a d h f g)
abbrev Ti(b:Code):Prop:=∀(k:Out->St Z->Option R) c a d e f g,A9 (I9 L) Q Y b ⟨gp [(2,.ptr 0 0 0),(2,pS c),(3,pS a),(0,.ptr 1 0 0),(1,pI d),(95,pB e)] 78,[bU0,(bU c f 0 [] 0 0 0 0 0 0 0 0 0 (-1) g)],s⟩ k=Bv c a d e f g (λh=>k .ret ⟨gp [(2,.ptr 0 0 0),(0,pI (4:Int))] 183,(bU0::h),s⟩) (λc a d e f g=>k .normal ⟨gp [(2,.ptr 0 0 0),(2,pS c),(3,pS a),(0,.ptr 1 0 0),(1,pI d),(114,pB e)] 59,[bU0,(bU c f 0 [] 0 0 0 0 0 0 0 0 0 (-1) g)],s⟩) (λc a d e f g=>k .normal ⟨gp [(2,.ptr 0 0 0),(2,pS c),(3,pS a),(0,.ptr 1 0 0),(1,pI d),(95,pB e)] 78,[bU0,(bU c f 0 [] 0 0 0 0 0 0 0 0 0 (-1) g)],s⟩)
theorem CE:Ti (R:=R) L Q Y s (cd [1,1,1,1,1,1,1,1,1,1,1,1,1,0,1] K6):=by intro k b a c d e f;unfold Bv;kernel_rfl
noncomputable def Dw{R:Type}(L n:Nat)(b a:By)(x j:Int)(u:By)(m:Int)(q:By)(o n8 p c d e f g h:Int)(i:By)(v:(List Blk)->Option R)(w:By->Int->By->Int->By->Int->Int->Int->Int->Int->Int->Int->Int->Int->By->Option R):Option R:=match n with|0=>none|n+1=>cond (ltI j (a.length:Int)) (cond (inR j a.length) (cond (ltI (bAt a j) (48:Int)) (v [(bU b u m q o n8 p c d e f g h (-1) i),(bH m q o n8 p c d e f g h)]) (cond (inR j a.length) (cond (ltI 57 (bAt a j)) (v [(bU b u m q o n8 p c d e f g h (-1) i),(bH m q o n8 p c d e f g h)]) (cond (inR j a.length) (vl (wu8 ((bAt a j)-48)) λr=>vl (A1 ((A1 (x*10))+(A1 r))) λl=>vl (if ((1048576:Int)<l) then (1048576:Int) else l) λt=>Dw L n b a t (A1 (j+1)) u m q o n8 p c d e f g h i v w) none)) none)) none) (w b x u m q o n8 p c d e f g h i)
theorem CI(n a authority1 n2 i3 i f s6 g n8 h b c d e n14 n15 s16):C5 3 ((I9 L).keep 36) (bd (I9 L) Q Y (cd [1,1,1,1,1,1,1,1,1,1,1,1,1,1,1,1,1,0,1,0,1,0,1,0,0] K6)) n ⟨gp [(2,.ptr 0 0 0),(2,pS a),(3,pS authority1),(0,.ptr 1 0 0),(4,pI n2),(0,pI i3)] 170,[bU0,(bU a i f s6 g n8 h b c d e n14 n15 (-1) s16),(bH f s6 g n8 h b c d e n14 n15)],s⟩ k =
 Dw L n a authority1 n2 i3 i f s6 g n8 h b c d e n14 n15 s16 (λo=>k .ret ⟨gp [(2,.ptr 0 0 0),(0,pI (16:Int))] 183,(bU0::o),s⟩) (λa q r l i f m g n8 h b c d e j=>k (.exit 4) ⟨gp [(2,.ptr 0 0 0),(2,pS a),(4,.ptr 1 0 0),(4,pI q)] 171,[bU0,(bU a r l i f m g n8 h b c d e (-1) j),(bH l i f m g n8 h b c d e)],s⟩):=by
 induction n generalizing a authority1 n2 i3 i f s6 g n8 h b c d e n14 n15 s16 with
 | zero=>rfl
 | succ n p=>rw[Dw];simp only[<-p];kernel_rfl
noncomputable def Q8{R:Type}(L:Nat)(d b:By)(t:Int)(x y:By)(w:Int->By->By->Int->By->Int->Int->Int->Int->Int->Int->Int->Int->Int->Int->By->(List Blk)->Option R):Option R:=cond (I2 0 t b.length) (vl (cut b 0 t) λv=>cond (A3 v.length) (vl (C7 v) λa=>cond ((↑(a).2:Int)!=0) (w (↑(a).2:Int) e0 e0 0 e0 0 0 0 0 0 0 0 0 0 0 e0 [(bU d x 0 [] 0 0 0 0 0 0 0 0 0 (-1) y),(bH (hK a) (hN a) (hV a) (hA a 0) (hA a 1) (hA a 2) (hA a 3) (hA a 4) (hA a 5) (hA a 6) (hA a 7))]) (vl (A1 (t+1)) λA=>cond (ltI A (b.length:Int)) (vl (A1 (t+1)) λB=>Dw L L d b 0 B x (hK a) (hN a) (hV a) (hA a 0) (hA a 1) (hA a 2) (hA a 3) (hA a 4) (hA a 5) (hA a 6) (hA a 7) y (λz=>w 16 e0 e0 0 e0 0 0 0 0 0 0 0 0 0 0 e0 z) (λc u q e p f g h i j l m n o r=>cond (ltI 65535 u) (w 16 e0 e0 0 e0 0 0 0 0 0 0 0 0 0 0 e0 [(bU c q e p f g h i j l m n o (-1) r),(bH e p f g h i j l m n o)]) (cond (u==(N8 c)) (w 0 c q e p f g h i j l m n o (-1) r [(bU c q e p f g h i j l m n o (-1) r),(bH e p f g h i j l m n o)]) (w 0 c q e p f g h i j l m n o u r [(bU c q e p f g h i j l m n o u r),(bH e p f g h i j l m n o)])))) (cond (((-1):Int)==(N8 d)) (w 0 d x (hK a) (hN a) (hV a) (hA a 0) (hA a 1) (hA a 2) (hA a 3) (hA a 4) (hA a 5) (hA a 6) (hA a 7) (-1) y [(bU d x (hK a) (hN a) (hV a) (hA a 0) (hA a 1) (hA a 2) (hA a 3) (hA a 4) (hA a 5) (hA a 6) (hA a 7) (-1) y),(bH (hK a) (hN a) (hV a) (hA a 0) (hA a 1) (hA a 2) (hA a 3) (hA a 4) (hA a 5) (hA a 6) (hA a 7))]) (w 0 d x (hK a) (hN a) (hV a) (hA a 0) (hA a 1) (hA a 2) (hA a 3) (hA a 4) (hA a 5) (hA a 6) (hA a 7) (-1) y [(bU d x (hK a) (hN a) (hV a) (hA a 0) (hA a 1) (hA a 2) (hA a 3) (hA a 4) (hA a 5) (hA a 6) (hA a 7) (-1) y),(bH (hK a) (hN a) (hV a) (hA a 0) (hA a 1) (hA a 2) (hA a 3) (hA a 4) (hA a 5) (hA a 6) (hA a 7))])))) none) none
abbrev Tj(b:Code):Prop:=∀(k:Out->St Z->Option R) name0 authority1 end2 b3 a s5,A9 (I9 L) Q Y b ⟨gp [(2,.ptr 0 0 0),(2,pS name0),(3,pS authority1),(0,.ptr 1 0 0),(1,pI end2),(114,pB b3)] 59,[bU0,(bU name0 a 0 [] 0 0 0 0 0 0 0 0 0 (-1) s5)],s⟩ k=Q8 L name0 authority1 end2 a s5 (λn0 p q j a l m n n8 o d e f g h i c=>k .ret ⟨gp [(2,.ptr 0 0 0),(0,pI n0)] 183,((bU p q j a l m n n8 o d e f g h i)::c),s⟩)
theorem CF:Tj (R:=R) L Q Y s (cd [1,1,1,1,1,1,1,1,1,1,1,1,1,1] K6):=by intro k c b e j h i;unfold Q8;exact(a8 (by kernel_rfl) (A0 (A4 λg=>(A0 (A4 λa=>(A0 rfl (A4 λf=>(A0 (A4 λd=>((CI L Q Y s (E3 4 (E2 (I9 L) Q Y (cd [1,1,1,1,1,1,1,1,1,1,1,1,1,1,1,1,1,0,1,0,1,1] K6) (E2 (I9 L) Q Y (cd [1,1,1,1,1,1,1,1,1,1,1,1,1,1,1,1,1,1] K6) k))) L c b 0 d h (hK a) (hN a) (hV a) (hA a 0) (hA a 1) (hA a 2) (hA a 3) (hA a 4) (hA a 5) (hA a 6) (hA a 7) i).trans (by kernel_rfl))) (A0 rfl rfl))))) rfl)) rfl))
noncomputable def Kc{R:Type}(L:Nat)(p c:By)(u:Int)(A B:By)(x:Int->By->By->Int->By->Int->Int->Int->Int->Int->Int->Int->Int->Int->Int->By->(List Blk)->Option R):Option R:=cond (I2 0 u c.length) (vl (cut c 0 u) λv=>cond (A3 v.length) (vl (C7 v) λa=>cond ((↑(a).2:Int)!=0) (x (↑(a).2:Int) e0 e0 0 e0 0 0 0 0 0 0 0 0 0 0 e0 [(bU p A 0 [] 0 0 0 0 0 0 0 0 0 (-1) B),(bH (hK a) (hN a) (hV a) (hA a 0) (hA a 1) (hA a 2) (hA a 3) (hA a 4) (hA a 5) (hA a 6) (hA a 7))]) (vl (A1 (u+1)) λy=>cond (ltI y (c.length:Int)) (vl (A1 (u+1)) λz=>Dw L L p c 0 z A (hK a) (hN a) (hV a) (hA a 0) (hA a 1) (hA a 2) (hA a 3) (hA a 4) (hA a 5) (hA a 6) (hA a 7) B (λw=>x 16 e0 e0 0 e0 0 0 0 0 0 0 0 0 0 0 e0 w) (λb t q d o e f g h i j l m n r=>cond (ltI 65535 t) (x 16 e0 e0 0 e0 0 0 0 0 0 0 0 0 0 0 e0 [(bU b q d o e f g h i j l m n (-1) r),(bH d o e f g h i j l m n)]) (cond (t==(N8 b)) (x 0 b q d o e f g h i j l m n (-1) r [(bU b q d o e f g h i j l m n (-1) r),(bH d o e f g h i j l m n)]) (x 0 b q d o e f g h i j l m n t r [(bU b q d o e f g h i j l m n t r),(bH d o e f g h i j l m n)])))) (cond (((-1):Int)==(N8 p)) (x 0 p A (hK a) (hN a) (hV a) (hA a 0) (hA a 1) (hA a 2) (hA a 3) (hA a 4) (hA a 5) (hA a 6) (hA a 7) (-1) B [(bU p A (hK a) (hN a) (hV a) (hA a 0) (hA a 1) (hA a 2) (hA a 3) (hA a 4) (hA a 5) (hA a 6) (hA a 7) (-1) B),(bH (hK a) (hN a) (hV a) (hA a 0) (hA a 1) (hA a 2) (hA a 3) (hA a 4) (hA a 5) (hA a 6) (hA a 7))]) (x 0 p A (hK a) (hN a) (hV a) (hA a 0) (hA a 1) (hA a 2) (hA a 3) (hA a 4) (hA a 5) (hA a 6) (hA a 7) (-1) B [(bU p A (hK a) (hN a) (hV a) (hA a 0) (hA a 1) (hA a 2) (hA a 3) (hA a 4) (hA a 5) (hA a 6) (hA a 7) (-1) B),(bH (hK a) (hN a) (hV a) (hA a 0) (hA a 1) (hA a 2) (hA a 3) (hA a 4) (hA a 5) (hA a 6) (hA a 7))])))) none) none
abbrev Tk(b:Code):Prop:=∀(k:Out->St Z->Option R) name0 authority1 end2 b3 a s5,A9 (I9 L) Q Y b ⟨gp [(2,.ptr 0 0 0),(2,pS name0),(3,pS authority1),(0,.ptr 1 0 0),(1,pI end2),(95,pB b3)] 78,[bU0,(bU name0 a 0 [] 0 0 0 0 0 0 0 0 0 (-1) s5)],s⟩ k=Kc L name0 authority1 end2 a s5 (λn0 p q j a l m n n8 o d e f g h i c=>k .ret ⟨gp [(2,.ptr 0 0 0),(0,pI n0)] 183,((bU p q j a l m n n8 o d e f g h i)::c),s⟩)
theorem CG:Tk (R:=R) L Q Y s (cd [1,1,1,1,1,1,1,1,1,1,1,1,1,1] K6):=by intro k d b f j h i;unfold Kc;exact(a8 (by kernel_rfl) (A0 (A4 λg=>(A0 (A4 λa=>(A0 rfl (A4 λe=>(A0 (A4 λc=>((CI L Q Y s (E3 4 (E2 (I9 L) Q Y (cd [1,1,1,1,1,1,1,1,1,1,1,1,1,1,1,1,1,0,1,0,1,1] K6) (E2 (I9 L) Q Y (cd [1,1,1,1,1,1,1,1,1,1,1,1,1,1,1,1,1,1] K6) k))) L d b 0 c h (hK a) (hN a) (hV a) (hA a 0) (hA a 1) (hA a 2) (hA a 3) (hA a 4) (hA a 5) (hA a 6) (hA a 7) i).trans (by kernel_rfl))) (A0 rfl rfl))))) rfl)) rfl))
noncomputable def Gx{R:Type}(L:Nat)(v b O:By)(A:Int->By->By->Int->By->Int->Int->Int->Int->Int->Int->Int->Int->Int->Int->By->(List Blk)->Option R):Option R:=vl (A1 ((b.length:Int)-1)) λC=>X2 L L v b C O (λg a r t=>cond (A3 a.length) (vl (↑(P9 a ([58]:List UInt8)):Int) λq=>cond (not (a==e0)) (cond (inR 0 a.length) (vl (bAt a (0:Int)) λD=>Bv g a q (D==91) r t (λB=>A 4 e0 e0 0 e0 0 0 0 0 0 0 0 0 0 0 e0 B) (λm e o M F G=>Q8 L m e o F G A) (λn f p N H I=>Kc L n f p H I A)) none) (Bv g a q false r t (λu=>A 4 e0 e0 0 e0 0 0 0 0 0 0 0 0 0 0 e0 u) (λh c j J w x=>Q8 L h c j w x A) (λi d l K y z=>Kc L i d l y z A))) none)
abbrev Tl(b:Code):Prop:=∀(k:Out->St Z->Option R) name0 authority1 a,A9 (I9 L) Q Y b ⟨gp [(2,.ptr 0 0 0),(2,pS name0),(3,pS authority1),(0,.ptr 1 0 0)] 176,[bU0,(bU name0 [] 0 [] 0 0 0 0 0 0 0 0 0 (-1) a)],s⟩ k=Gx L name0 authority1 a (λn0 p a j q l m n n8 o d e f g h i c=>k .ret ⟨gp [(2,.ptr 0 0 0),(0,pI n0)] 183,((bU p a j q l m n n8 o d e f g h i)::c),s⟩)
theorem Ae0(b:Code)(d:Ti (R:=R) L Q Y s b)(a:Code)(e:Tj (R:=R) L Q Y s a)(f:Tk (R:=R) L Q Y s a):Tl (R:=R) L Q Y s (cd [1,1,1,1,1,1,1,1,1,1,1] (G5 [1,1,1,1,1,1,1,1,1,1,1,1,1,1] a (G5 [1,1,1,1,1,1,1,1,1,1,1,1,1,0,1] b K6))):=by intro k B l T;unfold Gx;exact let S:=(E2 (I9 L) Q Y a k);(a8 (by kernel_rfl) (A4 λJ=>((CH L Q Y s (E3 2 (E2 (I9 L) Q Y (cd [1,1,1,1,1,1,1,1,1,1,1,1] (G5 [1,1,1,1,1,1,1,1,1,1,1,1,1,1] a (G5 [1,1,1,1,1,1,1,1,1,1,1,1,1,0,1] b K6))) k)) L B l J T).trans (congr rfl (fx4 λm c x y=>(a8 (by kernel_rfl) (A0 (A4 λw=>(A0 (A0 (A4 λK=>((d S m c w (K==91) x y).trans (congr (congr (congr rfl (by kernel_rfl)) (fx6 λr i u H M N=>(a8 (by kernel_rfl) ((e k r i u H M N).trans (by kernel_rfl))))) (fx6 λt j v I O P=>(a8 (by kernel_rfl) ((f k t j v I O P).trans (by kernel_rfl))))))) rfl) ((d S m c w false x y).trans (congr (congr (congr rfl (by kernel_rfl)) (fx6 λn g p z C D=>(a8 (by kernel_rfl) ((e k n g p z C D).trans (by kernel_rfl))))) (fx6 λo h q A F G=>(a8 (by kernel_rfl) ((f k o h q A F G).trans (by kernel_rfl)))))))) rfl)))))))
theorem Ae1:Tl (R:=R) L Q Y s (cd [1,1,1,1,1,1,1,1,1,1,1] K6):=by intro k b a c;exact a8 (by kernel_rfl) (Ae0 L Q Y s (cd [1,1,1,1,1,1,1,1,1,1,1,1,1,0,1] K6) (CE L Q Y s) (cd [1,1,1,1,1,1,1,1,1,1,1,1,1,1] K6) (CF L Q Y s) (CG L Q Y s) k b a c)
noncomputable def JP{R:Type}(L:Nat)(y z b:By)(J:Int->By->By->Int->By->Int->Int->Int->Int->Int->Int->Int->Int->Int->Int->By->(List Blk)->Option R):Option R:=vl (A1 ((b.length:Int)-1)) λw=>X2 L L y b w z (λg a r t=>cond (A3 a.length) (vl (↑(P9 a ([58]:List UInt8)):Int) λq=>cond (not (a==e0)) (cond (inR 0 a.length) (vl (bAt a (0:Int)) λx=>Bv g a q (x==91) r t (λu=>J 4 e0 e0 0 e0 0 0 0 0 0 0 0 0 0 0 e0 u) (λh c m K A B=>Q8 L h c m A B J) (λi d n M C D=>Kc L i d n C D J)) none) (Bv g a q false r t (λv=>J 4 e0 e0 0 e0 0 0 0 0 0 0 0 0 0 0 e0 v) (λj e o N F G=>Q8 L j e o F G J) (λl f p O H I=>Kc L l f p H I J))) none)
abbrev Tm(b:Code):Prop:=∀(k:Out->St Z->Option R) name0 rest1 authority2 b3,A9 (I9 L) Q Y b ⟨gp [(2,.ptr 0 0 0),(2,pS name0),(0,pS rest1),(2,pS authority2),(0,.ptr 1 0 0),(66,pB b3)] 109,[bU0,(bU name0 [] 0 [] 0 0 0 0 0 0 0 0 0 (-1) rest1)],s⟩ k=JP L name0 rest1 authority2 (λn0 o p i q j l m n8 n c d e f g h a=>k .ret ⟨gp [(2,.ptr 0 0 0),(0,pI n0)] 183,((bU o p i q j l m n8 n c d e f g h)::a),s⟩)
theorem Ae3(b:Code)(d:Ti (R:=R) L Q Y s b)(a:Code)(e:Tj (R:=R) L Q Y s a)(f:Tk (R:=R) L Q Y s a):Tm (R:=R) L Q Y s (cd [1,1,1,1,1,1,1,1,1,1,1] (G5 [1,1,1,1,1,1,1,1,1,1,1,1,1,1] a (G5 [1,1,1,1,1,1,1,1,1,1,1,1,1,0,1] b K6))):=by intro k G H m U;unfold JP;exact let T:=(E2 (I9 L) Q Y a k);(a8 (by kernel_rfl) (A4 λD=>((CH L Q Y s (E3 2 (E2 (I9 L) Q Y (cd [1,1,1,1,1,1,1,1,1,1,1,1] (G5 [1,1,1,1,1,1,1,1,1,1,1,1,1,1] a (G5 [1,1,1,1,1,1,1,1,1,1,1,1,1,0,1] b K6))) k)) L G m D H).trans (congr rfl (fx4 λl c x y=>(a8 (by kernel_rfl) (A0 (A4 λw=>(A0 (A0 (A4 λF=>((d T l c w (F==91) x y).trans (congr (congr (congr rfl (by kernel_rfl)) (fx6 λn g r z I J=>(a8 (by kernel_rfl) ((e k n g r z I J).trans (by kernel_rfl))))) (fx6 λo h t A K M=>(a8 (by kernel_rfl) ((f k o h t A K M).trans (by kernel_rfl))))))) rfl) ((d T l c w false x y).trans (congr (congr (congr rfl (by kernel_rfl)) (fx6 λp i u B N O=>(a8 (by kernel_rfl) ((e k p i u B N O).trans (by kernel_rfl))))) (fx6 λq j v C P S=>(a8 (by kernel_rfl) ((f k q j v C P S).trans (by kernel_rfl)))))))) rfl)))))))
theorem Ae4:Tm (R:=R) L Q Y s (cd [1,1,1,1,1,1,1,1,1,1,1] K6):=by intro k b c a d;exact a8 (by kernel_rfl) (Ae3 L Q Y s (cd [1,1,1,1,1,1,1,1,1,1,1,1,1,0,1] K6) (CE L Q Y s) (cd [1,1,1,1,1,1,1,1,1,1,1,1,1,1] K6) (CF L Q Y s) (CG L Q Y s) k b c a d)
noncomputable def Ox{R:Type}(L:Nat)(s0:By)(k0:By->By->Int->By->Int->Int->Int->Int->Int->Int->Int->Int->Int->Int->By->Int->(List Blk)->Option R):Option R:=Dv L L s0 0 (λb4=>k0 e0 e0 0 e0 0 0 0 0 0 0 0 0 0 0 e0 4 (bU0::b4)) (λa=>cond (A3 a.length) (cond (not (((Cy a)).2).2) (k0 e0 e0 0 e0 0 0 0 0 0 0 0 0 0 0 e0 15 [bU0]) (cond (not (J3 ((Cy a)).1)) (k0 ((Cy a)).1 e0 0 e0 0 0 0 0 0 0 0 0 0 (-1) (((Cy a)).2).1 0 [(bU (((Cy a)).1) e0 (0:Int) e0 (0:Int) (0:Int) (0:Int) (0:Int) (0:Int) (0:Int) (0:Int) (0:Int) (0:Int) ((-1):Int) ((((Cy a)).2).1))]) (cond (ltI (↑(j2 (((Cy a)).2).1):Int) (2:Int)) (k0 e0 e0 0 e0 0 0 0 0 0 0 0 0 0 0 e0 4 [bU0]) (cond (I2 0 (2:Int) (j2 (((Cy a)).2).1)) (vl (cut (((Cy a)).2).1 (0:Int) (2:Int)) λb5=>cond (not (b5==[47,47])) (k0 e0 e0 0 e0 0 0 0 0 0 0 0 0 0 0 e0 4 [bU0]) (cond (I2 2 (↑(j2 (((Cy a)).2).1):Int) (j2 (((Cy a)).2).1)) (vl (cut (((Cy a)).2).1 (2:Int) (↑(j2 (((Cy a)).2).1):Int)) λb=>cond (A3 b.length) (vl (↑(P9 b ([47,63,35]:List UInt8)):Int) λd=>cond (I2 0 d b.length) (cond (I2 d (b.length:Int) b.length) (vl (cut b d (b.length:Int)) λc=>cond (c==e0) (cond (E5 1 c.length) (vl (([47]:List UInt8)++c) λb2=>Gx L ((Cy a)).1 (cut b 0 d) b2 (λa9 P S e T f g h i j l m n o p U a5=>k0 P S e T f g h i j l m n o p U a9 ((bU P S e T f g h i j l m n o p U)::a5))) none) (cond (inR 0 c.length) (cond ((bAt c (0:Int))!=47) (cond (E5 1 c.length) (vl (([47]:List UInt8)++c) λb3=>Gx L ((Cy a)).1 (cut b 0 d) b3 (λb0 V W q X r t u v w x y z A B a0 a6=>k0 V W q X r t u v w x y z A B a0 b0 ((bU V W q X r t u v w x y z A B a0)::a6))) none) (JP L ((Cy a)).1 c (cut b 0 d) (λb1 a1 a2 C a3 D F G H I J K M N O a4 a7=>k0 a1 a2 C a3 D F G H I J K M N O a4 b1 ((bU a1 a2 C a3 D F G H I J K M N O a4)::a7)))) none)) none) none) none) none)) none)))) none)
theorem Cf0(a:Code)(b:Tl (R:=PV × List Blk × Z) L Q Y s a)(c:Tm (R:=PV × List Blk × Z) L Q Y s a)(t:By):A9 (I9 L) Q Y (cd [] (G5 [1,1,1,1,1,1,1,1,1,1,1] a K6)) ⟨[pS t]++tps 186,[],s⟩ (F5 (I9 L) ae4)=Ox L t (λu v w x y z A B r8 C m n o p q r l=>some (.tup [(gU u v w x y z A B r8 C m n o p q),pI r],l,s)):=by unfold Ox;exact let j:=(F5 (I9 L) ae4);(a8 (by kernel_rfl) ((Ae5 L Q Y s (E3 0 (E2 (I9 L) Q Y (cd [1,1] (G5 [1,1,1,1,1,1,1,1,1,1,1] a K6)) j)) L t 0).trans (congr (congr rfl (by kernel_rfl)) (fx1 λe=>(a8 (by kernel_rfl) (A0 (A0 rfl (A0 rfl (A0 rfl (A0 (A4 λD=>(A0 rfl (A0 (A4 λf=>(A0 (A4 λd=>(A0 (A0 (A4 λi=>(A0 (A0 (A4 λg=>((b j ((Cy e)).1 (cut f 0 d) g).trans (by kernel_rfl))) rfl) (A0 (A0 (A0 (A4 λh=>((b j ((Cy e)).1 (cut f 0 d) h).trans (by kernel_rfl))) rfl) ((c j ((Cy e)).1 i (cut f 0 d) ((bAt i (0:Int))!=47)).trans (by kernel_rfl))) rfl))) rfl) rfl)) rfl)) rfl))) rfl)))) rfl))))))
theorem Cf1(d:Nat)(s0):evC (I9 L) (d+1) Z Y 41 [pS s0] [] s=Ox L s0 (λi j l m n o p q r8 r b c e f g h a=>some (.tup [(gU i j l m n o p q r8 r b c e f g),pI h],a,s)):=
 (evE (fn:=ae4) (by kernel_rfl)).trans (a8 (by kernel_rfl) (Cf0 L (evC (I9 L) d) Y s (cd [1,1,1,1,1,1,1,1,1,1,1] K6) (Ae1 L (evC (I9 L) d) Y s) (Ae4 L (evC (I9 L) d) Y s) s0))
noncomputable def GY(L:Nat):Cfg:=B4 L [43] (A2 []) [(23,Np),(52,Bc0),(53,EG)] (A2 [(11,[2]),(8,[1,1]),(10,[1,1]),(9,[1,1,37]),(7,[1,1,28]),(6,[1,1]),(5,[1,1]),(4,[1,1,15]),(3,[1,1]),(2,[2]),(1,[1,5]),(0,[1])]) [23,52,53] (A2 []) (some [2]) [] [] []
noncomputable def Tt{R:Type}(L:Nat)(j t:By)(u:Int)(m:By)(n o p q u8 r e f g c:Int)(a:By)(z:By->(List Blk)->Option R):Option R:=cond (not (J3 j)) (cond (E5 j.length 1) (vl (j++[58]) λA=>cond (E5 A.length a.length) (z (A++a) [(bU j t u m n o p q u8 r e f g c a)]) none) none) (cond (E5 j.length 3) (vl (j++[58,47,47]) λb=>cond (not (t==e0)) (cond (E5 t.length 1) (vl (t++[64]) λh=>cond (E5 b.length h.length) (cond (A3 m.length) (cond (ltN n 4294967296) (cond (ok8 o p q u8 r e f g) (vl (Iv (mkH u m n (n8 o p q u8 r e f g))) λi=>cond (E5 (j2 (b++h)) i.length) (cond (not (ltI c 0)) (cond (ltN c 9223372036854775808) (vl (ae7 (b9 c)) λD=>cond (E5 1 D.length) (vl (([58]:List UInt8)++D) λF=>cond (E5 (j2 ((b++h)++i)) F.length) (vl (((b++h)++i)++F) λv=>cond (E5 v.length a.length) (z (v++a) [(bU j t u m n o p q u8 r e f g c a)]) none) none) none) none) (cond (ltI c ((-1):Int)) (cond (E5 (j2 ((b++h)++i)) 2) (vl (((b++h)++i)++[58,120]) λw=>cond (E5 w.length a.length) (z (w++a) [(bU j t u m n o p q u8 r e f g c a)]) none) none) (cond (E5 (j2 ((b++h)++i)) a.length) (vl (((b++h)++i)++a) λB=>z B [(bU j t u m n o p q u8 r e f g c a)]) none))) none) none) none) none) none) none) (cond (A3 m.length) (cond (ltN n 4294967296) (cond (ok8 o p q u8 r e f g) (vl (Iv (mkH u m n (n8 o p q u8 r e f g))) λd=>cond (E5 b.length d.length) (cond (not (ltI c 0)) (cond (ltN c 9223372036854775808) (vl (ae7 (b9 c)) λx=>cond (E5 1 x.length) (vl (([58]:List UInt8)++x) λl=>cond (E5 (j2 (b++d)) l.length) (cond (E5 (j2 ((b++d)++l)) a.length) (vl (((b++d)++l)++a) λC=>z C [(bU j t u m n o p q u8 r e f g c a)]) none) none) none) none) (cond (ltI c ((-1):Int)) (cond (E5 (j2 (b++d)) 2) (vl ((b++d)++[58,120]) λy=>cond (E5 y.length a.length) (z (y++a) [(bU j t u m n o p q u8 r e f g c a)]) none) none) (cond (E5 (j2 (b++d)) a.length) (z ((b++d)++a) [(bU j t u m n o p q u8 r e f g c a)]) none))) none) none) none) none)) none)
theorem Bv2(d:Nat)(u0 u1 u2 u3 u4 u5 u6 u7 u8 u9 u10 u11 u12 u13 u14):evC (GY L) (d+1) Z Y 43 [(gU u0 u1 u2 u3 u4 u5 u6 u7 u8 u9 u10 u11 u12 u13 u14)] [] s=Tt L u0 u1 u2 u3 u4 u5 u6 u7 u8 u9 u10 u11 u12 u13 u14 (λb a=>some (pS b,a,s)):=by refine(evE (fn:=Tryz.f43) (by kernel_rfl)).trans ?_;generalize evC (GY L) d=Q;unfold Tt;kernel_rfl
noncomputable def Sn(L:Nat):Cfg:=B4 L [21] (A2 []) [(43,FS),(41,Bc7)] (A2 [(2,[2]),(1,[1,1,0]),(0,[1])]) [43] (A2 []) (some [2]) [] [] []
noncomputable def Wx{R:Type}(L:Nat)(h i:By)(q:Int)(j:By)(l m n o u8 p b c d e:Int)(f:By)(r:Bool->(List Blk)->Option R):Option R:=cond (smU h i j f) (cond (ltN l 4294967296) (cond (ok8 m n o u8 p b c d) (cond (An e) (vl (Ei (mkU h i q j l (n8 m n o u8 p b c d) e f)) λg=>cond (A3 g.length) (vl (C0 g) λa=>cond ((uE a)==0) (r (((uS a)==h)&&(((uU a)==i)&&(((uK a)==q)&&(((uN a)==j)&&(((uV a)==l)&&(((uA a 0)==m)&&(((uA a 1)==n)&&(((uA a 2)==o)&&(((uA a 3)==u8)&&(((uA a 4)==p)&&(((uA a 5)==b)&&(((uA a 6)==c)&&(((uA a 7)==d)&&(((uP a)==e)&&(((uR a)==f)&&true))))))))))))))) [(bU h i q j l m n o u8 p b c d e f),(bQ a)]) (r false [(bU h i q j l m n o u8 p b c d e f),(bQ a)])) none) none) none) none) none
theorem Ag1(d:Nat)(u0 u1 u2 u3 u4 u5 u6 u7 u8 u9 u10 u11 u12 u13 u14):evC (Sn L) (d+1) Z Y 21 [(gU u0 u1 u2 u3 u4 u5 u6 u7 u8 u9 u10 u11 u12 u13 u14)] [] s=Wx L u0 u1 u2 u3 u4 u5 u6 u7 u8 u9 u10 u11 u12 u13 u14 (λb a=>some (pB b,a,s)):=by refine(evE (fn:=Tryz.f21) (by kernel_rfl)).trans ?_;generalize evC (Sn L) d=Q;unfold Wx;kernel_rfl
noncomputable def TA(L:Nat):Cfg:=B4 L [20] (A2 []) [(21,Kp),(43,FS)] (A2 [(3,[2]),(2,[2]),(1,[1,3]),(0,[1])]) [21,43] (A2 []) (some [2]) [] [] []
noncomputable def Bi7{R:Type}(L:Nat)(f g:By)(o:Int)(h:By)(i j l m u8 n a b c d:Int)(e:By)(q:By->(List Blk)->Option R):Option R:=cond (smU f g h e) (cond (ltN i 4294967296) (cond (ok8 j l m u8 n a b c) (cond (An d) (cond (not (Z7 (mkU f g o h i (n8 j l m u8 n a b c) d e))) (q e0 [(bU f g o h i j l m u8 n a b c d e)]) (cond (smU f g h e) (cond (ltN i 4294967296) (cond (ok8 j l m u8 n a b c) (cond (An d) (vl (Ei (mkU f g o h i (n8 j l m u8 n a b c) d e)) λp=>q p [(bU f g o h i j l m u8 n a b c d e)]) none) none) none) none)) none) none) none) none
theorem Ce3(d:Nat)(u0 u1 u2 u3 u4 u5 u6 u7 u8 u9 u10 u11 u12 u13 u14):evC (TA L) (d+1) Z Y 20 [(gU u0 u1 u2 u3 u4 u5 u6 u7 u8 u9 u10 u11 u12 u13 u14)] [] s=Bi7 L u0 u1 u2 u3 u4 u5 u6 u7 u8 u9 u10 u11 u12 u13 u14 (λb a=>some (pS b,a,s)):=by refine(evE (fn:=Tryz.f20) (by kernel_rfl)).trans ?_;generalize evC (TA L) d=Q;unfold Bi7;kernel_rfl
noncomputable def TB(L:Nat):Cfg:=B4 L [25] (A2 []) [] (A2 [(1,[2]),(0,[1])]) [] (A2 []) (some [2]) [] [] []
noncomputable def Bi8{R:Type}(L:Nat)(f h:By)(i:Int)(j:By)(l m n o u8 p a b c d:Int)(e:By)(g:Bool->(List Blk)->Option R):Option R:=cond (f==[104,116,116,112]) (g true [(bU f h i j l m n o u8 p a b c d e)]) (g (f==[119,115]) [(bU f h i j l m n o u8 p a b c d e)])
theorem Ce8(d:Nat)(u0 u1 u2 u3 u4 u5 u6 u7 u8 u9 u10 u11 u12 u13 u14):evC (TB L) (d+1) Z Y 25 [(gU u0 u1 u2 u3 u4 u5 u6 u7 u8 u9 u10 u11 u12 u13 u14)] [] s=Bi8 L u0 u1 u2 u3 u4 u5 u6 u7 u8 u9 u10 u11 u12 u13 u14 (λb a=>some (pB b,a,s)):=by refine(evE (fn:=Tryz.f25) (by kernel_rfl)).trans ?_;generalize evC (TB L) d=Q;unfold Bi8;kernel_rfl
noncomputable def TC(L:Nat):Cfg:=B4 L [27] (A2 []) [(45,QS)] (A2 [(3,[2]),(2,[2]),(1,[1,3]),(0,[1])]) [45] (A2 []) (some [2]) [] [] []
noncomputable def Bi9{R:Type}(L:Nat)(f h:By)(i:Int)(j:By)(l m n o u8 p b c d a:Int)(e:By)(g:Int->(List Blk)->Option R):Option R:=cond (a !=((-1):Int)) (g a [(bU f h i j l m n o u8 p b c d a e)]) (g (N8 f) [(bU f h i j l m n o u8 p b c d a e)])
theorem Cf3(d:Nat)(u0 u1 u2 u3 u4 u5 u6 u7 u8 u9 u10 u11 u12 u13 u14):evC (TC L) (d+1) Z Y 27 [(gU u0 u1 u2 u3 u4 u5 u6 u7 u8 u9 u10 u11 u12 u13 u14)] [] s=Bi9 L u0 u1 u2 u3 u4 u5 u6 u7 u8 u9 u10 u11 u12 u13 u14 (λb a=>some (pI b,a,s)):=by refine(evE (fn:=Tryz.f27) (by kernel_rfl)).trans ?_;generalize evC (TC L) d=Q;unfold Bi9;kernel_rfl
end
theorem Ag0{R:Type}{e:Bool->Option R}(s:By):VR LF s e=e (J3 s):=by unfold VR J3 Hm bWs Ks RY;generalize (s==([104,116,116,112]:List UInt8))=a;generalize (s==([119,115]:List UInt8))=b;generalize (s==([104,116,116,112,115]:List UInt8))=c;generalize (s==([119,115,115]:List UInt8))=d;cases a<;>cases b<;>cases c<;>cases d<;>rfl
theorem A59{R:Type}{e:Int->Option R}(s:By):Bj0 LF s e=e (N8 s):=by unfold Bj0 N8 Hm bWs Ks RY;generalize (s==([104,116,116,112]:List UInt8))=a;generalize (s==([119,115]:List UInt8))=b;generalize (s==([104,116,116,112,115]:List UInt8))=c;generalize (s==([119,115,115]:List UInt8))=d;cases a<;>cases b<;>cases c<;>cases d<;>rfl
theorem Jy(a b:UInt8):((a.toNat:Int)==(b.toNat:Int))=(a==b):=by rw[aa0,beq_iff_eq,beq_iff_eq];exact⟨λh=>aa3.1 (by omega),λh=>by rw[h]⟩
theorem Ce7{R:Type}{a:Int->Option R}{b:By->By->Int->Option R}(s t:By)(i:Nat)(h:s.length<=1000000000)(k:t.length<=1000000000)(g:i<s.length):∀(r j n:Nat),j+r=t.length->r<n->
  Gt LF n s t (i:Int) (j:Int) a b=if (t.drop j).contains (s.getD i 0)=true then a (i:Int) else b s t (i:Int):=by
 intro r
 induction r with
 | zero=>
  intro j n d e;obtain⟨n,rfl⟩:∃m,n=m+1:=⟨n-1,by omega⟩
  rw[Gt];rw[A6,c9 (by omega)];rfl
 | succ r f=>
  intro j n d e;obtain⟨n,rfl⟩:∃m,n=m+1:=⟨n-1,by omega⟩
  have c:A1 ((j:Int)+1)=((j+1:Nat):Int):=by rw[A7];rfl
  rw[Gt];rw[A8,E6,E6,D0,D0,Jy,D2 t j (by omega),aa6,c];simp only[cond_true];rw[f (j+1) n (by omega) (by omega)];cases (s.getD i 0==t.getD j 0)<;>rfl
theorem Bu9{R:Type}{a:Int->Option R}{c:By->Option R}(s t:By)(j:s.length<=1000000000)(k:t.length<=1000000000):∀(r i n:Nat),i+r=s.length->r<n->
  Gu LF n s t (i:Int) a c=if P9 (s.drop i) t<r then a ((i+P9 (s.drop i) t:Nat):Int) else c s:=by
 have e:=C2;intro r
 induction r with
 | zero=>
  intro i n f g;obtain⟨n,rfl⟩:∃m,n=m+1:=⟨n-1,by omega⟩
  rw[Gu];rw[A6,F9];rfl
 | succ r l=>
  intro i n f g;obtain⟨n,rfl⟩:∃m,n=m+1:=⟨n-1,by omega⟩
  have d:A1 ((i:Int)+1)=((i+1:Nat):Int):=by rw[A7];rfl
  rw[Gu];rw[A8,cond_true];refine a8 (Ce7 s t i j k (by omega) t.length 0 LF (by omega) (by omega)) ?_;rw[j8,d,l (i+1) n (by omega) (by omega),D2 s i (by omega)];unfold P9;cases h:t.contains (s.getD i 0) with
  | true=>
   rw[if_pos rfl,v7,h];rfl
  | false=>
   rw[if_neg (by simp),v7,h];simp only[j0,if_true,j6,ab3];rw[show i+1+(ae1 (λb=>!t.contains b) (s.drop (i+1))).length=i+((ae1 (λb=>!t.contains b) (s.drop (i+1))).length+1) by omega]
theorem Ar7(s t:By):P9 s t<=s.length:=af1 (List.takeWhile_sublist _)
theorem A54{R:Type}{a:Int->Option R}(s t:By)(b:A3 s.length=true)(c:A3 t.length=true):Ce5 LF s t a=a (P9 s t:Int):=by
 have e:=L6 b;have f:=L6 c;have d:=C2;have g:=Ar7 s t;refine(Bu9 s t e f s.length 0 LF (by omega) (by omega)).trans ?_;rw[j8,Nat.zero_add];split
 ·rfl
 ·rw[show P9 s t=s.length by omega]
set_option maxHeartbeats 4000000 in theorem CM{R:Type}(s:By)(i:Nat)(b:UInt8)(f:By->Int->Option R)(g:Unit->Option R) :
  Af s (i:Int) (b.toNat:Int) (λs i _=>f s i) g=if O6 b=true\/(i≠0/\N5 b=true) then f s i else g ():=by
 have a:(b=43)=(b.toNat=43):=by rw[eq_iff_iff,<-aa3];rfl
 have d:(b=45)=(b.toNat=45):=by rw[eq_iff_iff,<-aa3];rfl
 have e:(b=46)=(b.toNat=46):=by rw[eq_iff_iff,<-aa3];rfl
 simp only[T2,Ig,a,d,e];unfold Af Ha Ww Kf Gz Ke Gy;generalize b.toNat=c;simp only[cond_eq_ite,ac9,Jv,beq_iff_eq,Bool.not_eq_false',Lm,beq_eq_false_iff_ne,j1,j0,aa5,Bool.true_eq_false,if_true,if_false,ne_eq]
 repeat' split
 all_goals first|rfl|(exfalso;omega)
theorem WK{c:UInt8}:∀{p:By},c∉p->p.takeWhile (λb=>b !=c)=p
 | [],_=>rfl
 | b::p,h=>by
  simp only[ac6,not_or] at h;rw[v7,if_pos (by simpa using af4 h.1),WK h.2]
theorem Ci1{c:UInt8}{p:By}(r:By)(h:c∉p):(p++c::r).takeWhile (λb=>b !=c)=p:=by
 rw[List.takeWhile_append_of_pos (λx a=>by
  rw[bne_iff_ne];intro e;subst e;exact h a),v7,if_neg (by simp),aa1]
theorem Dj2{c b:UInt8}(r:By)(h:b≠c):(b::r).takeWhile (λb=>b !=c)=b::r.takeWhile λb=>b !=c:=by rw[v7,if_pos (by simpa using h)]
theorem B50(b:UInt8):((b.toNat:Int)==58)=(b==58):=Jy b 58
theorem A57{R:Type}{c:By->By->Bool->Option R}(s:By)(q:s.length<=1000000000):∀(r i n:Nat),1<=i->i+r=s.length->r<n->
  N2 LF n s (i:Int) c (λ_=>c [] [] false)=if ((s.drop i).takeWhile λb=>b !=58).all N5=true/\((s.drop i).takeWhile λb=>b !=58).length<r then c (B6 (s.take (i+((s.drop i).takeWhile λb=>b !=58).length))) (s.drop (i+((s.drop i).takeWhile λb=>b !=58).length+1)) true else c [] [] false:=by
 intro r
 induction r with
 | zero=>
  intro i n k l o;obtain⟨n,rfl⟩:∃m,n=m+1:=⟨n-1,by omega⟩
  rw[N2];rw[A6,F9];rfl
 | succ r p=>
  intro i n k l o;obtain⟨n,rfl⟩:∃m,n=m+1:=⟨n-1,by omega⟩
  have g:A1 ((i:Int)+1)=((i+1:Nat):Int):=by rw[A7];rfl
  rw[N2];unfold Kd;rw[A8,E6,D0,D2 s i (by omega),B50,A8];simp only[cond_true,cond_false];by_cases a:s.getD i 0=58
  ·rw[a,show((58:UInt8)==58)=true from rfl,cond_true,show((58:UInt8)::s.drop (i+1)).takeWhile (λb=>b !=58)=[] from rfl,if_pos ⟨rfl,by simp⟩];simp only[vl];rw[H9,J8,b8,E0 (by rw[o0];omega),g,H9,P8,b8];rfl
  ·rw[show(s.getD i 0==58)=false by simpa using a,cond_false,Dj2 _ a];simp only[vl];refine(CM s i (s.getD i 0) (λf e=>N2 LF n f (A1 (e+1)) c λ_=>c [] [] false) (λ_=>c [] [] false)).trans ?_;rw[g,p (i+1) n (by omega) (by omega) (by omega),y9,j6];have j:(O6 (s.getD i 0)=true\/i≠0/\N5 (s.getD i 0)=true)↔N5 (s.getD i 0)=true:=by
    refine⟨λh=>?_,λh=>.inr ⟨by omega,h⟩⟩;rcases h with h|⟨_,h⟩
    ·rw[Ig];rw[T2] at h;exact h.elim .inl λh=>.inr (.inl h)
    ·exact h
   by_cases d:N5 (s.getD i 0)=true
   ·rw[if_pos (j.2 d)];simp only[d,w9,ab3];rw[show i+1+((s.drop (i+1)).takeWhile λb=>b !=58).length=i+(((s.drop (i+1)).takeWhile λb=>b !=58).length+1) by omega]
   ·rw[if_neg (λh=>d (j.1 h)),if_neg (λh=>d (by have:=h.1;rw[s8] at this;exact this.1))]
theorem A58{R:Type}{a:By->By->Bool->Option R}(s:By)(n:A3 s.length=true):Ae9 LF s a=a (Cy s).1 (Cy s).2.1 (Cy s).2.2:=by
 have u:=L6 n;have o:=C2;obtain⟨N,hN⟩:∃m,LF=m+1:=⟨LF-1,by omega⟩
 unfold Ae9;rw[show N2 LF LF = @N2 R LF (N+1) by rw[<-hN],N2];unfold Kd;cases s with
 | nil=>
  rfl
 | cons b r=>
  rw[j6] at u;rw[B5 (by simp only[j6];omega),J6 (by omega) (by simp),Z9,ac3,B50,A6];simp only[cond_true,cond_false,vl];have l:A1 (((0:Nat):Int)+1)=((1:Nat):Int):=rfl;have go:Af (b::r) ((0:Nat):Int) (b.toNat:Int) (λe d _=>N2 LF N e (A1 (d+1)) a λ_=>a [] [] false) (λ_=>a [] [] false)=if O6 b=true/\(r.takeWhile λb=>b !=58).all N5=true/\(r.takeWhile λb=>b !=58).length<r.length then a (B6 ((b::r).take (1+(r.takeWhile λb=>b !=58).length))) ((b::r).drop (1+(r.takeWhile λb=>b !=58).length+1)) true else a [] [] false:=by
   refine(CM (b::r) 0 b (λe d=>N2 LF N e (A1 (d+1)) a λ_=>a [] [] false) (λ_=>a [] [] false)).trans ?_;rw[l,A57 (b::r) (by simp;omega) r.length 1 N (by omega) (by simp;omega) (by omega)];by_cases j:O6 b=true
   ·rw[if_pos (.inl j)];simp only[j,true_and];rfl
   ·rw[if_neg (by simp[j]),if_neg (λh=>j h.1)]
  have k:∀c,(bif c then Af (b::r) 0 (b.toNat:Int) (λe d _=>N2 LF N e (A1 (d+1)) a λ_=>a [] [] false) (λ_=>a [] [] false) else Af (b::r) 0 (b.toNat:Int) (λe d _=>N2 LF N e (A1 (d+1)) a λ_=>a [] [] false) (λ_=>a [] [] false))=Af (b::r) ((0:Nat):Int) (b.toNat:Int) (λe d _=>N2 LF N e (A1 (d+1)) a λ_=>a [] [] false) (λ_=>a [] [] false):=λc=>by cases c<;>rfl
  refine(k _).trans (go.trans ?_);unfold Cy;rcases S9 58 r with f|⟨p,t,rfl,f⟩
  ·rw[WK f,F9];by_cases i:b=58
   ·subst i;rw[show ab0 (58::r) [58]=([],r,true) from Ab (p:=[]) (by simp)];rfl
   ·rw[Pu (by simp only[ac6,not_or];exact⟨af4 i,f⟩)];rfl
  ·rw[Ci1 t f];by_cases i:b=58
   ·subst i;rw[show ab0 (58::(p++58::t)) [58]=([],p++58::t,true) from Ab (p:=[]) (by simp),if_neg (λh=>by cases h.1)];rfl
   ·rw[show ab0 (b::(p++58::t)) [58]=(b::p,t,true) from Ab (p:=b::p) (by simp only[ac6,not_or];exact⟨af4 i,f⟩)];simp only[w9];have q:V8 (b::p)=(O6 b&&p.all N5):=rfl;rw[q];by_cases g:O6 b=true/\p.all N5=true
    ·rw[if_pos ⟨g.1,g.2,by simp⟩,g.1,g.2,show(b::(p++58::t))=(b::p)++58::t from rfl,show 1+p.length=(b::p).length by rw[j6];omega,ac1,show(b::p)++58::t=((b::p)++[58])++t by simp,ab7 (by simp)];rfl
    ·rw[if_neg (λh=>g ⟨h.1,h.2.1⟩),if_neg (by simpa using g)]
def LC:Int->By->Option Int
 | n,[]=>some n
 | n,b::r=>if 48<=b.toNat/\b.toNat<=57 then LC (min (n*10+((b.toNat-48:Nat):Int)) 1048576) r else none
theorem ZY:∀(l:By) (n v:Int),0<=v->v<=65536->n<=1048576->(v<65536->n=v)->(v=65536->65536<=n)->Iz v l=(LC n l).bind λm=>if 65535<m then none else some m
 | [],n,v,d,e,f,c,g=>by
  unfold Iz LC;rw[y7];by_cases h:v<65536
  ·rw[if_pos h,F9,c h]
  ·rw[if_neg h,R9]
 | b::r,n,v,d,e,f,c,g=>by
  unfold Iz LC;by_cases a:48<=b.toNat/\b.toNat<=57
  ·rw[if_pos a,if_pos a];exact ZY r _ _ (by omega) (by omega) (by omega) (by omega) (by omega)
  ·rw[if_neg a,if_neg a];rfl
theorem Av9(b:UInt8)(r:By):Iz (-1) (b::r)=Iz 0 (b::r):=rfl
theorem Ab3:∀(l:By) (n m:Int),0<=n->n<=1048576->LC n l=some m->0<=m/\m<=1048576
 | [],n,m,a,c,h=>by
  obtain rfl:n=m:=Option.some.inj h;exact⟨a,c⟩
 | b::r,n,m,a,c,h=>by
  unfold LC at h;split at h
  ·exact Ab3 r _ m (by omega) (by omega) h
  ·cases h
theorem Ae8{R:Type}(q u t:By)(d:Int)(e:By)(f g h j k l o p c:Int)(a:By)(L:a.length<=1000000000)(w:List Blk->Option R)(x:By->Int->By->Int->By->Int->Int->Int->Int->Int->Int->Int->Int->Int->By->Option R):∀(r i n:Nat) (v:Int),i+r=a.length->r<n->0<=v->v<=1048576->
  Dw LF n q a v (i:Int) u d e f g h j k l o p c t w x=match LC v (a.drop i) with
   | none=>w [bU q u d e f g h j k l o p c (-1) t,bH d e f g h j k l o p c]
   | some m=>x q m u d e f g h j k l o p c t:=by
 intro r
 induction r with
 | zero=>
  intro i n v I J D F;obtain⟨n,rfl⟩:∃m,n=m+1:=⟨n-1,by omega⟩
  rw[Dw];rw[A6,c9 (by omega)];rfl
 | succ r K=>
  intro i n v I J D F;obtain⟨n,rfl⟩:∃m,n=m+1:=⟨n-1,by omega⟩
  have y:A1 ((i:Int)+1)=((i+1:Nat):Int):=by rw[A7];rfl
  rw[Dw];rw[A8,E6,D0,D2 a i (by omega),y];have M:=(a.getD i 0).toNat_lt;generalize a.getD i 0=b at *;unfold LC;simp only[cond_true,vl];by_cases G:b.toNat<48
  ·rw[A8,cond_true,F9]
  ·rw[A6,cond_false];by_cases H:57<b.toNat
   ·rw[A8,cond_true,F9]
   ·rw[A6,cond_false,if_pos (show 48<=b.toNat/\b.toNat<=57 by omega)];have z:A1 (v*10)=v*10:=A7;have A:wu8 ((b.toNat:Int)-48)=((b.toNat-48:Nat):Int):=by rw[L4];omega
    have B:A1 ((b.toNat-48:Nat):Int)=((b.toNat-48:Nat):Int):=A7;have C:A1 (v*10+((b.toNat-48:Nat):Int))=v*10+((b.toNat-48:Nat):Int):=A7;rw[z,A,B,C,show(if (1048576:Int)<v*10+((b.toNat-48:Nat):Int) then (1048576:Int) else v*10+((b.toNat-48:Nat):Int))=min (v*10+((b.toNat-48:Nat):Int)) 1048576 by omega];exact K (i+1) n _ (by omega) (by omega) (by omega) (by omega)
abbrev KE(R:Type):=Int->By->By->Int->By->Int->Int->Int->Int->Int->Int->Int->Int->Int->Int->By->List Blk->Option R
abbrev ML{R:Type}(a:KE R)(q:X6 × Nat)(H:List Blk):Option R:=a (uE q) (uS q) (uU q) (uK q) (uN q) (uV q) (uA q 0) (uA q 1) (uA q 2) (uA q 3) (uA q 4) (uA q 5) (uA q 6) (uA q 7) (uP q) (uR q) H
theorem Ib(c l j a:By)(e:Nat)(q:a.length<=1000000000)(w:e<=a.length):∃H,∀(R:Type) (f:KE R),Q8 LF c a (e:Int) l j f=ML f (hpT (a.take e) (a.drop e) c l j) H:=by
 have p:=C2;have n:A1 ((e:Int)+1)=((e+1:Nat):Int):=by rw[A7];rfl
 have k:A3 (a.take e).length=true:=E0 (by rw[o0];omega);by_cases h:(C7 (a.take e)).2=0
 ·by_cases t:e+1<a.length
  ·have i:(a.drop e).drop 1=a.drop (e+1):=by rw[aa7]
   have r:=D2 a (e+1) t;have u:Iz (-1) (a.drop (e+1))=(LC 0 (a.drop (e+1))).bind λm=>if 65535<m then none else some m:=by
    rw[r,Av9];exact ZY _ 0 0 (by omega) (by omega) (by omega) (by omega) (by omega)
   have x:=@Ab3 (a.drop (e+1)) 0;generalize v:LC 0 (a.drop (e+1))=g at *;have o:g=none\/(∃m,g=some m/\65535<m)\/(∃m,g=some m/\¬ 65535<m/\m=N8 c)\/∃m,g=some m/\¬ 65535<m/\m≠N8 c:=by
    cases g with
    | none=>exact .inl rfl
    | some m=>
     by_cases b:65535<m
     ·exact .inr (.inl ⟨m,rfl,b⟩)
     ·by_cases d:m=N8 c
      ·exact .inr (.inr (.inl ⟨m,rfl,b,d⟩))
      ·exact .inr (.inr (.inr ⟨m,rfl,b,d⟩))
   rcases o with rfl|⟨m,rfl,b⟩|⟨m,rfl,b,d⟩|⟨m,rfl,b,d⟩
   all_goals
    apply s7;intro R f;unfold Q8 hpT;rw[H9,J8,b8,i,u];simp only[vl,cond_true,k,h,n];rw[A8,Ae8 c l j _ _ _ _ _ _ _ _ _ _ _ a q _ _ (a.length-(e+1)) (e+1) LF 0 (by omega) (by omega) (by omega) (by omega),v]
   ·rfl
   ·simp only[y7,if_pos b];rw[A8];rfl
   ·simp only[y7,if_neg b,if_pos d];rw[A6,show(m==N8 c)=true by simpa using d];rfl
   ·simp only[y7,if_neg b,if_neg d];rw[A6,show(m==N8 c)=false by simpa using d];rfl
  ·have i:(a.drop e).drop 1=[]:=by rw[aa7,c9 (by omega)]
   apply s7;intro R f;unfold Q8 hpT;rw[H9,J8,b8,i];simp only[vl,cond_true,k,h,n];rw[A6];simp only[Iz,show((-1:Int)<65536)=True by simp,if_true,ite_self,show((((0:Nat):Int)!=0))=false from rfl,cond_false,ne_eq,not_true_eq_false,if_false];cases (-1:Int)==N8 c<;>rfl
 ·apply s7;intro R f;unfold Q8 hpT;rw[H9,J8,b8];simp only[vl,cond_true,k];rw[show(((C7 (a.take e)).2:Int)!=0)=true by simpa using h,cond_true,if_pos h];rfl
theorem Cs1{c:UInt8}{a:By}(h:Gk c a=none):c∉a:=λd=>by
 rcases S9 c a with b|⟨p,r,rfl,b⟩
 ·exact b d
 ·rw[ZM r b] at h;cases h
theorem YX(c:UInt8)(a:By):P9 a [c]=match Gk c a with|some k=>k|none=>a.length:=by
 have e:P9 a [c]=(a.takeWhile λb=>b !=c).length:=by
  unfold P9
  congr 2
  funext b
  simp[aa6,bne];rfl
 rw[e];cases h:Gk c a with
 | none=>rw[WK (Cs1 h)]
 | some k=>
  obtain⟨p,r,rfl,d,rfl⟩:=Pz h;rw[Ci1 r d]
theorem JO(c f d a:By)(w:a.length<=1000000000):∃H,∀(R:Type) (g:KE R),(cond (not (a==([]:By)))
   (cond (inR (0:Int) (j2 a))
   (Bv c a (P9 a [58]:Int) (bAt a 0==(91:Int)) f d (λH=>ML g (Cc,4) H) (λo t n y u v=>Q8 LF o t n u v g) (λo t n y u v=>Q8 LF o t n u v g))
   none)
   (Bv c a (P9 a [58]:Int) false f d (λH=>ML g (Cc,4) H) (λo t n y u v=>Q8 LF o t n u v g) (λo t n y u v=>Q8 LF o t n u v g)))=ML g (T9 c f d a) H:=by
 cases a with
 | nil=>
  obtain⟨H,e⟩:=Ib c f d [] 0 w (ab1 _);exact⟨H,e⟩
 | cons b r=>
  have F:(((b.toNat:Int))==91)=(b==91):=Jy b 91;have z:(!((b::r)==([]:By)))=true:=rfl;have G:inR (0:Int) (b::r).length=true:=J6 (by omega) (by simp);have A:A3 (b::r).length=true:=E0 w;rw[Vo];unfold Jw Bv;simp only[z,G,A,cond_true,cond_false,vl,Z9,ac3,F,ae0,o8,YX];by_cases j:b=91
  ·rw[show(b==91)=true by simpa using j,if_pos j];simp only[cond_true];cases B:Gk 93 (b::r) with
   | none=>
    apply s7;intro R g;simp only;rw[A7,A8];rfl
   | some k=>
    obtain⟨_,K⟩:=TV B;have C:A1 ((k:Int)+1)=((k+1:Nat):Int):=by rw[A7];rfl
    simp only[C];rw[A6];simp only[cond_false];obtain⟨H,e⟩:=Ib c f d (b::r) (k+1) w (by omega);by_cases I:k+1<(b::r).length
    ·rw[A8,E6];simp only[cond_true,D0];have m:=D2 (b::r) (k+1) I;by_cases i:(b::r).getD (k+1) 0=58
     ·have l:hpC ((b::r).take (k+1)) ((b::r).drop (k+1)) c f d=hpT ((b::r).take (k+1)) ((b::r).drop (k+1)) c f d:=if_neg (λh=>h.2 (by rw[m,i];rfl));rw[l];refine⟨H,λR g=>a8 ?_ (e R g)⟩;rw[i];rfl
     ·have l:hpC ((b::r).take (k+1)) ((b::r).drop (k+1)) c f d=(Cc,4):=if_pos ⟨by rw[m];simp,by rw[m];simpa using i⟩;rw[l];apply s7;intro R g;rw[show((((b::r).getD (k+1) 0).toNat:Int)!=58)=true by rw[bne,B50];simpa using i];rfl
    ·have m:(b::r).drop (k+1)=[]:=c9 (by omega);rw[A6];have l:hpC ((b::r).take (k+1)) ((b::r).drop (k+1)) c f d=hpT ((b::r).take (k+1)) ((b::r).drop (k+1)) c f d:=if_neg (λh=>h.1 m);rw[l];exact⟨H,e⟩
  ·rw[show(b==91)=false by simpa using j,if_neg j];simp only[cond_false];cases B:Gk 58 (b::r) with
   | none=>
    obtain⟨H,e⟩:=Ib c f d (b::r) (b::r).length w (ab1 _);rw[List.take_length,List.drop_length] at e;exact⟨H,e⟩
   | some k=>
    obtain⟨p,q,x,J,D⟩:=Pz B;obtain⟨H,e⟩:=Ib c f d (b::r) k w (by rw[x,j4];omega);have m:(b::r).drop k=58::q:=by rw[x,<-D,List.drop_left]
    have l:hpC ((b::r).take k) ((b::r).drop k) c f d=hpT ((b::r).take k) ((b::r).drop k) c f d:=if_neg (λh=>h.2 (by rw[m];rfl));refine⟨H,λR g=>(e R g).trans ?_⟩;show _=ML g (hpC _ _ c f d) H;rw[l]
theorem Ae7{R:Type}{c:By->By->By->By->Option R}(d a f:By)(l:a.length<=1000000000)(b:(64:UInt8)∉a):∀(j n:Nat),j<=a.length->j<n->X2 LF n d a ((j:Int)-1) f c=c d a [] f:=by
 intro j
 induction j with
 | zero=>
  intro n g i;obtain⟨n,rfl⟩:∃m,n=m+1:=⟨n-1,by omega⟩
  rw[X2];rw[A8];rfl
 | succ j k=>
  intro n g i;obtain⟨n,rfl⟩:∃m,n=m+1:=⟨n-1,by omega⟩
  rw[X2];have h:a.getD j 0≠64:=λe=>b (by
   rw[<-e,j5,o6 (by omega)];exact x9 _)
  rw[show((j+1:Nat):Int)-1=(j:Int) by omega,A6,E6,D0,show(((a.getD j 0).toNat:Int)==64)=(a.getD j 0==64) from Jy _ 64,show(a.getD j 0==64)=false by simpa using h];simp only[j0,cond_true,cond_false];rw[C6 (n:=(j:Int)-1) (by omega) (by omega)];exact k n (by omega) (by omega)
theorem Ae6{R:Type}{b:By->By->By->By->Option R}(c p r d:By)(l:(p++64::r).length<=1000000000)(a:(64:UInt8)∉r):∀(k n:Nat),k<=r.length->p.length+k<n->X2 LF n c (p++64::r) ((p.length+k:Nat):Int) d b=b c r p d:=by
 have o:(p++64::r).length=p.length+r.length+1:=by rw[j4,j6];omega
 intro k
 induction k with
 | zero=>
  intro n g i;obtain⟨n,rfl⟩:∃m,n=m+1:=⟨n-1,by omega⟩
  have f:A1 ((p.length:Int)+1)=((p.length+1:Nat):Int):=by rw[A7];rfl
  rw[X2];rw[Nat.add_zero,A6,E6,D0,show(p++64::r).getD p.length 0=64 by simp[j5]];simp only[vl,cond_true,j0];rw[H9,J8,b8,ac1,f,H9,P8,b8,show p++64::r=(p++[64])++r by simp,ab7 (by simp)];rfl
 | succ k j=>
  intro n g i;obtain⟨n,rfl⟩:∃m,n=m+1:=⟨n-1,by omega⟩
  rw[X2];have h:(p++64::r).getD (p.length+(k+1)) 0≠64:=λe=>a (by
   rw[<-e,j5,List.getElem?_append_right (by omega),show p.length+(k+1)-p.length=k+1 by omega,List.getElem?_cons_succ,o6 (by omega)];exact x9 _)
  rw[A6,E6,D0,show((((p++64::r).getD (p.length+(k+1)) 0).toNat:Int)==64)=((p++64::r).getD (p.length+(k+1)) 0==64) from Jy _ 64,show((p++64::r).getD (p.length+(k+1)) 0==64)=false by simpa using h,show((p.length+(k+1):Nat):Int)-1=((p.length+k:Nat):Int) by omega];simp only[j0,cond_true,cond_false];rw[C6 (n:=((p.length+k:Nat):Int)) (by omega) (by omega)];exact j n (by omega) (by omega)
theorem Ae2(c d a:By)(f:a.length<=1000000000):∃H,∀(R:Type) (b:KE R),Gx LF c a d b=ML b (H4 c d a) H:=by
 have j:=C2;unfold H4;by_cases h:0<=K9 64 a
 ·obtain⟨p,r,rfl,g,k⟩:=IJ h;rw[if_pos h,k,b8,ac1,show p++64::r=(p++[64])++r by simp,ab7 (by simp),show(p++[64])++r=p++64::r by simp];have m:(p++64::r).length=p.length+r.length+1:=by rw[j4,j6];omega
  obtain⟨H,e⟩:=JO c p d r (by omega);refine⟨H,λR b=>a8 ?_ (e R b)⟩;unfold Gx;simp only[vl];rw[A7,show((p++64::r).length:Int)-1=((p.length+r.length:Nat):Int) by omega,Ae6 c p r d f g r.length LF (ab1 _) (by omega),M8];rfl
 ·rw[if_neg h];have i:(64:UInt8)∉a:=λl=>by
   obtain⟨p,r,rfl,g⟩:=AC l;rw[AB p g] at h;omega
  obtain⟨H,e⟩:=JO c [] d a f;refine⟨H,λR b=>a8 ?_ (e R b)⟩;unfold Gx;simp only[vl];rw[A7,Ae7 c a d f i a.length LF (ab1 _) (by omega),E0 f];rfl
theorem A56{R:Type}{a:List Blk->Option R}{b:By->Option R}(s:By)(g:s.length<=1000000000):∀(r i n:Nat),i+r=s.length->r<n->
  Dv LF n s (i:Int) a b=if (s.drop i).any ctl then a [] else b s:=by
 intro r
 induction r with
 | zero=>
  intro i n d e;obtain⟨n,rfl⟩:∃m,n=m+1:=⟨n-1,by omega⟩
  rw[Dv];rw[A6,c9 (by omega)];rfl
 | succ r f=>
  intro i n d e;obtain⟨n,rfl⟩:∃m,n=m+1:=⟨n-1,by omega⟩
  have c:A1 ((i:Int)+1)=((i+1:Nat):Int):=by rw[A7];rfl
  rw[Dv];rw[A8,E6,D0,D2 s i (by omega),c,ab2,Be4];simp only[cond_true];rw[f (i+1) n (by omega) (by omega)];cases ltI 32 ((s.getD i 0).toNat:Int) with
  | false=>rfl
  | true=>cases (((s.getD i 0).toNat:Int)==127)<;>rfl
theorem TQ(t:By):P9 t [47,63,35]=J5 t:=by
 unfold P9 J5
 congr 2
 funext b
 simp[V4,aa6,Bool.or_assoc];rfl
theorem Di5(r:By):([47,47]:By).isPrefixOf r=(r.take 2==[47,47]):=by rw[aa0,aa8,List.prefix_iff_eq_take,beq_iff_eq];exact eq_comm
theorem Bv0(s:By)(i:A3 s.length=true):∃H,∀(R:Type) (d:KU R),Ox LF s d=HF d (C0 s) H:=by
 have P:=L6 i;have M:=C2;have L:∀{R:Type} (d:List Blk->Option R) (y:By->Option R),Dv LF LF s 0 d y=if s.any ctl then d [] else y s:=λd y=>A56 s P s.length 0 LF (by omega) (by omega)
 unfold C0;by_cases g:s.any ctl=true
 ·rw[if_pos g];apply s7;intro R d;unfold Ox;rw[L,if_pos g];rfl
 rw[if_neg g];have x:(ab0 s [58]).2.1.length<=s.length:=by
  rcases S9 58 s with h|⟨p,r,rfl,h⟩
  ·rw[Pu h];exact ad7 _
  ·rw[Ab h,j4,j6];show r.length<=_;omega
 have a:Cy s=if (ab0 s [58]).2.2&&V8 (ab0 s [58]).1 then (B6 (ab0 s [58]).1,(ab0 s [58]).2.1,true) else ([],[],false):=rfl
 generalize ab0 s [58]=q at *;obtain⟨p,r,f⟩:=q;simp only at a x ⊢;cases v:(f&&V8 p) with
 | false=>
  rw[v] at a;rw[if_pos (by rw[<-ae9,v];rfl)];apply s7;intro R d;unfold Ox;rw[L,if_neg g,i,a];rfl
 | true=>
 rw[v] at a;rw[if_neg (by rw[<-ae9,v];simp)];simp only[if_true] at a;cases c:J3 (B6 p) with
 | false=>
  apply s7;intro R d;unfold Ox;rw[L,if_neg g,i,a];simp only[vl,cond_true,j1,cond_false];rw[c];rfl
 | true=>
 rw[if_neg (by simp)];by_cases U:r.length<2
 ·rw[if_pos (by rw[Di5];simp only[ac9,beq_eq_false_iff_ne];intro e;have:=congrArg j2 e;rw[o0] at this;simp at this;omega)];apply s7;intro R d;unfold Ox;rw[L,if_neg g,i,a];simp only[vl,cond_true,j1,cond_false];rw[c,A8];rfl
 have z:cut r (0:Int) (2:Int)=r.take 2:=J8 r 2;have K:cut r (2:Int) (r.length:Int)=r.drop 2:=P8 r 2;rw[Di5];cases Sw:(r.take 2==([47,47]:By)) with
 | false=>
  apply s7;intro R d;unfold Ox;rw[L,if_neg g,i,a];simp only[vl,cond_true,j1,cond_false];rw[c,A6,H9];simp only[vl,cond_true,j1,cond_false,z];rw[Sw];rfl
 | true=>
 rw[if_neg (by simp)];generalize S:r.drop 2=t at *;have lt:t.length<=r.length:=by rw[<-S,j7];omega
 have Q:=Xf t;obtain⟨H,e⟩:=Ae2 (B6 p) (V9 (t.drop (J5 t))) (t.take (J5 t)) (by rw[o0];omega);refine⟨(λq=>bU (uS q) (uU q) (uK q) (uN q) (uV q) (uA q 0) (uA q 1) (uA q 2) (uA q 3) (uA q 4) (uA q 5) (uA q 6) (uA q 7) (uP q) (uR q)::H) (H4 (B6 p) (V9 (t.drop (J5 t))) (t.take (J5 t))),λR d=>?_⟩;refine a8 ?_ (e R λn0 G I A J B C D n8 F j k l m n o w=>d G I A J B C D n8 F j k l m n o n0 (bU G I A J B C D n8 F j k l m n o::w));unfold Ox;rw[L,if_neg g,i,a];simp only[vl,cond_true,j1,cond_false];rw[c,A6,H9];simp only[vl,cond_true,j1,cond_false,z];rw[Sw,H9];simp only[vl,cond_true,j1,cond_false,K];rw[M8,TQ,H9,H9,J8,P8,b8];simp only[cond_true];have V:(t.drop (J5 t)).length<=t.length:=by rw[j7];omega
 generalize t.drop (J5 t)=X at *;generalize t.take (J5 t)=T at *;unfold V9;cases X with
 | nil=>rfl
 | cons b X=>
  have N:inR (0:Int) (b::X).length=true:=J6 (by omega) (by simp);have O:((((b::X).getD 0 0).toNat:Int)!=47)=(b !=47):=by rw[bne,bne];exact congrArg _ (Jy b 47)
  rw[show((b::X)==([]:By))=false from rfl,N,Z9,O];simp only[cond_true,cond_false,ae0,o8];by_cases u:b=47
  ·rw[show(b !=47)=false by simpa using u,if_pos u];rfl
  ·rw[show(b !=47)=true by simpa using u,if_neg u,G2 (by omega)];rfl
theorem Cf2(s:By)(a:A3 s.length=true):∃r H,Ox LF s rvU=rv r H/\r.stab [0,0] H=pvU (C0 s):=by obtain⟨H,e⟩:=Bv0 s a;exact⟨_,_,e _ _,rfl⟩
section
variable {Z R : Type} (L : Nat) (Q : F7) (Y : Yh Z) (s : Z) (k : Out -> St Z -> Option R)
noncomputable def GV(L:Nat):Cfg:=B4 L [148] (A2 []) [] (A2 [(1,[2]),(0,[0])]) [] (A2 []) (some [2]) [] [] []
noncomputable def VK{R:Type}(L:Nat)(n0:Int)(a:Bool->Option R):Option R:=cond (not (ltI n0 0)) (cond (not (ltI 1114111 n0)) (cond (ltI n0 55296) (a true) (a (ltI 57343 n0))) (a false)) (a false)
theorem Bu2(d:Nat)(n0):evC (GV L) (d+1) Z Y 148 [pI n0] [] s=VK L n0 (λa=>some (pB a,[],s)):=by refine(evE (fn:=Tryz.f148) (by kernel_rfl)).trans ?_;generalize evC (GV L) d=Q;unfold VK;kernel_rfl
noncomputable abbrev Nv:Code:=C4 ad5
noncomputable def W4(L:Nat):Cfg:=B4 L [151] (A2 [(6,[0,5,0])]) [] (A2 [(9,[6]),(8,[0,6]),(7,[0,6]),(6,[0,6,11]),(5,[0,6]),(4,[0]),(2,[0,0]),(3,[0,0]),(1,[0,0,6]),(0,[0,0,0])]) [] (A2 [(0,[0,6]),(1,[0,6])]) (some [6]) [] [] []
noncomputable def Fq{R:Type}(L n:Nat)(a b:Int)(e:Int->Int->Option R):Option R:=match n with|0=>none|n+1=>cond (ltI 455 a) (vl (A1 (p9 a (35:Int))) λc=>vl (A1 (b+36)) λd=>Fq L n c d e) (e a b)
theorem UZ(n a b):C5 0 ((W4 L).keep 6) (bd (W4 L) Q Y (cd [1,1,1,1,0,0,0] Nv)) n ⟨gp [(0,pI a),(6,pI b)] 23,[],s⟩ k =
 Fq L n a b (λa b=>k (.exit 0) ⟨gp [(0,pI a),(6,pI b)] 23,[],s⟩):=by
 induction n generalizing a b with
 | zero=>rfl
 | succ n c=>rw[Fq];simp only[<-c];kernel_rfl
noncomputable def Fp{R:Type}(L:Nat)(b h:Int)(i:Int->Option R):Option R:=cond (h !=0) (vl (A1 (p9 b h)) λg=>Fq L L (A1 (b+g)) 0 (λa d=>vl (A1 ((36:Int)*a)) λe=>vl (A1 (a+38)) λc=>cond (c !=0) (vl (A1 (p9 e c)) λf=>i (A1 (d+f))) none)) none
abbrev BZ(b:Code):Prop:=∀(k:Out->St Z->Option R) delta0 n1,A9 (W4 L) Q Y b ⟨gp [(0,pI delta0),(0,pI n1)] 29,[],s⟩ k=Fp L delta0 n1 (λn0=>k .ret ⟨gp [(6,pI n0)] 24,[],s⟩)
theorem UY:BZ (R:=R) L Q Y s (cd [1,1] Nv):=by intro k a c;unfold Fp;exact(a8 (by kernel_rfl) (A0 (A4 λb=>((UZ L Q Y s (E3 0 (E2 (W4 L) Q Y (cd [1,1,1,1,1] Nv) k)) L (A1 (a+b)) 0).trans (by kernel_rfl))) rfl))
noncomputable def JE{R:Type}(L:Nat)(a h:Int)(b:Bool)(g:Int->Option R):Option R:=cond b (vl (A1 (p9 a (700:Int))) λe=>Fp L e h (λc=>g c)) (vl (A1 (p9 a (2:Int))) λf=>Fp L f h (λd=>g d))
theorem Bs0(d:Code)(a:BZ (R:=PV × List Blk × Z) L Q Y s d)(b e:Int)(c:Bool):A9 (W4 L) Q Y (cd [] (G5 [1,1] d Nv)) ⟨[pI b,pI e,pB c]++tps 28,[],s⟩ (F5 (W4 L) ad5)=JE L b e c (λi=>some (pI i,[],s)):=by unfold JE;exact let h:=(F5 (W4 L) ad5);(a8 (by kernel_rfl) (A0 (A4 λf=>((a h f e).trans (by kernel_rfl))) (A4 λg=>((a h g e).trans (by kernel_rfl)))))
theorem Bs1(d:Nat)(delta0 n1 first2):evC (W4 L) (d+1) Z Y 151 [pI delta0,pI n1,pB first2] [] s=JE L delta0 n1 first2 (λa=>some (pI a,[],s)):=
 (evE (fn:=ad5) (by kernel_rfl)).trans (a8 (by kernel_rfl) (Bs0 L (evC (W4 L) d) Y s (cd [1,1] Nv) (UY L (evC (W4 L) d) Y s) delta0 n1 first2))
noncomputable def Ap1(L:Nat):Cfg:=B4 L [149] (A2 []) [] (A2 [(1,[4]),(0,[0,0])]) [] (A2 []) (some [4]) [] [] []
noncomputable def Cy1{R:Type}(L:Nat)(c a:Int)(e:Int->Option R):Option R:=vl (A1 ((36:Int)*(A1 (c+1)))) λb=>vl (if ((if ((A1 (b-a))<(26:Int)) then (A1 (b-a)) else (26:Int)) > (1:Int)) then (if ((A1 (b-a))<(26:Int)) then (A1 (b-a)) else (26:Int)) else (1:Int)) λd=>e d
theorem Cy2(d:Nat)(kk0 bias1):evC (Ap1 L) (d+1) Z Y 149 [pI kk0,pI bias1] [] s=Cy1 L kk0 bias1 (λa=>some (pI a,[],s)):=by refine(evE (fn:=Tryz.f149) (by kernel_rfl)).trans ?_;generalize evC (Ap1 L) d=Q;unfold Cy1;kernel_rfl
noncomputable def SW(L:Nat):Cfg:=B4 L [150] (A2 []) [] (A2 [(3,[2]),(2,[2]),(1,[0,3]),(0,[0])]) [] (A2 []) (some [2]) [] [] []
noncomputable def Bh8{R:Type}(L:Nat)(a:Int)(d:Int->Option R):Option R:=cond (ltI a 26) (vl (wu8 (A1 ((97:Int)+a))) λb=>d b) (vl (A1 ((A1 ((48:Int)+a))-26)) λc=>d (wu8 c))
theorem Cb5(d:Nat)(d0):evC (SW L) (d+1) Z Y 150 [pI d0] [] s=Bh8 L d0 (λa=>some (p8 a,[],s)):=by refine(evE (fn:=Tryz.f150) (by kernel_rfl)).trans ?_;generalize evC (SW L) d=Q;unfold Bh8;kernel_rfl
noncomputable abbrev Sc:Code:=C4 ad6
noncomputable def Iq(L:Nat):Cfg:=B4 L [176] (A2 []) [] (A2 [(7,[2]),(2,[2]),(4,[2]),(6,[2]),(5,[0,22]),(3,[0,12]),(1,[0,2]),(0,[0])]) [] (A2 [(0,[])]) (some [2]) [] [] []
noncomputable def Wy{R:Type}(a:Int)(g:Bool)(e:Int->Option R)(f:Int->Bool->Option R):Option R:=cond g (vl (A1 (wu8 (a-65))) λb=>e b) (cond (not (ltI a 48)) (cond (not (ltI 57 a)) (vl (A1 (wu8 (a-48))) λc=>vl (A1 (c+26)) λd=>e d) (f a (not (ltI 57 a)))) (f a false))
abbrev OF(b:Code):Prop:=∀(k:Out->St Z->Option R) a c,A9 (Iq L) Q Y b ⟨gp [(0,p8 a),(12,pB c)] 20,[],s⟩ k=Wy a c (λn0=>k .ret ⟨gp [(2,pI n0)] 31,[],s⟩) (λa c=>k .normal ⟨gp [(0,p8 a),(22,pB c)] 10,[],s⟩)
theorem A67:OF (R:=R) L Q Y s (cd [1,0,0,1,1,1] Sc):=by intro k a b;unfold Wy;kernel_rfl
noncomputable def Wz{R:Type}(a:Int)(l:Bool)(f:Int->Option R)(j:Int->Bool->Option R):Option R:=cond l (vl (A1 (wu8 (a-97))) λg=>f g) (cond (not (ltI a 65)) (Wy a (not (ltI 90 a)) (λh=>f h) (λb c=>j b c)) (Wy a false (λi=>f i) (λd e=>j d e)))
abbrev AN(b:Code):Prop:=∀(k:Out->St Z->Option R) a c,A9 (Iq L) Q Y b ⟨gp [(0,p8 a),(2,pB c)] 30,[],s⟩ k=Wz a c (λn0=>k .ret ⟨gp [(2,pI n0)] 31,[],s⟩) (λa c=>k .normal ⟨gp [(0,p8 a),(22,pB c)] 10,[],s⟩)
theorem A68(a:Code)(b:OF (R:=R) L Q Y s a):AN (R:=R) L Q Y s (cd [1,0,0,1] (G5 [1,0,0,1,1,1] a Sc)):=by intro k c d;unfold Wz;simp only[<-b k];kernel_rfl
theorem A69:AN (R:=R) L Q Y s (cd [1,0,0,1] Sc):=by intro k a b;exact a8 (by kernel_rfl) (A68 L Q Y s (cd [1,0,0,1,1,1] Sc) (A67 L Q Y s) k a b)
noncomputable def Cg2{R:Type}(L:Nat)(c:Int)(d:Int->Option R):Option R:=cond (not (ltI c 97)) (Wz c (not (ltI 122 c)) (λa=>d a) (λe f=>d (-1))) (Wz c false (λb=>d b) (λg h=>d (-1)))
theorem Cz2(b:Code)(a:AN (R:=PV × List Blk × Z) L Q Y s b)(c:Int):A9 (Iq L) Q Y (cd [] (G5 [1,0,0,1] b Sc)) ⟨[p8 c]++tps 33,[],s⟩ (F5 (Iq L) ad6)=Cg2 L c (λe=>some (pI e,[],s)):=by unfold Cg2;exact let d:=(E3 0 (E2 (Iq L) Q Y (cd [1,1] Sc) (F5 (Iq L) ad6)));(a8 (by kernel_rfl) (A0 ((a d c (not (ltI 122 c))).trans (by kernel_rfl)) ((a d c false).trans (by kernel_rfl))))
theorem Cz3(d:Nat)(b0):evC (Iq L) (d+1) Z Y 176 [p8 b0] [] s=Cg2 L b0 (λa=>some (pI a,[],s)):=
 (evE (fn:=ad6) (by kernel_rfl)).trans (a8 (by kernel_rfl) (Cz2 L (evC (Iq L) d) Y s (cd [1,0,0,1] Sc) (A69 L (evC (Iq L) d) Y s) b0))
noncomputable abbrev Bj:Code:=C4 ad4
noncomputable def L9(L:Nat):Cfg:=B4 L [120] (A2 [(32,[0,1,0,0,1,0,0,0,0,2,0,0]),(25,[0,1,0,0,1,0,0,0,0,2]),(18,[0,1,0,0,1,0,0,0,0,0,0]),(15,[0,1,0,0,1,0,0,0,0]),(5,[0,1,0,0,0])]) [(148,Ud),(149,Al9),(150,Bb6),(151,EW)] (A2 [(43,[2,0]),(42,[0,3,1,0,0,0,0]),(41,[0,3,1,0,0,0,0]),(26,[0,3,1,0,0,0,0,2]),(40,[0,3,1,0,0,0,0,2]),(39,[0,3,1,0,0,0,0,2]),(38,[0,3,1,0,0,1,2]),(37,[0,3,1,0,0,0,3]),(36,[0,3,1,0,0,0,0,2,0,0]),(35,[0,3,1,0,0,0,0,2,0,0]),(34,[0,3,1,0,0,0,0,2,0,0,0]),(33,[0,3,1,0,0,0,0,2,0,0,0]),(32,[0,3,1,0,0,0,0,2,0,0,94]),(31,[0,3,1,0,0,0,0,2,0,0]),(30,[0,3,1,0,0,0,0,2,0]),(29,[0,3,1,0,0,0,0,2,90]),(28,[0,3,1,0,0,0,0,2]),(27,[0,3,1,0,0,0,0,2,82]),(25,[0,3,1,0,0,0,0,2,74]),(24,[0,3,1,0,0,0,0,2]),(23,[0,3,1,0,0,0,0]),(22,[0,3,1,0,1,0,0]),(19,[0,3,1,0,0,0,0,0,0]),(21,[0,3,1,0,0,0,0,0,0]),(20,[0,3,1,0,0,0,0,0,0,56]),(18,[0,3,1,0,0,0,0,0,0,48]),(17,[0,3,1,0,0,0,0,0,0]),(16,[0,3,1,0,0,0,0,0]),(15,[0,3,1,0,0,0,0,46]),(14,[0,3,1,0,0,0,0]),(13,[0,3,1,0]),(12,[0,3,1,0,42]),(11,[0,3,1,0]),(6,[0,3,0]),(10,[0,3,0]),(9,[0,3,0,30]),(8,[2,0]),(7,[0,3,0,25]),(5,[0,3,0,17]),(4,[0,3,0]),(3,[0,3]),(2,[2,0]),(1,[0,18]),(0,[0])]) [148,149,150,151] (A2 [(2,[4]),(3,[0,3,1,0,0,0,0]),(6,[0,3,1,0,0,0,0]),(7,[0,3,1,0,0,0,0,2]),(8,[0,3,1,0,0,0,3,0]),(9,[0,3,1,0,0,0,0,2,0,0]),(4,[0,3,1,0,0,0,0,0]),(5,[0,3,1,0,0,0,0,0,0]),(0,[0,3]),(1,[0,3,0])]) (some [2,0]) [] [] []
noncomputable def T7{R:Type}(L n:Nat)(c b:Bool)(a:LL)(d:Int)(e:LL)(f:LL->Option R)(g:Bool->Bool->LL->LL->Option R):Option R:=match n with|0=>none|n+1=>cond (ltI d (a.length:Int)) (cond (inR d a.length) (cond (okE Kk a (b9 d) 0) (vl (gE a (b9 d) 0) λh=>cond (not (ptI h)) (f e) (cond (inR d a.length) (cond (okE Kk a (b9 d) 0) (vl (gE a (b9 d) 0) λi=>cond (ltI i 128) (cond (inR d a.length) (cond (okE Kk a (b9 d) 0) (vl (gE a (b9 d) 0) λj=>cond (F6 (e.length+1)) (T7 L n c b a (A1 (d+1)) (e++[[(SV.int .u8 (wu8 j))]]) f g) none) none) none) (T7 L n c b a (A1 (d+1)) e f g)) none) none)) none) none) (g c b a e)
theorem Az9(n b a c i3 l4):C5 1 ((L9 L).keep 5) (bd (L9 L) Q Y (cd [1,1,1,0,1,0,0] Bj)) n ⟨gp [(0,.s (.sl b a 1 c)),(3,.fl 0),(0,pI i3)] 148,[.arr true 5 1 l4],s⟩ k =
 T7 L n b a c i3 l4 (λe=>k .ret ⟨gp [(2,pS ([]:List UInt8)),(0,pI (2:Int))] 150,[.arr true 5 1 e],s⟩) (λb a c f=>k (.exit 0) ⟨gp [(0,.s (.sl b a 1 c)),(3,.fl 0)] 149,[.arr true 5 1 f],s⟩):=by
 induction n generalizing b a c i3 l4 with
 | zero=>rfl
 | succ n d=>rw[T7];simp only[<-d];kernel_rfl
noncomputable def Hz{R:Type}(L n:Nat)(c b:Bool)(a:LL)(h e o f g d i:Int)(l10:LL)(p:Bool->Bool->LL->Int->Int->Int->Int->Int->Int->LL->Option R):Option R:=match n with|0=>none|n+1=>cond (ltI i (a.length:Int)) (cond (inR i a.length) (cond (okE Kk a (b9 i) 0) (vl (gE a (b9 i) 0) λl=>cond (not (ltI l o)) (cond (inR i a.length) (cond (okE Kk a (b9 i) 0) (vl (gE a (b9 i) 0) λj=>vl (if (j<d) then j else d) λm=>Hz L n c b a h e o f g m (A1 (i+1)) l10 p) none) none) (Hz L n c b a h e o f g d (A1 (i+1)) l10 p)) none) none) (p c b a h e o f g d l10)
theorem A00(n b a c h d i e g f i9 l10):C5 1 ((L9 L).keep 18) (bd (L9 L) Q Y (cd [1,1,1,1,1,1,1,0,0,0,1,0,1,0,1,0,0] Bj)) n ⟨gp [(0,.s (.sl b a 1 c)),(3,.fl 0),(1,pI h),(0,pI d),(0,pI i),(0,pI e),(0,pI g),(0,pI f),(0,pI i9)] 141,[.arr true 5 1 l10],s⟩ k =
 Hz L n b a c h d i e g f i9 l10 (λb a c h d i e g f l=>k (.exit 4) ⟨gp [(0,.s (.sl b a 1 c)),(3,.fl 0),(1,pI h),(0,pI d),(0,pI i),(0,pI e),(0,pI g),(0,pI f)] 142,[.arr true 5 1 l],s⟩):=by
 induction n generalizing b a c h d i e g f i9 l10 with
 | zero=>rfl
 | succ n j=>rw[Hz];simp only[<-j];kernel_rfl
noncomputable def Ev{R:Type}(L n:Nat)(c b:Bool)(f:LL)(i g w h a i8 u e:Int)(o:LL)(v:Bool->Bool->LL->Int->Int->Int->Int->Int->Int->LL->Option R):Option R:=match n with|0=>none|n+1=>cond (ltN e 10000000000) (cond (ltN a 1000000) (vl (K4 (aa9 (36:Int) e) a) λp=>cond (not (ltI u p)) (cond (ltN e 10000000000) (cond (ltN a 1000000) (vl (K4 (aa9 (36:Int) e) a) λd=>vl (A1 ((36:Int)-d)) λj=>cond (j !=0) (vl (o9 (A1 (u-d)) j) λl=>cond (ltN (A1 (d+l)) 36) (vl (↑(ad8 (Ac (b9 (A1 (d+l))))):Int) λq=>cond (F6 (o.length+1)) (vl (A1 ((36:Int)-d)) λm=>cond (m !=0) (vl (A1 (p9 (A1 (u-d)) m)) λr=>vl (A1 (e+1)) λt=>Ev L n c b f i g w h a i8 r t (o++[[(SV.int .u8 q)]]) v) none) none) none) none) none) none) (v c b f i g w h i8 u o)) none) none
theorem JG(n b a c f d g e bias7 i8 q9 kk10 l11):C5 1 ((L9 L).keep 32) (bd (L9 L) Q Y (cd [1,1,1,1,1,1,1,0,0,0,1,0,1,1,1,1,0,1,0,0,1,0,0,1,1,1,1,0,0,0] Bj)) n ⟨gp [(0,.s (.sl b a 1 c)),(3,.fl 0),(1,pI f),(0,pI d),(0,pI g),(0,pI e),(0,pI bias7),(2,pI i8),(0,pI q9),(0,pI kk10)] 138,[.arr true 5 1 l11],s⟩ k =
 Ev L n b a c f d g e bias7 i8 q9 kk10 l11 (λb a c f d g e h l j=>k (.exit 8) ⟨gp [(0,.s (.sl b a 1 c)),(3,.fl 0),(1,pI f),(0,pI d),(0,pI g),(0,pI e),(3,pI h),(0,pI l)] 139,[.arr true 5 1 j],s⟩):=by
 induction n generalizing b a c f d g e bias7 i8 q9 kk10 l11 with
 | zero=>rfl
 | succ n i=>rw[Ev];simp only[<-i];kernel_rfl
noncomputable def Ak{R:Type}(L n:Nat)(c b:Bool)(a:LL)(i d B e f i8:Int)(I:LL)(H:Bool->Bool->LL->Int->Int->Int->Int->Int->LL->Option R):Option R:=match n with|0=>none|n+1=>cond (ltI i8 (a.length:Int)) (cond (inR i8 a.length) (cond (okE Kk a (b9 i8) 0) (vl (gE a (b9 i8) 0) λJ=>cond (ltI J B) (vl (A1 (e+1)) λw=>cond (inR i8 a.length) (cond (okE Kk a (b9 i8) 0) (vl (gE a (b9 i8) 0) λK=>cond (K !=B) (Ak L n c b a i d B w f (A1 (i8+1)) I H) (Ev L L c b a i d B w f i8 w 0 I (λr p u g j N m F C z=>cond (ltN C 36) (vl (↑(ad8 (Ac (b9 C))):Int) λO=>cond (F6 (z.length+1)) (vl (A1 (g+1)) λx=>cond (ltN m 1152921504606846976) (cond (ltN x 1000000) (cond (ltI 0 x) (vl (↑(P4 (b9 m) (b9 x) (g==j)):Int) λP=>vl (A1 (g+1)) λS=>vl (A1 (F+1)) λT=>Ak L n r p u S j N 0 P T (z++[[(SV.int .u8 O)]]) H) none) none) none) none) none))) none) none) (cond (inR i8 a.length) (cond (okE Kk a (b9 i8) 0) (vl (gE a (b9 i8) 0) λM=>cond (M !=B) (Ak L n c b a i d B e f (A1 (i8+1)) I H) (Ev L L c b a i d B e f i8 e 0 I (λt q v h l U o G D A=>cond (ltN D 36) (vl (↑(ad8 (Ac (b9 D))):Int) λV=>cond (F6 (A.length+1)) (vl (A1 (h+1)) λy=>cond (ltN o 1152921504606846976) (cond (ltN y 1000000) (cond (ltI 0 y) (vl (↑(P4 (b9 o) (b9 y) (h==l)):Int) λW=>vl (A1 (h+1)) λX=>vl (A1 (G+1)) λa0=>Ak L n t q v X l U 0 W a0 (A++[[(SV.int .u8 V)]]) H) none) none) none) none) none))) none) none)) none) none) (H c b a i d B e f I)
theorem A01(n b a c g d t e f i8 l9):C5 1 ((L9 L).keep 25) (bd (L9 L) Q Y (cd [1,1,1,1,1,1,1,0,0,0,1,0,1,1,1,1,0,1,0,0] Bj)) n ⟨gp [(0,.s (.sl b a 1 c)),(3,.fl 0),(1,pI g),(0,pI d),(0,pI t),(0,pI e),(0,pI f),(2,pI i8)] 140,[.arr true 5 1 l9],s⟩ k =
 Ak L n b a c g d t e f i8 l9 (λb a c g d t e f l8=>k (.exit 6) ⟨gp [(0,.s (.sl b a 1 c)),(3,.fl 0),(1,pI g),(0,pI d),(0,pI t),(0,pI e),(0,pI f)] 143,[.arr true 5 1 l8],s⟩):=by
 induction n generalizing b a c g d t e f i8 l9 with
 | zero=>rfl
 | succ n M=>rw[Ak];exact let N:=(E3 8 (E2 (L9 L) Q Y (cd [1,1,1,1,1,1,1,0,0,0,1,0,1,1,1,1,0,1,0,0,1,0,0,1,1,1,1,1] Bj) (E3 7 (E2 (L9 L) Q Y (cd [1,1,1,1,1,1,1,0,0,0,1,0,1,1,1,1,0,1,0,0,1,1] Bj) (lpK 1 ((L9 L).keep 25) (bd (L9 L) Q Y (cd [1,1,1,1,1,1,1,0,0,0,1,0,1,1,1,1,0,1,0,0] Bj)) n k)))));(a8 (by kernel_rfl) (A0 (A0 (A0 (A4 λS=>(A0 (A4 λr=>(A0 (A0 (A4 λT=>(A0 (M b a c g d t r f (A1 (i8+1)) l9) ((JG L Q Y s N L b a c g d t r f i8 r 0 l9).trans (congr rfl (Cq7 λj h m w p A u O X y=>(a8 (by kernel_rfl) (A0 (A4 λB=>(A0 (A4 λV=>(A0 (A0 (A0 (A4 λC=>(A4 λD=>(A4 λF=>(M j h m D p A 0 C F (y++[[(SV.int .u8 B)]]))))) rfl) rfl) rfl)) rfl)) rfl))))))) rfl) rfl)) (A0 (A0 (A4 λU=>(A0 (M b a c g d t e f (A1 (i8+1)) l9) ((JG L Q Y s N L b a c g d t e f i8 e 0 l9).trans (congr rfl (Cq7 λl i o x q G v P a0 z=>(a8 (by kernel_rfl) (A0 (A4 λH=>(A0 (A4 λW=>(A0 (A0 (A0 (A4 λI=>(A4 λJ=>(A4 λK=>(M l i o J q G 0 I K (z++[[(SV.int .u8 H)]]))))) rfl) rfl) rfl)) rfl)) rfl))))))) rfl) rfl))) rfl) rfl) rfl))
noncomputable def Ew{R:Type}(L n:Nat)(l j:Bool)(g:LL)(v w K x y:Int)(J:LL)(I:LL->Option R):Option R:=match n with|0=>none|n+1=>cond (ltI v (g.length:Int)) (Hz L L l j g v w K x y 1073741824 0 J (λd b h f m B p r a z=>vl (A1 (f+1)) λC=>vl (A1 ((A1 (a-B))*C)) λD=>Ak L L d b h f m a (A1 (p+D)) r 0 z (λe c i u o F q t A=>vl (A1 (q+1)) λG=>vl (A1 (F+1)) λH=>Ew L n e c i u o H G t A I))) (I J)
theorem JH(n points_z0 points_t1 points2 done3 basic4 n5 delta6 bias7 l8):C5 1 ((L9 L).keep 15) (bd (L9 L) Q Y (cd [1,1,1,1,1,1,1,0,0,0] Bj)) n ⟨gp [(0,.s (.sl points_z0 points_t1 1 points2)),(3,.fl 0),(1,pI done3),(0,pI basic4),(0,pI n5),(0,pI delta6),(0,pI bias7)] 143,[.arr true 5 1 l8],s⟩ k =
 Ew L n points_z0 points_t1 points2 done3 basic4 n5 delta6 bias7 l8 (λB=>k (.exit 2) ⟨gp [(4,.fl 0)] 149,[.arr true 5 1 B],s⟩):=by
 induction n generalizing points_z0 points_t1 points2 done3 basic4 n5 delta6 bias7 l8 with
 | zero=>rfl
 | succ n A=>rw[Ew];exact(a8 (by kernel_rfl) (A0 ((A00 L Q Y s (E3 4 (E2 (L9 L) Q Y (cd [1,1,1,1,1,1,1,0,0,0,1,0,1,1] Bj) (E3 3 (lpK 1 ((L9 L).keep 15) (bd (L9 L) Q Y (cd [1,1,1,1,1,1,1,0,0,0] Bj)) n k)))) L points_z0 points_t1 points2 done3 basic4 n5 delta6 bias7 1073741824 0 l8).trans (congr rfl (Cq7 λc a e o g x i l j r=>(a8 (by kernel_rfl) (A4 λy=>(A4 λu=>((A01 L Q Y s (E3 6 (E2 (L9 L) Q Y (cd [1,1,1,1,1,1,1,0,0,0,1,0,1,1,1,1,1] Bj) (E3 3 (lpK 1 ((L9 L).keep 15) (bd (L9 L) Q Y (cd [1,1,1,1,1,1,1,0,0,0] Bj)) n k)))) L c a e o g j (A1 (i+u)) l 0 r).trans (congr rfl (fx9 λd b f p h z q m t=>(a8 (by kernel_rfl) (A4 λv=>(A4 λw=>(A d b f p h w v m t))))))))))))) rfl))
noncomputable def Ab4{R:Type}(L:Nat)(f e:Bool)(d:LL)(o:Unit->Option R)(m:By->Int->LL->Option R):Option R:=cond (ltI 256 (d.length:Int)) (o ()) (T7 L L f e d 0 [] (λn=>m ([]:List UInt8) 2 n) (λb a c g=>vl (g.length:Int) λl=>vl (g.length:Int) λj=>cond (ltI 0 j) (cond (F6 (g.length+1)) (Ew L L b a c l j 128 0 72 (g++[[(SV.int .u8 (45:Int))]]) (λh=>cond (ad1 h Nh) (m (ab5 Lc h) 0 h) none)) none) (Ew L L b a c l j 128 0 72 g (λi=>cond (ad1 i Nh) (m (ab5 Lc i) 0 i) none))))
theorem Cw4(d:Nat)(points_z0 points_t1 points2):evC (L9 L) (d+1) Z Y 120 [.s (.sl points_z0 points_t1 1 points2)] [] s=Ab4 L points_z0 points_t1 points2 (λ_=>some (.tup [pS ([]:List UInt8),pI (3:Int)],[],s)) (λj l i=>some (.tup [pS j,pI l],[.arr true 5 1 i],s)):=by refine(evE (fn:=ad4) (by kernel_rfl)).trans ?_;generalize evC (L9 L) d=Q;unfold Ab4;exact let h:=(E3 2 (E2 (L9 L) Q Y (cd [1,1,1,1,1,1,1,1] Bj) (F5 (L9 L) ad4)));(a8 (by kernel_rfl) (A0 rfl ((Az9 L Q Y s (E3 0 (E2 (L9 L) Q Y (cd [1,1,1,1] Bj) (F5 (L9 L) ad4))) L points_z0 points_t1 points2 0 []).trans (congr (congr rfl (by kernel_rfl)) (fx4 λb a c g=>(a8 (by kernel_rfl) (A4 λe=>(A4 λf=>(A0 (A0 ((JH L Q Y s h L b a c e f 128 0 72 (g++[[(SV.int .u8 (45:Int))]])).trans (by kernel_rfl)) rfl) ((JH L Q Y s h L b a c e f 128 0 72 g).trans (by kernel_rfl)))))))))))
noncomputable abbrev X7:Code:=C4 ac2
noncomputable def J2(L:Nat):Cfg:=B4 L [156] (A2 [(27,[0,1,0,2,1,0,0,0,0,0,0,0]),(23,[0,1,0,2,1,0,0,0,0]),(13,[0,1,0,0,1,0]),(5,[0,1,0,0,0])]) [(176,B27),(149,Al9),(151,EW),(148,Ud)] (A2 [(51,[2,0]),(50,[0,5,1,0,0,0,0]),(49,[2,0]),(48,[0,5,1,0,0,0,0,118]),(47,[0,5,1,0,0,0,0]),(46,[2,0]),(45,[0,5,1,0,0,0,0,103]),(44,[0,5,1,0,0,0,0]),(43,[0,5,1,0,0,0,0]),(42,[0,5,1,0,0,0,0]),(41,[0,5,1,0,0,0]),(26,[0,5,1,0,0,0,0,0,0,0]),(40,[2,0]),(39,[0,5,1,0,0,0,0,0,0,0,77]),(38,[0,5,1,0,0,0,0,0,0,0]),(37,[0,5,1,0,0,0,0,0,0,0,1,69]),(36,[0,5,1,0,0,0,0,0,0,0,0,0]),(35,[2,0]),(34,[0,5,1,0,0,0,0,0,0,0,0,64]),(33,[0,5,1,0,0,0,0,0,0,0,0]),(32,[2,0]),(31,[0,5,1,0,0,0,0,0,0,0,0,57]),(30,[0,5,1,0,0,0,0,0,0,0,0]),(29,[0,5,1,0,0,0,0,0,0,0,0]),(28,[2,0]),(27,[0,5,1,0,0,0,0,0,0,0,50]),(25,[0,5,1,0,0,0,0,0,0,0]),(24,[0,5,1,0,0,0,0,0,0]),(23,[0,5,1,0,0,0,0,46]),(22,[0,5,1,0,0,0,0]),(21,[0,5,1,0,0,0]),(20,[0,5,1]),(19,[0,5,1,44]),(18,[0,3,1,1]),(17,[2,0]),(16,[0,3,1,43]),(14,[0,3,1,0]),(15,[0,3,1,0]),(13,[0,3,1,0,30]),(12,[0,3,1,0]),(11,[0,3,1]),(6,[0,3,0]),(10,[0,3,0]),(9,[0,3,0,28]),(8,[2,0]),(7,[0,3,0,24]),(5,[0,3,0,18]),(4,[0,3,0]),(3,[0,3]),(2,[2,0]),(1,[0,19]),(0,[0])]) [176,149,151,148] (A2 [(4,[6]),(5,[0,5,1,0,0,0,0]),(6,[0,5,1,0,0,1,0]),(7,[0,5,1,0,0,0,0,0,0,0]),(2,[0,3,1]),(3,[0,3,1,0]),(0,[0,3]),(1,[0,3,0])]) (some [2,0]) [] [] [] (rw:=[(47,6)])
noncomputable def Dt{R:Type}(L n:Nat)(c:By)(a b:Int)(d:Unit->Option R)(e:By->Int->Option R):Option R:=match n with|0=>none|n+1=>cond (ltI b (c.length:Int)) (cond (inR b c.length) (cond (not (ltI (bAt c b) (128:Int))) (d ()) (cond (inR b c.length) (cond ((bAt c b)==45) (Dt L n c b (A1 (b+1)) d e) (Dt L n c a (A1 (b+1)) d e)) none)) none) (e c a)
theorem Ac6(n b a i2):C5 0 ((J2 L).keep 5) (bd (J2 L) Q Y (cd [1,1,1,0,1,0,0] X7)) n ⟨gp [(0,pS b),(3,pI a),(0,pI i2)] 129,[],s⟩ k =
 Dt L n b a i2 (λ_=>k .ret ⟨gp [(2,.fl 0),(0,pI (4:Int))] 131,[.arr true 3 1 []],s⟩) (λb a=>k (.exit 0) ⟨gp [(0,pS b),(3,pI a)] 130,[],s⟩):=by
 induction n generalizing b a i2 with
 | zero=>rfl
 | succ n c=>rw[Dt];simp only[<-c];kernel_rfl
noncomputable def Gs{R:Type}(L n:Nat)(c:By)(a b:Int)(d:LL)(e:By->Int->LL->Option R):Option R:=match n with|0=>none|n+1=>cond (ltI b a) (cond (inR b c.length) (cond (F6 (d.length+1)) (Gs L n c a (A1 (b+1)) (d++[[(SV.int .i64 (A1 (bAt c b)))]]) e) none) none) (e c a d)
theorem Ac7(n b a i2 l3):C5 1 ((J2 L).keep 13) (bd (J2 L) Q Y (cd [1,1,1,1,1,0,1,0,0] X7)) n ⟨gp [(0,pS b),(3,pI a),(1,.fl 0),(0,pI i2)] 127,[.arr true 3 1 l3],s⟩ k =
 Gs L n b a i2 l3 (λb a d=>k (.exit 2) ⟨gp [(0,pS b),(3,pI a),(1,.fl 0)] 128,[.arr true 3 1 d],s⟩):=by
 induction n generalizing b a i2 l3 with
 | zero=>rfl
 | succ n c=>rw[Gs];simp only[<-c];kernel_rfl
noncomputable def U4{R:Type}(L n:Nat)(l:By)(g:LL)(b q r a f o h:Int)(j:LL)(m:Int->LL->Option R)(p:By->LL->Int->Int->Int->Int->LL->Option R):Option R:=match n with|0=>none|n+1=>cond (not (ltI b (l.length:Int))) (m 4 j) (cond (inR b l.length) (cond (inR (bAt l b) 256) (vl (D8 (u8n (bAt l b))) λi=>cond (ltI i 0) (m 4 j) (vl (A1 (r+(A1 (i*o)))) λc=>cond (ltI 1099511627776 c) (m 19 j) (cond (ltN h 10000000000) (cond (ltN a 1000000) (vl (K4 (aa9 (36:Int) h) a) λd=>cond (ltI i d) (p l g (A1 (b+1)) q c f j) (vl (A1 ((36:Int)-d)) λe=>cond (ltI 1099511627776 (A1 (o*e))) (m 19 j) (U4 L n l g (A1 (b+1)) q c a f (A1 (o*e)) (A1 (h+1)) j m p))) none) none))) none) none)
theorem Ac8(n f a b d c bias5 old6 w7 kk8 l9):C5 1 ((J2 L).keep 27) (bd (J2 L) Q Y (cd [1,1,1,1,1,1,1,1,1,1,1,0,0,0,1,0,1,0,1,0,0] X7)) n ⟨gp [(0,pS f),(5,.s (.sl false false 1 a)),(1,pI b),(0,pI d),(0,pI c),(0,pI bias5),(0,pB false),(0,pI old6),(0,pI w7),(0,pI kk8)] 119,[.arr true 3 1 l9],s⟩ k =
 U4 L n f a b d c bias5 old6 w7 kk8 l9 (λn0 h=>k .ret ⟨gp [(2,.fl 1),(0,pI n0)] 131,[.arr true 3 1 h,.arr true 3 1 []],s⟩) (λf a b d c e i=>k (.exit 6) ⟨gp [(0,pS f),(5,.s (.sl false false 1 a)),(1,pI b),(0,pI d),(0,pI c),(1,pB false),(0,pI e)] 121,[.arr true 3 1 i],s⟩):=by
 induction n generalizing f a b d c bias5 old6 w7 kk8 l9 with
 | zero=>rfl
 | succ n g=>rw[U4];simp only[<-g];kernel_rfl
noncomputable def O0{R:Type}(L n:Nat)(C:By)(m:LL)(q D y p:Int)(B:LL)(x:Int->LL->Option R)(z:LL->LL->Option R)(A:LL->LL->Option R):Option R:=match n with|0=>none|n+1=>cond (ltI q (C.length:Int)) (U4 L L C m q D y p y 1 0 B (λt r=>x t r) (λw a o d b h i=>vl (A1 ((a.length:Int)+1)) λj=>cond (ltN (A1 (b-h)) 1152921504606846976) (cond (ltN j 1000000) (cond (ltI 0 j) (vl (↑(P4 (b9 (A1 (b-h))) (b9 j) false):Int) λu=>vl (A1 ((a.length:Int)+1)) λl=>cond (l !=0) (vl (A1 (p9 b l)) λe=>vl (A1 ((a.length:Int)+1)) λf=>cond (f !=0) (cond (not (ptI (A1 (d+e)))) (x 2 i) (cond (I2 0 (o9 b f) a.length) (vl (cut a 0 (o9 b f)) λc=>cond (I2 (o9 b f) (a.length:Int) a.length) (vl (cut a (o9 b f) (a.length:Int)) λg=>cond (F6 (0+c.length)) (cond (F6 (c.length+1)) (cond (F6 ((j2 (c++[[(SV.int .i64 (A1 (d+e)))]]))+g.length)) (cond (ltI 256 (↑(j2 ((c++[[(SV.int .i64 (A1 (d+e)))]])++g)):Int)) (z i ((c++[[(SV.int .i64 (A1 (d+e)))]])++g)) (vl (A1 ((o9 b f)+1)) λv=>O0 L n w ((c++[[(SV.int .i64 (A1 (d+e)))]])++g) o (A1 (d+e)) v u i x z A)) none) none) none) none) none)) none) none) none) none) none)) (A m B)
theorem Ac9(n s0 out1 at2 n3 i4 bias5 l6):C5 1 ((J2 L).keep 23) (bd (J2 L) Q Y (cd [1,1,1,1,1,1,1,1,1,1,1,0,0,0] X7)) n ⟨gp [(0,pS s0),(5,.s (.sl false false 1 out1)),(1,pI at2),(0,pI n3),(0,pI i4),(0,pI bias5),(0,pB false)] 122,[.arr true 3 1 l6],s⟩ k =
 O0 L n s0 out1 at2 n3 i4 bias5 l6 (λn0 g=>k .ret ⟨gp [(2,.fl 1),(0,pI n0)] 131,[.arr true 3 1 g,.arr true 3 1 []],s⟩) (λv g=>k .ret ⟨gp [(2,.fl 2),(0,pI (3:Int))] 131,[.arr true 3 1 v,.arr false 3 1 g,.arr true 3 1 []],s⟩) (λj g=>k (.exit 4) ⟨gp [(6,.s (.sl false false 1 j))] 128,[.arr true 3 1 g],s⟩):=by
 induction n generalizing s0 out1 at2 n3 i4 bias5 l6 with
 | zero=>rfl
 | succ n u=>rw[O0];exact(a8 (by kernel_rfl) (A0 ((Ac8 L Q Y s (E3 6 (E2 (J2 L) Q Y (cd [1,1,1,1,1,1,1,1,1,1,1,0,0,0,1,0,1,1] X7) (E3 5 (lpK 1 ((J2 L).keep 23) (bd (J2 L) Q Y (cd [1,1,1,1,1,1,1,1,1,1,1,0,0,0] X7)) n k)))) L s0 out1 at2 n3 i4 bias5 i4 1 0 l6).trans (congr (congr rfl (by kernel_rfl)) (fx7 λl o c a p m d=>(a8 (by kernel_rfl) (A4 λq=>(A0 (A0 (A0 (A4 λh=>(A4 λr=>(A0 (A4 λb=>(A4 λt=>(A0 (A0 rfl (A0 (A4 λe=>(A0 (A4 λf=>(A0 (A0 (A0 (A0 rfl (A4 λi=>(u l ((e++[[(SV.int .i64 (A1 (a+b)))]])++f) c (A1 (a+b)) i h d))) rfl) rfl) rfl)) rfl)) rfl)) rfl))) rfl))) rfl) rfl) rfl)))))) rfl))
noncomputable def U5{R:Type}(L n:Nat)(h:By)(a m j f:Int)(g:LL)(i:Int->LL->Option R)(l:By->Int->Int->LL->Option R):Option R:=match n with|0=>none|n+1=>cond (not (ltI a (h.length:Int))) (i 4 g) (cond (inR a h.length) (cond (inR (bAt h a) 256) (vl (D8 (u8n (bAt h a))) λb=>cond (ltI b 0) (i 4 g) (vl (A1 (m+(A1 (b*j)))) λc=>cond (ltI 1099511627776 c) (i 19 g) (cond (ltN f 10000000000) (cond (ltN 72 1000000) (vl (K4 (aa9 (36:Int) f) (72:Int)) λd=>cond (ltI b d) (l h (A1 (a+1)) c g) (vl (A1 ((36:Int)-d)) λe=>cond (ltI 1099511627776 (A1 (j*e))) (i 19 g) (U5 L n h (A1 (a+1)) c (A1 (j*e)) (A1 (f+1)) g i l))) none) none))) none) none)
theorem Ad0(n c a b w3 kk4 l5):C5 1 ((J2 L).keep 27) (bd (J2 L) Q Y (cd [1,1,1,1,1,1,1,1,1,1,1,0,0,0,1,0,1,0,1,0,0] X7)) n ⟨gp [(0,pS c),(5,.fl 0),(1,pI a),(0,pI (128:Int)),(0,pI b),(0,pI (72:Int)),(0,pB true),(0,pI (0:Int)),(0,pI w3),(0,pI kk4)] 119,[.arr true 3 1 l5],s⟩ k =
 U5 L n c a b w3 kk4 l5 (λn0 e=>k .ret ⟨gp [(2,.fl 1),(0,pI n0)] 131,[.arr true 3 1 e,.arr true 3 1 []],s⟩) (λc a b f=>k (.exit 6) ⟨gp [(0,pS c),(5,.fl 0),(1,pI a),(0,pI (128:Int)),(0,pI b),(1,pB true),(0,pI (0:Int))] 121,[.arr true 3 1 f],s⟩):=by
 induction n generalizing c a b w3 kk4 l5 with
 | zero=>rfl
 | succ n d=>rw[U5];simp only[<-d];kernel_rfl
noncomputable def J9{R:Type}(L n:Nat)(D:By)(m:Int)(C:LL)(A:Int->LL->Option R)(B:LL->LL->Option R)(F:LL->LL->Option R)(G:LL->Option R):Option R:=match n with|0=>none|n+1=>cond (ltI m (D.length:Int)) (U5 L L D m 0 1 0 C (λu o=>A u o) (λz l b a=>vl (A1 (b-0)) λi=>vl (A1 ((a.length:Int)+1)) λe=>cond (ltN i 1152921504606846976) (cond (ltN e 1000000) (cond (ltI 0 e) (vl (↑(P4 (b9 i) (b9 e) true):Int) λv=>vl (A1 ((a.length:Int)+1)) λj=>cond (j !=0) (vl (A1 (p9 b j)) λw=>vl (A1 ((128:Int)+w)) λf=>vl (A1 ((a.length:Int)+1)) λc=>cond (c !=0) (cond (not (ptI f)) (A 2 a) (cond (I2 0 (o9 b c) a.length) (cond (I2 (o9 b c) (a.length:Int) a.length) (cond (F6 (0+(j2 (y5 ((b9 (o9 b c))-0) (aa4 0 a))))) (cond (F6 ((j2 (y5 ((b9 (o9 b c))-0) (aa4 0 a)))+1)) (vl ((y5 ((b9 (o9 b c))-0) (aa4 0 a))++[[(SV.int .i64 f)]]) λh=>cond (F6 (h.length+(j2 (y5 ((b9 (a.length:Int))-(b9 (o9 b c))) (aa4 (b9 (o9 b c)) a))))) (vl (h++(y5 ((b9 (a.length:Int))-(b9 (o9 b c))) (aa4 (b9 (o9 b c)) a))) λd=>cond (ltI 256 (d.length:Int)) (B a d) (vl (A1 ((o9 b c)+1)) λx=>O0 L n z d l f x v a (λy p=>A y p) (λq r=>B q r) (λg t=>F g t))) none) none) none) none) none)) none) none) none) none) none)) (G C)
theorem CC(n s0 at1 l2):C5 1 ((J2 L).keep 23) (bd (J2 L) Q Y (cd [1,1,1,1,1,1,1,1,1,1,1,0,0,0] X7)) n ⟨gp [(0,pS s0),(5,.fl 0),(1,pI at1),(0,pI (128:Int)),(0,pI (0:Int)),(0,pI (72:Int)),(0,pB true)] 122,[.arr true 3 1 l2],s⟩ k =
 J9 L n s0 at1 l2 (λn0 d=>k .ret ⟨gp [(2,.fl 1),(0,pI n0)] 131,[.arr true 3 1 d,.arr true 3 1 []],s⟩) (λl d=>k .ret ⟨gp [(2,.fl 2),(0,pI (3:Int))] 131,[.arr true 3 1 l,.arr false 3 1 d,.arr true 3 1 []],s⟩) (λh d=>k (.exit 4) ⟨gp [(6,.s (.sl false false 1 h))] 128,[.arr true 3 1 d],s⟩) (λl=>k (.exit 4) ⟨gp [(6,.fl 0)] 128,[.arr true 3 1 l],s⟩):=by
 induction n generalizing s0 at1 l2 with
 | zero=>rfl
 | succ n A=>rw[J9];exact(a8 (by kernel_rfl) (A0 ((Ad0 L Q Y s (E3 6 (E2 (J2 L) Q Y (cd [1,1,1,1,1,1,1,1,1,1,1,0,0,0,1,0,1,1] X7) (E3 5 (lpK 1 ((J2 L).keep 23) (bd (J2 L) Q Y (cd [1,1,1,1,1,1,1,1,1,1,1,0,0,0] X7)) n k)))) L s0 at1 0 1 0 l2).trans (congr (congr rfl (by kernel_rfl)) (fx4 λi a m b=>(a8 (by kernel_rfl) (A4 λu=>(A4 λv=>(A0 (A0 (A0 (A4 λe=>(A4 λw=>(A0 (A4 λx=>(A4 λf=>(A4 λy=>(A0 (A0 rfl (A0 (A0 (A0 (A0 (A4 λo=>(A0 (A4 λc=>(A0 rfl (A4 λg=>((Ac9 L Q Y s k n i c a f g e b).trans (congr (congr (congr rfl (fx2 λz p=>rfl)) (fx2 λq r=>rfl)) (fx2 λj t=>rfl)))))) rfl)) rfl) rfl) rfl) rfl)) rfl)))) rfl))) rfl) rfl) rfl))))))) rfl))
noncomputable def Bi4{R:Type}(L:Nat)(A:By)(u:Int->LL->Option R)(v:Int->LL->Option R)(y:LL->LL->Option R)(z:LL->LL->Option R):Option R:=cond (ltI 1024 (A.length:Int)) (u 3 []) (Dt L L A 0 0 (λ_=>u 4 []) (λx e=>Gs L L x e 0 [] (λt a b=>cond (ltI 256 (b.length:Int)) (v 3 b) (cond (ltI 0 a) (vl (A1 (a+1)) λw=>J9 L L t w b (λq f=>v q f) (λg h=>y g h) (λc i=>z c i) (λj=>u 0 j)) (J9 L L t a b (λr l=>v r l) (λm n=>y m n) (λd o=>z d o) (λp=>u 0 p))))))
theorem Cd9(d:Nat)(s0):evC (J2 L) (d+1) Z Y 156 [pS s0] [] s=Bi4 L s0 (λf c=>some (.tup [.fl 0,pI f],[.arr true 3 1 c],s)) (λf c=>some (.tup [.fl 1,pI f],[.arr true 3 1 c,.arr true 3 1 []],s)) (λl c=>some (.tup [.fl 2,pI (3:Int)],[.arr true 3 1 l,.arr false 3 1 c,.arr true 3 1 []],s)) (λf c=>some (.tup [.s (.sl false false 1 f),pI (0:Int)],[.arr true 3 1 c],s)):=by refine(evE (fn:=ac2) (by kernel_rfl)).trans ?_;generalize evC (J2 L) d=Q;unfold Bi4;exact let j:=(E3 4 (E2 (J2 L) Q Y (cd [1,1,1,1,1,1,1,1,1,1,1,1] X7) (F5 (J2 L) ac2)));(a8 (by kernel_rfl) (A0 rfl ((Ac6 L Q Y s (E3 0 (E2 (J2 L) Q Y (cd [1,1,1,1] X7) (F5 (J2 L) ac2))) L s0 0 0).trans (congr (congr rfl (by kernel_rfl)) (fx2 λi a=>(a8 (by kernel_rfl) ((Ac7 L Q Y s (E3 2 (E2 (J2 L) Q Y (cd [1,1,1,1,1,1] X7) (F5 (J2 L) ac2))) L i a 0 []).trans (congr rfl (fx3 λg b e=>(a8 (by kernel_rfl) (A0 rfl (A0 (A4 λh=>((CC L Q Y s j L g h e).trans (by kernel_rfl))) ((CC L Q Y s j L g b e).trans (by kernel_rfl))))))))))))))
noncomputable abbrev Y8:Code:=C4 ad3
noncomputable def N6(L:Nat):Cfg:=B4 L [119] (A2 [(17,[0,1,0,0,0,1,0,0,0]),(3,[0,1,0,0,0])]) [(148,Ud)] (A2 [(27,[2,0]),(26,[0,3,0]),(25,[0,3,0,1]),(24,[2,0]),(23,[0,3,0,1,0,77]),(18,[0,3,0,1,0,0,0]),(22,[0,3,0,1,0,0,0]),(21,[2,0]),(20,[0,3,0,1,0,0,0,0,61]),(19,[0,3,0,1,0,0,0,0]),(17,[0,3,0,1,0,0,0,48]),(16,[0,3,0,1,0,0,0]),(15,[2,0]),(14,[0,3,0,1,0,0,46]),(9,[0,3,0,1,0,0]),(11,[0,3,0,1,0,0]),(13,[0,3,0,1,0,0]),(6,[2,0]),(12,[0,3,0,0,35]),(10,[0,3,0,0,26]),(8,[0,3,0,0,17]),(7,[0,3,0,0,0,0,0,11]),(5,[0,3,0,0,0,0,0]),(4,[0,3,0,0]),(3,[0,3,0,9]),(2,[0,3,0]),(1,[0,3]),(0,[0])]) [148] (A2 [(0,[4]),(1,[0,3,0]),(3,[0,3,0,1,0,0]),(4,[0,3,0,1,0,0,0]),(2,[0,3,0,1,0,0])]) (some [2,0]) [] [] []
noncomputable def Wu{R:Type}(L n:Nat)(d:By)(a e:Int)(c:LL)(b:By->Int->Int->LL->Option R):Option R:=match n with|0=>none|n+1=>b d a e c
theorem A48(n c a d b):C5 1 ((N6 L).keep 17) (bd (N6 L) Q Y (cd [1,1,0,1,0,0,1,0,1,1,1,1,0,1,0,0] Y8)) n ⟨gp [(0,pS c),(3,.fl 0),(0,pI a),(1,pI (1:Int)),(0,pI d),(0,pI (0:Int)),(0,pI (1:Int))] 84,[.arr true 3 1 b],s⟩ k =
 Wu L n c a d b (λc a d b=>k (.exit 3) ⟨gp [(0,pS c),(3,.fl 0),(0,pI a),(1,pI (1:Int)),(0,pI d),(0,pI (0:Int))] 85,[.arr true 3 1 b],s⟩):=by
 induction n generalizing c a d b with
 | zero=>rfl
 | succ n e=>rw[Wu];kernel_rfl
noncomputable def Wt{R:Type}(L:Nat)(i:By)(g j:Int)(h:LL)(d:LL->Option R)(l:By->Int->LL->Option R):Option R:=vl (A1 ((i.length:Int)-g)) λe=>cond (ltI e 1) (d h) (Wu L L i g j h (λf c b a=>cond (ltI b 0) (d a) (cond (not (ptI b)) (d a) (cond (F6 (a.length+1)) (l f (A1 (c+1)) (a++[[(SV.int .i64 b)]])) none))))
abbrev AL(b:Code):Prop:=∀(k:Out->St Z->Option R) c a b2 b3 l4,A9 (N6 L) Q Y b ⟨gp [(0,pS c),(3,.fl 0),(0,pI a),(0,pI b2),(0,pI (1:Int)),(0,pI b2),(0,pI (0:Int)),(11,pB b3)] 73,[.arr true 3 1 l4],s⟩ k=Wt L c a b2 l4 (λd=>k .ret ⟨gp [(2,.fl 1),(0,pB false)] 91,[.arr true 3 1 d,.arr true 3 1 []],s⟩) (λc a e=>k .normal ⟨gp [(0,pS c),(3,.fl 0),(0,pI a)] 89,[.arr true 3 1 e],s⟩)
theorem A42:AL (R:=R) L Q Y s (cd [1,1,0,1,0,0,1,0,1,1,1] Y8):=by intro k e b a f c;unfold Wt;exact(a8 (by kernel_rfl) (A4 λd=>(A0 rfl ((A48 L Q Y s (E3 3 (E2 (N6 L) Q Y (cd [1,1,0,1,0,0,1,0,1,1,1,1,1] Y8) k)) L e b a c).trans (by kernel_rfl)))))
noncomputable def Ly{R:Type}(h:By)(e c:Int)(i:Bool)(d:LL)(f:By->Int->Int->Int->Int->LL->Option R)(g:LL->Option R):Option R:=cond i (vl (A1 (c-224)) λa=>f h e 3 a 2048 d) (cond (not (ltI c 240)) (cond (ltI c 245) (vl (A1 (c-240)) λb=>f h e 4 b 65536 d) (g d)) (g d))
abbrev OD(b:Code):Prop:=∀(k:Out->St Z->Option R) d c b2 b3 l4,A9 (N6 L) Q Y b ⟨gp [(0,pS d),(3,.fl 0),(0,pI c),(0,pI b2),(26,pB b3)] 61,[.arr true 3 1 l4],s⟩ k=Ly d c b2 b3 l4 (λd c g h a f=>k .normal ⟨gp [(0,pS d),(3,.fl 0),(0,pI c),(1,pI g),(0,pI h),(0,pI a)] 85,[.arr true 3 1 f],s⟩) (λe=>k .ret ⟨gp [(2,.fl 1),(0,pB false)] 91,[.arr true 3 1 e,.arr true 3 1 []],s⟩)
theorem A44:OD (R:=R) L Q Y s (cd [1,1,0,1,0,0,1,0,1,1,0,0,1,1,1,1,1] Y8):=by intro k e c a b d;unfold Ly;kernel_rfl
noncomputable def Lz{R:Type}(v:By)(r c:Int)(x:Bool)(u:LL)(t:By->Int->Int->Int->Int->LL->Option R)(w:LL->Option R):Option R:=cond x (vl (A1 (c-192)) λj=>t v r 2 j 128 u) (cond (not (ltI c 224)) (Ly v r c (ltI c 240) u (λn d l p a f=>t n d l p a f) (λg=>w g)) (Ly v r c false u (λo e m q b h=>t o e m q b h) (λi=>w i)))
abbrev Ql(b:Code):Prop:=∀(k:Out->St Z->Option R) d c b2 b3 l4,A9 (N6 L) Q Y b ⟨gp [(0,pS d),(3,.fl 0),(0,pI c),(0,pI b2),(17,pB b3)] 70,[.arr true 3 1 l4],s⟩ k=Lz d c b2 b3 l4 (λd c g h a f=>k .normal ⟨gp [(0,pS d),(3,.fl 0),(0,pI c),(1,pI g),(0,pI h),(0,pI a)] 85,[.arr true 3 1 f],s⟩) (λe=>k .ret ⟨gp [(2,.fl 1),(0,pB false)] 91,[.arr true 3 1 e,.arr true 3 1 []],s⟩)
theorem A45(a:Code)(b:OD (R:=R) L Q Y s a):Ql (R:=R) L Q Y s (cd [1,1,0,1,0,0,1,0,1,1,0,0,1,1,1] (G5 [1,1,0,1,0,0,1,0,1,1,0,0,1,1,1,1,1] a Y8)):=by intro k g e c d f;unfold Lz;simp only[<-b k];kernel_rfl
theorem A46:Ql (R:=R) L Q Y s (cd [1,1,0,1,0,0,1,0,1,1,0,0,1,1,1] Y8):=by intro k e c a b d;exact a8 (by kernel_rfl) (A45 L Q Y s (cd [1,1,0,1,0,0,1,0,1,1,0,0,1,1,1,1,1] Y8) (A44 L Q Y s) k e c a b d)
noncomputable def Fa{R:Type}(L n:Nat)(h:By)(f j m a c:Int)(g:LL)(i:LL->Option R)(l:By->Int->Int->Int->Int->LL->Option R):Option R:=match n with|0=>none|n+1=>cond (ltI c j) (cond (inR (A1 (f+c)) h.length) (vl (bAt h (A1 (f+c))) λb=>cond (ltI (A1 b) (128:Int)) (i g) (cond (ltI 191 (A1 b)) (i g) (vl (A1 ((A1 (m*64))+(A1 b))) λd=>vl (A1 (d-128)) λe=>Fa L n h f j e a (A1 (c+1)) g i l))) none) (l h f j m a g)
theorem A50(n d b c e a kk5 l6):C5 1 ((N6 L).keep 17) (bd (N6 L) Q Y (cd [1,1,0,1,0,0,1,0,1,1,1,1,0,1,0,0] Y8)) n ⟨gp [(0,pS d),(3,.fl 0),(0,pI b),(1,pI c),(0,pI e),(0,pI a),(0,pI kk5)] 84,[.arr true 3 1 l6],s⟩ k =
 Fa L n d b c e a kk5 l6 (λg=>k .ret ⟨gp [(2,.fl 1),(0,pB false)] 91,[.arr true 3 1 g,.arr true 3 1 []],s⟩) (λd b c e a h=>k (.exit 3) ⟨gp [(0,pS d),(3,.fl 0),(0,pI b),(1,pI c),(0,pI e),(0,pI a)] 85,[.arr true 3 1 h],s⟩):=by
 induction n generalizing d b c e a kk5 l6 with
 | zero=>rfl
 | succ n f=>rw[Fa];simp only[<-f];kernel_rfl
noncomputable def Di{R:Type}(L:Nat)(o:By)(l n q d:Int)(m:LL)(j:LL->Option R)(p:By->Int->LL->Option R):Option R:=vl (A1 ((o.length:Int)-l)) λg=>cond (ltI g n) (j m) (Fa L L o l n q d 1 m (λf=>j f) (λi e h c b a=>cond (ltI c b) (j a) (cond (not (ptI c)) (j a) (cond (F6 (a.length+1)) (p i (A1 (e+h)) (a++[[(SV.int .i64 c)]])) none))))
abbrev AM(b:Code):Prop:=∀(k:Out->St Z->Option R) c a n2 v3 least4 l5,A9 (N6 L) Q Y b ⟨gp [(0,pS c),(3,.fl 0),(0,pI a),(1,pI n2),(0,pI v3),(0,pI least4)] 85,[.arr true 3 1 l5],s⟩ k=Di L c a n2 v3 least4 l5 (λd=>k .ret ⟨gp [(2,.fl 1),(0,pB false)] 91,[.arr true 3 1 d,.arr true 3 1 []],s⟩) (λc a e=>k .normal ⟨gp [(0,pS c),(3,.fl 0),(0,pI a)] 89,[.arr true 3 1 e],s⟩)
theorem A47:AM (R:=R) L Q Y s (cd [1,1,0,1,0,0,1,0,1,1,1] Y8):=by intro k f c e g a d;unfold Di;exact(a8 (by kernel_rfl) (A4 λb=>(A0 rfl ((A50 L Q Y s (E3 3 (E2 (N6 L) Q Y (cd [1,1,0,1,0,0,1,0,1,1,1,1,1] Y8) k)) L f c e g a 1 d).trans (by kernel_rfl)))))
noncomputable def Y3{R:Type}(L n:Nat)(d:By)(c:Int)(D:LL)(e:LL->Option R)(C:LL->Option R):Option R:=match n with|0=>none|n+1=>cond (ltI c (d.length:Int)) (cond (inR c d.length) (cond (ltI (A1 (bAt d c)) (128:Int)) (Wt L d c (A1 (bAt d c)) D (λG=>e G) (λI F H=>Y3 L n I F H e C)) (cond (not (ltI (A1 (bAt d c)) (194:Int))) (Lz d c (A1 (bAt d c)) (ltI (A1 (bAt d c)) (224:Int)) D (λw f u A a j=>Di L w f u A a j (λm=>e m) (λx g o=>Y3 L n x g o e C)) (λl=>e l)) (Lz d c (A1 (bAt d c)) false D (λy h v B b p=>Di L y h v B b p (λr=>e r) (λz i t=>Y3 L n z i t e C)) (λq=>e q)))) none) (C D)
theorem A51(a:Code)(e:AL (R:=R) L Q Y s a)(d:AM (R:=R) L Q Y s a)(b:Code)(c:Ql (R:=R) L Q Y s b)(n:Nat)(i:By)(h:Int)(j:LL):C5 1 ((N6 L).keep 3) (bd (N6 L) Q Y (cd [1,1,0,1,0,0] (G5 [1,1,0,1,0,0,1,0,1,1,0,0,1,1,1] b (G5 [1,1,0,1,0,0,1,0,1,1,1] a Y8)))) n ⟨gp [(0,pS i),(3,.fl 0),(0,pI h)] 89,[.arr true 3 1 j],s⟩ k =
 Y3 L n i h j (λI=>k .ret ⟨gp [(2,.fl 1),(0,pB false)] 91,[.arr true 3 1 I,.arr true 3 1 []],s⟩) (λI=>k (.exit 0) ⟨gp [(4,.fl 0)] 90,[.arr true 3 1 I],s⟩):=by
 induction n generalizing i h j with
 | zero=>rfl
 | succ n G=>rw[Y3];exact let D:=(E3 1 (lpK 1 ((N6 L).keep 3) (bd (N6 L) Q Y (cd [1,1,0,1,0,0] (G5 [1,1,0,1,0,0,1,0,1,1,0,0,1,1,1] b (G5 [1,1,0,1,0,0,1,0,1,1,1] a Y8)))) n k));let K:=(E3 2 (E2 (N6 L) Q Y a D));(a8 (by kernel_rfl) (A0 (A0 (A0 ((e D i h (A1 (bAt i h)) (ltI (A1 (bAt i h)) (128:Int)) j).trans (congr (congr rfl (by kernel_rfl)) (fx3 λJ F H=>(a8 (by kernel_rfl) (G J F H))))) (A0 ((c K i h (A1 (bAt i h)) (ltI (A1 (bAt i h)) (224:Int)) j).trans (congr (congr rfl (fx6 λx l v B f q=>(a8 (by kernel_rfl) ((d D x l v B f q).trans (congr (congr rfl (by kernel_rfl)) (fx3 λy m r=>(a8 (by kernel_rfl) (G y m r)))))))) (by kernel_rfl))) ((c K i h (A1 (bAt i h)) false j).trans (congr (congr rfl (fx6 λz o w C g t=>(a8 (by kernel_rfl) ((d D z o w C g t).trans (congr (congr rfl (by kernel_rfl)) (fx3 λA p u=>(a8 (by kernel_rfl) (G A p u)))))))) (by kernel_rfl))))) rfl) rfl))
noncomputable def Cx7{R:Type}(L:Nat)(e:By)(c:LL->Option R)(d:LL->Option R):Option R:=Y3 L L e 0 [] (λa=>c a) (λb=>d b)
theorem Cx8(b:Code)(c:AL (R:=PV × List Blk × Z) L Q Y s b)(e:AM (R:=PV × List Blk × Z) L Q Y s b)(a:Code)(d:Ql (R:=PV × List Blk × Z) L Q Y s a)(g:By):A9 (N6 L) Q Y (cd [] (G5 [1,1,0,1,0,0,1,0,1,1,0,0,1,1,1] a (G5 [1,1,0,1,0,0,1,0,1,1,1] b Y8))) ⟨[pS g]++tps 94,[],s⟩ (F5 (N6 L) ad3)=Cx7 L g (λf=>some (.tup [.fl 1,pB false],[.arr true 3 1 f,.arr true 3 1 []],s)) (λf=>some (.tup [.fl 0,pB true],[.arr true 3 1 f],s)):=by unfold Cx7;exact(a8 (by kernel_rfl) ((A51 L Q Y s (E3 0 (E2 (N6 L) Q Y (cd [1,1,1] Y8) (F5 (N6 L) ad3))) b c e a d L g 0 []).trans (by kernel_rfl)))
theorem Cx9(d:Nat)(s0):evC (N6 L) (d+1) Z Y 119 [pS s0] [] s=Cx7 L s0 (λa=>some (.tup [.fl 1,pB false],[.arr true 3 1 a,.arr true 3 1 []],s)) (λa=>some (.tup [.fl 0,pB true],[.arr true 3 1 a],s)):=
 (evE (fn:=ad3) (by kernel_rfl)).trans (a8 (by kernel_rfl) (Cx8 L (evC (N6 L) d) Y s (cd [1,1,0,1,0,0,1,0,1,1,1] Y8) (A42 L (evC (N6 L) d) Y s) (A47 L (evC (N6 L) d) Y s) (cd [1,1,0,1,0,0,1,0,1,1,0,0,1,1,1] Y8) (A46 L (evC (N6 L) d) Y s) s0))
noncomputable abbrev Be1:Code:=C4 ae8
noncomputable def Lb(L:Nat):Cfg:=B4 L [127] (A2 [(6,[0,1,0,1,0])]) [(156,Bc3),(120,Al5)] (A2 [(12,[2]),(11,[0,4,1,0]),(7,[0,2,1,0]),(10,[2]),(9,[0,2,1,0,34]),(8,[0,2,1,0]),(6,[0,2,1,0,12]),(5,[0,2,1,0]),(4,[0,2,1]),(3,[2]),(2,[0,2,11]),(1,[0,2,0]),(0,[0])]) [120] (A2 [(0,[0,2,1]),(1,[0,2,1,0])]) (some [2]) [] [] []
noncomputable def X1{R:Type}(L n:Nat)(a:By)(d:Bool)(b:LL)(e:Bool)(c:Int)(f:Unit->Option R)(g:By->Bool->LL->Bool->Option R):Option R:=match n with|0=>none|n+1=>cond (ltI c (b.length:Int)) (cond e (cond (inR c b.length) (cond (okE Kk b (b9 c) 0) (cond (not (ltI (gE b (b9 c) 0) (65:Int))) (cond (inR c b.length) (cond (okE Kk b (b9 c) 0) (cond (not (ltI 90 (gE b (b9 c) 0))) (f ()) (X1 L n a d b true (A1 (c+1)) f g)) none) none) (X1 L n a d b true (A1 (c+1)) f g)) none) none) (cond (inR c b.length) (cond (okE Kk b (b9 c) 0) (cond (inR c b.length) (cond (okE Kk b (b9 c) 0) (cond (not (ltI (gE b (b9 c) 0) (65:Int))) (cond (inR c b.length) (cond (okE Kk b (b9 c) 0) (cond (not (ltI 90 (gE b (b9 c) 0))) (f ()) (X1 L n a d b (not (ltI (gE b (b9 c) 0) (128:Int))) (A1 (c+1)) f g)) none) none) (X1 L n a d b (not (ltI (gE b (b9 c) 0) (128:Int))) (A1 (c+1)) f g)) none) none) none) none)) (g a d b e)
theorem Ad3(n c b d a i4):C5 0 ((Lb L).keep 6) (bd (Lb L) Q Y (cd [1,1,1,1,0,1,0,0] Be1)) n ⟨gp [(0,pS c),(2,.s (.sl b b 1 d)),(1,pB a),(0,pI i4)] 50,[],s⟩ k =
 X1 L n c b d a i4 (λ_=>k .ret ⟨gp [(2,pB false)] 54,[],s⟩) (λc b d a=>k (.exit 0) ⟨gp [(0,pS c),(2,.s (.sl b b 1 d)),(1,pB a)] 51,[],s⟩):=by
 induction n generalizing c b d a i4 with
 | zero=>rfl
 | succ n e=>rw[X1];simp only[<-e];kernel_rfl
noncomputable def Bi6{R:Type}(L:Nat)(a:By)(e:Bool->Option R):Option R:=cond (A3 a.length) (vl (↑((M7 a)).2:Int) λf=>cond (f !=0) (e false) (X1 L L a (af2 ((M7 a)).1) (Lo ((M7 a)).1) false 0 (λ_=>e false) (λc h d b=>cond (ad1 d Mx) (vl ((V2 (ab5 elI d))).1 λi=>vl (↑((V2 (ab5 elI d))).2:Int) λg=>cond (g==0) (cond (i==c) (e b) (e false)) (e false)) none))) none
theorem Ce2(d:Nat)(rest0):evC (Lb L) (d+1) Z Y 127 [pS rest0] [] s=Bi6 L rest0 (λb=>some (pB b,[],s)):=by refine(evE (fn:=ae8) (by kernel_rfl)).trans ?_;generalize evC (Lb L) d=Q;unfold Bi6;exact(a8 (by kernel_rfl) (A0 (A4 λa=>(A0 rfl ((Ad3 L Q Y s (E3 0 (E2 (Lb L) Q Y (cd [1,1,1,1,1] Be1) (F5 (Lb L) ae8))) L rest0 (af2 ((M7 rest0)).1) (Lo ((M7 rest0)).1) false 0).trans (by kernel_rfl)))) rfl))
noncomputable abbrev Bd9:Code:=C4 af8
noncomputable def Kz(L:Nat):Cfg:=B4 L [94] (A2 [(4,[0,1,0])]) [(127,Bc5)] (A2 [(9,[2]),(5,[0,2]),(8,[2]),(7,[0,2,52]),(6,[0,2,0]),(4,[0,2,24]),(3,[0,2]),(2,[2]),(1,[0,23]),(0,[0])]) [127] (A2 [(0,[0]),(1,[0,2])]) (some [2]) [] [] []
noncomputable def N1{R:Type}(L n:Nat)(a:By)(b:Int)(c:Unit->Option R)(d:By->Option R):Option R:=match n with|0=>none|n+1=>cond (ltI b (a.length:Int)) (cond (inR b a.length) (cond (not (ltI (bAt a b) (97:Int))) (cond (not (ltI 122 (bAt a b))) (N1 L n a (A1 (b+1)) c d) (cond (not (ltI (bAt a b) (48:Int))) (cond (not (ltI 57 (bAt a b))) (N1 L n a (A1 (b+1)) c d) (cond ((bAt a b)==45) (N1 L n a (A1 (b+1)) c d) (cond (not ((bAt a b)==95)) (c ()) (N1 L n a (A1 (b+1)) c d)))) (cond ((bAt a b)==45) (N1 L n a (A1 (b+1)) c d) (cond (not ((bAt a b)==95)) (c ()) (N1 L n a (A1 (b+1)) c d))))) (cond (not (ltI (bAt a b) (48:Int))) (cond (not (ltI 57 (bAt a b))) (N1 L n a (A1 (b+1)) c d) (cond ((bAt a b)==45) (N1 L n a (A1 (b+1)) c d) (cond (not ((bAt a b)==95)) (c ()) (N1 L n a (A1 (b+1)) c d)))) (cond ((bAt a b)==45) (N1 L n a (A1 (b+1)) c d) (cond (not ((bAt a b)==95)) (c ()) (N1 L n a (A1 (b+1)) c d))))) none) (d a)
theorem Ac2(n a i1):C5 0 ((Kz L).keep 4) (bd (Kz L) Q Y (cd [1,1,0,1,0,0] Bd9)) n ⟨gp [(0,pS a),(2,pI i1)] 66,[],s⟩ k =
 N1 L n a i1 (λ_=>k .ret ⟨gp [(2,pB false)] 67,[],s⟩) (λa=>k (.exit 0) ⟨gp [(0,pS a)] 69,[],s⟩):=by
 induction n generalizing a i1 with
 | zero=>rfl
 | succ n b=>rw[N1];simp only[<-b];kernel_rfl
noncomputable def Bi2{R:Type}(L:Nat)(c:By)(b:Bool->Option R):Option R:=cond (c==[]) (b false) (cond (ltI 63 (c.length:Int)) (b false) (cond (inR 0 c.length) (cond ((bAt c (0:Int))==45) (b false) (vl (A1 ((c.length:Int)-1)) λd=>cond (inR d c.length) (cond ((bAt c d)==45) (b false) (N1 L L c 0 (λ_=>b false) (λa=>cond (ltI (a.length:Int) (4:Int)) (b true) (cond (I2 0 (4:Int) a.length) (vl (cut a 0 (4:Int)) λf=>cond (not (f==[120,110,45,45])) (b true) (cond (I2 4 (a.length:Int) a.length) (vl (cut a 4 (a.length:Int)) λe=>cond (A3 e.length) (b (Dg e)) none) none)) none)))) none)) none))
theorem Cd6(d:Nat)(s0):evC (Kz L) (d+1) Z Y 94 [pS s0] [] s=Bi2 L s0 (λb=>some (pB b,[],s)):=by refine(evE (fn:=af8) (by kernel_rfl)).trans ?_;generalize evC (Kz L) d=Q;unfold Bi2;exact(a8 (by kernel_rfl) (A0 rfl (A0 rfl (A0 (A0 rfl (A4 λa=>(A0 (A0 rfl ((Ac2 L Q Y s (E3 0 (E2 (Kz L) Q Y (cd [1,1,1] Bd9) (F5 (Kz L) af8))) L s0 0).trans (by kernel_rfl))) rfl))) rfl))))
noncomputable def SZ(L:Nat):Cfg:=B4 L [89] (A2 []) [(119,B22),(17,Al7),(120,Al5),(94,QM)] (A2 [(15,[2,0]),(14,[2,0]),(13,[6,37]),(12,[6]),(11,[2,0]),(10,[9,29]),(9,[9,0]),(8,[7]),(7,[6,20]),(6,[0,3,1]),(5,[2,0]),(4,[0,3,15]),(3,[2,0]),(2,[0,3,12]),(1,[0,3,0]),(0,[0])]) [17,120,94] (A2 []) (some [2,0]) [] [] []
noncomputable def Bi1{R:Type}(L:Nat)(a:By)(b:By->Int->Option R):Option R:=cond (A3 a.length) (cond (not (z7 (Cv a))) (b ([]:List UInt8) 4) (cond (ltI 256 (↑(j2 (Lo (Qw a))):Int)) (b ([]:List UInt8) 3) (cond (A3 a.length) (cond (ltI (↑(j2 (Lo (Qw a))):Int) (a.length:Int)) (cond (A3 (j2 (B6 a))) (cond (ad1 (Lo (Qw (B6 a))) Mx) (vl ((V2 (ab5 elI (Lo (Qw (B6 a)))))).1 λd=>vl (↑((V2 (ab5 elI (Lo (Qw (B6 a)))))).2:Int) λe=>cond (e !=0) (b ([]:List UInt8) 14) (cond (E5 4 d.length) (vl (([120,110,45,45]:List UInt8)++d) λc=>cond (A3 c.length) (cond (not (K5 c)) (b ([]:List UInt8) 14) (b c 0)) none) none)) none) none) (cond (A3 (j2 (B6 a))) (cond (not (K5 (B6 a))) (b ([]:List UInt8) 14) (b (B6 a) 0)) none)) none))) none
theorem Cd5(d:Nat)(s0):evC (SZ L) (d+1) Z Y 89 [pS s0] [] s=Bi1 L s0 (λa b=>some (.tup [pS a,pI b],[],s)):=by refine(evE (fn:=Tryz.f89) (by kernel_rfl)).trans ?_;generalize evC (SZ L) d=Q;unfold Bi1;kernel_rfl
end
theorem Ad2{R:Type}{a:Bool->Option R}(n:Int):VK LF n a=a (ptI n):=by
 unfold VK;by_cases h:n<0
 ·rw[B5 h];have:ptI n=false:=by
   cases n with
   | ofNat m=>exact absurd h (by simp)
   | negSucc m=>rfl
  grind
 ·obtain⟨m,rfl⟩:=v8 (show 0<=n by omega);rw[A6,Ls];unfold U3;by_cases b:1114111<m
  ·rw[A8];have:p7 m 1114111=false:=by rw[k9,ne_eq,o5];omega
   grind
  ·rw[A6];have:p7 m 1114111=true:=by rw[o5];omega
   rw[this];by_cases c:m<55296
   ·rw[A8];have:Nat.blt m 55296=true:=by rw[ac7];omega
    grind
   ·rw[A6];have e:Nat.blt m 55296=false:=by rw[k9,ne_eq,ac7];omega
    rw[e];simp only[j0,cond_true,cond_false,ac5,w9]
    congr 1
theorem Ab0{R:Type}{k0:Int->Int->Option R}:∀(d n k:Nat),d<2305843009213693952->d<n->k+d<=4611686018427387904->
  ∃a b,a<=455/\b<=k+d/\Yu d k=b+36*a / (a+38)/\Fq LF n (d:Int) (k:Int) k0=k0 (a:Int) (b:Int):=by
 intro d
 induction d using ab8 with
 | _ d l=>
  intro n k p r q;obtain⟨n,rfl⟩:∃m,n=m+1:=⟨n-1,by omega⟩
  rw[Fq];by_cases h:455<d
  ·obtain⟨a,b,g,o,i,j⟩:=l (d / 35) (by omega) n (k+36) (by omega) (by omega) (by omega);refine⟨a,b,g,by omega,by rw[GG h];exact i,?_⟩;have e:p9 (d:Int) 35=((d / 35:Nat):Int):=L1 d 35;have c:A1 ((d / 35:Nat):Int)=((d / 35:Nat):Int):=A7;have f:A1 ((k:Int)+36)=((k+36:Nat):Int):=by rw[A7];rfl
   rw[A8];simp only[cond_true,vl,e,c,f];exact j
  ·refine⟨d,k,by omega,by omega,Rv h,?_⟩;rw[A6];rfl
theorem Ab1{R:Type}{k0:Int->Option R}(d c:Int)(f:Bool)(z:ltN d 1152921504606846976=true)(A:ltN c 1000000=true)(B:ltI 0 c=true):JE LF d c f k0=k0 (P4 d.toNat c.toNat f:Nat):=by
 obtain⟨k,F⟩:=D9.1 z;obtain⟨j,D⟩:=D9.1 A;obtain⟨d,rfl⟩:=v8 k;obtain⟨c,rfl⟩:=v8 j;have J:=Lm.1 B;have C:=C2;have key:∀x:Nat,x<1152921504606846976->Fp LF (x:Int) (c:Int) k0=k0 ((Yu (x+x / c) 0:Nat):Int):=by
  intro x L;have G:x / c<=x:=x4 _ _;unfold Fp;have g:p9 (x:Int) (c:Int)=((x / c:Nat):Int):=L1 x c;generalize x / c=q at *;have h:A1 (q:Int)=(q:Int):=A7;have o:A1 ((x:Int)+(q:Int))=((x+q:Nat):Int):=by rw[A7];rfl
  rw[show((c:Int)!=0)=true by simp;omega];simp only[cond_true,vl,g,h,o];obtain⟨a,n,H,I,w,y⟩:=Ab0 (R:=R) (k0:=λb l=>vl (A1 ((36)*b)) λm=>vl (A1 (b+(38))) λe=>cond (e !=(0)) (vl (A1 (p9 m e)) λi=>k0 (A1 (l+i))) none) (x+q) LF 0 (by omega) (by omega) (by omega);refine a8 y ?_;have K:36*a / (a+38)<=36*a:=x4 _ _;have p:A1 (36*(a:Int))=((36*a:Nat):Int):=by rw[A7];rfl
  have r:A1 ((a:Int)+38)=((a+38:Nat):Int):=by rw[A7];rfl
  have t:p9 ((36*a:Nat):Int) ((a+38:Nat):Int)=((36*a / (a+38):Nat):Int):=L1 _ _;have u:A1 ((36*a / (a+38):Nat):Int)=((36*a / (a+38):Nat):Int):=A7;have v:A1 ((n:Int)+((36*a / (a+38):Nat):Int))=((n+36*a / (a+38):Nat):Int):=by rw[A7];rfl
  simp only[vl,p,r,t,u,v];rw[show(((a+38:Nat):Int)!=0)=true by simp;omega,w];rfl
 unfold JE P4;rw[b8,b8];cases f with
 | true=>
  have g:p9 (d:Int) 700=((d / 700:Nat):Int):=L1 d 700;have h:A1 ((d / 700:Nat):Int)=((d / 700:Nat):Int):=A7;simp only[cond_true,vl,g,h,if_true];exact key _ (by omega)
 | false=>
  have g:p9 (d:Int) 2=((d / 2:Nat):Int):=L1 d 2;have h:A1 ((d / 2:Nat):Int)=((d / 2:Nat):Int):=A7;simp only[cond_false,vl,g,h,aa5,if_false];exact key _ (by omega)
theorem Ay7{R:Type}{b:Int->Option R}(d:Int)(c:ltN d 36=true):Bh8 LF d b=b ((Ac d.toNat).toNat:Nat):=by
 obtain⟨a,e⟩:=D9.1 c;obtain⟨d,rfl⟩:=v8 a;unfold Bh8;rw[b8,MQ (by omega)];by_cases h:d<26
 ·rw[A8,if_pos h];simp only[cond_true,vl]
  congr 1
  rw[A7,L4];rfl
 ·rw[A6,if_neg h];simp only[cond_false,vl]
  congr 1
  rw[C6 (n:=48+(d:Int)) (by omega) (by omega),A7,L4];omega
theorem Bw0{R:Type}{g:Int->Option R}(b:Int)(h:inR b 256=true):Cg2 LF b g=g (D8 (u8n b)):=by
 simp only[inR,s8,decide_eq_true_eq] at h;have j:b=((u8n b).toNat:Int):=by
  unfold u8n;simp;omega
 generalize u8n b=c at *;subst j;have i:=c.toNat_lt;unfold Cg2 D8;simp only[Wz,Wy,vl];rcases CV c with⟨d,f,e⟩|⟨d,f,e⟩|⟨d,f,e⟩|⟨d,f,o,e⟩
 ·have a:A1 (wu8 ((c.toNat:Int)-97))=((c.toNat-97:Nat):Int):=by
   rw[L4,A7];omega
  simp (disch:=omega) only[B5,E1,j1,j0,cond_false,cond_true,a,e]
 ·have a:A1 (wu8 ((c.toNat:Int)-65))=((c.toNat-65:Nat):Int):=by
   rw[L4,A7];omega
  simp (disch:=omega) only[B5,E1,j1,j0,cond_false,cond_true,a,e]
 ·have a:A1 (A1 (wu8 ((c.toNat:Int)-48))+26)=((c.toNat-22:Nat):Int):=by
   rw[L4,C6 (n:=(c.toNat:Int)-48) (by omega) (by omega),A7];omega
  simp (disch:=omega) only[B5,E1,j1,j0,cond_false,cond_true,a,e]
 ·rw[e];by_cases k:c.toNat<48
  ·simp (disch:=omega) only[B5,E1,j1,j0,cond_false,cond_true]
  ·by_cases l:c.toNat<65
   ·simp (disch:=omega) only[B5,E1,j1,j0,cond_false,cond_true]
   ·by_cases m:c.toNat<97
    ·simp (disch:=omega) only[B5,E1,j1,j0,cond_false,cond_true]
    ·simp (disch:=omega) only[B5,E1,j1,j0,cond_false,cond_true]
theorem Bu8{R:Type}{a:Int->Option R}(k b:Int)(c:ltN k 10000000000=true)(d:ltN b 1000000=true):Cy1 LF k b a=a (K4 (aa9 36 k) b):=by obtain⟨j,l⟩:=D9.1 c;obtain⟨e,f⟩:=D9.1 d;unfold Cy1 K4;have g:A1 (k+1)=k+1:=A7;have h:A1 ((36:Int)*(k+1))=36*(k+1):=A7;have i:A1 (36*(k+1)-b)=36*(k+1)-b:=A7;grind
theorem Cc0(z t:Bool)(c:LL)(done a u delta i:Int)(b:Nat)(T:b<1000000):∀(r q k n:Nat) (l:LL),q<10 ^ r->q<1152921504606846976->k+r<=1000->r<n->l.length+r<=200000->
  ∃(d:Nat) (pre:By),d<36/\O4 q k b=pre++[Ac d]/\∀(R:Type) (g:Bool->Bool->LL->Int->Int->Int->Int->Int->Int->LL->Option R),Ev LF n z t c done a u delta (b:Int) i (q:Int) (k:Int) l g=g z t c done a u delta i (d:Int) (l++pre.map D7):=by
 have f:∀k:Nat,K4 (aa9 36 (k:Int)) (b:Int)=(thr k b:Int):=λk=>by
  rw[show aa9 36 (k:Int)=((36*k:Nat):Int) from rfl,Xj]
 have j:∀(q k n:Nat) (l:LL),q<thr k b->k<=1000->∃(d:Nat) (pre:By),d<36/\O4 q k b=pre++[Ac d]/\∀(R:Type) (g:Bool->Bool->LL->Int->Int->Int->Int->Int->Int->LL->Option R),Ev LF (n+1) z t c done a u delta (b:Int) i (q:Int) (k:Int) l g=g z t c done a u delta i (d:Int) (l++pre.map D7):=by
  intro q k n l p v;have x:=U7 k b;refine⟨q,[],by omega,by rw[Px p];rfl,λR g=>?_⟩;rw[Ev];have o:ltI (q:Int) (thr k b:Int)=true:=A8;rw[L0,L0,f];grind
 intro r
 induction r with
 | zero=>
  intro q k n l h _ v P N;have x:=U7 k b;obtain⟨n,rfl⟩:∃m,n=m+1:=⟨n-1,by omega⟩
  exact j q k n l (by simp at h;omega) (by omega)
 | succ r Q=>
  intro q k n l h w v P N;have x:=U7 k b;obtain⟨n,rfl⟩:∃m,n=m+1:=⟨n-1,by omega⟩
  by_cases p:q<thr k b
  ·exact j q k n l p (by omega)
  ·have L:(q-thr k b) / (36-thr k b)<10 ^ r:=TN (by omega) (by rw[Nat.pow_succ] at h;omega);have M:(q-thr k b) / (36-thr k b)<=q:=Nat.le_trans (x4 _ _) (by omega);have O:(q-thr k b) % (36-thr k b)<36-thr k b:=ae2 _ (by omega);obtain⟨d,pre,e0,K,e⟩:=Q ((q-thr k b) / (36-thr k b)) (k+1) n (l++[D7 (Ac (thr k b+(q-thr k b) % (36-thr k b)))]) L (by omega) (by omega) (by omega) (by rw[j4,p4];omega);refine⟨d,Ac (thr k b+(q-thr k b) % (36-thr k b))::pre,e0,by rw[Zj p,K];rfl,λR g=>?_⟩;rw[Ev];have y:A1 ((q:Int)-(thr k b:Int))=((q-thr k b:Nat):Int):=by rw[A7];omega
   have C:A1 ((36:Int)-(thr k b:Int))=((36-thr k b:Nat):Int):=by rw[A7];omega
   have D:o9 ((q-thr k b:Nat):Int) ((36-thr k b:Nat):Int)=(((q-thr k b) % (36-thr k b):Nat):Int):=Bx _ _;have F:p9 ((q-thr k b:Nat):Int) ((36-thr k b:Nat):Int)=(((q-thr k b) / (36-thr k b):Nat):Int):=L1 _ _;have I:((((36-thr k b:Nat):Int))!=0)=true:=by rw[bne_iff_ne];omega
   have J:A1 ((k:Int)+1)=((k+1:Nat):Int):=by rw[A7];rfl
   have o:ltI (q:Int) (thr k b:Int)=false:=A6;rw[L0,L0,f];simp only[vl,o,y,C,D,F,I,J,cond_true,cond_false,j0];generalize hA:(q-thr k b) / (36-thr k b)=A at *;generalize S:(q-thr k b) % (36-thr k b)=B at *;have G:A1 ((thr k b:Int)+(B:Int))=((thr k b+B:Nat):Int):=by rw[A7];rfl
   have H:A1 (A:Int)=(A:Int):=A7;rw[G,H,L0,F0 (by omega),b8];refine a8 (e R g) ?_;simp[p6,D7]
theorem Cw5(z t:Bool)(c:List Nat)(a m:Nat)(Z:m<=1114112)(Y:c.length<=256):∀(r i n:Nat) (s:OU),i+r=c.length->r<n->s.delta+r<=1000000000000->s.bias<=500->s.out.length+20*r<=90000->s.done+r<=1000->a<=256->
  (∀(R:Type) (d:Bool->Bool->LL->Int->Int->Int->Int->Int->LL->Option R),Ak LF n z t (B3 c) (s.done:Int) (a:Int) (m:Int) (s.delta:Int) (s.bias:Int) (i:Int) (s.out.map D7) d =
   d z t (B3 c) ((H6 m a (c.drop i) s).done:Int) (a:Int) (m:Int) ((H6 m a (c.drop i) s).delta:Int) ((H6 m a (c.drop i) s).bias:Int) ((H6 m a (c.drop i) s).out.map D7))/\
  (H6 m a (c.drop i) s).bias<=500/\(H6 m a (c.drop i) s).out.length<=s.out.length+20*(c.drop i).countP (· == m)/\(H6 m a (c.drop i) s).done=s.done+(c.drop i).countP (· == m)/\
  (H6 m a (c.drop i) s).delta<=(if 0<(c.drop i).countP (· == m) then r else s.delta+r):=by
 have S:=C2;intro r
 induction r with
 | zero=>
  intro i n s T U O B P Q C;obtain⟨n,rfl⟩:∃m,n=m+1:=⟨n-1,by omega⟩
  rw[c9 (by omega)];refine⟨λR d=>?_,B,by simp[H6],by simp[H6],by simp[H6]⟩;rw[Ak];rw[D1,A6];rfl
 | succ r H=>
  intro i n s T U O B P Q C;obtain⟨n,rfl⟩:∃m,n=m+1:=⟨n-1,by omega⟩
  rw[Uw c i (by omega)];have F:=Zo c i (by omega);have ok:=Qd (l:=c) (i:=i) (by omega);have e:inR (i:Int) (B3 c).length=true:=J6 (by omega) (by rw[D1];omega);have f:ltI (i:Int) ((B3 c).length:Int)=true:=B5 (by rw[D1];omega);generalize c.getD i 0=p at *;have A:A1 ((i:Int)+1)=((i+1:Nat):Int):=by rw[A7];rfl
  have M:A1 ((s.delta:Int)+1)=((s.delta+1:Nat):Int):=by rw[A7];rfl
  have I:A1 ((s.done:Int)+1)=((s.done+1:Nat):Int):=by rw[A7];rfl
  by_cases G:p<m
  ·have g:(p==m)=false:=by rw[beq_eq_false_iff_ne];omega
   have u:H6 m a (p::c.drop (i+1)) s=H6 m a (c.drop (i+1)) { s with delta:=s.delta+1 }:=by rw[H6,if_pos G]
   obtain⟨v,w,x,y,h⟩:=H (i+1) n { s with delta:=s.delta+1 } (by omega) (by omega) (by simp only;omega) B (by simp only;omega) (by simp only;omega) C;rw[u,ab4 (by rw[g];simp)];refine⟨λR d=>?_,w,x,y,?_⟩
   ·rw[Ak];rw[b8];simp only[e,f,ok,cond_true,vl,F,A,M];rw[A8,cond_true,show((p:Int)!=(m:Int))=true by rw[bne_iff_ne];omega,cond_true];exact v R d
   ·simp only at h;split at h<;>split<;>omega
  ·by_cases L:p=m
   ·subst L;have K:=MT (q:=s.delta) (k:=0) (b:=s.bias) (by omega);have D:=Nt s.delta (s.done+1) (s.done==a) (by omega);have u:H6 p a (p::c.drop (i+1)) s=H6 p a (c.drop (i+1)) { delta:=0,bias:=P4 s.delta (s.done+1) (s.done==a),done:=s.done+1,out:=s.out++O4 s.delta 0 s.bias }:=by rw[H6,if_neg G,if_pos rfl]
    obtain⟨v,w,x,y,h⟩:=H (i+1) n { delta:=0,bias:=P4 s.delta (s.done+1) (s.done==a),done:=s.done+1,out:=s.out++O4 s.delta 0 s.bias } (by omega) (by omega) (by simp only;omega) D (by simp only[j4];omega) (by simp only;omega) C;obtain⟨W,pre,X,J,N⟩:=Cc0 z t (B3 c) (s.done:Int) (a:Int) (p:Int) (s.delta:Int) (i:Int) s.bias (by omega) 19 s.delta 0 LF (s.out.map D7) (by omega) (by omega) (by omega) (by omega) (by rw[o7];omega);rw[u,List.countP_cons_of_pos (by simp)];refine⟨λR d=>?_,w,?_,?_,?_⟩
    ·rw[Ak];have j:((s.done:Int)==(a:Int))=(s.done==a):=by
      rw[aa0,beq_iff_eq,beq_iff_eq];omega
     rw[b8];simp only[e,f,ok,cond_true,vl,F,A,I];rw[A6,cond_false,bne_self_eq_false,cond_false];refine a8 (N R _) ?_;have V:pre.length+1=(O4 s.delta 0 s.bias).length:=by rw[J];simp
     rw[L0,b8,F0 (by rw[j4,o7,o7];omega)];simp only[vl,cond_true,A,I];rw[L0,L0,A8,j];simp only[cond_true,b8];have o:s.out.map D7++pre.map D7++[[SV.int .u8 (((Ac W).toNat:Nat):Int)]]=(s.out++O4 s.delta 0 s.bias).map D7:=by
      rw[J,aa2,aa2,p6];rfl
     rw[o];exact v R d
    ·simp only[j4] at x;omega
    ·simp only at y;omega
    ·simp only at h;rw[R9];split at h<;>omega
   ·have g:(p==m)=false:=by rw[beq_eq_false_iff_ne];omega
    have u:H6 m a (p::c.drop (i+1)) s=H6 m a (c.drop (i+1)) s:=by rw[H6,if_neg G,if_neg L]
    obtain⟨v,w,x,y,h⟩:=H (i+1) n s (by omega) (by omega) (by omega) B (by omega) (by omega) C;rw[u,ab4 (by rw[g];simp)];refine⟨λR d=>?_,w,x,y,?_⟩
    ·rw[Ak];rw[b8];simp only[e,f,ok,cond_true,vl,F,A];rw[A6,cond_false,show((p:Int)!=(m:Int))=true by rw[bne_iff_ne];omega,cond_true];exact v R d
    ·split at h<;>split<;>omega
theorem A02{R:Type}{k0:Bool->Bool->LL->Int->Int->Int->Int->Int->Int->LL->Option R}(z t:Bool)(a:List Nat)(q:a.length<=256)(n0:Nat)(b delta c done:Int)(l:LL):∀(r i n m:Nat),i+r=a.length->r<n->
  Hz LF n z t (B3 a) done b (n0:Int) delta c (m:Int) (i:Int) l k0=k0 z t (B3 a) done b (n0:Int) delta c ((H3 n0 (a.drop i) m:Nat):Int) l:=by
 intro r
 induction r with
 | zero=>
  intro i n m k o;obtain⟨n,rfl⟩:∃m,n=m+1:=⟨n-1,by omega⟩
  rw[Hz];rw[D1,A6,c9 (by omega)];rfl
 | succ r f=>
  intro i n m k o;obtain⟨n,rfl⟩:∃m,n=m+1:=⟨n-1,by omega⟩
  have j:=Zo a i (by omega);have ok:=Qd (l:=a) (i:=i) (by omega);have d:inR (i:Int) (B3 a).length=true:=J6 (by omega) (by rw[D1];omega);have e:ltI (i:Int) ((B3 a).length:Int)=true:=B5 (by rw[D1];omega);rw[Hz,Uw a i (by omega)];generalize a.getD i 0=p at *;have g:A1 ((i:Int)+1)=((i+1:Nat):Int):=by rw[A7];rfl
  rw[b8];simp only[d,e,ok,cond_true,vl,j,g,H3];by_cases h:n0<=p
  ·rw[if_pos h,A6,j0,cond_true];have:(if (p:Int)<(m:Int) then (p:Int) else (m:Int))=((min m p:Nat):Int):=by split<;>omega
   rw[this];exact f (i+1) n (min m p) (by omega) (by omega)
  ·rw[if_neg h,A8,j1,cond_false];exact f (i+1) n m (by omega) (by omega)
theorem Cc1(z t:Bool)(a:List Nat)(b:Nat)(B:a.length<=256)(T:b<=256)(i:∀p∈a,p<=1114111):∀(f n d:Nat) (s:OU),s.done=a.countP (λp=>decide (p<n))->a.length<=s.done+f->f<d->s.delta<=300->s.bias<=500->s.out.length+20*(a.length-s.done)<=80000->n<=1114112->
  ∀(R:Type) (k0:LL->Option R),Ew LF d z t (B3 a) (s.done:Int) (b:Int) (n:Int) (s.delta:Int) (s.bias:Int) (s.out.map D7) k0=k0 ((Q1 a b f n s).out.map D7):=by
 intro f;have S:=C2
 induction f with
 | zero=>
  intro n d s V X Y O y P Q R k0;obtain⟨d,rfl⟩:∃m,d=m+1:=⟨d-1,by omega⟩
  rw[Ew];rw[D1,A6];rfl
 | succ f Z=>
  intro n d s V X Y O y P Q R k0;obtain⟨d,rfl⟩:∃m,d=m+1:=⟨d-1,by omega⟩
  rw[Ew];rw[D1];have U:a.countP (λp=>decide (p<n))<=a.length:=x8;by_cases o:s.done<a.length
  ·obtain⟨v,g,q⟩:=Aq0 (n:=n) (l:=a) (by omega);obtain⟨g1,g2,x⟩:=Dr n a 1114112;obtain⟨D,F,w⟩:=Dr n a 1073741824;have g4:=x v g q;have G:=w v g q;have g5:=i v g;have e:H3 n a 1114112∈a/\n<=H3 n a 1114112:=by grind
   have h:H3 n a 1073741824∈a/\n<=H3 n a 1073741824:=by grind
   have heq:H3 n a 1073741824=H3 n a 1114112:=by grind
   have W:Q1 a b (f+1) n s=Q1 a b f (H3 n a 1114112+1) { H6 (H3 n a 1114112) b a { s with delta:=s.delta+(H3 n a 1114112-n)*(s.done+1) } with delta:=(H6 (H3 n a 1114112) b a { s with delta:=s.delta+(H3 n a 1114112-n)*(s.done+1) }).delta+1 }:=by
    rw[Q1,if_pos o]
   rw[W,A8,cond_true];have c:=λ(K:Bool->Bool->LL->Int->Int->Int->Int->Int->Int->LL->Option R)=>A02 (k0:=K) z t a B n (b:Int) (s.delta:Int) (s.bias:Int) (s.done:Int) (s.out.map D7) a.length 0 LF 1073741824 (by omega) (by omega)
   rw[j8,heq] at c;refine a8 (c _) ?_;clear c heq D F w G h;generalize H3 n a 1114112=m at *;have C:(m-n)*(s.done+1)<=1114112*256:=ae3 (by omega) (by omega);have H:A1 ((s.done:Int)+1)=((s.done+1:Nat):Int):=by rw[A7];rfl
   have I:A1 ((m:Int)-(n:Int))=((m-n:Nat):Int):=by rw[A7];omega
   have J:A1 (((m-n:Nat):Int)*((s.done+1:Nat):Int))=(((m-n)*(s.done+1):Nat):Int):=by
    rw[<-Int.natCast_mul];exact A7
   have L:A1 ((s.delta:Int)+(((m-n)*(s.done+1):Nat):Int))=((s.delta+(m-n)*(s.done+1):Nat):Int):=by
    rw[A7];rfl
   simp only[vl,H,I,J,L];have k:=Cw5 z t a b m (by omega) B a.length 0 LF { s with delta:=s.delta+(m-n)*(s.done+1) } (by omega) (by omega) (by simp only;omega) y (by simp only;omega) (by simp only;omega) T;rw[j8] at k;obtain⟨q1,q2,q3,q4,q5⟩:=k;refine a8 (q1 R _) ?_;have j:0<a.countP (· == m):=List.countP_pos_iff.2 ⟨m,e.1,by simp⟩;rw[if_pos j] at q5;have u:=Up e.2 a x;generalize H6 m b a { s with delta:=s.delta+(m-n)*(s.done+1) } = r at *;simp only at q3 q4;have M:A1 ((r.delta:Int)+1)=((r.delta+1:Nat):Int):=by rw[A7];rfl
   have N:A1 ((m:Int)+1)=((m+1:Nat):Int):=by rw[A7];rfl
   have A:a.countP (λp=>decide (p<m+1))<=a.length:=x8;simp only[M,N];exact Z (m+1) d { r with delta:=r.delta+1 } (by simp only;omega) (by simp only;omega) (by omega) (by simp only;omega) q2 (by simp only;omega) (by omega) R k0
  ·rw[A6];rw[Q1,if_neg o];rfl
theorem Az7(z t:Bool)(P:List Int)(C:P.length<=256):∀(r i n:Nat) (out:By),i+r=P.length->r<n->out.length+r<=1000->
  ((P.drop i).all ptI=true->∀(R:Type) (a:LL->Option R) (b:Bool->Bool->LL->LL->Option R),T7 LF n z t (Am P) (i:Int) (out.map D7) a b=b z t (Am P) ((out++U9 (P.drop i)).map D7))/\
  ((P.drop i).all ptI=false->∃l,∀(R:Type) (a:LL->Option R) (b:Bool->Bool->LL->LL->Option R),T7 LF n z t (Am P) (i:Int) (out.map D7) a b=a l):=by
 intro r
 induction r with
 | zero=>
  intro i n out w y A;obtain⟨n,rfl⟩:∃m,n=m+1:=⟨n-1,by omega⟩
  rw[c9 (by omega)];refine⟨λ_ R a b=>?_,λh=>(by cases h)⟩;rw[T7];rw[U0,A6];simp[U9]
 | succ r v=>
  intro i n out w y A;obtain⟨n,rfl⟩:∃m,n=m+1:=⟨n-1,by omega⟩
  have o:=Ar9 P i (by omega);have ok:=UP (l:=P) (i:=i) (by omega);have f:inR (i:Int) (Am P).length=true:=J6 (by omega) (by rw[U0];omega);have g:ltI (i:Int) ((Am P).length:Int)=true:=B5 (by rw[U0];omega);rw[YR P i (by omega)];generalize P.getD i 0=x at *;have u:A1 ((i:Int)+1)=((i+1:Nat):Int):=by rw[A7];rfl
  cases j:ptI x with
  | false=>
   refine⟨λh=>?_,λ_=>⟨out.map D7,λR a b=>?_⟩⟩
   ·rw[y9,j] at h;cases h
   ·rw[T7];rw[b8];simp only[f,g,ok,cond_true,vl,o,j,j0]
  | true=>
   obtain⟨B,D⟩:=Tc j;rw[y9,j,w9];by_cases c:x<128
   ·have d:U9 (x::P.drop (i+1))=x7 x.toNat::U9 (P.drop (i+1)):=by
     unfold U9;rw[List.filter_cons_of_pos (by simpa using c)];rfl
    have k:out.map D7++[[SV.int .u8 (wu8 x)]]=(out++[x7 x.toNat]).map D7:=by rw[Ci3 x B c];simp
    obtain⟨p,q⟩:=v (i+1) n (out++[x7 x.toNat]) (by omega) (by omega) (by simp;omega);have step:∀(R:Type) (a:LL->Option R) (b:Bool->Bool->LL->LL->Option R),T7 LF (n+1) z t (Am P) (i:Int) (out.map D7) a b=T7 LF n z t (Am P) ((i+1:Nat):Int) ((out++[x7 x.toNat]).map D7) a b:=by
     intro R a b;rw[T7];rw[b8];simp only[f,g,ok,cond_true,vl,o,j,j1,cond_false,u];rw[B5 c,o7,F0 (by omega),k];rfl
    refine⟨λh R a b=>?_,λh=>?_⟩
    ·rw[step,p h,d];simp
    ·obtain⟨l,e⟩:=q h;exact⟨l,λR a b=>by rw[step];exact e R a b⟩
   ·have d:U9 (x::P.drop (i+1))=U9 (P.drop (i+1)):=by
     unfold U9;rw[List.filter_cons_of_neg (by simpa using c)]
    obtain⟨p,q⟩:=v (i+1) n out (by omega) (by omega) (by omega);have step:∀(R:Type) (a:LL->Option R) (b:Bool->Bool->LL->LL->Option R),T7 LF (n+1) z t (Am P) (i:Int) (out.map D7) a b=T7 LF n z t (Am P) ((i+1:Nat):Int) (out.map D7) a b:=by
     intro R a b;rw[T7];rw[b8];simp only[f,g,ok,cond_true,vl,o,j,j1,cond_false,u];rw[A6];rfl
    refine⟨λh R a b=>?_,λh=>?_⟩
    ·rw[step,p h,d]
    ·obtain⟨l,e⟩:=q h;exact⟨l,λR a b=>by rw[step];exact e R a b⟩
theorem Az8(z t:Bool)(P:List Int):(V2 P=([],3)/\∀(R:Type) (b:Unit->Option R) (f:By->Int->LL->Option R),Ab4 LF z t (Am P) b f=b ())\/
  (∃l,∀(R:Type) (b:Unit->Option R) (f:By->Int->LL->Option R),Ab4 LF z t (Am P) b f=f (V2 P).1 ((V2 P).2:Nat) l):=by
 have x:=C2;by_cases i:256<P.length
 ·refine .inl ⟨by unfold V2;rw[if_pos i],λR b f=>?_⟩;unfold Ab4;rw[U0,A8];rfl
 ·right
  obtain⟨v,w⟩:=Az7 z t P (by omega) P.length 0 LF [] (by omega) (by omega) (by simp;omega);rw[j8] at v w;cases g:P.all ptI with
  | false=>
   obtain⟨l,e⟩:=w g;refine⟨l,λR b f=>?_⟩;unfold Ab4;rw[U0,A6,cond_false];refine a8 (e R _ _) ?_;unfold V2;rw[if_neg i,g];rfl
  | true=>
   obtain⟨a,rfl,A,m⟩:=Bh7 g;rw[o7] at i;have k:V2 (a.map λn:Nat=>(n:Int))=Cl a:=by
    unfold V2;rw[o7,if_neg i,g];simp[Function.comp_def]
   have j:=Sd a;have y:a.countP (λp=>decide (p<128))<=a.length:=x8;have main:∀(o:By),o.length<=300->∀(R:Type) (b:LL->Option R),Ew LF LF z t (B3 a) ((I3 a).length:Int) ((I3 a).length:Int) 128 0 72 (o.map D7) b=b ((Q1 a (I3 a).length 256 128 { delta:=0,bias:=72,done:=(I3 a).length,out:=o }).out.map D7):=by
    intro o B R b;exact Cc1 z t a (I3 a).length (by omega) (by omega) m 256 128 LF { delta:=0,bias:=72,done:=(I3 a).length,out:=o } j (by simp only;omega) (by omega) (by simp) (by simp) (by simp only;omega) (by omega) R b
   have d:Cl a=((Q1 a (I3 a).length 256 128 { delta:=0,bias:=72,done:=(I3 a).length,out:=if (I3 a).isEmpty then [] else I3 a++[45] }).out,0):=by
    unfold Cl;grind
   refine⟨(Cl a).1.map D7,λR b f=>?_⟩;unfold Ab4;rw[U0,o7,A6,cond_false,k];have r:=v g R;refine a8 (r _ _) ?_;rw[w8,GN,Qb];simp only[vl,o7];by_cases c:I3 a=[]
   ·rw[c,w6,A6,cond_false];have q:=main [] (by simp) R;rw[c,w6] at q;rw[List.map_nil] at q;refine a8 (q _) ?_;rw[c] at d;rw[d];simp only[List.isEmpty_nil,if_true,w6];rw[W0,W8];rfl
   ·have u:0<(I3 a).length:=x3.2 c;rw[A8,cond_true,F0 (by omega),cond_true];have h:(I3 a).map D7++[[SV.int .u8 (45:Int)]]=(I3 a++[45]).map D7:=by rw[aa2];rfl
    rw[h];refine a8 (main (I3 a++[45]) (by simp;omega) R _) ?_;rw[d,if_neg (by simpa using c)];rw[W0,W8];rfl
theorem Cw6(z t:Bool)(p:LL)(b:p.all Mx=true):∃r H,Ab4 LF z t p (λ_=>rv (.tup [.s (.str []),.s (.int .i64 3)]) []) (λd e l=>rv (.tup [.s (.str d),.s (.int .i64 e)]) [.arr true 5 1 l])=rv r H/\
  r.stab [0,0] H = .tup [.s (.str (V2 (p.map elI)).1),.s (.int .i64 ((V2 (p.map elI)).2:Nat))]:=by
 obtain⟨P,rfl⟩:=Bf5 b;rw[YS];rcases Az8 z t P with⟨c,a⟩|⟨l,a⟩
 ·exact⟨_,_,a _ _ _,by rw[c];rfl⟩
 ·exact⟨_,_,a _ _ _,rfl⟩
theorem A37{R:Type}{k0:Unit->Option R}{k1:By->Int->Option R}(s:By)(k:s.length<=1000000):∀(r i n cut:Nat),i+r=s.length->r<n->
  Dt LF n s (cut:Int) (i:Int) k0 k1=if (s.drop i).any (λb=>p7 128 b.toNat) then k0 () else k1 s ((if 45∈s.drop i then i+G3 (s.drop i) else cut:Nat):Int):=by
 intro r
 induction r with
 | zero=>
  intro i n cut g j;obtain⟨n,rfl⟩:∃m,n=m+1:=⟨n-1,by omega⟩
  rw[Dt];rw[A6,c9 (by omega)];rfl
 | succ r d=>
  intro i n cut g j;obtain⟨n,rfl⟩:∃m,n=m+1:=⟨n-1,by omega⟩
  rw[Dt];have e:A1 ((i:Int)+1)=((i+1:Nat):Int):=by rw[A7];rfl
  rw[A8,E6,D0,D2 s i (by omega),e,ab2];simp only[cond_true];generalize s.getD i 0=b;by_cases h:128<=b.toNat
  ·rw[A6,Nat.ble_eq_true_of_le h];rfl
  ·have:p7 128 b.toNat=false:=by rw[k9,ne_eq,o5];exact h
   rw[A8,this,ac5,j1,cond_false];have f:((b.toNat:Int)==45)=(b==45):=P7 b 45 (by omega);rw[f];by_cases a:b=45
   ·subst a;rw[show((45:UInt8)==45)=true from rfl,cond_true];refine(d (i+1) n i (by omega) (by omega)).trans ?_;have c:(45:UInt8)∈45::s.drop (i+1):=by simp
    rw[if_pos c];have:(if (45:UInt8)∈s.drop (i+1) then i+1+G3 (s.drop (i+1)) else i)=i+G3 (45::s.drop (i+1)):=by
     rw[G3];grind
    rw[this]
   ·rw[show(b==45)=false from beq_eq_false_iff_ne.2 a,cond_false];refine(d (i+1) n cut (by omega) (by omega)).trans ?_;have c:((45:UInt8)∈b::s.drop (i+1))↔((45:UInt8)∈s.drop (i+1)):=by simp[af4 a]
    have:(if (45:UInt8)∈s.drop (i+1) then i+1+G3 (s.drop (i+1)) else cut)=(if (45:UInt8)∈b::s.drop (i+1) then i+G3 (b::s.drop (i+1)) else cut):=by
     by_cases q:(45:UInt8)∈s.drop (i+1)
     ·rw[if_pos q,if_pos (c.2 q),G3,if_pos q];omega
     grind
    rw[this]
theorem A32{R:Type}{k0:By->Int->LL->Option R}(s:By)(q:s.length<=1000000)(k:Nat)(p:k<=s.length):∀(r i n:Nat) (l:List Nat),i+r=k->r<n->l.length=i->
  Gs LF n s (k:Int) (i:Int) (B3 l) k0=k0 s (k:Int) (B3 (l++((s.take k).drop i).map (·.toNat))):=by
 intro r
 induction r with
 | zero=>
  intro i n l f h g;obtain⟨n,rfl⟩:∃m,n=m+1:=⟨n-1,by omega⟩
  rw[Gs];rw[A6,c9 (by rw[o0];omega)];simp
 | succ r j=>
  intro i n l f h g;obtain⟨n,rfl⟩:∃m,n=m+1:=⟨n-1,by omega⟩
  rw[Gs];have c:A1 ((i:Int)+1)=((i+1:Nat):Int):=by rw[A7];rfl
  have e:(s.take k).drop i=s.getD i 0::(s.take k).drop (i+1):=by
   rw[D2 (s.take k) i (by rw[o0];omega)]
   congr 1
   rw[j5,j5,List.getElem?_take_of_lt (by omega)]
  rw[A8,E6,D0,e,D1,F0 (by omega),c];simp only[cond_true];generalize s.getD i 0=b;have o:=b.toNat_lt;have d:A1 (b.toNat:Int)=(b.toNat:Int):=A7;have a:B3 l++[[SV.int .i64 (A1 (b.toNat:Int))]]=B3 (l++[b.toNat]):=by rw[d,Jx];rfl
  rw[a];refine(j (i+1) n _ (by omega) (by omega) (by simp;omega)).trans ?_;simp
theorem A35(s:By)(hs:s.length<=1000000)(out:LL)(f b e:Int)(l:LL)(P:0<=b)(Q:b<1000000):∀(r p n k:Nat) (i w:Int),p+r=s.length->r<n->0<=i->i<=1099511627776->0<=w->w<=1099511627776->k+r<=10000000->
  ((S7 b (s.drop p) i w ((36*k:Nat):Int)).1=0->∃o,p<o/\o<=s.length/\(S7 b (s.drop p) i w ((36*k:Nat):Int)).2.1=s.drop o/\∀(R:Type) (a:Int->LL->Option R) (d:By->LL->Int->Int->Int->Int->LL->Option R),U4 LF n s out (p:Int) f i b e w (k:Int) l a d=d s out (o:Int) f (S7 b (s.drop p) i w ((36*k:Nat):Int)).2.2 e l)/\
  ((S7 b (s.drop p) i w ((36*k:Nat):Int)).1≠0->∀(R:Type) (a:Int->LL->Option R) (d:By->LL->Int->Int->Int->Int->LL->Option R),U4 LF n s out (p:Int) f i b e w (k:Int) l a d=a (S7 b (s.drop p) i w ((36*k:Nat):Int)).1 l):=by
 intro r
 induction r with
 | zero=>
  intro p n k i w X W U D G g V;obtain⟨n,rfl⟩:∃m,n=m+1:=⟨n-1,by omega⟩
  rw[c9 (by omega)];refine⟨λh=>by simp[S7] at h,λ_ R a d=>?_⟩;rw[U4];rw[A6];rfl
 | succ r Z=>
  intro p n k i w X W U D G g V;obtain⟨n,rfl⟩:∃m,n=m+1:=⟨n-1,by omega⟩
  have S:=D2 s p (by omega);have C:=D0 s p;rw[S];generalize s.getD p 0=c at *;have Y:=Fd c;have ht:=Mm ((36*k:Nat):Int) b;have e0:aa9 36 (k:Int)=((36*k:Nat):Int):=rfl;have J:A1 ((p:Int)+1)=((p+1:Nat):Int):=by rw[A7];rfl
  have K:A1 ((k:Int)+1)=((k+1:Nat):Int):=by rw[A7];rfl
  have start:∀(R:Type) (a:Int->LL->Option R) (d:By->LL->Int->Int->Int->Int->LL->Option R),U4 LF (n+1) s out (p:Int) f i b e w (k:Int) l a d =
    cond (ltI (D8 c) 0) (a 4 l)
     (vl (A1 (i+(A1 (D8 c*w)))) λj=>cond (ltI 1099511627776 j) (a 19 l)
      (cond (ltI (D8 c) (K4 ((36*k:Nat):Int) b)) (d s out ((p+1:Nat):Int) f j e l)
       (vl (A1 (36-(K4 ((36*k:Nat):Int) b))) λq=>cond (ltI 1099511627776 (A1 (w*q))) (a 19 l) (U4 LF n s out ((p+1:Nat):Int) f j b e (A1 (w*q)) ((k+1:Nat):Int) l a d)))):=by
   intro R a d;rw[U4];have T:=c.toNat_lt;rw[A8,E6,C,E6,Ik,L0,L0,e0,J,K];rfl
  unfold S7;by_cases y:D8 c<0
  ·rw[if_pos y];refine⟨λh=>by simp at h,λ_ R a d=>?_⟩;rw[start,B5 y];rfl
  ·rw[if_neg y];have hm:=Cs (by omega) Y.2 G g;have u:A1 (D8 c*w)=D8 c*w:=A7;have v:A1 (i+D8 c*w)=i+D8 c*w:=A7;by_cases z:1099511627776<i+D8 c*w
   ·rw[if_pos z];refine⟨λh=>by simp at h,λ_ R a d=>?_⟩;rw[start,A6,u,v];simp only[vl,cond_false];rw[B5 z];rfl
   ·rw[if_neg z];by_cases A:D8 c<K4 ((36*k:Nat):Int) b
    ·rw[if_pos A];refine⟨λ_=>⟨p+1,by omega,by omega,rfl,λR a d=>?_⟩,λh=>absurd rfl h⟩;rw[start,A6,u,v];simp only[vl,cond_false];rw[A6,B5 A];rfl
    ·rw[if_neg A];have H:A1 (36-K4 ((36*k:Nat):Int) b)=36-K4 ((36*k:Nat):Int) b:=A7;have F:=Cs (x:=36-K4 ((36*k:Nat):Int) b) (by omega) (by omega) G g;rw[af0] at F;have I:A1 (w*(36-K4 ((36*k:Nat):Int) b))=w*(36-K4 ((36*k:Nat):Int) b):=A7;by_cases B:1099511627776<w*(36-K4 ((36*k:Nat):Int) b)
     ·rw[if_pos B];refine⟨λh=>by simp at h,λ_ R a d=>?_⟩;rw[start,A6,u,v];simp only[vl,cond_false];rw[A6,A6,H,I,B5 B];rfl
     ·rw[if_neg B];have L:((36*k:Nat):Int)+36=((36*(k+1):Nat):Int):=by omega
      rw[L];obtain⟨q1,q2⟩:=Z (p+1) n (k+1) (i+D8 c*w) (w*(36-K4 ((36*k:Nat):Int) b)) (by omega) (by omega) (by omega) (by omega) (by omega) (by omega) (by omega);have t:∀(R:Type) (a:Int->LL->Option R) (d:By->LL->Int->Int->Int->Int->LL->Option R),U4 LF (n+1) s out (p:Int) f i b e w (k:Int) l a d=U4 LF n s out ((p+1:Nat):Int) f (i+D8 c*w) b e (w*(36-K4 ((36*k:Nat):Int) b)) ((k+1:Nat):Int) l a d:=by simp_all
      refine⟨λh=>?_,λh R a d=>by rw[t];exact q2 h R a d⟩;obtain⟨o,g1,M,N,O⟩:=q1 h;exact⟨o,by omega,M,N,λR a d=>by rw[t];exact O R a d⟩
theorem A36(s:By)(Z:s.length<=1000000)(l:LL):∀(r p n k:Nat) (i w:Int),p+r=s.length->r<n->0<=i->i<=1099511627776->0<=w->w<=1099511627776->k+r<=10000000->
  ((S7 72 (s.drop p) i w ((36*k:Nat):Int)).1=0->∃f,p<f/\f<=s.length/\(S7 72 (s.drop p) i w ((36*k:Nat):Int)).2.1=s.drop f/\∀(R:Type) (a:Int->LL->Option R) (b:By->Int->Int->LL->Option R),U5 LF n s (p:Int) i w (k:Int) l a b=b s (f:Int) (S7 72 (s.drop p) i w ((36*k:Nat):Int)).2.2 l)/\
  ((S7 72 (s.drop p) i w ((36*k:Nat):Int)).1≠0->∀(R:Type) (a:Int->LL->Option R) (b:By->Int->Int->LL->Option R),U5 LF n s (p:Int) i w (k:Int) l a b=a (S7 72 (s.drop p) i w ((36*k:Nat):Int)).1 l):=by
 intro r
 induction r with
 | zero=>
  intro p n k i w S Q O A C d P;obtain⟨n,rfl⟩:∃m,n=m+1:=⟨n-1,by omega⟩
  rw[c9 (by omega)];refine⟨λh=>by simp[S7] at h,λ_ R a b=>?_⟩;rw[U5];rw[A6];rfl
 | succ r U=>
  intro p n k i w S Q O A C d P;obtain⟨n,rfl⟩:∃m,n=m+1:=⟨n-1,by omega⟩
  have M:=D2 s p (by omega);have z:=D0 s p;rw[M];generalize s.getD p 0=c at *;have T:=Fd c;have ht:=Mm ((36*k:Nat):Int) 72;have e0:aa9 36 (k:Int)=((36*k:Nat):Int):=rfl;have G:A1 ((p:Int)+1)=((p+1:Nat):Int):=by rw[A7];rfl
  have H:A1 ((k:Int)+1)=((k+1:Nat):Int):=by rw[A7];rfl
  have start:∀(R:Type) (a:Int->LL->Option R) (b:By->Int->Int->LL->Option R),U5 LF (n+1) s (p:Int) i w (k:Int) l a b =
    cond (ltI (D8 c) 0) (a 4 l)
     (vl (A1 (i+(A1 (D8 c*w)))) λe=>cond (ltI 1099511627776 e) (a 19 l)
      (cond (ltI (D8 c) (K4 ((36*k:Nat):Int) 72)) (b s ((p+1:Nat):Int) e l)
       (vl (A1 (36-(K4 ((36*k:Nat):Int) 72))) λg=>cond (ltI 1099511627776 (A1 (w*g))) (a 19 l) (U5 LF n s ((p+1:Nat):Int) e (A1 (w*g)) ((k+1:Nat):Int) l a b)))):=by
   intro R a b;rw[U5];have N:=c.toNat_lt;rw[A8,E6,z,E6,Ik,L0,L0,e0,G,H];rfl
  unfold S7;by_cases t:D8 c<0
  ·rw[if_pos t];refine⟨λh=>by simp at h,λ_ R a b=>?_⟩;rw[start,B5 t];rfl
  ·rw[if_neg t];have Y:=Cs (by omega) T.2 C d;have o:A1 (D8 c*w)=D8 c*w:=A7;have q:A1 (i+D8 c*w)=i+D8 c*w:=A7;by_cases u:1099511627776<i+D8 c*w
   ·rw[if_pos u];refine⟨λh=>by simp at h,λ_ R a b=>?_⟩;rw[start,A6,o,q];simp only[vl,cond_false];rw[B5 u];rfl
   ·rw[if_neg u];by_cases v:D8 c<K4 ((36*k:Nat):Int) 72
    ·rw[if_pos v];refine⟨λ_=>⟨p+1,by omega,by omega,rfl,λR a b=>?_⟩,λh=>absurd rfl h⟩;rw[start,A6,o,q];simp only[vl,cond_false];rw[A6,B5 v];rfl
    ·rw[if_neg v];have D:A1 (36-K4 ((36*k:Nat):Int) 72)=36-K4 ((36*k:Nat):Int) 72:=A7;have B:=Cs (x:=36-K4 ((36*k:Nat):Int) 72) (by omega) (by omega) C d;rw[af0] at B;have F:A1 (w*(36-K4 ((36*k:Nat):Int) 72))=w*(36-K4 ((36*k:Nat):Int) 72):=A7;by_cases y:1099511627776<w*(36-K4 ((36*k:Nat):Int) 72)
     ·rw[if_pos y];refine⟨λh=>by simp at h,λ_ R a b=>?_⟩;rw[start,A6,o,q];simp only[vl,cond_false];rw[A6,A6,D,F,B5 y];rfl
     ·rw[if_neg y];have I:((36*k:Nat):Int)+36=((36*(k+1):Nat):Int):=by omega
      rw[I];obtain⟨V,W⟩:=U (p+1) n (k+1) (i+D8 c*w) (w*(36-K4 ((36*k:Nat):Int) 72)) (by omega) (by omega) (by omega) (by omega) (by omega) (by omega) (by omega);have j:∀(R:Type) (a:Int->LL->Option R) (b:By->Int->Int->LL->Option R),U5 LF (n+1) s (p:Int) i w (k:Int) l a b=U5 LF n s ((p+1:Nat):Int) (i+D8 c*w) (w*(36-K4 ((36*k:Nat):Int) 72)) ((k+1:Nat):Int) l a b:=by simp_all
      refine⟨λh=>?_,λh R a b=>by rw[j];exact W h R a b⟩;obtain⟨f,X,J,K,L⟩:=V h;exact⟨f,by omega,J,K,λR a b=>by rw[j];exact L R a b⟩
theorem NN(l:List Nat)(k:Nat):(B3 l).take k=B3 (l.take k):=by unfold B3;rw[List.map_take]
theorem NM(l:List Nat)(k:Nat):(B3 l).drop k=B3 (l.drop k):=by unfold B3;rw[List.map_drop]
theorem A34(s:By)(hs:s.length<=1000000)(l:LL):∀(r p f:Nat) (a:List Nat) (n i b:Nat),p+r=s.length->r<f->a.length<=256->n<=1114111->i<=1000->b<=500->
  ((G9 (s.drop p) a n i b false).2=0->∀(R:Type) (c:Int->LL->Option R) (d e:LL->LL->Option R),O0 LF f s (B3 a) (p:Int) (n:Int) (i:Int) (b:Int) l c d e=e (B3 (G9 (s.drop p) a n i b false).1) l)/\
  ((G9 (s.drop p) a n i b false).2≠0->(G9 (s.drop p) a n i b false).1=[]/\((∀(R:Type) (c:Int->LL->Option R) (d e:LL->LL->Option R),O0 LF f s (B3 a) (p:Int) (n:Int) (i:Int) (b:Int) l c d e=c ((G9 (s.drop p) a n i b false).2:Nat) l)\/
   ((G9 (s.drop p) a n i b false).2=3/\∃D,∀(R:Type) (c:Int->LL->Option R) (d e:LL->LL->Option R),O0 LF f s (B3 a) (p:Int) (n:Int) (i:Int) (b:Int) l c d e=d l D))):=by
 have a0:=C2;intro r
 induction r using ab8 with
 | _ r ih=>
  intro p f a n i b hp hf h2 h3 h4 h5;obtain⟨f,rfl⟩:∃m,f=m+1:=⟨f-1,by omega⟩
  by_cases hr:r=0
  ·rw[c9 (by omega),Cj];refine⟨λ_ R c d e=>?_,λh=>absurd rfl h⟩;rw[O0];rw[A6];rfl
  ·have q:s.drop p≠[]:=λh=>by
    have:=congrArg j2 h;rw[j7] at this;simp at this;omega
   obtain⟨z,H⟩:=A35 s hs (B3 a) (n:Int) (b:Int) (i:Int) l (by omega) (by omega) r p LF 0 (i:Int) 1 hp (by omega) (by omega) (by omega) (by omega) (by omega) (by omega);obtain⟨F,G⟩:=Uv b (s.drop p) i 1 0;have y:S7 (b:Int) (s.drop p) (i:Int) 1 ((36*0:Nat):Int)=S7 (b:Int) (s.drop p) (i:Int) ((1:Nat):Int) ((36*0:Nat):Int):=rfl;rw[y] at z H;by_cases o:(D6 b (s.drop p) i 1 0).2.2=0
   ·rw[Dl q a n i b false o];have T:=G o;have K:(S7 (b:Int) (s.drop p) (i:Int) ((1:Nat):Int) ((36*0:Nat):Int)).1=0:=by rw[F,o];rfl
    obtain⟨v,a1,a2,w,x⟩:=z K;obtain⟨L,O,_⟩:=Uu (b:Int) (s.drop p) (i:Int) ((1:Nat):Int) ((36*0:Nat):Int) (by omega) (by omega) (by omega) K;rw[T] at L O w x;simp only at L O w x;rw[w];generalize (D6 b (s.drop p) i 1 0).1=X at *;have el:A1 (((B3 a).length:Int)+1)=((a.length+1:Nat):Int):=by rw[D1,A7];rfl
    have U:A1 ((X:Int)-(i:Int))=((X-i:Nat):Int):=by rw[A7];omega
    have Z:p9 (X:Int) ((a.length+1:Nat):Int)=((X / (a.length+1):Nat):Int):=L1 _ _;have em:o9 (X:Int) ((a.length+1:Nat):Int)=((X % (a.length+1):Nat):Int):=Bx _ _;have a5:X / (a.length+1)<=X:=x4 _ _;have J:=ae2 X (show 0<a.length+1 by omega);have A:=Nt (X-i) (a.length+1) false (by omega);generalize hQ:X / (a.length+1)=Q at *;generalize hM:X % (a.length+1)=M at *;have V:A1 (Q:Int)=(Q:Int):=A7;have W:A1 ((n:Int)+(Q:Int))=((n+Q:Nat):Int):=by rw[A7];rfl
    have Y:A1 ((M:Int)+1)=((M+1:Nat):Int):=by rw[A7];rfl
    have C:(((a.length+1:Nat):Int)!=0)=true:=by rw[bne_iff_ne];omega
    have P:cut (B3 a) 0 (M:Int)=B3 (a.take M):=by rw[J8,b8,NN]
    have S:cut (B3 a) (M:Int) ((B3 a).length:Int)=B3 (a.drop M):=by rw[P8,b8,NM]
    have t:∀N:Nat,B3 (a.take M)++[[SV.int .i64 (N:Int)]]++B3 (a.drop M)=B3 (U1 a M N):=λN=>by
     unfold U1;rw[Jx,p6];rfl
    have start:∀(R:Type) (c:Int->LL->Option R) (d e:LL->LL->Option R),O0 LF (f+1) s (B3 a) (p:Int) (n:Int) (i:Int) (b:Int) l c d e =
      cond (not (U3 (n+Q))) (c 2 l) (cond (ltI 256 ((a.length+1:Nat):Int)) (d l (B3 (U1 a M (n+Q))))
       (O0 LF f s (B3 (U1 a M (n+Q))) (v:Int) ((n+Q:Nat):Int) ((M+1:Nat):Int) ((P4 (X-i) (a.length+1) false:Nat):Int) l c d e)):=by
     intro R c d e;rw[O0];rw[A8,cond_true];refine(x R _ _).trans ?_;have s1:I2 (0:Int) (M:Int) (B3 a).length=true:=Z5 (by omega) (by omega) (by rw[D1];omega);have s2:I2 (M:Int) ((B3 a).length:Int) (B3 a).length=true:=Z5 (by omega) (by rw[D1];omega) (by omega);have t1:ltN ((X-i:Nat):Int) 1152921504606846976=true:=L0;have t2:ltN ((a.length+1:Nat):Int) 1000000=true:=L0;have t3:ltI 0 ((a.length+1:Nat):Int)=true:=A8;have l1:(B3 (a.take M)).length=M:=by rw[D1,o0];omega
     have l2:(B3 (a.drop M)).length=a.length-M:=by rw[D1,j7]
     have r1:F6 (0+(B3 (a.take M)).length)=true:=F0 (by omega);have r2:F6 ((B3 (a.take M)).length+1)=true:=F0 (by omega);have r3:F6 ((B3 (a.take M)++[[SV.int .i64 ((n+Q:Nat):Int)]]).length+(B3 (a.drop M)).length)=true:=F0 (by rw[j4,p4];omega);have l3:(B3 (U1 a M (n+Q))).length=a.length+1:=by rw[D1,Az]
     simp only[vl,el,U,Z,em,V,W,Y,C,s1,s2,t1,t2,t3,P,S,r1,r2,r3,t,l3,cond_true,b8,Ls]
    cases g:U3 (n+Q) with
    | false=>
     rw[if_neg (by simp)];refine⟨λh=>by simp at h,λ_=>⟨rfl,.inl λR c d e=>?_⟩⟩;rw[start,g];rfl
    | true=>
     rw[if_pos rfl];by_cases I:256<a.length+1
     ·rw[if_pos I];refine⟨λh=>by simp at h,λ_=>⟨rfl,.inr ⟨rfl,B3 (U1 a M (n+Q)),λR c d e=>?_⟩⟩⟩;rw[start,g,A8];rfl
     ·rw[if_neg I];have B:n+Q<=1114111:=by
       unfold U3 at g;simp only[s8,o5] at g;exact g.1
      have k:∀(R:Type) (c:Int->LL->Option R) (d e:LL->LL->Option R),O0 LF (f+1) s (B3 a) (p:Int) (n:Int) (i:Int) (b:Int) l c d e=O0 LF f s (B3 (U1 a M (n+Q))) (v:Int) ((n+Q:Nat):Int) ((M+1:Nat):Int) ((P4 (X-i) (a.length+1) false:Nat):Int) l c d e:=by
       intro R c d e;rw[start,g,A6];rfl
      obtain⟨z1,z2⟩:=ih (s.length-v) (by omega) v f (U1 a M (n+Q)) (n+Q) (M+1) (P4 (X-i) (a.length+1) false) (by omega) (by omega) (by rw[Az];omega) B (by omega) A;refine⟨λh R c d e=>by rw[k];exact z1 h R c d e,λh=>?_⟩;obtain⟨y1,u⟩:=z2 h;refine⟨y1,?_⟩;rcases u with u|⟨u,D,y3⟩
      ·exact .inl λR c d e=>by rw[k];exact u R c d e
      ·exact .inr ⟨u,D,λR c d e=>by rw[k];exact y3 R c d e⟩
   ·rw[Ge q a n i b false o];clear z G;refine⟨λh=>absurd h o,λ_=>⟨rfl,.inl λR c d e=>?_⟩⟩;rw[O0];rw[A8,cond_true];have j:=congrArg Prod.fst F;simp only at j;refine(H (by rw[j];omega) R _ _).trans ?_;rw[j]
theorem Bl9:∀(r:Nat) (s:By) (a:List Nat) (n i b:Nat) (f:Bool),s.length<=r->0<a.length->(G9 s a n i b f).2=0->(G9 s a n i b f).1≠[]:=by
 intro r
 induction r with
 | zero=>
  intro s a n i b f d l h;obtain rfl:=x6.1 (Nat.le_zero.1 d);rw[Cj];grind
 | succ r m=>
  intro s a n i b f d l h;by_cases e:s=[]
  ·grind
  ·by_cases c:(D6 b s i 1 0).2.2=0
   ·rw[Dl e a n i b f c] at h ⊢;split at h
    ·rename_i g;rw[if_pos g];split at h
     ·omega
     ·rename_i j;rw[if_neg j];have k:=Pv b s i 1 0 c;exact m _ _ _ _ _ _ (by omega) (by rw[Az];omega) h
    omega
   ·rw[Ge e a n i b f c] at h;omega
theorem A33(s:By)(K:s.length<=1000000)(p:Nat)(a:List Nat)(h2:a.length<=256)(hp:p<=s.length) :
  (s.drop p=[]/\∀(R:Type) (b:Int->LL->Option R) (c d:LL->LL->Option R) (g:LL->Option R),J9 LF LF s (p:Int) (B3 a) b c d g=g (B3 a))\/
  ((G9 (s.drop p) a 128 0 72 true).2=0/\(G9 (s.drop p) a 128 0 72 true).1≠[]/\∀(R:Type) (b:Int->LL->Option R) (c d:LL->LL->Option R) (g:LL->Option R),J9 LF LF s (p:Int) (B3 a) b c d g=d (B3 (G9 (s.drop p) a 128 0 72 true).1) (B3 a))\/
  ((G9 (s.drop p) a 128 0 72 true).1=[]/\((∀(R:Type) (b:Int->LL->Option R) (c d:LL->LL->Option R) (g:LL->Option R),J9 LF LF s (p:Int) (B3 a) b c d g=b ((G9 (s.drop p) a 128 0 72 true).2:Nat) (B3 a))\/
   ((G9 (s.drop p) a 128 0 72 true).2=3/\∃F,∀(R:Type) (b:Int->LL->Option R) (c d:LL->LL->Option R) (g:LL->Option R),J9 LF LF s (p:Int) (B3 a) b c d g=c (B3 a) F))):=by
 have a0:=C2;obtain⟨f,B⟩:∃m,LF=m+1:=⟨LF-1,by omega⟩
 by_cases hr:s.length<=p
 ·refine .inl ⟨c9 hr,λR b c d g=>?_⟩;have e:J9 LF LF s (p:Int) (B3 a) b c d g=J9 LF (f+1) s (p:Int) (B3 a) b c d g:=by rw[<-B]
  rw[e,J9];rw[A6];rfl
 ·right
  have o:s.drop p≠[]:=λh=>by
   have:=congrArg j2 h;grind
  obtain⟨u,y⟩:=A36 s K (B3 a) (s.length-p) p LF 0 0 1 (by omega) (by omega) (by omega) (by omega) (by omega) (by omega) (by omega);obtain⟨G,x⟩:=Uv 72 (s.drop p) 0 1 0;have n:S7 72 (s.drop p) 0 1 ((36*0:Nat):Int)=S7 ((72:Nat):Int) (s.drop p) ((0:Nat):Int) ((1:Nat):Int) ((36*0:Nat):Int):=rfl;rw[n] at u y;by_cases A:(D6 72 (s.drop p) 0 1 0).2.2=0
  ·rw[Dl o a 128 0 72 true A];have H:=x A;have k:(S7 ((72:Nat):Int) (s.drop p) ((0:Nat):Int) ((1:Nat):Int) ((36*0:Nat):Int)).1=0:=by grind
   obtain⟨r,a1,a2,v,w⟩:=u k;obtain⟨L,O,_⟩:=Uu ((72:Nat):Int) (s.drop p) ((0:Nat):Int) ((1:Nat):Int) ((36*0:Nat):Int) (by omega) (by omega) (by omega) k;rw[H] at L O v w;simp only at L O v w;clear u y G x H k n;rw[v];generalize (D6 72 (s.drop p) 0 1 0).1=X at *;have Z:A1 (((B3 a).length:Int)+1)=((a.length+1:Nat):Int):=by rw[D1,A7];rfl
   have T:A1 ((X:Int)-0)=(X:Int):=by rw[A7];omega
   have Y:p9 (X:Int) ((a.length+1:Nat):Int)=((X / (a.length+1):Nat):Int):=L1 _ _;have em:o9 (X:Int) ((a.length+1:Nat):Int)=((X % (a.length+1):Nat):Int):=Bx _ _;have a5:X / (a.length+1)<=X:=x4 _ _;have J:=ae2 X (show 0<a.length+1 by omega);have z:=Nt X (a.length+1) true (by omega);generalize hQ:X / (a.length+1)=Q at *;generalize hM:X % (a.length+1)=M at *;have U:A1 (Q:Int)=(Q:Int):=A7;have V:A1 ((128:Int)+(Q:Int))=((128+Q:Nat):Int):=by rw[A7];rfl
   have W:A1 ((M:Int)+1)=((M+1:Nat):Int):=by rw[A7];rfl
   have D:(((a.length+1:Nat):Int)!=0)=true:=by rw[bne_iff_ne];omega
   have P:y5 (M-0) (aa4 0 (B3 a))=B3 (a.take M):=by rw[af3,j8,NN]
   have S:y5 ((B3 a).length-M) (aa4 M (B3 a))=B3 (a.drop M):=by
    rw[List.take_of_length_le (by rw[j7];omega),NM]
   have q:∀N:Nat,B3 (a.take M)++[[SV.int .i64 (N:Int)]]++B3 (a.drop M)=B3 (U1 a M N):=λN=>by
    unfold U1;rw[Jx,p6];rfl
   have start:∀(R:Type) (b:Int->LL->Option R) (c d:LL->LL->Option R) (g:LL->Option R),J9 LF LF s (p:Int) (B3 a) b c d g =
     cond (not (U3 (128+Q))) (b 2 (B3 a)) (cond (ltI 256 ((a.length+1:Nat):Int)) (c (B3 a) (B3 (U1 a M (128+Q))))
      (O0 LF f s (B3 (U1 a M (128+Q))) (r:Int) ((128+Q:Nat):Int) ((M+1:Nat):Int) ((P4 X (a.length+1) true:Nat):Int) (B3 a) b c d)):=by
    intro R b c d g;have e:J9 LF LF s (p:Int) (B3 a) b c d g=J9 LF (f+1) s (p:Int) (B3 a) b c d g:=by rw[<-B]
    rw[e,J9];rw[A8,cond_true];refine(w R _ _).trans ?_;have s1:I2 (0:Int) (M:Int) (B3 a).length=true:=Z5 (by omega) (by omega) (by rw[D1];omega);have s2:I2 (M:Int) ((B3 a).length:Int) (B3 a).length=true:=Z5 (by omega) (by rw[D1];omega) (by omega);have t1:ltN (X:Int) 1152921504606846976=true:=L0;have t2:ltN ((a.length+1:Nat):Int) 1000000=true:=L0;have t3:ltI 0 ((a.length+1:Nat):Int)=true:=A8;have l1:(B3 (a.take M)).length=M:=by rw[D1,o0];omega
    have l2:(B3 (a.drop M)).length=a.length-M:=by rw[D1,j7]
    have r1:F6 (0+(B3 (a.take M)).length)=true:=F0 (by omega);have r2:F6 ((B3 (a.take M)).length+1)=true:=F0 (by omega);have r3:F6 ((B3 (a.take M)++[[SV.int .i64 ((128+Q:Nat):Int)]]).length+(B3 (a.drop M)).length)=true:=F0 (by rw[j4,p4];omega);have l3:(B3 (U1 a M (128+Q))).length=a.length+1:=by rw[D1,Az]
    simp only[vl,Z,T,Y,em,U,V,W,D,s1,s2,t1,t2,t3,b8,P,S,r1,r2,r3,q,l3,cond_true,Ls]
   cases j:U3 (128+Q) with
   | false=>
    rw[if_neg (by simp)];refine .inr ⟨rfl,.inl λR b c d g=>?_⟩;rw[start,j];rfl
   | true=>
    rw[if_pos rfl];by_cases I:256<a.length+1
    ·rw[if_pos I];refine .inr ⟨rfl,.inr ⟨rfl,B3 (U1 a M (128+Q)),λR b c d g=>?_⟩⟩;rw[start,j,A8];rfl
    ·rw[if_neg I];have C:128+Q<=1114111:=by
      unfold U3 at j;simp_all
     have l:∀(R:Type) (b:Int->LL->Option R) (c d:LL->LL->Option R) (g:LL->Option R),J9 LF LF s (p:Int) (B3 a) b c d g=O0 LF f s (B3 (U1 a M (128+Q))) (r:Int) ((128+Q:Nat):Int) ((M+1:Nat):Int) ((P4 X (a.length+1) true:Nat):Int) (B3 a) b c d:=by
      intro R b c d g;rw[start,j,A6];rfl
     obtain⟨z1,z2⟩:=A34 s K (B3 a) (s.length-r) r f (U1 a M (128+Q)) (128+Q) (M+1) (P4 X (a.length+1) true) (by omega) (by omega) (by rw[Az];omega) C (by omega) z;have hX:X-0=X:=af3 X;rw[hX];by_cases k:(G9 (s.drop r) (U1 a M (128+Q)) (128+Q) (M+1) (P4 X (a.length+1) true) false).2=0
     ·refine .inl ⟨k,?_,λR b c d g=>by rw[l];exact z1 k R b c d⟩;exact Bl9 _ _ _ _ _ _ _ (ab1 _) (by rw[Az];omega) k
     ·obtain⟨y1,t⟩:=z2 k;refine .inr ⟨y1,?_⟩;rcases t with t|⟨t,F,y3⟩
      ·exact .inl λR b c d g=>by rw[l];exact t R b c d
      ·exact .inr ⟨t,F,λR b c d g=>by rw[l];exact y3 R b c d⟩
  ·rw[Ge o a 128 0 72 true A];clear u x;refine .inr ⟨rfl,.inl λR b c d g=>?_⟩;have e:J9 LF LF s (p:Int) (B3 a) b c d g=J9 LF (f+1) s (p:Int) (B3 a) b c d g:=by rw[<-B]
   rw[e,J9];rw[A8,cond_true];have i:=congrArg Prod.fst G;simp only at i;refine(y (by rw[i];omega) R _ _).trans ?_;rw[i]
theorem Ce0(s:By)(M:A3 s.length=true):∃r H,Bi4 LF s (λi f=>rv (.tup [.fl 0,.s (.int .i64 i)]) [.arr true 3 1 f]) (λi f=>rv (.tup [.fl 1,.s (.int .i64 i)]) [.arr true 3 1 f,.arr true 3 1 []]) (λx f=>rv (.tup [.fl 2,.s (.int .i64 (3:Int))]) [.arr true 3 1 x,.arr false 3 1 f,.arr true 3 1 []]) (λi f=>rv (.tup [.s (.sl false false 1 i),.s (.int .i64 (0:Int))]) [.arr true 3 1 f])=rv r H/\
  r.stab [1,0] H = .tup [.s (.sl (M7 s).1.isEmpty (M7 s).1.isEmpty 1 (Lo (M7 s).1)),.s (.int .i64 ((M7 s).2:Nat))]:=by
 have G:=C2;unfold Bi4 M7;by_cases z:1024<s.length
 ·rw[if_pos z,A8];exact⟨_,_,rfl,rfl⟩
 ·rw[if_neg z,A6,cond_false];have e:=λ(R:Type) (C:Unit->Option R) (D:By->Int->Option R)=>A37 (k0:=C) (k1:=D) s (by omega) s.length 0 LF 0 (by omega) (by omega)
  rw[j8] at e;cases y:s.any (λb=>p7 128 b.toNat) with
  | true=>
   rw[if_pos rfl];refine⟨.tup [.fl 0,.s (.int .i64 4)],[.arr true 3 1 []],(e _ _ _).trans ?_,rfl⟩;rw[y,if_pos rfl]
  | false=>
   rw[if_neg (by simp)];obtain⟨L,F⟩:=Oi s;have I:=Oj s;have q:(if (45:UInt8)∈s then 0+G3 s else 0)=G3 s:=by
    split
    ·omega
    ·rename_i h;exact(F h).2.symm
   rw[y,q] at e;have c:=λ(R:Type) (K:By->Int->LL->Option R)=>A32 (k0:=K) s (by omega) (G3 s) (by omega) (G3 s) 0 LF [] (by omega) (by omega) rfl
   rw[j8] at c;have g:((s.take (G3 s)).map (·.toNat)).length=G3 s:=by rw[o7,o0];omega
   generalize N:G3 s=m at *;generalize A:(s.take m).map (·.toNat)=d at *;by_cases k:256<m
   ·rw[if_pos k];refine⟨.tup [.fl 1,.s (.int .i64 3)],[.arr true 3 1 (B3 d),.arr true 3 1 []],(e _ _ _).trans ?_,rfl⟩;rw[if_neg (by simp)];refine(c _ _).trans ?_;rw[w8,D1,g,A8];rfl
   ·rw[if_neg k];have o:∀p:Nat,p<=s.length->∀(X:Option (PV × List Blk × Unit)),X=J9 LF LF s (p:Int) (B3 d) (λi f=>rv (.tup [.fl 1,.s (.int .i64 i)]) [.arr true 3 1 f,.arr true 3 1 []]) (λx f=>rv (.tup [.fl 2,.s (.int .i64 (3:Int))]) [.arr true 3 1 x,.arr false 3 1 f,.arr true 3 1 []]) (λi f=>rv (.tup [.s (.sl false false 1 i),.s (.int .i64 (0:Int))]) [.arr true 3 1 f]) (λl=>rv (.tup [.fl 0,.s (.int .i64 0)]) [.arr true 3 1 l])->
      ∃r H,X=rv r H/\r.stab [1,0] H = .tup [.s (.sl (G9 (s.drop p) d 128 0 72 true).1.isEmpty (G9 (s.drop p) d 128 0 72 true).1.isEmpty 1 (Lo (G9 (s.drop p) d 128 0 72 true).1)),.s (.int .i64 ((G9 (s.drop p) d 128 0 72 true).2:Nat))]:=by
     intro p J X t;rcases A33 s (by omega) p d (by omega) J with⟨j,n⟩|⟨j,u,n⟩|⟨j,n|⟨u,O,n⟩⟩
     ·refine⟨_,_,t.trans (n _ _ _ _ _),?_⟩;rw[j,Cj,Ct];simp[PV.stab,Of,Qu,PV.snap,L3,Vy]
     ·refine⟨_,_,t.trans (n _ _ _ _ _),?_⟩;rw[j,Ct];have:(G9 (s.drop p) d 128 0 72 true).1.isEmpty=false:=by
       cases h:(G9 (s.drop p) d 128 0 72 true).1 with
       | nil=>exact absurd h u
       | cons a r=>rfl
      rw[this];rfl
     ·refine⟨_,_,t.trans (n _ _ _ _ _),?_⟩;rw[j];rfl
     ·refine⟨_,_,t.trans (n _ _ _ _ _),?_⟩;rw[j,u];rfl
    by_cases B:m=0
    ·subst B;rw[if_pos rfl];have:=o 0 (by omega) _ rfl;rw[j8] at this;obtain⟨r,H,v,w⟩:=this;refine⟨r,H,(e _ _ _).trans ?_,w⟩;rw[if_neg (by simp)];refine(c _ _).trans ?_;rw[w8,D1,g,A6,cond_false,A6,cond_false];exact v
    ·rw[if_neg B];obtain⟨r,H,v,w⟩:=o (m+1) (by omega) _ rfl;refine⟨r,H,(e _ _ _).trans ?_,w⟩;rw[if_neg (by simp)];refine(c _ _).trans ?_;have j:A1 ((m:Int)+1)=((m+1:Nat):Int):=by rw[A7];rfl
     rw[w8,D1,g,A6,cond_false,A8,cond_true,j];exact v
theorem Y2{R:Type}{d:LL->Option R}{e:By->Int->Int->Int->Int->LL->Option R}(s:By)(u:s.length<=1000000000)(n i m v c a:Nat)(l:LL)(q:a<m)(r:m<=4)(p:i+a<s.length)(w:v<=100000)(t:0<n) :
  Fa LF n s i m v c a l d e=if 128<=(s.getD (i+a) 0).toNat/\(s.getD (i+a) 0).toNat<=191 then Fa LF (n-1) s i m ((v*64+(s.getD (i+a) 0).toNat-128:Nat):Int) c ((a+1:Nat):Int) l d e else d l:=by
 have o:=(s.getD (i+a) 0).toNat_lt;obtain⟨n,rfl⟩:∃m,n=m+1:=⟨n-1,by omega⟩
 rw[Fa];have f:A1 ((i:Int)+a)=((i+a:Nat):Int):=by rw[A7];rfl
 have g:A1 ((a:Int)+1)=((a+1:Nat):Int):=by rw[A7];rfl
 rw[A8,f,g,E6,D0];generalize (s.getD (i+a) 0).toNat=b at *;simp only[cond_true,vl];rw[C6 (n:=(b:Int)) (by omega) (by omega),Nat.add_sub_cancel];by_cases j:b<128
 ·rw[A8,F9];rfl
 ·rw[A6,cond_false];by_cases k:191<b
  ·rw[A8,F9];rfl
  ·rw[A6,cond_false,R9];have h:A1 (A1 (A1 ((v:Int)*64)+(b:Int))-128)=((v*64+b-128:Nat):Int):=by
    rw[C6 (n:=(v:Int)*64) (by omega) (by omega),C6 (n:=(v:Int)*64+b) (by omega) (by omega),A7];omega
   rw[h]
theorem Ou{R:Type}{c:LL->Option R}{b:By->Int->Int->Int->Int->LL->Option R}(s:By)(n i m v a:Nat)(l:LL)(d:0<n) :
  Fa LF n s i m v a m l c b=b s i m v a l:=by
 obtain⟨n,rfl⟩:∃m,n=m+1:=⟨n-1,by omega⟩
 rw[Fa];rw[A6];rfl
theorem Qm{R:Type}{b:LL->Option R}{c:By->Int->LL->Option R}(s:By)(k:s.length<=1000000000)(i m v a:Nat)(P:List Nat)(e:P.length<=1000000000)(f:i+m<=s.length)(l:v<=10000000)(g:m<=4) :
  cond (ltI (v:Int) (a:Int)) (b (B3 P)) (cond (not (ptI v)) (b (B3 P)) (cond (F6 ((B3 P).length+1)) (c s (A1 ((i:Int)+m)) (B3 P++[[SV.int .i64 (v:Int)]])) none)) =
   if a<=v/\U3 v=true then c s ((i+m:Nat):Int) (B3 (P++[v])) else b (B3 P):=by
 have d:A1 ((i:Int)+m)=((i+m:Nat):Int):=by rw[A7];rfl
 rw[d,D1,F0 (by omega),Jx,show ptI (v:Int)=U3 v from rfl];by_cases h:v<a
 ·rw[A8,F9];rfl
 ·rw[A6,cond_false];cases j:U3 v with
  | false=>rw[if_neg (by simp)];rfl
  | true=>rw[if_pos ⟨by omega,rfl⟩];rfl
theorem Bu3{R:Type}{d:LL->Option R}{f:By->Int->LL->Option R}(s:By)(e:s.length<=1000000000)(i v a:Nat)(P:List Nat)(k:P.length<=1000000000)(m:i<s.length)(n:v<=32) :
  Di LF s i 2 v a (B3 P) d f=if 2<=s.length-i/\128<=(s.getD (i+1) 0).toNat/\(s.getD (i+1) 0).toNat<=191 then
   (if a<=v*64+(s.getD (i+1) 0).toNat-128/\U3 (v*64+(s.getD (i+1) 0).toNat-128)=true then f s ((i+2:Nat):Int) (B3 (P++[v*64+(s.getD (i+1) 0).toNat-128])) else d (B3 P)) else d (B3 P):=by
 have l:=(s.getD (i+1) 0).toNat_lt;have j:=C2;unfold Di;have g:A1 ((s.length:Int)-i)=((s.length-i:Nat):Int):=by rw[A7];omega
 rw[g];simp only[vl];by_cases h:s.length-i<2
 ·rw[A8,F9];rfl
 ·rw[A6,cond_false];refine a8 (Y2 s e LF i 2 v a 1 (B3 P) (by omega) (by omega) (by omega) (by omega) (by omega)) ?_;generalize (s.getD (i+1) 0).toNat=b at *;by_cases c:128<=b/\b<=191
  ·rw[if_pos c,if_pos ⟨by omega,c⟩];refine a8 (Ou s (LF-1) i 2 _ a (B3 P) (by omega)) ?_;exact Qm s e i 2 _ a P k (by omega) (by omega) (by omega)
  ·rw[if_neg c,if_neg (λh=>c h.2)]
theorem Bu4{R:Type}{e:LL->Option R}{f:By->Int->LL->Option R}(s:By)(d:s.length<=1000000000)(i v a:Nat)(P:List Nat)(k:P.length<=1000000000)(n:i<s.length)(o:v<=32) :
  Di LF s i 3 v a (B3 P) e f=if 3<=s.length-i/\(128<=(s.getD (i+1) 0).toNat/\(s.getD (i+1) 0).toNat<=191)/\(128<=(s.getD (i+2) 0).toNat/\(s.getD (i+2) 0).toNat<=191) then
   (if a<=(v*64+(s.getD (i+1) 0).toNat-128)*64+(s.getD (i+2) 0).toNat-128/\U3 ((v*64+(s.getD (i+1) 0).toNat-128)*64+(s.getD (i+2) 0).toNat-128)=true then f s ((i+3:Nat):Int) (B3 (P++[(v*64+(s.getD (i+1) 0).toNat-128)*64+(s.getD (i+2) 0).toNat-128])) else e (B3 P)) else e (B3 P):=by
 have m:=(s.getD (i+1) 0).toNat_lt;have l:=(s.getD (i+2) 0).toNat_lt;have j:=C2;unfold Di;have g:A1 ((s.length:Int)-i)=((s.length-i:Nat):Int):=by rw[A7];omega
 rw[g];simp only[vl];by_cases h:s.length-i<3
 ·rw[A8,F9];rfl
 ·rw[A6,cond_false];refine a8 (Y2 s d LF i 3 v a 1 (B3 P) (by omega) (by omega) (by omega) (by omega) (by omega)) ?_;by_cases b:128<=(s.getD (i+1) 0).toNat/\(s.getD (i+1) 0).toNat<=191
  ·rw[if_pos b];refine a8 (Y2 s d (LF-1) i 3 _ a 2 (B3 P) (by omega) (by omega) (by omega) (by omega) (by omega)) ?_;by_cases c:128<=(s.getD (i+2) 0).toNat/\(s.getD (i+2) 0).toNat<=191
   ·rw[if_pos c,if_pos ⟨by omega,b,c⟩];refine a8 (Ou s (LF-2) i 3 _ a (B3 P) (by omega)) ?_;exact Qm s d i 3 _ a P k (by omega) (by omega) (by omega)
   ·rw[if_neg c,if_neg (λh=>c h.2.2)]
  ·rw[if_neg b,if_neg (λh=>b h.2.1)]
theorem Bu5{R:Type}{f:LL->Option R}{g:By->Int->LL->Option R}(s:By)(e:s.length<=1000000000)(i v a:Nat)(P:List Nat)(l:P.length<=1000000000)(p:i<s.length)(q:v<=20) :
  Di LF s i 4 v a (B3 P) f g=if 4<=s.length-i/\(128<=(s.getD (i+1) 0).toNat/\(s.getD (i+1) 0).toNat<=191)/\(128<=(s.getD (i+2) 0).toNat/\(s.getD (i+2) 0).toNat<=191)/\(128<=(s.getD (i+3) 0).toNat/\(s.getD (i+3) 0).toNat<=191) then
   (if a<=((v*64+(s.getD (i+1) 0).toNat-128)*64+(s.getD (i+2) 0).toNat-128)*64+(s.getD (i+3) 0).toNat-128/\U3 (((v*64+(s.getD (i+1) 0).toNat-128)*64+(s.getD (i+2) 0).toNat-128)*64+(s.getD (i+3) 0).toNat-128)=true then g s ((i+4:Nat):Int) (B3 (P++[((v*64+(s.getD (i+1) 0).toNat-128)*64+(s.getD (i+2) 0).toNat-128)*64+(s.getD (i+3) 0).toNat-128])) else f (B3 P)) else f (B3 P):=by
 have o:=(s.getD (i+1) 0).toNat_lt;have m:=(s.getD (i+2) 0).toNat_lt;have n:=(s.getD (i+3) 0).toNat_lt;have k:=C2;unfold Di;have j:A1 ((s.length:Int)-i)=((s.length-i:Nat):Int):=by rw[A7];omega
 rw[j];simp only[vl];by_cases h:s.length-i<4
 ·rw[A8,F9];rfl
 ·rw[A6,cond_false];refine a8 (Y2 s e LF i 4 v a 1 (B3 P) (by omega) (by omega) (by omega) (by omega) (by omega)) ?_;by_cases b:128<=(s.getD (i+1) 0).toNat/\(s.getD (i+1) 0).toNat<=191
  ·rw[if_pos b];refine a8 (Y2 s e (LF-1) i 4 _ a 2 (B3 P) (by omega) (by omega) (by omega) (by omega) (by omega)) ?_;by_cases c:128<=(s.getD (i+2) 0).toNat/\(s.getD (i+2) 0).toNat<=191
   ·rw[if_pos c];refine a8 (Y2 s e (LF-2) i 4 _ a 3 (B3 P) (by omega) (by omega) (by omega) (by omega) (by omega)) ?_;by_cases d:128<=(s.getD (i+3) 0).toNat/\(s.getD (i+3) 0).toNat<=191
    ·rw[if_pos d,if_pos ⟨by omega,b,c,d⟩];refine a8 (Ou s (LF-3) i 4 _ a (B3 P) (by omega)) ?_;exact Qm s e i 4 _ a P l (by omega) (by omega) (by omega)
    ·rw[if_neg d,if_neg (λh=>d h.2.2.2)]
   ·rw[if_neg c,if_neg (λh=>c h.2.2.1)]
  ·rw[if_neg b,if_neg (λh=>b h.2.1)]
theorem A49{R:Type}{a:By->Int->Int->LL->Option R}(n:Nat)(b:0<n)(s:By)(i v:Int)(l:LL):Wu LF n s i v l a=a s i v l:=by
 obtain⟨n,rfl⟩:∃m,n=m+1:=⟨n-1,by omega⟩
 rw[Wu]
theorem A43{R:Type}{a:LL->Option R}{b:By->Int->LL->Option R}(s:By)(e:s.length<=1000000000)(i v:Nat)(P:List Nat)(d:P.length<=1000000000)(f:i<s.length)(g:v<128) :
  Wt LF s i v (B3 P) a b=b s ((i+1:Nat):Int) (B3 (P++[v])):=by
 unfold Wt;have c:A1 ((s.length:Int)-i)=((s.length-i:Nat):Int):=by rw[A7];omega
 rw[c];simp only[vl];rw[A6,cond_false];refine a8 (show _=cond (ltI (v:Int) ((0:Nat):Int)) (a (B3 P)) (cond (not (ptI v)) (a (B3 P)) (cond (F6 ((B3 P).length+1)) (b s (A1 ((i:Int)+(1:Nat))) (B3 P++[[SV.int .i64 (v:Int)]])) none)) from A49 LF (by have:=C2;omega) _ _ _ _) ?_;rw[Qm s e i 1 v 0 P d (by omega) (by omega) (by omega),if_pos];refine⟨ad7 _,?_⟩;simp only[U3,s8,ad9,o5,ac7];omega
theorem B83{v:Nat}(h:v<2048):U3 v=true:=by simp only[U3,s8,ad9,o5,ac7];omega
theorem A52{R:Type}{k0 k1:LL->Option R}(s:By)(h:s.length<=1000000000)(n i:Nat)(P:List Nat)(d:P.length<=1000000000)(f:i<s.length) :
  Y3 LF (n+1) s i (B3 P) k0 k1=if (p5 (s.drop i)).1=65533/\(p5 (s.drop i)).2=1 then k0 (B3 P) else Y3 LF n s ((i+(p5 (s.drop i)).2:Nat):Int) (B3 (P++[(p5 (s.drop i)).1])) k0 k1:=by
 have g:∀k,(s.drop i).getD k 0=s.getD (i+k) 0:=λk=>by grind
 have r:p5 (s.drop i)=x5 (s.length-i) (s.getD i 0).toNat (s.getD (i+1) 0).toNat (s.getD (i+2) 0).toNat (s.getD (i+3) 0).toNat:=by
  rw[Lib.decodeL_N,g,g,g,g,j7];rfl
 have v:=(s.getD i 0).toNat_lt;have j:=(s.getD (i+1) 0).toNat_lt;have m:=(s.getD (i+2) 0).toNat_lt;have t:=(s.getD (i+3) 0).toNat_lt;rw[r];rw[Y3,A8,E6,D0,C6 (n:=((s.getD i 0).toNat:Int)) (by omega) (by omega)];simp only[cond_true];generalize (s.getD i 0).toNat=b at *;by_cases l:b<128
 ·rw[A8,cond_true];have e:x5 (s.length-i) b (s.getD (i+1) 0).toNat (s.getD (i+2) 0).toNat (s.getD (i+3) 0).toNat=(b,1):=by unfold x5;rw[if_pos l]
  rw[e];simp only;rw[F9];exact A43 s h i b P d f l
 ·rw[E1 (show(128:Int)<=b by omega),cond_false];by_cases u:b<194
  ·rw[B5 (show(b:Int)<194 by omega)];have e:x5 (s.length-i) b (s.getD (i+1) 0).toNat (s.getD (i+2) 0).toNat (s.getD (i+3) 0).toNat=(65533,1):=by
    unfold x5;grind
   rw[e,if_pos ⟨rfl,rfl⟩];simp only[j1,cond_false];unfold Lz;unfold Ly;rw[cond_false,B5 (show(b:Int)<224 by omega),B5 (show(b:Int)<240 by omega)];rfl
  ·rw[E1 (show(194:Int)<=b by omega)];simp only[j0,cond_true];by_cases o:b<224
   ·rw[B5 (show(b:Int)<224 by omega)];unfold Lz;have c:A1 ((b:Int)-192)=((b-192:Nat):Int):=by rw[A7];omega
    rw[cond_true,c,Dk0 _ _ _ _ _ ⟨by omega,o⟩ j];simp only[vl];refine a8 (Bu3 s h i (b-192) 128 P d f (by omega)) ?_;by_cases a:2<=s.length-i/\128<=(s.getD (i+1) 0).toNat/\(s.getD (i+1) 0).toNat<=191
    ·rw[if_pos a,if_pos a];simp only;rw[if_pos ⟨by omega,B83 (by omega)⟩,F9]
    ·rw[if_neg a,if_neg a,if_pos ⟨rfl,rfl⟩]
   ·rw[E1 (show(224:Int)<=b by omega)];unfold Lz;rw[cond_false,E1 (show(224:Int)<=b by omega)];simp only[j0,cond_true];by_cases p:b<240
    ·rw[B5 (show(b:Int)<240 by omega)];unfold Ly;have c:A1 ((b:Int)-224)=((b-224:Nat):Int):=by rw[A7];omega
     rw[cond_true,c,Dk1 _ _ _ _ _ ⟨by omega,p⟩ j m];simp only[vl];refine a8 (Bu4 s h i (b-224) 2048 P d f (by omega)) ?_;by_cases a:3<=s.length-i/\(128<=(s.getD (i+1) 0).toNat/\(s.getD (i+1) 0).toNat<=191)/\(128<=(s.getD (i+2) 0).toNat/\(s.getD (i+2) 0).toNat<=191)
     ·rw[if_pos a,if_pos a];split
      ·simp only;rw[F9]
      ·rw[if_pos ⟨rfl,rfl⟩]
     ·rw[if_neg a,if_neg a,if_pos ⟨rfl,rfl⟩]
    ·rw[E1 (show(240:Int)<=b by omega)];unfold Ly;rw[cond_false,E1 (show(240:Int)<=b by omega)];simp only[j0,cond_true];by_cases q:b<245
     ·rw[B5 (show(b:Int)<245 by omega),cond_true];have c:A1 ((b:Int)-240)=((b-240:Nat):Int):=by rw[A7];omega
      rw[c,Dk2 _ _ _ _ _ ⟨by omega,q⟩ j m t];simp only[vl];refine a8 (Bu5 s h i (b-240) 65536 P d f (by omega)) ?_;by_cases a:4<=s.length-i/\(128<=(s.getD (i+1) 0).toNat/\(s.getD (i+1) 0).toNat<=191)/\(128<=(s.getD (i+2) 0).toNat/\(s.getD (i+2) 0).toNat<=191)/\(128<=(s.getD (i+3) 0).toNat/\(s.getD (i+3) 0).toNat<=191)
      ·rw[if_pos a,if_pos a];split
       ·simp only;rw[F9]
       ·rw[if_pos ⟨rfl,rfl⟩]
      ·rw[if_neg a,if_neg a,if_pos ⟨rfl,rfl⟩]
     ·rw[E1 (show(245:Int)<=b by omega),cond_false];have e:x5 (s.length-i) b (s.getD (i+1) 0).toNat (s.getD (i+2) 0).toNat (s.getD (i+3) 0).toNat=(65533,1):=by
       unfold x5;grind
      rw[e,if_pos ⟨rfl,rfl⟩]
theorem Bu6(s:By)(k:s.length<=1000000000):∀(r i n:Nat) (P:List Nat),i+r=s.length->r<n->P.length<=i->
  (Cv (s.drop i)=none->∃l,∀(R:Type) (k0 k1:LL->Option R),Y3 LF n s i (B3 P) k0 k1=k0 l)/\
  (∀q,Cv (s.drop i)=some q->∀(R:Type) (k0 k1:LL->Option R),Y3 LF n s i (B3 P) k0 k1=k1 (B3 (P++q))):=by
 intro r
 induction r using ab8 with
 | _ r o=>
  intro i n P v w u;obtain⟨n,rfl⟩:∃m,n=m+1:=⟨n-1,by omega⟩
  by_cases j:i<s.length
  ·have d:s.drop i≠[]:=by rw[ne_eq,<-x6,j7];omega
   have c:=λ(R:Type) (k0 k1:LL->Option R)=>A52 (k0:=k0) (k1:=k1) s k n i P (by omega) j
   have x:=Lib.decodeL_width (s.drop i);have g:=Lib.decodeL_le (s.drop i) d;rw[j7] at g;rw[Br8 _ d];by_cases a:(p5 (s.drop i)).1=65533/\(p5 (s.drop i)).2=1
   ·rw[if_pos a];refine⟨λ_=>⟨B3 P,λR k0 k1=>?_⟩,λq b=>by cases b⟩;refine(c R k0 k1).trans ?_;rw[if_pos a]
   ·rw[if_neg a,aa7];obtain⟨w1,t⟩:=o (r-(p5 (s.drop i)).2) (by omega) (i+(p5 (s.drop i)).2) n (P++[(p5 (s.drop i)).1]) (by omega) (by omega) (by rw[j4,p4];omega);constructor
    ·intro h;cases b:Cv (s.drop (i+(p5 (s.drop i)).2)) with
     | some q=>rw[b] at h;cases h
     | none=>
      obtain⟨l,e⟩:=w1 b;refine⟨l,λR k0 k1=>?_⟩;refine(c R k0 k1).trans ?_;rw[if_neg a];exact e R k0 k1
    ·intro q h R k0 k1;cases b:Cv (s.drop (i+(p5 (s.drop i)).2)) with
     | none=>rw[b] at h;cases h
     | some p=>
      rw[b] at h;simp only[ab9,o8] at h;subst h;refine(c R k0 k1).trans ?_;rw[if_neg a];refine(t p b R k0 k1).trans ?_;rw[p6];rfl
  ·have f:s.drop i=[]:=by rw[<-x6,j7];omega
   have e:∀(R:Type) (k0 k1:LL->Option R),Y3 LF (n+1) s i (B3 P) k0 k1=k1 (B3 P):=λR k0 k1=>by
    rw[Y3];rw[A6];rfl
   rw[f,show Cv []=some [] from rfl];refine⟨λh=>(by cases h),λq b R k0 k1=>?_⟩;simp only[o8] at b;subst b;rw[aa1];exact e R k0 k1
theorem Cy0(s:By)(d:A3 s.length=true):∃r H,Cx7 LF s (λa=>rv (.tup [.fl 1,.s (.bool false)]) [.arr true 3 1 a,.arr true 3 1 []]) (λa=>rv (.tup [.fl 0,.s (.bool true)]) [.arr true 3 1 a])=rv r H/\
  r.stab [1,0] H = .tup [.s (.sl (Qw s).isEmpty (Qw s).isEmpty 1 (Lo (Qw s))),.s (.bool (Cv s).isSome)]:=by
 have f:=L6 d;obtain⟨w1,c⟩:=Bu6 s f s.length 0 LF [] (by omega) (by have:=C2;omega) (ad7 _);rw[j8] at w1 c;unfold Qw;cases b:Cv s with
 | none=>
  obtain⟨l,e⟩:=w1 b;exact⟨_,_,e _ _ _,rfl⟩
 | some q=>
  refine⟨_,_,c q b _ _ _,?_⟩;cases q<;>rfl
theorem A40{R:Type}{a:Unit->Option R}{d:By->Bool->LL->Bool->Option R}(s:By)(z:Bool)(p:List Nat)(t:p.length<=1000000000):∀(r i n:Nat) (b:Bool),i+r=p.length->r<n->
  X1 LF n s z (B3 p) b (i:Int) a d=if (p.drop i).any (λp=>p7 65 p&&p7 p 90) then a () else d s z (B3 p) (b||((p.drop i).any λp=>p7 128 p)):=by
 intro r
 induction r with
 | zero=>
  intro i n b h j;obtain⟨n,rfl⟩:∃m,n=m+1:=⟨n-1,by omega⟩
  rw[X1];rw[D1,A6,c9 (by omega)];simp
 | succ r k=>
  intro i n b h j;obtain⟨n,rfl⟩:∃m,n=m+1:=⟨n-1,by omega⟩
  rw[X1];have f:A1 ((i:Int)+1)=((i+1:Nat):Int):=by rw[A7];rfl
  have g:p.drop i=p.getD i 0::p.drop (i+1):=by
   rw[j5,o6 (by omega),y8,ab6]
  rw[D1,A8,E6,b8,Qd (by omega),Zo _ _ (by omega),g,ab2,ab2,f];simp only[cond_true];generalize p.getD i 0=q;have go:∀c:Bool,X1 LF n s z (B3 p) c ((i+1:Nat):Int) a d=_:=λc=>k (i+1) n c (by omega) (by omega)
  simp only[go];by_cases l:q<65
  ·rw[show ltI (q:Int) (65:Int)=true from A8,show p7 65 q=false by rw[k9,ne_eq,o5];omega];have e:p7 128 q=false:=by rw[k9,ne_eq,o5];omega
   rw[show ltI (q:Int) (128:Int)=true from A8,e];cases b<;>simp
  ·rw[show ltI (q:Int) (65:Int)=false from A6,show p7 65 q=true by rw[o5];omega];by_cases e:90<q
   ·rw[show ltI (90:Int) (q:Int)=true from A8,show p7 q 90=false by rw[k9,ne_eq,o5];omega];by_cases o:q<128
    ·rw[show ltI (q:Int) (128:Int)=true from A8,show p7 128 q=false by rw[k9,ne_eq,o5];omega];cases b<;>simp
    ·rw[show ltI (q:Int) (128:Int)=false from A6,show p7 128 q=true by rw[o5];omega];cases b<;>simp
   ·rw[show ltI (90:Int) (q:Int)=false from A6,show p7 q 90=true by rw[o5];omega];cases b<;>simp
theorem A41{R:Type}{a:Bool->Option R}(s:By)(b:A3 s.length=true):Bi6 LF s a=a (Dg s):=by
 have c:=C2;unfold Bi6 Dg;rw[b,cond_true];simp only[vl];by_cases h:(M7 s).2=0
 ·have e:(((M7 s).2:Int)!=(0:Int))=false:=by rw[h];rfl
  rw[e,cond_false,Ct,h];have g:=YM s;refine a8 (A40 s _ (M7 s).1 (by omega) (M7 s).1.length 0 LF false (by omega) (by omega)) ?_;rw[j8];cases d:(M7 s).1.any (λp=>p7 65 p&&p7 p 90) with
  | true=>simp
  | false=>
   rw[if_neg (by simp),Dd,Ux,Uz];simp only[cond_true,vl,ac5,j0];by_cases f:(Cl (M7 s).1).2=0;all_goals grind
 grind
theorem A21{R:Type}{g:Unit->Option R}{j:By->Option R}(s:By)(v:s.length<=1000000000):∀(r i n:Nat),i+r=s.length->r<n->
  N1 LF n s (i:Int) g j=if (s.drop i).all T1 then j s else g ():=by
 intro r
 induction r with
 | zero=>
  intro i n l c;obtain⟨n,rfl⟩:∃m,n=m+1:=⟨n-1,by omega⟩
  rw[N1];rw[A6,c9 (by omega)];rfl
 | succ r o=>
  intro i n l c;obtain⟨n,rfl⟩:∃m,n=m+1:=⟨n-1,by omega⟩
  rw[N1];have k:A1 ((i:Int)+1)=((i+1:Nat):Int):=by rw[A7];rfl
  rw[A8,E6,D0,D2 s i (by omega),k,y9];simp only[cond_true];rw[o (i+1) n (by omega) (by omega)];generalize s.getD i 0=b;have f:=Ok b;have t:((b.toNat:Int)==45)=(b==45):=P7 b 45 (by omega);have u:((b.toNat:Int)==95)=(b==95):=P7 b 95 (by omega);rw[t,u];cases a:T1 b with
  | true=>
   rw[f] at a;simp only[w9];by_cases d:b=45
   ·subst d;simp (disch:=decide) [ltI]
   ·by_cases e:b=95
    ·subst e;simp (disch:=decide) [ltI]
    ·rcases a with a|a|a|a
     ·rw[show ltI (b.toNat:Int) 97=false from A6,show ltI (122:Int) b.toNat=false from A6];rfl
     ·rw[show ltI (b.toNat:Int) 97=true from A8,show ltI (b.toNat:Int) 48=false from A6,show ltI (57:Int) b.toNat=false from A6];rfl
     ·exact absurd a d
     ·exact absurd a e
  | false=>
   have c:¬((97<=b.toNat/\b.toNat<=122)\/(48<=b.toNat/\b.toNat<=57)\/b=45\/b=95):=λh=>by rw[f.2 h] at a;cases a
   have p:(b==45)=false:=by simpa using λh=>c (.inr (.inr (.inl h)))
   have q:(b==95)=false:=by simpa using λh=>c (.inr (.inr (.inr h)))
   rw[p,q];simp only[j0,cond_true,cond_false,Bool.false_and,aa5,if_false];by_cases d:b.toNat<48
   ·rw[show ltI (b.toNat:Int) 97=true from A8,show ltI (b.toNat:Int) 48=true from A8];rfl
   ·by_cases e:b.toNat<97
    ·rw[show ltI (b.toNat:Int) 97=true from A8,show ltI (b.toNat:Int) 48=false from A6,show ltI (57:Int) b.toNat=true from A8];rfl
    ·rw[show ltI (b.toNat:Int) 97=false from A6,show ltI (122:Int) b.toNat=true from A8,show ltI (b.toNat:Int) 48=false from A6,show ltI (57:Int) b.toNat=true from A8];rfl
theorem Ch2(s:By)(h:4<=s.length):(s.take 4==([120,110,45,45]:List UInt8))=xnB.isPrefixOf s:=by
 match s,h with
 | a::b::c::d::t,_=>
  simp only[List.take_succ_cons,List.take_zero,xnB,List.isPrefixOf,ac4];rw[show((a::b::c::d::[])==([120,110,45,45]:List UInt8))=(a==120&&(b==110&&(c==45&&(d==45&&true)))) from rfl,ac4];rw[aa0];simp only[s8,beq_iff_eq];exact⟨λh=>⟨h.1.symm,h.2.1.symm,h.2.2.1.symm,h.2.2.2.symm⟩,λh=>⟨h.1.symm,h.2.1.symm,h.2.2.1.symm,h.2.2.2.symm⟩⟩
theorem A22{R:Type}{c:Bool->Option R}(s:By)(e:A3 s.length=true):Bi2 LF s c=c (K5 s):=by
 have k:=L6 e;have i:=C2;unfold Bi2 K5;by_cases a:s=[]
 ·grind
 ·have r:0<s.length:=x3.2 a;have j:s.isEmpty=false:=by simpa using a
  have b:(s==([]:List UInt8))=false:=by simpa using a
  rw[b,cond_false,j];by_cases n:63<s.length
  ·rw[A8,show p7 s.length 63=false by rw[k9,ne_eq,o5];omega];rfl
  ·rw[A6,cond_false,show p7 s.length 63=true by rw[o5];omega,E6];have m:(bAt s 0==(45:Int))=(s.getD 0 0==45):=by rw[Z9];exact P7 _ 45 (by omega)
   have d:A1 ((s.length:Int)-1)=((s.length-1:Nat):Int):=by rw[A7];omega
   rw[m,d];simp only[cond_true,vl];rw[E6,D0,show((((s.getD (s.length-1) 0).toNat:Nat):Int)==45)=(s.getD (s.length-1) 0==45) from P7 _ 45 (by omega)];cases f:(s.getD 0 0==45) with
   | true=>
    grind
   | false=>
    rw[show(s.getD 0 0 !=45)=true by unfold bne;rw[f];rfl];simp only[cond_true,cond_false];cases g:(s.getD (s.length-1) 0==45) with
    | true=>
     grind
    | false=>
     rw[show(s.getD (s.length-1) 0 !=45)=true by unfold bne;rw[g];rfl];simp only[cond_false];refine a8 (A21 s k s.length 0 LF (by omega) (by omega)) ?_;rw[j8];cases o:s.all T1 with
     | false=>simp
     | true=>
      rw[if_pos rfl];simp only[j0,w9,ac4];by_cases p:s.length<4
      ·rw[A8];have:xnB.isPrefixOf s=false:=by
        rw[k9,ne_eq,aa8];intro h;have:=h.length_le;simp only[xnB,j6,w6] at this;omega
       grind
      ·rw[A6,cond_false,H9,cond_true,J8];have l:(y5 (b9 4) s==([120,110,45,45]:List UInt8))=xnB.isPrefixOf s:=Ch2 s (by omega);rw[l];cases q:xnB.isPrefixOf s with
       | false=>rfl
       | true=>
        rw[H9,P8];simp only[j1,cond_false,cond_true];rw[E0 (by rw[j7];omega)];rfl
theorem A19{R:Type}{h:By->Int->Option R}(s:By)(c:A3 s.length=true):Bi1 LF s h=h (I5 s).1 ((I5 s).2:Nat):=by
 have m:=L6 c;have j:=C2;unfold Bi1 I5;rw[c,cond_true];cases f:Cv s with
 | none=>rfl
 | some p=>
  have hN:(Qw s)=p:=by unfold Qw;rw[f];rfl
  rw[hN,Ct,D1];simp only[ac8,j1,cond_false,cond_true];by_cases d:256<p.length
  ·rw[if_pos d,A8];rfl
  ·rw[if_neg d,A6,cond_false,E0 (by rw[Fl];exact m)];by_cases e:p.length<s.length
   ·rw[if_pos e,A8];have a:=Aa8 (l:=s) (by rw[f];rfl);cases g:Cv (B6 s) with
    | none=>rw[g] at a;cases a
    | some q=>
     have b:Qw (B6 s)=q:=by unfold Qw;rw[g];rfl
     have k:=YU q;rw[b,Ct,Dd,Ux,Uz];simp only[cond_true,vl];rw[G2 (by omega),cond_true,E0 (by rw[j4];simp only[j6,w6];omega),cond_true];by_cases i:(Cl q).2=0
     ·rw[i,if_pos rfl];show cond (not (K5 (xnB++(Cl q).1))) _ _=_;cases n:K5 (xnB++(Cl q).1) with
      | true=>rfl
      | false=>rfl
     grind
   ·rw[if_neg e,A6];grind
section
variable {Z R : Type} (L : Nat) (Q : F7) (Y : Yh Z) (s : Z) (k : Out -> St Z -> Option R)
noncomputable abbrev GM:Code:=C4 ad2
noncomputable def Qz(L:Nat):Cfg:=B4 L [115] (A2 []) [] (A2 [(7,[2]),(2,[2]),(4,[2]),(6,[2]),(5,[0,23]),(3,[0,12]),(1,[0,2]),(0,[0])]) [] (A2 [(0,[])]) (some [2]) [] [] []
noncomputable def JI{R:Type}(a:Int)(h:Bool)(f:Int->Option R)(g:Int->Bool->Option R):Option R:=cond h (vl (A1 (wu8 (a-97))) λb=>vl (A1 (b+10)) λc=>f c) (cond (not (ltI a 65)) (cond (not (ltI 70 a)) (vl (A1 (wu8 (a-65))) λd=>vl (A1 (d+10)) λe=>f e) (g a (not (ltI 70 a)))) (g a false))
abbrev Ac1(b:Code):Prop:=∀(k:Out->St Z->Option R) a c,A9 (Qz L) Q Y b ⟨gp [(0,p8 a),(12,pB c)] 21,[],s⟩ k=JI a c (λn0=>k .ret ⟨gp [(2,pI n0)] 32,[],s⟩) (λa c=>k .normal ⟨gp [(0,p8 a),(23,pB c)] 10,[],s⟩)
theorem Bt2:Ac1 (R:=R) L Q Y s (cd [1,0,0,1,1,1] GM):=by intro k a b;unfold JI;kernel_rfl
noncomputable def JJ{R:Type}(b:Int)(l:Bool)(f:Int->Option R)(j:Int->Bool->Option R):Option R:=cond l (vl (A1 (wu8 (b-48))) λg=>f g) (cond (not (ltI b 97)) (JI b (not (ltI 102 b)) (λh=>f h) (λc d=>j c d)) (JI b false (λi=>f i) (λe a=>j e a)))
abbrev JK(b:Code):Prop:=∀(k:Out->St Z->Option R) a c,A9 (Qz L) Q Y b ⟨gp [(0,p8 a),(2,pB c)] 31,[],s⟩ k=JJ a c (λn0=>k .ret ⟨gp [(2,pI n0)] 32,[],s⟩) (λa c=>k .normal ⟨gp [(0,p8 a),(23,pB c)] 10,[],s⟩)
theorem Bt3(a:Code)(b:Ac1 (R:=R) L Q Y s a):JK (R:=R) L Q Y s (cd [1,0,0,1] (G5 [1,0,0,1,1,1] a GM)):=by intro k c d;unfold JJ;simp only[<-b k];kernel_rfl
theorem Bt4:JK (R:=R) L Q Y s (cd [1,0,0,1] GM):=by intro k a b;exact a8 (by kernel_rfl) (Bt3 L Q Y s (cd [1,0,0,1,1,1] GM) (Bt2 L Q Y s) k a b)
noncomputable def rhx{R:Type}(L:Nat)(c:Int)(d:Int->Option R):Option R:=cond (not (ltI c 48)) (JJ c (not (ltI 57 c)) (λa=>d a) (λe f=>d (-1))) (JJ c false (λb=>d b) (λg h=>d (-1)))
theorem Da8(b:Code)(a:JK (R:=PV × List Blk × Z) L Q Y s b)(c:Int):A9 (Qz L) Q Y (cd [] (G5 [1,0,0,1] b GM)) ⟨[p8 c]++tps 34,[],s⟩ (F5 (Qz L) ad2)=rhx L c (λe=>some (pI e,[],s)):=by unfold rhx;exact let d:=(E3 0 (E2 (Qz L) Q Y (cd [1,1] GM) (F5 (Qz L) ad2)));(a8 (by kernel_rfl) (A0 ((a d c (not (ltI 57 c))).trans (by kernel_rfl)) ((a d c false).trans (by kernel_rfl))))
theorem Da9(d:Nat)(b0):evC (Qz L) (d+1) Z Y 115 [p8 b0] [] s=rhx L b0 (λa=>some (pI a,[],s)):=
 (evE (fn:=ad2) (by kernel_rfl)).trans (a8 (by kernel_rfl) (Da8 L (evC (Qz L) d) Y s (cd [1,0,0,1] GM) (Bt4 L (evC (Qz L) d) Y s) b0))
noncomputable abbrev Bd7:Code:=C4 af7
noncomputable def Kx(L:Nat):Cfg:=B4 L [85] (A2 [(3,[0,1,0,0,0])]) [(115,C59)] (A2 [(11,[2,0]),(4,[0,3,0]),(10,[0,3,0]),(9,[0,3,0]),(8,[2,0]),(7,[0,3,0,36]),(6,[0,3,0]),(5,[0,3,0,9]),(3,[0,3,0,3]),(2,[0,3,0]),(1,[0,3]),(0,[0])]) [115] (A2 [(0,[4]),(1,[0,3,0])]) (some [2,0]) [] [] []
noncomputable def N9{R:Type}(L n:Nat)(b:By)(a:Int)(c:LL)(d:LL->Option R)(j:LL->Option R):Option R:=match n with|0=>none|n+1=>cond (ltI a (b.length:Int)) (cond (inR a b.length) (cond ((bAt b a)!=37) (cond (inR a b.length) (cond (F6 (c.length+1)) (N9 L n b (A1 (a+1)) (c++[[(SV.int .u8 (bAt b a))]]) d j) none) none) (vl (A1 ((b.length:Int)-a)) λl=>cond (ltI l 3) (d c) (cond (inR (A1 (a+1)) b.length) (vl (bAt b (A1 (a+1))) λf=>cond (inR f 256) (cond (ltI (El (u8n f)) (0:Int)) (d c) (cond (inR (A1 (a+2)) b.length) (vl (bAt b (A1 (a+2))) λg=>cond (inR g 256) (cond (ltI (El (u8n g)) (0:Int)) (d c) (cond (inR (A1 (a+1)) b.length) (vl (bAt b (A1 (a+1))) λh=>cond (inR h 256) (vl (A1 ((16:Int)*(El (u8n h)))) λm=>cond (inR (A1 (a+2)) b.length) (vl (bAt b (A1 (a+2))) λi=>cond (inR i 256) (vl (A1 (m+(El (u8n i)))) λo=>cond (F6 (c.length+1)) (vl (A1 ((A1 (a+2))+1)) λe=>N9 L n b e (c++[[(SV.int .u8 (wu8 o))]]) d j) none) none) none) none) none)) none) none)) none) none))) none) (j c)
theorem Ab9(n s0 i1 l2):C5 1 ((Kx L).keep 3) (bd (Kx L) Q Y (cd [1,1,0,1,0,0] Bd7)) n ⟨gp [(0,pS s0),(3,.fl 0),(0,pI i1)] 57,[.arr true 5 1 l2],s⟩ k =
 N9 L n s0 i1 l2 (λa=>k .ret ⟨gp [(2,pS ([]:List UInt8)),(0,pB false)] 59,[.arr true 5 1 a],s⟩) (λa=>k (.exit 0) ⟨gp [(4,.fl 0)] 58,[.arr true 5 1 a],s⟩):=by
 induction n generalizing s0 i1 l2 with
 | zero=>rfl
 | succ n b=>rw[N9];simp only[<-b];kernel_rfl
noncomputable def Bh9{R:Type}(L:Nat)(d:By)(c:By->Bool->LL->Option R):Option R:=N9 L L d 0 [] (λb=>c ([]:List UInt8) false b) (λa=>cond (ad1 a Nh) (c (ab5 Lc a) true a) none)
theorem Cc5(d:Nat)(s0):evC (Kx L) (d+1) Z Y 85 [pS s0] [] s=Bh9 L s0 (λb c a=>some (.tup [pS b,pB c],[.arr true 5 1 a],s)):=by refine(evE (fn:=af7) (by kernel_rfl)).trans ?_;generalize evC (Kx L) d=Q;unfold Bh9;exact(a8 (by kernel_rfl) ((Ab9 L Q Y s (E3 0 (E2 (Kx L) Q Y (cd [1,1,1] Bd7) (F5 (Kx L) af7))) L s0 0 []).trans (by kernel_rfl)))
noncomputable abbrev B42:Code:=C4 af6
noncomputable def Sk(L:Nat):Cfg:=B4 L [66] (A2 [(5,[2,0,0])]) [(86,Rq),(88,Jj),(94,QM)] (A2 [(9,[2]),(6,[3,0]),(8,[2]),(7,[3,0,24]),(5,[3,0,16]),(4,[3,0]),(3,[3]),(2,[2]),(1,[0,14]),(0,[0])]) [86,94] (A2 [(0,[]),(1,[3,0])]) (some [2]) [] [] []
noncomputable def Lx{R:Type}(L n:Nat)(b:LL)(a:Int)(c:Unit->Option R)(d:Unit->Option R):Option R:=match n with|0=>none|n+1=>cond (ltI a (b.length:Int)) (cond (inR a b.length) (cond (okE Oz b (b9 a) 0) (cond (A3 (j2 (gX b (b9 a) 0))) (cond (not (K5 (gX b (b9 a) 0))) (c ()) (Lx L n b (A1 (a+1)) c d)) none) none) none) (d ())
theorem A18(n p0 i1):C5 0 ((Sk L).keep 5) (bd (Sk L) Q Y (cd [1,1,1,0,1,0,0] B42)) n ⟨gp [(3,.s (.sl false false 1 p0)),(0,pI i1)] 25,[],s⟩ k =
 Lx L n p0 i1 (λ_=>k .ret ⟨gp [(2,pB false)] 27,[],s⟩) (λ_=>k (.exit 0) ⟨gp [] 30,[],s⟩):=by
 induction n generalizing p0 i1 with
 | zero=>rfl
 | succ n a=>rw[Lx];simp only[<-a];kernel_rfl
noncomputable def Cw9{R:Type}(L:Nat)(a:By)(b:Bool->Option R):Option R:=cond (a==[]) (b false) (cond (ltI 253 (a.length:Int)) (b false) (cond (A3 a.length) (cond (G0 a) (b false) (cond (A3 a.length) (vl (D4 (pcs (u8n (46:Int)) a)) λc=>Lx L L c 0 (λ_=>b false) (λ_=>b true)) none)) none))
theorem Cx0(d:Nat)(name0):evC (Sk L) (d+1) Z Y 66 [pS name0] [] s=Cw9 L name0 (λb=>some (pB b,[],s)):=by refine(evE (fn:=af6) (by kernel_rfl)).trans ?_;generalize evC (Sk L) d=Q;unfold Cw9;exact(a8 (by kernel_rfl) (A0 rfl (A0 rfl (A0 (A0 rfl (A0 (A4 λa=>((A18 L Q Y s (E3 0 (E2 (Sk L) Q Y (cd [1,1,1,1] B42) (F5 (Sk L) af6))) L a 0).trans (by kernel_rfl))) rfl)) rfl))))
noncomputable def SY(L:Nat):Cfg:=B4 L [48] (A2 []) [(66,B21)] (A2 [(9,[2]),(4,[2]),(6,[2]),(8,[2]),(7,[1,32]),(5,[1,1,2,16]),(3,[1,1,2,0]),(2,[1,1,2]),(1,[1,1]),(0,[1])]) [66] (A2 [(0,[])]) (some [2]) [] [] []
noncomputable def Cd1{R:Type}(L:Nat)(c:Int)(b:By)(d e f g h i j l a:Int)(m:Bool->Int->By->Int->Int->Int->Int->Int->Int->Int->Int->Int->LL->Option R):Option R:=cond (c==1) (cond (A3 b.length) (cond (Ee b) (cond (d==0) (m ((e==0)&&((f==0)&&((g==0)&&((h==0)&&((i==0)&&((j==0)&&((l==0)&&((a==0)&&true)))))))) c b d e f g h i j l a (s9 8 [(SV.int .u16 (0:Int))])) (m false c b d e f g h i j l a (s9 8 [(SV.int .u16 (0:Int))]))) (m false c b d e f g h i j l a (s9 8 [(SV.int .u16 (0:Int))]))) none) (cond (c==2) (cond (b==[]) (m ((e==0)&&((f==0)&&((g==0)&&((h==0)&&((i==0)&&((j==0)&&((l==0)&&((a==0)&&true)))))))) c b d e f g h i j l a (s9 8 [(SV.int .u16 (0:Int))])) (m false c b d e f g h i j l a (s9 8 [(SV.int .u16 (0:Int))]))) (cond (c==3) (cond (b==[]) (m (d==0) c b d e f g h i j l a (s9 8 [(SV.int .u16 (0:Int))])) (m false c b d e f g h i j l a (s9 8 [(SV.int .u16 (0:Int))]))) (m false c b d e f g h i j l a (s9 8 [(SV.int .u16 (0:Int))]))))
theorem Cd2(d:Nat)(h0 h1 h2 h3 h4 h5 h6 h7 h8 h9 h10):evC (SY L) (d+1) Z Y 48 [.agg [pI h0,pS h1,p32 h2,p16 h3,p16 h4,p16 h5,p16 h6,p16 h7,p16 h8,p16 h9,p16 h10]] [] s=Cd1 L h0 h1 h2 h3 h4 h5 h6 h7 h8 h9 h10 (λm e n f g h i j n8 l b c a=>some (pB m,[.box [pI e,pS n,p32 f,p16 g,p16 h,p16 i,p16 j,p16 n8,p16 l,p16 b,p16 c],.arr false 25 1 a],s)):=by refine(evE (fn:=Tryz.f48) (by kernel_rfl)).trans ?_;generalize evC (SY L) d=Q;unfold Cd1;kernel_rfl
noncomputable def SX(L:Nat):Cfg:=B4 L [52] (A2 []) [(48,Bc1),(70,B23),(71,B25)] (A2 [(8,[2]),(5,[2]),(7,[2]),(6,[1,10]),(4,[1,5,0]),(3,[1,5]),(2,[2]),(1,[1,3]),(0,[1])]) [48,70,71] (A2 [(0,[1])]) (some [2]) [] [] []
noncomputable def Cc8{R:Type}(L:Nat)(j:Int)(l:By)(b c d e f g h i a:Int)(o:By->Int->By->Int->Int->Int->Int->Int->Int->Int->Int->Int->Option R):Option R:=cond (A3 l.length) (cond (ltN b 4294967296) (cond (ok8 c d e f g h i a) (cond (not (T8 (mkH j l b (n8 c d e f g h i a)))) (o ([]:List UInt8) j l b c d e f g h i a) (cond (j==1) (o l j l b c d e f g h i a) (cond (j==2) (cond (ltN b 4294967296) (o (Hh (b9 b)) j l b c d e f g h i a) none) (cond (ok8 c d e f g h i a) (vl (Nd (n8 c d e f g h i a)) λm=>cond (E5 1 m.length) (vl (([91]:List UInt8)++m) λn=>cond (E5 n.length 1) (vl (n++[93]) λp=>o p j l b c d e f g h i a) none) none) none)))) none) none) none
theorem Cc9(d:Nat)(h0 h1 h2 h3 h4 h5 h6 h7 h8 h9 h10):evC (SX L) (d+1) Z Y 52 [.agg [pI h0,pS h1,p32 h2,p16 h3,p16 h4,p16 h5,p16 h6,p16 h7,p16 h8,p16 h9,p16 h10]] [] s=Cc8 L h0 h1 h2 h3 h4 h5 h6 h7 h8 h9 h10 (λl c m e f g h i n8 j a b=>some (pS l,[.box [pI c,pS m,p32 e,p16 f,p16 g,p16 h,p16 i,p16 n8,p16 j,p16 a,p16 b]],s)):=by refine(evE (fn:=Tryz.f52) (by kernel_rfl)).trans ?_;generalize evC (SX L) d=Q;unfold Cc8;kernel_rfl
end
section
variable {Z R : Type} (L : Nat) (Q : F7) (Y : Yh Z) (s : Z) (k : Out -> St Z -> Option R)
noncomputable abbrev Q3:Code:=C4 ae6
noncomputable def J7(L:Nat):Cfg:=B4 L [63] (A2 [(23,[2,0,6,0,0])]) [(84,B26),(85,Bb8),(86,Rq),(87,Bc4),(88,Jj),(89,Bc2)] (A2 [(35,[2,0]),(34,[2,0]),(33,[2,7,108]),(32,[2,0]),(31,[2,7,105]),(24,[2,7,0,0]),(30,[2,7,0,0]),(29,[2,7,0,0,0]),(28,[2,7,0,0,0,94]),(27,[2,0]),(26,[2,7,0,0,0,0,89]),(25,[2,7,0,0,0,0]),(23,[2,7,0,0,79]),(22,[2,7,0,0]),(21,[2,7,0]),(20,[2,3,3]),(19,[2,0]),(18,[2,0]),(17,[2,5,74]),(16,[2,5,0]),(15,[2,3,69]),(14,[2,3]),(13,[2,3,62]),(12,[2,0]),(11,[2,3,51]),(10,[2,3,0]),(9,[2,0]),(8,[2,0]),(7,[2,1,43]),(6,[2,1,0]),(5,[2,0]),(4,[0,1,33]),(3,[0,1,22]),(2,[2,0]),(1,[0,1,14]),(0,[0,1])]) [85,86,87,89] (A2 [(0,[2,7]),(1,[2,7,0,0])]) (some [2,0]) [] [] []
noncomputable def Gp{R:Type}(b:By)(e:Bool)(f:Unit->Option R)(g:Int->Int->Int->Int->Int->Int->Int->Int->Int->Int->LL->Option R)(h:By->Bool->Option R):Option R:=cond e (vl (A1 ((b.length:Int)-1)) λd=>cond (inR d b.length) (cond ((bAt b d)!=93) (f ()) (cond (ltI (b.length:Int) (2:Int)) (f ()) (vl (A1 ((b.length:Int)-1)) λc=>cond (I2 1 c b.length) (vl (cut b 1 c) λa=>cond (A3 a.length) (cond (not (z7 (v6B a))) (g 14 0 0 0 0 0 0 0 0 0 [[(SV.int .u16 (↑(v6c 0 a):Int))],[(SV.int .u16 (↑(v6c 1 a):Int))],[(SV.int .u16 (↑(v6c 2 a):Int))],[(SV.int .u16 (↑(v6c 3 a):Int))],[(SV.int .u16 (↑(v6c 4 a):Int))],[(SV.int .u16 (↑(v6c 5 a):Int))],[(SV.int .u16 (↑(v6c 6 a):Int))],[(SV.int .u16 (↑(v6c 7 a):Int))]]) (g 0 3 (↑(v6c 0 a):Int) (↑(v6c 1 a):Int) (↑(v6c 2 a):Int) (↑(v6c 3 a):Int) (↑(v6c 4 a):Int) (↑(v6c 5 a):Int) (↑(v6c 6 a):Int) (↑(v6c 7 a):Int) [[(SV.int .u16 (↑(v6c 0 a):Int))],[(SV.int .u16 (↑(v6c 1 a):Int))],[(SV.int .u16 (↑(v6c 2 a):Int))],[(SV.int .u16 (↑(v6c 3 a):Int))],[(SV.int .u16 (↑(v6c 4 a):Int))],[(SV.int .u16 (↑(v6c 5 a):Int))],[(SV.int .u16 (↑(v6c 6 a):Int))],[(SV.int .u16 (↑(v6c 7 a):Int))]])) none) none))) none) (h b e)
abbrev Wo(b:Code):Prop:=∀(k:Out->St Z->Option R) a c,A9 (J7 L) Q Y b ⟨gp [(0,pS a),(1,.ptr 0 0 0),(22,pB c)] 97,[.box [pI (0:Int),pS ([]:List UInt8),p32 (0:Int),p16 (0:Int),p16 (0:Int),p16 (0:Int),p16 (0:Int),p16 (0:Int),p16 (0:Int),p16 (0:Int),p16 (0:Int)]],s⟩ k=Gp a c (λ_=>k .ret ⟨gp [(2,.ptr 0 0 0),(0,pI (14:Int))] 119,[.box [pI (0:Int),pS ([]:List UInt8),p32 (0:Int),p16 (0:Int),p16 (0:Int),p16 (0:Int),p16 (0:Int),p16 (0:Int),p16 (0:Int),p16 (0:Int),p16 (0:Int)]],s⟩) (λn0 d e f g h i j n8 l l10=>k .ret ⟨gp [(2,.ptr 0 0 0),(0,pI n0)] 119,[.box [pI d,pS ([]:List UInt8),p32 (0:Int),p16 e,p16 f,p16 g,p16 h,p16 i,p16 j,p16 n8,p16 l],.arr false 25 1 l10],s⟩) (λa c=>k .normal ⟨gp [(0,pS a),(1,.ptr 0 0 0),(22,pB c)] 97,[.box [pI (0:Int),pS ([]:List UInt8),p32 (0:Int),p16 (0:Int),p16 (0:Int),p16 (0:Int),p16 (0:Int),p16 (0:Int),p16 (0:Int),p16 (0:Int),p16 (0:Int)]],s⟩)
theorem LD:Wo (R:=R) L Q Y s (cd [1,1,0,1] Q3):=by intro k a b;unfold Gp;kernel_rfl
noncomputable def J0{R:Type}(L n:Nat)(a:By)(e:LL)(c:Int)(g:Int->Option R)(h:By->Option R):Option R:=match n with|0=>none|n+1=>cond (ltI c (e.length:Int)) (cond (inR c e.length) (cond (okE Oz e (b9 c) 0) (cond (A3 (j2 (gX e (b9 c) 0))) (vl ((I5 (gX e (b9 c) 0))).1 λb=>vl (↑((I5 (gX e (b9 c) 0))).2:Int) λd=>cond (d !=0) (g d) (cond (ltI 0 c) (cond (E5 a.length 1) (vl (a++[46]) λf=>cond (E5 f.length b.length) (J0 L n (f++b) e (A1 (c+1)) g h) none) none) (cond (E5 a.length b.length) (J0 L n (a++b) e (A1 (c+1)) g h) none))) none) none) none) (h a)
theorem Rf(n a p1 i2):C5 1 ((J7 L).keep 23) (bd (J7 L) Q Y (cd [1,1,1,1,1,1,1,1,1,0,1,0,0] Q3)) n ⟨gp [(2,.ptr 0 0 0),(7,pS a),(0,.s (.sl false false 1 p1)),(0,pI i2)] 110,[.box [pI (0:Int),pS ([]:List UInt8),p32 (0:Int),p16 (0:Int),p16 (0:Int),p16 (0:Int),p16 (0:Int),p16 (0:Int),p16 (0:Int),p16 (0:Int),p16 (0:Int)]],s⟩ k =
 J0 L n a p1 i2 (λn0=>k .ret ⟨gp [(2,.ptr 0 0 0),(0,pI n0)] 119,[.box [pI (0:Int),pS ([]:List UInt8),p32 (0:Int),p16 (0:Int),p16 (0:Int),p16 (0:Int),p16 (0:Int),p16 (0:Int),p16 (0:Int),p16 (0:Int),p16 (0:Int)]],s⟩) (λa=>k (.exit 0) ⟨gp [(2,.ptr 0 0 0),(7,pS a)] 112,[.box [pI (0:Int),pS ([]:List UInt8),p32 (0:Int),p16 (0:Int),p16 (0:Int),p16 (0:Int),p16 (0:Int),p16 (0:Int),p16 (0:Int),p16 (0:Int),p16 (0:Int)]],s⟩):=by
 induction n generalizing a p1 i2 with
 | zero=>rfl
 | succ n b=>rw[J0];simp only[<-b];kernel_rfl
noncomputable def Cw{R:Type}(L:Nat)(b:By)(c:Int->Int->By->Int->Option R):Option R:=cond (A3 b.length) (cond (G0 b) (cond (A3 b.length) (cond (not (z7 (pnB b))) (c 14 0 ([]:List UInt8) 0) (c 0 2 ([]:List UInt8) (↑(M0 (pnB b)):Int))) none) (cond (A3 b.length) (vl (D4 (pcs (u8n (46:Int)) b)) λd=>J0 L L ([]:List UInt8) d 0 (λe=>c e 0 ([]:List UInt8) 0) (λa=>cond (ltI 253 (a.length:Int)) (c 3 0 ([]:List UInt8) 0) (cond (A3 a.length) (cond (G0 a) (c 14 0 ([]:List UInt8) 0) (c 0 1 a 0)) none))) none)) none
abbrev Wp(b:Code):Prop:=∀(k:Out->St Z->Option R) s0,A9 (J7 L) Q Y b ⟨gp [(2,.ptr 0 0 0),(3,pS s0)] 116,[.box [pI (0:Int),pS ([]:List UInt8),p32 (0:Int),p16 (0:Int),p16 (0:Int),p16 (0:Int),p16 (0:Int),p16 (0:Int),p16 (0:Int),p16 (0:Int),p16 (0:Int)]],s⟩ k=Cw L s0 (λn0 a d c=>k .ret ⟨gp [(2,.ptr 0 0 0),(0,pI n0)] 119,[.box [pI a,pS d,p32 c,p16 (0:Int),p16 (0:Int),p16 (0:Int),p16 (0:Int),p16 (0:Int),p16 (0:Int),p16 (0:Int),p16 (0:Int)]],s⟩)
theorem LE:Wp (R:=R) L Q Y s (cd [1,1,1,1,1,1] Q3):=by intro k b;unfold Cw;exact(a8 (by kernel_rfl) (A0 (A0 (A0 (A0 rfl rfl) rfl) (A0 (A4 λa=>((Rf L Q Y s (E3 0 (E2 (J7 L) Q Y (cd [1,1,1,1,1,1,1,1,1,1] Q3) k)) L ([]:List UInt8) a 0).trans (by kernel_rfl))) rfl)) rfl))
noncomputable def Lv{R:Type}(L:Nat)(b:By)(c:Int->Int->By->Int->Option R):Option R:=cond (A3 b.length) (cond (G0 b) (cond (A3 b.length) (cond (not (z7 (pnB b))) (c 14 0 ([]:List UInt8) 0) (c 0 2 ([]:List UInt8) (↑(M0 (pnB b)):Int))) none) (cond (A3 b.length) (vl (D4 (pcs (u8n (46:Int)) b)) λd=>J0 L L ([]:List UInt8) d 0 (λe=>c e 0 ([]:List UInt8) 0) (λa=>cond (ltI 253 (a.length:Int)) (c 3 0 ([]:List UInt8) 0) (cond (A3 a.length) (cond (G0 a) (c 14 0 ([]:List UInt8) 0) (c 0 1 a 0)) none))) none)) none
abbrev Wq(b:Code):Prop:=∀(k:Out->St Z->Option R) s0 b1,A9 (J7 L) Q Y b ⟨gp [(2,.ptr 0 0 0),(3,pS s0),(62,pB b1)] 53,[.box [pI (0:Int),pS ([]:List UInt8),p32 (0:Int),p16 (0:Int),p16 (0:Int),p16 (0:Int),p16 (0:Int),p16 (0:Int),p16 (0:Int),p16 (0:Int),p16 (0:Int)]],s⟩ k=Lv L s0 (λn0 a d c=>k .ret ⟨gp [(2,.ptr 0 0 0),(0,pI n0)] 119,[.box [pI a,pS d,p32 c,p16 (0:Int),p16 (0:Int),p16 (0:Int),p16 (0:Int),p16 (0:Int),p16 (0:Int),p16 (0:Int),p16 (0:Int)]],s⟩)
theorem LH:Wq (R:=R) L Q Y s (cd [1,1,1,1,1,1] Q3):=by intro k c b;unfold Lv;exact(a8 (by kernel_rfl) (A0 (A0 (A0 (A0 rfl rfl) rfl) (A0 (A4 λa=>((Rf L Q Y s (E3 0 (E2 (J7 L) Q Y (cd [1,1,1,1,1,1,1,1,1,1] Q3) k)) L ([]:List UInt8) a 0).trans (by kernel_rfl))) rfl)) rfl))
noncomputable def Cx{R:Type}(L:Nat)(a:By)(r:Int->Int->By->Int->Option R):Option R:=cond (A3 a.length) (cond (not (z7 (R1 a))) (r 14 0 ([]:List UInt8) 0) (cond (not ((Et a)==[])) (vl (A1 ((↑(j2 (Et a)):Int)-1)) λb=>cond (inR b (j2 (Et a))) (cond ((bAt (Et a) b)==46) (vl (A1 ((↑(j2 (Et a)):Int)-1)) λc=>cond (I2 0 c (j2 (Et a))) (vl (cut (Et a) (0:Int) c) λn=>Cw L n (λd e o f=>r d e o f)) none) (Lv L (Et a) (λg h p i=>r g h p i))) none) (Lv L (Et a) (λj l q m=>r j l q m)))) none
abbrev Lw(b:Code):Prop:=∀(k:Out->St Z->Option R) raw0 b1,A9 (J7 L) Q Y b ⟨gp [(0,pS raw0),(1,.ptr 0 0 0),(22,pB b1)] 97,[.box [pI (0:Int),pS ([]:List UInt8),p32 (0:Int),p16 (0:Int),p16 (0:Int),p16 (0:Int),p16 (0:Int),p16 (0:Int),p16 (0:Int),p16 (0:Int),p16 (0:Int)]],s⟩ k=Cx L raw0 (λn0 a d c=>k .ret ⟨gp [(2,.ptr 0 0 0),(0,pI n0)] 119,[.box [pI a,pS d,p32 c,p16 (0:Int),p16 (0:Int),p16 (0:Int),p16 (0:Int),p16 (0:Int),p16 (0:Int),p16 (0:Int),p16 (0:Int)]],s⟩)
theorem LI(b:Code)(c:Wp (R:=R) L Q Y s b)(a:Wq (R:=R) L Q Y s b):Lw (R:=R) L Q Y s (cd [1,1,1] (G5 [1,1,1,1,1,1] b Q3)):=by intro k d h;unfold Cx;exact(a8 (by kernel_rfl) (A0 (A0 rfl (A0 (A4 λe=>(A0 (A0 (A4 λg=>(A0 (A4 λf=>((c k f).trans (by kernel_rfl))) rfl)) ((a k (Et d) ((bAt (Et d) e)==46)).trans (by kernel_rfl))) rfl)) ((a k (Et d) false).trans (by kernel_rfl)))) rfl))
theorem LJ:Lw (R:=R) L Q Y s (cd [1,1,1] Q3):=by intro k a b;exact a8 (by kernel_rfl) (LI L Q Y s (cd [1,1,1,1,1,1] Q3) (LE L Q Y s) (LH L Q Y s) k a b)
noncomputable def Wn{R:Type}(L:Nat)(a:By)(j:Int->By->Int->Int->Int->By->Int->Option R)(O:Int->Int->Int->Int->Int->Int->Int->Int->Int->Int->LL->Option R):Option R:=cond (ltI 1024 (a.length:Int)) (j 0 ([]:List UInt8) 0 3 0 ([]:List UInt8) 0) (cond (not (a==[])) (cond (inR 0 a.length) (Gp a ((bAt a (0:Int))==91) (λ_=>j 0 ([]:List UInt8) 0 14 0 ([]:List UInt8) 0) (λn o p q r t u v w x l=>O o p q r t u v w x n l) (λb M=>Cx L b (λy d h e=>j d h e y d h e))) none) (Gp a false (λ_=>j 0 ([]:List UInt8) 0 14 0 ([]:List UInt8) 0) (λz A B C D F G H I J m=>O A B C D F G H I J z m) (λc N=>Cx L c (λK f i g=>j f i g K f i g))))
theorem A15(e:Code)(a:Wo (R:=PV × List Blk × Z) L Q Y s e)(d:Code)(b:Lw (R:=PV × List Blk × Z) L Q Y s d)(c:By):A9 (J7 L) Q Y (cd [] (G5 [1,1,1] d (G5 [1,1,0,1] e Q3))) ⟨[pS c]++tps 122,[],s⟩ (F5 (J7 L) ae6)=Wn L c (λj l m n v y w=>some (.tup [.agg [pI j,pS l,p32 m,p16 (0:Int),p16 (0:Int),p16 (0:Int),p16 (0:Int),p16 (0:Int),p16 (0:Int),p16 (0:Int),p16 (0:Int)],pI n],[.box [pI v,pS y,p32 w,p16 (0:Int),p16 (0:Int),p16 (0:Int),p16 (0:Int),p16 (0:Int),p16 (0:Int),p16 (0:Int),p16 (0:Int)]],s)) (λj l m n q r t u r8 x l10=>some (.tup [.agg [pI j,pS ([]:List UInt8),p32 (0:Int),p16 l,p16 m,p16 n,p16 q,p16 r,p16 t,p16 u,p16 r8],pI x],[.box [pI j,pS ([]:List UInt8),p32 (0:Int),p16 l,p16 m,p16 n,p16 q,p16 r,p16 t,p16 u,p16 r8],.arr false 25 1 l10],s)):=by unfold Wn;exact let o:=(F5 (J7 L) ae6);let p:=(E2 (J7 L) Q Y d o);(a8 (by kernel_rfl) (A0 rfl (A0 (A0 ((a p c ((bAt c (0:Int))==91)).trans (congr (congr (congr rfl (by kernel_rfl)) (by kernel_rfl)) (fx2 λf h=>(a8 (by kernel_rfl) ((b o f h).trans (by kernel_rfl)))))) rfl) ((a p c false).trans (congr (congr (congr rfl (by kernel_rfl)) (by kernel_rfl)) (fx2 λg i=>(a8 (by kernel_rfl) ((b o g i).trans (by kernel_rfl)))))))))
theorem A16(d:Nat)(raw0):evC (J7 L) (d+1) Z Y 63 [pS raw0] [] s=Wn L raw0 (λa b c e j n l=>some (.tup [.agg [pI a,pS b,p32 c,p16 (0:Int),p16 (0:Int),p16 (0:Int),p16 (0:Int),p16 (0:Int),p16 (0:Int),p16 (0:Int),p16 (0:Int)],pI e],[.box [pI j,pS n,p32 l,p16 (0:Int),p16 (0:Int),p16 (0:Int),p16 (0:Int),p16 (0:Int),p16 (0:Int),p16 (0:Int),p16 (0:Int)]],s)) (λa b c e f g h i r8 m l10=>some (.tup [.agg [pI a,pS ([]:List UInt8),p32 (0:Int),p16 b,p16 c,p16 e,p16 f,p16 g,p16 h,p16 i,p16 r8],pI m],[.box [pI a,pS ([]:List UInt8),p32 (0:Int),p16 b,p16 c,p16 e,p16 f,p16 g,p16 h,p16 i,p16 r8],.arr false 25 1 l10],s)):=
 (evE (fn:=ae6) (by kernel_rfl)).trans (a8 (by kernel_rfl) (A15 L (evC (J7 L) d) Y s (cd [1,1,0,1] Q3) (LD L (evC (J7 L) d) Y s) (cd [1,1,1] Q3) (LJ L (evC (J7 L) d) Y s) raw0))
end
theorem Cd4{R:Type}{g:Int->Option R}(b:Int)(h:inR b 256=true):rhx LF b g=g (El (u8n b)):=by
 simp only[inR,s8,decide_eq_true_eq] at h;have j:b=((u8n b).toNat:Int):=by
  unfold u8n;simp;omega
 generalize u8n b=c at *;subst j;have i:=c.toNat_lt;unfold rhx;simp only[JJ,JI,vl,El];rcases Ck c with⟨d,f,e⟩|⟨d,f,e⟩|⟨d,f,e⟩|⟨d,f,o,e⟩
 ·have a:A1 (wu8 ((c.toNat:Int)-48))=((dig c:Nat):Int):=by
   rw[L4,A7];omega
  rw[R9];simp (disch:=omega) only[B5,E1,j1,j0,cond_false,cond_true,a]
 ·have a:A1 (A1 (wu8 ((c.toNat:Int)-97))+10)=((dig c:Nat):Int):=by
   rw[L4,C6 (n:=(c.toNat:Int)-97) (by omega) (by omega),A7];omega
  rw[R9];simp (disch:=omega) only[B5,E1,j1,j0,cond_false,cond_true,a]
 ·have a:A1 (A1 (wu8 ((c.toNat:Int)-65))+10)=((dig c:Nat):Int):=by
   rw[L4,C6 (n:=(c.toNat:Int)-65) (by omega) (by omega),A7];omega
  rw[R9];simp (disch:=omega) only[B5,E1,j1,j0,cond_false,cond_true,a]
 ·rw[e,if_neg (by decide)];by_cases k:c.toNat<48
  ·simp (disch:=omega) only[B5,E1,j1,j0,cond_false,cond_true]
  ·by_cases l:c.toNat<65
   ·simp (disch:=omega) only[B5,E1,j1,j0,cond_false,cond_true]
   ·by_cases m:c.toNat<97
    ·simp (disch:=omega) only[B5,E1,j1,j0,cond_false,cond_true]
    ·simp (disch:=omega) only[B5,E1,j1,j0,cond_false,cond_true]
theorem A12(s:By)(Q:s.length<=1000000000):∀(m i n:Nat) (a:By),i<=s.length->s.length-i<=m->m<n->a.length<=i->
  (∀t,R1 (s.drop i)=some t->∀(R:Type) (c:LL->Option R) (d:LL->Option R),N9 LF n s (i:Int) (a.map D7) c d=d ((a++t).map D7))/\
  (R1 (s.drop i)=none->∃l,∀(R:Type) (c:LL->Option R) (d:LL->Option R),N9 LF n s (i:Int) (a.map D7) c d=c l):=by
 intro m
 induction m with
 | zero=>
  intro i n a K L M J;obtain⟨n,rfl⟩:∃m,n=m+1:=⟨n-1,by omega⟩
  rw[c9 (by omega)];refine⟨λt f R c d=>?_,λh=>(by cases h)⟩;simp only[R1,o8] at f;subst f;rw[N9];rw[A6,aa1];rfl
 | succ m G=>
  intro i n a K L M J;obtain⟨n,rfl⟩:∃m,n=m+1:=⟨n-1,by omega⟩
  by_cases z:i<s.length
  ·have D:A1 ((i:Int)+1)=((i+1:Nat):Int):=by rw[A7];rfl
   have H:A1 ((i:Int)+2)=((i+2:Nat):Int):=by rw[A7];rfl
   have I:A1 (((i+2:Nat):Int)+1)=((i+3:Nat):Int):=by rw[A7];omega
   have F:A1 ((s.length:Int)-i)=((s.length-i:Nat):Int):=by rw[A7];omega
   have p:(a.map D7).length=a.length:=o7 _;have v:∀b:UInt8,a.map D7++[[SV.int .u8 (b.toNat:Int)]]=(a++[b]).map D7:=λb=>by rw[aa2];rfl
   have C:(((s.getD i 0).toNat:Int)!=37) = !(s.getD i 0==37):=congrArg _ (P7 _ 37 (by omega));rw[D2 s i z];by_cases g:s.getD i 0=37
   ·by_cases P:i+2<s.length
    ·rw[D2 s (i+1) (by omega),D2 s (i+1+1) (by omega),g,IZ];obtain⟨A,B⟩:=G (i+3) n (a++[x7 (16*dig (s.getD (i+1) 0)+dig (s.getD (i+2) 0))]) (by omega) (by omega) (by omega) (by simp;omega);have top:∀(R:Type) (c:LL->Option R) (d:LL->Option R),N9 LF (n+1) s (i:Int) (a.map D7) c d=cond (decide (dig (s.getD (i+1) 0)<16)&&decide (dig (s.getD (i+2) 0)<16)) (N9 LF n s ((i+3:Nat):Int) ((a++[x7 (16*dig (s.getD (i+1) 0)+dig (s.getD (i+2) 0))]).map D7) c d) (c (a.map D7)):=by
      intro R c d;rw[N9];rw[A8,E6,D0,C,g,p,H,F,D,E6,E6,D0,D0];simp only[vl];rw[E1 (show(3:Int)<=((s.length-i:Nat):Int) by omega)];simp only[cond_true,j1,cond_false,beq_self_eq_true,WM,Ik,YO,F0 (show a.length+1<=68719476736 by omega),I];generalize s.getD (i+1) 0=x at *;generalize s.getD (i+2) 0=y at *;by_cases N:dig x<16
      ·by_cases O:dig y<16
       ·have w1:El x=(dig x:Int):=by unfold El;rw[if_pos N]
        have T:El y=(dig y:Int):=by unfold El;rw[if_pos O]
        have U:A1 ((16:Int)*(dig x:Int))=((16*dig x:Nat):Int):=by rw[A7];omega
        have V:A1 (((16*dig x:Nat):Int)+(dig y:Int))=((16*dig x+dig y:Nat):Int):=by rw[A7];omega
        have W:wu8 ((16*dig x+dig y:Nat):Int)=((x7 (16*dig x+dig y)).toNat:Int):=by
         rw[L4];simp;omega
        grind
       grind
      grind
     by_cases o:dig (s.getD (i+1) 0)<16/\dig (s.getD (i+2) 0)<16
     ·rw[if_pos o];have w:(decide (dig (s.getD (i+1) 0)<16)&&decide (dig (s.getD (i+2) 0)<16))=true:=by rw[decide_eq_true o.1,decide_eq_true o.2];rfl
      refine⟨λt f R c d=>?_,λh=>?_⟩
      ·cases j:R1 (s.drop (i+3)) with
       | none=>rw[j] at f;cases f
       | some q=>
        rw[j] at f;simp only[ab9,o8] at f;subst f;rw[top,w,cond_true,A q j,p6];rfl
      ·cases j:R1 (s.drop (i+3)) with
       | some q=>rw[j] at h;cases h
       | none=>
        obtain⟨l,e⟩:=B j;exact⟨l,λR c d=>by rw[top,w,cond_true,e]⟩
     ·rw[if_neg o];have w:(decide (dig (s.getD (i+1) 0)<16)&&decide (dig (s.getD (i+2) 0)<16))=false:=by grind
      exact⟨λt h=>(by cases h),λ_=>⟨_,λR c d=>by rw[top,w,cond_false]⟩⟩
    ·have k:R1 (s.getD i 0::s.drop (i+1))=none:=by
      rw[g];cases o:s.drop (i+1) with
      | nil=>rfl
      | cons x r=>
       cases r with
       | nil=>rfl
       | cons y S=>
        exfalso;have:=congrArg j2 o;rw[j7,j6,j6] at this;omega
     rw[k];refine⟨λt h=>(by cases h),λ_=>⟨a.map D7,λR c d=>?_⟩⟩;rw[N9];rw[A8,E6,D0,C,g,F];simp only[vl];rw[B5 (show((s.length-i:Nat):Int)<3 by omega)];rfl
   ·rw[UV _ g];obtain⟨A,B⟩:=G (i+1) n (a++[s.getD i 0]) (by omega) (by omega) (by omega) (by simp;omega);have u:(s.getD i 0==37)=false:=by simpa using g
    have top:∀(R:Type) (c:LL->Option R) (d:LL->Option R),N9 LF (n+1) s (i:Int) (a.map D7) c d=N9 LF n s ((i+1:Nat):Int) ((a++[s.getD i 0]).map D7) c d:=by
     intro R c d;rw[N9];rw[A8,E6,D0,C,u,p,F0 (by omega),D,v];rfl
    refine⟨λt f R c d=>?_,λh=>?_⟩
    ·cases j:R1 (s.drop (i+1)) with
     | none=>rw[j] at f;cases f
     | some q=>
      rw[j] at f;simp only[ab9,o8] at f;subst f;rw[top,A q j,p6];rfl
    ·cases j:R1 (s.drop (i+1)) with
     | some q=>rw[j] at h;cases h
     | none=>
      obtain⟨l,e⟩:=B j;exact⟨l,λR c d=>by rw[top,e]⟩
  ·rw[c9 (by omega)];refine⟨λt f R c d=>?_,λh=>(by cases h)⟩;simp only[R1,o8] at f;subst f;rw[N9];rw[A6,aa1];rfl
theorem Cc6(s:By)(d:A3 s.length=true):∃r H,Bh9 LF s (λi j h=>rv (.tup [.s (.str i),.s (.bool j)]) [.arr true 5 1 h])=rv r H/\
  r.stab [0,0] H = .tup [.s (.str (Et s)),.s (.bool (R1 s).isSome)]:=by
 have g:=L6 d;have f:=C2;obtain⟨b,c⟩:=A12 s g s.length 0 LF [] (by omega) (by omega) (by omega) (by simp);rw[j8] at b c;unfold Et;cases a:R1 s with
 | none=>
  obtain⟨l,e⟩:=c a;exact⟨.tup [.s (.str []),.s (.bool false)],[.arr true 5 1 l],e _ _ _,rfl⟩
 | some t=>
  refine⟨.tup [.s (.str t),.s (.bool true)],[.arr true 5 1 (t.map D7)],?_,rfl⟩;unfold Bh9;refine a8 (b t a _ _ _) ?_;rw[w8,W0,W8];rfl
theorem Bt0{R:Type}{a b:Unit->Option R}(l:List By)(k:l.length<=1000000001)(h:∀x∈l,x.length<=1000000000):∀(r i n:Nat),i+r=l.length->r<n->
  Lx LF n (D4 l) (i:Int) a b=if (l.drop i).all K5 then b () else a ():=by
 intro r
 induction r with
 | zero=>
  intro i n e f;obtain⟨n,rfl⟩:∃m,n=m+1:=⟨n-1,by omega⟩
  rw[Lx];rw[F3,A6,c9 (by omega)];rfl
 | succ r j=>
  intro i n e f;obtain⟨n,rfl⟩:∃m,n=m+1:=⟨n-1,by omega⟩
  rw[Lx];have c:A1 ((i:Int)+1)=((i+1:Nat):Int):=by rw[A7];rfl
  have d:l.drop i=l.getD i []::l.drop (i+1):=by
   rw[j5,o6 (by omega),y8,ab6]
  have g:(l.getD i []).length<=1000000000:=h _ (by
   rw[j5,o6 (by omega),y8];exact x9 _)
  rw[F3,A8,E6,b8,Q7 (by omega),V6,E0 g,d,y9,c];simp only[cond_true];rw[j (i+1) n (by omega) (by omega)];cases K5 (l.getD i []) with
  | true=>rw[w9];rfl
  | false=>rfl
theorem Bt1{R:Type}{c:Bool->Option R}(s:By)(b:A3 s.length=true):Cw9 LF s c=c (Ee s):=by
 have k:=L6 b;have d:=C2;unfold Cw9;by_cases a:s=[]
 ·subst a;rfl
 ·have f:(s==([]:By))=false:=by simpa using a
  rw[f,cond_false];unfold Ee;by_cases i:253<s.length
  ·rw[A8,show p7 s.length 253=false by rw[k9,ne_eq,o5];omega];rfl
  ·rw[A6,cond_false,b,cond_true,show p7 s.length 253=true by rw[o5];omega];cases j:G0 s with
   | true=>rfl
   | false=>
    rw[cond_false,cond_true];have g:=Hv 46 s;have e:=Gc 46 s;refine a8 (Bt0 (pcs 46 s) (by omega) (λx h=>by have:=(Df h).2;omega) (pcs 46 s).length 0 LF (by omega) (by omega)) ?_;grind
theorem Cd3(j:Int)(i:By)(v4 a b c d e f g h:Int)(n:A3 i.length=true)(o:ltN v4 4294967296=true)(p:ok8 a b c d e f g h=true) :
  ∃r H,Cd1 LF j i v4 a b c d e f g h (λz q A t u v w x n8 y l m k=>rv (.s (.bool z)) [.box (Qt q A t u v w x n8 y l m),.arr false 25 1 k])=rv r H/\
   r.stab [] H = .s (.bool (T8 (mkH j i v4 (n8 a b c d e f g h)))):=Bf4 j i v4 a b c d e f g h n o p
theorem Cd0(j:Int)(i:By)(v4 a b c d e f g h:Int)(m:A3 i.length=true)(n:ltN v4 4294967296=true)(o:ok8 a b c d e f g h=true) :
  ∃r H,Cc8 LF j i v4 a b c d e f g h (λy p z q t u v w n8 x k l=>rv (.s (.str y)) [.box (Qt p z q t u v w n8 x k l)])=rv r H/\
   r.stab [] H = .s (.str (Iv (mkH j i v4 (n8 a b c d e f g h)))):=Bf3 j i v4 a b c d e f g h m n o
def jn:Nat->By->List By->By
 | _,name,[]=>name
 | 0,name,x::r=>jn 1 (name++x) r
 | i+1,name,x::r=>jn (i+2) (name++[46]++x) r
theorem Bf8:∀(l:List By) (i:Nat) (name:By),jn (i+1) name l=name++ad0 [46] l
 | [],i,name=>by simp[jn,ad0]
 | x::r,i,name=>by
  rw[jn,Bf8 r];simp[ad0]
theorem Cs2(l:List By):jn 0 [] l=ac0 l [46]:=by
 cases l with
 | nil=>rfl
 | cons x r=>rw[jn,Bf8,Lib.join_cons,w8]
theorem Ch5{x:By}(h:(I5 x).2=0):(I5 x).1.length<=63:=by
 have a:F4 [x]=([(I5 x).1],0):=by simp[F4,h]
 have:=(Jl [x] (by rw[a])).1 (I5 x).1 (by rw[a];simp);exact(Qs this).le
theorem VH(e:List By)(C:e.length<=1000000)(D:∀x∈e,x.length<=1000000000):∀(c:List By) (i n:Nat) (name:By),e.drop i=c->i+c.length=e.length->c.length<n->name.length<=64*i->
  ((F4 c).2=0->∀(R:Type) (a:Int->Option R) (b:By->Option R),J0 LF n name (D4 e) (i:Int) a b=b (jn i name (F4 c).1))/\
  ((F4 c).2≠0->∀(R:Type) (a:Int->Option R) (b:By->Option R),J0 LF n name (D4 e) (i:Int) a b=a ((F4 c).2:Nat)):=by
 intro c
 induction c with
 | nil=>
  intro i n name p q y t;obtain⟨n,rfl⟩:∃m,n=m+1:=⟨n-1,by omega⟩
  simp only[w6] at q;refine⟨λ_ R a b=>?_,λh=>absurd rfl h⟩;rw[J0];rw[F3,A6];simp only[F4,jn];rfl
 | cons x r z=>
  intro i n name p q y t;simp only[j6] at q y;obtain⟨n,rfl⟩:∃m,n=m+1:=⟨n-1,by omega⟩
  have A:A1 ((i:Int)+1)=((i+1:Nat):Int):=by rw[A7];rfl
  have k:e.getD i []=x:=by
   have:=congrArg (λl=>l.getD 0 []) p;simpa[j5,List.getElem?_drop] using this
  have g:e.drop (i+1)=r:=by
   rw[<-aa7,p];rfl
  have u:x.length<=1000000000:=D x (by
   rw[<-k,j5,o6 (by omega),y8];exact x9 _)
  have top:∀(R:Type) (a:Int->Option R) (b:By->Option R),J0 LF (n+1) name (D4 e) (i:Int) a b=cond (((I5 x).2:Int)!=0) (a ((I5 x).2:Nat)) (cond (ltI 0 (i:Int)) (cond (E5 name.length 1) (cond (E5 (name++[46]).length (I5 x).1.length) (J0 LF n (name++[46]++(I5 x).1) (D4 e) ((i+1:Nat):Int) a b) none) none) (cond (E5 name.length (I5 x).1.length) (J0 LF n (name++(I5 x).1) (D4 e) ((i+1:Nat):Int) a b) none)):=by
   intro R a b;rw[J0];rw[F3,A8,E6,b8,Q7 (by omega),V6,k,E0 u,A];rfl
  unfold F4;by_cases h:(I5 x).2=0
  ·rw[if_pos h];have B:=Ch5 h;have o:(((I5 x).2:Int)!=0)=false:=by rw[h];rfl
   cases i with
   | zero=>
    obtain⟨v,w⟩:=z 1 n (name++(I5 x).1) g (by omega) (by omega) (by rw[j4];omega);have d:∀(R:Type) (a:Int->Option R) (b:By->Option R),J0 LF (n+1) name (D4 e) ((0:Nat):Int) a b=J0 LF n (name++(I5 x).1) (D4 e) ((1:Nat):Int) a b:=by
     intro R a b;rw[top,o,A6,G2 (m:=name.length) (n:=(I5 x).1.length) (by omega)];rfl
    exact⟨λf R a b=>(d R a b).trans (v f R a b),λf R a b=>(d R a b).trans (w f R a b)⟩
   | succ j=>
    obtain⟨v,w⟩:=z (j+2) n (name++[46]++(I5 x).1) g (by omega) (by omega) (by rw[j4,j4,p4];omega);have d:∀(R:Type) (a:Int->Option R) (b:By->Option R),J0 LF (n+1) name (D4 e) ((j+1:Nat):Int) a b=J0 LF n (name++[46]++(I5 x).1) (D4 e) ((j+2:Nat):Int) a b:=by
     intro R a b;rw[top,o,A8,G2 (by omega),G2 (by rw[j4,p4];omega)];rfl
    exact⟨λf R a b=>(d R a b).trans (v f R a b),λf R a b=>(d R a b).trans (w f R a b)⟩
  ·rw[if_neg h];have o:(((I5 x).2:Int)!=0)=true:=by simpa using h
   exact⟨λf=>absurd f h,λ_ R a b=>by rw[top,o,cond_true]⟩
theorem LG{R:Type}{b:Int->Int->By->Int->Option R}(u:By)(q:u.length<=1024):Cw LF u b =
  if G0 u then (match pnB u with
   | some v=>b 0 2 [] (v:Nat)
   | none=>b 14 0 [] 0)
  else if (F4 (pcs 46 u)).2=0 then (
   if 253<(ac0 (F4 (pcs 46 u)).1 [46]).length then b 3 0 [] 0 else if G0 (ac0 (F4 (pcs 46 u)).1 [46]) then b 14 0 [] 0 else b 0 1 (ac0 (F4 (pcs 46 u)).1 [46]) 0)
  else b ((F4 (pcs 46 u)).2:Nat) 0 [] 0:=by
 have h:=C2;unfold Cw;rw[M8,cond_true];cases o:G0 u with
 | true=>
  rw[if_pos rfl,cond_true,cond_true];cases p:pnB u with
  | none=>rfl
  | some v=>rfl
 | false=>
  rw[if_neg (by simp),cond_false,cond_true];have l:=Hv 46 u;have i:=Gc 46 u;obtain⟨f,m⟩:=VH (pcs 46 u) (by omega) (λx d=>by have:=(Df d).2;omega) (pcs 46 u) 0 LF [] (j8) (by omega) (by omega) (by simp);rw[Cs2] at f;by_cases c:(F4 (pcs 46 u)).2=0
  ·rw[if_pos c];refine a8 (f c _ _ _) ?_;obtain⟨g,n⟩:=Jl _ c;have j:=UA [46] 63 (F4 (pcs 46 u)).1 (λx d=>(Qs (g x d)).le);have e:(63+([46]:By).length)*(F4 (pcs 46 u)).1.length<=64*1025:=ae3 (by simp) (by omega);generalize ac0 (F4 (pcs 46 u)).1 [46]=name at *;by_cases a:253<name.length
   ·rw[if_pos a,A8,cond_true]
   ·rw[if_neg a,A6,cond_false,M8,cond_true];cases k:G0 name with
    | true=>rfl
    | false=>rfl
  ·rw[if_neg c];exact m c _ _ _
abbrev Db0:Int->By->Int->Int->Int->By->Int->Option (PV × List Blk × Unit):=λc d e f a g b=>rv (.tup [.agg (Qt c d e 0 0 0 0 0 0 0 0),.s (.int .i64 f)]) [.box (Qt a g b 0 0 0 0 0 0 0 0)]
abbrev Dk5:Int->Int->Int->Int->Int->Int->Int->Int->Int->Int->LL->Option (PV × List Blk × Unit):=λa b c d e f g h r8 i l10=>rv (.tup [.agg (Qt a [] 0 b c d e f g h r8),.s (.int .i64 i)]) [.box (Qt a [] 0 b c d e f g h r8),.arr false 25 1 l10]
theorem WI{t:By}(h:t≠[])(a:t.getD (t.length-1) 0=46):I1 t=t.take (t.length-1):=by unfold I1;rw[if_pos ((DN t 46 h).2 a),List.dropLast_eq_take]
theorem Ai5{t:By}(h:t≠[])(a:¬t.getD (t.length-1) 0=46):I1 t=t:=by unfold I1;grind
theorem Re(s:By)(x:s.length<=1024)(j:s.head?≠some 91):∃r H,Cx LF s (λh b d c=>Db0 b d c h b d c)=rv r H/\r.stab [0,0] H = .tup [BN (C7 s).1,.s (.int .i64 ((C7 s).2:Nat))]:=by
 have l:=C2;unfold Cx;rw[M8,cond_true];cases i:R1 s with
 | none=>
  have e:C7 s=(K3,14):=by unfold C7;rw[F9,if_neg j,i]
  rw[e];exact⟨_,_,rfl,rfl⟩
 | some t=>
  have p:t.length<=s.length:=DR s t i;have q:Et s=t:=by unfold Et;rw[i];rfl
  have o:(I1 t).length<=t.length:=by unfold I1;split<;>simp
  have m:C7 s=if G0 (I1 t) then (match pnB (I1 t) with
      | some v=>(⟨2,[],v,z8⟩,0)
      | none=>(K3,14))
     else if (F4 (pcs 46 (I1 t))).2=0 then (
      let name:=ac0 (F4 (pcs 46 (I1 t))).1 [46]
      if 253<name.length then (K3,3) else if G0 name then (K3,14) else (⟨1,name,0,z8⟩,0))
     else (K3,(F4 (pcs 46 (I1 t))).2):=by
   unfold C7;rw[F9,if_neg j,i];rfl
  have f:∃r H,Cw LF (I1 t) (λh b d c=>Db0 b d c h b d c)=rv r H/\r.stab [0,0] H = .tup [BN (C7 s).1,.s (.int .i64 ((C7 s).2:Nat))]:=by
   rw[LG _ (by omega),m];split
   ·split<;>exact⟨_,_,rfl,rfl⟩
   ·split
    ·simp only;split
     ·exact⟨_,_,rfl,rfl⟩
     ·split<;>exact⟨_,_,rfl,rfl⟩
    ·exact⟨_,_,rfl,rfl⟩
  rw[q];simp only[ac8,j1,cond_false];by_cases a:t=[]
  ·subst a;exact f
  ·have w:0<t.length:=x3.2 a;have n:(t==([]:By))=false:=by simpa using a
   have k:A1 ((t.length:Int)-1)=((t.length-1:Nat):Int):=by rw[A7];omega
   have u:(((t.getD (t.length-1) 0).toNat:Int)==46)=(t.getD (t.length-1) 0==46):=P7 _ 46 (by omega);rw[n,k];simp only[j0,cond_true,vl];rw[E6,D0,u,cond_true];by_cases g:t.getD (t.length-1) 0=46
   ·rw[g,beq_self_eq_true,cond_true,H9,cond_true,J8,b8,<-WI a g];exact f
   ·rw[show(t.getD (t.length-1) 0==46)=false by simpa using g,cond_false];rw[Ai5 a g] at f;exact f
theorem A17(s:By)(k:A3 s.length=true):∃r H,Wn LF s Db0 Dk5=rv r H/\r.stab [0,0] H = .tup [BN (C7 s).1,.s (.int .i64 ((C7 s).2:Nat))]:=by
 have u:=L6 k;have l:=C2;unfold Wn;by_cases i:1024<s.length
 ·have e:C7 s=(K3,3):=by unfold C7;rw[if_pos i]
  rw[e,A8,cond_true];exact⟨_,_,rfl,rfl⟩
 ·rw[A6,cond_false];by_cases c:s=[]
  ·subst c;exact Re [] (by simp) (by simp)
  ·have q:0<s.length:=x3.2 c;have m:(s==([]:By))=false:=by simpa using c
   have o:(bAt s 0==(91:Int))=(s.getD 0 0==91):=by rw[Z9];exact P7 _ 91 (by omega)
   have g:s.head? = some (s.getD 0 0):=by
    cases s with
    | nil=>exact absurd rfl c
    | cons b t=>rfl
   rw[m,j0,cond_true,E6,cond_true,o];by_cases f:s.getD 0 0=91
   ·have e:C7 s=O9 s:=by unfold C7 O9;rw[if_neg i,if_pos (by rw[g,f])]<;>rfl
    have j:A1 ((s.length:Int)-1)=((s.length-1:Nat):Int):=by rw[A7];omega
    have p:(((s.getD (s.length-1) 0).toNat:Int)!=93) = !(s.getD (s.length-1) 0==93):=congrArg _ (P7 _ 93 (by omega));rw[e,f,beq_self_eq_true];unfold Gp O9;simp only[vl,j,cond_true];rw[E6,D0,p,cond_true];by_cases d:s.getD (s.length-1) 0=93
    ·have f:2<=s.length:=by grind
     rw[if_pos ⟨(DN s 93 c).2 d,f⟩,d,beq_self_eq_true,j1,cond_false,A6,cond_false,show(1:Int)=((1:Nat):Int) from rfl,H9,cond_true,Ek];have n:((s.take (s.length-1)).drop 1).length<=s.length:=by rw[j7,o0];omega
     rw[M8,cond_true];unfold v6c;cases v:v6B ((s.take (s.length-1)).drop 1) with
     | none=>exact⟨_,_,rfl,rfl⟩
     | some a=>exact⟨_,_,rfl,rfl⟩
    ·rw[if_neg (λh=>d ((DN s 93 c).1 h.1)),show(s.getD (s.length-1) 0==93)=false by simpa using d];exact⟨_,_,rfl,rfl⟩
   ·rw[show(s.getD 0 0==91)=false by simpa using f];exact Re s (by omega) (by rw[g];simpa using f)
section
theorem KL:B0 j9 GX 148 Ud:=xf [] (GV LF) Yg rfl trivial rfl (by kernel_rfl) follows λargs=>by
 unfold Yg;split
 ·rename_i n;exact⟨rfl,rfl,rfl,_,_,(Bu2 LF noY () 0 n).trans (Ad2 n ),rfl⟩
 ·trivial
theorem Aj9:B0 j9 GX 151 EW:=xf [] (W4 LF) Ye rfl trivial rfl (by kernel_rfl) follows λargs=>by
 unfold Ye;split
 ·rename_i d c f;exact λa=>λb=>λe=>⟨rfl,rfl,rfl,_,_,(Bs1 LF noY () 0 d c f).trans (Ab1 d c f a b e),rfl⟩
 ·trivial
theorem Cl9:B0 j9 GX 149 Al9:=xf [] (Ap1 LF) QP rfl trivial rfl (by kernel_rfl) follows λargs=>by
 unfold QP;split
 ·rename_i k b;exact λa=>λc=>⟨rfl,rfl,rfl,_,_,(Cy2 LF noY () 0 k b).trans (Bu8 k b a c),rfl⟩
 ·trivial
theorem C35:B0 j9 GX 150 Bb6:=xf [] (SW LF) EX rfl trivial rfl (by kernel_rfl) follows λargs=>by
 unfold EX;split
 ·rename_i d;exact λa=>⟨rfl,rfl,rfl,_,_,(Cb5 LF noY () 0 d).trans (Ay7 d a),rfl⟩
 ·trivial
theorem Df5:B0 j9 GX 176 B27:=xf [] (Iq LF) QZ rfl trivial rfl (by kernel_rfl) follows λargs=>by
 unfold QZ;split
 ·rename_i b;exact λa=>⟨rfl,rfl,rfl,_,_,(Cz3 LF noY () 0 b).trans (Bw0 b a),rfl⟩
 ·trivial
theorem Cl6:B0 j9 GX 120 Al5:=xf [0,0] (L9 LF) QI rfl ⟨KL,Cl9,C35,Aj9,trivial⟩ rfl (by kernel_rfl) follows λargs=>by
 unfold QI;split
 ·rename_i b a p;exact λc=>(let⟨r,H,e,q⟩:=Cw6 b a p c;⟨rfl,rfl,rfl,r,H,(Cw4 LF noY () 0 b a p).trans e,q⟩)
 ·trivial
theorem C42:B0 j9 GX 156 Bc3:=xf [1,0] (J2 LF) FI rfl ⟨Df5,Cl9,Aj9,KL,trivial⟩ rfl (by kernel_rfl) follows λargs=>by
 unfold FI;split
 ·rename_i s;exact λa=>(let⟨r,H,e,q⟩:=Ce0 s a;⟨rfl,rfl,rfl,r,H,(Cd9 LF noY () 0 s).trans e,q⟩)
 ·trivial
theorem De9:B0 j9 GX 119 B22:=xf [1,0] (N6 LF) QO rfl ⟨KL,trivial⟩ rfl (by kernel_rfl) follows λargs=>by
 unfold QO;split
 ·rename_i s;exact λa=>(let⟨r,H,e,q⟩:=Cy0 s a;⟨rfl,rfl,rfl,r,H,(Cx9 LF noY () 0 s).trans e,q⟩)
 ·trivial
theorem C44:B0 j9 GX 127 Bc5:=xf [] (Lb LF) FK rfl ⟨C42,Cl6,trivial⟩ rfl (by kernel_rfl) follows λargs=>by
 unfold FK;split
 ·rename_i s;exact λa=>⟨rfl,rfl,rfl,_,_,(Ce2 LF noY () 0 s).trans (A41 s a),rfl⟩
 ·trivial
theorem Bk6:B0 j9 GX 94 QM:=xf [] (Kz LF) FG rfl ⟨C44,trivial⟩ rfl (by kernel_rfl) follows λargs=>by
 unfold FG;split
 ·rename_i s;exact λa=>⟨rfl,rfl,rfl,_,_,(Cd6 LF noY () 0 s).trans (A22 s a),rfl⟩
 ·trivial
theorem C41:B0 j9 GX 89 Bc2:=xf [0,0] (SZ LF) FF rfl ⟨De9,Cl7,Cl6,Bk6,trivial⟩ rfl (by kernel_rfl) follows λargs=>by
 unfold FF;split
 ·rename_i s;exact λa=>⟨rfl,rfl,rfl,_,_,(Cd5 LF noY () 0 s).trans (A19 s a),rfl⟩
 ·trivial
theorem Dj4:B0 j9 GX 115 C59:=xf [] (Qz LF) Al6 rfl trivial rfl (by kernel_rfl) follows λargs=>by
 unfold Al6;split
 ·rename_i b;exact λa=>⟨rfl,rfl,rfl,_,_,(Da9 LF noY () 0 b).trans (Cd4 b a),rfl⟩
 ·trivial
theorem C37:B0 j9 GX 85 Bb8:=xf [0,0] (Kx LF) EZ rfl ⟨Dj4,trivial⟩ rfl (by kernel_rfl) follows λargs=>by
 unfold EZ;split
 ·rename_i s;exact λa=>(let⟨r,H,e,q⟩:=Cc6 s a;⟨rfl,rfl,rfl,r,H,(Cc5 LF noY () 0 s).trans e,q⟩)
 ·trivial
theorem B00:B0 j9 GX 63 LV:=xf [0,0] (J7 LF) Rp rfl ⟨Df4,C37,KK,C43,Ph,C41,trivial⟩ rfl (by kernel_rfl) follows λargs=>by
 unfold Rp;split
 ·rename_i s;exact λa=>(let⟨r,H,e,q⟩:=A17 s a;⟨rfl,rfl,rfl,r,H,(A16 LF noY () 0 s).trans e,q⟩)
 ·trivial
theorem De8:B0 j9 GX 66 B21:=xf [] (Sk LF) QK rfl ⟨KK,Ph,Bk6,trivial⟩ rfl (by kernel_rfl) follows λargs=>by
 unfold QK;split
 ·rename_i s;exact λa=>⟨rfl,rfl,rfl,_,_,(Cx0 LF noY () 0 s).trans (Bt1 s a),rfl⟩
 ·trivial
theorem C40:B0 j9 GX 48 Bc1:=xf [] (SY LF) FE rfl ⟨De8,trivial⟩ rfl (by kernel_rfl) follows λargs=>by
 unfold FE;split
 ·rename_i j k v4 a b c d f g h i;exact λl=>λm=>λn=>(let⟨r,H,e,q⟩:=Cd3 j k v4 a b c d f g h i l m n;⟨rfl,rfl,rfl,r,H,(Cd2 LF noY () 0 j k v4 a b c d f g h i).trans e,q⟩)
 ·trivial
theorem C39:B0 j9 GX 52 Bc0:=xf [] (SX LF) FD rfl ⟨C40,Df1,Df3,trivial⟩ rfl (by kernel_rfl) follows λargs=>by
 unfold FD;split
 ·rename_i j k v4 a b c d f g h i;exact λl=>λm=>λn=>(let⟨r,H,e,q⟩:=Cd0 j k v4 a b c d f g h i l m n;⟨rfl,rfl,rfl,r,H,(Cc9 LF noY () 0 j k v4 a b c d f g h i).trans e,q⟩)
 ·trivial
end
section
theorem KM:B0 j9 GX 23 Np:=xf [] (GW LF) Yj rfl trivial rfl (by kernel_rfl) follows λargs=>by
 unfold Yj;split
 ·rename_i s;exact⟨rfl,rfl,rfl,_,_,(Bv1 LF noY () 0 s).trans (Ag0 s ),rfl⟩
 ·trivial
theorem Bk8:B0 j9 GX 45 QS:=xf [] (TD LF) FR rfl trivial rfl (by kernel_rfl) follows λargs=>by
 unfold FR;split
 ·rename_i s;exact⟨rfl,rfl,rfl,_,_,(Cf7 LF noY () 0 s).trans (A59 s ),rfl⟩
 ·trivial
theorem C46:B0 j9 GX 62 Bc6:=xf [] (Ag LF) FM rfl trivial rfl (by kernel_rfl) follows λargs=>by
 unfold FM;split
 ·rename_i s t;exact λa=>λb=>⟨rfl,rfl,rfl,_,_,(Ce6 LF noY () 0 s t).trans (A54 s t a b),rfl⟩
 ·trivial
theorem C49:B0 j9 GX 61 Bc8:=xf [0,0,0] (K7 LF) FQ rfl ⟨Cl7,trivial⟩ rfl (by kernel_rfl) follows λargs=>by
 unfold FQ;split
 ·rename_i s;exact λa=>⟨rfl,rfl,rfl,_,_,(Cf6 LF noY () 0 s).trans (A58 s a),rfl⟩
 ·trivial
theorem C47:B0 j9 GX 41 Bc7:=xf [0,0] (I9 LF) FO rfl ⟨C49,KM,C46,B00,Bk8,trivial⟩ rfl (by kernel_rfl) follows λargs=>by
 unfold FO;split
 ·rename_i s;exact λa=>(let⟨r,H,e,q⟩:=Cf2 s a;⟨rfl,rfl,rfl,r,H,(Cf1 LF noY () 0 s).trans e,q⟩)
 ·trivial
end
end
end Go.Proofs.YtcfingekgbbclaaGreatDoor.E
