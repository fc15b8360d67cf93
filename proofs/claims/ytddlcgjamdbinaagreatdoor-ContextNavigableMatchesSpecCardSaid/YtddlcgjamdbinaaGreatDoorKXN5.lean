/-
  Parts of the proof, merged by a program of the prover's own; no condition.
-/
import Derived.Test.YtddlcgjamdbinaaGreatDoorKXN4
import Derived.Lib.SlicesCompact
import Derived.Lib.TrimUEq
import Derived.Lib.ValidLaws
open List renaming length->c9,length_cons->j2,length_append->j6,length_drop->j7,map->j9,drop_of_length_le->k9,length_eq_zero_iff->o5,drop_zero->o9,getD_eq_getElem?_getD->p4,length_map->p5,length_nil->p6,length_take->p9,getD->v8,length_pos_iff->x3,all->x4,countP_le_length->x5,map_cons->x6,append_assoc->x8,isEmpty->x9,replicate->y5,nil_append->y8,all_cons->aa0,getElem?_eq_getElem->aa1,append_nil->aa2,any_cons->aa4,all_eq_true->aa5,isPrefixOf->aa9,flatMap_cons->ab2,getD_cons_zero->ab6,map_congr_left->ab7,map_map->ab8,drop->ab9,cons_append->ac8,countP_cons_of_neg->ac9,getElem?_cons_zero->ad0,isEmpty_iff->ad1,take_length->ad2,foldl_cons->ad4,map_append->ad5,length_singleton->ad7,take->ae2,countP_pos_iff->ae4,sum_cons->ae5,all_map->af1,map_nil->af2,toArray->af3,isEmpty_nil->af5,append->ag1,drop_drop->ag7,map_id''->ah3,mem_cons->ah4,map_id->aj0
open Int renaming toNat_natCast->j0,toNat->j8,eq_ofNat_of_zero_le->w8,add->aa8,tdiv->ad9,tmod->ae8,mul_nonneg->ag4
open Bool renaming not_true->j1,not_false->j4,and_eq_true->o7,eq_false_iff->x7,eq_iff_iff->y7,true_and->y9,and_true->aa6,false_or->aa7,false_eq_true->ab0,or_eq_true->ad3,false_and->ad8,not_eq_true'->ae6,not_eq_true->af4,true_or->ai1
open Eq renaming trans->j5
open Option.some renaming injEq->o0,inj->ag3
open Exists renaming intro->o6
open Nat renaming ble->o8,ble_eq->v7,le_refl->ab1,ble_eq_true_of_le->ab3,le_of_ble_eq_true->ab4,div_le_self->ad6,mul_le_mul->ae1,min_eq_left->ag2,mod_lt->ag8,le_trans->ai4,pow_succ->ai5,zero_add->ai6
open Go.Lib renaming decodeL->p7,indexByte->z7,compactUpTo->ab5,join->ac0,runeCountL->ac1,decodeL_width->ac3,decodeL_drop->ac7,compact->ae0,decodeL_ascii->ae9,runeCountFrom->af0,decodeN->ag0,decodeL_le->ag6,decodeL_N->ah2,validGoD->ai3
open Go.Fn renaming func->w6
open UInt8 renaming ofNat->w9,toNat->aj5
open Option renaming map_some->aa3,isSome_map->ac4,isSome->ac6,bind_some->af6,getD_some->af7
open Classical renaming byContradiction->ac2
open Go.Utf8 renaming decode->ac5
open Go.Proofs.Tryz renaming f129->ae3,f130->af8,f167->af9,f20->ag9,f71->ah0,f72->ah1,f112->ah5,f141->ah6,f143->ah7,f146->ah8,f156->ah9,f173->ai0,f60->aj3,f99->aj4
open Function renaming comp_def->ae7
open Go.IntKind renaming signed->ag5,bits->ai2,max->ai8,min->ai9
open BEq renaming comm->ai7
namespace Go.Proofs.YtddlcgjamdbinaaGreatDoor.E
set_option linter.all false
section
open Go Go.Proofs
set_option maxRecDepth 100000
section
variable {W R : Type} (L : Nat) (Q : F4) (Y : Yh W) (s : W) (k : Out -> St W -> Option R)
noncomputable abbrev YN:Code:=E0 ah5
noncomputable def Gt(L:Nat):Cfg:=C8 L [112] (A4 [(16,[2,0,4,41,0,0])]) [(69,DY),(142,A96),(143,Bz1),(144,Bb1),(58,Pu),(145,Bz9),(125,LB),(146,Bz6),(102,QT)] (A4 [(28,[2,0]),(25,[2,0]),(27,[2,0]),(26,[2,10,64]),(24,[2,10,59]),(23,[2,10]),(22,[2,5,41,0,0]),(21,[2,5,41,0,0]),(20,[2,0]),(19,[2,5,0,1,0,37,0,0,10]),(18,[2,5,0,1,0,37,0,0]),(17,[2,5,0,0,39,0,0]),(16,[2,5,41,0,0,0]),(15,[2,5,41,0,0]),(14,[2,5]),(13,[2,0]),(12,[2,0]),(11,[2,3,37]),(10,[2,3,0]),(9,[2,1,32]),(8,[2,1]),(7,[2,0]),(6,[2,1,27]),(5,[2,1,0]),(2,[2,0]),(4,[2,0]),(3,[0,1,16]),(1,[0,1,11]),(0,[0,1])]) [69,143,144,58,145,146,102] (A4 [(3,[2,10]),(1,[2,5]),(2,[2,5,41,0,0]),(0,[0,1])]) (some [2,0]) [] [] []
noncomputable def S9{R:Type}(L n:Nat)(a:Nat)(i c:Int)(e:LL)(g:Int->LL->Option R)(h:Nat->LL->Option R):Option R:=match n with|0=>none|n+1=>cond (ltI c i) (cond (inR c a) (cond (okE Ia e (0+(j8 c)) 0) (vl (gX e (0+(j8 c)) 0) λb=>cond (A3 b.length) (vl (↑((T3 b)).2:Int) λd=>cond (d !=0) (g d e) (cond (inR c a) (cond (decide ((0+(j8 c))<e.length)) (vl (List.set e (0+(j8 c)) (H8 (v8 e (0+(j8 c)) []) 0 [(SV.str ((T3 b)).1)])) λf=>S9 L n a i (A1 (c+1)) f g h) none) none)) none) none) none) (h a e)
theorem TY(n:Nat)(a:Nat)(d e:Int)(c:LL):E7 2 ((Gt L).keep 16) (bd (Gt L) Q Y (cd [1,1,1,1,1,1,1,0,1,0,0] YN)) n ⟨gp [(2,.ptr 0 0 0),(5,.vw 1 0 a),(41,.vw 1 0 a),(0,pI d),(0,pI e)] 31,[.box [pI (0:Int),pS ([]:List UInt8),p32 (0:Int),p16 (0:Int),p16 (0:Int),p16 (0:Int),p16 (0:Int),p16 (0:Int),p16 (0:Int),p16 (0:Int),p16 (0:Int)],.arr false 9 1 c],s⟩ k =
 S9 L n a d e c (λn0 b=>k .ret ⟨gp [(2,.ptr 0 0 0),(0,pI n0)] 80,[.box [pI (0:Int),pS ([]:List UInt8),p32 (0:Int),p16 (0:Int),p16 (0:Int),p16 (0:Int),p16 (0:Int),p16 (0:Int),p16 (0:Int),p16 (0:Int),p16 (0:Int)],.arr false 9 1 b],s⟩) (λa b=>k (.exit 1) ⟨gp [(2,.ptr 0 0 0),(5,.vw 1 0 a)] 75,[.box [pI (0:Int),pS ([]:List UInt8),p32 (0:Int),p16 (0:Int),p16 (0:Int),p16 (0:Int),p16 (0:Int),p16 (0:Int),p16 (0:Int),p16 (0:Int),p16 (0:Int)],.arr false 9 1 b],s⟩):=by
 induction n generalizing a d e c with
 | zero=>rfl
 | succ n f=>rw[S9];simp only[<-f];kernel_rfl
noncomputable def Zj{R:Type}(L:Nat)(a:By)(t:Int->By->Int->Int->Int->Int->Int->Int->Int->Int->Int->Int->Int->By->Int->Int->Int->Int->Int->Int->Int->Int->Int->Option R)(y:Int->By->Int->Int->By->LL->Option R):Option R:=cond (ltI 1024 (a.length:Int)) (t 0 ([]:List UInt8) 0 0 0 0 0 0 0 0 0 3 0 ([]:List UInt8) 0 0 0 0 0 0 0 0 0) (cond (A3 a.length) (cond (aa9 ([91]:List UInt8) a) (cond (A3 a.length) (cond (B69 a) (vl (↑(C3.kind ((Q8 a)).1):Int) λf=>vl (C3.name ((Q8 a)).1) λr=>vl (↑(C3.v4 ((Q8 a)).1):Int) λg=>vl (↑(v8 (C3.v6 ((Q8 a)).1) 0 0):Int) λh=>vl (↑(v8 (C3.v6 ((Q8 a)).1) 1 0):Int) λi=>vl (↑(v8 (C3.v6 ((Q8 a)).1) 2 0):Int) λj=>vl (↑(v8 (C3.v6 ((Q8 a)).1) 3 0):Int) λl=>vl (↑(v8 (C3.v6 ((Q8 a)).1) 4 0):Int) λm=>vl (↑(v8 (C3.v6 ((Q8 a)).1) 5 0):Int) λn=>vl (↑(v8 (C3.v6 ((Q8 a)).1) 6 0):Int) λo=>vl (↑(v8 (C3.v6 ((Q8 a)).1) 7 0):Int) λp=>vl (↑((Q8 a)).2:Int) λw=>t f r g h i j l m n o p w f r g h i j l m n o p) none) none) (cond (A3 a.length) (cond (not (ac6 (Ce a))) (t 0 ([]:List UInt8) 0 0 0 0 0 0 0 0 0 14 0 ([]:List UInt8) 0 0 0 0 0 0 0 0 0) (cond (A3 (c9 (Ax8 a))) (vl (WX (Ax8 a) ([46]:List UInt8)) λb=>cond (A3 b.length) (cond (L2 b) (cond (A3 b.length) (vl (↑(Ad (pnB b)):Int) λq=>cond (not (ac6 (pnB b))) (t 0 ([]:List UInt8) 0 0 0 0 0 0 0 0 0 14 0 ([]:List UInt8) 0 0 0 0 0 0 0 0 0) (t 2 ([]:List UInt8) q 0 0 0 0 0 0 0 0 0 2 ([]:List UInt8) q 0 0 0 0 0 0 0 0)) none) (cond (A3 b.length) (cond (1==1) (vl (C1 (pcs (v8 ([46]:List UInt8) 0 0) b)) λu=>S9 L L (c9 (pcs (v8 ([46]:List UInt8) 0 0) b)) (↑(c9 (pcs (v8 ([46]:List UInt8) 0 0) b)):Int) 0 u (λx v=>y 0 ([]:List UInt8) x 0 ([]:List UInt8) v) (λc d=>cond (x4 (ae2 c (ab9 0 d)) isS) (cond (A3 (c9 (ac0 (j9 elS (ae2 c (ab9 0 d))) ([46]:List UInt8)))) (cond (A3 (c9 (ae2 c (ab9 0 d)))) (vl (ac0 (j9 elS (ae2 c (ab9 0 d))) ([46]:List UInt8)) λe=>cond (ltI 253 (e.length:Int)) (y 0 ([]:List UInt8) 3 0 ([]:List UInt8) d) (cond (A3 e.length) (cond (L2 e) (y 0 ([]:List UInt8) 14 0 ([]:List UInt8) d) (y 1 e 0 1 e d)) none)) none) none) none)) none) none)) none) none)) none)) none)
theorem Bm5(d:Nat)(raw0):evC (Gt L) (d+1) W Y 112 [pS raw0] [] s=Zj L raw0 (λo p t M N O P S r8 T q r c u e f g h i j l m n=>some (.tup [.agg [pI o,pS p,p32 t,p16 M,p16 N,p16 O,p16 P,p16 S,p16 r8,p16 T,p16 q],pI r],[.box [pI c,pS u,p32 e,p16 f,p16 g,p16 h,p16 i,p16 j,p16 l,p16 m,p16 n]],s)) (λo p t K U J=>some (.tup [.agg [pI o,pS p,p32 (0:Int),p16 (0:Int),p16 (0:Int),p16 (0:Int),p16 (0:Int),p16 (0:Int),p16 (0:Int),p16 (0:Int),p16 (0:Int)],pI t],[.box [pI K,pS U,p32 (0:Int),p16 (0:Int),p16 (0:Int),p16 (0:Int),p16 (0:Int),p16 (0:Int),p16 (0:Int),p16 (0:Int),p16 (0:Int)],.arr false 9 1 J],s)):=by refine(evE (fn:=ah5) (by kernel_rfl)).trans ?_;generalize evC (Gt L) d=Q;unfold Zj;exact(j5 (by kernel_rfl) (A0 rfl (A0 (A0 (A0 (A0 (A7 λv=>(A7 λI=>(A7 λw=>(A7 λx=>(A7 λy=>(A7 λz=>(A7 λA=>(A7 λB=>(A7 λC=>(A7 λD=>(A7 λF=>(A7 λG=>rfl)))))))))))) rfl) rfl) (A0 (A0 rfl (A0 (A7 λa=>(A0 (A0 (A0 (A7 λH=>(A0 rfl rfl)) rfl) (A0 (A0 (A7 λb=>((TY L Q Y s (F9 1 (G6 (Gt L) Q Y (cd [1,1,1,1,1,1,1,1] YN) (I1 (Gt L) ah5))) L (c9 (pcs (v8 ([46]:List UInt8) 0 0) a)) (↑(c9 (pcs (v8 ([46]:List UInt8) 0 0) a)):Int) 0 b).trans (by kernel_rfl))) rfl) rfl)) rfl)) rfl)) rfl)) rfl)))
noncomputable abbrev Bb7:Code:=E0 aj4
noncomputable def Ls(L:Nat):Cfg:=C8 L [99] (A4 [(6,[0,1,0,1,10,0,0])]) [(129,Bz8),(130,Am0)] (A4 [(13,[2]),(12,[0,3,0,2]),(11,[0,2,1,10,0,0]),(10,[0,2,1,10,0,0]),(9,[2]),(8,[0,2,1,1,8,0,0,8]),(7,[0,2,1,1,8,0,0]),(6,[0,2,1,10,0,0,0]),(5,[0,2,1,10,0,0]),(4,[0,2,1]),(3,[2]),(2,[0,2,11]),(1,[0,2,0]),(0,[0])]) [130] (A4 [(0,[0,2,1]),(1,[0,2,1,10,0,0])]) (some [2]) [] [] []
noncomputable def Y0{R:Type}(L n:Nat)(i:By)(b:Bool)(a:LL)(c:Bool)(h e:Int)(f:Unit->Option R)(g:By->Bool->LL->Bool->Option R):Option R:=match n with|0=>none|n+1=>cond (ltI e h) (cond (inR e a.length) (cond (okE Lc a (j8 e) 0) (vl (gE a (j8 e) 0) λd=>cond (not (ltI d 65)) (cond (not (ltI 90 d)) (f ()) (cond c (Y0 L n i b a (ltI d 128) h (A1 (e+1)) f g) (Y0 L n i b a false h (A1 (e+1)) f g))) (cond c (Y0 L n i b a (ltI d 128) h (A1 (e+1)) f g) (Y0 L n i b a false h (A1 (e+1)) f g))) none) none) (g i b a c)
theorem Ac2(n d a b c n4 n5):E7 0 ((Ls L).keep 6) (bd (Ls L) Q Y (cd [1,1,1,1,0,1,0,0] Bb7)) n ⟨gp [(0,pS d),(2,.s (.sl a a 1 b)),(1,pB c),(10,.s (.sl a a 1 b)),(0,pI n4),(0,pI n5)] 31,[],s⟩ k =
 Y0 L n d a b c n4 n5 (λ_=>k .ret ⟨gp [(2,pB false)] 47,[],s⟩) (λd a b c=>k (.exit 0) ⟨gp [(0,pS d),(2,.s (.sl a a 1 b)),(1,pB c)] 44,[],s⟩):=by
 induction n generalizing d a b c n4 n5 with
 | zero=>rfl
 | succ n e=>rw[Y0];simp only[<-e];kernel_rfl
noncomputable def Be5{R:Type}(L:Nat)(d:By)(e:Bool->Option R):Option R:=cond (A3 d.length) (cond ((↑((N4 d)).2:Int)!=0) (e false) (Y0 L L d (x9 ((N4 d)).1) (Zt ((N4 d)).1) true (↑(c9 (Zt ((N4 d)).1)):Int) 0 (λ_=>e false) (λg c a b=>cond (x4 a Ou) (vl ((X7 (j9 elI a))).1 λh=>vl (↑((X7 (j9 elI a))).2:Int) λf=>cond (not b) (cond (f==0) (e (h==g)) (e false)) (e false)) none))) none
theorem B78(d:Nat)(s0):evC (Ls L) (d+1) W Y 99 [pS s0] [] s=Be5 L s0 (λa=>some (pB a,[],s)):=by refine(evE (fn:=aj4) (by kernel_rfl)).trans ?_;generalize evC (Ls L) d=Q;unfold Be5;exact(j5 (by kernel_rfl) (A0 (A0 rfl ((Ac2 L Q Y s (F9 0 (G6 (Ls L) Q Y (cd [1,1,1,1,1] Bb7) (I1 (Ls L) aj4))) L s0 (x9 ((N4 s0)).1) (Zt ((N4 s0)).1) true (↑(c9 (Zt ((N4 s0)).1)):Int) 0).trans (by kernel_rfl))) rfl))
noncomputable abbrev B22:Code:=E0 aj3
noncomputable def Sp(L:Nat):Cfg:=C8 L [60] (A4 [(4,[0,1,26,0])]) [(67,Al2),(99,Ba0)] (A4 [(11,[2]),(10,[5,0]),(9,[0,28,0]),(8,[2]),(7,[0,28,0,28]),(6,[0,3,24,0]),(5,[0,2,25,0]),(4,[0,28,0,0]),(3,[0,28,0]),(2,[2]),(1,[0,26]),(0,[0])]) [67,99] (A4 [(0,[0]),(1,[0,28,0])]) (some [2]) [] [] []
noncomputable def R0{R:Type}(L n:Nat)(b:By)(e a:Int)(c:Unit->Option R)(d:By->Option R):Option R:=match n with|0=>none|n+1=>cond (ltI a e) (cond (inR a b.length) (cond (not (ltI (bAt b a) (97:Int))) (cond (not (not (ltI 122 (bAt b a)))) (cond (not (ltI (bAt b a) (48:Int))) (cond (not (not (ltI 57 (bAt b a)))) (cond ((bAt b a)!=45) (cond ((bAt b a)!=95) (c ()) (R0 L n b e (A1 (a+1)) c d)) (R0 L n b e (A1 (a+1)) c d)) (R0 L n b e (A1 (a+1)) c d)) (cond ((bAt b a)!=45) (cond ((bAt b a)!=95) (c ()) (R0 L n b e (A1 (a+1)) c d)) (R0 L n b e (A1 (a+1)) c d))) (R0 L n b e (A1 (a+1)) c d)) (cond (not (ltI (bAt b a) (48:Int))) (cond (not (not (ltI 57 (bAt b a)))) (cond ((bAt b a)!=45) (cond ((bAt b a)!=95) (c ()) (R0 L n b e (A1 (a+1)) c d)) (R0 L n b e (A1 (a+1)) c d)) (R0 L n b e (A1 (a+1)) c d)) (cond ((bAt b a)!=45) (cond ((bAt b a)!=95) (c ()) (R0 L n b e (A1 (a+1)) c d)) (R0 L n b e (A1 (a+1)) c d)))) none) (d b)
theorem Aw3(n a n1 n2):E7 0 ((Sp L).keep 4) (bd (Sp L) Q Y (cd [1,1,0,1,0,0] B22)) n ⟨gp [(0,pS a),(28,pI n1),(0,pI n2)] 41,[],s⟩ k =
 R0 L n a n1 n2 (λ_=>k .ret ⟨gp [(2,pB false)] 69,[],s⟩) (λa=>k (.exit 0) ⟨gp [(0,pS a)] 71,[],s⟩):=by
 induction n generalizing a n1 n2 with
 | zero=>rfl
 | succ n b=>rw[R0];simp only[<-b];kernel_rfl
noncomputable def Cs4{R:Type}(L:Nat)(a:By)(b:Bool->Option R):Option R:=cond (ltI (a.length:Int) (1:Int)) (b false) (cond (ltI 63 (a.length:Int)) (b false) (cond (inR 0 a.length) (cond ((bAt a (0:Int))==45) (b false) (vl (A1 ((a.length:Int)-1)) λd=>cond (inR d a.length) (cond ((bAt a d)==45) (b false) (R0 L L a (a.length:Int) 0 (λ_=>b false) (λc=>cond (A3 c.length) (vl (Hb c ([120,110,45,45]:List UInt8)) λe=>cond (not (aa9 ([120,110,45,45]:List UInt8) c)) (b true) (cond (A3 e.length) (b (Dn e)) none)) none))) none)) none))
theorem Cs5(d:Nat)(s0):evC (Sp L) (d+1) W Y 60 [pS s0] [] s=Cs4 L s0 (λb=>some (pB b,[],s)):=by refine(evE (fn:=aj3) (by kernel_rfl)).trans ?_;generalize evC (Sp L) d=Q;unfold Cs4;exact(j5 (by kernel_rfl) (A0 rfl (A0 rfl (A0 (A0 rfl (A7 λa=>(A0 (A0 rfl ((Aw3 L Q Y s (F9 0 (G6 (Sp L) Q Y (cd [1,1,1] B22) (I1 (Sp L) aj3))) L s0 (s0.length:Int) 0).trans (by kernel_rfl))) rfl))) rfl))))
noncomputable abbrev An7:Code:=E0 ah8
noncomputable def Of(L:Nat):Cfg:=C8 L [146] (A4 [(9,[2,0,1,20])]) [(169,YE),(170,YC),(66,EG),(130,Am0),(60,PS)] (A4 [(18,[2,0]),(17,[2,0]),(16,[4,41]),(15,[4]),(14,[2,0]),(13,[8,32]),(12,[8,0]),(11,[5,20]),(10,[5,1,18]),(9,[5,20,0,0]),(8,[5,20]),(7,[4,0]),(6,[4,19]),(5,[0,3]),(2,[2,0]),(4,[2,0]),(3,[0,13]),(1,[0,9]),(0,[0])]) [169,170,66,130,60] (A4 [(1,[5]),(2,[5,20]),(0,[0])]) (some [2,0]) [] [] []
noncomputable def Fe{R:Type}(L n:Nat)(c:LL)(b:By)(a:Nat)(e:LL->By->Nat->Option R):Option R:=match n with|0=>none|n+1=>cond (decide (a<b.length)) (vl ((ac5 ⟨af3 b⟩ a)).1 λd=>cond (F8 (c.length+1)) (Fe L n (c++[[(SV.int .i64 (A1 d))]]) b (a+((ac5 ⟨af3 b⟩ a)).2) e) none) (e c b a)
theorem Au4(n:Nat)(a:LL)(c:By)(b:Nat):E7 2 ((Of L).keep 9) (bd (Of L) Q Y (cd [1,1,1,0,1,0,1,0,1,0,0] An7)) n ⟨gp [(5,.fl 0),(20,.it 1)] 21,[.arr true 3 1 a,.iter c b],s⟩ k =
 Fe L n a c b (λa c b=>k (.exit 1) ⟨gp [(5,.fl 0)] 42,[.arr true 3 1 a,.iter c b],s⟩):=by
 induction n generalizing a c b with
 | zero=>rfl
 | succ n d=>rw[Fe];simp only[<-d];kernel_rfl
noncomputable def Ab9{R:Type}(L:Nat)(b:By)(g:By->Int->Option R)(h:By->Int->LL->By->Nat->Option R):Option R:=cond (A3 b.length) (cond (not (ac6 (Hn b))) (g ([]:List UInt8) 4) (cond (A3 b.length) (vl (↑(ac1 b):Int) λi=>cond (ltI 256 i) (g ([]:List UInt8) 3) (cond (A3 b.length) (cond (A3 b.length) (vl (↑(ac1 b):Int) λj=>cond (ltI j (b.length:Int)) (Fe L L [] (D3 b) 0 (λa e d=>cond (x4 a Ou) (vl ((X7 (j9 elI a))).1 λf=>vl (↑((X7 (j9 elI a))).2:Int) λl=>cond (l !=0) (h ([]:List UInt8) 14 a e d) (cond (J7 4 f.length) (vl (([120,110,45,45]:List UInt8)++f) λc=>cond (A3 c.length) (cond (not (N9 c)) (h ([]:List UInt8) 14 a e d) (h c 0 a e d)) none) none)) none)) (cond (A3 (c9 (D3 b))) (cond (not (N9 (D3 b))) (g ([]:List UInt8) 14) (g (D3 b) 0)) none)) none) none)) none)) none
theorem Cr3(d:Nat)(s0):evC (Of L) (d+1) W Y 146 [pS s0] [] s=Ab9 L s0 (λa b=>some (.tup [pS a,pI b],[],s)) (λa b c h e=>some (.tup [pS a,pI b],[.arr true 3 1 c,.iter h e],s)):=by refine(evE (fn:=ah8) (by kernel_rfl)).trans ?_;generalize evC (Of L) d=Q;unfold Ab9;exact(j5 (by kernel_rfl) (A0 (A0 rfl (A0 (A7 λf=>(A0 rfl (A0 (A0 (A7 λg=>(A0 ((Au4 L Q Y s (F9 1 (G6 (Of L) Q Y (cd [1,1,1,0,1,0,1,1] An7) (G6 (Of L) Q Y (cd [1,1,1,1] An7) (I1 (Of L) ah8)))) L [] (D3 s0) 0).trans (by kernel_rfl)) (A0 (A0 rfl rfl) rfl))) rfl) rfl))) rfl)) rfl))
noncomputable abbrev Sg:Code:=E0 af9
noncomputable def Jl(L:Nat):Cfg:=C8 L [167] (A4 []) [] (A4 [(7,[2]),(2,[2]),(4,[2]),(6,[2]),(5,[0,23]),(3,[0,12]),(1,[0,2]),(0,[0])]) [] (A4 [(0,[])]) (some [2]) [] [] []
noncomputable def Vk{R:Type}(a:Int)(h:Bool)(f:Int->Option R)(g:Int->Bool->Option R):Option R:=cond h (vl (A1 (wu8 (a-97))) λb=>vl (A1 (b+10)) λc=>f c) (cond (not (ltI a 65)) (cond (not (ltI 70 a)) (vl (A1 (wu8 (a-65))) λd=>vl (A1 (d+10)) λe=>f e) (g a (not (ltI 70 a)))) (g a false))
abbrev MJ(b:Code):Prop:=∀(k:Out->St W->Option R) a c,A9 (Jl L) Q Y b ⟨gp [(0,p8 a),(12,pB c)] 21,[],s⟩ k=Vk a c (λn0=>k .ret ⟨gp [(2,pI n0)] 32,[],s⟩) (λa c=>k .normal ⟨gp [(0,p8 a),(23,pB c)] 10,[],s⟩)
theorem At6:MJ (R:=R) L Q Y s (cd [1,0,0,1,1,1] Sg):=by intro k a b;unfold Vk;kernel_rfl
noncomputable def Vl{R:Type}(b:Int)(l:Bool)(f:Int->Option R)(j:Int->Bool->Option R):Option R:=cond l (vl (A1 (wu8 (b-48))) λg=>f g) (cond (not (ltI b 97)) (Vk b (not (ltI 102 b)) (λh=>f h) (λc d=>j c d)) (Vk b false (λi=>f i) (λe a=>j e a)))
abbrev Zi(b:Code):Prop:=∀(k:Out->St W->Option R) a c,A9 (Jl L) Q Y b ⟨gp [(0,p8 a),(2,pB c)] 31,[],s⟩ k=Vl a c (λn0=>k .ret ⟨gp [(2,pI n0)] 32,[],s⟩) (λa c=>k .normal ⟨gp [(0,p8 a),(23,pB c)] 10,[],s⟩)
theorem At7(a:Code)(b:MJ (R:=R) L Q Y s a):Zi (R:=R) L Q Y s (cd [1,0,0,1] (K4 [1,0,0,1,1,1] a Sg)):=by intro k c d;unfold Vl;simp only[<-b k];kernel_rfl
theorem At8:Zi (R:=R) L Q Y s (cd [1,0,0,1] Sg):=by intro k a b;exact j5 (by kernel_rfl) (At7 L Q Y s (cd [1,0,0,1,1,1] Sg) (At6 L Q Y s) k a b)
noncomputable def B63{R:Type}(L:Nat)(c:Int)(d:Int->Option R):Option R:=cond (not (ltI c 48)) (Vl c (not (ltI 57 c)) (λa=>d a) (λe f=>d (-1))) (Vl c false (λb=>d b) (λg h=>d (-1)))
theorem Cp6(b:Code)(a:Zi (R:=PV × List Blk × W) L Q Y s b)(c:Int):A9 (Jl L) Q Y (cd [] (K4 [1,0,0,1] b Sg)) ⟨[p8 c]++tps 34,[],s⟩ (I1 (Jl L) af9)=B63 L c (λe=>some (pI e,[],s)):=by unfold B63;exact let d:=(F9 0 (G6 (Jl L) Q Y (cd [1,1] Sg) (I1 (Jl L) af9)));(j5 (by kernel_rfl) (A0 ((a d c (not (ltI 57 c))).trans (by kernel_rfl)) ((a d c false).trans (by kernel_rfl))))
theorem Cp7(d:Nat)(b0):evC (Jl L) (d+1) W Y 167 [p8 b0] [] s=B63 L b0 (λa=>some (pI a,[],s)):=
 (evE (fn:=af9) (by kernel_rfl)).trans (j5 (by kernel_rfl) (Cp6 L (evC (Jl L) d) Y s (cd [1,0,0,1] Sg) (At8 L (evC (Jl L) d) Y s) b0))
noncomputable abbrev B20:Code:=E0 ah7
noncomputable def Sn(L:Nat):Cfg:=C8 L [143] (A4 [(3,[0,1,0,0,0])]) [(167,Bz2)] (A4 [(14,[2,0]),(4,[0,3,0]),(13,[0,3,0]),(12,[0,3,0]),(11,[2,0]),(10,[0,3,0,0,0,39]),(9,[0,3,0,0,0]),(8,[2,0]),(7,[0,3,0,25]),(6,[0,3,0]),(5,[0,3,0,14]),(3,[0,3,0,8]),(2,[0,3,0]),(1,[0,3]),(0,[0])]) [167] (A4 [(0,[4]),(1,[0,3,0])]) (some [2,0]) [] [] []
noncomputable def R8{R:Type}(L n:Nat)(b:By)(a:Int)(c:LL)(f:LL->Option R)(g:LL->Option R):Option R:=match n with|0=>none|n+1=>cond (ltI a (b.length:Int)) (cond (inR a b.length) (cond ((bAt b a)!=37) (cond (inR a b.length) (cond (F8 (c.length+1)) (R8 L n b (A1 (a+1)) (c++[[(SV.int .u8 (bAt b a))]]) f g) none) none) (cond (not (ltI (A1 (a+2)) (b.length:Int))) (f c) (cond (inR (A1 (a+1)) b.length) (vl (bAt b (A1 (a+1))) λd=>cond (inR d 256) (cond (inR (A1 (a+2)) b.length) (vl (bAt b (A1 (a+2))) λe=>cond (inR e 256) (cond (ltI (Om (u8n d)) (0:Int)) (f c) (cond (ltI (Om (u8n e)) (0:Int)) (f c) (vl (A1 ((16:Int)*(Om (u8n d)))) λh=>vl (A1 (h+(Om (u8n e)))) λi=>cond (F8 (c.length+1)) (vl (A1 ((A1 (a+2))+1)) λj=>R8 L n b j (c++[[(SV.int .u8 (wu8 i))]]) f g) none))) none) none) none) none))) none) (g c)
theorem At5(n s0 i1 l2):E7 1 ((Sn L).keep 3) (bd (Sn L) Q Y (cd [1,0,1,1,0,1,0,0] B20)) n ⟨gp [(0,pS s0),(3,.fl 0),(0,pI i1)] 54,[.arr false 5 1 l2],s⟩ k =
 R8 L n s0 i1 l2 (λa=>k .ret ⟨gp [(2,pS ([]:List UInt8)),(0,pB false)] 56,[.arr false 5 1 a],s⟩) (λa=>k (.exit 0) ⟨gp [(4,.fl 0)] 55,[.arr false 5 1 a],s⟩):=by
 induction n generalizing s0 i1 l2 with
 | zero=>rfl
 | succ n b=>rw[R8];simp only[<-b];kernel_rfl
noncomputable def B62{R:Type}(L:Nat)(c:By)(d:By->Bool->LL->Option R):Option R:=cond ((decide ((0:Int)<=(c.length:Int)))&&(F8 (j8 (c.length:Int)))) (R8 L L c 0 [] (λb=>d ([]:List UInt8) false b) (λa=>cond (x4 a Td) (d (j9 Rf a) true a) none)) none
theorem Cp4(d:Nat)(s0):evC (Sn L) (d+1) W Y 143 [pS s0] [] s=B62 L s0 (λb c a=>some (.tup [pS b,pB c],[.arr false 5 1 a],s)):=by refine(evE (fn:=ah7) (by kernel_rfl)).trans ?_;generalize evC (Sn L) d=Q;unfold B62;exact(j5 (by kernel_rfl) (A0 ((At5 L Q Y s (F9 0 (G6 (Sn L) Q Y (cd [1,0,1,1,1] B20) (I1 (Sn L) ah7))) L s0 0 []).trans (by kernel_rfl)) rfl))
noncomputable def RS(L:Nat):Cfg:=C8 L [142] (A4 []) [(166,C27)] (A4 [(6,[2,0]),(5,[2,0]),(4,[2,2,15]),(3,[2,2,0]),(2,[0,1,1,8]),(1,[0,1,1]),(0,[0,1])]) [] (A4 []) (some [2,0]) [] [] []
noncomputable def Bd1{R:Type}(L:Nat)(b:By)(l:Int->Int->Int->Int->Int->Int->Int->Int->Int->Int->Int->LL->Option R)(m:Unit->Option R):Option R:=vl (A1 ((b.length:Int)-1)) λa=>cond (inR a b.length) (cond ((bAt b a)==93) (cond (K5 1 a b.length) (cond (A3 (c9 (cut b 1 a))) (vl (↑(v6c 0 (cut b 1 a)):Int) λc=>vl (↑(v6c 1 (cut b 1 a)):Int) λd=>vl (↑(v6c 2 (cut b 1 a)):Int) λe=>vl (↑(v6c 3 (cut b 1 a)):Int) λf=>vl (↑(v6c 4 (cut b 1 a)):Int) λg=>vl (↑(v6c 5 (cut b 1 a)):Int) λh=>vl (↑(v6c 6 (cut b 1 a)):Int) λi=>vl (↑(v6c 7 (cut b 1 a)):Int) λj=>cond (ac6 (v6B (cut b 1 a))) (l 3 c d e f g h i j 0 3 [[(SV.int .u16 c)],[(SV.int .u16 d)],[(SV.int .u16 e)],[(SV.int .u16 f)],[(SV.int .u16 g)],[(SV.int .u16 h)],[(SV.int .u16 i)],[(SV.int .u16 j)]]) (l 0 0 0 0 0 0 0 0 0 14 0 [[(SV.int .u16 c)],[(SV.int .u16 d)],[(SV.int .u16 e)],[(SV.int .u16 f)],[(SV.int .u16 g)],[(SV.int .u16 h)],[(SV.int .u16 i)],[(SV.int .u16 j)]])) none) none) (m ())) none
theorem B60(d:Nat)(s0):evC (RS L) (d+1) W Y 142 [pS s0] [] s=Bd1 L s0 (λl c e f g h i j r8 m b a=>some (.tup [.agg [pI l,pS ([]:List UInt8),p32 (0:Int),p16 c,p16 e,p16 f,p16 g,p16 h,p16 i,p16 j,p16 r8],pI m],[.box [pI b,pS ([]:List UInt8),p32 (0:Int),p16 c,p16 e,p16 f,p16 g,p16 h,p16 i,p16 j,p16 r8],.arr false 27 1 a],s)) (λ_=>some (.tup [.agg [pI (0:Int),pS ([]:List UInt8),p32 (0:Int),p16 (0:Int),p16 (0:Int),p16 (0:Int),p16 (0:Int),p16 (0:Int),p16 (0:Int),p16 (0:Int),p16 (0:Int)],pI (14:Int)],[.box [pI (0:Int),pS ([]:List UInt8),p32 (0:Int),p16 (0:Int),p16 (0:Int),p16 (0:Int),p16 (0:Int),p16 (0:Int),p16 (0:Int),p16 (0:Int),p16 (0:Int)]],s)):=by refine(evE (fn:=Tryz.f142) (by kernel_rfl)).trans ?_;generalize evC (RS L) d=Q;unfold Bd1;kernel_rfl
noncomputable def Ap1(L:Nat):Cfg:=C8 L [15] (A4 []) [(34,Bz4)] (A4 [(9,[2]),(4,[2]),(6,[2]),(8,[2]),(7,[1,31]),(5,[1,1,1,16]),(3,[1,1,1,0]),(2,[1,1,1]),(1,[1,1]),(0,[1])]) [34] (A4 [(0,[])]) (some [2]) [] [] []
noncomputable def Nn{R:Type}(L:Nat)(c:Int)(b:By)(d e f g h i j l a:Int)(m:Bool->Int->By->Int->Int->Int->Int->Int->Int->Int->Int->Int->LL->Option R):Option R:=cond (c==1) (cond (A3 b.length) (cond (Af b) (cond (d==0) (m ((e==0)&&((f==0)&&((g==0)&&((h==0)&&((i==0)&&((j==0)&&((l==0)&&((a==0)&&true)))))))) c b d e f g h i j l a (y5 8 [(SV.int .u16 (0:Int))])) (m false c b d e f g h i j l a (y5 8 [(SV.int .u16 (0:Int))]))) (m false c b d e f g h i j l a (y5 8 [(SV.int .u16 (0:Int))]))) none) (cond (c==2) (cond (b==[]) (m ((e==0)&&((f==0)&&((g==0)&&((h==0)&&((i==0)&&((j==0)&&((l==0)&&((a==0)&&true)))))))) c b d e f g h i j l a (y5 8 [(SV.int .u16 (0:Int))])) (m false c b d e f g h i j l a (y5 8 [(SV.int .u16 (0:Int))]))) (cond (c==3) (cond (b==[]) (m (d==0) c b d e f g h i j l a (y5 8 [(SV.int .u16 (0:Int))])) (m false c b d e f g h i j l a (y5 8 [(SV.int .u16 (0:Int))]))) (m false c b d e f g h i j l a (y5 8 [(SV.int .u16 (0:Int))]))))
theorem Cq5(d:Nat)(h0 h1 h2 h3 h4 h5 h6 h7 h8 h9 h10):evC (Ap1 L) (d+1) W Y 15 [.agg [pI h0,pS h1,p32 h2,p16 h3,p16 h4,p16 h5,p16 h6,p16 h7,p16 h8,p16 h9,p16 h10]] [] s=Nn L h0 h1 h2 h3 h4 h5 h6 h7 h8 h9 h10 (λn f o g h i j l e m b c a=>some (pB n,[.box [pI f,pS o,p32 g,p16 h,p16 i,p16 j,p16 l,p16 e,p16 m,p16 b,p16 c],.arr false 27 1 a],s)):=by refine(evE (fn:=Tryz.f15) (by kernel_rfl)).trans ?_;generalize evC (Ap1 L) d=Q;unfold Nn;kernel_rfl
noncomputable def Ao8(L:Nat):Cfg:=C8 L [17] (A4 []) [(15,PE),(36,C23),(37,C25)] (A4 [(7,[2]),(2,[2]),(4,[2]),(6,[2]),(5,[1,11]),(3,[1,5]),(1,[1,1]),(0,[1])]) [15,36,37] (A4 [(0,[1])]) (some [2]) [] [] []
noncomputable def Cq0{R:Type}(L:Nat)(j:Int)(l:By)(b c d e f g h i a:Int)(o:By->Int->By->Int->Int->Int->Int->Int->Int->Int->Int->Int->Option R):Option R:=cond (A3 l.length) (cond (ltN b 4294967296) (cond (ok8 c d e f g h i a) (cond (not (N2 (mkH j l b (n8 c d e f g h i a)))) (o ([]:List UInt8) j l b c d e f g h i a) (cond (j==1) (o l j l b c d e f g h i a) (cond (j==2) (cond (ltN b 4294967296) (o (Hx (j8 b)) j l b c d e f g h i a) none) (cond (ok8 c d e f g h i a) (vl (Nl (n8 c d e f g h i a)) λm=>cond (J7 1 m.length) (vl (([91]:List UInt8)++m) λn=>cond (J7 n.length 1) (vl (n++[93]) λp=>o p j l b c d e f g h i a) none) none) none)))) none) none) none
theorem Cq1(d:Nat)(h0 h1 h2 h3 h4 h5 h6 h7 h8 h9 h10):evC (Ao8 L) (d+1) W Y 17 [.agg [pI h0,pS h1,p32 h2,p16 h3,p16 h4,p16 h5,p16 h6,p16 h7,p16 h8,p16 h9,p16 h10]] [] s=Cq0 L h0 h1 h2 h3 h4 h5 h6 h7 h8 h9 h10 (λm e n f g h i j c l a b=>some (pS m,[.box [pI e,pS n,p32 f,p16 g,p16 h,p16 i,p16 j,p16 c,p16 l,p16 a,p16 b]],s)):=by refine(evE (fn:=Tryz.f17) (by kernel_rfl)).trans ?_;generalize evC (Ao8 L) d=Q;unfold Cq0;kernel_rfl
noncomputable def Ao6(L:Nat):Cfg:=C8 L [74] (A4 []) [(34,Bz4),(116,Bz3)] (A4 [(1,[4]),(0,[0,0])]) [34,116] (A4 []) (some [4]) [] [] []
noncomputable def Cp2{R:Type}(L:Nat)(a b:By)(c:Bool->Option R):Option R:=cond (A3 a.length) (cond (Af a) (cond (A3 b.length) (cond (Af b) (cond (a==b) (c true) (cond (J7 1 a.length) (vl (([46]:List UInt8)++a) λd=>cond (A3 b.length) (c (List.isSuffixOf d b)) none) none)) (c false)) none) (c false)) none
theorem Cp3(d:Nat)(super0 name1):evC (Ao6 L) (d+1) W Y 74 [pS super0,pS name1] [] s=Cp2 L super0 name1 (λa=>some (pB a,[],s)):=by refine(evE (fn:=Tryz.f74) (by kernel_rfl)).trans ?_;generalize evC (Ao6 L) d=Q;unfold Cp2;kernel_rfl
end
section
variable {W R : Type} (L : Nat) (Q : F4) (Y : Yh W) (s : W) (k : Out -> St W -> Option R)
noncomputable def Ap6(L:Nat):Cfg:=C8 L [175] (A4 []) [] (A4 [(2,[2]),(1,[1,1]),(0,[1])]) [] (A4 []) (some [2]) [] [] []
noncomputable def C82{R:Type}(L:Nat)(b:Int)(a:Int->Option R):Option R:=a b
theorem Cu6(d:Nat)(b):evC (Ap6 L) (d+1) W Y 175 [pI b] [] s=C82 L b (λn0=>some (.fnr (w6 190) [] [.ptr 1 0 0,.ptr 0 0 0],[.box [pI n0],.box [pI (0:Int)]],s)):=by refine(evE (fn:=Tryz.f175) (by kernel_rfl)).trans ?_;generalize evC (Ap6 L) d=Q;unfold C82;kernel_rfl
noncomputable def SG(L:Nat):Cfg:=C8 L [190] (A4 []) [] (A4 [(2,[2]),(1,[0,0]),(0,[0,0])]) [] (A4 []) (some [2]) [] [] []
noncomputable def Bf8{R:Type}(L:Nat)(k b:Int)(d:Int->Int->Int->Option R):Option R:=vl (A1 ((A1 (k+36))-b)) λa=>vl (if ((26:Int)<(if ((1:Int) > a) then (1:Int) else a)) then (26:Int) else (if ((1:Int) > a) then (1:Int) else a)) λc=>d c (A1 (k+36)) b
theorem Ca1(d:Nat)(k b):evC (SG L) (d+1) W Y 190 [.ptr 0 0 0,.ptr 1 0 0] [.box [pI k],.box [pI b]] s=Bf8 L k b (λe a c=>some (pI e,[.box [pI a],.box [pI c]],s)):=by refine(evE (fn:=Tryz.f190) (by kernel_rfl)).trans ?_;generalize evC (SG L) d=Q;unfold Bf8;kernel_rfl
noncomputable abbrev C53:Code:=E0 ah9
noncomputable def Yv(L:Nat):Cfg:=C8 L [156] (A4 [(2,[0,0,4,0])]) [(175,EO),(176,Al9)] (A4 [(6,[0,0,5]),(5,[0,0,5,0]),(4,[6]),(3,[0,0,5,0,6]),(2,[0,0,5,0]),(1,[0,0,5]),(0,[0,0,0])]) [176] (A4 [(0,[6]),(1,[0,0,5])]) (some [6]) [(190,Pv)] [] [190]
noncomputable def It{R:Type}(L n:Nat)(f:Int)(p:Bool)(g:LL)(a b:Int)(o:Bool->LL->Int->Int->Option R):Option R:=match n with|0=>none|n+1=>cond (ltN b 1000000000000) (cond (ltN a 1000000) (cond (ltI f (L6 b a)) (cond (ltN f 36) (vl (↑(aj5 (Ah (j8 f))):Int) λh=>cond (F8 (g.length+1)) (o p (g++[[(SV.int .u8 h)]]) a (aa8 b (36:Int))) none) none) (vl (A1 (f-(L6 b a))) λi=>vl (A1 ((36:Int)-(L6 b a))) λc=>cond (c !=0) (vl (A1 ((L6 b a)+(ae8 i c))) λd=>cond (ltN d 36) (vl (↑(aj5 (Ah (j8 d))):Int) λj=>cond (F8 (g.length+1)) (vl (A1 (f-(L6 b a))) λl=>vl (A1 ((36:Int)-(L6 b a))) λe=>cond (e !=0) (vl (A1 (ad9 l e)) λm=>It L n m p (g++[[(SV.int .u8 j)]]) a (aa8 b (36:Int)) o) none) none) none) none)) none) none
theorem Ax4(n q0 z1 l2 a n4):E7 3 ((Yv L).keep 2) (bd (Yv L) Q Y (cd [1,1,0,0] C53)) n ⟨gp [(0,.fl 0),(0,pI q0),(5,.fnr (w6 190) [] [.ptr 2 0 0,.ptr 1 0 0])] 31,[.arr z1 5 1 l2,.box [pI a],.box [pI n4]],s⟩ k =
 It L n q0 z1 l2 a n4 (λe c d a=>k .ret ⟨gp [(6,.fl 0)] 32,[.arr e 5 1 c,.box [pI d],.box [pI a]],s⟩):=by
 induction n generalizing q0 z1 l2 a n4 with
 | zero=>rfl
 | succ n b=>rw[It];simp only[<-b];kernel_rfl
noncomputable def C79{R:Type}(L:Nat)(q b:Int)(z:Bool)(l:LL)(f:Bool->LL->Int->Int->Option R):Option R:=It L L q z l b 0 (λe a c d=>f e a c d)
theorem Ct5(d:Nat)(q b z l):evC (Yv L) (d+1) W Y 156 [.fl 0,pI q,pI b] [.arr z 5 1 l] s=C79 L q b z l (λf a c e=>some (.fl 0,[.arr f 5 1 a,.box [pI c],.box [pI e]],s)):=by refine(evE (fn:=ah9) (by kernel_rfl)).trans ?_;generalize evC (Yv L) d=Q;unfold C79;exact(j5 (by kernel_rfl) ((Ax4 L Q Y s (F9 0 (I1 (Yv L) ah9)) L q z l b 0).trans (by kernel_rfl)))
noncomputable abbrev Em:Code:=E0 af8
noncomputable def Q0(L:Nat):Cfg:=C8 L [130] (A4 [(29,[0,1,0,0,2,0,0,0,0,61,0,0]),(21,[0,1,0,0,2,0,0,0,0,0,38,0,0]),(17,[0,1,0,0,2,0,0,0,0]),(5,[0,1,0,0,15,0,0])]) [(155,Nt),(157,Ns)] (A4 [(40,[2,0]),(18,[0,3,2,0,0,0,0]),(39,[0,3,2,0,0,0,0]),(38,[0,3,2,0,0,0,0,61,0,0]),(32,[0,3,2,0,0,0,0,61,0,0]),(37,[0,3,2,0,0,0,0,61,0,0]),(36,[0,3,2,0,0,0,0,61,0,0]),(35,[0,3,2,0,1,0,61,0,0]),(34,[0,3,2,0,0,1,61,0,0]),(33,[0,3,2,0,0,0,0,61,0,0,9]),(31,[0,3,2,0,0,0,0,4,56,0,0,3]),(30,[0,3,2,0,0,0,0,4,56,0,0]),(29,[0,3,2,0,0,0,0,61,0,0,0]),(28,[0,3,2,0,0,0,0,61,0,0]),(27,[0,3,2,0,0,0,0]),(26,[0,3,2,1,0,0,0]),(25,[0,3,2,0,0,0,0,0,38,0,0]),(24,[0,3,2,0,0,0,0,0,38,0,0]),(23,[0,3,2,0,0,0,0,0,1,36,0,0,5]),(22,[0,3,2,0,0,0,0,0,1,36,0,0]),(21,[0,3,2,0,0,0,0,0,38,0,0,0]),(20,[0,3,2,0,0,0,0,0,38,0,0]),(19,[0,3,2,0,0,0,0,0]),(17,[0,3,2,0,0,0,0,36]),(16,[0,3,2,0,0,0,0]),(15,[0,3,2,0,0,0]),(14,[0,3,2]),(13,[0,3,2,32]),(12,[0,3,2]),(11,[0,3,15,0,0]),(10,[0,3,15,0,0]),(9,[0,3,1,13,0,0,7]),(8,[2,0]),(7,[0,3,1,13,0,0,5]),(6,[0,3,1,13,0,0]),(5,[0,3,15,0,0,0]),(4,[0,3,15,0,0]),(3,[0,3]),(2,[2,0]),(1,[0,18]),(0,[0])]) [155,157] (A4 [(2,[4]),(3,[0,3,2,0,0,0,0]),(6,[0,3,2,0,0,0,0]),(7,[0,3,2,0,0,0,0,61,0,0]),(8,[0,3,2,0,0,0,0,61,0,0]),(4,[0,3,2,0,0,0,0,0]),(5,[0,3,2,0,0,0,0,0,38,0,0]),(0,[0,3]),(1,[0,3,15,0,0])]) (some [2,0]) [(156,PU)] [] [156]
noncomputable def T9{R:Type}(L n:Nat)(c b:Bool)(a:LL)(i e:Int)(f:LL)(g:LL->Option R)(h:Bool->Bool->LL->LL->Option R):Option R:=match n with|0=>none|n+1=>cond (ltI e i) (cond (inR e a.length) (cond (okE Lc a (j8 e) 0) (vl (gE a (j8 e) 0) λd=>cond (not (ptI d)) (g f) (cond (ltI d 128) (cond (F8 (f.length+1)) (T9 L n c b a i (A1 (e+1)) (f++[[(SV.int .u8 (wu8 d))]]) g h) none) (T9 L n c b a i (A1 (e+1)) f g h))) none) none) (h c b a f)
theorem Ay5(n b a c n3 n4 l5):E7 1 ((Q0 L).keep 5) (bd (Q0 L) Q Y (cd [1,1,1,0,1,0,0] Em)) n ⟨gp [(0,.s (.sl b a 1 c)),(3,.fl 0),(15,.s (.sl b a 1 c)),(0,pI n3),(0,pI n4)] 84,[.arr true 5 1 l5],s⟩ k =
 T9 L n b a c n3 n4 l5 (λe=>k .ret ⟨gp [(2,pS ([]:List UInt8)),(0,pI (2:Int))] 103,[.arr true 5 1 e],s⟩) (λb a c f=>k (.exit 0) ⟨gp [(0,.s (.sl b a 1 c)),(3,.fl 0)] 102,[.arr true 5 1 f],s⟩):=by
 induction n generalizing b a c n3 n4 l5 with
 | zero=>rfl
 | succ n d=>rw[T9];simp only[<-d];kernel_rfl
noncomputable def Iw{R:Type}(L n:Nat)(c b:Bool)(a:LL)(d o e f g m q h:Int)(i:LL)(p:Bool->Bool->LL->Int->Int->Int->Int->Int->Int->LL->Option R):Option R:=match n with|0=>none|n+1=>cond (ltI h q) (cond (inR h a.length) (cond (okE Lc a (j8 h) 0) (vl (gE a (j8 h) 0) λj=>cond (not (ltI j o)) (vl (if (j<m) then j else m) λl=>Iw L n c b a d o e f g l q (A1 (h+1)) i p) (Iw L n c b a d o e f g m q (A1 (h+1)) i p)) none) none) (p c b a d o e f g m i)
theorem Ay6(n b a c d i e f g h n9 n10 l11):E7 1 ((Q0 L).keep 21) (bd (Q0 L) Q Y (cd [1,1,1,1,1,1,1,0,1,0,0,1,0,0,1,0,1,0,0] Em)) n ⟨gp [(0,.s (.sl b a 1 c)),(3,.fl 0),(2,pI d),(0,pI i),(0,pI e),(0,pI f),(0,pI g),(0,pI h),(38,.s (.sl b a 1 c)),(0,pI n9),(0,pI n10)] 53,[.arr true 5 1 l11],s⟩ k =
 Iw L n b a c d i e f g h n9 n10 l11 (λb a c d i e f g h l=>k (.exit 4) ⟨gp [(0,.s (.sl b a 1 c)),(3,.fl 0),(2,pI d),(0,pI i),(0,pI e),(0,pI f),(0,pI g),(0,pI h)] 94,[.arr true 5 1 l],s⟩):=by
 induction n generalizing b a c d i e f g h n9 n10 l11 with
 | zero=>rfl
 | succ n j=>rw[Iw];simp only[<-j];kernel_rfl
noncomputable def Cf{R:Type}(L n:Nat)(d c:Bool)(a:LL)(e m b g f i l:Int)(l10:LL)(t:Bool->Bool->LL->Int->Int->Int->Int->Int->LL->Option R):Option R:=match n with|0=>none|n+1=>cond (ltI l i) (cond (inR l a.length) (cond (okE Lc a (j8 l) 0) (vl (gE a (j8 l) 0) λj=>cond (ltI j m) (vl (A1 (b+1)) λp=>Cf L n d c a e m p g f i (A1 (l+1)) l10 t) (cond (j==m) (cond (ltN b 1152921504606846976) (cond (ltN g 1000000) (cond (o8 l10.length 100000) (vl (ag1 l10 (j9 F0 (P2 (j8 b) 0 (j8 g)))) λo=>vl (A1 (f+1)) λh=>cond (ltN b 1152921504606846976) (cond (ltN h 1000000) (cond (ltI 0 h) (vl (↑(P9 (j8 b) (j8 h) (f==e)):Int) λq=>vl (A1 (f+1)) λr=>Cf L n d c a e m 0 q r i (A1 (l+1)) o t) none) none) none) none) none) none) (Cf L n d c a e m b g f i (A1 (l+1)) l10 t))) none) none) (t d c a e m b g f l10)
theorem Ay7(n b a c d h e f g n8v n9 l10):E7 1 ((Q0 L).keep 29) (bd (Q0 L) Q Y (cd [1,1,1,1,1,1,1,0,1,0,0,1,0,0,1,1,1,1,0,1,0,0] Em)) n ⟨gp [(0,.s (.sl b a 1 c)),(3,.fl 0),(2,pI d),(0,pI h),(0,pI e),(0,pI f),(0,pI g),(61,.s (.sl b a 1 c)),(0,pI n8v),(0,pI n9)] 31,[.arr true 5 1 l10],s⟩ k =
 Cf L n b a c d h e f g n8v n9 l10 (λb a c d h e f g j=>k (.exit 6) ⟨gp [(0,.s (.sl b a 1 c)),(3,.fl 0),(2,pI d),(0,pI h),(0,pI e),(0,pI f),(0,pI g)] 95,[.arr true 5 1 j],s⟩):=by
 induction n generalizing b a c d h e f g n8v n9 l10 with
 | zero=>rfl
 | succ n i=>rw[Cf];simp only[<-i];kernel_rfl
noncomputable def Fk{R:Type}(L n:Nat)(j i:Bool)(b:LL)(v K w y u:Int)(J:LL)(I:LL->Option R):Option R:=match n with|0=>none|n+1=>cond (ltI u (b.length:Int)) (Iw L L j i b v K w y u 1114112 (b.length:Int) 0 J (λe c a l B o q g x z=>vl (A1 (g+1)) λC=>vl (A1 ((A1 (x-B))*C)) λD=>Cf L L e c a l x (A1 (o+D)) q g (a.length:Int) 0 z (λf d h m F p r t A=>vl (A1 (p+1)) λG=>vl (A1 (F+1)) λH=>Fk L n f d h m H G r t A I))) (I J)
theorem IV(n points_z0 points_t1 points2 basic3 n4 delta5 bias6 done7 l8):E7 1 ((Q0 L).keep 17) (bd (Q0 L) Q Y (cd [1,1,1,1,1,1,1,0,1,0,0] Em)) n ⟨gp [(0,.s (.sl points_z0 points_t1 1 points2)),(3,.fl 0),(2,pI basic3),(0,pI n4),(0,pI delta5),(0,pI bias6),(0,pI done7)] 95,[.arr true 5 1 l8],s⟩ k =
 Fk L n points_z0 points_t1 points2 basic3 n4 delta5 bias6 done7 l8 (λB=>k (.exit 2) ⟨gp [(4,.fl 0)] 102,[.arr true 5 1 B],s⟩):=by
 induction n generalizing points_z0 points_t1 points2 basic3 n4 delta5 bias6 done7 l8 with
 | zero=>rfl
 | succ n A=>rw[Fk];exact(j5 (by kernel_rfl) (A0 ((Ay6 L Q Y s (F9 4 (G6 (Q0 L) Q Y (cd [1,1,1,1,1,1,1,0,1,0,0,1,0,0,1,1] Em) (F9 3 (G6 (Q0 L) Q Y (cd [1,1,1,1,1,1,1,0,1,0,0,1,1] Em) (lpK 1 ((Q0 L).keep 17) (bd (Q0 L) Q Y (cd [1,1,1,1,1,1,1,0,1,0,0] Em)) n k))))) L points_z0 points_t1 points2 basic3 n4 delta5 bias6 done7 1114112 (points2.length:Int) 0 l8).trans (congr rfl (Co8 λd b a g x i j m t q=>(j5 (by kernel_rfl) (A7 λy=>(A7 λu=>((Ay7 L Q Y s (F9 6 (G6 (Q0 L) Q Y (cd [1,1,1,1,1,1,1,0,1,0,0,1,0,0,1,1,1,1,1] Em) (F9 3 (G6 (Q0 L) Q Y (cd [1,1,1,1,1,1,1,0,1,0,0,1,1] Em) (lpK 1 ((Q0 L).keep 17) (bd (Q0 L) Q Y (cd [1,1,1,1,1,1,1,0,1,0,0] Em)) n k))))) L d b a g t (A1 (i+u)) j m (a.length:Int) 0 q).trans (congr rfl (fx9 λe c f h z p l o r=>(j5 (by kernel_rfl) (A7 λv=>(A7 λw=>(A e c f h w v l o r))))))))))))) rfl))
noncomputable def Ad9{R:Type}(L:Nat)(l j:Bool)(p:LL)(m:Unit->Option R)(h:By->Int->LL->Option R):Option R:=cond (ltI 256 (p.length:Int)) (m ()) (T9 L L l j p (p.length:Int) 0 [] (λi=>h ([]:List UInt8) 2 i) (λb a c g=>vl (g.length:Int) λf=>cond (ltI 0 f) (cond (F8 (g.length+1)) (Fk L L b a c f 128 0 72 f (g++[[(SV.int .u8 (45:Int))]]) (λd=>cond (x4 d Td) (h (j9 Rf d) 0 d) none)) none) (Fk L L b a c f 128 0 72 f g (λe=>cond (x4 e Td) (h (j9 Rf e) 0 e) none))))
theorem Cu0(d:Nat)(p_z p_t p):evC (Q0 L) (d+1) W Y 130 [.s (.sl p_z p_t 1 p)] [] s=Ad9 L p_z p_t p (λ_=>some (.tup [pS ([]:List UInt8),pI (3:Int)],[],s)) (λi j h=>some (.tup [pS i,pI j],[.arr true 5 1 h],s)):=by refine(evE (fn:=af8) (by kernel_rfl)).trans ?_;generalize evC (Q0 L) d=Q;unfold Ad9;exact let g:=(F9 2 (G6 (Q0 L) Q Y (cd [1,1,1,1,1,1,1,1] Em) (I1 (Q0 L) af8)));(j5 (by kernel_rfl) (A0 rfl ((Ay5 L Q Y s (F9 0 (G6 (Q0 L) Q Y (cd [1,1,1,1] Em) (I1 (Q0 L) af8))) L p_z p_t p (p.length:Int) 0 []).trans (congr (congr rfl (by kernel_rfl)) (fx4 λb a c f=>(j5 (by kernel_rfl) (A7 λe=>(A0 (A0 ((IV L Q Y s g L b a c e 128 0 72 e (f++[[(SV.int .u8 (45:Int))]])).trans (by kernel_rfl)) rfl) ((IV L Q Y s g L b a c e 128 0 72 e f).trans (by kernel_rfl))))))))))
end
theorem Xc(k b:Nat):L6 ((36*k:Nat):Int) (b:Int)=(thr k b:Int):=by unfold L6 thr;omega
theorem Br4{R:Type}{a:Int->Option R}(b:Int):C82 LF b a=a b:=rfl
theorem Az1{R:Type}{a:Int->Int->Int->Option R}(k b:Int)(e:ltN k 1000000000000=true)(f:ltN b 1000000=true):Bf8 LF k b a=a (L6 k b) (aa8 k 36) b:=by
 obtain⟨g,h⟩:=D9.1 e;obtain⟨i,j⟩:=D9.1 f;unfold Bf8;have c:A1 (k+36)=k+36:=A5;have d:A1 (k+36-b)=k+36-b:=A5;simp only[vl,c,d];have:(if (26:Int)<(if (1:Int) > k+36-b then (1:Int) else k+36-b) then (26:Int) else (if (1:Int) > k+36-b then (1:Int) else k+36-b))=L6 k b:=by
  unfold L6;omega
 grind
theorem Qh{q k b:Nat}(h:q<thr k b):P2 q k b=[Ah q]:=by rw[P2,dif_pos h]
theorem Zc{q k b:Nat}(h:¬q<thr k b):P2 q k b=Ah (thr k b+(q-thr k b) % (36-thr k b))::P2 ((q-thr k b) / (36-thr k b)) (k+1) b:=by rw[P2,dif_neg h]
theorem TQ{x y m:Nat}(a:10<=y)(h:x<10*m):x / y<m:=by have b:x / y<=x / 10:=Nat.div_le_div_left a (by omega);omega
theorem Ar7(b:Nat):∀(r q k:Nat),q<10 ^ r->(P2 q k b).length<=r+1:=by
 intro r
 induction r with
 | zero=>
  intro q k h;have c:=V5 k b;rw[Qh (by simp at h;omega)];simp
 | succ r d=>
  intro q k h;have c:=V5 k b;by_cases a:q<thr k b
  ·rw[Qh a];simp
  ·rw[Zc a,j2];have:=d ((q-thr k b) / (36-thr k b)) (k+1) (TQ (by omega) (by rw[ai5] at h;omega));omega
theorem Bq0(z:Bool)(b:Nat)(K:b<1000000):∀(r q k n:Nat) (l:LL),q<10 ^ r->q<1152921504606846976->k+r<=1000->r<n->l.length+r<=200000->
  ∃(d f:Int),∀(R:Type) (a:Bool->LL->Int->Int->Option R),It LF n (q:Int) z l (b:Int) ((36*k:Nat):Int) a=a z (l++(P2 q k b).map F0) d f:=by
 have c:∀(q k n:Nat) (l:LL),q<thr k b->k<=1000->l.length<=200000->∃(d f:Int),∀(R:Type) (a:Bool->LL->Int->Int->Option R),It LF (n+1) (q:Int) z l (b:Int) ((36*k:Nat):Int) a=a z (l++(P2 q k b).map F0) d f:=by
  intro q k n l g i j;have p:=V5 k b;refine⟨(b:Int),aa8 ((36*k:Nat):Int) 36,λR a=>?_⟩;rw[It];rw[M0,M0,Xc,A8,M0,Qh g];simp only[vl,cond_true,j0];rw[F3 (by omega)];rfl
 intro r
 induction r with
 | zero=>
  intro q k n l h _ i H j;have p:=V5 k b;obtain⟨n,rfl⟩:∃m,n=m+1:=⟨n-1,by omega⟩
  exact c q k n l (by simp at h;omega) (by omega) (by omega)
 | succ r I=>
  intro q k n l h o i H j;have p:=V5 k b;obtain⟨n,rfl⟩:∃m,n=m+1:=⟨n-1,by omega⟩
  by_cases g:q<thr k b
  ·exact c q k n l g (by omega) (by omega)
  ·have D:(q-thr k b) / (36-thr k b)<10 ^ r:=TQ (by omega) (by rw[ai5] at h;omega);have F:(q-thr k b) / (36-thr k b)<=q:=ai4 (ad6 _ _) (by omega);have G:(q-thr k b) % (36-thr k b)<36-thr k b:=ag8 _ (by omega);obtain⟨d,f,e⟩:=I ((q-thr k b) / (36-thr k b)) (k+1) n (l++[F0 (Ah (thr k b+(q-thr k b) % (36-thr k b)))]) D (by omega) (by omega) (by omega) (by rw[j6,ad7];omega);refine⟨d,f,λR a=>?_⟩;rw[It];have t:A1 ((q:Int)-(thr k b:Int))=((q-thr k b:Nat):Int):=by rw[A5];omega
   have u:A1 ((36:Int)-(thr k b:Int))=((36-thr k b:Nat):Int):=by rw[A5];omega
   have v:ae8 ((q-thr k b:Nat):Int) ((36-thr k b:Nat):Int)=(((q-thr k b) % (36-thr k b):Nat):Int):=Cl _ _;have w:ad9 ((q-thr k b:Nat):Int) ((36-thr k b:Nat):Int)=(((q-thr k b) / (36-thr k b):Nat):Int):=M3 _ _;have C:((((36-thr k b:Nat):Int))!=0)=true:=by rw[bne_iff_ne];omega
   rw[M0,M0,Xc,A6];simp only[vl,t,u,v,w,C,cond_true,cond_false];rw[Zc g];generalize hA:(q-thr k b) / (36-thr k b)=A at *;generalize J:(q-thr k b) % (36-thr k b)=B at *;have x:A1 ((thr k b:Int)+(B:Int))=((thr k b+B:Nat):Int):=by rw[A5];rfl
   have y:A1 (A:Int)=(A:Int):=A5;rw[x,y,M0,F3 (by omega),j0,show aa8 ((36*k:Nat):Int) 36=((36*(k+1):Nat):Int) from(by show((36*k:Nat):Int)+36=_;omega)];refine j5 (e R a) ?_;simp[x8]
theorem Bq1(q b:Int)(z:Bool)(l:LL)(h:ltN q 1152921504606846976=true)(i:ltN b 1000000=true)(j:o8 l.length 100000=true) :
  ∃(c d:Int),∀(R:Type) (a:Bool->LL->Int->Int->Option R),C79 LF q b z l a=a z (ag1 l ((P2 q.toNat 0 b.toNat).map F0)) c d:=by
 obtain⟨f,m⟩:=D9.1 h;obtain⟨g,n⟩:=D9.1 i;obtain⟨q,rfl⟩:=w8 f;obtain⟨b,rfl⟩:=w8 g;have o:=ab4 j;have k:=E2;obtain⟨c,d,e⟩:=Bq0 z b (by omega) 19 q 0 LF l (by omega) (by omega) (by omega) (by omega) (by omega);exact⟨c,d,λR a=>e R _⟩
def Av(l:List Int):LL:=l.map λx=>[SV.int .i64 x]
def C2(l:List Nat):LL:=l.map λx:Nat=>[SV.int .i64 (x:Int)]
theorem Qq(l:List Nat):Av (l.map λn:Nat=>(n:Int))=C2 l:=by simp[Av,C2,ae7]
theorem U5(l:List Int):(Av l).length=l.length:=by simp[Av]
theorem D7(l:List Nat):(C2 l).length=l.length:=by simp[C2]
theorem Kt(a b:List Nat):C2 (a++b)=C2 a++C2 b:=by simp[C2]
theorem UY{l:List Int}{i:Nat}(h:i<l.length):okE Lc (Av l) i 0=true:=by unfold okE Av Lc;simp[p4,h,okS,SV.has]
theorem As5(l:List Int)(i:Nat)(h:i<l.length):gE (Av l) i 0=l.getD i 0:=by unfold gE gC Av;simp[p4,aa1 h,SV.gI]
theorem Qt{l:List Nat}{i:Nat}(h:i<l.length):okE Lc (C2 l) i 0=true:=by rw[<-Qq];exact UY (by simpa using h)
theorem Zf(l:List Nat)(i:Nat)(h:i<l.length):gE (C2 l) i 0=(l.getD i 0:Int):=by rw[<-Qq,As5 _ _ (by simpa using h)];grind
theorem Bd6{l:LL}(h:l.all Ou=true):∃P:List Int,l=Av P:=by
 induction l with
 | nil=>exact⟨[],rfl⟩
 | cons x r b=>
  simp only[aa0,o7] at h;obtain⟨P,rfl⟩:=b h.2;have a:=h.1;unfold Ou at a;split at a
  ·rename_i n;exact⟨n::P,rfl⟩
  ·cases a
theorem ZQ(P:List Int):(Av P).map elI=P:=by
 unfold Av;rw[ab8]
 conv=>rhs;rw[<-aj0 P]
 apply ab7;intro x _;simp[elI,SV.gI]
theorem ZP(l:List Int)(i:Nat)(h:i<l.length):l.drop i=l.getD i 0::l.drop (i+1):=by simp_all
theorem Uy(l:List Nat)(i:Nat)(h:i<l.length):l.drop i=l.getD i 0::l.drop (i+1):=by simp_all
theorem Cl8:∀(r d k:Nat),d<456*35 ^ r->Yl d k<=k+36*r+36:=by
 intro r
 induction r with
 | zero=>
  intro d k h;rw[Se (by simp at h;omega)];have:36*d / (d+38)<=36:=by
   apply Nat.div_le_of_le_mul;omega
  omega
 | succ r b=>
  intro d k h;by_cases a:455<d
  ·rw[FT a];grind
  grind
theorem Nw(d c:Nat)(f:Bool)(h:d<1152921504606846976):P9 d c f<=500:=by
 unfold P9;have a:∀x:Nat,x<=d->Yl (x+x / c) 0<=500:=by
  intro x a;have:=ad6 x c;have:=Cl8 11 (x+x / c) 0 (by omega);omega
 grind
theorem MB{q k b:Nat}(h:q<1152921504606846976):(P2 q k b).length<=20:=Ar7 b 19 q k (by omega)
theorem Bf6(z t:Bool)(c:List Nat)(a m:Nat)(Q:m<=1114112)(P:c.length<=256):∀(r i n:Nat) (s:OM),i+r=c.length->r<n->s.delta+r<=1000000000000->s.bias<=500->s.out.length+20*r<=90000->s.done+r<=1000->a<=256->
  (∀(R:Type) (d:Bool->Bool->LL->Int->Int->Int->Int->Int->LL->Option R),Cf LF n z t (C2 c) (a:Int) (m:Int) (s.delta:Int) (s.bias:Int) (s.done:Int) (c.length:Int) (i:Int) (s.out.map F0) d =
   d z t (C2 c) (a:Int) (m:Int) ((I7 m a (c.drop i) s).delta:Int) ((I7 m a (c.drop i) s).bias:Int) ((I7 m a (c.drop i) s).done:Int) ((I7 m a (c.drop i) s).out.map F0))/\
  (I7 m a (c.drop i) s).bias<=500/\(I7 m a (c.drop i) s).out.length<=s.out.length+20*(c.drop i).countP (· == m)/\(I7 m a (c.drop i) s).done=s.done+(c.drop i).countP (· == m)/\
  (I7 m a (c.drop i) s).delta<=(if 0<(c.drop i).countP (· == m) then r else s.delta+r):=by
 intro r
 induction r with
 | zero=>
  intro i n s N O K x L M y;obtain⟨n,rfl⟩:∃m,n=m+1:=⟨n-1,by omega⟩
  rw[k9 (by omega)];refine⟨λR d=>?_,x,by simp[I7],by simp[I7],by simp[I7]⟩;rw[Cf];rw[A6];rfl
 | succ r F=>
  intro i n s N O K x L M y;obtain⟨n,rfl⟩:∃m,n=m+1:=⟨n-1,by omega⟩
  rw[Uy c i (by omega)];have C:=Zf c i (by omega);have ok:=Qt (l:=c) (i:=i) (by omega);generalize c.getD i 0=p at *;have A:A1 ((i:Int)+1)=((i+1:Nat):Int):=by rw[A5];rfl
  have I:A1 ((s.delta:Int)+1)=((s.delta+1:Nat):Int):=by rw[A5];rfl
  have J:A1 ((s.done:Int)+1)=((s.done+1:Nat):Int):=by rw[A5];rfl
  by_cases D:p<m
  ·have e:(p==m)=false:=by rw[beq_eq_false_iff_ne];omega
   have j:I7 m a (p::c.drop (i+1)) s=I7 m a (c.drop (i+1)) { s with delta:=s.delta+1 }:=by rw[I7,if_pos D]
   obtain⟨o,u,v,w,f⟩:=F (i+1) n { s with delta:=s.delta+1 } (by omega) (by omega) (by simp only;omega) x (by simp only;omega) (by simp only;omega) y;rw[j,ac9 (by rw[e];simp)];refine⟨λR d=>?_,u,v,w,?_⟩
   ·rw[Cf];rw[A8,D7,J1,j0,ok];simp only[cond_true,vl,C,A,I];rw[A8,cond_true];exact o R d
   ·simp only at f;split at f<;>split<;>omega
  ·by_cases H:p=m
   ·subst H;have G:=MB (q:=s.delta) (k:=0) (b:=s.bias) (by omega);have B:=Nw s.delta (s.done+1) (s.done==a) (by omega);have j:I7 p a (p::c.drop (i+1)) s=I7 p a (c.drop (i+1)) { delta:=0,bias:=P9 s.delta (s.done+1) (s.done==a),done:=s.done+1,out:=s.out++P2 s.delta 0 s.bias }:=by rw[I7,if_neg D,if_pos rfl]
    obtain⟨o,u,v,w,f⟩:=F (i+1) n { delta:=0,bias:=P9 s.delta (s.done+1) (s.done==a),done:=s.done+1,out:=s.out++P2 s.delta 0 s.bias } (by omega) (by omega) (by simp only;omega) B (by simp only[j6];omega) (by simp only;omega) y;rw[j,List.countP_cons_of_pos (by simp)];refine⟨λR d=>?_,u,?_,?_,?_⟩
    ·rw[Cf];have g:((s.done:Int)==(a:Int))=(s.done==a):=by grind
     rw[A8,D7,J1,j0,ok];simp only[cond_true,vl,C,A,J];rw[A6,cond_false,beq_self_eq_true,cond_true,M0,M0,p5,ab3 (show s.out.length<=100000 by omega),M0,A8,g];simp only[cond_true,j0];have h:ag1 (s.out.map F0) ((P2 s.delta 0 s.bias).map F0)=(s.out++P2 s.delta 0 s.bias).map F0:=by rw[ad5];rfl
     rw[h];exact o R d
    ·simp only[j6] at v;omega
    ·simp only at w;omega
    ·simp only at f;rw[Aj];split at f<;>omega
   ·have e:(p==m)=false:=by rw[beq_eq_false_iff_ne];omega
    have j:I7 m a (p::c.drop (i+1)) s=I7 m a (c.drop (i+1)) s:=by rw[I7,if_neg D,if_neg H]
    obtain⟨o,u,v,w,f⟩:=F (i+1) n s (by omega) (by omega) (by omega) x (by omega) (by omega) y;rw[j,ac9 (by rw[e];simp)];refine⟨λR d=>?_,u,v,w,?_⟩
    ·rw[Cf];rw[A8,D7,J1,j0,ok];simp only[cond_true,vl,C,A];rw[A6,cond_false,show((p:Int)==(m:Int))=false by rw[beq_eq_false_iff_ne];omega,cond_false];exact o R d
    ·split at f<;>split<;>omega
theorem Ay8{R:Type}{k0:Bool->Bool->LL->Int->Int->Int->Int->Int->Int->LL->Option R}(z t:Bool)(a:List Nat)(k:a.length<=256)(n0:Nat)(b delta c done:Int)(l:LL):∀(r i n m:Nat),i+r=a.length->r<n->
  Iw LF n z t (C2 a) b (n0:Int) delta c done (m:Int) (a.length:Int) (i:Int) l k0=k0 z t (C2 a) b (n0:Int) delta c done ((I6 n0 (a.drop i) m:Nat):Int) l:=by
 intro r
 induction r with
 | zero=>
  intro i n m g j;obtain⟨n,rfl⟩:∃m,n=m+1:=⟨n-1,by omega⟩
  rw[Iw];rw[A6,k9 (by omega)];rfl
 | succ r d=>
  intro i n m g j;obtain⟨n,rfl⟩:∃m,n=m+1:=⟨n-1,by omega⟩
  have f:=Zf a i (by omega);have ok:=Qt (l:=a) (i:=i) (by omega);rw[Iw,Uy a i (by omega)];generalize a.getD i 0=p at *;have e:A1 ((i:Int)+1)=((i+1:Nat):Int):=by rw[A5];rfl
  rw[A8,D7,J1,j0,ok];simp only[cond_true,vl,f,e,I6];by_cases h:n0<=p
  ·rw[if_pos h,A6,j4,cond_true];have:(if (p:Int)<(m:Int) then (p:Int) else (m:Int))=((min m p:Nat):Int):=by split<;>omega
   rw[this];exact d (i+1) n (min m p) (by omega) (by omega)
  ·rw[if_neg h,A8,j1,cond_false];exact d (i+1) n m (by omega) (by omega)
theorem Ee(n:Nat):∀(l:List Nat) (m:Nat),(I6 n l m=m\/(I6 n l m∈l/\n<=I6 n l m))/\I6 n l m<=m/\∀p∈l,n<=p->I6 n l m<=p
 | [],m=>⟨.inl rfl,ab1 _,λp h=>by cases h⟩
 | q::r,m=>by
  obtain⟨a,b,c⟩:=Ee n r (if n<=q then min m q else m);simp only[I6];grind
theorem Uq{n m:Nat}(a:n<=m):∀l:List Nat,(∀p∈l,n<=p->m<=p)->l.countP (λp=>decide (p<m+1))=l.countP (λp=>decide (p<n))+l.countP (· == m)
 | [],_=>rfl
 | p::l,h=>by
  have d:=Uq a l (λq b=>h q (List.mem_cons_of_mem _ b));have c:=h p List.mem_cons_self;grind
theorem Aq5{n:Nat}{l:List Nat}(h:l.countP (λp=>decide (p<n))<l.length):∃p∈l,n<=p:=by
 apply ac2;intro a;have:l.countP (λp=>decide (p<n))=l.length:=by simp_all
 omega
theorem B99(z t:Bool)(a:List Nat)(b:Nat)(x:a.length<=256)(N:b<=256)(g:∀p∈a,p<=1114111):∀(f n d:Nat) (s:OM),s.done=a.countP (λp=>decide (p<n))->a.length<=s.done+f->f<d->s.delta<=300->s.bias<=500->s.out.length+20*(a.length-s.done)<=80000->n<=1114112->
  ∀(R:Type) (k0:LL->Option R),Fk LF d z t (C2 a) (b:Int) (n:Int) (s.delta:Int) (s.bias:Int) (s.done:Int) (s.out.map F0) k0=k0 ((Q5 a b f n s).out.map F0):=by
 intro f;have M:=E2
 induction f with
 | zero=>
  intro n d s P S T I v J L R k0;obtain⟨d,rfl⟩:∃m,d=m+1:=⟨d-1,by omega⟩
  rw[Fk];rw[D7,A6];rfl
 | succ f U=>
  intro n d s P S T I v J L R k0;obtain⟨d,rfl⟩:∃m,d=m+1:=⟨d-1,by omega⟩
  rw[Fk];rw[D7];have O:a.countP (λp=>decide (p<n))<=a.length:=x5;by_cases j:s.done<a.length
  ·obtain⟨A,k,q⟩:=Aq5 (n:=n) (l:=a) (by omega);obtain⟨g1,g2,u⟩:=Ee n a 1114112;have g4:=u A k q;have g5:=g A k;have e:I6 n a 1114112∈a/\n<=I6 n a 1114112:=by grind
   have Q:Q5 a b (f+1) n s=Q5 a b f (I6 n a 1114112+1) { I7 (I6 n a 1114112) b a { s with delta:=s.delta+(I6 n a 1114112-n)*(s.done+1) } with delta:=(I7 (I6 n a 1114112) b a { s with delta:=s.delta+(I6 n a 1114112-n)*(s.done+1) }).delta+1 }:=by
    rw[Q5,if_pos j]
   rw[Q,A8,cond_true];have c:=λ(K:Bool->Bool->LL->Int->Int->Int->Int->Int->Int->LL->Option R)=>Ay8 (k0:=K) z t a x n (b:Int) (s.delta:Int) (s.bias:Int) (s.done:Int) (s.out.map F0) a.length 0 LF 1114112 (by omega) (by omega)
   rw[o9] at c;refine j5 (c _) ?_;generalize I6 n a 1114112=m at *;have y:(m-n)*(s.done+1)<=1114112*256:=ae1 (by omega) (by omega);have B:A1 ((s.done:Int)+1)=((s.done+1:Nat):Int):=by rw[A5];rfl
   have C:A1 ((m:Int)-(n:Int))=((m-n:Nat):Int):=by rw[A5];omega
   have D:A1 (((m-n:Nat):Int)*((s.done+1:Nat):Int))=(((m-n)*(s.done+1):Nat):Int):=by
    rw[<-Int.natCast_mul];exact A5
   have F:A1 ((s.delta:Int)+(((m-n)*(s.done+1):Nat):Int))=((s.delta+(m-n)*(s.done+1):Nat):Int):=by
    rw[A5];rfl
   simp only[vl,B,C,D,F];have i:=Bf6 z t a b m (by omega) x a.length 0 LF { s with delta:=s.delta+(m-n)*(s.done+1) } (by omega) (by omega) (by simp only;omega) v (by simp only;omega) (by simp only;omega) N;rw[o9] at i;obtain⟨V,W,X,Y,Z⟩:=i;rw[D7];refine j5 (V R _) ?_;have h:0<a.countP (· == m):=ae4.2 ⟨m,e.1,by simp⟩;rw[if_pos h] at Z;have r:=Uq e.2 a u;generalize I7 m b a { s with delta:=s.delta+(m-n)*(s.done+1) } = o at *;simp only at X Y;have G:A1 ((o.delta:Int)+1)=((o.delta+1:Nat):Int):=by rw[A5];rfl
   have H:A1 ((m:Int)+1)=((m+1:Nat):Int):=by rw[A5];rfl
   have w:a.countP (λp=>decide (p<m+1))<=a.length:=x5;simp only[G,H];exact U (m+1) d { o with delta:=o.delta+1 } (by simp only;omega) (by simp only;omega) (by omega) (by simp only;omega) W (by simp only;omega) (by omega) R k0
  ·rw[A6];rw[Q5,if_neg j];rfl
def V7(l:List Int):By:=(l.filter λx=>decide (x<128)).map λx=>w9 x.toNat
theorem Cf1(x:Int)(a:0<=x)(h:x<128):[SV.int .u8 (wu8 x)]=F0 (w9 x.toNat):=by
 unfold F0;have e:wu8 x=x:=by unfold wu8;exact Int.emod_eq_of_lt a (show x<256 by omega)
 rw[e];have:((w9 x.toNat).toNat:Int)=x:=by simp;omega
 rw[this]
theorem Tk{x:Int}(h:ptI x=true):0<=x/\x<=1114111:=by
 cases x with
 | negSucc m=>cases h
 | ofNat m=>
  have:U7 m=true:=h;unfold U7 at this;simp only[o7,v7] at this;grind
theorem Ay3(z t:Bool)(P:List Int)(A:P.length<=256):∀(r i n:Nat) (out:By),i+r=P.length->r<n->out.length+r<=1000->
  ((P.drop i).all ptI=true->∀(R:Type) (a:LL->Option R) (b:Bool->Bool->LL->LL->Option R),T9 LF n z t (Av P) (P.length:Int) (i:Int) (out.map F0) a b=b z t (Av P) ((out++V7 (P.drop i)).map F0))/\
  ((P.drop i).all ptI=false->∃l,∀(R:Type) (a:LL->Option R) (b:Bool->Bool->LL->LL->Option R),T9 LF n z t (Av P) (P.length:Int) (i:Int) (out.map F0) a b=a l):=by
 intro r
 induction r with
 | zero=>
  intro i n out u v w;obtain⟨n,rfl⟩:∃m,n=m+1:=⟨n-1,by omega⟩
  rw[k9 (by omega)];refine⟨λ_ R a b=>?_,λh=>(by cases h)⟩;rw[T9];rw[A6];simp[V7]
 | succ r q=>
  intro i n out u v w;obtain⟨n,rfl⟩:∃m,n=m+1:=⟨n-1,by omega⟩
  have j:=As5 P i (by omega);have ok:=UY (l:=P) (i:=i) (by omega);rw[ZP P i (by omega)];generalize P.getD i 0=x at *;have p:A1 ((i:Int)+1)=((i+1:Nat):Int):=by rw[A5];rfl
  cases f:ptI x with
  | false=>
   refine⟨λh=>?_,λ_=>⟨out.map F0,λR a b=>?_⟩⟩
   ·rw[aa0,f] at h;cases h
   ·rw[T9];rw[A8,U5,J1,j0,ok];simp only[cond_true,vl,j,f,j4]
  | true=>
   obtain⟨y,B⟩:=Tk f;rw[aa0,f,y9];by_cases c:x<128
   ·have d:V7 (x::P.drop (i+1))=w9 x.toNat::V7 (P.drop (i+1)):=by
     unfold V7;rw[List.filter_cons_of_pos (by simpa using c)];rfl
    have g:out.map F0++[[SV.int .u8 (wu8 x)]]=(out++[w9 x.toNat]).map F0:=by rw[Cf1 x y c];simp
    obtain⟨k,o⟩:=q (i+1) n (out++[w9 x.toNat]) (by omega) (by omega) (by simp;omega);have step:∀(R:Type) (a:LL->Option R) (b:Bool->Bool->LL->LL->Option R),T9 LF (n+1) z t (Av P) (P.length:Int) (i:Int) (out.map F0) a b=T9 LF n z t (Av P) (P.length:Int) ((i+1:Nat):Int) ((out++[w9 x.toNat]).map F0) a b:=by
     intro R a b;rw[T9];rw[A8,U5,J1,j0,ok];simp only[cond_true,vl,j,f,j1,cond_false,p];rw[D1 c,p5,F3 (by omega),g];rfl
    refine⟨λh R a b=>?_,λh=>?_⟩
    ·rw[step,k h,d];simp
    ·obtain⟨l,e⟩:=o h;exact⟨l,λR a b=>by rw[step];exact e R a b⟩
   ·have d:V7 (x::P.drop (i+1))=V7 (P.drop (i+1)):=by
     unfold V7;rw[List.filter_cons_of_neg (by simpa using c)]
    obtain⟨k,o⟩:=q (i+1) n out (by omega) (by omega) (by omega);have step:∀(R:Type) (a:LL->Option R) (b:Bool->Bool->LL->LL->Option R),T9 LF (n+1) z t (Av P) (P.length:Int) (i:Int) (out.map F0) a b=T9 LF n z t (Av P) (P.length:Int) ((i+1:Nat):Int) (out.map F0) a b:=by
     intro R a b;rw[T9];rw[A8,U5,J1,j0,ok];simp only[cond_true,vl,j,f,j1,cond_false,p];rw[A6];rfl
    refine⟨λh R a b=>?_,λh=>?_⟩
    ·rw[step,k h,d]
    ·obtain⟨l,e⟩:=o h;exact⟨l,λR a b=>by rw[step];exact e R a b⟩
theorem Bf9{P:List Int}(h:P.all ptI=true):∃a:List Nat,P=a.map (λn:Nat=>(n:Int))/\a.all U7=true/\∀p∈a,p<=1114111:=by
 induction P with
 | nil=>exact⟨[],rfl,rfl,by simp⟩
 | cons x P c=>
  rw[aa0,o7] at h;obtain⟨a,rfl,b,e⟩:=c h.2;obtain⟨d,f⟩:=Tk h.1;obtain⟨m,rfl⟩:=w8 d;refine⟨m::a,rfl,?_,?_⟩
  ·rw[aa0,b,aa6];exact h.1
  grind
theorem GA(a:List Nat):V7 (a.map λn:Nat=>(n:Int))=J0 a:=by
 unfold V7 J0
 induction a with
 | nil=>rfl
 | cons p r b=>
  grind
theorem Sm(a:List Nat):(J0 a).length=a.countP (λp=>decide (p<128)):=by unfold J0;grind
theorem Ay4(z t:Bool)(P:List Int):(X7 P=([],3)/\∀(R:Type) (b:Unit->Option R) (f:By->Int->LL->Option R),Ad9 LF z t (Av P) b f=b ())\/
  (∃l,∀(R:Type) (b:Unit->Option R) (f:By->Int->LL->Option R),Ad9 LF z t (Av P) b f=f (X7 P).1 ((X7 P).2:Nat) l):=by
 have x:=E2;by_cases j:256<P.length
 ·refine .inl ⟨by unfold X7;rw[if_pos j],λR b f=>?_⟩;unfold Ad9;rw[U5,A8];rfl
 ·right
  obtain⟨v,w⟩:=Ay3 z t P (by omega) P.length 0 LF [] (by omega) (by omega) (by simp;omega);rw[o9] at v w;cases g:P.all ptI with
  | false=>
   obtain⟨l,e⟩:=w g;refine⟨l,λR b f=>?_⟩;unfold Ad9;rw[U5,A6,cond_false];refine j5 (e R _ _) ?_;unfold X7;rw[if_neg j,g];rfl
  | true=>
   obtain⟨a,rfl,A,q⟩:=Bf9 g;rw[p5] at j;have m:X7 (a.map λn:Nat=>(n:Int))=Fc a:=by
    unfold X7;rw[p5,if_neg j,g];simp[ae7]
   have k:=Sm a;have y:a.countP (λp=>decide (p<128))<=a.length:=x5;have main:∀(o:By),o.length<=300->∀(R:Type) (b:LL->Option R),Fk LF LF z t (C2 a) ((J0 a).length:Int) 128 0 72 ((J0 a).length:Int) (o.map F0) b=b ((Q5 a (J0 a).length 256 128 { delta:=0,bias:=72,done:=(J0 a).length,out:=o }).out.map F0):=by
    intro o B R b;exact B99 z t a (J0 a).length (by omega) (by omega) q 256 128 LF { delta:=0,bias:=72,done:=(J0 a).length,out:=o } k (by simp only;omega) (by omega) (by simp) (by simp) (by simp only;omega) (by omega) R b
   have d:Fc a=((Q5 a (J0 a).length 256 128 { delta:=0,bias:=72,done:=(J0 a).length,out:=if (J0 a).isEmpty then [] else J0 a++[45] }).out,0):=by
    unfold Fc;grind
   refine⟨(Fc a).1.map F0,λR b f=>?_⟩;unfold Ad9;rw[U5,p5,A6,cond_false,m];have i:=v g R;rw[p5] at i;refine j5 (i _ _) ?_;rw[y8,GA,Qq];simp only[vl,p5];by_cases c:J0 a=[]
   ·rw[c,p6,A6,cond_false];have r:=main [] (by simp) R;rw[c,p6] at r;rw[af2] at r;refine j5 (r _) ?_;rw[c] at d;rw[d];simp only[af5,if_true,p6];rw[Br,Ca];rfl
   ·have u:0<(J0 a).length:=x3.2 c;rw[A8,cond_true,F3 (by omega),cond_true];have h:(J0 a).map F0++[[SV.int .u8 (45:Int)]]=(J0 a++[45]).map F0:=by rw[ad5];rfl
    rw[h];refine j5 (main (J0 a++[45]) (by simp;omega) R _) ?_;rw[d,if_neg (by simpa using c)];rw[Br,Ca];rfl
theorem Cu1(z t:Bool)(p:LL)(b:p.all Ou=true):∃r H,Ad9 LF z t p (λ_=>rv (.tup [.s (.str []),.s (.int .i64 3)]) []) (λd e l=>rv (.tup [.s (.str d),.s (.int .i64 e)]) [.arr true 5 1 l])=rv r H/\
  r.stab [0,0] H = .tup [.s (.str (X7 (p.map elI)).1),.s (.int .i64 ((X7 (p.map elI)).2:Nat))]:=by
 obtain⟨P,rfl⟩:=Bd6 b;rw[ZQ];rcases Ay4 z t P with⟨c,a⟩|⟨l,a⟩
 ·exact⟨_,_,a _ _ _,by rw[c];rfl⟩
 ·exact⟨_,_,a _ _ _,rfl⟩
section
variable {W R : Type} (L : Nat) (Q : F4) (Y : Yh W) (s : W) (k : Out -> St W -> Option R)
noncomputable abbrev C52:Code:=E0 ai0
noncomputable def Ys(L:Nat):Cfg:=C8 L [173] (A4 [(3,[0,1,0,0])]) [(175,EO),(187,Am1)] (A4 [(17,[2]),(16,[0,2,0,53]),(15,[0,2,0]),(14,[2]),(13,[0,2,0,1,45]),(12,[0,2,0,0,0]),(11,[2]),(10,[0,2,0,0,41]),(9,[0,2,0,0]),(8,[0,2,0,0]),(7,[2]),(6,[0,2,0,0,18]),(5,[0,2,0,0]),(4,[2]),(3,[0,2,0,11]),(2,[0,2,0]),(1,[0,2]),(0,[0])]) [187] (A4 [(0,[2]),(1,[0,2,0])]) (some [2]) [(190,Pv)] [] [190]
noncomputable def Fb{R:Type}(L n:Nat)(p:Int)(c:By)(j o d:Int)(g l:Bool)(i:LL)(a:Int)(h:Int->By->Int->Int->Int->Bool->Bool->LL->Int->Option R):Option R:=match n with|0=>none|n+1=>cond (c==[]) (h 4 c j o d g l i a) (cond (inR 0 c.length) (cond (inR (bAt c (0:Int)) 256) (vl (E3 (u8n (bAt c (0:Int)))) λf=>cond (ltI f 0) (h 4 c j o d g l i a) (cond (K5 1 (c.length:Int) c.length) (vl (cut c 1 (c.length:Int)) λe=>vl (A1 (o+(A1 (f*p)))) λb=>cond (ltI 1099511627776 b) (h 19 e j b d g l i a) (cond (ltN a 1000000000000) (cond (ltN d 1000000) (cond (ltI f (L6 a d)) (h 0 e j b d g l i (aa8 a (36:Int))) (vl (A1 ((36:Int)-(L6 a d))) λm=>cond (ltI 1099511627776 (A1 (p*m))) (h 19 e j b d g l i (aa8 a (36:Int))) (Fb L n (A1 (p*m)) e j b d g l i (aa8 a (36:Int)) h))) none) none)) none)) none) none)
theorem Ar5(n w0 g e f b c h d a):E7 4 ((Ys L).keep 3) (bd (Ys L) Q Y (cd [1,1,1,0,0] C52)) n ⟨gp [(0,.ptr 0 0 0),(2,.fnr (w6 190) [] [.ptr 3 0 0,.ptr 2 0 0]),(0,pI w0)] 54,[.box [pS g,.fl 1,pI e,pI f,pI b,pB c],.arr h 3 1 d,.box [pI b],.box [pI a]],s⟩ k =
 Fb L n w0 g e f b c h d a (λn0 g e f b c h d a=>k .ret ⟨gp [(2,pI n0)] 56,[.box [pS g,.fl 1,pI e,pI f,pI b,pB c],.arr h 3 1 d,.box [pI b],.box [pI a]],s⟩):=by
 induction n generalizing w0 g e f b c h d a with
 | zero=>rfl
 | succ n i=>rw[Fb];simp only[<-i];kernel_rfl
noncomputable def C63{R:Type}(L:Nat)(g:By)(n i b:Int)(q z:Bool)(l:LL)(p:Int->By->Int->Int->Int->Bool->Bool->LL->Int->Option R):Option R:=Fb L L 1 g n i b q z l 0 (λj o m d e a h c f=>p j o m d e a h c f)
theorem Cn9(d:Nat)(rest n i b st z l):evC (Ys L) (d+1) W Y 173 [.ptr 0 0 0] [.box [pS rest,.fl 1,pI n,pI i,pI b,pB st],.arr z 3 1 l] s=C63 L rest n i b st z l (λj m g h c e o f a=>some (pI j,[.box [pS m,.fl 1,pI g,pI h,pI c,pB e],.arr o 3 1 f,.box [pI c],.box [pI a]],s)):=by refine(evE (fn:=ai0) (by kernel_rfl)).trans ?_;generalize evC (Ys L) d=Q;unfold C63;exact(j5 (by kernel_rfl) ((Ar5 L Q Y s (F9 0 (I1 (Ys L) ai0)) L 1 rest n i b st z l 0).trans (by kernel_rfl)))
noncomputable def RP(L:Nat):Cfg:=C8 L [154] (A4 []) [(157,Ns),(155,Nt)] (A4 [(16,[2]),(15,[]),(14,[0]),(13,[2]),(12,[0,67]),(11,[2]),(10,[0,4,60]),(9,[0,4]),(8,[0,4]),(7,[0,4]),(6,[0,4]),(5,[0,2,1]),(4,[2]),(3,[0,2,0,8]),(2,[0,2,0]),(1,[0,2]),(0,[0])]) [157,155] (A4 []) (some [2]) [(173,OS),(174,QS)] [] [173,174]
noncomputable def Bc5{R:Type}(L:Nat)(a:By)(n i b:Int)(m z:Bool)(l:LL)(j:Int->By->Int->Int->Int->Bool->Bool->LL->Option R):Option R:=cond (A3 a.length) (cond (ltN b 1000000) (cond (ltN i 1099511627777) (cond ((IK b a i)!=0) (j (IK b a i) (IM b a i) n (Th b a i) b m z l) (vl (A1 ((l.length:Int)+1)) λc=>vl (A1 ((Th b a i)-i)) λh=>cond (ltN h 1152921504606846976) (cond (ltN c 1000000) (cond (ltI 0 c) (vl (↑(P9 (j8 h) (j8 c) (not m)):Int) λf=>cond (c !=0) (vl (A1 (ad9 (Th b a i) c)) λd=>cond (c !=0) (vl (ae8 (Th b a i) c) λe=>cond (not (ptI (A1 (n+d)))) (j 2 (IM b a i) (A1 (n+d)) e f true z l) (cond (ltI 256 c) (j 3 (IM b a i) (A1 (n+d)) e f true z l) (cond (ltN e (Nat.add l.length 1)) (cond (o8 l.length 100000) (vl (Me l (j8 e) (A1 (n+d))) λg=>j 0 (IM b a i) (A1 (n+d)) (A1 (e+1)) f true z g) none) none))) none) none) none) none) none)) none) none) none
theorem B45(d:Nat)(rest n i b st z l):evC (RP L) (d+1) W Y 154 [.ptr 0 0 0] [.box [pS rest,.fl 1,pI n,pI i,pI b,pB st],.arr z 3 1 l] s=Bc5 L rest n i b st z l (λh j e f g a m c=>some (pI h,[.box [pS j,.fl 1,pI e,pI f,pI g,pB a],.arr m 3 1 c],s)):=by refine(evE (fn:=Tryz.f154) (by kernel_rfl)).trans ?_;generalize evC (RP L) d=Q;unfold Bc5;kernel_rfl
noncomputable abbrev Si:Code:=E0 ae3
noncomputable def Aa(L:Nat):Cfg:=C8 L [129] (A4 [(20,[2,0,1]),(13,[0,1,0,1,0,22,0]),(4,[0,1,0,9,0])]) [(111,CP)] (A4 [(24,[2,0]),(23,[2,0]),(22,[5,2,59]),(21,[5,2]),(20,[5,58]),(19,[2,0]),(18,[5,53]),(17,[5]),(16,[0,4,0,22,0]),(15,[0,4,0,22,0]),(14,[0,4,0,0,21,0]),(13,[0,4,0,22,0,0]),(12,[0,4,0,22,0]),(11,[0,4,0,21]),(10,[0,4,0]),(9,[0,4]),(8,[0,12,0]),(7,[2,0]),(6,[0,12,0,5]),(5,[0,3,8,0]),(4,[0,12,0,0]),(3,[0,12,0]),(2,[2,0]),(1,[0,10]),(0,[0])]) [111] (A4 [(4,[5]),(5,[5]),(2,[0,4,0]),(3,[0,4,0,22,0]),(0,[0]),(1,[0,12,0])]) (some [2,0]) [(154,CO)] [] [154] (nt:=[(163,1,3,1)])
noncomputable def Mm{R:Type}(L n:Nat)(b:By)(e a:Int)(c:Unit->Option R)(d:By->Option R):Option R:=match n with|0=>none|n+1=>cond (ltI a e) (cond (inR a b.length) (cond (not (ltI (bAt b a) (128:Int))) (c ()) (Mm L n b e (A1 (a+1)) c d)) none) (d b)
theorem Ay1(n a n1 n2):E7 0 ((Aa L).keep 4) (bd (Aa L) Q Y (cd [1,1,0,1,0,0] Si)) n ⟨gp [(0,pS a),(12,pI n1),(0,pI n2)] 59,[],s⟩ k =
 Mm L n a n1 n2 (λ_=>k .ret ⟨gp [(2,.fl 0),(0,pI (4:Int))] 70,[.arr true 3 1 []],s⟩) (λa=>k (.exit 0) ⟨gp [(0,pS a)] 73,[],s⟩):=by
 induction n generalizing a n1 n2 with
 | zero=>rfl
 | succ n b=>rw[Mm];simp only[<-b];kernel_rfl
noncomputable def Iv{R:Type}(L n:Nat)(c:By)(a b:Int)(d:LL)(e:By->Int->LL->Option R):Option R:=match n with|0=>none|n+1=>cond (ltI b a) (cond (inR b c.length) (cond (F8 (d.length+1)) (Iv L n c a (A1 (b+1)) (d++[[(SV.int .i64 (A1 (bAt c b)))]]) e) none) none) (e c a d)
theorem Ay2(n b a n2 l3):E7 2 ((Aa L).keep 13) (bd (Aa L) Q Y (cd [1,1,1,1,0,1,1,0,0,1,0,0] Si)) n ⟨gp [(0,pS b),(4,.ptr 1 0 0),(0,pI a),(22,pI a),(0,pI n2)] 43,[.arr true 3 1 l3,.box [pS b,.fl 0,pI (128:Int),pI (0:Int),pI (72:Int),pB false]],s⟩ k =
 Iv L n b a n2 l3 (λb a d=>k (.exit 2) ⟨gp [(0,pS b),(4,.ptr 1 0 0),(0,pI a)] 67,[.arr true 3 1 d,.box [pS b,.fl 0,pI (128:Int),pI (0:Int),pI (72:Int),pB false]],s⟩):=by
 induction n generalizing b a n2 l3 with
 | zero=>rfl
 | succ n c=>rw[Iv];simp only[<-c];kernel_rfl
noncomputable def R9{R:Type}(L n:Nat)(b:LL)(a:By)(c d e:Int)(f:Bool)(i:Int->LL->By->Int->Int->Int->Bool->Option R)(j:LL->By->Int->Int->Int->Bool->Option R):Option R:=match n with|0=>none|n+1=>cond (not (a==[])) (cond (A3 a.length) (cond (ltN e 1000000) (cond (ltN d 1099511627777) (cond (ltN c 1152921504606846976) (cond (o8 b.length 100000) (vl ((F2 (DS.mk a c d e f b))).1 λh=>vl (DS.l ((F2 (DS.mk a c d e f b))).2) λg=>cond (h !=0) (i h g (DS.rest ((F2 (DS.mk a c d e f b))).2) (DS.n ((F2 (DS.mk a c d e f b))).2) (DS.i ((F2 (DS.mk a c d e f b))).2) (DS.b ((F2 (DS.mk a c d e f b))).2) (DS.st ((F2 (DS.mk a c d e f b))).2)) (R9 L n g (DS.rest ((F2 (DS.mk a c d e f b))).2) (DS.n ((F2 (DS.mk a c d e f b))).2) (DS.i ((F2 (DS.mk a c d e f b))).2) (DS.b ((F2 (DS.mk a c d e f b))).2) (DS.st ((F2 (DS.mk a c d e f b))).2) i j)) none) none) none) none) none) (j b a c d e f)
theorem IU(n d f e a b c):E7 2 ((Aa L).keep 20) (bd (Aa L) Q Y (cd [1,1,1,1,1,1,0,0,0] Si)) n ⟨gp [(5,.ptr 1 0 0)] 68,[.arr true 3 1 d,.box [pS f,.fl 0,pI e,pI a,pI b,pB c]],s⟩ k =
 R9 L n d f e a b c (λn0 i l a b j g=>k .ret ⟨gp [(2,.fl 2),(0,pI n0)] 70,[.arr true 3 1 i,.box [pS l,.fl 0,pI a,pI b,pI j,pB g],.arr true 3 1 []],s⟩) (λd f e a b c=>k (.exit 4) ⟨gp [(5,.ptr 1 0 0)] 68,[.arr true 3 1 d,.box [pS f,.fl 0,pI e,pI a,pI b,pB c]],s⟩):=by
 induction n generalizing d f e a b c with
 | zero=>rfl
 | succ n h=>rw[R9];simp only[<-h];kernel_rfl
noncomputable def We{R:Type}(L:Nat)(M:By)(N:Int->Option R)(K:Int->LL->By->Int->Int->Int->Bool->Option R)(O:LL->By->Int->Int->Int->Bool->Option R):Option R:=cond (ltI 1024 (M.length:Int)) (N 3) (Mm L L M (M.length:Int) 0 (λ_=>N 4) (λa=>cond (A3 a.length) (vl (L7 (u8n (45:Int)) a) λC=>cond (ltI 0 C) (Iv L L a C 0 [] (λb h c=>vl (A1 (h+1)) λD=>cond (K5 D (b.length:Int) b.length) (vl (cut b D (b.length:Int)) λJ=>cond (ltI 256 (c.length:Int)) (K 3 c J 128 0 72 false) (R9 L L c J 128 0 72 false (λn i F o p q d=>K n i F o p q d) (λj G r t u e=>O j G r t u e))) none)) (R9 L L [] a 128 0 72 false (λv l H w x y f=>K v l H w x y f) (λm I z A B g=>O m I z A B g))) none))
theorem Ct6(d:Nat)(s0):evC (Aa L) (d+1) W Y 129 [pS s0] [] s=We L s0 (λg=>some (.tup [.fl 0,pI g],[.arr true 3 1 []],s)) (λg o v e f r m=>some (.tup [.fl 2,pI g],[.arr true 3 1 o,.box [pS v,.fl 0,pI e,pI f,pI r,pB m],.arr true 3 1 []],s)) (λn u q e f l=>some (.tup [.fl 0,pI (0:Int)],[.arr true 3 1 n,.box [pS u,.fl 0,pI q,pI e,pI f,pB l]],s)):=by refine(evE (fn:=ae3) (by kernel_rfl)).trans ?_;generalize evC (Aa L) d=Q;unfold We;exact let i:=(F9 4 (G6 (Aa L) Q Y (cd [1,1,1,1,1,1,1] Si) (I1 (Aa L) ae3)));(j5 (by kernel_rfl) (A0 rfl ((Ay1 L Q Y s (F9 0 (G6 (Aa L) Q Y (cd [1,1,1] Si) (I1 (Aa L) ae3))) L s0 (s0.length:Int) 0).trans (congr (congr rfl (by kernel_rfl)) (fx1 λa=>(j5 (by kernel_rfl) (A0 (A7 λc=>(A0 ((Ay2 L Q Y s (F9 2 (G6 (Aa L) Q Y (cd [1,1,1,1,0,1,1,0,1] Si) (G6 (Aa L) Q Y (cd [1,1,1,1,1] Si) (I1 (Aa L) ae3)))) L a c 0 []).trans (congr rfl (fx3 λt j b=>(j5 (by kernel_rfl) (A7 λp=>(A0 (A7 λh=>(A0 rfl ((IU L Q Y s i L b h 128 0 72 false).trans (by kernel_rfl)))) rfl)))))) ((IU L Q Y s i L [] a 128 0 72 false).trans (by kernel_rfl)))) rfl)))))))
noncomputable abbrev YO:Code:=E0 ah6
noncomputable def Gu(L:Nat):Cfg:=C8 L [141] (A4 [(2,[0,0,2,0])]) [] (A4 [(6,[4]),(3,[0,0,3]),(5,[4]),(4,[0,0,3,11]),(2,[0,0,3,4]),(1,[0,0,3]),(0,[0,0])]) [] (A4 [(0,[]),(1,[0,0,3])]) (some [4]) [] [] []
noncomputable def Cz{R:Type}(L n:Nat)(b:By)(c a:Int)(d:Int->Option R)(e:Unit->Option R):Option R:=match n with|0=>none|n+1=>cond (not (ltI a 0)) (cond (inR a b.length) (cond ((bAt b a)==c) (d a) (Cz L n b c (A1 (a-1)) d e)) none) (e ())
theorem UB(n s0 c1 i2):E7 0 ((Gu L).keep 2) (bd (Gu L) Q Y (cd [1,0,1,0,0] YO)) n ⟨gp [(0,pS s0),(0,p8 c1),(3,pI i2)] 13,[],s⟩ k =
 Cz L n s0 c1 i2 (λn0=>k .ret ⟨gp [(4,pI n0)] 14,[],s⟩) (λ_=>k (.exit 0) ⟨gp [] 19,[],s⟩):=by
 induction n generalizing s0 c1 i2 with
 | zero=>rfl
 | succ n a=>rw[Cz];simp only[<-a];kernel_rfl
noncomputable def UA{R:Type}(L:Nat)(d:By)(e:Int)(c:Int->Option R):Option R:=vl (A1 ((d.length:Int)-1)) λa=>Cz L L d e a (λb=>c b) (λ_=>c (-1))
theorem Bn4(d:Nat)(s0 c1):evC (Gu L) (d+1) W Y 141 [pS s0,p8 c1] [] s=UA L s0 c1 (λb=>some (pI b,[],s)):=by refine(evE (fn:=ah6) (by kernel_rfl)).trans ?_;generalize evC (Gu L) d=Q;unfold UA;exact(j5 (by kernel_rfl) (A7 λa=>((UB L Q Y s (F9 0 (G6 (Gu L) Q Y (cd [1,1] YO) (I1 (Gu L) ah6))) L s0 c1 a).trans (by kernel_rfl))))
noncomputable def RW(L:Nat):Cfg:=C8 L [111] (A4 []) [(141,XX)] (A4 [(1,[4]),(0,[0,0])]) [141] (A4 []) (some [4]) [] [] []
noncomputable def Be2{R:Type}(L:Nat)(b:By)(a:Int)(c:Int->Option R):Option R:=cond (A3 b.length) (cond (inR a 256) (c (L7 (u8n a) b)) none) none
theorem B74(d:Nat)(s0 c1):evC (RW L) (d+1) W Y 111 [pS s0,p8 c1] [] s=Be2 L s0 c1 (λa=>some (pI a,[],s)):=by refine(evE (fn:=Tryz.f111) (by kernel_rfl)).trans ?_;generalize evC (RW L) d=Q;unfold Be2;kernel_rfl
end
theorem Fs(c:UInt8):-1<=E3 c/\E3 c<=35:=by unfold E3 Nm;grind
theorem Mv(k b:Int):1<=L6 k b/\L6 k b<=26:=by unfold L6;omega
theorem Df{x w:Int}(b:0<=x)(c:x<=35)(a:0<=w)(w1:w<=1099511627776):0<=x*w/\x*w<=38482906972160:=by refine⟨ag4 b a,?_⟩;have:=Int.mul_le_mul c w1 a (show(0:Int)<=35 by omega);omega
theorem Uw(b:Int):∀(s:By) (i w k:Int),0<=i->0<=w->w<=1099511627776->(T1 b s i w k).1=0->i<=(T1 b s i w k).2.2/\(T1 b s i w k).2.2<=1099511627776/\(T1 b s i w k).2.1.length<s.length
 | [],i,w,k,_,_,_,h=>by simp[T1] at h
 | c::r,i,w,k,m,d,a,h=>by
  have l:=Fs c;have o:=Mv k b;unfold T1 at h ⊢;split at h
  ·simp at h
  ·rename_i e;rw[if_neg e];have n:=Df (by omega) l.2 d a;split at h
   ·simp at h
   ·rename_i f;rw[if_neg f];split at h
    ·grind
    ·rename_i g;rw[if_neg g];split at h
     ·omega
     ·rename_i j;rw[if_neg j];obtain⟨p,q,t⟩:=Uw b r (i+E3 c*w) (w*(36-L6 k b)) (k+36) (by omega) (ag4 d (by omega)) (by omega) h;grind
theorem Bl0(f:Int)(b:Int)(g z:Bool)(l:LL)(M:0<=b)(N:b<1000000):∀(s:By) (n:Nat) (i w k:Int),s.length<n->s.length<=1000000000->0<=i->i<=1099511627776->0<=w->w<=1099511627776->0<=k->k+36*s.length<=100000000000->
  ∃H,∀(R:Type) (a:Int->By->Int->Int->Int->Bool->Bool->LL->Int->Option R),Fb LF n w s f i b g z l k a=a (T1 b s i w k).1 (T1 b s i w k).2.1 f (T1 b s i w k).2.2 b g z l H:=by
 intro s
 induction s with
 | nil=>
  intro n i w k K L O B G h P o;obtain⟨n,rfl⟩:∃m,n=m+1:=⟨n-1,by omega⟩
  refine⟨k,λR a=>?_⟩;rw[Fb];rfl
 | cons c r T=>
  intro n i w k K L O B G h P o;obtain⟨n,rfl⟩:∃m,n=m+1:=⟨n-1,by omega⟩
  rw[j2] at K L o;have S:=Fs c;have V:=Mv k b;have Q:u8n (bAt (c::r) 0)=c:=by unfold u8n bAt;simp
  have C:inR (bAt (c::r) 0) 256=true:=by rw[Kb];have:=c.toNat_lt;exact L1 (by omega) (by simp;omega)
  have j:cut (c::r) 1 ((c::r).length:Int)=r:=by
   have:=Fa (c::r) 1 (c::r).length;grind
  have F:((c::r)==([]:By))=false:=rfl;have start:∀(R:Type) (a:Int->By->Int->Int->Int->Bool->Bool->LL->Int->Option R),Fb LF (n+1) w (c::r) f i b g z l k a =
    cond (ltI (E3 c) 0) (a 4 (c::r) f i b g z l k)
     (vl (A1 (i+(A1 (E3 c*w)))) λd=>cond (ltI 1099511627776 d) (a 19 r f d b g z l k)
      (cond (ltI (E3 c) (L6 k b)) (a 0 r f d b g z l (aa8 k 36))
       (vl (A1 (36-(L6 k b))) λp=>cond (ltI 1099511627776 (A1 (w*p))) (a 19 r f d b g z l (aa8 k 36)) (Fb LF n (A1 (w*p)) r f d b g z l (aa8 k 36) a)))):=by
   intro R a;rw[Fb];rw[F,C,L1 (by omega) (by rw[j2];omega),W0 (by omega) (by rw[j2];omega) (by omega),j,Q,M0,M0];rfl
  unfold T1;by_cases u:E3 c<0
  ·rw[if_pos u];refine⟨k,λR a=>?_⟩;rw[start,D1 u];rfl
  ·rw[if_neg u];have U:=Df (by omega) S.2 G h;have q:A1 (E3 c*w)=E3 c*w:=A5;have t:A1 (i+E3 c*w)=i+E3 c*w:=A5;by_cases v:1099511627776<i+E3 c*w
   ·rw[if_pos v];refine⟨k,λR a=>?_⟩;rw[start,A6,q,t];simp only[vl,cond_false];rw[D1 v];rfl
   ·rw[if_neg v];by_cases y:E3 c<L6 k b
    ·rw[if_pos y];refine⟨aa8 k 36,λR a=>?_⟩;rw[start,A6,q,t];simp only[vl,cond_false];rw[A6,D1 y];rfl
    ·rw[if_neg y];have I:A1 (36-L6 k b)=36-L6 k b:=A5;have D:=Df (x:=36-L6 k b) (by omega) (by omega) G h;rw[Int.mul_comm] at D;have J:A1 (w*(36-L6 k b))=w*(36-L6 k b):=A5;by_cases A:1099511627776<w*(36-L6 k b)
     ·rw[if_pos A];refine⟨aa8 k 36,λR a=>?_⟩;rw[start,A6,q,t];simp only[vl,cond_false];rw[A6,A6,I,J,D1 A];rfl
     ·rw[if_neg A];obtain⟨H,e⟩:=T n (i+E3 c*w) (w*(36-L6 k b)) (k+36) (by omega) (by omega) (by omega) (by omega) (by omega) (by omega) (by omega) (by omega);refine⟨H,λR a=>?_⟩;rw[start,A6,q,t];simp only[vl,cond_false];rw[A6,A6,I,J,A6];exact e R a
theorem Bl1(a:By)(n i b:Int)(f z:Bool)(l:LL)(h:A3 a.length=true)(j:ltN b 1000000=true)(k:ltN i 1099511627777=true) :
  ∃c,∀(R:Type) (d:Int->By->Int->Int->Int->Bool->Bool->LL->Int->Option R),C63 LF a n i b f z l d=d (IK b a i) (IM b a i) n (Th b a i) b f z l c:=by
 have q:=N5 h;obtain⟨g,p⟩:=D9.1 j;obtain⟨o,r⟩:=D9.1 k;have m:=E2;obtain⟨c,e⟩:=Bl0 n b f z l g (by omega) a LF i 1 0 (by omega) (by omega) o (by omega) (by omega) (by omega) (by omega) (by omega);exact⟨c,λR d=>e R _⟩
theorem Ar6{R:Type}{j:Int->By->Int->Int->Int->Bool->Bool->LL->Option R}(a:By)(n i b:Int)(d z:Bool)(l:LL)(y:A3 a.length=true)(C:ltN b 1000000=true)(g:ltN i 1099511627777=true)(D:ltN n 1152921504606846976=true)(h:o8 l.length 100000=true) :
  Bc5 LF a n i b d z l j=j (F2 ⟨a,n,i,b,d,l⟩).1 (F2 ⟨a,n,i,b,d,l⟩).2.rest (F2 ⟨a,n,i,b,d,l⟩).2.n (F2 ⟨a,n,i,b,d,l⟩).2.i (F2 ⟨a,n,i,b,d,l⟩).2.b (F2 ⟨a,n,i,b,d,l⟩).2.st z (F2 ⟨a,n,i,b,d,l⟩).2.l:=by
 obtain⟨F,P⟩:=D9.1 g;obtain⟨n0,Q⟩:=D9.1 D;have M:=ab4 h;unfold Bc5 F2;rw[y,C,g];simp only[cond_true];by_cases e:IK b a i=0
 ·rw[if_pos e,e];obtain⟨G,I,S⟩:=Uw b a i 1 0 F (by omega) (by omega) e;have H:i<=Th b a i:=G;have J:Th b a i<=1099511627776:=I;have o:A1 ((l.length:Int)+1)=(l.length:Int)+1:=A5;simp only[vl];rw[o];generalize Th b a i=x at *;have f:0<=x:=by omega
  obtain⟨X,rfl⟩:=w8 f;have p:A1 ((X:Int)-i)=(X:Int)-i:=A5;have u:((l.length:Int)+1)=((l.length+1:Nat):Int):=rfl;have v:ad9 (X:Int) ((l.length+1:Nat):Int)=((X / (l.length+1):Nat):Int):=M3 _ _;have w:ae8 (X:Int) ((l.length+1:Nat):Int)=((X % (l.length+1):Nat):Int):=Cl _ _;have L:=ad6 X (l.length+1);have N:=ag8 X (show 0<l.length+1 by omega);rw[p,u,v,w];generalize hA:X / (l.length+1)=A at *;generalize K:X % (l.length+1)=B at *;have q:A1 (A:Int)=(A:Int):=A5;have r:A1 (n+(A:Int))=n+(A:Int):=A5;have t:A1 ((B:Int)+1)=(B:Int)+1:=A5;have k:((0:Int)!=0)=false:=rfl;have m:((((l.length+1:Nat):Int))!=0)=true:=by rw[bne_iff_ne];omega
  rw[q,r,t,k,M0,M0,A8,m];simp only[cond_true,cond_false];cases O:ptI (n+(A:Int)) with
  | false=>simp
  | true=>
   simp only[j1,cond_false,if_true];by_cases c:(256:Int)<((l.length+1:Nat):Int)
   ·rw[if_pos c,D1 c];rfl
   ·rw[if_neg c,A6,cond_false,BG (by omega) (by show(B:Int)<((l.length+1:Nat):Int);omega),h];rfl
 ·rw[if_neg e,show(IK b a i !=0)=true from bne_iff_ne.2 e];rfl
theorem HZ(c:UInt8):∀l:By,-1<=L7 c l
 | []=>by simp[L7]
 | b::r=>by
  have:=HZ c r;unfold L7;omega
theorem IA(c b:UInt8):∀l:By,L7 c (l++[b])=if b=c then (l.length:Int) else L7 c l
 | []=>by
  by_cases h:b=c<;>simp[L7,h]
 | a::l=>by
  have d:=IA c b l;rw[ac8,L7,d];by_cases h:b=c
  ·grind
  ·rw[if_neg h,if_neg h];rfl
theorem Ab3{R:Type}{b:Int->Option R}{d:Unit->Option R}(s:By)(c:UInt8)(l:s.length<=1000000000):∀(m n:Nat),m<=s.length->m<n->
  Cz LF n s (c.toNat:Int) ((m:Int)-1) b d=if L7 c (s.take m)<0 then d () else b (L7 c (s.take m)):=by
 intro m
 induction m with
 | zero=>
  intro n g i;obtain⟨n,rfl⟩:∃m,n=m+1:=⟨n-1,by omega⟩
  rw[Cz];rw[A8];rfl
 | succ m k=>
  intro n g i;obtain⟨n,rfl⟩:∃m,n=m+1:=⟨n-1,by omega⟩
  rw[Cz];have e0:(((m+1:Nat):Int)-1)=(m:Int):=by omega
  have e:A1 ((m:Int)-1)=(m:Int)-1:=A5;have j:s.take (m+1)=s.take m++[s.getD m 0]:=by
   rw[List.take_add_one,p4,aa1 (by omega)];rfl
  rw[e0,e,A6,J1,G8,j,IA];simp only[j4,cond_true];by_cases h:s.getD m 0=c
  ·rw[if_pos h,h,beq_self_eq_true,cond_true,p9,ag2 (by omega),J4]
  ·have a:(((s.getD m 0).toNat:Int)==(c.toNat:Int))=false:=by
    rw[beq_eq_false_iff_ne];intro f;exact h (UInt8.toNat.inj (Int.ofNat.inj f))
   rw[if_neg h,a,cond_false];exact k n (by omega) (by omega)
theorem Cf3{c:Int}(h:inR c 256=true):c=((u8n c).toNat:Int):=by simp only[inR,o7,decide_eq_true_eq] at h;unfold u8n;simp;omega
theorem Ab4{R:Type}{a:Int->Option R}(s:By)(c:Int)(e:A3 s.length=true)(f:inR c 256=true):UA LF s c a=a (L7 (u8n c) s):=by
 have j:=N5 e;have g:=E2;have i:=Cf3 f;generalize u8n c=d at *;subst i;unfold UA;have b:A1 ((s.length:Int)-1)=(s.length:Int)-1:=A5;simp only[vl];rw[b];refine j5 (Ab3 s d (by omega) s.length LF (by omega) (by omega)) ?_;rw[ad2];have:=HZ d s;by_cases h:L7 d s<0
 ·rw[if_pos h,show L7 d s=-1 by omega]
 ·rw[if_neg h]
theorem Au6{R:Type}{a:Int->Option R}(s:By)(c:Int)(b:A3 s.length=true)(d:inR c 256=true):Be2 LF s c a=a (L7 (u8n c) s):=by unfold Be2;grind
theorem Ow:∀s:By,(45∈s->L7 45 s=(H4 s:Int))/\(45∉s->L7 45 s=-1/\H4 s=0)
 | []=>⟨λh=>(by cases h),λ_=>⟨rfl,rfl⟩⟩
 | b::r=>by
  obtain⟨a,c⟩:=Ow r;unfold L7 H4;grind
theorem Aj6{c:UInt8}(h:Nm c=none):E3 c=-1:=by unfold E3;rw[h]
theorem Aj7{c:UInt8}{x:Nat}(h:Nm c=some x):E3 c=x:=by unfold E3;rw[h]
theorem Ux(b:Nat):∀(s:By) (i w k:Nat),T1 (b:Int) s (i:Int) (w:Int) ((36*k:Nat):Int)=((((E1 b s i w k).2.2:Nat):Int),(T1 (b:Int) s (i:Int) (w:Int) ((36*k:Nat):Int)).2)/\
  ((E1 b s i w k).2.2=0->(T1 (b:Int) s (i:Int) (w:Int) ((36*k:Nat):Int)).2=((E1 b s i w k).2.1,((E1 b s i w k).1:Int)))
 | [],i,w,k=>⟨rfl,λh=>by simp[E1] at h⟩
 | c::r,i,w,k=>by
  unfold T1 E1;cases d:Nm c with
  | none=>
   rw[Aj6 d,Aj];grind
  | some x=>
   rw[Aj7 d,J4,Xc];have e:(i:Int)+(x:Int)*(w:Int)=((i+x*w:Nat):Int):=by push_cast;rfl
   have n:=V5 k b;have f:(w:Int)*(36-(thr k b:Int))=((w*(36-thr k b):Nat):Int):=by grind
   have g:((36*k:Nat):Int)+36=((36*(k+1):Nat):Int):=by omega
   have a:Co=1099511627776:=by decide
   rw[e,f,g,a];simp only;generalize i+x*w=I;generalize w*(36-thr k b)=W;by_cases j:1099511627776<I
   ·grind
   ·rw[J4,if_neg j];by_cases l:x<thr k b
    ·grind
    ·rw[J4,if_neg l];by_cases m:1099511627776<W
     ·grind
     ·rw[J4,if_neg m];exact Ux b r I W (k+1)
theorem B67(l:List Nat)(i n:Nat):Me (C2 l) i (n:Int)=C2 (U6 l i n):=by unfold Me U6 C2;simp_all
theorem UW(b:Nat)(s:By)(i:Nat):IK (b:Int) s (i:Int)=((E1 b s i 1 0).2.2:Int)/\((E1 b s i 1 0).2.2=0->IM (b:Int) s (i:Int)=(E1 b s i 1 0).2.1/\Th (b:Int) s (i:Int)=((E1 b s i 1 0).1:Int)):=by obtain⟨a,c⟩:=Ux b s i 1 0;have e:T1 (b:Int) s (i:Int) 1 0=T1 (b:Int) s (i:Int) ((1:Nat):Int) ((36*0:Nat):Int):=rfl;unfold IK IM Th;rw[e];refine⟨by rw[a],λh=>?_⟩;have:=c h;rw[this];exact⟨rfl,rfl⟩
theorem De3(s:By)(a:List Nat)(n i b:Nat)(c:Bool)(h:(E1 b s i 1 0).2.2=0)(q:i<=(E1 b s i 1 0).1)(o:U7 (n+(E1 b s i 1 0).1 / (a.length+1))=true)(p:¬ 256<a.length+1) :
  F2 ⟨s,(n:Int),(i:Int),(b:Int),c,C2 a⟩=(0,⟨(E1 b s i 1 0).2.1,((n+(E1 b s i 1 0).1 / (a.length+1):Nat):Int),(((E1 b s i 1 0).1 % (a.length+1)+1:Nat):Int),((P9 ((E1 b s i 1 0).1-i) (a.length+1) (!c):Nat):Int),true,C2 (U6 a ((E1 b s i 1 0).1 % (a.length+1)) (n+(E1 b s i 1 0).1 / (a.length+1)))⟩):=by
 obtain⟨j,k⟩:=UW b s i;obtain⟨l,m⟩:=k h;unfold F2;simp only;rw[j,h,if_pos (show((0:Nat):Int)=0 from rfl),l,m,D7];generalize (E1 b s i 1 0).1=X at *;have d:((a.length:Int)+1)=((a.length+1:Nat):Int):=rfl;have e:ad9 (X:Int) ((a.length+1:Nat):Int)=((X / (a.length+1):Nat):Int):=M3 _ _;have f:ae8 (X:Int) ((a.length+1:Nat):Int)=((X % (a.length+1):Nat):Int):=Cl _ _;have g:(n:Int)+((X / (a.length+1):Nat):Int)=((n+X / (a.length+1):Nat):Int):=rfl;rw[d,e,f,g,Mn,o,if_pos rfl,J4,j0,B67,j0,show((X:Int)-(i:Int)).toNat=X-i by omega];rfl
theorem C64(s:By)(a:List Nat)(n i b:Nat)(f:Bool):((E1 b s i 1 0).2.2≠0->(F2 ⟨s,(n:Int),(i:Int),(b:Int),f,C2 a⟩).1=((E1 b s i 1 0).2.2:Int))/\
  ((E1 b s i 1 0).2.2=0->U7 (n+(E1 b s i 1 0).1 / (a.length+1))=false->(F2 ⟨s,(n:Int),(i:Int),(b:Int),f,C2 a⟩).1=2)/\
  ((E1 b s i 1 0).2.2=0->U7 (n+(E1 b s i 1 0).1 / (a.length+1))=true->256<a.length+1->(F2 ⟨s,(n:Int),(i:Int),(b:Int),f,C2 a⟩).1=3):=by
 obtain⟨c,l⟩:=UW b s i;have g:(((C2 a).length:Int)+1)=((a.length+1:Nat):Int):=by rw[D7];rfl
 have j:∀X:Nat,ad9 (X:Int) ((a.length+1:Nat):Int)=((X / (a.length+1):Nat):Int):=λX=>M3 _ _
 have k:∀A:Nat,(n:Int)+(A:Int)=((n+A:Nat):Int):=λA=>rfl
 refine⟨λh=>?_,λh e=>?_,λh e o=>?_⟩
 ·unfold F2;simp only;rw[c,J4]
 ·obtain⟨m,d⟩:=l h;unfold F2;simp only;rw[c,h,if_pos (show((0:Nat):Int)=0 from rfl),d,g,j,k,Mn,e,if_neg (by simp)]
 ·obtain⟨m,d⟩:=l h;unfold F2;simp only;rw[c,h,if_pos (show((0:Nat):Int)=0 from rfl),d,g,j,k,Mn,e,if_pos rfl,Aj]
theorem Cw(a:List Nat)(n i b:Nat)(f:Bool):I5 [] a n i b f=(a,0):=by rw[I5];rfl
theorem Hd{s:By}(c:s≠[])(a:List Nat)(n i b:Nat)(f:Bool)(h:(E1 b s i 1 0).2.2≠0):I5 s a n i b f=([],(E1 b s i 1 0).2.2):=by rw[I5,dif_neg c];grind
theorem Dy{s:By}(c:s≠[])(a:List Nat)(n i b:Nat)(f:Bool)(h:(E1 b s i 1 0).2.2=0):I5 s a n i b f =
  if U7 (n+(E1 b s i 1 0).1 / (a.length+1)) then (if 256<a.length+1 then ([],3) else I5 (E1 b s i 1 0).2.1 (U6 a ((E1 b s i 1 0).1 % (a.length+1)) (n+(E1 b s i 1 0).1 / (a.length+1))) (n+(E1 b s i 1 0).1 / (a.length+1)) ((E1 b s i 1 0).1 % (a.length+1)+1) (P9 ((E1 b s i 1 0).1-i) (a.length+1) f) false) else ([],2):=by
 rw[I5,dif_neg c];simp only;rw[dif_pos h]
theorem Bi(l:List Nat)(i n:Nat):(U6 l i n).length=l.length+1:=by unfold U6;grind
theorem Bq8:∀(r:Nat) (s:By) (a:List Nat) (n i b f:Nat) (c:Bool),s.length<=r->r<f->s.length<=1000000->a.length<=256->n<=1114111->i<=1000->b<=500->
  ((I5 s a n i b (!c)).2=0->∃u t q p j,∀(R:Type) (d:Int->LL->By->Int->Int->Int->Bool->Option R) (g:LL->By->Int->Int->Int->Bool->Option R),R9 LF f (C2 a) s (n:Int) (i:Int) (b:Int) c d g=g (C2 (I5 s a n i b (!c)).1) u t q p j)/\
  ((I5 s a n i b (!c)).2≠0->(I5 s a n i b (!c)).1=[]/\∃l u t q p j,∀(R:Type) (d:Int->LL->By->Int->Int->Int->Bool->Option R) (g:LL->By->Int->Int->Int->Bool->Option R),R9 LF f (C2 a) s (n:Int) (i:Int) (b:Int) c d g=d ((I5 s a n i b (!c)).2:Nat) l u t q p j):=by
 intro r
 induction r with
 | zero=>
  intro s a n i b f c h K _ _ _ _ _;obtain⟨f,rfl⟩:∃m,f=m+1:=⟨f-1,by omega⟩
  have v:s=[]:=o5.1 (by omega);subst v;rw[Cw];refine⟨λ_=>⟨[],n,i,b,c,λR d g=>?_⟩,λh=>absurd rfl h⟩;rw[R9];rfl
 | succ r L=>
  intro s a n i b f c h K X Y Z h4 h5;obtain⟨f,rfl⟩:∃m,f=m+1:=⟨f-1,by omega⟩
  by_cases v:s=[]
  ·subst v;rw[Cw];refine⟨λ_=>⟨[],n,i,b,c,λR d g=>?_⟩,λh=>absurd rfl h⟩;rw[R9];rfl
  ·have start:∀(R:Type) (d:Int->LL->By->Int->Int->Int->Bool->Option R) (g:LL->By->Int->Int->Int->Bool->Option R),R9 LF (f+1) (C2 a) s (n:Int) (i:Int) (b:Int) c d g =
     cond ((F2 ⟨s,n,i,b,c,C2 a⟩).1 !=0) (d (F2 ⟨s,n,i,b,c,C2 a⟩).1 (F2 ⟨s,n,i,b,c,C2 a⟩).2.l (F2 ⟨s,n,i,b,c,C2 a⟩).2.rest (F2 ⟨s,n,i,b,c,C2 a⟩).2.n (F2 ⟨s,n,i,b,c,C2 a⟩).2.i (F2 ⟨s,n,i,b,c,C2 a⟩).2.b (F2 ⟨s,n,i,b,c,C2 a⟩).2.st)
      (R9 LF f (F2 ⟨s,n,i,b,c,C2 a⟩).2.l (F2 ⟨s,n,i,b,c,C2 a⟩).2.rest (F2 ⟨s,n,i,b,c,C2 a⟩).2.n (F2 ⟨s,n,i,b,c,C2 a⟩).2.i (F2 ⟨s,n,i,b,c,C2 a⟩).2.b (F2 ⟨s,n,i,b,c,C2 a⟩).2.st d g):=by
    intro R d g;rw[R9];rw[show(s==([]:By))=false from beq_eq_false_iff_ne.2 v,U2,M0,M0,M0,D7,ab3 (show a.length<=100000 by omega)];rfl
   obtain⟨G,H,I⟩:=C64 s a n i b c;have o:=De3 s a n i b c;generalize F2 ⟨s,n,i,b,c,C2 a⟩=D at *;by_cases k:(E1 b s i 1 0).2.2=0
   ·rw[Dy v a n i b (!c) k];obtain⟨M,N⟩:=UW b s i;obtain⟨O,P⟩:=N k;have J:IK (b:Int) s (i:Int)=0:=by rw[M,k];rfl
    obtain⟨U,V,W⟩:=Uw b s i 1 0 (by omega) (by omega) (by omega) J;have A:(i:Int)<=Th (b:Int) s (i:Int):=U;have B:Th (b:Int) s (i:Int)<=1099511627776:=V;have C:(IM (b:Int) s (i:Int)).length<s.length:=W;rw[P] at A B;rw[O] at C;cases x:U7 (n+(E1 b s i 1 0).1 / (a.length+1)) with
    | false=>
     rw[if_neg (by simp)];refine⟨λh=>by simp at h,λ_=>⟨rfl,D.2.l,D.2.rest,D.2.n,D.2.i,D.2.b,D.2.st,λR d g=>?_⟩⟩
     ·rw[start,H k x];rfl
    | true=>
     rw[if_pos rfl];by_cases w:256<a.length+1
     ·rw[if_pos w];refine⟨λh=>by simp at h,λ_=>⟨rfl,D.2.l,D.2.rest,D.2.n,D.2.i,D.2.b,D.2.st,λR d g=>?_⟩⟩;rw[start,I k x w];rfl
     ·rw[if_neg w];have o:=o k (by omega) x w;have z:n+(E1 b s i 1 0).1 / (a.length+1)<=1114111:=by
       unfold U7 at x;simp_all
      have F:=ag8 (E1 b s i 1 0).1 (show 0<a.length+1 by omega);have y:=Nw ((E1 b s i 1 0).1-i) (a.length+1) (!c) (by omega);have:=L (E1 b s i 1 0).2.1 (U6 a ((E1 b s i 1 0).1 % (a.length+1)) (n+(E1 b s i 1 0).1 / (a.length+1))) (n+(E1 b s i 1 0).1 / (a.length+1)) ((E1 b s i 1 0).1 % (a.length+1)+1) (P9 ((E1 b s i 1 0).1-i) (a.length+1) (!c)) f true (by omega) (by omega) (by omega) (by rw[Bi];omega) z (by omega) y;obtain⟨Q,S⟩:=this;refine⟨λh=>?_,λh=>?_⟩
      ·obtain⟨u,t,q,p,j,e⟩:=Q h;refine⟨u,t,q,p,j,λR d g=>?_⟩;rw[start,o];exact e R d g
      ·obtain⟨T,l,u,t,q,p,j,e⟩:=S h;refine⟨T,l,u,t,q,p,j,λR d g=>?_⟩;rw[start,o];exact e R d g
   ·rw[Hd v a n i b (!c) k];refine⟨λh=>absurd h k,λ_=>⟨rfl,D.2.l,D.2.rest,D.2.n,D.2.i,D.2.b,D.2.st,λR d g=>?_⟩⟩;rw[start,G k,show(((E1 b s i 1 0).2.2:Int)!=0)=true by rw[bne_iff_ne];omega];rfl
theorem Ku(l:List Nat):Zt l=C2 l:=rfl
theorem Ax9{R:Type}{k0:Unit->Option R}{k1:By->Option R}(s:By)(f:s.length<=1000000):∀(r i n:Nat),i+r=s.length->r<n->
  Mm LF n s (s.length:Int) (i:Int) k0 k1=if (s.drop i).any (λb=>o8 128 b.toNat) then k0 () else k1 s:=by
 intro r
 induction r with
 | zero=>
  intro i n c d;obtain⟨n,rfl⟩:∃m,n=m+1:=⟨n-1,by omega⟩
  rw[Mm];rw[A6,k9 (by omega)];rfl
 | succ r e=>
  intro i n c d;obtain⟨n,rfl⟩:∃m,n=m+1:=⟨n-1,by omega⟩
  rw[Mm];have a:A1 ((i:Int)+1)=((i+1:Nat):Int):=by rw[A5];rfl
  rw[A8,J1,G8,I8 s i (by omega),a,aa4];simp only[cond_true];generalize s.getD i 0=b;by_cases h:128<=b.toNat
  ·rw[A6,ab3 h];rfl
  ·have:o8 128 b.toNat=false:=by rw[x7,ne_eq,v7];exact h
   rw[A8,this,aa7];exact e (i+1) n (by omega) (by omega)
theorem Bq7{R:Type}{k0:By->Int->LL->Option R}(s:By)(q:s.length<=1000000)(k:Nat)(p:k<=s.length):∀(r i n:Nat) (l:List Nat),i+r=k->r<n->l.length=i->
  Iv LF n s (k:Int) (i:Int) (C2 l) k0=k0 s (k:Int) (C2 (l++((s.take k).drop i).map (·.toNat))):=by
 intro r
 induction r with
 | zero=>
  intro i n l f h g;obtain⟨n,rfl⟩:∃m,n=m+1:=⟨n-1,by omega⟩
  rw[Iv];rw[A6,k9 (by rw[p9];omega)];simp
 | succ r j=>
  intro i n l f h g;obtain⟨n,rfl⟩:∃m,n=m+1:=⟨n-1,by omega⟩
  rw[Iv];have c:A1 ((i:Int)+1)=((i+1:Nat):Int):=by rw[A5];rfl
  have e:(s.take k).drop i=s.getD i 0::(s.take k).drop (i+1):=by
   rw[I8 (s.take k) i (by rw[p9];omega)]
   congr 1
   rw[p4,p4,List.getElem?_take_of_lt (by omega)]
  rw[A8,J1,G8,e,D7,F3 (by omega),c];simp only[cond_true];generalize s.getD i 0=b;have o:=b.toNat_lt;have d:A1 (b.toNat:Int)=(b.toNat:Int):=A5;have a:C2 l++[[SV.int .i64 (A1 (b.toNat:Int))]]=C2 (l++[b.toNat]):=by rw[d,Kt];rfl
  rw[a,j (i+1) n _ (by omega) (by omega) (by simp;omega)];simp
theorem Ox:∀s:By,H4 s<=s.length-1
 | []=>by simp[H4]
 | b::r=>by
  have:=Ox r;unfold H4;grind
theorem Ay0(s:By)(M:A3 s.length=true):(∃e,N4 s=([],e)/\∀(R:Type) (k0:Int->Option R) (k1:Int->LL->By->Int->Int->Int->Bool->Option R) (a:LL->By->Int->Int->Int->Bool->Option R),We LF s k0 k1 a=k0 (e:Nat))\/
  (∃e l k j i f c,N4 s=([],e)/\∀(R:Type) (k0:Int->Option R) (k1:Int->LL->By->Int->Int->Int->Bool->Option R) (a:LL->By->Int->Int->Int->Bool->Option R),We LF s k0 k1 a=k1 (e:Nat) l k j i f c)\/
  ((N4 s).2=0/\∃k j i f c,∀(R:Type) (k0:Int->Option R) (k1:Int->LL->By->Int->Int->Int->Bool->Option R) (a:LL->By->Int->Int->Int->Bool->Option R),We LF s k0 k1 a=a (C2 (N4 s).1) k j i f c):=by
 have N:=E2;unfold N4;by_cases C:1024<s.length
 ·rw[if_pos C];refine .inl ⟨3,rfl,λR k0 k1 a=>?_⟩;unfold We;rw[A8];rfl
 ·rw[if_neg C];have r:=λ(R:Type) (G:Unit->Option R) (H:By->Option R)=>Ax9 (k0:=G) (k1:=H) s (by omega) s.length 0 LF (by omega) (by omega)
  rw[o9] at r;cases A:s.any (λb=>o8 128 b.toNat) with
  | true=>
   rw[if_pos rfl];refine .inl ⟨4,rfl,λR k0 k1 a=>?_⟩;unfold We;rw[A6,cond_false];refine j5 (r R _ _) ?_;rw[A,if_pos rfl];rfl
  | false=>
   rw[if_neg (by simp)];obtain⟨I,J⟩:=Ow s;have O:=Ox s;have key:∀(d:List Nat) (t:By),d.length<=256->t.length<=1024->(∀(R:Type) (k0:Int->Option R) (k1:Int->LL->By->Int->Int->Int->Bool->Option R) (a:LL->By->Int->Int->Int->Bool->Option R),We LF s k0 k1 a=R9 LF LF (C2 d) t 128 0 72 false k1 a)->
     (∃e l k j i f c,I5 t d 128 0 72 true=([],e)/\∀(R:Type) (k0:Int->Option R) (k1:Int->LL->By->Int->Int->Int->Bool->Option R) (a:LL->By->Int->Int->Int->Bool->Option R),We LF s k0 k1 a=k1 (e:Nat) l k j i f c)\/
     ((I5 t d 128 0 72 true).2=0/\∃k j i f c,∀(R:Type) (k0:Int->Option R) (k1:Int->LL->By->Int->Int->Int->Bool->Option R) (a:LL->By->Int->Int->Int->Bool->Option R),We LF s k0 k1 a=a (C2 (I5 t d 128 0 72 true).1) k j i f c):=by
    intro d t P V B;obtain⟨D,F⟩:=Bq8 t.length t d 128 0 72 LF false (ab1 _) (by omega) (by omega) P (by omega) (by omega) (by omega);rw[j4] at D F;by_cases w:(I5 t d 128 0 72 true).2=0
    ·obtain⟨k,j,i,f,c,e⟩:=D w;exact .inr ⟨w,k,j,i,f,c,λR k0 k1 a=>by rw[B];exact e R k1 a⟩
    ·obtain⟨S,l,k,j,i,f,c,e⟩:=F w;exact .inl ⟨_,l,k,j,i,f,c,Prod.ext S rfl,λR k0 k1 a=>by rw[B];exact e R k1 a⟩
   have Q:u8n 45=45:=rfl;have top:∀(R:Type) (k0:Int->Option R) (k1:Int->LL->By->Int->Int->Int->Bool->Option R) (a:LL->By->Int->Int->Int->Bool->Option R),We LF s k0 k1 a =
     cond (ltI 0 (L7 45 s)) (Iv LF LF s (L7 45 s) 0 [] (λn x u=>cond (K5 (A1 (x+1)) (n.length:Int) n.length)
      (vl (cut n (A1 (x+1)) (n.length:Int)) λy=>cond (ltI 256 (u.length:Int)) (k1 3 u y 128 0 72 false) (R9 LF LF u y 128 0 72 false k1 a)) none))
      (R9 LF LF [] s 128 0 72 false k1 a):=by
    intro R k0 k1 a;unfold We;rw[A6,cond_false];refine j5 (r R _ _) ?_;rw[A,if_neg (by simp),M,Q];rfl
   by_cases T:0<H4 s
   ·have v:45∈s:=by
     apply ac2;intro h;have:=(J h).2;omega
    have z:=I v;generalize H4 s=m at *;have g:=λ(R:Type) (K:By->Int->LL->Option R)=>Bq7 (k0:=K) s (by omega) m (by omega) m 0 LF [] (by omega) (by omega) rfl
    rw[o9] at g;have L:A1 ((m:Int)+1)=((m+1:Nat):Int):=by rw[A5];rfl
    have p:((s.take m).map (·.toNat)).length=m:=by rw[p5,p9];omega
    have q:∀(R:Type) (k0:Int->Option R) (k1:Int->LL->By->Int->Int->Int->Bool->Option R) (a:LL->By->Int->Int->Int->Bool->Option R),We LF s k0 k1 a =
      cond (ltI 256 (m:Int)) (k1 3 (C2 ((s.take m).map (·.toNat))) (s.drop (m+1)) 128 0 72 false) (R9 LF LF (C2 ((s.take m).map (·.toNat))) (s.drop (m+1)) 128 0 72 false k1 a):=by
     intro R k0 k1 a;rw[top,z,A8,cond_true];refine j5 (g R _) ?_;rw[L,Q3,Fa,ad2,y8,D7,p];rfl
    by_cases o:256<m
    ·rw[if_pos o];refine .inr (.inl ⟨3,C2 ((s.take m).map (·.toNat)),s.drop (m+1),128,0,72,false,rfl,λR k0 k1 a=>?_⟩);rw[q,A8];rfl
    ·rw[if_neg o,if_neg (show ¬m=0 by omega)];exact .inr (key _ (s.drop (m+1)) (by rw[p];omega) (by rw[j7];omega) (λR k0 k1 a=>by rw[q,A6];rfl))
   ·have w:H4 s=0:=by omega
    have z:¬ 0<L7 45 s:=by
     by_cases U:45∈s;all_goals grind
    rw[w,J4,if_pos rfl];refine .inr (key [] s (by simp) (by omega) (λR k0 k1 a=>?_));rw[top,A6];rfl
theorem Vx(l:List Nat):(C2 l).isEmpty=l.isEmpty:=by cases l<;>rfl
theorem Ct7(s:By)(k:A3 s.length=true):∃r H,We LF s (λf=>rv (.tup [.fl 0,.s (.int .i64 f)]) [.arr true 3 1 []]) (λf o w c d t j=>rv (.tup [.fl 2,.s (.int .i64 f)]) [.arr true 3 1 o,.box [.s (.str w),.fl 0,.s (.int .i64 c),.s (.int .i64 d),.s (.int .i64 t),.s (.bool j)],.arr true 3 1 []]) (λn v q c d i=>rv (.tup [.fl 0,.s (.int .i64 (0:Int))]) [.arr true 3 1 n,.box [.s (.str v),.fl 0,.s (.int .i64 q),.s (.int .i64 c),.s (.int .i64 d),.s (.bool i)]])=rv r H/\
  r.stab [1,0] H = .tup [.s (.sl (N4 s).1.isEmpty (N4 s).1.isEmpty 1 (Zt (N4 s).1)),.s (.int .i64 ((N4 s).2:Nat))]:=by
 rcases Ay0 s k with⟨e,a,b⟩|⟨e,l,u,p,m,h,g,a,b⟩|⟨a,u,p,m,h,g,b⟩
 ·refine⟨_,_,b _ _ _ _,?_⟩;rw[a];rfl
 ·refine⟨_,_,b _ _ _ _,?_⟩;rw[a];rfl
 ·refine⟨_,_,b _ _ _ _,?_⟩;rw[a,Ku];simp[PV.stab,Ri,Rh,PV.snap,M8,Vx]
end
section
open Go
theorem BL:∀(f:Nat) (l:By),ai3 f l=(Z8 f l).isSome
 | 0,_=>rfl
 | f+1,l=>by
  unfold ai3 Z8;split
  ·rfl
  ·split
   ·rfl
   ·rw[BL f,ac4]
theorem A77(l:By):Lib.validD l=(Hn l).isSome:=BL _ l
theorem IW:∀(n m:Nat) (l:By),l.length<=n->l.length<=m->Z8 n l=Z8 m l
 | 0,m,l,b,_=>by
  have:l=[]:=o5.1 (by omega);subst this;cases m<;>simp[Z8]
 | n+1,0,l,_,hm=>by
  have:l=[]:=o5.1 (by omega);subst this;simp[Z8]
 | n+1,m+1,l,b,hm=>by
  unfold Z8;split
  ·rfl
  ·rename_i a;have d:=ac3 l;have c:0<l.length:=x3.2 a;rw[IW n m (l.drop (p7 l).2) (by rw[j7];omega) (by rw[j7];omega)]
theorem Br5(l:By)(a:l≠[]):Hn l=if (p7 l).1=65533/\(p7 l).2=1 then none else (Hn (l.drop (p7 l).2)).map ((p7 l).1::·):=by
 have c:0<l.length:=x3.2 a;have d:=ac3 l;obtain⟨n,b⟩:∃n,l.length=n+1:=⟨l.length-1,by omega⟩
 unfold Hn;rw[b]
 conv=>lhs;unfold Z8
 rw[if_neg a,IW n (l.drop (p7 l).2).length _ (by rw[j7];omega) (ab1 _)]
theorem NW:∀(f:Nat) (s:ByteArray) (pos:Nat) (p:List Nat),pos<=s.size->Z8 f (s.data.toList.drop pos)=some p->s.size-pos<=f->af0 s f pos=p.length
 | 0,s,pos,p,e,h,d=>by
  simp only[Z8,o0] at h;subst h;rfl
 | f+1,s,pos,p,e,h,d=>by
  have g:s.data.toList.length=s.size:=by rw[Array.length_toList];rfl
  unfold Z8 at h;rw[ac7] at h;by_cases a:pos<s.size
  ·rw[if_neg (by rw[<-o5,j7];omega)] at h;split at h
   ·cases h
   ·cases b:Z8 f (ab9 (ac5 s pos).2 (ab9 pos s.data.toList)) with
    | none=>rw[b] at h;cases h
    | some q=>
     rw[b] at h;simp only[aa3,o0] at h;subst h;have i:=Lib.decode_width_pos s pos a;have c:pos+(ac5 s pos).2<=s.size:=by
      have:=ag6 (s.data.toList.drop pos) (by rw[ne_eq,<-o5,j7];omega);rw[ac7,j7] at this;omega
     rw[ag7] at b;unfold af0;rw[if_pos a,NW f s _ q c b (by omega)];grind
  ·rw[if_pos (by rw[<-o5,j7];omega)] at h;simp only[o0] at h;subst h;rw[Lib.runeCountFrom_end s _ _ a];rfl
theorem JE{l:By}{p:List Nat}(h:Hn l=some p):ac1 l=p.length:=by
 unfold ac1 Lib.runeCount;have a:(ByteArray.mk l.toArray).size=l.length:=by simp[ByteArray.size]
 refine NW _ _ 0 p (Nat.zero_le _) ?_ (by omega);rw[a,o9];simpa[Hn] using h
open Lib in theorem Dh5(n b a d e:Nat)(g:194<=b/\b<224)(f:a<256):decodeN n b a d e=if 2<=n/\128<=a/\a<=191 then ((b-192)*64+a-128,2) else (65533,1):=by
 unfold decodeN;rw[J4];by_cases c:2<=n/\128<=a/\a<=191
 ·rw[if_pos c,Aj,Aj];exact Prod.ext (by show b % 32*64+a % 64=(b-192)*64+a-128;omega) rfl
 ·rw[if_neg c,J4,J4,J4]
open Lib in theorem Dh6(n c a b f:Nat)(i:224<=c/\c<240)(g:a<256)(h:b<256):decodeN n c a b f=if 3<=n/\(128<=a/\a<=191)/\(128<=b/\b<=191) then
  (if 2048<=((c-224)*64+a-128)*64+b-128/\U7 (((c-224)*64+a-128)*64+b-128)=true then (((c-224)*64+a-128)*64+b-128,3) else (65533,1)) else (65533,1):=by
 unfold decodeN;rw[J4,J4];by_cases d:3<=n/\(128<=a/\a<=191)/\(128<=b/\b<=191)
 ·rw[if_pos d,Aj];have e:c % 16*4096+a % 64*64+b % 64=((c-224)*64+a-128)*64+b-128:=by omega
  rw[e];generalize ((c-224)*64+a-128)*64+b-128=v
  congr 1
  simp only[U7,o7,ad3,v7,Nat.blt_eq];apply propext;omega
 ·rw[if_neg d,J4,J4]
open Lib in theorem Dh7(n d a b c:Nat)(j:240<=d/\d<245)(g:a<256)(h:b<256)(i:c<256):decodeN n d a b c=if 4<=n/\(128<=a/\a<=191)/\(128<=b/\b<=191)/\(128<=c/\c<=191) then
  (if 65536<=(((d-240)*64+a-128)*64+b-128)*64+c-128/\U7 ((((d-240)*64+a-128)*64+b-128)*64+c-128)=true then ((((d-240)*64+a-128)*64+b-128)*64+c-128,4) else (65533,1)) else (65533,1):=by
 unfold decodeN;rw[J4,J4,J4];by_cases f:4<=n/\(128<=a/\a<=191)/\(128<=b/\b<=191)/\(128<=c/\c<=191)
 ·rw[if_pos f,Aj];have e:d % 8*262144+a % 64*4096+b % 64*64+c % 64=(((d-240)*64+a-128)*64+b-128)*64+c-128:=by omega
  rw[e];generalize (((d-240)*64+a-128)*64+b-128)*64+c-128=v
  congr 1
  simp only[U7,o7,ad3,v7,Nat.blt_eq];apply propext;omega
 ·rw[if_neg f,J4]
end
section
open Go Go.Proofs
theorem GZ(l:List Nat):X7 (l.map λn:Nat=>(n:Int))=Fc l:=by
 have b:(l.map λn:Nat=>(n:Int)).all ptI=l.all U7:=by
  rw[af1]
  congr 1
 have c:(l.map λn:Nat=>(n:Int)).map j8=l:=by
  rw[ab8];exact(ab7 λa _=>by simp).trans (aj0 l)
 unfold X7;rw[p5,b,c];by_cases h:256<l.length
 ·rw[if_pos h];unfold Fc;rw[if_pos h]
 ·rw[if_neg h];cases d:l.all U7 with
  | true=>rw[if_pos rfl]
  | false=>
   rw[if_neg (by simp)];unfold Fc;grind
theorem GY(l:List Nat):(C2 l).map elI=l.map λn:Nat=>(n:Int):=by unfold C2;rw[ab8];exact ab7 λa _=>rfl
theorem Jk(l:List Nat):(C2 l).all Ou=true:=by unfold C2;rw[af1,aa5];intro x _;rfl
theorem Av8{R:Type}{a:Unit->Option R}{d:By->Bool->LL->Bool->Option R}(s:By)(z:Bool)(p:List Nat)(t:p.length<=1000000000):∀(r i n:Nat) (b:Bool),i+r=p.length->r<n->
  Y0 LF n s z (C2 p) b (p.length:Int) (i:Int) a d=if (p.drop i).any (λp=>o8 65 p&&o8 p 90) then a () else d s z (C2 p) (b&&!((p.drop i).any λp=>o8 128 p)):=by
 intro r
 induction r with
 | zero=>
  intro i n b h j;obtain⟨n,rfl⟩:∃m,n=m+1:=⟨n-1,by omega⟩
  rw[Y0];rw[A6,k9 (by omega)];simp
 | succ r k=>
  intro i n b h j;obtain⟨n,rfl⟩:∃m,n=m+1:=⟨n-1,by omega⟩
  rw[Y0];have f:A1 ((i:Int)+1)=((i+1:Nat):Int):=by rw[A5];rfl
  have g:p.drop i=p.getD i 0::p.drop (i+1):=by
   rw[p4,aa1 (by omega),af7,List.getElem_cons_drop]
  rw[A8,D7,J1,j0,Qt (by omega),Zf _ _ (by omega),g,aa4,aa4,f];simp only[cond_true,vl];generalize p.getD i 0=q;have go:∀c:Bool,Y0 LF n s z (C2 p) c (p.length:Int) ((i+1:Nat):Int) a d=_:=λc=>k (i+1) n c (by omega) (by omega)
  by_cases l:q<65
  ·rw[A8,show o8 65 q=false by rw[x7,ne_eq,v7];omega];have e:o8 128 q=false:=by rw[x7,ne_eq,v7];omega
   rw[show ltI (q:Int) (128:Int)=true from A8,e];simp only[j1,cond_false,ad8,aa7];cases b<;>simp only[cond_true,cond_false]<;>rw[go]
  ·rw[A6,show o8 65 q=true by rw[v7];omega];simp only[j4,cond_true,y9];by_cases e:90<q
   ·rw[A8,show o8 q 90=false by rw[x7,ne_eq,v7];omega];simp only[j1,cond_false,aa7];by_cases o:q<128
    ·rw[show ltI (q:Int) (128:Int)=true from A8,show o8 128 q=false by rw[x7,ne_eq,v7];omega];cases b<;>simp only[cond_true,cond_false,aa7]<;>rw[go]
    ·rw[show ltI (q:Int) (128:Int)=false from A6,show o8 128 q=true by rw[v7];omega];cases b<;>simp only[cond_true,cond_false,ai1,j1,Bool.and_false]<;>rw[go]<;>simp
   ·rw[A6,show o8 q 90=true by rw[v7];omega];simp
theorem Aq9:∀(m:Nat) (s:By) (a:List Nat) (n i b:Nat) (f:Bool),s.length<=m->a.length<=256->(I5 s a n i b f).1.length<=256:=by
 intro m
 induction m with
 | zero=>
  intro s a n i b f e d;obtain rfl:=o5.1 (Nat.le_zero.1 e);rw[Cw];exact d
 | succ m j=>
  intro s a n i b f e d;by_cases h:s=[]
  ·grind
  ·by_cases c:(E1 b s i 1 0).2.2=0
   ·rw[Dy h _ _ _ _ _ c];have g:=Qf b s i 1 0 c;split
    ·split
     ·grind
     ·rename_i k;exact j _ _ _ _ _ _ (by omega) (by rw[Bi];omega)
    grind
   ·rw[Hd h _ _ _ _ _ c];grind
theorem ZM(s:By):(N4 s).1.length<=256:=by
 unfold N4;split
 ·grind
 ·split
  ·grind
  ·split
   ·grind
   ·rename_i h;exact Aq9 _ _ _ _ _ _ _ (ab1 _) (by rw[p5,p9];omega)
theorem Av9{R:Type}{a:Bool->Option R}(s:By)(b:A3 s.length=true):Be5 LF s a=a (Dn s):=by
 have c:=E2;unfold Be5 Dn;rw[b,cond_true];by_cases h:(N4 s).2=0
 ·have e:(((N4 s).2:Int)!=(0:Int))=false:=by rw[h];rfl
  rw[e,cond_false,Ku,D7,h];have i:=ZM s;refine j5 (Av8 s _ (N4 s).1 (by omega) (N4 s).1.length 0 LF true (by omega) (by omega)) ?_;rw[o9];cases d:(N4 s).1.any (λp=>o8 65 p&&o8 p 90) with
  | true=>simp
  | false=>
   rw[if_neg (by simp),Jk,GY,GZ];simp only[cond_true,vl,y9,j4];cases f:(N4 s).1.any (λp=>o8 128 p) with
   | false=>simp
   | true=>
    simp only[j1,j4,cond_true,aa6,beq_self_eq_true,y9];by_cases g:(Fc (N4 s).1).2=0;all_goals grind
 grind
theorem Bp1{R:Type}{d:Unit->Option R}{e:By->Option R}(s:By)(w:s.length<=1000000000):∀(r i n:Nat),i+r=s.length->r<n->
  R0 LF n s (s.length:Int) (i:Int) d e=if (s.drop i).all T8 then e s else d ():=by
 intro r
 induction r with
 | zero=>
  intro i n l c;obtain⟨n,rfl⟩:∃m,n=m+1:=⟨n-1,by omega⟩
  rw[R0];rw[A6,k9 (by omega)];rfl
 | succ r o=>
  intro i n l c;obtain⟨n,rfl⟩:∃m,n=m+1:=⟨n-1,by omega⟩
  rw[R0];have k:A1 ((i:Int)+1)=((i+1:Nat):Int):=by rw[A5];rfl
  rw[A8,J1,G8,I8 s i (by omega),k,aa0];simp only[cond_true];rw[o (i+1) n (by omega) (by omega)];generalize s.getD i 0=b;have j:=Oy b;have u:((b.toNat:Int)!=45) = !(b==45):=congrArg _ (Y6 b 45 (by omega));have v:((b.toNat:Int)!=95) = !(b==95):=congrArg _ (Y6 b 95 (by omega));rw[u,v];have t:∀{x:Bool},T8 b=x->(if (T8 b&&(s.drop (i+1)).all T8)=true then e s else d ())=if (x&&(s.drop (i+1)).all T8)=true then e s else d ():=λh=>by rw[h]
  cases a:T8 b with
  | true=>
   rw[j] at a;simp only[y9];by_cases f:b=45
   ·subst f;simp (disch:=decide) [ltI]
   ·by_cases g:b=95
    ·subst g;simp (disch:=decide) [ltI]
    ·rcases a with a|a|a|a
     ·rw[show ltI (b.toNat:Int) 97=false from A6,show ltI (122:Int) b.toNat=false from A6];rfl
     ·rw[show ltI (b.toNat:Int) 97=true from A8,show ltI (b.toNat:Int) 48=false from A6,show ltI (57:Int) b.toNat=false from A6];rfl
     ·exact absurd a f
     ·exact absurd a g
  | false=>
   have c:¬((97<=b.toNat/\b.toNat<=122)\/(48<=b.toNat/\b.toNat<=57)\/b=45\/b=95):=λh=>by rw[j.2 h] at a;cases a
   have p:(b==45)=false:=by simpa using λh=>c (.inr (.inr (.inl h)))
   have q:(b==95)=false:=by simpa using λh=>c (.inr (.inr (.inr h)))
   rw[p,q];simp only[j4,cond_true,ad8,ab0,if_false];by_cases f:b.toNat<48
   ·rw[show ltI (b.toNat:Int) 97=true from A8,show ltI (b.toNat:Int) 48=true from A8];rfl
   ·by_cases g:b.toNat<97
    ·rw[show ltI (b.toNat:Int) 97=true from A8,show ltI (b.toNat:Int) 48=false from A6,show ltI (57:Int) b.toNat=true from A8];rfl
    ·rw[show ltI (b.toNat:Int) 97=false from A6,show ltI (122:Int) b.toNat=true from A8,show ltI (b.toNat:Int) 48=false from A6,show ltI (57:Int) b.toNat=true from A8];rfl
theorem Bp2{R:Type}{a:Bool->Option R}(s:By)(b:A3 s.length=true):Cs4 LF s a=a (N9 s):=by
 have k:=N5 b;have h:=E2;unfold Cs4 N9;by_cases c:s=[]
 ·simp_all
 ·have o:0<s.length:=x3.2 c;have j:s.isEmpty=false:=by simpa using c
  rw[A6,cond_false,j];by_cases m:63<s.length
  ·rw[A8,show o8 s.length 63=false by rw[x7,ne_eq,v7];omega];rfl
  ·rw[A6,cond_false,show o8 s.length 63=true by rw[v7];omega,J1];have l:(bAt s 0==(45:Int))=(s.getD 0 0==45):=by rw[Kb];exact Y6 _ 45 (by omega)
   have d:A1 ((s.length:Int)-1)=((s.length-1:Nat):Int):=by rw[A5];omega
   rw[l,d];simp only[cond_true,vl];rw[J1,G8,show((((s.getD (s.length-1) 0).toNat:Nat):Int)==45)=(s.getD (s.length-1) 0==45) from Y6 _ 45 (by omega)];cases e:(s.getD 0 0==45) with
   | true=>
    grind
   | false=>
    rw[show(s.getD 0 0 !=45)=true by unfold bne;rw[e];rfl];simp only[cond_true,cond_false];cases f:(s.getD (s.length-1) 0==45) with
    | true=>
     grind
    | false=>
     rw[show(s.getD (s.length-1) 0 !=45)=true by unfold bne;rw[f];rfl];simp only[cond_false];refine j5 (Bp1 s k s.length 0 LF (by omega) (by omega)) ?_;rw[o9];cases n:s.all T8 with
     | false=>simp
     | true=>
      rw[if_pos rfl,b,cond_true];simp only[j4,y9,aa6];show cond (!(xnB.isPrefixOf s)) _ _=_;cases g:xnB.isPrefixOf s with
      | false=>rfl
      | true=>
       have i:Hb s xnB=s.drop 4:=by unfold Hb;rw[g];rfl
       show cond (A3 (Hb s xnB).length) (a (Dn (Hb s xnB))) none=_;rw[i,E5 (by rw[j7];omega)];rfl
theorem Ar8(a:List Nat)(b:Nat)(F:a.length<=256)(A:b<=256)(d:∀p∈a,p<=1114111):∀(f n:Nat) (s:OM),s.done=a.countP (λp=>decide (p<n))->s.delta<=300->s.bias<=500->s.out.length+20*(a.length-s.done)<=80000->n<=1114112->
  (Q5 a b f n s).out.length<=80000:=by
 intro f;have z:=E2
 induction f with
 | zero=>intro n s C w q x y;unfold Q5;omega
 | succ f G=>
  intro n s C w q x y;have B:a.countP (λp=>decide (p<n))<=a.length:=x5;by_cases h:s.done<a.length
  ·obtain⟨u,i,j⟩:=Aq5 (n:=n) (l:=a) (by omega);obtain⟨L,M,o⟩:=Ee n a 1114112;have N:=o u i j;have O:=d u i;have c:I6 n a 1114112∈a/\n<=I6 n a 1114112:=by grind
   have D:Q5 a b (f+1) n s=Q5 a b f (I6 n a 1114112+1) { I7 (I6 n a 1114112) b a { s with delta:=s.delta+(I6 n a 1114112-n)*(s.done+1) } with delta:=(I7 (I6 n a 1114112) b a { s with delta:=s.delta+(I6 n a 1114112-n)*(s.done+1) }).delta+1 }:=by
    rw[Q5,if_pos h]
   rw[D];generalize I6 n a 1114112=m at *;have t:(m-n)*(s.done+1)<=1114112*256:=ae1 (by omega) (by omega);have g:=Bf6 false false a b m (by omega) F a.length 0 LF { s with delta:=s.delta+(m-n)*(s.done+1) } (by omega) (by omega) (by simp only;omega) q (by simp only;omega) (by simp only;omega) A;rw[o9] at g;obtain⟨_,H,I,J,K⟩:=g;have e:0<a.countP (· == m):=ae4.2 ⟨m,c.1,by simp⟩;rw[if_pos e] at K;have k:=Uq c.2 a o;generalize I7 m b a { s with delta:=s.delta+(m-n)*(s.done+1) } = v at *;simp only at I J;have r:a.countP (λp=>decide (p<m+1))<=a.length:=x5;exact G (m+1) { v with delta:=v.delta+1 } (by simp only;omega) (by simp only;omega) H (by simp only;omega) (by omega)
  ·rw[Q5,if_neg h];omega
theorem B47(p:List Nat):(Fc p).1.length<=80000:=by
 unfold Fc;split
 ·grind
 ·rename_i h;split
  ·grind
  ·rename_i a;have d:∀q∈p,q<=1114111:=λq e=>by
    have a:p.all U7=true:=by simpa using a
    have:=aa5.1 a q e;simp only[U7,o7,v7] at this;omega
   have b:=Sm p;have c:p.countP (λq=>decide (q<128))<=p.length:=x5;refine Ar8 p _ (by omega) (by omega) d 256 128 _ b (by simp) (by simp) ?_ (by omega);grind
theorem UM{b:UInt8}(h:128<=b.toNat):Cn b=b:=by
 rcases X9 b with⟨_,e⟩|⟨_,e⟩|⟨_,a,_⟩
 all_goals omega
theorem UN{b:UInt8}(h:b.toNat<128):(Cn b).toNat<128:=by
 rcases X9 b with⟨_,e⟩|⟨_,e⟩|⟨_,a,e⟩
 all_goals grind
theorem Bk6(n:Nat)(a c d e:UInt8)(h:128<=a.toNat):ag0 n a.toNat (Cn c).toNat (Cn d).toNat (Cn e).toNat=ag0 n a.toNat c.toNat d.toNat e.toNat:=by
 have i:∀b:UInt8,b.toNat / 64=2->Cn b=b:=λb f=>UM (by omega)
 have j:∀b:UInt8,¬b.toNat / 64=2->¬(Cn b).toNat / 64=2:=λb f h=>by
  by_cases g:128<=b.toNat
  ·rw[UM g] at h;exact f h
  ·have:=UN (b:=b) (by omega);omega
 unfold ag0;grind
theorem Cn4(l:By)(c:l≠[]):(p7 (D3 l)).2=(p7 l).2/\(¬((p7 l).1=65533/\(p7 l).2=1)->¬((p7 (D3 l)).1=65533/\(p7 (D3 l)).2=1)):=by
 cases l with
 | nil=>exact absurd rfl c
 | cons b t=>
  by_cases a:b.toNat<128
  ·have d:=ae9 b t a;have f:p7 (D3 (b::t))=((Cn b).toNat,1):=ae9 (Cn b) (D3 t) (UN a);rw[d,f];refine⟨rfl,λ_ h=>?_⟩;have:=UN a;omega
  ·have e:p7 (D3 (b::t))=p7 (b::t):=by
    rw[ah2,ah2,Dd,Mh,Mh,Mh,Mh];have e0:Cn ((b::t).getD 0 0)=b:=UM (b:=b) (show 128<=b.toNat by omega);rw[e0];exact Bk6 (b::t).length b ((b::t).getD 1 0) ((b::t).getD 2 0) ((b::t).getD 3 0) (show 128<=b.toNat by omega)
   grind
theorem NJ:∀(f:Nat) (l:By),(Z8 f l).isSome=true->(Z8 f (D3 l)).isSome=true
 | 0,_,_=>rfl
 | f+1,l,h=>by
  unfold Z8 at h ⊢;by_cases a:l=[]
  ·subst a;rfl
  ·rw[if_neg a] at h;rw[if_neg (by rw[Bo8];exact a)];obtain⟨b,c⟩:=Cn4 l a;split at h
   ·cases h
   ·rename_i d;rw[if_neg (c d),ac4,b,Av5];rw[ac4] at h;exact NJ f _ h
theorem Ca2{l:By}(h:(Hn l).isSome=true):(Hn (D3 l)).isSome=true:=by unfold Hn at h ⊢;rw[Dd];exact NJ _ _ h
theorem Bo1(t:By)(C:t.length<=1000000000):∀(f pos:Nat) (P q:List Nat) (n:Nat),pos<=t.length->t.length-pos<=f->f<n->P.length<=pos->Z8 f (t.drop pos)=some q->
  ∃m,∀(R:Type) (h:LL->By->Nat->Option R),Fe LF n (C2 P) t pos h=h (C2 (P++q)) t m:=by
 intro f
 induction f with
 | zero=>
  intro pos P q n u v w x a;obtain⟨n,rfl⟩:∃m,n=m+1:=⟨n-1,by omega⟩
  simp only[Z8,o0] at a;subst a;refine⟨pos,λR h=>?_⟩;rw[Fe];rw[decide_eq_false (by omega),cond_false,aa2]
 | succ f z=>
  intro pos P q n u v w x a;obtain⟨n,rfl⟩:∃m,n=m+1:=⟨n-1,by omega⟩
  by_cases l:pos<t.length
  ·have b:t.drop pos≠[]:=by rw[ne_eq,<-o5,j7];omega
   have y:=ac7 ⟨t.toArray⟩ pos;have i:ac5 ⟨af3 t⟩ pos=p7 (t.drop pos):=by rw[<-y]
   unfold Z8 at a;rw[if_neg b] at a;split at a
   ·cases a
   ·have D:=ac3 (t.drop pos);have j:=ag6 (t.drop pos) b;have B:=Lib.decodeL_rune (t.drop pos);rw[j7] at j;rw[ag7] at a;generalize p7 (t.drop pos)=p at *;obtain⟨c,o⟩:=p;simp only at *;cases k:Z8 f (t.drop (pos+o)) with
    | none=>rw[k] at a;cases a
    | some A=>
     rw[k] at a;simp only[aa3,o0] at a;subst a;obtain⟨m,e⟩:=z (pos+o) (P++[c]) A n (by omega) (by omega) (by omega) (by simp;omega) k;refine⟨m,λR h=>?_⟩;rw[Fe];rw[decide_eq_true l,cond_true,i,D7,F3 (by omega)];simp only[vl,cond_true];have r:A1 (c:Int)=(c:Int):=A5;have g:C2 P++[[SV.int .i64 (A1 (c:Int))]]=C2 (P++[c]):=by rw[r,Kt];rfl
     rw[g,e,x8];rfl
  ·have d:t.drop pos=[]:=by rw[<-o5,j7];omega
   unfold Z8 at a;rw[d,if_pos rfl] at a;simp only[o0] at a;subst a;refine⟨pos,λR h=>?_⟩;rw[Fe];rw[decide_eq_false l,cond_false,aa2]
theorem Au3(s:By)(i:A3 s.length=true):(∀(R:Type) (b:By->Int->Option R) (c:By->Int->LL->By->Nat->Option R),Ab9 LF s b c=b (T3 s).1 ((T3 s).2:Nat))\/
  (∃l t m,∀(R:Type) (b:By->Int->Option R) (c:By->Int->LL->By->Nat->Option R),Ab9 LF s b c=c (T3 s).1 ((T3 s).2:Nat) l t m):=by
 have x:=N5 i;have u:=E2;unfold T3;cases h:Hn s with
 | none=>
  refine .inl λR b c=>?_
  unfold Ab9;rw[i,h];rfl
 | some p=>
  have k:=JE h;have top:∀(R:Type) (b:By->Int->Option R) (c:By->Int->LL->By->Nat->Option R),Ab9 LF s b c=cond (ltI 256 (p.length:Int)) (b [] 3) (cond (ltI (p.length:Int) (s.length:Int)) (Fe LF LF [] (D3 s) 0 (λa g f=>cond (x4 a Ou)
      (cond (((X7 (j9 elI a)).2:Int)!=(0:Int))
       (c ([]:List UInt8) 14 a g f)
       (cond (J7 4 (c9 ((X7 (j9 elI a))).1))
        (cond (A3 (c9 (xnB++((X7 (j9 elI a))).1)))
         (cond (not (N9 (xnB++((X7 (j9 elI a))).1)))
         (c ([]:List UInt8) 14 a g f)
         (c (xnB++((X7 (j9 elI a))).1) 0 a g f))
         (none))
        (none)))
      (none)))
     (cond (A3 (c9 (D3 s)))
      (cond (not (N9 (D3 s)))
      (b ([]:List UInt8) 14)
      (b (D3 s) 0))
      (none))):=by
   intro R b c;unfold Ab9;rw[i,h,k];rfl
  simp only;by_cases n:256<p.length
  ·rw[if_pos n];refine .inl λR b c=>?_
   rw[top,A8];rfl
  ·rw[if_neg n];by_cases o:p.length<s.length
   ·rw[if_pos o];have d:=Ca2 (l:=s) (by rw[h];rfl);cases r:Hn (D3 s) with
    | none=>rw[r] at d;cases d
    | some q=>
     have w:=Dd s;obtain⟨m,e⟩:=Bo1 (D3 s) (by omega) (D3 s).length 0 [] q LF (by omega) (by omega) (by omega) (by simp) (by rw[o9];exact r);refine .inr ⟨C2 q,D3 s,m,λR b c=>?_⟩;rw[top,A6,cond_false,A8,cond_true];refine j5 (e R _) ?_;have v:=B47 q;rw[y8,Jk,GY,GZ,cond_true,J8 (by omega),cond_true,E5 (by rw[j6];simp only[xnB,j2,p6];omega),cond_true];simp only;by_cases j:(Fc q).2=0
     ·rw[j,if_pos rfl];cases y:N9 (xnB++(Fc q).1) with
      | true=>rfl
      | false=>rfl
     ·rw[if_neg j];have:(((Fc q).2:Int)!=(0:Int))=true:=by simpa using j
      rw[this];rfl
   ·rw[if_neg o];refine .inl λR b c=>?_
    rw[top,A6,cond_false,A6,cond_false,E5 (by rw[Dd];exact x),cond_true];cases N9 (D3 s)<;>rfl
theorem Cr4(s:By)(c:A3 s.length=true):∃r H,Ab9 LF s (λa b=>rv (.tup [.s (.str a),.s (.int .i64 b)]) []) (λa b d f e=>rv (.tup [.s (.str a),.s (.int .i64 b)]) [.arr true 3 1 d,.iter f e])=rv r H/\
  r.stab [0,0] H = .tup [.s (.str (T3 s).1),.s (.int .i64 ((T3 s).2:Nat))]:=by
 rcases Au3 s c with h|⟨l,t,m,h⟩
 ·exact⟨_,_,h _ _ _,rfl⟩
 ·exact⟨_,_,h _ _ _,rfl⟩
theorem Bm2{R:Type}{g:Int->Option R}(b:Int)(h:inR b 256=true):B63 LF b g=g (Om (u8n b)):=by
 simp only[inR,o7,decide_eq_true_eq] at h;have j:b=((u8n b).toNat:Int):=by
  unfold u8n;simp;omega
 generalize u8n b=c at *;subst j;have i:=c.toNat_lt;unfold B63;simp only[Vl,Vk,vl,Om];rcases Kj c with⟨d,f,e⟩|⟨d,f,e⟩|⟨d,f,e⟩|⟨d,f,o,e⟩
 ·have a:A1 (wu8 ((c.toNat:Int)-48))=((dig c:Nat):Int):=by
   rw[R2,A5];omega
  rw[Aj];simp (disch:=omega) only[D1,F1,j1,j4,cond_false,cond_true,a]
 ·have a:A1 (A1 (wu8 ((c.toNat:Int)-97))+10)=((dig c:Nat):Int):=by
   rw[R2,F5 (n:=(c.toNat:Int)-97) (by omega) (by omega),A5];omega
  rw[Aj];simp (disch:=omega) only[D1,F1,j1,j4,cond_false,cond_true,a]
 ·have a:A1 (A1 (wu8 ((c.toNat:Int)-65))+10)=((dig c:Nat):Int):=by
   rw[R2,F5 (n:=(c.toNat:Int)-65) (by omega) (by omega),A5];omega
  rw[Aj];simp (disch:=omega) only[D1,F1,j1,j4,cond_false,cond_true,a]
 ·rw[e,if_neg (by decide)];by_cases k:c.toNat<48
  ·simp (disch:=omega) only[D1,F1,j1,j4,cond_false,cond_true]
  ·by_cases l:c.toNat<65
   ·simp (disch:=omega) only[D1,F1,j1,j4,cond_false,cond_true]
   ·by_cases m:c.toNat<97
    ·simp (disch:=omega) only[D1,F1,j1,j4,cond_false,cond_true]
    ·simp (disch:=omega) only[D1,F1,j1,j4,cond_false,cond_true]
theorem Bf5{b:UInt8}(r:By)(h:b≠37):Ce (b::r)=(Ce r).map (b::·):=by
 conv=>lhs;unfold Ce
 grind
theorem Ad8(x y:UInt8)(r:By):Ce (37::x::y::r)=if dig x<16/\dig y<16 then (Ce r).map (w9 (16*dig x+dig y)::·) else none:=by
 conv=>lhs;unfold Ce
 grind
theorem B41(x:UInt8):ltI (Om x) 0 = !(decide (dig x<16)):=by
 unfold Om;by_cases h:dig x<16
 ·simp_all
 ·rw[if_neg h,A8,decide_eq_false h];rfl
theorem VJ:∀(s t:By),Ce s=some t->t.length<=s.length
 | [],t,h=>by simp only[Ce,o0] at h;subst h;exact ab1 _
 | b::r,t,h=>by
  by_cases c:b=37
  ·subst c
   match r,h with
   | [],h=>cases h
   | [x],h=>cases h
   | x::y::d,h=>
    rw[Ad8] at h;split at h
    ·cases a:Ce d with
     | none=>rw[a] at h;cases h
     | some q=>
      rw[a] at h;simp only[aa3,o0] at h;subst h;have:=VJ d q a;simp only[j2];omega
    ·cases h
  ·rw[Bf5 _ c] at h;cases a:Ce r with
   | none=>rw[a] at h;cases h
   | some q=>
    rw[a] at h;simp only[aa3,o0] at h;subst h;have:=VJ r q a;grind
theorem Bm1(s:By)(P:s.length<=1000000000):∀(m i n:Nat) (a:By),i<=s.length->s.length-i<=m->m<n->a.length<=i->
  (∀t,Ce (s.drop i)=some t->∀(R:Type) (c:LL->Option R) (d:LL->Option R),R8 LF n s (i:Int) (a.map F0) c d=d ((a++t).map F0))/\
  (Ce (s.drop i)=none->∃l,∀(R:Type) (c:LL->Option R) (d:LL->Option R),R8 LF n s (i:Int) (a.map F0) c d=c l):=by
 intro m
 induction m with
 | zero=>
  intro i n a J K L I;obtain⟨n,rfl⟩:∃m,n=m+1:=⟨n-1,by omega⟩
  rw[k9 (by omega)];refine⟨λt f R c d=>?_,λh=>(by cases h)⟩;simp only[Ce,o0] at f;subst f;rw[R8];rw[A6,aa2];rfl
 | succ m G=>
  intro i n a J K L I;obtain⟨n,rfl⟩:∃m,n=m+1:=⟨n-1,by omega⟩
  by_cases z:i<s.length
  ·have D:A1 ((i:Int)+1)=((i+1:Nat):Int):=by rw[A5];rfl
   have F:A1 ((i:Int)+2)=((i+2:Nat):Int):=by rw[A5];rfl
   have H:A1 (((i+2:Nat):Int)+1)=((i+3:Nat):Int):=by rw[A5];omega
   have p:(a.map F0).length=a.length:=p5 _;have v:∀b:UInt8,a.map F0++[[SV.int .u8 (b.toNat:Int)]]=(a++[b]).map F0:=λb=>by rw[ad5];rfl
   have C:(((s.getD i 0).toNat:Int)!=37) = !(s.getD i 0==37):=congrArg _ (Y6 _ 37 (by omega));rw[I8 s i z];by_cases g:s.getD i 0=37
   ·by_cases O:i+2<s.length
    ·rw[I8 s (i+1) (by omega),I8 s (i+1+1) (by omega),g,Ad8];obtain⟨A,B⟩:=G (i+3) n (a++[w9 (16*dig (s.getD (i+1) 0)+dig (s.getD (i+2) 0))]) (by omega) (by omega) (by omega) (by simp;omega);have top:∀(R:Type) (c:LL->Option R) (d:LL->Option R),R8 LF (n+1) s (i:Int) (a.map F0) c d=cond (decide (dig (s.getD (i+1) 0)<16)&&decide (dig (s.getD (i+2) 0)<16)) (R8 LF n s ((i+3:Nat):Int) ((a++[w9 (16*dig (s.getD (i+1) 0)+dig (s.getD (i+2) 0))]).map F0) c d) (c (a.map F0)):=by
      intro R c d;rw[R8];rw[A8,J1,G8,C,g,p,F,A8,D,J1,J1,G8,G8];simp only[cond_true,vl,j1,cond_false,beq_self_eq_true,A64,Mw,B41,F3 (show a.length+1<=68719476736 by omega),H];generalize s.getD (i+1) 0=x at *;generalize s.getD (i+2) 0=y at *;by_cases M:dig x<16
      ·by_cases N:dig y<16
       ·have w1:Om x=(dig x:Int):=by unfold Om;rw[if_pos M]
        have S:Om y=(dig y:Int):=by unfold Om;rw[if_pos N]
        have T:A1 ((16:Int)*(dig x:Int))=((16*dig x:Nat):Int):=by rw[A5];omega
        have U:A1 (((16*dig x:Nat):Int)+(dig y:Int))=((16*dig x+dig y:Nat):Int):=by rw[A5];omega
        have V:wu8 ((16*dig x+dig y:Nat):Int)=((w9 (16*dig x+dig y)).toNat:Int):=by
         rw[R2];simp;omega
        grind
       grind
      grind
     by_cases o:dig (s.getD (i+1) 0)<16/\dig (s.getD (i+2) 0)<16
     ·rw[if_pos o];have w:(decide (dig (s.getD (i+1) 0)<16)&&decide (dig (s.getD (i+2) 0)<16))=true:=by rw[decide_eq_true o.1,decide_eq_true o.2];rfl
      refine⟨λt f R c d=>?_,λh=>?_⟩
      ·cases j:Ce (s.drop (i+3)) with
       | none=>rw[show i+1+1+1=i+3 from rfl,j] at f;cases f
       | some q=>
        rw[show i+1+1+1=i+3 from rfl,j] at f;simp only[aa3,o0] at f;subst f;rw[top,w,cond_true,A q j,x8];rfl
      ·cases j:Ce (s.drop (i+3)) with
       | some q=>rw[show i+1+1+1=i+3 from rfl,j] at h;cases h
       | none=>
        obtain⟨l,e⟩:=B j;exact⟨l,λR c d=>by rw[top,w,cond_true,e]⟩
     ·rw[if_neg o];have w:(decide (dig (s.getD (i+1) 0)<16)&&decide (dig (s.getD (i+2) 0)<16))=false:=by grind
      exact⟨λt h=>(by cases h),λ_=>⟨_,λR c d=>by rw[top,w,cond_false]⟩⟩
    ·have k:Ce (s.getD i 0::s.drop (i+1))=none:=by
      rw[g];cases o:s.drop (i+1) with
      | nil=>rfl
      | cons x r=>
       cases r with
       | nil=>rfl
       | cons y Q=>
        exfalso;have:=congrArg c9 o;rw[j7,j2,j2] at this;omega
     rw[k];refine⟨λt h=>(by cases h),λ_=>⟨a.map F0,λR c d=>?_⟩⟩;rw[R8];rw[A8,J1,G8,C,g,F,A6];rfl
   ·rw[Bf5 _ g];obtain⟨A,B⟩:=G (i+1) n (a++[s.getD i 0]) (by omega) (by omega) (by omega) (by simp;omega);have u:(s.getD i 0==37)=false:=by simpa using g
    have top:∀(R:Type) (c:LL->Option R) (d:LL->Option R),R8 LF (n+1) s (i:Int) (a.map F0) c d=R8 LF n s ((i+1:Nat):Int) ((a++[s.getD i 0]).map F0) c d:=by
     intro R c d;rw[R8];rw[A8,J1,G8,C,u,p,F3 (by omega),D,v];rfl
    refine⟨λt f R c d=>?_,λh=>?_⟩
    ·cases j:Ce (s.drop (i+1)) with
     | none=>rw[j] at f;cases f
     | some q=>
      rw[j] at f;simp only[aa3,o0] at f;subst f;rw[top,A q j,x8];rfl
    ·cases j:Ce (s.drop (i+1)) with
     | some q=>rw[j] at h;cases h
     | none=>
      obtain⟨l,e⟩:=B j;exact⟨l,λR c d=>by rw[top,e]⟩
  ·rw[k9 (by omega)];refine⟨λt f R c d=>?_,λh=>(by cases h)⟩;simp only[Ce,o0] at f;subst f;rw[R8];rw[A6,aa2];rfl
theorem Cp5(s:By)(f:A3 s.length=true):∃r H,B62 LF s (λj k i=>rv (.tup [.s (.str j),.s (.bool k)]) [.arr false 5 1 i])=rv r H/\
  r.stab [0,0] H = .tup [.s (.str (Ax8 s)),.s (.bool (Ce s).isSome)]:=by
 have h:=N5 f;have g:=E2;have a:((decide ((0:Int)<=(s.length:Int)))&&(F8 (j8 (s.length:Int))))=true:=by
  rw[j0,F3 (by omega),decide_eq_true (by omega)];rfl
 obtain⟨c,d⟩:=Bm1 s h s.length 0 LF [] (by omega) (by omega) (by omega) (by simp);rw[o9] at c d;unfold Ax8;cases b:Ce s with
 | none=>
  obtain⟨l,e⟩:=d b;refine⟨.tup [.s (.str []),.s (.bool false)],[.arr false 5 1 l],?_,rfl⟩;unfold B62;rw[a,cond_true];exact e _ _ _
 | some t=>
  refine⟨.tup [.s (.str t),.s (.bool true)],[.arr false 5 1 (t.map F0)],?_,rfl⟩;unfold B62;rw[a,cond_true];refine j5 (c t b _ _ _) ?_;rw[y8,Br,Ca];rfl
abbrev CE(i:Int)(j:By)(v4 a b c d e f g h:Int):List PV:=[.s (.int .i64 i),.s (.str j),.s (.int .u32 v4),.s (.int .u16 a),.s (.int .u16 b),.s (.int .u16 c),.s (.int .u16 d),.s (.int .u16 e),.s (.int .u16 f),.s (.int .u16 g),.s (.int .u16 h)]
def Aa8(h:C3):PV:=.agg [.s (.int .i64 (h.kind:Nat)),.s (.str h.name),.s (.int .u32 (h.v4:Nat)),.s (.int .u16 (h.v6.getD 0 0:Nat)),.s (.int .u16 (h.v6.getD 1 0:Nat)),.s (.int .u16 (h.v6.getD 2 0:Nat)),.s (.int .u16 (h.v6.getD 3 0:Nat)),.s (.int .u16 (h.v6.getD 4 0:Nat)),.s (.int .u16 (h.v6.getD 5 0:Nat)),.s (.int .u16 (h.v6.getD 6 0:Nat)),.s (.int .u16 (h.v6.getD 7 0:Nat))]
abbrev Dh8:Int->Int->Int->Int->Int->Int->Int->Int->Int->Int->Int->LL->Option (PV × List Blk × Unit):=λj c d e f g h i r8 k b a=>rv (.tup [.agg (CE j [] 0 c d e f g h i r8),.s (.int .i64 k)]) [.box (CE b [] 0 c d e f g h i r8),.arr false 27 1 a]
abbrev De5:Unit->Option (PV × List Blk × Unit):=λ_=>rv (.tup [.agg (CE 0 [] 0 0 0 0 0 0 0 0 0),.s (.int .i64 14)]) [.box (CE 0 [] 0 0 0 0 0 0 0 0 0)]
theorem Cr5(s:By)(c:UInt8)(h:s≠[]):(s.getLast? = some c)↔s.getD (s.length-1) 0=c:=by have:0<s.length:=x3.2 h;grind
theorem B61(s:By)(g:A3 s.length=true)(e:B69 s=true):∃r H,Bd1 LF s Dh8 De5=rv r H/\r.stab [0,0] H = .tup [Aa8 (Q8 s).1,.s (.int .i64 ((Q8 s).2:Nat))]:=by
 have m:=N5 g;have c:s≠[]:=by rintro rfl;cases e
 have l:0<s.length:=x3.2 c;have i:s.getD 0 0=91:=by
  cases s with
  | nil=>exact absurd rfl c
  | cons b t=>
   simp only[B69,aa9,aa6,beq_iff_eq] at e;grind
 have f:A1 ((s.length:Int)-1)=((s.length-1:Nat):Int):=by rw[A5];omega
 have k:(((s.getD (s.length-1) 0).toNat:Int)==93)=(s.getD (s.length-1) 0==93):=Y6 _ 93 (by omega);have bad:∃r H,De5 ()=rv r H/\r.stab [0,0] H = .tup [Aa8 P5,.s (.int .i64 14)]:=⟨_,_,rfl,rfl⟩
 unfold Bd1 Q8;simp only[vl,f];rw[J1,G8,k,cond_true];by_cases d:s.getD (s.length-1) 0=93
 ·have h:2<=s.length:=by grind
  rw[if_pos ⟨(Cr5 s 93 c).2 d,h⟩,d,beq_self_eq_true,cond_true,show(1:Int)=((1:Nat):Int) from rfl,Q3,cond_true,Fa];have j:((s.take (s.length-1)).drop 1).length<=s.length:=by rw[j7,p9];omega
  rw[U2,cond_true];unfold v6c;cases n:v6B ((s.take (s.length-1)).drop 1) with
  | none=>exact⟨_,_,rfl,rfl⟩
  | some a=>exact⟨_,_,rfl,rfl⟩
 grind
theorem Cd9(l:List By)(i:Nat)(y:By)(h:i<l.length):List.set (C1 l) i (H8 ((C1 l).getD i []) 0 [SV.str y])=C1 (l.set i y):=by
 have e:(C1 l).getD i []=[SV.str (l.getD i [])]:=by
  unfold C1;grind
 rw[e];unfold C1;rw[List.map_set];rfl
theorem Aa9(N:Nat)(hN:N<=1000000001):∀(a:List By) (done:List By) (n:Nat),done.length+a.length=N->a.length<n->(∀x∈a,x.length<=1000000000)->
  ((M5 a).2=0->∀(R:Type) (b:Int->LL->Option R) (c:Nat->LL->Option R),S9 LF n N (N:Int) (done.length:Int) (C1 (done++a)) b c=c N (C1 (done++(M5 a).1)))/\
  ((M5 a).2≠0->∃l,∀(R:Type) (b:Int->LL->Option R) (c:Nat->LL->Option R),S9 LF n N (N:Int) (done.length:Int) (C1 (done++a)) b c=b ((M5 a).2:Nat) l):=by
 intro a
 induction a with
 | nil=>
  intro done n i o p;obtain⟨n,rfl⟩:∃m,n=m+1:=⟨n-1,by simp at o;omega⟩
  simp only[p6] at i;refine⟨λ_ R b c=>?_,λh=>absurd rfl h⟩;rw[S9];rw[A6];rfl
 | cons x r z=>
  intro done n i o p;simp only[j2] at i o;obtain⟨n,rfl⟩:∃m,n=m+1:=⟨n-1,by omega⟩
  have v:A1 ((done.length:Int)+1)=((done.length+1:Nat):Int):=by rw[A5];rfl
  have q:(done++x::r).length=N:=by rw[j6,j2];omega
  have k:(done++x::r).getD done.length []=x:=by grind
  have f:∀y,(done++x::r).set done.length y=(done++[y])++r:=λy=>by grind
  have top:∀(R:Type) (b:Int->LL->Option R) (c:Nat->LL->Option R),S9 LF (n+1) N (N:Int) (done.length:Int) (C1 (done++x::r)) b c=cond (((T3 x).2:Int)!=0) (b ((T3 x).2:Nat) (C1 (done++x::r))) (S9 LF n N (N:Int) ((done.length+1:Nat):Int) (C1 ((done++[(T3 x).1])++r)) b c):=by
   intro R b c;rw[S9];rw[A8,J1,j0,ai6,R1 (by omega),W4,k];simp only[vl,cond_true];rw[E5 (p x (by simp)),C4,decide_eq_true (show done.length<(done++x::r).length by omega),Cd9 _ _ _ (by omega),f,v];rfl
  unfold M5;obtain⟨t,u⟩:=z (done++[(T3 x).1]) n (by simp;omega) (by omega) (λy w=>p y (by simp[w]));have j:(done++[(T3 x).1]).length=done.length+1:=by simp
  rw[j] at t u;by_cases h:(T3 x).2=0
  ·rw[if_pos h];have g:(((T3 x).2:Int)!=0)=false:=by rw[h];rfl
   refine⟨λd R b c=>?_,λd=>?_⟩
   ·rw[top,g,cond_false,t d,x8];rfl
   ·obtain⟨l,e⟩:=u d;exact⟨l,λR b c=>by rw[top,g,cond_false,e]⟩
  ·rw[if_neg h];have g:(((T3 x).2:Int)!=0)=true:=by simpa using h
   exact⟨λd=>absurd d h,λ_=>⟨_,λR b c=>by rw[top,g,cond_true]⟩⟩
theorem Be1(p:By)(m:Nat):∀l:List By,(∀x∈l,x.length<=m)->(ac0 l p).length<=(m+p.length)*l.length
 | [],_=>by simp[ac0]
 | [x],h=>by
  have:=h x (by simp);rw[show ac0 [x] p=x by simp[ac0,Lib.joinTail]];grind
 | x::y::r,h=>by
  have b:=h x (by simp);have c:=Be1 p m (y::r) (λz a=>h z (by simp[a]));rw[HX,j6,j6,j2,Nat.mul_add,Nat.mul_one];omega
theorem RG(l:List By):(C1 l).all isS=true:=by unfold C1;rw[af1,aa5];intro x _;rfl
theorem Ce8(s:By):WX s [46]=P6 s:=by
 unfold WX P6;by_cases h:s.getLast? = some 46
 ·obtain⟨t,rfl⟩:=List.getLast?_eq_some_iff.1 h;grind
 ·rw[if_neg h,if_neg];rw[List.isSuffixOf_iff_suffix];rintro⟨t,a⟩;grind
abbrev De6:Int->By->Int->Int->Int->Int->Int->Int->Int->Int->Int->Int->Int->By->Int->Int->Int->Int->Int->Int->Int->Int->Int->Option (PV × List Blk × Unit):=λn o p q r t u v r8 w k l a m b c d e f g h i j=>rv (.tup [.agg (CE n o p q r t u v r8 w k),.s (.int .i64 l)]) [.box (CE a m b c d e f g h i j)]
abbrev De7:Int->By->Int->Int->By->LL->Option (PV × List Blk × Unit):=λc d e b f a=>rv (.tup [.agg (CE c d 0 0 0 0 0 0 0 0 0),.s (.int .i64 e)]) [.box (CE b f 0 0 0 0 0 0 0 0 0),.arr false 9 1 a]
theorem Bm6(s:By)(n:A3 s.length=true):∃r H,Zj LF s De6 De7=rv r H/\r.stab [0,0] H = .tup [Aa8 (J6 s).1,.s (.int .i64 ((J6 s).2:Nat))]:=by
 have Q:=N5 n;have A:=E2;have bad:∀e:Nat,∃r H,De6 0 [] 0 0 0 0 0 0 0 0 0 (e:Int) 0 [] 0 0 0 0 0 0 0 0 0=rv r H/\r.stab [0,0] H = .tup [Aa8 P5,.s (.int .i64 (e:Nat))]:=λe=>⟨_,_,rfl,rfl⟩
 have a:∀(e:Nat) (l:LL),∃r H,De7 0 [] (e:Int) 0 [] l=rv r H/\r.stab [0,0] H = .tup [Aa8 P5,.s (.int .i64 (e:Nat))]:=λe l=>⟨_,_,rfl,rfl⟩
 by_cases i:1024<s.length
 ·have e:J6 s=(P5,3):=by unfold J6;rw[if_pos i]
  rw[e];unfold Zj;rw[A8,cond_true];exact bad 3
 ·have f:([91]:By).isPrefixOf s=decide (s.head? = some 91):=by
   cases s with
   | nil=>rfl
   | cons b t=>
    grind
  by_cases d:s.head? = some 91
  ·have j:([91]:By).isPrefixOf s=true:=by rw[f,decide_eq_true d]
   have e:J6 s=Q8 s:=by unfold J6 Q8;rw[if_neg i,if_pos d]<;>rfl
   rw[e];unfold Zj;rw[A6,cond_false,n,cond_true,j,cond_true,cond_true,show B69 s=true from j,cond_true];exact⟨_,_,rfl,rfl⟩
  ·have j:([91]:By).isPrefixOf s=false:=by rw[f,decide_eq_false d]
   unfold Zj;rw[A6,cond_false,n,cond_true,j,cond_false,cond_true];cases k:Ce s with
   | none=>
    have e:J6 s=(P5,14):=by unfold J6;rw[if_neg i,if_neg d,k]
    rw[e];exact bad 14
   | some t=>
    have L:t.length<=s.length:=VJ s t k;have M:Ax8 s=t:=by unfold Ax8;rw[k];rfl
    rw[M,U2];simp only[Option.isSome_some,j1,cond_false,cond_true,vl];rw[Ce8];have K:(P6 t).length<=t.length:=by unfold P6;split<;>simp
    have B:J6 s=if L2 (P6 t) then (match pnB (P6 t) with
      | some v=>(⟨2,[],v,z8⟩,0)
      | none=>(P5,14))
     else if (M5 (pcs 46 (P6 t))).2=0 then (
      let name:=ac0 (M5 (pcs 46 (P6 t))).1 [46]
      if 253<name.length then (P5,3) else if L2 name then (P5,14) else (⟨1,name,0,z8⟩,0))
     else (P5,(M5 (pcs 46 (P6 t))).2):=by
     unfold J6;rw[if_neg i,if_neg d,k];rfl
    rw[B];generalize P6 t=u at *;rw[U2,cond_true];cases O:L2 u with
    | true=>
     rw[if_pos rfl,cond_true,cond_true];cases P:pnB u with
     | none=>exact bad 14
     | some v=>exact⟨_,_,rfl,rfl⟩
    | false=>
     rw[if_neg (by simp),cond_false,cond_true,show((1:Nat)==1)=true from rfl,cond_true];have C:([46]:By).getD 0 0=46:=rfl;rw[C];have J:=Iu 46 u;have D:=Gz 46 u;obtain⟨w,y⟩:=Aa9 (pcs 46 u).length (by omega) (pcs 46 u) [] LF (by simp) (by omega) (λx p=>by have:=(Fj p).2;omega);rw[y8,p6] at w y;by_cases g:(M5 (pcs 46 u)).2=0
     ·rw[if_pos g];obtain⟨z,N⟩:=Ym _ g;have G:=Be1 [46] 63 (M5 (pcs 46 u)).1 (λx p=>(OG (z x p)).le);have F:∀{R:Type} (m:Int->LL->Option R) (h:Nat->LL->Option R),S9 LF LF (pcs 46 u).length ((pcs 46 u).length:Int) 0 (C1 (pcs 46 u)) m h=h (pcs 46 u).length (C1 (M5 (pcs 46 u)).1):=λm h=>w g _ m h
      rw[F];have hA:(M5 (pcs 46 u)).1.length<=1025:=by omega
      have o:ae2 (pcs 46 u).length (ab9 0 (C1 (M5 (pcs 46 u)).1))=C1 (M5 (pcs 46 u)).1:=by
       rw[o9,List.take_of_length_le (by rw[C4];omega)]
      have q:(63+([46]:By).length)*(M5 (pcs 46 u)).1.length<=64*1025:=ae1 (by simp) hA;rw[o,RG,ZR,C4,U2,U2];simp only[cond_true];generalize ac0 (M5 (pcs 46 u)).1 [46]=name at *;by_cases c:253<name.length
      ·rw[if_pos c,A8,cond_true];exact a 3 _
      ·rw[if_neg c,A6,cond_false];cases I:L2 name with
       | true=>exact a 14 _
       | false=>exact⟨_,_,rfl,rfl⟩
     ·rw[if_neg g];obtain⟨l,e⟩:=y g;simp_all
theorem Ab2{R:Type}{k0 k1:Unit->Option R}:∀l:List By,(∀x∈l,x.length<=1000000000)->HP LF l k0 k1=if l.all N9 then k0 () else k1 ()
 | [],_=>rfl
 | x::r,h=>by
  rw[Ab1];unfold CX;rw[E5 (h x (by simp)),cond_true,aa0];have b:=Ab2 (k0:=k0) (k1:=k1) r (λy a=>h y (by simp[a]));grind
theorem C70(s:By)(a:A3 s.length=true):∃r H,hvn LF s (λ_=>rv (.s (.bool false)) [.box [.s (.bool false)]]) (λd b=>rv (.s (.bool d)) [.box [.s (.bool b)],.box [.bad],.box [.bad],.box [.bad]])=rv r H/\r.stab [] H = .s (.bool (Af s)):=by
 have h:=N5 a;unfold hvn TZ Af;by_cases e:253<s.length
 ·rw[A8,show o8 s.length 253=false by rw[x7,ne_eq,v7];omega];exact⟨_,_,rfl,rfl⟩
 ·rw[A6,cond_false,a,cond_true,show o8 s.length 253=true by rw[v7];omega];cases f:L2 s with
  | true=>exact⟨_,_,rfl,rfl⟩
  | false=>
   rw[cond_false,show((1:Nat)==1&&(0:Int)==(0:Int))=true from rfl,show([46]:By).getD 0 0=46 from rfl,aa6,cond_true,Ab2 _ (λx c=>by have:=(Fj c).2;omega)];cases g:(pcs 46 s).all N9 with
   | true=>exact⟨_,_,rfl,rfl⟩
   | false=>exact⟨_,_,rfl,rfl⟩
theorem Df3(a c d f g h i j:Nat):(n8 (a:Int) c d f g h i j==z8)=(((a:Int)==0)&&(((c:Int)==0)&&(((d:Int)==0)&&(((f:Int)==0)&&(((g:Int)==0)&&(((h:Int)==0)&&(((i:Int)==0)&&(((j:Int)==0)&&true)))))))):=by
 have e:n8 (a:Int) c d f g h i j=[a,c,d,f,g,h,i,j]:=rfl;have q:∀b:Nat,((b:Int)==0)=(b==0):=λb=>by grind
 rw[e];simp only[q,z8];rfl
theorem Bd5(a:Int)(b:By)(v4 l m n o p q t u:Int)(D:A3 b.length=true)(F:ltN v4 4294967296=true)(G:ok8 l m n o p q t u=true) :
  ∃r H,Nn LF a b v4 l m n o p q t u (λV M W N O P Q R n8 S y z x=>rv (.s (.bool V)) [.box (CE M W N O P Q R n8 S y z),.arr false 27 1 x])=rv r H/\
   r.stab [] H = .s (.bool (N2 (mkH a b v4 (n8 l m n o p q t u)))):=by
 obtain⟨c,d,e,f,g,i,j,k,rfl,rfl,rfl,rfl,rfl,rfl,rfl,rfl,X⟩:=Qs G;obtain⟨v0,v1⟩:=D9.1 F;obtain⟨v,rfl⟩:=w8 v0;have U:((v:Int)==0)=(v==0):=by
  rw[y7,beq_iff_eq,beq_iff_eq];omega
 have T:(b==([]:By))=b.isEmpty:=by cases b<;>rfl
 have J:(mkH a b (v:Int) (n8 (c:Int) d e f g i j k)).kind=if ltN a 4 then a.toNat else 0:=rfl
 have K:(mkH a b (v:Int) (n8 (c:Int) d e f g i j k)).name=b:=rfl;have L:(mkH a b (v:Int) (n8 (c:Int) d e f g i j k)).v4=v:=j0 v;have I:(mkH a b (v:Int) (n8 (c:Int) d e f g i j k)).v6=n8 (c:Int) d e f g i j k:=rfl;unfold Nn N2;rw[J,K,L,I,Df3,U,T];by_cases A:a=1
 ·subst A;rw[show((1:Int)==1)=true from rfl,cond_true,D,cond_true,if_pos (by decide)];cases Af b with
  | false=>exact⟨_,_,rfl,rfl⟩
  | true=>
   cases (v==0) with
   | false=>exact⟨_,_,rfl,rfl⟩
   | true=>exact⟨_,_,rfl,rfl⟩
 ·rw[show(a==(1:Int))=false by simpa using A,cond_false];by_cases B:a=2
  ·subst B;rw[show((2:Int)==2)=true from rfl,cond_true,if_neg (by decide),if_pos (by decide)];cases b.isEmpty with
   | false=>exact⟨_,_,rfl,rfl⟩
   | true=>exact⟨_,_,rfl,rfl⟩
  ·rw[show(a==(2:Int))=false by simpa using B,cond_false];by_cases C:a=3
   ·subst C;rw[show((3:Int)==3)=true from rfl,cond_true,if_neg (by decide),if_neg (by decide),if_pos (by decide)];cases b.isEmpty with
    | false=>exact⟨_,_,rfl,rfl⟩
    | true=>exact⟨_,_,rfl,rfl⟩
   ·rw[show(a==(3:Int))=false by simpa using C,cond_false];have w:(if ltN a 4 then a.toNat else 0)=0:=by
     split
     ·rename_i h;have:=D9.1 h;omega
     ·rfl
    rw[w];exact⟨_,_,rfl,rfl⟩
theorem C38{a b c d e f g i:Int}(h:ok8 a b c d e f g i=true):(n8 a b c d e f g i).length=8/\∀x∈n8 a b c d e f g i,x<65536:=by obtain⟨k,l,m,n,o,p,q,r,rfl,rfl,rfl,rfl,rfl,rfl,rfl,rfl,t⟩:=Qs h;refine⟨rfl,λx j=>?_⟩;simp only[n8,j0,ah4,List.not_mem_nil,or_false] at j;omega
theorem Bd3(a:Int)(j:By)(v4 b c d e f g h i:Int)(q:A3 j.length=true)(t:ltN v4 4294967296=true)(n:ok8 b c d e f g h i=true) :
  ∃r H,Cq0 LF a j v4 b c d e f g h i (λI k J y z A B C n8 D l m=>rv (.s (.str I)) [.box (CE k J y z A B C n8 D l m)])=rv r H/\
   r.stab [] H = .s (.str (Ai (mkH a j v4 (n8 b c d e f g h i)))):=by
 obtain⟨F,G⟩:=C38 n;have v:=Cg4 _ F G;unfold Cq0 Ai;rw[q,t,n];simp only[cond_true,vl];have u:(mkH a j v4 (n8 b c d e f g h i)).kind=if ltN a 4 then a.toNat else 0:=rfl
 cases w:N2 (mkH a j v4 (n8 b c d e f g h i)) with
 | false=>exact⟨_,_,rfl,rfl⟩
 | true=>
  rw[if_pos rfl,j1,cond_false,u];by_cases o:a=1
  ·subst o;rw[if_pos (by decide)];exact⟨_,_,rfl,rfl⟩
  ·rw[show(a==(1:Int))=false by simpa using o,cond_false];have k:¬(if ltN a 4 then a.toNat else 0)=1:=by grind
   rw[if_neg k];by_cases p:a=2
   ·subst p;rw[if_pos (by decide)];exact⟨_,_,rfl,rfl⟩
   ·rw[show(a==(2:Int))=false by simpa using p,cond_false];have x:¬(if ltN a 4 then a.toNat else 0)=2:=by grind
    rw[if_neg x,J8 (by omega),cond_true,J8 (by rw[j6,ad7];omega),cond_true];exact⟨_,_,rfl,rfl⟩
theorem Bm0{R:Type}{b:Bool->Option R}(p s:By)(a:A3 p.length=true)(c:A3 s.length=true):Cp2 LF p s b=b (Ur p s):=by have d:=N5 a;unfold Cp2 Ur;rw[a,c,J8 (by omega)];grind
theorem Aw0{R:Type}{a:By->By->Int->Option R}(t p:By)(n:Int):B79 LF t p n a=a t p n:=rfl
theorem Bv0{R:Type}{a:By->By->Option R}(t p:By):C85 LF t p a=a t p:=rfl
theorem A53{l R:Type}(g:Yh l)(c:UInt8):∀(m:Nat) (t:By) (n:Nat) (s i:l),t.length<=m->t.length<=1000000000->m<n->Q7 g ((pcs c t).map λx=>([.s (.str x)]:List PV)) s=some i->
  ∃u , (∃w:l,∃b:Bool,g [.s (.str u)] w=some (b,i)/\∀(a d:By->By->Int->l->Option R),T0 g LF n [c] t 0 s a d=a [c] u 0 w)\/(∀(a d:By->By->Int->l->Option R),T0 g LF n [c] t 0 s a d=d [c] u 0 i):=by
 intro m
 induction m with
 | zero=>
  intro t n s i z o F h;obtain rfl:=o5.1 (Nat.le_zero.1 z);obtain⟨n,rfl⟩:∃m,n=m+1:=⟨n-1,by omega⟩
  rw[Wd (by simp)] at h;simp only[x6,af2,Q7] at h;refine⟨[],.inl ⟨s,?_⟩⟩;have e:∀(a d:By->By->Int->l->Option R),T0 g LF (n+1) [c] [] 0 s a d=a [c] [] 0 s:=λa d=>by
   rw[T0];rw[Tc (by simp)];rfl
  cases k:g [.s (.str [])] s with
  | none=>rw[k] at h;cases h
  | some q=>
   obtain⟨b,j⟩:=q;rw[k] at h;have:j=i:=by cases b<;>simpa using h
   subst this;exact⟨b,rfl,e⟩
 | succ m G=>
  intro t n s i z o F h;obtain⟨n,rfl⟩:∃m,n=m+1:=⟨n-1,by omega⟩
  rcases Bo c t with v|⟨p,r,rfl,v⟩
  ·rw[Wd v] at h;simp only[x6,af2,Q7] at h;refine⟨t,.inl ⟨s,?_⟩⟩;have e:∀(a d:By->By->Int->l->Option R),T0 g LF (n+1) [c] t 0 s a d=a [c] t 0 s:=λa d=>by
    rw[T0];rw[Tc v,E5 o];rfl
   cases k:g [.s (.str t)] s with
   | none=>rw[k] at h;cases h
   | some q=>
    obtain⟨b,j⟩:=q;rw[k] at h;have:j=i:=by cases b<;>simpa using h
    subst this;exact⟨b,rfl,e⟩
  ·rw[VI v] at h;simp only[x6,Q7] at h;have y:(p++c::r).length=p.length+r.length+1:=by rw[j6,j2];omega
   have A:A1 ((p.length:Int)+0)=((p.length:Nat):Int):=by rw[A5];omega
   have B:A1 ((p.length:Int)+(([c]:By).length:Int))=((p.length+1:Nat):Int):=by
    rw[F5 (by simp;omega) (by simp;omega)];simp
   have C:cut (p++c::r) 0 (p.length:Int)=p:=by rw[X6,j0,List.take_left]
   have D:cut (p++c::r) ((p.length+1:Nat):Int) ((p++c::r).length:Int)=r:=by
    rw[Z2,j0,show p++c::r=(p++[c])++r by simp,List.drop_left' (by simp)]
   have top:∀(a d:By->By->Int->l->Option R),T0 g LF (n+1) [c] (p++c::r) 0 s a d=ydK (g [.s (.str p)] s) λb j=>cond (not b) (d [c] (p++c::r) 0 j) (T0 g LF n [c] r 0 j a d):=λa d=>by
    rw[T0];rw[Zl v,E5 o,cond_true,A6,cond_false];simp only[vl,A,B,C,D];rw[Q3,cond_true,Q3];rfl
   cases k:g [.s (.str p)] s with
   | none=>rw[k] at h;cases h
   | some q=>
    obtain⟨b,j⟩:=q;rw[k] at h top;cases b with
    | false=>
     have:j=i:=by simpa using h
     subst this;exact⟨p++c::r,.inr λa d=>by rw[top];rfl⟩
    | true=>
     simp only at h;obtain⟨u,⟨w,b,e,f⟩|f⟩:=G r n j i (by omega) (by omega) (by omega) h
     ·exact⟨u,.inl ⟨w,b,e,λa d=>by rw[top];exact f a d⟩⟩
     ·exact⟨u,.inr λa d=>by rw[top];exact f a d⟩
theorem A54{j R:Type}(i:Yh j)(p t:By)(n:Int)(s g:j)(h:(A3 t.length&&(p.length==1&&n==0))=true)(o:Q7 i ((pcs (p.getD 0 0) t).map λx=>([.s (.str x)]:List PV)) s=some g) :
  ∃d,∀(a:By->By->Int->j->Option R),Ai2 i LF p t n s a=a p d n g:=by
 have m:=E2;simp only[o7,beq_iff_eq] at h;obtain⟨k,l,rfl⟩:=h;obtain⟨c,rfl⟩:=List.length_eq_one_iff.1 l;have q:=N5 k;obtain⟨d,⟨r,b,e,f⟩|f⟩:=A53 (R:=R) i c t.length t LF s g (ab1 _) q (by omega) o
 ·refine⟨d,λa=>?_⟩;unfold Ai2;rw[show(((([c]:By).length:Nat):Int)==0)=false from rfl,cond_false];refine j5 (f _ _) ?_;rw[e];rfl
 ·refine⟨d,λa=>?_⟩;unfold Ai2;rw[show(((([c]:By).length:Nat):Int)==0)=false from rfl,cond_false];exact f _ _
set_option maxRecDepth 100000
theorem Aw1{R:Type}{b:By->Option R}(s p:By)(a:A3 s.length=true):Be6 LF s p b=b (Hb s p):=by
 have:=N5 a;unfold Be6 Hb;rw[a];cases h:p.isPrefixOf s with
 | false=>simp
 | true=>
  have:p.length<=s.length:=by rw[Eo] at h;simp at h;exact h.1
  simp (disch:=omega)
theorem Bv7{R:Type}{a:By->Option R}(s p:By)(b:A3 s.length=true):Cx8 LF s p a=a (Hb s p):=by unfold Cx8;rw[b];rfl
theorem A69{R:Type}{e:Int->Option R}(s:By):Bh3 LF s e=e (He s):=by unfold Bh3 He LJ bWs Nx YL;generalize (s==([104,116,116,112]:List UInt8))=a;generalize (s==([119,115]:List UInt8))=b;generalize (s==([104,116,116,112,115]:List UInt8))=c;generalize (s==([119,115,115]:List UInt8))=d;cases a<;>cases b<;>cases c<;>cases d<;>rfl
theorem A74{R:Type}{a:Bool->Option R}(s:By):Bh4 LF s a=a (G3 s):=by unfold Bh4;rw[Ac,KB]
def UT:By:=[48,49,50,51,52,53,54,55,56,57,43,45,46]
theorem Md(c:UInt8):∀l:By,ltI (z7 l c) 0 = !l.contains c
 | []=>rfl
 | b::r=>by
  have f:=Md c r;have g:=Lib.indexByte_ge r c;unfold z7;by_cases h:b=c
  ·subst h;simp[F1]
  ·have e:(b==c)=false:=by simpa using h
   have d:(c==b)=false:=by simpa using Ne.symm h
   rw[List.contains_cons,d,aa7,<-f,e];simp only[ab0,if_false];by_cases a:z7 r c=-1
   ·rw[a];rfl
   ·have:(z7 r c==-1)=false:=by simpa using a
    rw[this,if_neg (by simp),A6,A6]
theorem Ag7:∀b:UInt8,Ar b=(V9 b||UT.contains b):=by
 have:∀n:Fin 256,Ar (w9 n.val)=(V9 (w9 n.val)||UT.contains (w9 n.val)):=by decide +kernel
 intro b;have h:=this ⟨b.toNat,b.toNat_lt⟩;simpa using h
theorem Aj3{R:Type}{c:Unit->Option R}{d:By->Int->Int->Bool->Option R}(s:By)(i:Nat)(b:UInt8)(l:Bool)(n:Int):Fr s (i:Int) (b.toNat:Int) l n c d=if l then d s n i false else if i=0 then c () else if UT.contains b then d s n i false else c ():=by
 unfold Fr;cases l with
 | true=>rfl
 | false=>
  rw[j4,cond_true,if_neg (by simp)];by_cases a:i=0
  ·subst a;rfl
  ·have f:=b.toNat_lt;rw[show((i:Int)==0)=false by simpa using a,cond_false,J1,cond_true,if_neg a];simp only[vl];rw[Mw];have e:=Md b UT;rw[show([48,49,50,51,52,53,54,55,56,57,43,45,46]:List UInt8)=UT from rfl,e];cases UT.contains b<;>rfl
theorem JR{R:Type}{a:Unit->Option R}{c:By->Option R}(s:By)(r:s.length<=1000000000)(n i:Nat)(p:i<s.length) :
  N6 LF (n+1) s (s.length:Int) (i:Int) a c=if V9 (s.getD i 0) then N6 LF n s s.length ((i+1:Nat):Int) a c else if i=0 then a () else if UT.contains (s.getD i 0) then N6 LF n s s.length ((i+1:Nat):Int) a c else a ():=by
 have k:A1 ((i:Int)+1)=((i+1:Nat):Int):=by rw[A5];rfl
 rw[N6,A8,J1,G8];simp only[cond_true];generalize s.getD i 0=b;have go:∀l,Fr s (i:Int) (b.toNat:Int) l (s.length:Int) (λ_=>a ()) (λj g h m=>N6 LF n j g (A1 (h+(1:Int))) a c)=if l then N6 LF n s s.length ((i+1:Nat):Int) a c else if i=0 then a () else if UT.contains b then N6 LF n s s.length ((i+1:Nat):Int) a c else a ():=λl=>by
  rw[Aj3,k]
 have q:V9 b=((o8 97 b.toNat&&o8 b.toNat 122)||(o8 65 b.toNat&&o8 b.toNat 90)):=rfl;by_cases f:97<=b.toNat
 ·rw[A6,j4,cond_true];by_cases d:b.toNat<=122
  ·rw[A6,j4,cond_true,if_pos (Ay.2 (.inl ⟨f,d⟩))];unfold DL;simp only[k]
  ·rw[A8,j1,cond_false,A6,j4,cond_true,A8,j1];have e:V9 b=false:=by
    rw[<-af4,Ay];omega
   rw[e];exact go false
 ·rw[A8,j1,cond_false];by_cases o:65<=b.toNat
  ·rw[A6,j4,cond_true];have e:V9 b = !ltI 90 (b.toNat:Int):=by
    rw[y7,Ay,ae6,Vr];omega
   rw[e];exact go _
  ·rw[A8,j1,cond_false];have e:V9 b=false:=by
    rw[<-af4,Ay];omega
   rw[e];exact go false
theorem Bw7{R:Type}{k0:Unit->Option R}{k1:By->Option R}(s:By)(d:s.length<=1000000000):∀(r i n:Nat),i+r=s.length->r<n->0<i->
  N6 LF n s (s.length:Int) (i:Int) k0 k1=if (s.drop i).all Ar then k1 s else k0 ():=by
 intro r
 induction r with
 | zero=>
  intro i n b c a;obtain⟨n,rfl⟩:∃m,n=m+1:=⟨n-1,by omega⟩
  rw[N6];rw[A6,k9 (by omega)];rfl
 | succ r e=>
  intro i n b c a;obtain⟨n,rfl⟩:∃m,n=m+1:=⟨n-1,by omega⟩
  rw[JR s d n i (by omega),e (i+1) n (by omega) (by omega) (by omega),I8 s i (by omega),aa0,Ag7,if_neg (by omega:¬i=0)];cases V9 (s.getD i 0) with
  | true=>simp
  | false=>
   cases UT.contains (s.getD i 0)<;>simp
theorem Bw8{R:Type}{k0:Bool->Option R}(s:By)(f:A3 s.length=true):Cf6 LF s k0=k0 (Dq s):=by
 have c:=N5 f;have g:=E2;unfold Cf6;obtain⟨n,d⟩:∃m,LF=m+1:=⟨LF-1,by omega⟩
 cases s with
 | nil=>
  rw[show @N6 R LF LF = @N6 R LF (n+1) by rw[<-d]];rfl
 | cons b t=>
  rw[show @N6 R LF LF = @N6 R LF (n+1) by rw[<-d]];refine j5 (JR (b::t) c n 0 (by simp)) ?_;have e:=Bw7 (k0:=λ_=>k0 false) (k1:=λa=>k0 (not (a==([]:List UInt8)))) (b::t) c t.length 1 n (by simp;omega) (by simp at c;omega) (by omega);rw[ab6];simp only[ai6,if_true];rw[show(((0+1:Nat):Int))=((1:Nat):Int) from rfl,e];rw[show(b::t).drop 1=t from rfl,show Dq (b::t)=(V9 b&&t.all Ar) from rfl];cases V9 b with
  | false=>rfl
  | true=>cases t.all Ar<;>rfl
theorem UV:∀(s:By) (n:Int),CJ.go n s=(Vz n s).getD 0
 | [],n=>rfl
 | b::r,n=>by
  unfold CJ.go Vz;split
  ·exact UV r _
  ·rfl
theorem Bv9{R:Type}{a:Unit->Option R}{c:Int->Option R}(s:By)(y:s.length<=1000000000):∀(r i n:Nat) (v:Int),i+r=s.length->r<n->-1<=v->v<=65536->
  Mx LF n s v (s.length:Int) (i:Int) a c=match Vz v (s.drop i) with|some m=>c m|none=>a ():=by
 intro r
 induction r with
 | zero=>
  intro i n v p q j k;obtain⟨n,rfl⟩:∃m,n=m+1:=⟨n-1,by omega⟩
  rw[Mx];rw[A6,k9 (by omega)];rfl
 | succ r t=>
  intro i n v p q j k;obtain⟨n,rfl⟩:∃m,n=m+1:=⟨n-1,by omega⟩
  have d:A1 ((i:Int)+1)=((i+1:Nat):Int):=by rw[A5];rfl
  rw[Mx];rw[A8,J1,G8,I8 s i (by omega),d];have x:=(s.getD i 0).toNat_lt;generalize s.getD i 0=b at *;unfold Vz;simp only[cond_true,vl];by_cases l:b.toNat<48
  ·rw[A8,cond_true,J4]
  ·rw[A6,cond_false];by_cases o:57<b.toNat
   ·rw[A8,cond_true,J4]
   ·rw[A6,cond_false,if_pos (show 48<=b.toNat/\b.toNat<=57 by omega)];have u:(if (0:Int) > v then (0:Int) else v)=max v 0:=by omega
    have e:A1 (10*max v 0)=10*max v 0:=A5;have f:wu8 ((b.toNat:Int)-48)=((b.toNat-48:Nat):Int):=by rw[R2];omega
    have g:A1 ((b.toNat-48:Nat):Int)=((b.toNat-48:Nat):Int):=A5;have h:A1 (10*max v 0+((b.toNat-48:Nat):Int))=10*max v 0+((b.toNat-48:Nat):Int):=A5;rw[u,e,f,g,h];have w:(if (65536:Int)<10*max v 0+((b.toNat-48:Nat):Int) then (65536:Int) else 10*max v 0+((b.toNat-48:Nat):Int))=min (10*max v 0+((b.toNat-48:Nat):Int)) 65536:=by omega
    rw[w];exact t (i+1) n _ (by omega) (by omega) (by omega) (by omega)
theorem Bw0{R:Type}{a:Int->Bool->Option R}(s:By)(b:A3 s.length=true):Cy1 LF s a=a (CJ s) (Wa (-1) s).isSome:=by
 have d:=N5 b;have c:=E2;unfold Cy1;refine j5 (Bv9 s d s.length 0 LF (-1) (by omega) (by omega) (by omega) (by omega)) ?_;rw[o9,UU,show CJ s=CJ.go (-1) s from rfl,UV];cases Vz (-1) s with
 | none=>rfl
 | some m=>
  simp only[af7,af6];rw[Ac];by_cases h:m<65536
  ·rw[decide_eq_true h,if_pos h];rfl
  ·rw[decide_eq_false h,if_neg h];rfl
theorem B90{s:By}{p:Int}(h:Wa (-1) s=some p):CJ s=p:=by
 rw[UU] at h;rw[show CJ s=CJ.go (-1) s from rfl,UV];cases a:Vz (-1) s with
 | none=>rw[a] at h;cases h
 | some m=>
  rw[a] at h;simp only[af6] at h;split at h
  ·exact ag3 h
  ·cases h
def hpT(name tail b user a:By):W8 × Nat:=
 if (J6 name).2≠0 then (Cc,(J6 name).2)
 else match Wa (-1) (tail.drop 1) with
  | none=>(Cc,16)
  | some p=>(⟨b,user,(J6 name).1,if p=He b then -1 else p,a⟩,0)
def hpC(name tail b user a:By):W8 × Nat:=if tail≠[]/\tail.head?≠some 58 then (Cc,4) else hpT name tail b user a
theorem TW(c user b a:By):Q2 c user b a=match Pa a with|none=>(Cc,4)|some (name,tail)=>hpC name tail c user b:=by
 unfold Q2;cases Pa a with
 | none=>rfl
 | some q=>
  obtain⟨name,tail⟩:=q;rfl
theorem Sz{t:By}(h:t=[]\/t.head? = some 58):Hb t [58]=t.drop 1:=by
 rcases h with rfl|h
 ·rfl
 ·cases t with
  | nil=>cases h
  | cons b r=>
   simp only[List.head?_cons,o0] at h;subst h;simp[Hb]
theorem Xh(name tail:By)(f:name.length<=1000000000)(j:tail.length<=1000000000)(h:tail=[]\/tail.head? = some 58)(d u:By)(v:Int)(y:By)(w n8 x k l m n o r:Int)(c:By) :
  ∃B H,∀(R:Type) (a:Int->Blk->By->By->Int->By->Int->Int->Int->Int->Int->Int->Int->Int->Int->Int->By->List Blk->Option R),V6 name tail d u v y w n8 x k l m n o r (-1) c a=(λq=>a (uE q) B (uS q) (uU q) (uK q) (uN q) (uV q) (uA q 0) (uA q 1) (uA q 2) (uA q 3) (uA q 4) (uA q 5) (uA q 6) (uA q 7) (uP q) (uR q) H) (hpT name tail d u c):=by
 have i:(tail.drop 1).length<=1000000000:=by rw[j7];omega
 by_cases b:(J6 name).2=0
 ·cases g:Wa (-1) (tail.drop 1) with
  | none=>
   apply o6;apply o6;intro R a;unfold V6 hpT;rw[E5 f,cond_true,Sz h,E5 j];simp only[vl,cond_true];rw[b,E5 i,g];rfl
  | some p=>
   have t:=B90 g;by_cases e:p=He d
   ·apply o6;apply o6;intro R a;unfold V6 hpT;rw[E5 f,cond_true,Sz h,E5 j];simp only[vl,cond_true];rw[b,E5 i,g,t,show(p !=He d)=false by simpa using e];simp only[e,if_true];rfl
   ·apply o6;apply o6;intro R a;unfold V6 hpT;rw[E5 f,cond_true,Sz h,E5 j];simp only[vl,cond_true];rw[b,E5 i,g,t,show(p !=He d)=true by simpa using e];simp only[e,if_false];rfl
 ·apply o6;apply o6;intro R a;unfold V6 hpT;rw[E5 f,cond_true];simp only[vl];rw[show(((J6 name).2:Int)!=0)=true by simpa using b,cond_true,if_pos b];rfl
theorem My(name tail:By)(w:name.length<=1000000000)(x:tail.length<=1000000000)(l m:By)(p:Int)(v:By)(t n8 u d f g i j k:Int)(a:By) :
  ∃B H,∀(R:Type) (c:Int->Blk->By->By->Int->By->Int->Int->Int->Int->Int->Int->Int->Int->Int->Int->By->List Blk->Option R),P8 name tail l m p v t n8 u d f g i j k (-1) a c=(λq=>c (uE q) B (uS q) (uU q) (uK q) (uN q) (uV q) (uA q 0) (uA q 1) (uA q 2) (uA q 3) (uA q 4) (uA q 5) (uA q 6) (uA q 7) (uP q) (uR q) H) (hpC name tail l m a):=by
 cases tail with
 | nil=>
  obtain⟨B,H,e⟩:=Xh name [] w x (.inl rfl) l m p v t n8 u d f g i j k a;refine⟨B,H,λR c=>?_⟩;unfold P8 hpC;exact e R c
 | cons b r=>
  by_cases n:b=58
  ·subst n;obtain⟨B,H,e⟩:=Xh name (58::r) w x (.inr rfl) l m p v t n8 u d f g i j k a;refine⟨B,H,λR c=>?_⟩;unfold P8 hpC;rw[L1 (by omega) (by simp),if_neg (by simp)];exact e R c
  ·apply o6;apply o6;intro R c;unfold P8 hpC;have o:(((b.toNat:Int))!=(58:Int))=true:=by
    rw[bne_iff_ne];intro h;have y:b.toNat=58:=by omega
    exact n (UInt8.toNat_inj.1 y)
   rw[L1 (by omega) (by simp),if_pos (by simpa using n),Kb,ab6,o];rfl
theorem Bd7{c:UInt8}{s:By}(h:Tb c s=none):z7 s c=-1:=by rw[Ju,h]
theorem Bd8{c:UInt8}{s:By}{k:Nat}(h:Tb c s=some k):z7 s c=(k:Int)/\k<s.length:=by obtain⟨p,r,rfl,_,rfl⟩:=MM h;exact⟨by rw[Ju,h],by simp⟩
theorem C81(c:UInt8)(s:By):([c]:By).isPrefixOf s=(s.head? == some c):=by
 cases s with
 | nil=>rfl
 | cons b r=>
  grind
abbrev KU(R:Type):=By->By->Int->By->Int->Int->Int->Int->Int->Int->Int->Int->Int->Int->By->Int->List Blk->Option R
abbrev LS{R:Type}(a:KU R)(q:W8 × Nat)(H:List Blk):Option R:=a (uS q) (uU q) (uK q) (uN q) (uV q) (uA q 0) (uA q 1) (uA q 2) (uA q 3) (uA q 4) (uA q 5) (uA q 6) (uA q 7) (uP q) (uR q) (uE q) H
theorem A67(u:By)(J:Int)(O:By)(v4 y z A C D F G I:Int)(t a:By)(h2:A3 a.length=true) :
  ∃H,∀(R:Type) (o:KU R),Tq LF u [] J O v4 y z A C D F G I (-1) t a o=LS o (I3 u t a) H:=by
 have ha:=N5 h2;have ge:=HZ 64 a;have key:∀(x b:By),b.length<=1000000000->∃H,∀(R:Type) (o:KU R),(cond (A3 (c9 b)) (cond (aa9 (([91]:List UInt8)) b)
   (cond (A3 (c9 b))
    (vl (z7 b (u8n (93:Int))) λc=>
    cond (ltI c (0:Int))
     (o ([]:List UInt8) ([]:List UInt8) 0 ([]:List UInt8) 0 0 0 0 0 0 0 0 0 0 ([]:List UInt8) 4 [(bU u x J O v4 y z A C D F G I (-1) t),bU0])
     (cond (K5 (0:Int) (A1 (c+(1:Int))) (c9 b))
      (cond (K5 (A1 (c+(1:Int))) (↑(c9 b):Int) (c9 b))
       (P8 (cut b (0:Int) (A1 (c+(1:Int)))) (cut b (A1 (c+(1:Int))) (↑(c9 b):Int)) u x J O v4 y z A C D F G I (-1) t (λn0 T P Q K S L M n8 N f g i j l m n q=>o P Q K S L M n8 N f g i j l m n n0 (T::((bU P Q K S L M n8 N f g i j l m n)::q))))
       (none))
      (none)))
    (none))
   (cond (A3 (c9 b))
    (vl (z7 b (u8n (58:Int))) λd=>
    cond (not (ltI d (0:Int)))
     (cond (K5 (0:Int) d (c9 b))
      (cond (K5 d (↑(c9 b):Int) (c9 b))
       (P8 (cut b (0:Int) d) (cut b d (↑(c9 b):Int)) u x J O v4 y z A C D F G I (-1) t (λn0 T P Q K S L M n8 N f g i j l m n q=>o P Q K S L M n8 N f g i j l m n n0 (T::((bU P Q K S L M n8 N f g i j l m n)::q))))
      (none))
     (none))
     (P8 b ([]:List UInt8) u x J O v4 y z A C D F G I (-1) t (λn0 T P Q K S L M n8 N f g i j l m n q=>o P Q K S L M n8 N f g i j l m n n0 (T::((bU P Q K S L M n8 N f g i j l m n)::q)))))
    (none))) none)=LS o (Q2 u x t b) H:=by
  intro x b hb;rw[TW];unfold Pa;have w:A3 b.length=true:=E5 hb;have W:u8n (93:Int)=93:=rfl;have U:u8n (58:Int)=58:=rfl;by_cases v:b.head? = some 91
  ·rw[if_pos v];have Z:([91]:By).isPrefixOf b=true:=by rw[C81,v];rfl
   cases Y:Tb 93 b with
   | none=>
    apply o6;intro R o;rw[w,Z,W,Bd7 Y];rfl
   | some k=>
    obtain⟨e,hk⟩:=Bd8 Y;have e1:A1 ((k:Int)+1)=((k+1:Nat):Int):=by rw[A5];rfl
    obtain⟨B,H,X⟩:=My (b.take (k+1)) (b.drop (k+1)) (by rw[p9];omega) (by rw[j7];omega) u x J O v4 y z A C D F G I t;apply o6;intro R o;rw[w,Z,W,e];simp only[vl,cond_true];rw[A6,cond_false,e1,Q3,Q3,cond_true,cond_true,X6,Z2,j0,X]
  ·rw[if_neg v];have Z:([91]:By).isPrefixOf b=false:=by rw[C81];simpa using v
   cases Y:Tb 58 b with
   | none=>
    obtain⟨B,H,X⟩:=My b [] hb (by simp) u x J O v4 y z A C D F G I t;apply o6;intro R o;rw[w,Z,U,Bd7 Y];simp only[vl,cond_true,cond_false];rw[A8,j1,cond_false,X]
   | some k=>
    obtain⟨e,hk⟩:=Bd8 Y;obtain⟨B,H,X⟩:=My (b.take k) (b.drop k) (by rw[p9];omega) (by rw[j7];omega) u x J O v4 y z A C D F G I t;apply o6;intro R o;rw[w,Z,U,e];simp only[vl,cond_true,cond_false];rw[A6,j4,cond_true,Q3,Q3,cond_true,cond_true,X6,Z2,j0,X]
 have V:u8n (64:Int)=64:=rfl;unfold I3;by_cases h:0<=L7 64 a
 ·obtain⟨p,r,rfl,_,hl⟩:=Au5 h;rw[if_pos h,hl,j0];rw[j6,j2] at ha;obtain⟨H,e⟩:=key ((p++64::r).take p.length) ((p++64::r).drop (p.length+1)) (by rw[j7,j6,j2];omega);refine⟨H,λR o=>?_⟩;refine j5 ?_ (e R o);have e1:A1 ((p.length:Int)+1)=((p.length+1:Nat):Int):=by rw[A5];rfl
  have ln:(p++64::r).length=p.length+r.length+1:=by rw[j6,j2];omega
  unfold Tq;rw[h2,V,hl];simp only[vl,cond_true];rw[A6,j4,cond_true,e1,Q3,Q3,cond_true,cond_true,X6,Z2,j0,j0];rfl
 ·rw[if_neg h];obtain⟨H,e⟩:=key [] a ha;refine⟨H,λR o=>?_⟩;refine j5 ?_ (e R o);unfold Tq;rw[h2,V];simp only[vl,cond_true];rw[A8,j1,cond_false];rfl
def TX:List Ty:=[.int .i64,.str,.int .u32,.int .u16,.int .u16,.int .u16,.int .u16,.int .u16,.int .u16,.int .u16,.int .u16]
def B65(i:Int)(j:By)(v4 a b c d e f g h:Int):List SV:=[.int .i64 i,.str j,.int .u32 v4,.int .u16 a,.int .u16 b,.int .u16 c,.int .u16 d,.int .u16 e,.int .u16 f,.int .u16 g,.int .u16 h]
theorem Pm{x:SV}(h:(Ty.int .u16).of x):∃n,x = .int .u16 n/\ltN n 65536=true:=by obtain⟨n,rfl,a,b⟩:=h;simp[ai9,ai8,ag5,ai2] at a b;exact⟨n,rfl,D9.2 ⟨a,by omega⟩⟩
theorem Au0{l:List SV}(h:Ty.ofL TX l):∃a k v4 b c d e f g i j,l=B65 a k v4 b c d e f g i j/\k.length<=maxLen/\ltN v4 4294967296=true/\ok8 b c d e f g i j=true/\(-9223372036854775808<=a/\a<9223372036854775808):=by simp only[TX,Ty.ofL] at h;obtain⟨_,_,rfl,⟨a,rfl,w,x⟩,_,_,rfl,⟨k,rfl,v⟩,_,_,rfl,⟨v4,rfl,v1,H⟩,_,_,rfl,m,_,_,rfl,n,_,_,rfl,o,_,_,rfl,p,_,_,rfl,q,_,_,rfl,r,_,_,rfl,t,_,_,rfl,u,rfl⟩:=h;simp[ai9,ai8,ag5,ai2] at v1 H w x;obtain⟨b,rfl,y⟩:=Pm m;obtain⟨c,rfl,z⟩:=Pm n;obtain⟨d,rfl,A⟩:=Pm o;obtain⟨e,rfl,B⟩:=Pm p;obtain⟨f,rfl,C⟩:=Pm q;obtain⟨g,rfl,D⟩:=Pm r;obtain⟨i,rfl,F⟩:=Pm t;obtain⟨j,rfl,G⟩:=Pm u;exact⟨a,k,v4,b,c,d,e,f,g,i,j,rfl,v,D9.2 ⟨v1,by omega⟩,by simp[ok8,y,z,A,B,C,D,F,G],by omega⟩
theorem B17{P:Program}{t:Nat}{v:PV}(h:KX P t v)(e:Lf P 20 t=some TX)(r:AL P t=true) :
  ∃a n v4 b c d f g i j k,v = .agg ((B65 a n v4 b c d f g i j k).map .s)/\n.length<=maxLen/\ltN v4 4294967296=true/\ok8 b c d f g i j k=true/\(-9223372036854775808<=a/\a<9223372036854775808):=by
 obtain⟨u,l,o,p,m⟩:=h;rw[e] at o;obtain rfl:=ag3 o;obtain⟨a,n,v4,b,c,d,f,g,i,j,k,rfl,q⟩:=Au0 p;rcases m with⟨_,rfl⟩|⟨m,_⟩
 ·exact⟨a,n,v4,b,c,d,f,g,i,j,k,rfl,q⟩
 ·rw[r] at m;cases m
def Tru(x:Option (PV × List Blk × Unit)):Prop:=∃H,x=some (.s (.bool true),H,())
theorem eq8{v6:List Nat}(h:v6.length=8):∃a b c d e f g i,v6=[a,b,c,d,e,f,g,i]:=by
 match v6,h with
 | [a,b,c,d,e,f,g,i],_=>exact⟨a,b,c,d,e,f,g,i,rfl⟩
theorem Ct2{a b c d e f g i:Nat}(h:∀x∈[a,b,c,d,e,f,g,i],x<65536):ok8 a b c d e f g i=true:=by
 have q:∀x∈[a,b,c,d,e,f,g,i],ltN (x:Int) 65536=true:=λx j=>D9.2 ⟨by omega,by have:=h x j;omega⟩
 simp[ok8,q a,q b,q c,q d,q e,q f,q g,q i]
theorem CB{h:C3}(a:N2 h=true):h.name.length<=253:=by
 unfold N2 at a;split at a
 ·simp only[o7] at a;exact(JT.1 a.1.1).le
 ·split at a
  ·simp only[o7,ad1] at a;rw[a.1];simp
  ·split at a
   ·simp only[o7,ad1] at a;rw[a.1];simp
   ·cases a
theorem ZZ{h:C3}(ok:Nq h):(Ai h).length<=300:=by
 cases a:N2 h with
 | false=>rw[HK a];simp
 | true=>
  have d:=CB a;have c:=Cg4 _ ok.v6.1 ok.v6.2;have b:=C91 _ ok.v4;unfold Ai;rw[if_pos a];split
  ·omega
  ·split
   ·omega
   ·simp only[j2,j6,p6];omega
theorem Bd4{h0 b c d e f g i j a:Int}{h1:By}(k:ltN b 4294967296=true)(l:ok8 c d e f g i j a=true):Nq (mkH h0 h1 b (n8 c d e f g i j a)):=by
 have⟨m,n⟩:=D9.1 k;refine⟨by show b.toNat<_;omega,C38 l,?_⟩;show(if ltN h0 4 then h0.toNat else 0)<4;split
 ·rename_i h;have:=D9.1 h;omega
 ·omega
theorem Bw5(c z:By)(x:Int)(y:By)(v4 m n o p t u v w k:Int)(b a:By)(O:A3 c.length=true)(P:A3 b.length=true)(A:A3 a.length=true)(B:z.isEmpty=true)(C:(k==-1)=true) :
  ∃r H,Tq LF c z x y v4 m n o p t u v w k b a (λL M D N F G I J n8 K f g h i l j d=>rv (.tup [gU L M D N F G I J n8 K f g h i l,.s (.int .i64 j)]) d)=rv r H/\
   r.stab [0,0] H=(λq=>.tup [gU (uS q) (uU q) (uK q) (uN q) (uV q) (uA q 0) (uA q 1) (uA q 2) (uA q 3) (uA q 4) (uA q 5) (uA q 6) (uA q 7) (uP q) (uR q),.s (.int .i64 (uE q))]) (I3 c b a):=by
 obtain rfl:=ad1.1 B;obtain rfl:k=-1:=by simpa using C
 obtain⟨H,e⟩:=A67 c x y v4 m n o p t u v w b a A;exact⟨_,_,e _ _,rfl⟩
theorem Cn1(b:UInt8):ctl b=(!ltI 32 (b.toNat:Int)||((b.toNat:Int)==127)):=by rw[y7,Cn0,ad3,ae6,Vr,beq_iff_eq];omega
theorem Bw6{R:Type}{a:List Blk->Option R}{b:By->Option R}(s:By)(g:s.length<=1000000000):∀(r i n:Nat),i+r=s.length->r<n->
  Jf LF n s (s.length:Int) (i:Int) a b=if (s.drop i).any ctl then a [] else b s:=by
 intro r
 induction r with
 | zero=>
  intro i n d e;obtain⟨n,rfl⟩:∃m,n=m+1:=⟨n-1,by omega⟩
  rw[Jf];rw[A6,k9 (by omega)];rfl
 | succ r f=>
  intro i n d e;obtain⟨n,rfl⟩:∃m,n=m+1:=⟨n-1,by omega⟩
  have c:A1 ((i:Int)+1)=((i+1:Nat):Int):=by rw[A5];rfl
  rw[Jf];rw[A8,J1,G8,I8 s i (by omega),c,aa4,Cn1];simp only[cond_true];rw[f (i+1) n (by omega) (by omega)];cases ltI 32 ((s.getD i 0).toNat:Int) with
  | false=>rfl
  | true=>cases (((s.getD i 0).toNat:Int)==127)<;>rfl
theorem Cf5(s:By)(i:A3 s.length=true):∃H,∀(R:Type) (a:KU R),KT LF s a=LS a (G1 s) H:=by
 have y:=N5 i;have v:=E2;have L:∀{R:Type} (a:List Blk->Option R) (l:By->Option R),Jf LF LF s (s.length:Int) 0 a l=if s.any ctl then a [] else l s:=λa l=>Bw6 s y s.length 0 LF (by omega) (by omega)
 unfold G1;by_cases h:s.any ctl=true
 ·rw[if_pos h];apply o6;intro R a;unfold KT;rw[L,if_pos h];rfl
 rw[if_neg h];rcases Bo 58 s with b|⟨p,r,rfl,b⟩
 ·apply o6;intro R a;unfold KT;rw[L,if_neg h,i,Za b];rfl
 have B:(p++58::r).length=p.length+r.length+1:=by rw[j6,j2];omega
 have sp:A3 p.length=true:=U2;have o:A3 r.length=true:=U2;rw[Ha b];simp only[j1,aa7];cases c:Dq p with
 | false=>
  apply o6;intro R a;unfold KT;rw[L,if_neg h,i,Ha b];simp only[vl,cond_true,j1,cond_false];rw[sp,c];rfl
 | true=>
 rw[if_neg (by simp)];cases f:G3 (D3 p) with
 | false=>
  apply o6;intro R a;unfold KT;rw[L,if_neg h,i,Ha b];simp only[vl,cond_true,j1,cond_false];rw[sp,c,f];rfl
 | true=>
 rw[if_neg (by simp)];cases CI:([47,47]:By).isPrefixOf r with
 | false=>
  apply o6;intro R a;unfold KT;rw[L,if_neg h,i,Ha b];simp only[vl,cond_true,j1,cond_false];rw[sp,c,f,o,CI];rfl
 | true=>
 rw[if_neg (by simp)];have j:Hb r [47,47]=r.drop 2:=by unfold Hb;rw[CI,if_pos rfl];rfl
 generalize m:r.drop 2=t;rw[m] at j;have lt:t.length<=r.length:=by rw[<-m,j7];omega
 have u:A3 t.length=true:=U2;have z:=JM t;have sl:A3 (D3 p).length=true:=by rw[Dd];exact sp
 have tail:∀(R:Type) (a:KU R) (X d:By),X.length<=t.length->d.length<=t.length->
   (cond (A3 (c9 X))
    (cond (not (aa9 (([47]:List UInt8)) X))
     (cond (J7 1 (c9 X))
     (cond (A3 (c9 (D3 p)))
      (cond (A3 (c9 (([47]:List UInt8)++X)))
       (cond (A3 (c9 d))
       (cond (((-1):Int)==((-1):Int))
        (LS a (I3 (D3 p) (([47]:List UInt8)++X) d) ((λq=>[bU (uS q) (uU q) (uK q) (uN q) (uV q) (uA q 0) (uA q 1) (uA q 2) (uA q 3) (uA q 4) (uA q 5) (uA q 6) (uA q 7) (uP q) (uR q),bU (D3 p) [] 0 [] 0 0 0 0 0 0 0 0 0 (-1) (([47]:List UInt8)++X)]) (I3 (D3 p) (([47]:List UInt8)++X) d)))
        (none))
       (none))
       (none))
      (none))
     (none))
     (cond (A3 (c9 (D3 p)))
     (cond (A3 (c9 X))
      (cond (A3 (c9 d))
      (cond (((-1):Int)==((-1):Int))
       (LS a (I3 (D3 p) X d) ((λq=>[bU (uS q) (uU q) (uK q) (uN q) (uV q) (uA q 0) (uA q 1) (uA q 2) (uA q 3) (uA q 4) (uA q 5) (uA q 6) (uA q 7) (uP q) (uR q),bU (D3 p) [] 0 [] 0 0 0 0 0 0 0 0 0 (-1) X]) (I3 (D3 p) X d)))
       (none))
      (none))
      (none))
     (none)))
    none)=LS a (I3 (D3 p) (W7 X) d) ((λq=>[bU (uS q) (uU q) (uK q) (uN q) (uV q) (uA q 0) (uA q 1) (uA q 2) (uA q 3) (uA q 4) (uA q 5) (uA q 6) (uA q 7) (uP q) (uR q),bU (D3 p) [] 0 [] 0 0 0 0 0 0 0 0 0 (-1) (W7 X)]) (I3 (D3 p) (W7 X) d)):=by
  intro R a X d A w;rw[U2,sl,C81,E5 (n:=d.length) (by omega)];unfold W7;by_cases g:X.head? = some 47
  ·rw[if_pos g,g];rfl
  ·have e:(X.head? == some 47)=false:=by simpa using g
   rw[if_neg g,e,J8 (by omega),E5 (by simp;omega)];rfl
 refine⟨(λX=>(λq=>[bU (uS q) (uU q) (uK q) (uN q) (uV q) (uA q 0) (uA q 1) (uA q 2) (uA q 3) (uA q 4) (uA q 5) (uA q 6) (uA q 7) (uP q) (uR q),bU (D3 p) [] 0 [] 0 0 0 0 0 0 0 0 0 (-1) (W7 X)]) (I3 (D3 p) (W7 X) (t.take (M4 t)))) (t.drop (M4 t)),λR a=>?_⟩;refine j5 ?_ (tail R a (t.drop (M4 t)) (t.take (M4 t)) (by rw[j7];omega) (by rw[p9];omega));unfold KT;rw[L,if_neg h,i,Ha b];simp only[vl,cond_true,j1,cond_false];rw[sp,c,f,o,CI,j,u];rw[show Zn ([47,63,35]:List UInt8)=true from rfl,show([47,63,35]:List UInt8)=isl from rfl,Jt];simp only[cond_true,j1,cond_false];by_cases k:M4 t<t.length
 ·rw[if_pos k,A6,j4,cond_true,X6,j0,p9,ag2 (by omega),Q3,Q3,Z2,j0];rfl
 ·have x:M4 t=t.length:=by omega
  rw[if_neg k,A8,j1,cond_false,Q3,Z2,j0,x,ad2,u];rfl
abbrev rvU(n o:By)(h:Int)(p:By)(i j k l n8 m b c d e:Int)(g:By)(f:Int)(a:List Blk):=rv (.tup [gU n o h p i j k l n8 m b c d e g,.s (.int .i64 f)]) a
abbrev pvU(q:W8 × Nat):PV:=.tup [gU (uS q) (uU q) (uK q) (uN q) (uV q) (uA q 0) (uA q 1) (uA q 2) (uA q 3) (uA q 4) (uA q 5) (uA q 6) (uA q 7) (uP q) (uR q),.s (.int .i64 (uE q))]
theorem Cy4(s:By)(a:A3 s.length=true):∃r H,KT LF s rvU=rv r H/\r.stab [0,0] H=pvU (G1 s):=by obtain⟨H,e⟩:=Cf5 s a;exact⟨_,_,e _ _,rfl⟩
theorem Bw2(s:By)(a:A3 s.length=true):∃r H,XA LF s rvU=rv r H/\r.stab [0,0] H=pvU (D0 s):=by
 unfold XA D0;by_cases h:2048<s.length
 ·rw[A8,if_pos h];exact⟨_,_,rfl,rfl⟩
 ·rw[A6,if_neg h,a];exact⟨_,_,rfl,rfl⟩
theorem MO{p:Int}(h:No p=true):(Ng p).length<=20:=by
 obtain⟨a,b⟩:=HQ.1 h;unfold Ng;split
 ·have:=Ki 19 (-p).toNat (by omega) (by omega);rw[j2];omega
 ·have:=Ki 19 p.toNat (by omega) (by omega);omega
theorem ZY(b:Int)(c:By)(v4:Int)(a:List Nat):Ai (mkH b c v4 a)=Ai (B85 b c v4 a):=by
 unfold mkH B85;cases h:ltN b 4 with
 | true=>rfl
 | false=>
  rw[if_neg (by simp),if_neg (by simp),HK (by rfl),HK (by rfl)]
theorem DI{c d a b:By}(h:smU c d a b=true):c.length<=100000000/\d.length<=100000000/\a.length<=100000000/\b.length<=100000000:=by simp only[smU,o7,v7,and_assoc] at h;exact h
theorem Bv5{l m:By}{kd:Int}{a:By}{v4 b c d e f g h i j:Int}{k:By}(h0:smU l m a k=true)(h1:ltN v4 4294967296=true)(n:ok8 b c d e f g h i=true)(o:No j=true) :
  (Ey (mkU l m kd a v4 (n8 b c d e f g h i) j k)).length<=400000000:=by
 obtain⟨r,t,u,v⟩:=DI h0;have p:=ZZ (Bd4 (h0:=kd) (h1:=a) h1 n);rw[ZY] at p;have q:=MO o;unfold Ey mkU LI;simp only;split
 ·split<;>split<;>simp only[j6,j2,p6]<;>omega
 ·simp only[j6,j2];omega
theorem Cf9(c n:By)(m:Int)(a:By)(v4 e f g h i j k l b:Int)(d:By)(h0:smU c n a d=true)(h1:ltN v4 4294967296=true)(t:ok8 e f g h i j k l=true)(x:No b=true) :
  ∃r H,Rv LF c n m a v4 e f g h i j k l b d (λu q=>rv (.s (.str u)) q)=rv r H/\r.stab [] H = .s (.str (Ey (mkU c n m a v4 (n8 e f g h i j k l) b d))):=by
 obtain⟨D,F,G,I⟩:=DI h0;have A:=ZZ (Bd4 (h0:=m) (h1:=a) h1 t);have C:=MO x;have key:∀T:By,Rv LF c n m a v4 e f g h i j k l b d (λu q=>rv (.s (.str u)) q)=rv (.s (.str T)) [bU c n m a v4 e f g h i j k l b d]->T=Ey (mkU c n m a v4 (n8 e f g h i j k l) b d)->∃r H,Rv LF c n m a v4 e f g h i j k l b d (λu q=>rv (.s (.str u)) q)=rv r H/\r.stab [] H = .s (.str (Ey (mkU c n m a v4 (n8 e f g h i j k l) b d))):=λT y z=>⟨_,_,y,by rw[<-z];rfl⟩
 have w:A3 a.length=true:=U2;cases o:G3 c with
 | false=>
  refine key (c++[58]++d) ?_ ?_
  ·unfold Rv;rw[o,J8 (by omega)];simp only[vl,cond_true,j4];rw[J8 (by simp;omega)];rfl
  ·unfold Ey mkU;simp only[o];simp
 | true=>
  have B:=A;by_cases v:n=[]
  ·subst v;have e0:(([]:By)==([]:List UInt8))=true:=rfl;by_cases p:b=-1
   ·subst p;refine key (((c++[58,47,47])++Ai (mkH m a v4 (n8 e f g h i j k l)))++d) ?_ ?_
    ·unfold Rv;rw[o,w,h1,t,e0];simp only[vl,cond_true,cond_false,j1,show((-1:Int)!=-1)=false from rfl]
     repeat rw[J8 (by first|omega|(simp only[j6,j2,p6];omega))]
     rfl
    ·unfold Ey mkU LI;simp[o,ZY]
   ·refine key (((c++[58,47,47])++Ai (mkH m a v4 (n8 e f g h i j k l)))++([58]++Ng b)++d) ?_ ?_
    ·unfold Rv;rw[o,w,h1,t,x,e0];simp only[vl,cond_true,cond_false,j1,show(b !=-1)=true by simpa using p]
     repeat rw[J8 (by first|omega|(simp only[j6,j2,p6];omega))]
     rfl
    ·unfold Ey mkU LI;simp[o,ZY,p]
  ·have e0:(n==([]:List UInt8))=false:=by simpa using v
   by_cases p:b=-1
   ·subst p;refine key (((c++[58,47,47])++(n++[64])++Ai (mkH m a v4 (n8 e f g h i j k l)))++d) ?_ ?_
    ·unfold Rv;rw[o,w,h1,t,e0];simp only[vl,cond_true,cond_false,j1,j4,show((-1:Int)!=-1)=false from rfl]
     repeat rw[J8 (by first|omega|(simp only[j6,j2,p6];omega))]
     rfl
    ·unfold Ey mkU LI;simp[o,ZY,v]
   ·refine key (((c++[58,47,47])++(n++[64])++Ai (mkH m a v4 (n8 e f g h i j k l)))++([58]++Ng b)++d) ?_ ?_
    ·unfold Rv;rw[o,w,h1,t,x,e0];simp only[vl,cond_true,cond_false,j1,j4,show(b !=-1)=true by simpa using p]
     repeat rw[J8 (by first|omega|(simp only[j6,j2,p6];omega))]
     rfl
    ·unfold Ey mkU LI;simp[o,ZY,p,v]
theorem Cr1{a:Int}{k:Nat}(d:k<4):(a==(k:Int))=(k==(if ltN a 4 then a.toNat else 4)):=by
 rw[y7,beq_iff_eq,beq_iff_eq];cases h:ltN a 4 with
 | true=>
  obtain⟨b,c⟩:=D9.1 h;rw[if_pos rfl];omega
 | false=>
  rw[if_neg (by simp)];have:¬(0<=a/\a<4):=λq=>by
   have:=D9.2 q;rw[h] at this;cases this
  omega
theorem RM(a b:By):(a==b)=(b==a):=by rw[y7,beq_iff_eq,beq_iff_eq];exact eq_comm
theorem Cq7(a b:Int):(a==b)=(b==a):=by rw[y7,beq_iff_eq,beq_iff_eq];exact eq_comm
theorem Fh(a b:Nat):((a:Int)==(b:Int))=(b==a):=by rw[y7,beq_iff_eq,beq_iff_eq];omega
theorem Bj9{F G:By}{Q:Int}{B:By}{v4 a b c d f g h i C:Int}{D:By}{p:W8 × Nat}(R:ltN v4 4294967296=true)(S:ok8 a b c d f g h i=true)(V:XT p.1) :
  ((F==(uS p))&&((G==(uU p))&&((Q==(uK p))&&((B==(uN p))&&((v4==(uV p))&&((a==(uA p 0))&&((b==(uA p 1))&&((c==(uA p 2))&&((d==(uA p 3))&&((f==(uA p 4))&&((g==(uA p 5))&&((h==(uA p 6))&&((i==(uA p 7))&&((C==(uP p))&&((D==(uR p))&&true)))))))))))))))=eqU p.1 (mkU F G Q B v4 (n8 a b c d f g h i) C D):=by
 obtain⟨⟨s,u,⟨k,n,v,l⟩,q,t⟩,e⟩:=p;obtain⟨P,_⟩:=V;obtain⟨H,I,J,K,L,M,N,O,rfl⟩:=eq8 P.v6.1;obtain⟨j,m,o,r,x,y,z,A,rfl,rfl,rfl,rfl,rfl,rfl,rfl,rfl,_⟩:=Qs S;obtain⟨w,rfl⟩:=w8 (D9.1 R).1;have T:k<4:=P.kd;have U:(([H,I,J,K,L,M,N,O]:List Nat)==[j,m,o,r,x,y,z,A])=((H==j)&&((I==m)&&((J==o)&&((K==r)&&((L==x)&&((M==y)&&((N==z)&&((O==A)&&true)))))))):=rfl;simp only[eqU,eqH,mkU,B85,n8,j0,U,ab6,List.getD_cons_succ];rw[Cr1 T,RM F,RM G,RM B,RM D,Cq7 C,Fh w,Fh j,Fh m,Fh o,Fh r,Fh x,Fh y,Fh z,Fh A];simp only[Bool.and_assoc,aa6];rfl
theorem A76(m n:By)(kd:Int)(j:By)(v4 a b c d f g h i k:Int)(l:By)(u:smU m n j l=true)(o:ltN v4 4294967296=true)(q:ok8 a b c d f g h i=true)(v:No k=true) :
  ∃r H,DM LF m n kd j v4 a b c d f g h i k l (λz w=>rv (.s (.bool z)) w)=rv r H/\r.stab [] H = .s (.bool (Tu (mkU m n kd j v4 (n8 a b c d f g h i) k l))):=by
 have A:=Bv5 (kd:=kd) u o q v;unfold DM Tu;rw[u,o,q,v];simp only[vl,cond_true];rw[U2,cond_true];have x:=Ad6 (Ey (mkU m n kd j v4 (n8 a b c d f g h i) k l));rw[Bj9 o q x];generalize G1 (Ey (mkU m n kd j v4 (n8 a b c d f g h i) k l))=p;obtain⟨y,e⟩:=p;by_cases t:e=0
 ·subst t;exact⟨_,_,rfl,rfl⟩
 ·rw[show(uE (y,e)==(0:Int))=false by simpa using t,show(e==0)=false by simpa using t];exact⟨_,_,rfl,rfl⟩
end
section
open Go
def ofB(u:W8):Bool:=G3 u.sch&&Tu u
structure OC where
 s:By
 k:Int
 n:By
 v:Int
 a:List Int
 p:Int
 b:Bool
def ofC(i n:By)(j:Int)(k:By)(v4 a b c d e f g h l:Int)(m:By):OC:=
 cond (ofB (mkU i n j k v4 (n8 a b c d e f g h) l m)) ⟨i,j,k,v4,[a,b,c,d,e,f,g,h],prt i l,true⟩ ⟨[],0,[],0,[0,0,0,0,0,0,0,0],0,false⟩
abbrev oS(c:OC):By:=c.s
abbrev oK(c:OC):Int:=c.k
abbrev oN(c:OC):By:=c.n
abbrev oV(c:OC):Int:=c.v
abbrev oA(c:OC)(i:Nat):Int:=c.a.getD i 0
abbrev oP(c:OC):Int:=c.p
abbrev oB(c:OC):Bool:=c.b
def Dh3:By:=[108,111,99,97,108,104,111,115,116]
def Ac1(i:Int)(j:By)(v4 a b c d e f g h:Int):Bool:=
 cond (N2 (mkH i j v4 (n8 a b c d e f g h))) (cond (i==2) (Rl .u32 v4 24==127) (cond (i==3) ((a==0)&&((b==0)&&((c==0)&&((d==0)&&((e==0)&&((f==0)&&((g==0)&&((h==1)&&true)))))))) (Ur Dh3 j))) false
def B19:By:=[102,105,108,101]
def FZ:By:=[97,98,111,117,116]
def AG(i n:By)(k:Int)(l:By)(v4 a b c d e f g h m:Int)(j:By):Bool:=
 cond (Tu (mkU i n k l v4 (n8 a b c d e f g h) m j)) (cond (i==Nx||(i==YL||i==B19)) true (cond (i==FZ) (j==[98,108,97,110,107]||j==[115,114,99,100,111,99]) (cond (G3 i) (Ac1 k l v4 a b c d e f g h) false))) false
def C34(n:Int):Bool:=!ltI n 1&&!ltI 22 n
def Dh4(n:Int)(a:Bool):Int:=cond (n==4) 1 (cond (n==2||(n==20||(n==9&&!a))) 2 (cond (C34 n) 3 0))
def Bn2(l:List By)(s:By):Int:=match l.findIdx? (· == s) with|some i=>(i:Int)|none=>-1
def P3(l:List By)(s:By):Bool:=l.any (· == s)
def II(l:List By)(h:C3):Bool:=N2 h&&P3 l (Ai h)
end
section
open Go Go.Op
def Bn5(c:Int):Bool:=c==32||c==9
def HW(c:Int):Bool:=Bn5 c||(c==10||(c==12||c==13))
def spB(b:UInt8):Bool:=HW (b.toNat:Int)
def AK(a:By):By->List By
 | []=>if a.isEmpty then [] else [a]
 | c::r=>if spB c then (if a.isEmpty then AK [] r else a::AK [] r) else AK (a++[c]) r
def R5(s:By):List By:=AK [] s
def smL(s:By):Bool:=A3 s.length
theorem Xk:∀(s a:By),(∀x∈AK a s,x.length<=a.length+s.length)/\(AK a s).length<=s.length+(if a.isEmpty then 0 else 1)
 | [],a=>by
  unfold AK;split
  ·exact⟨λx b=>(by cases b),Nat.zero_le _⟩
  ·exact⟨λx b=>(by simp at b;subst b;simp),by simp[*]⟩
 | c::r,a=>by
  unfold AK;split
  ·split
   ·obtain⟨d,e⟩:=Xk r [];refine⟨λx b=>?_,?_⟩
    ·have:=d x b;simp at this ⊢;omega
    ·simp at e ⊢;omega
   ·obtain⟨d,e⟩:=Xk r [];refine⟨λx b=>?_,?_⟩
    ·rcases ah4.1 b with rfl|b
     ·omega
     ·have:=d x b;simp at this ⊢;omega
    ·simp at e ⊢;omega
  ·obtain⟨d,e⟩:=Xk r (a++[c]);refine⟨λx b=>?_,?_⟩
   ·have:=d x b;simp at this ⊢;omega
   ·simp at e ⊢;omega
theorem Ch2{s:By}(h:A3 s.length=true):A3 (C1 (R5 s)).length=true/\((C1 (R5 s)).map elS).all smL=true:=by have d:=N5 h;obtain⟨a,b⟩:=Xk s [];refine⟨E5 (by rw[C4];unfold R5;simp at b;omega),?_⟩;rw[show(C1 (R5 s)).map elS=R5 s by unfold C1;rw[ab8];exact ah3 (λ_=>rfl) _];exact aa5.2 λx c=>E5 (by have:=a x c;simp at this;omega)
def KA(d:By):List By:=match R5 d with
 | []=>[]
 | w::_=>[D3 w]
def On(t:By):List By:=(pcs 44 t).flatMap λp=>(pcs 59 p).flatMap KA
def FU(a:List By)(n:By):List By:=cond (P3 a n) a (a++[n])
def IG:List By->List By->List By × Int
 | [],a=>(a,0)
 | v::r,a=>cond (ltI 4096 (v.length:Int)) ([],3) (IG r ((On v).foldl FU a))
def K9(l:List By):List By × Int:=IG l []
def JQ:By:=[117,112,103,114,97,100,101,45,105,110,115,101,99,117,114,101,45,114,101,113,117,101,115,116,115]
def CF:By:=[98,108,111,99,107,45,97,108,108,45,109,105,120,101,100,45,99,111,110,116,101,110,116]
def UF:List SV->Bool
 | [.str _,.sl z _ k a]=>(Nat.beq k 1||(z&&a.isEmpty))&&a.all isS
 | _=>false
def Ah8(a:List SV):Bool:=o8 (elS a).length 10000000&&o8 ((a.getD 1 .nilp).gE).length 1000
abbrev FrV:=By × List By
def U4(a:List SV):FrV:=(elS a,((a.getD 1 .nilp).gE).map elS)
def Bg8(l:List FrV):Bool:=o8 l.length 20&&l.all λf=>ltN f.1.length 3001&&(o8 f.2.length 6&&Er 5000 f.2)
def R6(l:List By):List By:=l.mergeSort λx y=>decide (x<=y)
structure OL where
 e:Int
 s:Bool
 p:Bool
 u:Bool
 b:Bool
 h:List By
abbrev cE(c:OL):Int:=c.e
abbrev cS(c:OL):Bool:=c.s
abbrev cP(c:OL):Bool:=c.p
abbrev cU(c:OL):Bool:=c.u
abbrev cB(c:OL):Bool:=c.b
abbrev cH(c:OL):List By:=c.h
def As0(e:Int):OL:=⟨e,false,false,false,false,[]⟩
abbrev trQ(p:W8 × Nat):Bool:=AG (uS p) (uU p) (uK p) (uN p) (uV p) (uA p 0) (uA p 1) (uA p 2) (uA p 3) (uA p 4) (uA p 5) (uA p 6) (uA p 7) (uP p) (uR p)
abbrev hsQ(p:W8 × Nat):By:=Ai (mkH (uK p) (uN p) (uV p) (n8 (uA p 0) (uA p 1) (uA p 2) (uA p 3) (uA p 4) (uA p 5) (uA p 6) (uA p 7)))
def trF(a:Bool)(p:W8 × Nat):Bool:=cond (uS p !=FZ) (G3 (uS p)&&trQ p) a
def upF(c:List By):Bool:=P3 (K9 c).1 JQ
def An8:List FrV->Bool->Bool->Bool->Bool->Bool->List By->OL
 | [],e,d,up,c,b,a=>⟨0,e,d,up,c,ae0 (R6 a)⟩
 | f::r,e,d,up,c,b,a=>cond (uE (D0 f.1)!=0) (As0 (uE (D0 f.1))) (cond ((K9 f.2).2 !=0) (As0 (K9 f.2).2)
   (An8 r (e&&trF b (D0 f.1)) (d||trF b (D0 f.1)) (up||upF f.2) (c||P3 (K9 f.2).1 CF) (trF b (D0 f.1))
    (cond (upF f.2&&G3 (uS (D0 f.1))) (a++[hsQ (D0 f.1)]) a)))
def R3(l:List FrV):OL:=cond (l.isEmpty||ltI 16 (l.length:Int)) (As0 3) (An8 l true false false false false [])
theorem Dr(l:List By):(C1 l).map elS=l:=by unfold C1;rw[ab8];exact ah3 (λ_=>rfl) _
theorem B35(d:Array By)(m:Nat):(ab5 d m).length<=m:=by unfold ab5;rw[p5];exact ai4 (List.length_filter_le _ _) (by simp)
theorem Cm4(l:List By):(ae0 l).length<=l.length:=B35 _ _
theorem LU(d:Array By):∀m,0<m->(ab5 d m).getLast? = some d[m-1]!
 | 0,h=>absurd h (by omega)
 | m+1,_=>by
  rw[Lib.compactUpTo_succ];cases a:Lib.keeps d m with
  | true=>rw[if_pos rfl];simp
  | false=>
   rw[if_neg (by simp),aa2];have b:0<m:=by
    apply Nat.pos_of_ne_zero;rintro rfl;rw[Lib.keeps_lt_one d 0 (by omega)] at a;cases a
   rw[LU d m b];have:d[m]! = d[m-1]!:=by
    simp only[Lib.keeps,decide_eq_false_iff_not,not_or,Classical.not_not] at a;exact a.2
   simp[this]
theorem C59{l:List By}(h:l≠[]):ae0 l≠[]:=by intro e;have:=LU l.toArray l.length (x3.2 h);rw[show ab5 l.toArray l.length=[] from e] at this;cases this
theorem Ai0(l:List By):(R6 l).length=l.length:=by unfold R6;exact List.length_mergeSort l
end
section
open Go Go.Proofs
set_option maxRecDepth 100000
section
def Dh2:List PV->Tr
 | [.agg [.s (.str l),.s (.str m),.s (.int .i64 n),.s (.str i),.s (.int .u32 v4),.s (.int .u16 a),.s (.int .u16 b),.s (.int .u16 c),.s (.int .u16 d),.s (.int .u16 e),.s (.int .u16 f),.s (.int .u16 g),.s (.int .u16 h),.s (.int .i64 j),.s (.str k)]]=>.need (smU l m i k) (.need (ltN v4 4294967296) (.need (ok8 a b c d e f g h) (.need (No j) (.ret (.tup [.agg [.s (.str (oS (ofC l m n i v4 a b c d e f g h j k))),.s (.int .i64 (oK (ofC l m n i v4 a b c d e f g h j k))),.s (.str (oN (ofC l m n i v4 a b c d e f g h j k))),.s (.int .u32 (oV (ofC l m n i v4 a b c d e f g h j k))),.s (.int .u16 (oA (ofC l m n i v4 a b c d e f g h j k) 0)),.s (.int .u16 (oA (ofC l m n i v4 a b c d e f g h j k) 1)),.s (.int .u16 (oA (ofC l m n i v4 a b c d e f g h j k) 2)),.s (.int .u16 (oA (ofC l m n i v4 a b c d e f g h j k) 3)),.s (.int .u16 (oA (ofC l m n i v4 a b c d e f g h j k) 4)),.s (.int .u16 (oA (ofC l m n i v4 a b c d e f g h j k) 5)),.s (.int .u16 (oA (ofC l m n i v4 a b c d e f g h j k) 6)),.s (.int .u16 (oA (ofC l m n i v4 a b c d e f g h j k) 7)),.s (.int .i64 (oP (ofC l m n i v4 a b c d e f g h j k)))],.s (.bool (oB (ofC l m n i v4 a b c d e f g h j k)))]) []))))
 | _=>.fail
def EL:List PV->Tr
 | [.agg [.s (.int .i64 j),.s (.str i),.s (.int .u32 v4),.s (.int .u16 a),.s (.int .u16 b),.s (.int .u16 c),.s (.int .u16 d),.s (.int .u16 e),.s (.int .u16 f),.s (.int .u16 g),.s (.int .u16 h)]]=>.need (A3 (c9 i)) (.need (ltN v4 4294967296) (.need (ok8 a b c d e f g h) (.ret (.s (.bool (Ac1 j i v4 a b c d e f g h))) [])))
 | _=>.fail
def Ba3(args:List PV):Tr:=EL (D4 [[0,0,0,0,0,0,0,0,0,0,0]] args)
def Xu:List PV->Tr
 | [.agg [.s (.str l),.s (.str m),.s (.int .i64 n),.s (.str i),.s (.int .u32 v4),.s (.int .u16 a),.s (.int .u16 b),.s (.int .u16 c),.s (.int .u16 d),.s (.int .u16 e),.s (.int .u16 f),.s (.int .u16 g),.s (.int .u16 h),.s (.int .i64 j),.s (.str k)]]=>.need (smU l m i k) (.need (ltN v4 4294967296) (.need (ok8 a b c d e f g h) (.need (No j) (.ret (.s (.bool (AG l m n i v4 a b c d e f g h j k))) []))))
 | _=>.fail
def EM(args:List PV):Tr:=Xu (D4 [[0,0,0,0,0,0,0,0,0,0,0,0,0,0,0]] args)
end
section
def Dd0:List PV->Tr
 | [.s (.int .i64 n)]=>.ret (.s (.bool (C34 n))) []
 | _=>.fail
def Dg9:List PV->Tr
 | [.s (.int .i64 n),.s (.bool a)]=>.ret (.s (.int .i64 (Dh4 n a))) []
 | _=>.fail
def FJ:List PV->Tr
 | [.s (.sl b a 1 l),.s (.str s)]=>.need (x4 l isS) (.need (A3 (c9 l)) (.ret (.s (.int .i64 (Bn2 (j9 elS l) s))) []))
 | _=>.fail
def Bb0(args:List PV):Tr:=FJ (D4 [[1],[0]] args)
def FH:List PV->Tr
 | [.s (.sl b a 1 l),.s (.str s)]=>.need (x4 l isS) (.need (A3 (c9 l)) (.ret (.s (.bool (P3 (j9 elS l) s))) []))
 | _=>.fail
def CQ(args:List PV):Tr:=FH (D4 [[1],[0]] args)
def OO:List PV->Tr
 | [.agg [.s (.bool p),.s (.bool o),.s (.bool up),.s (.bool n),.s (.sl m k 1 l)],.agg [.s (.int .i64 j),.s (.str i),.s (.int .u32 v4),.s (.int .u16 a),.s (.int .u16 b),.s (.int .u16 c),.s (.int .u16 d),.s (.int .u16 e),.s (.int .u16 f),.s (.int .u16 g),.s (.int .u16 h)]]=>.need (x4 l isS) (.need (A3 (c9 l)) (.need (A3 (c9 i)) (.need (ltN v4 4294967296) (.need (ok8 a b c d e f g h) (.ret (.s (.bool (II (j9 elS l) (mkH j i v4 (n8 a b c d e f g h))))) [])))))
 | _=>.fail
def DQ(args:List PV):Tr:=OO (D4 [[0,0,0,0,1],[0,0,0,0,0,0,0,0,0,0,0]] args)
def EQ:List PV->Tr
 | [.agg [.s (.bool p),.s (.bool o),.s (.bool up),.s (.bool n),.s (.sl m k 1 l)],.agg [.s (.int .i64 j),.s (.str i),.s (.int .u32 v4),.s (.int .u16 a),.s (.int .u16 b),.s (.int .u16 c),.s (.int .u16 d),.s (.int .u16 e),.s (.int .u16 f),.s (.int .u16 g),.s (.int .u16 h)]]=>.need (x4 l isS) (.need (A3 (c9 l)) (.need (A3 (c9 i)) (.need (ltN v4 4294967296) (.need (ok8 a b c d e f g h) (.ret (.s (.bool (II (j9 elS l) (mkH j i v4 (n8 a b c d e f g h))))) [])))))
 | _=>.fail
def QD(args:List PV):Tr:=EQ (D4 [[0,0,0,0,1],[0,0,0,0,0,0,0,0,0,0,0]] args)
end
section
def PI:List PV->Tr
 | [.s (.int .u8 c)]=>.ret (.s (.bool (Bn5 c))) []
 | _=>.fail
def Bz5(args:List PV):Tr:=PI (D4 [[0]] args)
def EB:List PV->Tr
 | [.s (.int .u8 c)]=>.ret (.s (.bool (HW c))) []
 | _=>.fail
def A97(args:List PV):Tr:=EB (D4 [[0]] args)
def FQ:List PV->Tr
 | [.s (.str s)]=>.need (A3 (c9 s)) (.ret (.s (.sl (x9 (R5 s)) (x9 (R5 s)) 1 (C1 (R5 s)))) [])
 | _=>.fail
def RC(args:List PV):Tr:=FQ (D4 [[0]] args)
def ON:List PV->Tr
 | [.s (.str t)]=>.ret (.fnr (w6 71) [] [.ptr 0 0 0]) [.box [.s (.str t)]]
 | _=>.fail
def Al1(args:List PV):Tr:=ON (D4 [[0]] args)
def CN:List PV->List Blk->Option (Bool × List (List PV))
 | [.yd,.ptr 0 0 0],[.box [.s (.str t)]]=>some ((A3 (c9 t)),j9 (λ(x:By)=>([.s (.str x)]:List PV)) (On t))
 | _,_=>none
def Xo:List PV->Tr
 | [.s (.sl b a 1 l)]=>.need (x4 l isS) (.need (o8 (c9 l) 1000) (.ret (.tup [.agg [.s (.bool (P3 ((K9 (j9 elS l))).1 JQ)),.s (.bool (P3 ((K9 (j9 elS l))).1 CF)),.s (.sl (x9 ((K9 (j9 elS l))).1) (x9 ((K9 (j9 elS l))).1) 1 (C1 ((K9 (j9 elS l))).1))],.s (.int .i64 ((K9 (j9 elS l))).2)]) []))
 | _=>.fail
def DP(args:List PV):Tr:=Xo (D4 [[1]] args)
def Ub:SV->List (List SV)->Bool × List (List SV)
 | .nilp,l=>(((x4 l isS)&&(A3 (c9 l))),(C1 (R6 (j9 elS l))))
 | _,_=>(false,[])
def Ll:List PV->List Blk->Tr
 | [.fl 0],[.arr z 9 1 l]=>.need (x4 l isS) (.need (A3 (c9 l)) (.ret (.fl 0) [.arr z 9 1 (C1 (ae0 (j9 elS l)))]))
 | _,_=>.fail
def Xn:List PV->Tr
 | [.s (.sl b a 2 l)]=>.need (x4 l UF) (.need (x4 l Ah8) (.need (A3 (c9 l)) (.ret (.tup [.agg [.s (.bool (cS (R3 (j9 U4 l)))),.s (.bool (cP (R3 (j9 U4 l)))),.s (.bool (cU (R3 (j9 U4 l)))),.s (.bool (cB (R3 (j9 U4 l)))),.fl 0],.s (.int .i64 (cE (R3 (j9 U4 l))))]) [.arr true 9 1 (C1 (cH (R3 (j9 U4 l))))])))
 | _=>.fail
def DO(args:List PV):Tr:=Xn (D4 [[2]] args)
def Rx:List PV->Tr
 | []=>.ret (.s (.bool true)) []
 | _=>.fail
def Xm(args:List PV):Tr:=Rx (D4 [] args)
end
end
section
open Go
abbrev hN(p:C3 × Nat):By:=p.1.name
abbrev hV(p:C3 × Nat):Int:=(p.1.v4:Int)
abbrev hA(p:C3 × Nat)(i:Nat):Int:=(p.1.v6.getD i 0:Int)
abbrev e0:By:=[]
end
section
open Go Go.Proofs
set_option maxRecDepth 100000
section
variable {W R : Type} (Y : Nat) (J : F4) (Q : Yh W) (s : W) (k : Out -> St W -> Option R)
noncomputable def Ap2(Y:Nat):Cfg:=C8 Y [148] (A4 []) []
 (A4 [(1,[2]),(0,[0])]) [] (A4 []) (some [2]) [] [] []
noncomputable def Cq9{R:Type}(Y:Nat)(a:Int)(b:Bool->Option R):Option R:=
 cond (a==32)
 (b true)
 (b (a==9))
theorem Cr0(d:Nat)(b0):evC (Ap2 Y) (d+1) W Q 148 [p8 b0] [] s=Cq9 Y b0 (λa=>some (pB a,[],s)):=by refine(evE (fn:=Tryz.f148) (by kernel_rfl)).trans ?_;generalize evC (Ap2 Y) d=J;unfold Cq9;kernel_rfl
noncomputable def RV(Y:Nat):Cfg:=C8 Y [115] (A4 []) [(148,Bz5)]
 (A4 [(1,[2]),(0,[0])]) [148] (A4 []) (some [2]) [] [] []
noncomputable def Be0{R:Type}(Y:Nat)(a:Int)(b:Bool->Option R):Option R:=
 cond (Bn5 a)
 (b true)
 (cond (a==10)
  (b true)
  (cond (a==12)
  (b true)
  (b (a==13))))
theorem B72(d:Nat)(b0):evC (RV Y) (d+1) W Q 115 [p8 b0] [] s=Be0 Y b0 (λa=>some (pB a,[],s)):=by refine(evE (fn:=Tryz.f115) (by kernel_rfl)).trans ?_;generalize evC (RV Y) d=J;unfold Be0;kernel_rfl
noncomputable abbrev Lo:Code:=E0 ah1
noncomputable def W3(Y:Nat):Cfg:=C8 Y [72] (A4 [(4,[0,1,0,0,0])]) [(115,A97)]
 (A4 [(10,[2]),(5,[0,2,0,0]),(9,[0,2,0,0]),(8,[0,2,1]),(7,[0,2,0,0,19]),(6,[0,2,0,0,16]),(4,[0,2,0,0,3]),(3,[0,2,0,0]),(2,[0,2,0]),(1,[0,2]),(0,[0])]) [115] (A4 [(0,[3]),(1,[0,2,0,0])]) (some [2]) [] [] []
noncomputable def Lh{R:Type}(c:By)(a b:Int)(d:LL)(e:By->Int->Int->LL->Option R):Option R:=
 cond (ltI a b)
 (cond (K5 a b c.length)
  (cond (F8 (d.length+1))
  (e c (A1 (b+1)) b (d++[[(SV.str (cut c a b))]]))
  none)
  none)
 (e c (A1 (b+1)) b d)
abbrev Tv(b:Code):Prop:=∀(k:Out->St W->Option R) d a c b3 l4,A9 (W3 Y) J Q b ⟨gp [(0,pS d),(2,.fl 0),(0,pI a),(0,pI c),(16,pB b3)] 13,[.arr true 9 1 l4],s⟩ k =
 Lh d a c l4 (λd a c e=>k .normal ⟨gp [(0,pS d),(2,.fl 0),(0,pI a),(0,pI c)] 30,[.arr true 9 1 e],s⟩)
theorem Aj9:Tv (R:=R) Y J Q s (cd [1,1,1,0,1,0,0,1,0,0,1] Lo):=by intro k e a c b d;unfold Lh;kernel_rfl
noncomputable def Y8{R:Type}(Y n:Nat)(e:By)(a d:Int)(g:LL)(f:LL->Option R):Option R:=match n with
 | 0=>none
 | n+1=>
  cond (not (ltI (e.length:Int) d))
   (cond (ltI d (e.length:Int))
   (cond (inR d e.length)
    (cond (not (HW (bAt e d)))
    (Y8 Y n e a (A1 (d+1)) g f)
    (Lh e a d g (λm b h j=>Y8 Y n m b (A1 (h+1)) j f)))
    none)
   (Lh e a d g (λo c i l=>Y8 Y n o c (A1 (i+1)) l f)))
   (f g)
theorem Ak0(a:Code)(c:Tv (R:=R) Y J Q s a)(n:Nat)(g:By)(b f:Int)(h:LL):E7 1 ((W3 Y).keep 4) (bd (W3 Y) J Q (cd [1,1,1,0,1,0,0] (K4 [1,1,1,0,1,0,0,1,0,0,1] a Lo))) n ⟨gp [(0,pS g),(2,.fl 0),(0,pI b),(0,pI f)] 30,[.arr true 9 1 h],s⟩ k =
 Y8 Y n g b f h (λt=>k (.exit 0) ⟨gp [(3,.fl 0)] 32,[.arr true 9 1 t],s⟩):=by
 induction n generalizing g b f h with
 | zero=>rfl
 | succ n l=>rw[Y8];exact let r:=(F9 1 (G6 (W3 Y) J Q (cd [1,1,1,0,1,0,0,1,1] Lo) (lpK 1 ((W3 Y).keep 4) (bd (W3 Y) J Q (cd [1,1,1,0,1,0,0] (K4 [1,1,1,0,1,0,0,1,0,0,1] a Lo))) n k)));(j5 (by kernel_rfl) (A0 (A0 (A0 (A0 (l g b (A1 (f+1)) h) ((c r g b f (not (HW (bAt g f))) h).trans (congr rfl (fx4 λp d i m=>(j5 (by kernel_rfl) (l p d (A1 (i+1)) m)))))) rfl) ((c r g b f false h).trans (congr rfl (fx4 λq e j o=>(j5 (by kernel_rfl) (l q e (A1 (j+1)) o)))))) rfl))
noncomputable def Aj8{R:Type}(Y:Nat)(c:By)(b:LL->(List Blk)->Option R):Option R:=
 Y8 Y Y c 0 0 [] (λa=>b a [])
theorem Ch0(a:Code)(b:Tv (R:=PV × List Blk × W) Y J Q s a)(c:By):A9 (W3 Y) J Q (cd [] (K4 [1,1,1,0,1,0,0,1,0,0,1] a Lo)) ⟨[pS c]++tps 35,[],s⟩ (I1 (W3 Y) ah1)=Aj8 Y c (λe d=>some (.fl 0,(.arr true 9 1 e::d),s)):=by unfold Aj8;exact(j5 (by kernel_rfl) ((Ak0 Y J Q s (F9 0 (G6 (W3 Y) J Q (cd [1,1,1,1] Lo) (I1 (W3 Y) ah1))) a b Y c 0 0 []).trans (by kernel_rfl)))
theorem Ch1(d:Nat)(s0):evC (W3 Y) (d+1) W Q 72 [pS s0] [] s=Aj8 Y s0 (λb a=>some (.fl 0,(.arr true 9 1 b::a),s)):=
 (evE (fn:=ah1) (by kernel_rfl)).trans (j5 (by kernel_rfl) (Ch0 Y (evC (W3 Y) d) Q s (cd [1,1,1,0,1,0,0,1,0,0,1] Lo) (Aj9 Y (evC (W3 Y) d) Q s) s0))
noncomputable abbrev Bh6(c:By):Option (PV × List Blk × Unit):=Aj8 LF c (λb a=>some (.fl 0,(.arr true 9 1 b::a),()))
noncomputable def Ao2(Y:Nat):Cfg:=C8 Y [40] (A4 []) []
 (A4 [(1,[2]),(0,[1])]) [] (A4 []) (some [2]) [] [] []
noncomputable def C58{R:Type}(Y:Nat)(a:By)(b:By->(List Blk)->Option R):Option R:=
 b a []
theorem Cm3(d:Nat)(value0):evC (Ao2 Y) (d+1) W Q 40 [pS value0] [] s=C58 Y value0 (λb a=>some (.fnr (w6 71) [] [.ptr 0 0 0],(.box [pS b]::a),s)):=by refine(evE (fn:=Tryz.f40) (by kernel_rfl)).trans ?_;generalize evC (Ao2 Y) d=J;unfold C58;kernel_rfl
noncomputable abbrev Bt:Code:=E0 ag9
noncomputable def O6(Y:Nat):Cfg:=C8 Y [20] (A4 [(4,[2,0,0,0,4,0,0])]) [(40,Al1),(16,CQ)]
 (A4 [(16,[2,0]),(15,[2,1]),(14,[2,1]),(13,[2,1,0,4,0,0]),(12,[2,1,0,4,0,0]),(11,[2,1,0,2,1,0,0]),(10,[2,1,0,2,1,0,0,13]),(9,[2,1,0,2,1,0,0]),(8,[2,1,0,4,0,0,8]),(7,[2,0]),(6,[2,1,0,1,2,0,0,5]),(5,[2,1,0,1,2,0,0]),(4,[2,1,0,4,0,0,0]),(3,[2,1,0,4,0,0]),(2,[0,1,1,0]),(1,[0,1,1]),(0,[0,1])]) [16] (A4 [(0,[2,1]),(1,[2,1,0,4,0,0]),(2,[2,1,0,4,0,0]),(3,[2,1,0,4,0,0])]) (some [2,0]) [] [(71,CN)] [] (nt:=[(52,2,9,1),(1000052,2,9,1),(1000022,0,9,1)])
noncomputable def Lz{R:Type}(Y:Nat)(a:By)(xs:List By)(self:Bool->Bool->LL->Int->Int->LL->MS->Option R)(h g:Bool)(d:LL)(e f:Int)(c:LL)(b:MS)(i:Bool->Bool->LL->Int->Int->LL->MS->Option R):Option R:=
 cond ((!(Y1 b a))||(Ct3 ⟨true,false,[.bool]⟩ (W6 [] b a)))
 (cond (not ((Y1 b a)&&(SV.gB (v8 (W6 [] b a) 0 SV.nilp))))
  (cond (F8 (c.length+1))
  (self h g d e f (c++[[(SV.str a)]]) (Cb b a [(SV.bool true)]))
  none)
  (self h g d e f c b))
 none
noncomputable def Kh{R:Type}(Y:Nat)(L:List By)(h f:Bool)(a:LL)(c d:Int)(b:LL)(e:MS)(i:Bool->Bool->LL->Int->Int->LL->MS->Option R):Option R:=
 Cb1 (α:=Bool->Bool->LL->Int->Int->LL->MS->Option R) i (λg xs self h f a c d b e=>Lz Y g xs self h f a c d b e i) L h f a c d b e
theorem AV{R:Type}(Y:Nat)(a:By)(xs:List By)(h g:Bool)(b:LL)(d e:Int)(c:LL)(f:MS)(i:Bool->Bool->LL->Int->Int->LL->MS->Option R):Kh Y (a::xs) h g b d e c f i=Lz Y a xs (λh g b d e c f=>Kh Y xs h g b d e c f i) h g b d e c f i:=rfl
theorem TM(L:List By)(f e:Bool)(b:LL)(c d:Int)(g:LL)(h:MS):S6 #[22] (gp [(2,.ptr 1 0 0),(1,.ptr 3 0 0),(0,.ptr 5 0 0),(4,.s (.sl f e 1 b)),(0,pI c),(0,pI d),(8,.fnr (w6 71) [] [.bad])] 23) (bd (O6 Y) J Q (cd [1,1,1,0,1,0,0,1,1,0,0,1,1,1,0,0] Bt)) (bd (O6 Y) J Q (cd [1,1,1,0,1,0,0,1,1,0,0,1,1,1,0,1] Bt)) (L.map (λ(a:By)=>([pS a]:List PV))) [.arr true 9 1 [],.box [pB false,pB false,.fl 0],.arr true 9 1 g,.box [pB false,pB false,.fl 2],.ms false h,.box [.it 4],.dead] s (rgK (gp [(2,.ptr 1 0 0),(1,.ptr 3 0 0),(0,.ptr 5 0 0),(4,.s (.sl f e 1 b)),(0,pI c),(0,pI d),(8,.fnr (w6 71) [] [.bad])] 23) (λH=>U1 H [6] [.box [.bad]]) k) =
 Kh Y L f e b c d g h (λf e b c d g h=>k .normal ⟨gp [(2,.ptr 1 0 0),(1,.ptr 3 0 0),(0,.ptr 5 0 0),(4,.s (.sl f e 1 b)),(0,pI c),(0,pI d),(8,.fnr (w6 71) [] [.bad])] 23,[.arr true 9 1 [],.box [pB false,pB false,.fl 0],.arr true 9 1 g,.box [pB false,pB false,.fl 2],.ms false h,.box [.it 4],.box [.bad]],s⟩):=by
 induction L generalizing f e b c d g h with
 | nil=>rfl
 | cons a xs i=>rw[AV];unfold Lz;exact(j5 (by kernel_rfl) (A0 (A0 (A0 (i f e b c d (g++[[(SV.str a)]]) (Cb h a [(SV.bool true)])) rfl) (i f e b c d g h)) rfl))
noncomputable def Kg{R:Type}(Y:Nat)(i h:Bool)(c:LL)(e f:Int)(d:LL)(g:MS)(a:By)(b:Bool->Bool->LL->Int->Int->LL->MS->Option R):Option R:=
 cond (A3 a.length) (Kh Y (On a) i h c e f d g b) none
abbrev Ol(b:Code):Prop:=∀(k:Out->St W->Option R) h g a d e c f s7,A9 (O6 Y) J Q b ⟨gp [(2,.ptr 1 0 0),(1,.ptr 3 0 0),(0,.ptr 5 0 0),(4,.s (.sl h g 1 a)),(0,pI d),(0,pI e),(8,.fnr (w6 71) [] [.ptr 6 0 0])] 23,[.arr true 9 1 [],.box [pB false,pB false,.fl 0],.arr true 9 1 c,.box [pB false,pB false,.fl 2],.ms false f,.box [.it 4],.box [pS s7]],s⟩ k =
 Kg Y h g a d e c f s7 (λh g a d e c f=>k .normal ⟨gp [(2,.ptr 1 0 0),(1,.ptr 3 0 0),(0,.ptr 5 0 0),(4,.s (.sl h g 1 a)),(0,pI d),(0,pI e),(8,.fnr (w6 71) [] [.bad])] 23,[.arr true 9 1 [],.box [pB false,pB false,.fl 0],.arr true 9 1 c,.box [pB false,pB false,.fl 2],.ms false f,.box [.it 4],.box [.bad]],s⟩)
theorem TL:Ol (R:=R) Y J Q s (cd [1,1,1,0,1,0,0,1,1,0,0,1,1,1,0] Bt):=by intro k h g a c d b e f;unfold Kg;exact((Bc6 [1,1,1,0,1,0,0,1,1,0,0,1,1,1,0] (by kernel_rfl)).trans (by kernel_rfl)).trans (Mj (TM Y J Q s k (On f) h g a c d b e))
noncomputable def O0{R:Type}(Y n:Nat)(r q:Bool)(b:LL)(p a:Int)(e:LL)(i:MS)(m:Blk->Blk->Blk->Blk->Blk->(List Blk)->Option R)(o:LL->MS->Option R):Option R:=match n with
 | 0=>none
 | n+1=>
  cond (ltI a p)
   (cond (inR a b.length)
   (cond (okE Ia b (j8 a) 0)
    (cond (ltI 4096 (↑(c9 (gX b (j8 a) 0)):Int))
    (m (Blk.arr true 9 1 []) (Blk.arr true 9 1 e) (Blk.box [(PV.s (SV.bool false)),(PV.s (SV.bool false)),(PV.fl 2)]) (Blk.ms false i) (Blk.box [(PV.it 4)]) [])
    (Kg Y r q b p a e i (gX b (j8 a) 0) (λl j c f g d h=>O0 Y n l j c f (A1 (g+1)) d h m o)))
    none)
   none)
   (o e i)
theorem TN(a:Code)(b:Ol (R:=R) Y J Q s a)(n:Nat)(i h:Bool)(c:LL)(f d:Int)(e:LL)(g:MS):E7 6 ((O6 Y).keep 4) (bd (O6 Y) J Q (cd [1,1,1,0,1,0,0] (K4 [1,1,1,0,1,0,0,1,1,0,0,1,1,1,0] a Bt))) n ⟨gp [(2,.ptr 1 0 0),(1,.ptr 3 0 0),(0,.ptr 5 0 0),(4,.s (.sl i h 1 c)),(0,pI f),(0,pI d)] 32,[.arr true 9 1 [],.box [pB false,pB false,.fl 0],.arr true 9 1 e,.box [pB false,pB false,.fl 2],.ms false g,.box [.it 4]],s⟩ k =
 O0 Y n i h c f d e g (λt u v w x y=>k .ret ⟨gp [(2,.ptr 1 0 0),(0,pI (3:Int))] 41,(t::.box [pB false,pB false,.fl 6]::u::v::w::x::.arr true 9 1 []::y),s⟩) (λA B=>k (.exit 0) ⟨gp [(2,.ptr 1 0 0),(1,.ptr 3 0 0)] 40,[.arr true 9 1 [],.box [pB false,pB false,.fl 0],.arr true 9 1 A,.box [pB false,pB false,.fl 2],.ms false B,.box [.it 4]],s⟩):=by
 induction n generalizing i h c f d e g with
 | zero=>rfl
 | succ n z=>rw[O0];exact(j5 (by kernel_rfl) (A0 (A0 (A0 (A0 rfl ((b (F9 2 (F9 1 (G6 (O6 Y) J Q (cd [1,1,1,0,1,0,0,1,1,1] Bt) (lpK 6 ((O6 Y).keep 4) (bd (O6 Y) J Q (cd [1,1,1,0,1,0,0] (K4 [1,1,1,0,1,0,0,1,1,0,0,1,1,1,0] a Bt))) n k)))) i h c f d e g (gX c (j8 d) 0)).trans (congr rfl (fx7 λr q j m o l p=>(j5 (by kernel_rfl) (z r q j m (A1 (o+1)) l p)))))) rfl) rfl) rfl))
noncomputable def GS{R:Type}(Y:Nat)(d c:Bool)(b:LL)(m:Blk->Blk->Blk->Blk->Blk->Blk->(List Blk)->Option R)(n:Bool->Bool->Blk->Blk->LL->(List Blk)->Option R):Option R:=
 O0 Y Y d c b (b.length:Int) 0 [] [] (λj l e f g h=>m j (Blk.box [(PV.s (SV.bool false)),(PV.s (SV.bool false)),(PV.fl 6)]) l e f g h) (λa i=>cond (x4 a isS)
 (cond (A3 a.length)
  (cond (x4 a isS)
  (cond (A3 a.length)
   (n (P3 (j9 elS a) ([117,112,103,114,97,100,101,45,105,110,115,101,99,117,114,101,45,114,101,113,117,101,115,116,115]:List UInt8)) (P3 (j9 elS a) ([98,108,111,99,107,45,97,108,108,45,109,105,120,101,100,45,99,111,110,116,101,110,116]:List UInt8)) (Blk.arr true 9 1 []) (Blk.box [(PV.s (SV.bool (P3 (j9 elS a) ([117,112,103,114,97,100,101,45,105,110,115,101,99,117,114,101,45,114,101,113,117,101,115,116,115]:List UInt8)))),(PV.s (SV.bool (P3 (j9 elS a) ([98,108,111,99,107,45,97,108,108,45,109,105,120,101,100,45,99,111,110,116,101,110,116]:List UInt8)))),(PV.fl 2)]) a [(Blk.box [(PV.s (SV.bool (P3 (j9 elS a) ([117,112,103,114,97,100,101,45,105,110,115,101,99,117,114,101,45,114,101,113,117,101,115,116,115]:List UInt8)))),(PV.s (SV.bool (P3 (j9 elS a) ([98,108,111,99,107,45,97,108,108,45,109,105,120,101,100,45,99,111,110,116,101,110,116]:List UInt8)))),(PV.fl 2)]),(Blk.ms false i),(Blk.box [(PV.it 4)])])
   none)
  none)
  none)
 none)
theorem Bk1(a:Code)(e:Ol (R:=PV × List Blk × W) Y J Q s a)(c b:Bool)(d:LL):A9 (O6 Y) J Q (cd [] (K4 [1,1,1,0,1,0,0,1,1,0,0,1,1,1,0] a Bt)) ⟨[.s (.sl c b 1 d)]++tps 44,[],s⟩ (I1 (O6 Y) ag9)=GS Y c b d (λh i f g j l n=>some (.tup [.agg [pB false,pB false,.fl 6],pI (3:Int)],(h::i::f::g::j::l::.arr true 9 1 []::n),s)) (λp q f g o m=>some (.tup [.agg [pB p,pB q,.fl 2],pI (0:Int)],(f::g::.arr true 9 1 o::m),s)):=by unfold GS;exact(j5 (by kernel_rfl) ((TN Y J Q s (F9 0 (G6 (O6 Y) J Q (cd [1,1,1,1] Bt) (I1 (O6 Y) ag9))) a e Y c b d (d.length:Int) 0 [] []).trans (by kernel_rfl)))
theorem Bk2(d:Nat)(values_z0 values_t1 values2):evC (O6 Y) (d+1) W Q 20 [.s (.sl values_z0 values_t1 1 values2)] [] s=GS Y values_z0 values_t1 values2 (λc e a b f g i=>some (.tup [.agg [pB false,pB false,.fl 6],pI (3:Int)],(c::e::a::b::f::g::.arr true 9 1 []::i),s)) (λl m a b j h=>some (.tup [.agg [pB l,pB m,.fl 2],pI (0:Int)],(a::b::.arr true 9 1 j::h),s)):=
 (evE (fn:=ag9) (by kernel_rfl)).trans (j5 (by kernel_rfl) (Bk1 Y (evC (O6 Y) d) Q s (cd [1,1,1,0,1,0,0,1,1,0,0,1,1,1,0] Bt) (TL Y (evC (O6 Y) d) Q s) values_z0 values_t1 values2))
noncomputable abbrev ZH(b a:Bool)(c:LL):Option (PV × List Blk × Unit):=GS LF b a c (λf g d e h i l=>some (.tup [.agg [pB false,pB false,.fl 6],pI (3:Int)],(f::g::d::e::h::i::.arr true 9 1 []::l),())) (λn o d e m j=>some (.tup [.agg [pB n,pB o,.fl 2],pI (0:Int)],(d::e::.arr true 9 1 m::j),()))
noncomputable def Vp{R:Type}(Y n:Nat)(e d:Bool)(b:LL)(a:Int)(f:Unit->Option R)(h:Unit->Option R):Option R:=match n with
 | 0=>none
 | n+1=>
  cond (ltI a (b.length:Int))
   (cond (inR a b.length)
   (cond (okE Ia b (j8 a) 0)
    (cond (ltI 3000 (↑(c9 (gX b (j8 a) 0)):Int))
    (f ())
    (cond (inR a b.length)
     (cond (okE ⟨true,false,[.sl 1]⟩ b (j8 a) 1)
     (vl (SV.gE (gC b (j8 a) 1)) λg=>
      cond (ltI 6 (g.length:Int))
      (f ())
      (cond (inR a b.length)
       (cond (okE ⟨true,false,[.sl 1]⟩ b (j8 a) 1)
       (vl (SV.gE (gC b (j8 a) 1)) λc=>
        cond (x4 c isS)
        (cond (A3 c.length)
         (cond (not (Er (5000:Int) (j9 elS c)))
         (f ())
         (Vp Y n e d b (A1 (a+1)) f h))
         none)
        none)
       none)
       none))
     none)
     none))
    none)
   none)
   (h ())
noncomputable def Df0{R:Type}(Y:Nat)(b a:Bool)(d:LL)(c:Bool->Option R):Option R:=
 cond (ltI 20 (d.length:Int))
 (c false)
 (Vp Y Y b a d 0 (λ_=>c false) (λ_=>c true))
noncomputable abbrev An:Code:=E0 ah0
noncomputable def T4(Y:Nat):Cfg:=C8 Y [71] (A4 []) [(59,FI),(72,RC),(66,EG)]
 (A4 [(6,[2,22]),(5,[2,2]),(4,[2,1]),(3,[2,7]),(2,[2,0]),(1,[2,4]),(0,[1,0])]) [66] (A4 [(0,[]),(1,[2]),(2,[2]),(3,[2])]) (some []) [] [(126,Py)] []
noncomputable def Ge{W R:Type}(Q:Yh W)(Y:Nat)(a:By)(xs:List By)(self:By->W->Option R)(e:By)(s:W)(g:By->W->Option R)(f:By->W->Option R):Option R:=
 cond (A3 a.length)
 (cond (ltI 0 (↑(c9 (C1 (R5 a))):Int))
  (cond (inR 0 (c9 (C1 (R5 a))))
  (cond (okE Ia (C1 (R5 a)) 0 0)
   (vl (gX (C1 (R5 a)) 0 0) λd=>
   cond (A3 d.length)
    (ydK (Q [pS (D3 d)] s) λc b=>
    (cond (not c)
     (f e b)
     (self e b)))
    none)
   none)
  none)
  (self e s))
 none
noncomputable def Q1{W R:Type}(Q:Yh W)(Y:Nat)(L:List By)(a:By)(s:W)(c:By->W->Option R)(d:By->W->Option R):Option R:=
 Cb1 (α:=By->W->Option R) c (λb xs self a s=>Ge Q Y b xs self a s c d) L a s
theorem Aq2{W R:Type}(Q:Yh W)(Y:Nat)(a:By)(xs:List By)(b:By)(s:W)(c:By->W->Option R)(d:By->W->Option R):Q1 Q Y (a::xs) b s c d=Ge Q Y a xs (λb s=>Q1 Q Y xs b s c d) b s c d:=rfl
theorem ZF(L:List By)(a:By)(s:W):S6 #[11] (gp [(2,.ptr 1 0 0),(7,.fnr (w6 126) [] [.bad,.bad,.bad])] 15) (bd (T4 Y) J Q (cd [1,1,0,1,0,1,0,0] An)) (bd (T4 Y) J Q (cd [1,1,0,1,0,1,0,1] An)) (L.map (λ(c:By)=>([pS c]:List PV))) [.box [pS a],.box [.yd],.dead,.dead,.dead,.dead,.dead,.dead] s (rgK (gp [(2,.ptr 1 0 0),(7,.fnr (w6 126) [] [.bad,.bad,.bad])] 15) (λH=>U1 H [6,5,7] [.box [.bad],.box [.bad],.box [.bad]]) k) =
 Q1 Q Y L a s (λa s=>k .normal ⟨gp [(2,.ptr 1 0 0),(7,.fnr (w6 126) [] [.bad,.bad,.bad])] 15,[.box [pS a],.box [.yd],.dead,.dead,.dead,.box [.bad],.box [.bad],.box [.bad]],s⟩) (λa s=>k .ret ⟨gp [(2,.ptr 1 0 0),(7,.fnr (w6 126) [] [.bad,.bad,.bad])] 15,[.box [pS a],.box [.yd],.dead,.dead,.dead,.box [.bad],.box [.bad],.box [.bad]],s⟩):=by
 induction L generalizing a s with
 | nil=>rfl
 | cons c xs e=>rw[Aq2];unfold Ge;exact(j5 (by kernel_rfl) (A0 (A0 (A0 (A0 (A7 λf=>(A0 (Ck7 λd b=>(A0 rfl (e a b))) rfl)) rfl) rfl) (e a s)) rfl))
noncomputable def Uo{W R:Type}(Q:Yh W)(Y:Nat)(d a:By)(s:W)(b:By->W->Option R)(c:By->W->Option R):Option R:=
 cond ((A3 a.length)&&((1==1)&&((0:Int)==0))) (Q1 Q Y (pcs (v8 ([59]:List UInt8) 0 0) a) d s b c) none
abbrev Sw(b:Code):Prop:=∀(k:Out->St W->Option R) a s1 s,A9 (T4 Y) J Q b ⟨gp [(2,.ptr 1 0 0),(7,.fnr (w6 126) [] [.ptr 6 0 0,.ptr 5 0 0,.ptr 7 0 0])] 15,[.box [pS a],.box [.yd],.dead,.dead,.dead,.box [pS s1],.box [pS ([59]:List UInt8)],.box [pI (0:Int)]],s⟩ k =
 Uo Q Y a s1 s (λa s=>k .normal ⟨gp [(2,.ptr 1 0 0),(7,.fnr (w6 126) [] [.bad,.bad,.bad])] 15,[.box [pS a],.box [.yd],.dead,.dead,.dead,.box [.bad],.box [.bad],.box [.bad]],s⟩) (λa s=>k .ret ⟨gp [(2,.ptr 1 0 0),(7,.fnr (w6 126) [] [.bad,.bad,.bad])] 15,[.box [pS a],.box [.yd],.dead,.dead,.dead,.box [.bad],.box [.bad],.box [.bad]],s⟩)
theorem ZC:Sw (R:=R) Y J Q (cd [1,1,0,1,0,1,0] An):=by intro k a b s;unfold Uo;exact((Bc6 [1,1,0,1,0,1,0] (by kernel_rfl)).trans (by kernel_rfl)).trans (Mj (ZF Y J Q k (pcs (v8 ([59]:List UInt8) 0 0) b) a s))
noncomputable def Kf{W R:Type}(Q:Yh W)(Y:Nat)(a:By)(xs:List By)(self:By->W->Option R)(c:By)(s:W)(d:By->W->Option R)(b:By->W->Option R):Option R:=
 Uo Q Y c a s self b
noncomputable def X5{W R:Type}(Q:Yh W)(Y:Nat)(L:List By)(a:By)(s:W)(c:By->W->Option R)(d:By->W->Option R):Option R:=
 Cb1 (α:=By->W->Option R) c (λb xs self a s=>Kf Q Y b xs self a s c d) L a s
theorem Aq3{W R:Type}(Q:Yh W)(Y:Nat)(a:By)(xs:List By)(b:By)(s:W)(c:By->W->Option R)(d:By->W->Option R):X5 Q Y (a::xs) b s c d=Kf Q Y a xs (λb s=>X5 Q Y xs b s c d) b s c d:=rfl
theorem ZG(a:Code)(b:Sw (R:=R) Y J Q a)(L:List By)(d:By)(s:W):S6 #[8] (gp [(2,.ptr 1 0 0),(4,.fnr (w6 126) [] [.bad,.bad,.bad])] 18) (bd (T4 Y) J Q (cd [1,1,0,0] An)) (bd (T4 Y) J Q (cd [1,1,0,1] (K4 [1,1,0,1,0,1,0] a An))) (L.map (λ(c:By)=>([pS c]:List PV))) [.box [pS d],.box [.yd],.dead,.dead,.dead] s (rgK (gp [(2,.ptr 1 0 0),(4,.fnr (w6 126) [] [.bad,.bad,.bad])] 18) (λH=>U1 H [3,2,4] [.box [.bad],.box [.bad],.box [.bad]]) k) =
 X5 Q Y L d s (λd s=>k .normal ⟨gp [(2,.ptr 1 0 0),(4,.fnr (w6 126) [] [.bad,.bad,.bad])] 18,[.box [pS d],.box [.yd],.box [.bad],.box [.bad],.box [.bad]],s⟩) (λd s=>k .ret ⟨gp [(2,.ptr 1 0 0),(4,.fnr (w6 126) [] [.bad,.bad,.bad])] 18,[.box [pS d],.box [.yd],.box [.bad],.box [.bad],.box [.bad]],s⟩):=by
 induction L generalizing d s with
 | nil=>rfl
 | cons c xs g=>rw[Aq3];unfold Kf;exact(j5 (by kernel_rfl) ((b (F9 2 (F9 1 (rdB #[8] (gp [(2,.ptr 1 0 0),(4,.fnr (w6 126) [] [.bad,.bad,.bad])] 18) (bd (T4 Y) J Q (cd [1,1,0,0] An)) (bd (T4 Y) J Q (cd [1,1,0,1] (K4 [1,1,0,1,0,1,0] a An))) (j9 (λ(c:By)=>([pS c]:List PV)) xs) 5 (rgK (gp [(2,.ptr 1 0 0),(4,.fnr (w6 126) [] [.bad,.bad,.bad])] 18) (λH=>U1 H [3,2,4] [.box [.bad],.box [.bad],.box [.bad]]) k)))) d c s).trans (congr (congr rfl (fx2 λe f=>(j5 (by kernel_rfl) (g e f)))) (by kernel_rfl))))
noncomputable def Up{W R:Type}(Q:Yh W)(Y:Nat)(a:By)(s:W)(b:By->W->Option R)(c:By->W->Option R):Option R:=
 cond ((A3 a.length)&&((1==1)&&((0:Int)==0))) (X5 Q Y (pcs (v8 ([44]:List UInt8) 0 0) a) a s b c) none
abbrev Sx(b:Code):Prop:=∀(k:Out->St W->Option R) a s,A9 (T4 Y) J Q b ⟨gp [(2,.ptr 1 0 0),(4,.fnr (w6 126) [] [.ptr 3 0 0,.ptr 2 0 0,.ptr 4 0 0])] 18,[.box [pS a],.box [.yd],.box [pS a],.box [pS ([44]:List UInt8)],.box [pI (0:Int)]],s⟩ k =
 Up Q Y a s (λa s=>k .normal ⟨gp [(2,.ptr 1 0 0),(4,.fnr (w6 126) [] [.bad,.bad,.bad])] 18,[.box [pS a],.box [.yd],.box [.bad],.box [.bad],.box [.bad]],s⟩) (λa s=>k .ret ⟨gp [(2,.ptr 1 0 0),(4,.fnr (w6 126) [] [.bad,.bad,.bad])] 18,[.box [pS a],.box [.yd],.box [.bad],.box [.bad],.box [.bad]],s⟩)
theorem ZD(a:Code)(b:Sw (R:=R) Y J Q a):Sx (R:=R) Y J Q (cd [1,1,0] (K4 [1,1,0,1,0,1,0] a An)):=by intro k c s;unfold Up;exact((Bc6 [1,1,0] (by kernel_rfl)).trans (by kernel_rfl)).trans (Mj (ZG Y J Q k a b (pcs (v8 ([44]:List UInt8) 0 0) c) c s))
theorem ZE:Sx (R:=R) Y J Q (cd [1,1,0] An):=by intro k a s;exact j5 (by kernel_rfl) (ZD Y J Q (cd [1,1,0,1,0,1,0] An) (ZC Y J Q) k a s)
noncomputable def LT{W R:Type}(Q:Yh W)(Y:Nat)(t:By)(s:W)(a:By->W->Option R):Option R:=
 Up Q Y t s a a
theorem B33(b:Code)(a:Sx (R:=PV × List Blk × W) Y J Q b)(t:By)(s:W):A9 (T4 Y) J Q (cd [] (K4 [1,1,0] b An)) ⟨[.yd,.ptr 0 0 0]++tps 24,[.box [pS t]],s⟩ (I1 (T4 Y) ah0)=LT Q Y t s (λc s=>some (.tup [],[.box [pS c],.box [.yd],.box [.bad],.box [.bad],.box [.bad]],s)):=by unfold LT;exact(j5 (by kernel_rfl) ((a (F9 0 (I1 (T4 Y) ah0)) t s).trans (by kernel_rfl)))
theorem B34(d:Nat)(t s):evC (T4 Y) (d+1) W Q 71 [.yd,.ptr 0 0 0] [.box [pS t]] s=LT Q Y t s (λa s=>some (.tup [],[.box [pS a],.box [.yd],.box [.bad],.box [.bad],.box [.bad]],s)):=
 (evE (fn:=ah0) (by kernel_rfl)).trans (j5 (by kernel_rfl) (B33 Y (evC (T4 Y) d) Q (cd [1,1,0] An) (ZE Y (evC (T4 Y) d) Q) t s))
end
end
section
open Go Go.Op
set_option maxRecDepth 100000
theorem Bn7{R:Type}{a:Bool->Option R}(c:Int):Cq9 LF c a=a (Bn5 c):=by unfold Cq9 Bn5;cases (c==32)<;>rfl
theorem Au1{R:Type}{a:Bool->Option R}(c:Int):Be0 LF c a=a (HW c):=by unfold Be0 HW;cases Bn5 c<;>cases (c==10)<;>cases (c==12)<;>rfl
theorem B40{s:By}{a b:Nat}(h:a<b)(c:b<=s.length):(cut s (a:Int) (b:Int)).isEmpty=false:=by rw[Fa,List.isEmpty_eq_false_iff];intro e;have:=congrArg c9 e;simp at this;omega
theorem A78{R:Type}{k0:LL->Option R}(s:By)(p:s.length<=1000000000):∀(r i a n:Nat) (l:List By),i+r=s.length->r+1<n->a<=i->l.length<=i->
  Y8 LF n s (a:Int) (i:Int) (C1 l) k0=k0 (C1 (l++AK (cut s (a:Int) (i:Int)) (s.drop i))):=by
 intro r
 induction r with
 | zero=>
  intro i a n l j o h k;obtain⟨n,rfl⟩:∃m,n=m+1:=⟨n-1,by omega⟩
  obtain⟨n,rfl⟩:∃m,n=m+1:=⟨n-1,by omega⟩
  have d:i=s.length:=by omega
  subst d;rw[Y8,F1 (by omega),List.drop_length];unfold Lh;have b:A1 ((s.length:Int)+1)=((s.length+1:Nat):Int):=by rw[A5];rfl
  by_cases c:a<s.length
  ·rw[D1 (by omega),W0 (by omega) (by omega) (by omega),C4,F3 (by omega),b];simp only[j4,cond_true,cond_false];rw[Y8,D1 (by omega),AK,B40 c (ab1 _)];simp only[j1,cond_false,ab0,if_false,Eh];rfl
  ·obtain rfl:a=s.length:=by omega
   rw[F1 (by omega),b];simp only[j4,cond_true,cond_false];rw[Y8,D1 (by omega),AK,Sy];simp
 | succ r f=>
  intro i a n l j o h k;obtain⟨n,rfl⟩:∃m,n=m+1:=⟨n-1,by omega⟩
  have b:A1 ((i:Int)+1)=((i+1:Nat):Int):=by rw[A5];rfl
  rw[Y8,F1 (by omega),D1 (by omega),L1 (by omega) (by omega),G8,I8 s i (by omega),b];simp only[j4,cond_true];unfold Lh;have e:HW ((s.getD i 0).toNat:Int)=spB (s.getD i 0):=rfl;rw[e];cases g:spB (s.getD i 0) with
  | false=>
   rw[j4,cond_true,f (i+1) a n l (by omega) (by omega) (by omega) (by omega),C33 s a i h (by omega)];rw[AK,g];rfl
  | true=>
   rw[j1,cond_false,AK,g,if_pos rfl];by_cases c:a<i
   ·rw[D1 (by omega),W0 (by omega) (by omega) (by omega),C4,F3 (by omega),b,B40 c (by omega)];simp only[cond_true,ab0,if_false];have:=f (i+1) (i+1) n (l++[cut s (a:Int) (i:Int)]) (by omega) (by omega) (by omega) (by simp;omega);rw[Sy,x8] at this;rw[b,show C1 l++[[SV.str (cut s (a:Int) (i:Int))]]=C1 (l++[cut s (a:Int) (i:Int)]) by rw[Eh];rfl];exact this
   ·obtain rfl:a=i:=by omega
    rw[F1 (by omega),b,Sy];simp only[cond_false,af5,if_true];have:=f (a+1) (a+1) n l (by omega) (by omega) (by omega) (by omega);rw[Sy] at this;rw[b];exact this
theorem Ch3(s:By)(a:A3 s.length=true):∃r H,Bh6 s=rv r H/\r.stab [1] H = .s (.sl (x9 (R5 s)) (x9 (R5 s)) 1 (C1 (R5 s))):=by
 have c:=N5 a;have b:=E2;have:=A78 (k0:=λl=>some (PV.fl 0,[Blk.arr true 9 1 l],())) s c s.length 0 0 LF [] (by omega) (by omega) (by omega) (by simp);unfold Bh6 Aj8;refine⟨_,_,this,?_⟩;rw[Sy,y8,o9];show PV.stab [1] [Blk.arr true _ 1 (C1 (R5 s))] (.fl 0)=_;simp only[PV.stab,Rh,PV.snap,List.headD_cons,ad0,y9];have:(C1 (R5 s)).isEmpty=(R5 s).isEmpty:=by cases R5 s<;>rfl
 rw[this];rfl
abbrev yS(l:List By):List (List PV):=l.map λx=>[.s (.str x)]
theorem Cx2{d:Type}{b:Yh d}{x:By}{l:List By}{s c:d}(h:Q7 b (yS (x::l)) s=some c) :
  (∃a,b [.s (.str x)] s=some (true,a)/\Q7 b (yS l) a=some c)\/b [.s (.str x)] s=some (false,c):=by
 simp only[yS,x6,Q7] at h;split at h
 ·rename_i a e;exact .inl ⟨a,e,h⟩
 ·rename_i a e;simp only[o0] at h;subst h;exact .inr e
 ·cases h
theorem Ok{i R:Type}(e:Yh i)(d:By)(f:List By)(m:i):∀(L:List By) (s:i),(∀x∈L,A3 x.length=true)->Q7 e (yS (L.flatMap KA++f)) s=some m->
  (∃g,(∀(c a:By->i->Option R),Q1 e LF L d s c a=c d g)/\Q7 e (yS f) g=some m)\/(∀(c a:By->i->Option R),Q1 e LF L d s c a=a d m)
 | [],s,_,h=>.inl ⟨s,λc a=>rfl,h⟩
 | x::xs,s,A,h=>by
  have p:=A x (by simp);have l:∀y∈xs,A3 y.length=true:=λy F=>A y (by simp[F])
  have e0:∀c a:By->i->Option R,Q1 e LF (x::xs) d s c a=Ge e LF x xs (λd s=>Q1 e LF xs d s c a) d s c a:=λ_ _=>rfl
  cases k:R5 x with
  | nil=>
   have j:∀c a:By->i->Option R,Q1 e LF (x::xs) d s c a=Q1 e LF xs d s c a:=λc a=>by
    rw[e0];unfold Ge;rw[p,k];rfl
   have n:KA x=[]:=by unfold KA;rw[k]
   rw[ab2,n,y8] at h;rcases Ok (R:=R) e d f m xs s l h with⟨g,r,t⟩|q
   ·exact .inl ⟨g,λc a=>(j c a).trans (r c a),t⟩
   ·exact .inr λc a=>(j c a).trans (q c a)
  | cons w B=>
   have o:A3 w.length=true:=by
    have z:=(Ch2 p).2;rw[k,Dr] at z;exact(aa5.1 z) w (by simp)
   have j:∀c a:By->i->Option R,Q1 e LF (x::xs) d s c a=ydK (e [pS (D3 w)] s) λb g=>cond (not b) (a d g) (Q1 e LF xs d g c a):=λc a=>by
    rw[e0];unfold Ge;rw[p,k,C4,j2,D1 (by omega),L1 (by omega) (by omega)];have C:okE Ia (C1 (w::B)) 0 0=true:=rfl;have D:gX (C1 (w::B)) 0 0=w:=rfl;rw[C,D];simp only[cond_true,vl];rw[o];rfl
   have n:KA x=[D3 w]:=by unfold KA;rw[k]
   rw[ab2,n,List.singleton_append,ac8] at h;rcases Cx2 h with⟨g,u,H⟩|u
   ·have v:∀c a:By->i->Option R,Q1 e LF (x::xs) d s c a=Q1 e LF xs d g c a:=λc a=>by rw[j,u];rfl
    rcases Ok (R:=R) e d f m xs g l H with⟨G,r,t⟩|q
    ·exact .inl ⟨G,λc a=>(v c a).trans (r c a),t⟩
    ·exact .inr λc a=>(v c a).trans (q c a)
   ·exact .inr λc a=>by rw[j,u];rfl
theorem AU{f R:Type}(d:Yh f)(c:By)(e:List By)(g:f):∀(L:List By) (s:f),(∀x∈L,A3 x.length=true)->Q7 d (yS (L.flatMap (λp=>(pcs 59 p).flatMap KA)++e)) s=some g->
  (∃i,(∀(b a:By->f->Option R),X5 d LF L c s b a=b c i)/\Q7 d (yS e) i=some g)\/(∀(b a:By->f->Option R),X5 d LF L c s b a=a c g)
 | [],s,_,h=>.inl ⟨s,λb a=>rfl,h⟩
 | x::xs,s,m,h=>by
  have n:=m x (by simp);have k:∀y∈xs,A3 y.length=true:=λy l=>m y (by simp[l])
  have j:∀b a:By->f->Option R,X5 d LF (x::xs) c s b a=Q1 d LF (pcs 59 x) c s (λc s=>X5 d LF xs c s b a) a:=λb a=>by
   have e0:X5 d LF (x::xs) c s b a=Kf d LF x xs (λc s=>X5 d LF xs c s b a) c s b a:=rfl;rw[e0];unfold Kf Uo;rw[n];rfl
  have t:∀y∈pcs 59 x,A3 y.length=true:=λy l=>E5 (by have:=(Fj l).2;have:=N5 n;omega)
  rw[ab2,x8] at h;rcases Ok (R:=R) d c _ g (pcs 59 x) s t h with⟨i,o,u⟩|q
  ·rcases AU (R:=R) d c e g xs i k u with⟨z,v,w⟩|r
   ·exact .inl ⟨z,λb a=>by rw[j,o,v],w⟩
   ·exact .inr λb a=>by rw[j,o,r]
  ·exact .inr λb a=>by rw[j,q]
theorem Aq4{d R:Type}(b:Yh d)(t:By)(s c:d)(h:A3 t.length=true)(g:Q7 b ((On t).map λx=>([.s (.str x)]:List PV)) s=some c):∀(a:By->d->Option R),LT b LF t s a=a t c:=by
 intro a;have f:∀y∈pcs 44 t,A3 y.length=true:=λy i=>E5 (by have:=(Fj i).2;have:=N5 h;omega)
 have e:LT b LF t s a=X5 b LF (pcs 44 t) t s a a:=by
  unfold LT Up;rw[h];rfl
 rw[e];rcases AU (R:=R) b t [] c (pcs 44 t) s f (by rw[aa2];exact g) with⟨l,j,k⟩|q
 ·have:l=c:=by simpa[yS,Q7] using k
  rw[j,this]
 ·exact q a a
theorem WS(c:UInt8):∀(s a:By),((M6 c a s).map λx=>x.length+1).sum=a.length+s.length+1
 | [],a=>by simp[M6]
 | b::r,a=>by
  simp only[M6];split
  ·rw[x6,ae5,WS c r []];simp;omega
  ·rw[WS c r (a++[b])];simp;omega
theorem B43(d:By):(KA d).length<=1:=by unfold KA;split<;>simp
theorem HJ{f:By->List By}{g:By->Nat}(h:∀x,(f x).length<=g x):∀l:List By,(l.flatMap f).length<=(l.map g).sum
 | []=>by simp
 | x::l=>by rw[ab2,j6,x6,ae5];have:=h x;have:=HJ h l;omega
theorem Ai9:∀l:List By,(l.map λ_=>1).sum=l.length
 | []=>rfl
 | x::l=>by rw[x6,ae5,Ai9 l,j2];omega
theorem B44(t:By):(On t).length<=t.length+1:=by
 have b:∀p:By,((pcs 59 p).flatMap KA).length<=p.length+1:=λp=>by
  have:=HJ B43 (pcs 59 p);have a:((pcs 59 p).map λ_=>1).sum=(pcs 59 p).length:=Ai9 _;have c:=Iu 59 p;have d:=Gz 59 p;rw[a] at this;omega
 have:=HJ b (pcs 44 t);have a:=WS 44 t [];unfold pcs at this;rw[a] at this;unfold On pcs;simpa using this
theorem Aa0:∀(L a:List By),(L.foldl FU a).length<=a.length+L.length
 | [],a=>by simp
 | x::L,a=>by
  have:=Aa0 L (FU a x);have b:(FU a x).length<=a.length+1:=by unfold FU;cases P3 a x<;>simp
  simp only[ad4,j2];omega
def Ks(l:List By):MS:=l.map λn=>(n,[SV.bool true])
theorem Ac5(x:By):∀l:List By,Y1 (Ks l) x=P3 l x
 | []=>rfl
 | n::l=>by
  have h:=Ac5 x l;unfold Ks at h;simp only[Ks,x6,Y1,P3,aa4,h];rw[ai7 (a:=x) (b:=n)];cases n==x<;>rfl
theorem Ac4(x:By):∀l:List By,P3 l x=true->W6 [] (Ks l) x=[SV.bool true]
 | [],h=>by cases h
 | n::l,h=>by
  simp only[Ks,x6,W6];rw[ai7 (a:=x) (b:=n)];simp only[P3,aa4] at h;cases c:(n==x) with
  | true=>rfl
  | false=>rw[c] at h;exact Ac4 x l h
theorem Ac6(x:By):∀l:List By,P3 l x=false->Cb (Ks l) x [SV.bool true]=Ks (l++[x])
 | [],h=>rfl
 | n::l,h=>by
  simp only[P3,aa4,Bool.or_eq_false_iff] at h;simp only[Ks,x6,Cb,ac8];rw[ai7 (a:=x) (b:=n),h.1,cond_false];have:=Ac6 x l h.2;unfold Ks at this;rw[this]
theorem Ly{R:Type}(z t:Bool)(l:LL)(e f:Int)(d:Bool->Bool->LL->Int->Int->LL->MS->Option R):∀(L a:List By),a.length+L.length<=10000000000->
  Kh LF L z t l e f (C1 a) (Ks a) d=d z t l e f (C1 (L.foldl FU a)) (Ks (L.foldl FU a))
 | [],a,_=>rfl
 | x::L,a,g=>by
  rw[j2] at g;rw[AV];unfold Lz;rw[Ac5];have b:FU a x=cond (P3 a x) a (a++[x]):=rfl;cases c:P3 a x with
  | true=>
   rw[c] at b;rw[Ac4 x a c,ad4,b];exact Ly z t l e f d L a (by omega)
  | false=>
   rw[c] at b;simp only[j4,ai1,cond_true,ad8];rw[C4,F3 (by omega),Ac6 x a c,ad4,b];have:=Ly z t l e f d L (a++[x]) (by simp;omega);rw[Eh] at this;exact this
theorem TO{R:Type}(z t:Bool)(l:List By)(v:l.length<=1000):∀(r i n:Nat) (a:List By),i+r=l.length->r<n->a.length<=i*4098->
  ((IG (l.drop i) a).2=0/\(∀(b:Blk->Blk->Blk->Blk->Blk->(List Blk)->Option R) (c:LL->MS->Option R),O0 LF n z t (C1 l) (l.length:Int) (i:Int) (C1 a) (Ks a) b c=c (C1 (IG (l.drop i) a).1) (Ks (IG (l.drop i) a).1))/\(IG (l.drop i) a).1.length<=4098000)\/
  (IG (l.drop i) a=([],3)/\∃w x y A B H,∀(b:Blk->Blk->Blk->Blk->Blk->(List Blk)->Option R) (c:LL->MS->Option R),O0 LF n z t (C1 l) (l.length:Int) (i:Int) (C1 a) (Ks a) b c=b w x y A B H):=by
 intro r
 induction r with
 | zero=>
  intro i n a I K F;obtain⟨n,rfl⟩:∃m,n=m+1:=⟨n-1,by omega⟩
  rw[List.drop_eq_nil_iff.2 (by omega)];exact .inl ⟨rfl,λb c=>by rw[O0,F1 (by omega)];rfl,by simp only[IG];omega⟩
 | succ r L=>
  intro i n a I K F;obtain⟨n,rfl⟩:∃m,n=m+1:=⟨n-1,by omega⟩
  have d:i<l.length:=by omega
  have G:l.drop i=l.getD i []::l.drop (i+1):=by
   rw[List.drop_eq_getElem_cons d,p4,aa1 d];rfl
  have C:A1 ((i:Int)+1)=((i+1:Nat):Int):=by rw[A5];rfl
  have u:∀(b:Blk->Blk->Blk->Blk->Blk->(List Blk)->Option R) (c:LL->MS->Option R),O0 LF (n+1) z t (C1 l) (l.length:Int) (i:Int) (C1 a) (Ks a) b c =
    cond (ltI 4096 ((l.getD i []).length:Int)) (b (Blk.arr true 9 1 []) (Blk.arr true 9 1 (C1 a)) (Blk.box [(PV.s (SV.bool false)),(PV.s (SV.bool false)),(PV.fl 2)]) (Blk.ms false (Ks a)) (Blk.box [(PV.it 4)]) [])
     (Kg LF z t (C1 l) (l.length:Int) (i:Int) (C1 a) (Ks a) (l.getD i []) (λq p g j k h o=>O0 LF n q p g j (A1 (k+1)) h o b c)):=λb c=>by
   rw[O0,D1 (by omega),L1 (by omega) (by rw[C4];omega),j0,R1 d,W4];rfl
  have D:IG (l.getD i []::l.drop (i+1)) a=cond (ltI 4096 ((l.getD i []).length:Int)) ([],3) (IG (l.drop (i+1)) ((On (l.getD i [])).foldl FU a)):=rfl;rw[G,D];cases f:ltI 4096 ((l.getD i []).length:Int) with
  | true=>exact .inr ⟨rfl,_,_,_,_,_,_,λb c=>by rw[u,f];rfl⟩
  | false=>
   have J:(l.getD i []).length<=4096:=by
    rw[Ac,decide_eq_false_iff_not] at f;omega
   have M:=B44 (l.getD i []);have N:=Aa0 (On (l.getD i [])) a;have e:∀(b:Blk->Blk->Blk->Blk->Blk->(List Blk)->Option R) (c:LL->MS->Option R),O0 LF (n+1) z t (C1 l) (l.length:Int) (i:Int) (C1 a) (Ks a) b c =
     O0 LF n z t (C1 l) (l.length:Int) ((i+1:Nat):Int) (C1 ((On (l.getD i [])).foldl FU a)) (Ks ((On (l.getD i [])).foldl FU a)) b c:=λb c=>by
    rw[u,f,cond_false];unfold Kg;rw[E5 (by omega),cond_true,Ly z t (C1 l) _ _ _ _ a (by omega),C]
   simp only[cond_false,e];exact L (i+1) n _ (by omega) (by omega) (by omega)
theorem Bk3(z t:Bool)(l:LL)(m:l.all isS=true)(f:o8 l.length 1000=true):∃r H,ZH z t l=rv r H/\r.stab [0,0] H = .tup [.agg [.s (.bool (P3 (K9 (l.map elS)).1 JQ)),.s (.bool (P3 (K9 (l.map elS)).1 CF)),.s (.sl (x9 (K9 (l.map elS)).1) (x9 (K9 (l.map elS)).1) 1 (C1 (K9 (l.map elS)).1))],.s (.int .i64 (K9 (l.map elS)).2)]:=by
 have n:=E2;obtain⟨E,rfl⟩:∃E,l=C1 E:=⟨_,Je m⟩
 rw[C4] at f;have p:=ab4 f;rw[Dr];have e0:K9 E=IG (E.drop 0) []:=rfl;have o:(C1 (K9 E).1).isEmpty=(K9 E).1.isEmpty:=by cases (K9 E).1<;>rfl
 unfold ZH GS;rw[C4];rcases TO (R:=PV × List Blk × Unit) z t E p E.length 0 LF [] (by omega) (by omega) (by simp) with⟨b,e,q⟩|⟨b,g,h,i,j,k,H,e⟩
 ·rw[<-e0] at b e q;have a:∀c d,O0 LF LF z t (C1 E) (E.length:Int) 0 [] [] c d=d (C1 (K9 E).1) (Ks (K9 E).1):=e;simp only[a,Lb,C4,Dr,E5 (show(K9 E).1.length<=1000000000 by omega),cond_true];rw[b];exact⟨_,_,rfl,by simp only[PV.stab,M8,PV.snap,Ri,Rh,List.getElem?_cons_succ,ad0,y9,o];rfl⟩
 ·rw[<-e0] at b;have a:∀c d,O0 LF LF z t (C1 E) (E.length:Int) 0 [] [] c d=c g h i j k H:=e;rw[a,b];exact⟨_,_,rfl,rfl⟩
end
end Go.Proofs.YtddlcgjamdbinaaGreatDoor.E
