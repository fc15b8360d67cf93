/-
  Parts of the proof, merged by a program of the prover's own; no condition.
-/
import Derived.Test.YtddlcgjamdbinaaGreatDoorKXN5
import Derived.Laws.Runes
open Go.Proofs.Tryz renaming prog->c9,f124->ae6,f151->af9,f11->ag8,f22->ag9,f54->ah0,f92->ah1,f35->ai0,f55->ai1,f93->ai2,f6->ai4,f9->ai5
open Int renaming toNat->j0,toNat_natCast->j2,eq_ofNat_of_zero_le->p9,tmod->w8,tdiv->x6,mul->ae2
open Eq renaming trans->j1
open Option.some renaming injEq->j4,inj->ab5
open List renaming length_drop->j5,length_singleton->j6,getElem?_eq_getElem->j7,length_map->o5,length_take->o6,drop_of_length_le->o7,length_append->o8,getD_eq_getElem?_getD->o9,length_eq_zero_iff->p4,size_toArray->p5,getElem?_cons_zero->v7,drop_zero->v8,getElem?_append_right->w6,map->w9,isEmpty->x3,getElem?_take_of_lt->x7,length_cons->x9,length->y5,getElem?_toArray->y8,all->z7,drop_eq_nil_iff->aa0,drop_eq_getElem_cons->aa2,getElem?_append_left->aa3,getElem?_take->aa4,getElem?_cons_succ->aa5,countP_le_length->aa9,all_eq_true->ab0,mem_of_mem_drop->ab2,length_nil->ab4,length_pos_iff->ab6,getElem?_eq_some_iff->ac1,countP_cons_of_neg->ac7,getElem_mem->ac8,getElem_cons_drop->ad0,getElem_cons_zero->ad1,take_of_length_le->ad2,toArray->ad3,map_append->ad5,replicate->ae0,drop->ae3,take->ae4,all_cons->ae9,map_id''->af0,mem_singleton->af1,append_assoc->af4,getElem?_map->af5,map_map->af6,not_mem_nil->af8,mem_cons->ah3
open Bool renaming not_false->j8,not_true->k9,and_eq_true->p7,true_and->x4,eq_iff_iff->y7,false_eq_true->ac0,eq_false_iff->ac3,false_or->ac5,false_and->ad9,and_true->ae7,not_eq_true'->af3,or_eq_true->ag4,true_or->ah4
open Go.Value renaming int->j9
open Go.Lib renaming compact->o0,indexByte->ae8,decodeL->ag0,size_eq->ag1
open Nat renaming mul_one->p6,le_of_ble_eq_true->y9,zero_add->aa7,add_zero->ab7,div_le_self->ad6,ble_eq_true_of_le->ad8,ble->ae5,lt_of_lt_of_le->af2,le_refl->ag2,not_lt_zero->ag5,ble_eq->ag6,blt_eq->ag7,le_trans->ah5,sub_self->ah6
open Option renaming map_some->x5,getD_some->ac9
open Array renaming length_toList->x8,getElem?_eq_getElem->aa1,getElem?_append_left->ab8,getElem?_eq_some_iff->ab9,size_append->ac2,getElem?_modify->ad7
open UInt8 renaming ofNat->aa6,toNat->ag3
open Go.World renaming shape?->aa8,frozen?->ab1,cell?->ac4
open Go.Utf8 renaming encode->ab3,decode->ae1
open Prod.mk renaming injEq->ac6,inj->ah9
open Go.Sort renaming ahead->ad4
open Go.RowKit.Below renaming refl->af7
open List.cons renaming inj->ah2
namespace Go.Proofs.YtddlcgjamdbinaaGreatDoor.E
set_option linter.all false
section
open Go Go.Proofs
set_option maxRecDepth 100000
section
variable {W R : Type} (L : Nat) (Q : F4) (Y : Yh W) (s : W) (k : Out -> St W -> Option R)
noncomputable abbrev F6:Code:=E0 ag8
noncomputable def J3(L:Nat):Cfg:=C8 L [11] (A4 [(6,[2,0,0,0,15,0,0])]) [(19,FL),(20,DP),(21,Pz),(22,EM),(17,DW)]
 (A4 [(25,[2,0]),(24,[2,1]),(23,[2,1]),(22,[2,1,0,15,0,0]),(21,[2,1,0,15,0,0]),(20,[2,1,0,2,12,0,0,65]),(19,[2,1,0,2,1,10,0,0]),(18,[2,1,0,2,1,10,0,0]),(17,[2,1,0,2,1,10,0,0]),(16,[2,1,0,2,1,10,0,0]),(15,[2,1,0,2,1,10,0,0]),(14,[2,1,0,2,1,10,0,0,25]),(13,[2,0]),(12,[2,1,0,2,0,0,10,0,0,20]),(11,[2,1,0,2,0,0,10,0,0]),(10,[2,0]),(9,[2,1,0,1,0,0,11,0,0,10]),(8,[2,1,0,1,0,0,11,0,0]),(7,[2,1,0,1,13,0,0]),(6,[2,1,0,15,0,0,0]),(5,[2,1,0,15,0,0]),(4,[0,1,1,0]),(3,[0,1,1]),(2,[2,0]),(1,[0,1,15]),(0,[0,1])]) [21,22,17] (A4 [(0,[2,1]),(1,[2,1,0,15,0,0])]) (some [2,0]) [(24,Ll)] [] [24] (nt:=[(24,4,9,1),(35,1,9,1),(52,2,9,1),(1000024,4,9,1),(1000035,1,9,1),(1000052,2,9,1),(1000022,0,9,1)]) (Z:=[(23,Ub)])
noncomputable def Fw{R:Type}(a S P:Bool)(M:LL)(N O:Int)(H I J K o p q r:Bool)(m:LL)(y:By)(D C:Bool)(v:LL)(z A:By)(n:Int)(l:By)(b c d e f g h i j x:Int)(B:By)(t u F:Bool)(w:LL)(T:Bool->Bool->Bool->LL->Int->Int->Bool->Bool->Bool->Bool->Bool->Bool->Bool->LL->By->Bool->Bool->LL->By->By->Int->By->Int->Int->Int->Int->Int->Int->Int->Int->Int->Int->By->Bool->Bool->Bool->LL->Option R)(U:Bool->Bool->Bool->LL->Int->Int->Bool->Bool->Bool->Bool->Bool->Bool->Bool->Bool->LL->By->Bool->Bool->LL->By->By->Int->By->Int->Int->Int->Int->Int->Int->Int->Int->Int->Int->By->Bool->Bool->Bool->LL->Option R):Option R:=
 cond H
 (cond (A3 l.length)
  (cond (ltN b 4294967296)
  (cond (ok8 c d e f g h i j)
   (vl (Ai (mkH n l b (n8 c d e f g h i j))) λG=>
   cond (F8 (m.length+1))
    (T a S P M N O I J K o p q r (m++[[(SV.str G)]]) y D C v z A n l b c d e f g h i j x B t u F w)
    none)
   none)
  none)
  none)
 (U a S P M N O H I J K o p q r m y D C v z A n l b c d e f g h i j x B t u F w)
abbrev Oh(b:Code):Prop:=∀(k:Out->St W->Option R) a S P M N O H I J K c d e t v A G F w q B y C g h i j l m n o p z D f u r x,A9 (J3 L) Q Y b ⟨gp [(2,.ptr 1 0 0),(1,.ptr 3 0 0),(0,pB a),(2,.ptr 7 0 0),(12,.s (.sl S P 2 M)),(0,pI N),(0,pI O),(65,pB H)] 17,[.arr true 9 1 [],.box [pB I,pB J,pB K,pB c,.fl 0],.arr true 9 1 [],.box [pB a,pB d,pB e,pB t,.fl 4],.arr true 9 1 v,.arr true 9 1 [],.box [pS A,.s (.sl G F 1 w)],(bU q B y C g h i j l m n o p z D),.arr true 9 1 [],.box [pB f,pB u,.s (.sl r r 1 x)]],s⟩ k =
 Fw a S P M N O H I J K c d e t v A G F w q B y C g h i j l m n o p z D f u r x (λa S P M N O H I J K c d e V a2 a7 a6 X a3 q a0 a4 a1 g h i j l m n o p a5 U f T Z=>k .normal ⟨gp [(2,.ptr 1 0 0),(1,.ptr 3 0 0),(0,pB a),(15,.s (.sl S P 2 M)),(0,pI N),(0,pI O)] 83,[.arr true 9 1 [],.box [pB H,pB I,pB J,pB K,.fl 0],.arr true 9 1 [],.box [pB a,pB c,pB d,pB e,.fl 4],.arr true 9 1 V,.arr true 9 1 [],.box [pS a2,.s (.sl a7 a6 1 X)],(bU a3 q a0 a4 a1 g h i j l m n o p a5),.arr true 9 1 [],.box [pB U,pB f,.s (.sl T T 1 Z)]],s⟩) (λa S P M N O H I J K c d e t v A G F w q B y C g h i j l m n o p z D f u r x=>k .normal ⟨gp [(2,.ptr 1 0 0),(1,.ptr 3 0 0),(0,pB a),(2,.ptr 7 0 0),(12,.s (.sl S P 2 M)),(0,pI N),(0,pI O),(65,pB H)] 17,[.arr true 9 1 [],.box [pB I,pB J,pB K,pB c,.fl 0],.arr true 9 1 [],.box [pB a,pB d,pB e,pB t,.fl 4],.arr true 9 1 v,.arr true 9 1 [],.box [pS A,.s (.sl G F 1 w)],(bU q B y C g h i j l m n o p z D),.arr true 9 1 [],.box [pB f,pB u,.s (.sl r r 1 x)]],s⟩)
theorem Uj:Oh (R:=R) L Q Y s (cd [1,1,1,1,0,1,0,0,1,1,0,0,1,1,1,1,1,1,1,1,1,1,1] F6):=by intro k a P O K M N G H I J b c d e h x D C i y z l A m n o p q r t u v w B f g F j;unfold Fw;kernel_rfl
noncomputable def Fx{R:Type}(a S P:Bool)(M:LL)(N O:Int)(F G H I d e f:Bool)(h:LL)(x:By)(C B:Bool)(i:LL)(c y:By)(l:Int)(z:By)(m n o p q r t u v w:Int)(A:By)(b g D:Bool)(j:LL)(J:Bool->Bool->Bool->LL->Int->Int->Bool->Bool->Bool->Bool->Bool->Bool->Bool->LL->By->Bool->Bool->LL->By->By->Int->By->Int->Int->Int->Int->Int->Int->Int->Int->Int->Int->By->Bool->Bool->Bool->LL->Option R)(K:Bool->Bool->Bool->LL->Int->Int->Bool->Bool->Bool->Bool->Bool->Bool->Bool->Bool->LL->By->Bool->Bool->LL->By->By->Int->By->Int->Int->Int->Int->Int->Int->Int->Int->Int->Int->By->Bool->Bool->Bool->LL->Option R):Option R:=
 cond b
 (Fw a S P M N O (G3 c) F G H I d e f h x C B i c y l z m n o p q r t u v w A b g D j J K)
 (Fw a S P M N O false F G H I d e f h x C B i c y l z m n o p q r t u v w A b g D j J K)
abbrev Ii(b:Code):Prop:=∀(k:Out->St W->Option R) a P O K M N G H I J c d e u z F D v A q x B y g h i j l m n o p C t f r w,A9 (J3 L) Q Y b ⟨gp [(2,.ptr 1 0 0),(1,.ptr 3 0 0),(0,pB a),(2,.ptr 7 0 0),(1,.ptr 9 0 0),(10,.s (.sl P O 2 K)),(0,pI M),(0,pI N)] 83,[.arr true 9 1 [],.box [pB G,pB H,pB I,pB J,.fl 0],.arr true 9 1 [],.box [pB a,pB c,pB d,pB e,.fl 4],.arr true 9 1 u,.arr true 9 1 [],.box [pS z,.s (.sl F D 1 v)],(bU A q x B y g h i j l m n o p C),.arr true 9 1 [],.box [pB t,pB f,.s (.sl r r 1 w)]],s⟩ k =
 Fx a P O K M N G H I J c d e u z F D v A q x B y g h i j l m n o p C t f r w (λa P O K M N G H I J c d e u z F D v A q x B y g h i j l m n o p C t f r w=>k .normal ⟨gp [(2,.ptr 1 0 0),(1,.ptr 3 0 0),(0,pB a),(15,.s (.sl P O 2 K)),(0,pI M),(0,pI N)] 83,[.arr true 9 1 [],.box [pB G,pB H,pB I,pB J,.fl 0],.arr true 9 1 [],.box [pB a,pB c,pB d,pB e,.fl 4],.arr true 9 1 u,.arr true 9 1 [],.box [pS z,.s (.sl F D 1 v)],(bU A q x B y g h i j l m n o p C),.arr true 9 1 [],.box [pB t,pB f,.s (.sl r r 1 w)]],s⟩) (λa P O K M N G H I J c d e T V a2 a7 a6 X q a3 a0 a4 g h i j l m n o p a1 a5 f U S Z=>k .normal ⟨gp [(2,.ptr 1 0 0),(1,.ptr 3 0 0),(0,pB a),(2,.ptr 7 0 0),(12,.s (.sl P O 2 K)),(0,pI M),(0,pI N),(65,pB G)] 17,[.arr true 9 1 [],.box [pB H,pB I,pB J,pB c,.fl 0],.arr true 9 1 [],.box [pB a,pB d,pB e,pB T,.fl 4],.arr true 9 1 V,.arr true 9 1 [],.box [pS a2,.s (.sl a7 a6 1 X)],(bU q a3 a0 a4 g h i j l m n o p a1 a5),.arr true 9 1 [],.box [pB f,pB U,.s (.sl S S 1 Z)]],s⟩)
theorem ST(a:Code)(b:Oh (R:=R) L Q Y s a):Ii (R:=R) L Q Y s (cd [1,1,1,1,0,1,0,0,1,1,0,0,1,1,1,1,1,1,1,1,1,1] (K4 [1,1,1,1,0,1,0,0,1,1,0,0,1,1,1,1,1,1,1,1,1,1,1] a F6)):=by intro k c S P M N O H I J K d e f i y F D j z A m B n o p q r t u v w x C g h G l;unfold Fx;simp only[<-b k];kernel_rfl
theorem Uk:Ii (R:=R) L Q Y s (cd [1,1,1,1,0,1,0,0,1,1,0,0,1,1,1,1,1,1,1,1,1,1] F6):=by intro k a O N J K M F G H I b c d g w C B h x y j z l m n o p q r t u v A e f D i;exact j1 (by kernel_rfl) (ST L Q Y s (cd [1,1,1,1,0,1,0,0,1,1,0,0,1,1,1,1,1,1,1,1,1,1,1] F6) (Uj L Q Y s) k a O N J K M F G H I b c d g w C B h x y j z l m n o p q r t u v A e f D i)
noncomputable def Fy{R:Type}(a S P:Bool)(M:LL)(N O:Int)(F G H I c d D:Bool)(f:LL)(v:By)(B A:Bool)(g:LL)(w x:By)(i:Int)(y:By)(j l m n o p q r t u:Int)(z:By)(e b C:Bool)(h:LL)(J:Bool->Bool->Bool->LL->Int->Int->Bool->Bool->Bool->Bool->Bool->Bool->Bool->LL->By->Bool->Bool->LL->By->By->Int->By->Int->Int->Int->Int->Int->Int->Int->Int->Int->Int->By->Bool->Bool->Bool->LL->Option R)(K:Bool->Bool->Bool->LL->Int->Int->Bool->Bool->Bool->Bool->Bool->Bool->Bool->Bool->LL->By->Bool->Bool->LL->By->By->Int->By->Int->Int->Int->Int->Int->Int->Int->Int->Int->Int->By->Bool->Bool->Bool->LL->Option R):Option R:=
 cond D
 (Fx a S P M N O F G H I c d true f v B A g w x i y j l m n o p q r t u z e b C h J K)
 (Fx a S P M N O F G H I c d b f v B A g w x i y j l m n o p q r t u z e b C h J K)
abbrev Ij(b:Code):Prop:=∀(k:Out->St W->Option R) a P O K M N G H I J c d e u z F D v A q x B y g h i j l m n o p C t f r w,A9 (J3 L) Q Y b ⟨gp [(2,.ptr 1 0 0),(1,.ptr 3 0 0),(0,pB a),(2,.ptr 7 0 0),(1,.ptr 9 0 0),(10,.s (.sl P O 2 K)),(0,pI M),(0,pI N)] 83,[.arr true 9 1 [],.box [pB G,pB H,pB I,pB J,.fl 0],.arr true 9 1 [],.box [pB a,pB c,pB d,pB e,.fl 4],.arr true 9 1 u,.arr true 9 1 [],.box [pS z,.s (.sl F D 1 v)],(bU A q x B y g h i j l m n o p C),.arr true 9 1 [],.box [pB t,pB f,.s (.sl r r 1 w)]],s⟩ k =
 Fy a P O K M N G H I J c d e u z F D v A q x B y g h i j l m n o p C t f r w (λa P O K M N G H I J c d e u z F D v A q x B y g h i j l m n o p C t f r w=>k .normal ⟨gp [(2,.ptr 1 0 0),(1,.ptr 3 0 0),(0,pB a),(15,.s (.sl P O 2 K)),(0,pI M),(0,pI N)] 83,[.arr true 9 1 [],.box [pB G,pB H,pB I,pB J,.fl 0],.arr true 9 1 [],.box [pB a,pB c,pB d,pB e,.fl 4],.arr true 9 1 u,.arr true 9 1 [],.box [pS z,.s (.sl F D 1 v)],(bU A q x B y g h i j l m n o p C),.arr true 9 1 [],.box [pB t,pB f,.s (.sl r r 1 w)]],s⟩) (λa P O K M N G H I J c d e T V a2 a7 a6 X q a3 a0 a4 g h i j l m n o p a1 a5 f U S Z=>k .normal ⟨gp [(2,.ptr 1 0 0),(1,.ptr 3 0 0),(0,pB a),(2,.ptr 7 0 0),(12,.s (.sl P O 2 K)),(0,pI M),(0,pI N),(65,pB G)] 17,[.arr true 9 1 [],.box [pB H,pB I,pB J,pB c,.fl 0],.arr true 9 1 [],.box [pB a,pB d,pB e,pB T,.fl 4],.arr true 9 1 V,.arr true 9 1 [],.box [pS a2,.s (.sl a7 a6 1 X)],(bU q a3 a0 a4 g h i j l m n o p a1 a5),.arr true 9 1 [],.box [pB f,pB U,.s (.sl S S 1 Z)]],s⟩)
theorem SU(a:Code)(b:Ii (R:=R) L Q Y s a):Ij (R:=R) L Q Y s (cd [1,1,1,1,0,1,0,0,1,1,0,0,1,1,1,1,1,1,1,1,1] (K4 [1,1,1,1,0,1,0,0,1,1,0,0,1,1,1,1,1,1,1,1,1,1] a F6)):=by intro k c S P M N O H I J K d e f i y F D j z A m B n o p q r t u v w x C g h G l;unfold Fy;simp only[<-b k];kernel_rfl
theorem Ul:Ij (R:=R) L Q Y s (cd [1,1,1,1,0,1,0,0,1,1,0,0,1,1,1,1,1,1,1,1,1] F6):=by intro k a O N J K M F G H I b c d g w C B h x y j z l m n o p q r t u v A e f D i;exact j1 (by kernel_rfl) (SU L Q Y s (cd [1,1,1,1,0,1,0,0,1,1,0,0,1,1,1,1,1,1,1,1,1,1] F6) (Uk L Q Y s) k a O N J K M F G H I b c d g w C B h x y j z l m n o p q r t u v A e f D i)
noncomputable def Fz{R:Type}(a S P:Bool)(M:LL)(N O:Int)(F G H I c D d:Bool)(f:LL)(v:By)(B A:Bool)(g:LL)(w x:By)(i:Int)(y:By)(j l m n o p q r t u:Int)(z:By)(b e C:Bool)(h:LL)(J:Bool->Bool->Bool->LL->Int->Int->Bool->Bool->Bool->Bool->Bool->Bool->Bool->LL->By->Bool->Bool->LL->By->By->Int->By->Int->Int->Int->Int->Int->Int->Int->Int->Int->Int->By->Bool->Bool->Bool->LL->Option R)(K:Bool->Bool->Bool->LL->Int->Int->Bool->Bool->Bool->Bool->Bool->Bool->Bool->Bool->LL->By->Bool->Bool->LL->By->By->Int->By->Int->Int->Int->Int->Int->Int->Int->Int->Int->Int->By->Bool->Bool->Bool->LL->Option R):Option R:=
 cond D
 (Fy a S P M N O F G H I c true d f v B A g w x i y j l m n o p q r t u z b e C h J K)
 (Fy a S P M N O F G H I c b d f v B A g w x i y j l m n o p q r t u z b e C h J K)
abbrev Ik(b:Code):Prop:=∀(k:Out->St W->Option R) a P O K M N G H I J c d e u z F D v A q x B y g h i j l m n o p C t f r w,A9 (J3 L) Q Y b ⟨gp [(2,.ptr 1 0 0),(1,.ptr 3 0 0),(0,pB a),(2,.ptr 7 0 0),(1,.ptr 9 0 0),(10,.s (.sl P O 2 K)),(0,pI M),(0,pI N)] 83,[.arr true 9 1 [],.box [pB G,pB H,pB I,pB J,.fl 0],.arr true 9 1 [],.box [pB a,pB c,pB d,pB e,.fl 4],.arr true 9 1 u,.arr true 9 1 [],.box [pS z,.s (.sl F D 1 v)],(bU A q x B y g h i j l m n o p C),.arr true 9 1 [],.box [pB t,pB f,.s (.sl r r 1 w)]],s⟩ k =
 Fz a P O K M N G H I J c d e u z F D v A q x B y g h i j l m n o p C t f r w (λa P O K M N G H I J c d e u z F D v A q x B y g h i j l m n o p C t f r w=>k .normal ⟨gp [(2,.ptr 1 0 0),(1,.ptr 3 0 0),(0,pB a),(15,.s (.sl P O 2 K)),(0,pI M),(0,pI N)] 83,[.arr true 9 1 [],.box [pB G,pB H,pB I,pB J,.fl 0],.arr true 9 1 [],.box [pB a,pB c,pB d,pB e,.fl 4],.arr true 9 1 u,.arr true 9 1 [],.box [pS z,.s (.sl F D 1 v)],(bU A q x B y g h i j l m n o p C),.arr true 9 1 [],.box [pB t,pB f,.s (.sl r r 1 w)]],s⟩) (λa P O K M N G H I J c d e T V a2 a7 a6 X q a3 a0 a4 g h i j l m n o p a1 a5 f U S Z=>k .normal ⟨gp [(2,.ptr 1 0 0),(1,.ptr 3 0 0),(0,pB a),(2,.ptr 7 0 0),(12,.s (.sl P O 2 K)),(0,pI M),(0,pI N),(65,pB G)] 17,[.arr true 9 1 [],.box [pB H,pB I,pB J,pB c,.fl 0],.arr true 9 1 [],.box [pB a,pB d,pB e,pB T,.fl 4],.arr true 9 1 V,.arr true 9 1 [],.box [pS a2,.s (.sl a7 a6 1 X)],(bU q a3 a0 a4 g h i j l m n o p a1 a5),.arr true 9 1 [],.box [pB f,pB U,.s (.sl S S 1 Z)]],s⟩)
theorem SW(a:Code)(b:Ij (R:=R) L Q Y s a):Ik (R:=R) L Q Y s (cd [1,1,1,1,0,1,0,0,1,1,0,0,1,1,1,1,1,1,1,1] (K4 [1,1,1,1,0,1,0,0,1,1,0,0,1,1,1,1,1,1,1,1,1] a F6)):=by intro k c S P M N O H I J K d e f i y F D j z A m B n o p q r t u v w x C g h G l;unfold Fz;simp only[<-b k];kernel_rfl
theorem Um:Ik (R:=R) L Q Y s (cd [1,1,1,1,0,1,0,0,1,1,0,0,1,1,1,1,1,1,1,1] F6):=by intro k a O N J K M F G H I b c d g w C B h x y j z l m n o p q r t u v A e f D i;exact j1 (by kernel_rfl) (SW L Q Y s (cd [1,1,1,1,0,1,0,0,1,1,0,0,1,1,1,1,1,1,1,1,1] F6) (Ul L Q Y s) k a O N J K M F G H I b c d g w C B h x y j z l m n o p q r t u v A e f D i)
noncomputable def Ga{R:Type}(a T S:Bool)(N:LL)(O P:Int)(I J K M p q r t u:Bool)(m:LL)(A:By)(G F:Bool)(x:LL)(B C:By)(n:Int)(l:By)(b c d e f g h i j z:Int)(D:By)(v w H:Bool)(y:LL)(U:Bool->Bool->Bool->LL->Int->Int->Bool->Bool->Bool->Bool->Bool->Bool->Bool->Bool->LL->By->Bool->Bool->LL->By->By->Int->By->Int->Int->Int->Int->Int->Int->Int->Int->Int->Int->By->Bool->Bool->Bool->LL->Option R)(V:Bool->Bool->Bool->LL->Int->Int->Bool->Bool->Bool->Bool->Bool->Bool->Bool->Bool->Bool->LL->By->Bool->Bool->LL->By->By->Int->By->Int->Int->Int->Int->Int->Int->Int->Int->Int->Int->By->Bool->Bool->Bool->LL->Option R):Option R:=
 cond I
 (cond (A3 l.length)
  (cond (ltN b 4294967296)
  (cond (ok8 c d e f g h i j)
   (vl (Ai (mkH n l b (n8 c d e f g h i j))) λo=>
   cond (F8 (m.length+1))
    (U a T S N O P J K M p q r t u (m++[[(SV.str o)]]) A G F x B C n l b c d e f g h i j z D v w H y)
    none)
   none)
  none)
  none)
 (V a T S N O P I J K M p q r t u m A G F x B C n l b c d e f g h i j z D v w H y)
abbrev AT(b:Code):Prop:=∀(k:Out->St W->Option R) a T S N O P I J K M c d e f u w B H G x r C z D h i j l m n o p q A F g v t y,A9 (J3 L) Q Y b ⟨gp [(2,.ptr 1 0 0),(1,.ptr 3 0 0),(0,pB a),(2,.ptr 7 0 0),(12,.s (.sl T S 2 N)),(0,pI O),(0,pI P),(65,pB I)] 17,[.arr true 9 1 [],.box [pB J,pB K,pB M,pB c,.fl 0],.arr true 9 1 [],.box [pB d,pB e,pB f,pB u,.fl 4],.arr true 9 1 w,.arr true 9 1 [],.box [pS B,.s (.sl H G 1 x)],(bU r C z D h i j l m n o p q A F),.arr true 9 1 [],.box [pB g,pB v,.s (.sl t t 1 y)]],s⟩ k =
 Ga a T S N O P I J K M c d e f u w B H G x r C z D h i j l m n o p q A F g v t y (λa T S N O P I J K M c d e f X a3 a8 a7 Z a4 r a1 a5 a2 h i j l m n o p q a6 V g U a0=>k .normal ⟨gp [(2,.ptr 1 0 0),(1,.ptr 3 0 0),(0,pB a),(15,.s (.sl T S 2 N)),(0,pI O),(0,pI P)] 83,[.arr true 9 1 [],.box [pB I,pB J,pB K,pB M,.fl 0],.arr true 9 1 [],.box [pB c,pB d,pB e,pB f,.fl 4],.arr true 9 1 X,.arr true 9 1 [],.box [pS a3,.s (.sl a8 a7 1 Z)],(bU a4 r a1 a5 a2 h i j l m n o p q a6),.arr true 9 1 [],.box [pB V,pB g,.s (.sl U U 1 a0)]],s⟩) (λa T S N O P I J K M c d e f u w B H G x r C z D h i j l m n o p q A F g v t y=>k .normal ⟨gp [(2,.ptr 1 0 0),(1,.ptr 3 0 0),(0,pB a),(2,.ptr 7 0 0),(12,.s (.sl T S 2 N)),(0,pI O),(0,pI P),(65,pB I)] 17,[.arr true 9 1 [],.box [pB J,pB K,pB M,pB c,.fl 0],.arr true 9 1 [],.box [pB d,pB e,pB f,pB u,.fl 4],.arr true 9 1 w,.arr true 9 1 [],.box [pS B,.s (.sl H G 1 x)],(bU r C z D h i j l m n o p q A F),.arr true 9 1 [],.box [pB g,pB v,.s (.sl t t 1 y)]],s⟩)
theorem SX:AT (R:=R) L Q Y s (cd [1,1,1,1,0,1,0,0,1,1,0,0,1,1,1,1,1,1,1,1,1,1,1] F6):=by intro k a S P M N O H I J K b c d e f i y F D j z A m B n o p q r t u v w x C g h G l;unfold Ga;kernel_rfl
noncomputable def Gb{R:Type}(a T S:Bool)(N:LL)(O P:Int)(G H I J d e f g:Bool)(i:LL)(y:By)(D C:Bool)(j:LL)(c z:By)(m:Int)(A:By)(n o p q r t u v w x:Int)(B:By)(b h F:Bool)(l:LL)(K:Bool->Bool->Bool->LL->Int->Int->Bool->Bool->Bool->Bool->Bool->Bool->Bool->Bool->LL->By->Bool->Bool->LL->By->By->Int->By->Int->Int->Int->Int->Int->Int->Int->Int->Int->Int->By->Bool->Bool->Bool->LL->Option R)(M:Bool->Bool->Bool->LL->Int->Int->Bool->Bool->Bool->Bool->Bool->Bool->Bool->Bool->Bool->LL->By->Bool->Bool->LL->By->By->Int->By->Int->Int->Int->Int->Int->Int->Int->Int->Int->Int->By->Bool->Bool->Bool->LL->Option R):Option R:=
 cond b
 (Ga a T S N O P (G3 c) G H I J d e f g i y D C j c z m A n o p q r t u v w x B b h F l K M)
 (Ga a T S N O P false G H I J d e f g i y D C j c z m A n o p q r t u v w x B b h F l K M)
abbrev Oi(b:Code):Prop:=∀(k:Out->St W->Option R) a S P M N O H I J K c d e f v A G F w B r y C z h i j l m n o p q D u g t x,A9 (J3 L) Q Y b ⟨gp [(2,.ptr 1 0 0),(1,.ptr 3 0 0),(0,pB a),(2,.ptr 7 0 0),(1,.ptr 9 0 0),(10,.s (.sl S P 2 M)),(0,pI N),(0,pI O)] 83,[.arr true 9 1 [],.box [pB H,pB I,pB J,pB K,.fl 0],.arr true 9 1 [],.box [pB c,pB d,pB e,pB f,.fl 4],.arr true 9 1 v,.arr true 9 1 [],.box [pS A,.s (.sl G F 1 w)],(bU B r y C z h i j l m n o p q D),.arr true 9 1 [],.box [pB u,pB g,.s (.sl t t 1 x)]],s⟩ k =
 Gb a S P M N O H I J K c d e f v A G F w B r y C z h i j l m n o p q D u g t x (λa S P M N O H I J K c d e f v A G F w B r y C z h i j l m n o p q D u g t x=>k .normal ⟨gp [(2,.ptr 1 0 0),(1,.ptr 3 0 0),(0,pB a),(15,.s (.sl S P 2 M)),(0,pI N),(0,pI O)] 83,[.arr true 9 1 [],.box [pB H,pB I,pB J,pB K,.fl 0],.arr true 9 1 [],.box [pB c,pB d,pB e,pB f,.fl 4],.arr true 9 1 v,.arr true 9 1 [],.box [pS A,.s (.sl G F 1 w)],(bU B r y C z h i j l m n o p q D),.arr true 9 1 [],.box [pB u,pB g,.s (.sl t t 1 x)]],s⟩) (λa S P M N O H I J K c d e f U X a3 a8 a7 Z r a4 a1 a5 h i j l m n o p q a2 a6 g V T a0=>k .normal ⟨gp [(2,.ptr 1 0 0),(1,.ptr 3 0 0),(0,pB a),(2,.ptr 7 0 0),(12,.s (.sl S P 2 M)),(0,pI N),(0,pI O),(65,pB H)] 17,[.arr true 9 1 [],.box [pB I,pB J,pB K,pB c,.fl 0],.arr true 9 1 [],.box [pB d,pB e,pB f,pB U,.fl 4],.arr true 9 1 X,.arr true 9 1 [],.box [pS a3,.s (.sl a8 a7 1 Z)],(bU r a4 a1 a5 h i j l m n o p q a2 a6),.arr true 9 1 [],.box [pB g,pB V,.s (.sl T T 1 a0)]],s⟩)
theorem SY(a:Code)(c:Oh (R:=R) L Q Y s a)(b:AT (R:=R) L Q Y s a):Oi (R:=R) L Q Y s (cd [1,1,1,1,0,1,0,0,1,1,0,0,1,1,1,1,1,1,1,1,1,1] (K4 [1,1,1,1,0,1,0,0,1,1,0,0,1,1,1,1,1,1,1,1,1,1,1] a F6)):=by intro k d U T O P S J K M N e f g h l A H G m B C o D p q r t u v w x y z F i j I n;unfold Gb;simp only[<-b k];kernel_rfl
theorem SZ:Oi (R:=R) L Q Y s (cd [1,1,1,1,0,1,0,0,1,1,0,0,1,1,1,1,1,1,1,1,1,1] F6):=by intro k a P O K M N G H I J b c d e h x D C i y z l A m n o p q r t u v w B f g F j;exact j1 (by kernel_rfl) (SY L Q Y s (cd [1,1,1,1,0,1,0,0,1,1,0,0,1,1,1,1,1,1,1,1,1,1,1] F6) (Uj L Q Y s) (SX L Q Y s) k a P O K M N G H I J b c d e h x D C i y z l A m n o p q r t u v w B f g F j)
noncomputable def Gc{R:Type}(a T S:Bool)(N:LL)(O P:Int)(G H I J c d e F:Bool)(g:LL)(w:By)(C B:Bool)(h:LL)(x y:By)(j:Int)(z:By)(l m n o p q r t u v:Int)(A:By)(f b D:Bool)(i:LL)(K:Bool->Bool->Bool->LL->Int->Int->Bool->Bool->Bool->Bool->Bool->Bool->Bool->Bool->LL->By->Bool->Bool->LL->By->By->Int->By->Int->Int->Int->Int->Int->Int->Int->Int->Int->Int->By->Bool->Bool->Bool->LL->Option R)(M:Bool->Bool->Bool->LL->Int->Int->Bool->Bool->Bool->Bool->Bool->Bool->Bool->Bool->Bool->LL->By->Bool->Bool->LL->By->By->Int->By->Int->Int->Int->Int->Int->Int->Int->Int->Int->Int->By->Bool->Bool->Bool->LL->Option R):Option R:=
 cond F
 (Gb a T S N O P G H I J c d e true g w C B h x y j z l m n o p q r t u v A f b D i K M)
 (Gb a T S N O P G H I J c d e b g w C B h x y j z l m n o p q r t u v A f b D i K M)
abbrev Oj(b:Code):Prop:=∀(k:Out->St W->Option R) a S P M N O H I J K c d e f v A G F w B r y C z h i j l m n o p q D u g t x,A9 (J3 L) Q Y b ⟨gp [(2,.ptr 1 0 0),(1,.ptr 3 0 0),(0,pB a),(2,.ptr 7 0 0),(1,.ptr 9 0 0),(10,.s (.sl S P 2 M)),(0,pI N),(0,pI O)] 83,[.arr true 9 1 [],.box [pB H,pB I,pB J,pB K,.fl 0],.arr true 9 1 [],.box [pB c,pB d,pB e,pB f,.fl 4],.arr true 9 1 v,.arr true 9 1 [],.box [pS A,.s (.sl G F 1 w)],(bU B r y C z h i j l m n o p q D),.arr true 9 1 [],.box [pB u,pB g,.s (.sl t t 1 x)]],s⟩ k =
 Gc a S P M N O H I J K c d e f v A G F w B r y C z h i j l m n o p q D u g t x (λa S P M N O H I J K c d e f v A G F w B r y C z h i j l m n o p q D u g t x=>k .normal ⟨gp [(2,.ptr 1 0 0),(1,.ptr 3 0 0),(0,pB a),(15,.s (.sl S P 2 M)),(0,pI N),(0,pI O)] 83,[.arr true 9 1 [],.box [pB H,pB I,pB J,pB K,.fl 0],.arr true 9 1 [],.box [pB c,pB d,pB e,pB f,.fl 4],.arr true 9 1 v,.arr true 9 1 [],.box [pS A,.s (.sl G F 1 w)],(bU B r y C z h i j l m n o p q D),.arr true 9 1 [],.box [pB u,pB g,.s (.sl t t 1 x)]],s⟩) (λa S P M N O H I J K c d e f U X a3 a8 a7 Z r a4 a1 a5 h i j l m n o p q a2 a6 g V T a0=>k .normal ⟨gp [(2,.ptr 1 0 0),(1,.ptr 3 0 0),(0,pB a),(2,.ptr 7 0 0),(12,.s (.sl S P 2 M)),(0,pI N),(0,pI O),(65,pB H)] 17,[.arr true 9 1 [],.box [pB I,pB J,pB K,pB c,.fl 0],.arr true 9 1 [],.box [pB d,pB e,pB f,pB U,.fl 4],.arr true 9 1 X,.arr true 9 1 [],.box [pS a3,.s (.sl a8 a7 1 Z)],(bU r a4 a1 a5 h i j l m n o p q a2 a6),.arr true 9 1 [],.box [pB g,pB V,.s (.sl T T 1 a0)]],s⟩)
theorem TA(a:Code)(c:Ii (R:=R) L Q Y s a)(b:Oi (R:=R) L Q Y s a):Oj (R:=R) L Q Y s (cd [1,1,1,1,0,1,0,0,1,1,0,0,1,1,1,1,1,1,1,1,1] (K4 [1,1,1,1,0,1,0,0,1,1,0,0,1,1,1,1,1,1,1,1,1,1] a F6)):=by intro k d U T O P S J K M N e f g h l A H G m B C o D p q r t u v w x y z F i j I n;unfold Gc;simp only[<-b k];kernel_rfl
theorem TB:Oj (R:=R) L Q Y s (cd [1,1,1,1,0,1,0,0,1,1,0,0,1,1,1,1,1,1,1,1,1] F6):=by intro k a P O K M N G H I J b c d e h x D C i y z l A m n o p q r t u v w B f g F j;exact j1 (by kernel_rfl) (TA L Q Y s (cd [1,1,1,1,0,1,0,0,1,1,0,0,1,1,1,1,1,1,1,1,1,1] F6) (Uk L Q Y s) (SZ L Q Y s) k a P O K M N G H I J b c d e h x D C i y z l A m n o p q r t u v w B f g F j)
noncomputable def V2{R:Type}(a T S:Bool)(N:LL)(O P:Int)(G H I J c d F e:Bool)(g:LL)(w:By)(C B:Bool)(h:LL)(x y:By)(j:Int)(z:By)(l m n o p q r t u v:Int)(A:By)(b f D:Bool)(i:LL)(K:Bool->Bool->Bool->LL->Int->Int->Bool->Bool->Bool->Bool->Bool->Bool->Bool->Bool->LL->By->Bool->Bool->LL->By->By->Int->By->Int->Int->Int->Int->Int->Int->Int->Int->Int->Int->By->Bool->Bool->Bool->LL->Option R)(M:Bool->Bool->Bool->LL->Int->Int->Bool->Bool->Bool->Bool->Bool->Bool->Bool->Bool->Bool->LL->By->Bool->Bool->LL->By->By->Int->By->Int->Int->Int->Int->Int->Int->Int->Int->Int->Int->By->Bool->Bool->Bool->LL->Option R):Option R:=
 cond F
 (Gc a T S N O P G H I J c d true e g w C B h x y j z l m n o p q r t u v A b f D i K M)
 (Gc a T S N O P G H I J c d b e g w C B h x y j z l m n o p q r t u v A b f D i K M)
abbrev Il(b:Code):Prop:=∀(k:Out->St W->Option R) a S P M N O H I J K c d e f v A G F w B r y C z h i j l m n o p q D u g t x,A9 (J3 L) Q Y b ⟨gp [(2,.ptr 1 0 0),(1,.ptr 3 0 0),(0,pB a),(2,.ptr 7 0 0),(1,.ptr 9 0 0),(10,.s (.sl S P 2 M)),(0,pI N),(0,pI O)] 83,[.arr true 9 1 [],.box [pB H,pB I,pB J,pB K,.fl 0],.arr true 9 1 [],.box [pB c,pB d,pB e,pB f,.fl 4],.arr true 9 1 v,.arr true 9 1 [],.box [pS A,.s (.sl G F 1 w)],(bU B r y C z h i j l m n o p q D),.arr true 9 1 [],.box [pB u,pB g,.s (.sl t t 1 x)]],s⟩ k =
 V2 a S P M N O H I J K c d e f v A G F w B r y C z h i j l m n o p q D u g t x (λa S P M N O H I J K c d e f v A G F w B r y C z h i j l m n o p q D u g t x=>k .normal ⟨gp [(2,.ptr 1 0 0),(1,.ptr 3 0 0),(0,pB a),(15,.s (.sl S P 2 M)),(0,pI N),(0,pI O)] 83,[.arr true 9 1 [],.box [pB H,pB I,pB J,pB K,.fl 0],.arr true 9 1 [],.box [pB c,pB d,pB e,pB f,.fl 4],.arr true 9 1 v,.arr true 9 1 [],.box [pS A,.s (.sl G F 1 w)],(bU B r y C z h i j l m n o p q D),.arr true 9 1 [],.box [pB u,pB g,.s (.sl t t 1 x)]],s⟩) (λa S P M N O H I J K c d e f U X a3 a8 a7 Z r a4 a1 a5 h i j l m n o p q a2 a6 g V T a0=>k .normal ⟨gp [(2,.ptr 1 0 0),(1,.ptr 3 0 0),(0,pB a),(2,.ptr 7 0 0),(12,.s (.sl S P 2 M)),(0,pI N),(0,pI O),(65,pB H)] 17,[.arr true 9 1 [],.box [pB I,pB J,pB K,pB c,.fl 0],.arr true 9 1 [],.box [pB d,pB e,pB f,pB U,.fl 4],.arr true 9 1 X,.arr true 9 1 [],.box [pS a3,.s (.sl a8 a7 1 Z)],(bU r a4 a1 a5 h i j l m n o p q a2 a6),.arr true 9 1 [],.box [pB g,pB V,.s (.sl T T 1 a0)]],s⟩)
theorem TC(a:Code)(c:Ij (R:=R) L Q Y s a)(b:Oj (R:=R) L Q Y s a):Il (R:=R) L Q Y s (cd [1,1,1,1,0,1,0,0,1,1,0,0,1,1,1,1,1,1,1,1] (K4 [1,1,1,1,0,1,0,0,1,1,0,0,1,1,1,1,1,1,1,1,1] a F6)):=by intro k d U T O P S J K M N e f g h l A H G m B C o D p q r t u v w x y z F i j I n;unfold V2;simp only[<-b k];kernel_rfl
theorem Un:Il (R:=R) L Q Y s (cd [1,1,1,1,0,1,0,0,1,1,0,0,1,1,1,1,1,1,1,1] F6):=by intro k a P O K M N G H I J b c d e h x D C i y z l A m n o p q r t u v w B f g F j;exact j1 (by kernel_rfl) (TC L Q Y s (cd [1,1,1,1,0,1,0,0,1,1,0,0,1,1,1,1,1,1,1,1,1] F6) (Ul L Q Y s) (TB L Q Y s) k a P O K M N G H I J b c d e h x D C i y z l A m n o p q r t u v w B f g F j)
noncomputable def Gd{R:Type}(a z1 t2:Bool)(l3:LL)(n4 n5:Int)(b6 b7 b8 b9 r0 q9 f g:Bool)(j:LL)(z:By)(G F:Bool)(l:LL)(A B:By)(n:Int)(C:By)(o p q r t u v w x y:Int)(D:By)(h i H:Bool)(m:LL)(k0:Bool->Bool->Bool->LL->Int->Int->Bool->Bool->Bool->Bool->Bool->Bool->Bool->Bool->LL->By->Bool->Bool->LL->By->By->Int->By->Int->Int->Int->Int->Int->Int->Int->Int->Int->Int->By->Bool->Bool->Bool->LL->Option R)(k1:Bool->Bool->Bool->LL->Int->Int->Bool->Bool->Bool->Bool->Bool->Bool->Bool->Bool->Bool->LL->By->Bool->Bool->LL->By->By->Int->By->Int->Int->Int->Int->Int->Int->Int->Int->Int->Int->By->Bool->Bool->Bool->LL->Option R):Option R:=
 cond r0
 (cond q9
  (Fz a z1 t2 l3 n4 n5 b6 b7 b8 b9 true f g j z G F l A B n C o p q r t u v w x y D h i H m (λb p1 n6 d0 e7 e8 I J K M N O P d1 l2 p2 n7 d2 l4 l5 e9 l6 f0 f1 f2 f3 f4 f5 f6 f7 f8 f9 l7 S T p3 d3=>k0 b p1 n6 d0 e7 e8 I J K M b N O P d1 l2 p2 n7 d2 l4 l5 e9 l6 f0 f1 f2 f3 f4 f5 f6 f7 f8 f9 l7 S T p3 d3) (λc q0 n9 d4 g0 g1 U V X Z a0 a1 a2 a3 d5 l8 q1 o1 d6 l9 m0 g2 m1 g3 g4 g5 g6 g7 g8 g9 h0 h1 h2 m2 a4 a5 q2 d7=>k1 c q0 n9 d4 g0 g1 U V X Z a0 c a1 a2 a3 d5 l8 q1 o1 d6 l9 m0 g2 m1 g3 g4 g5 g6 g7 g8 g9 h0 h1 h2 m2 a4 a5 q2 d7))
  (Fz a z1 t2 l3 n4 n5 b6 b7 b8 b9 a f g j z G F l A B n C o p q r t u v w x y D h i H m (λd q3 o2 d8 h3 h4 a6 a7 a8 a9 b0 b1 b2 d9 m3 q4 o3 e1 m4 m5 h5 m6 h6 h7 h8 h9 i0 i1 i2 i3 i4 i5 m7 b3 b4 q5 e2=>k0 d q3 o2 d8 h3 h4 a6 a7 a8 a9 d b0 b1 b2 d9 m3 q4 o3 e1 m4 m5 h5 m6 h6 h7 h8 h9 i0 i1 i2 i3 i4 i5 m7 b3 b4 q5 e2) (λe q6 o4 e3 i6 i7 b5 c0 c1 c2 c3 c4 c5 c6 e4 m8 q7 p0 e5 m9 n1 i9 n2 j3 k2 k3 k4 k5 k6 k7 k8 l0 l1 n3 c7 c8 q8 e6=>k1 e q6 o4 e3 i6 i7 b5 c0 c1 c2 c3 e c4 c5 c6 e4 m8 q7 p0 e5 m9 n1 i9 n2 j3 k2 k3 k4 k5 k6 k7 k8 l0 l1 n3 c7 c8 q8 e6)))
 (cond q9
  (V2 a z1 t2 l3 n4 n5 b6 b7 b8 b9 false true f g j z G F l A B n C o p q r t u v w x y D h i H m k0 k1)
  (V2 a z1 t2 l3 n4 n5 b6 b7 b8 b9 false a f g j z G F l A B n C o p q r t u v w x y D h i H m k0 k1))
abbrev Im(b:Code):Prop:=∀(k:Out->St W->Option R) a S P M N O H I J K c d e f v A G F w B r y C z h i j l m n o p q D u g t x,A9 (J3 L) Q Y b ⟨gp [(2,.ptr 1 0 0),(1,.ptr 3 0 0),(0,pB a),(2,.ptr 7 0 0),(1,.ptr 9 0 0),(10,.s (.sl S P 2 M)),(0,pI N),(0,pI O)] 83,[.arr true 9 1 [],.box [pB H,pB I,pB J,pB K,.fl 0],.arr true 9 1 [],.box [pB c,pB d,pB e,pB f,.fl 4],.arr true 9 1 v,.arr true 9 1 [],.box [pS A,.s (.sl G F 1 w)],(bU B r y C z h i j l m n o p q D),.arr true 9 1 [],.box [pB u,pB g,.s (.sl t t 1 x)]],s⟩ k =
 Gd a S P M N O H I J K c d e f v A G F w B r y C z h i j l m n o p q D u g t x (λa S P M N O H I J K c d e f v A G F w B r y C z h i j l m n o p q D u g t x=>k .normal ⟨gp [(2,.ptr 1 0 0),(1,.ptr 3 0 0),(0,pB a),(15,.s (.sl S P 2 M)),(0,pI N),(0,pI O)] 83,[.arr true 9 1 [],.box [pB H,pB I,pB J,pB K,.fl 0],.arr true 9 1 [],.box [pB c,pB d,pB e,pB f,.fl 4],.arr true 9 1 v,.arr true 9 1 [],.box [pS A,.s (.sl G F 1 w)],(bU B r y C z h i j l m n o p q D),.arr true 9 1 [],.box [pB u,pB g,.s (.sl t t 1 x)]],s⟩) (λa S P M N O H I J K c d e f U X a3 a8 a7 Z r a4 a1 a5 h i j l m n o p q a2 a6 g V T a0=>k .normal ⟨gp [(2,.ptr 1 0 0),(1,.ptr 3 0 0),(0,pB a),(2,.ptr 7 0 0),(12,.s (.sl S P 2 M)),(0,pI N),(0,pI O),(65,pB H)] 17,[.arr true 9 1 [],.box [pB I,pB J,pB K,pB c,.fl 0],.arr true 9 1 [],.box [pB d,pB e,pB f,pB U,.fl 4],.arr true 9 1 X,.arr true 9 1 [],.box [pS a3,.s (.sl a8 a7 1 Z)],(bU r a4 a1 a5 h i j l m n o p q a2 a6),.arr true 9 1 [],.box [pB g,pB V,.s (.sl T T 1 a0)]],s⟩)
theorem TD(a:Code)(b:Ik (R:=R) L Q Y s a)(c:Il (R:=R) L Q Y s a):Im (R:=R) L Q Y s (cd [1,1,1,1,0,1,0,0,1,1,0,0,1,1,1,1,1,1] (K4 [1,1,1,1,0,1,0,0,1,1,0,0,1,1,1,1,1,1,1,1] a F6)):=by intro k d U T O P S J K M N e f g h l A H G m B C o D p q r t u v w x y z F i j I n;unfold Gd;simp only[<-b k,<-c k];kernel_rfl
theorem TE:Im (R:=R) L Q Y s (cd [1,1,1,1,0,1,0,0,1,1,0,0,1,1,1,1,1,1] F6):=by intro k a P O K M N G H I J b c d e h x D C i y z l A m n o p q r t u v w B f g F j;exact j1 (by kernel_rfl) (TD L Q Y s (cd [1,1,1,1,0,1,0,0,1,1,0,0,1,1,1,1,1,1,1,1] F6) (Um L Q Y s) (Un L Q Y s) k a P O K M N G H I J b c d e h x D C i y z l A m n o p q r t u v w B f g F j)
noncomputable def Ke{R:Type}(a S P:Bool)(M:LL)(N O:Int)(G H I b T F c d:Bool)(g:LL)(w:By)(C B:Bool)(h:LL)(x y:By)(j:Int)(z:By)(l m n o p q r t u v:Int)(A:By)(e f D:Bool)(i:LL)(J:Bool->Bool->Bool->LL->Int->Int->Bool->Bool->Bool->Bool->Bool->Bool->Bool->Bool->LL->By->Bool->Bool->LL->By->By->Int->By->Int->Int->Int->Int->Int->Int->Int->Int->Int->Int->By->Bool->Bool->Bool->LL->Option R)(K:Bool->Bool->Bool->LL->Int->Int->Bool->Bool->Bool->Bool->Bool->Bool->Bool->Bool->Bool->LL->By->Bool->Bool->LL->By->By->Int->By->Int->Int->Int->Int->Int->Int->Int->Int->Int->Int->By->Bool->Bool->Bool->LL->Option R):Option R:=
 cond T
 (cond F
  (V2 a S P M N O G H I b a true c d g w C B h x y j z l m n o p q r t u v A e f D i J K)
  (V2 a S P M N O G H I b a a c d g w C B h x y j z l m n o p q r t u v A e f D i J K))
 (cond F
  (V2 a S P M N O G H I b false true c d g w C B h x y j z l m n o p q r t u v A e f D i J K)
  (V2 a S P M N O G H I b false a c d g w C B h x y j z l m n o p q r t u v A e f D i J K))
abbrev Io(b:Code):Prop:=∀(k:Out->St W->Option R) a S P M N O T I J K c d e f u w B H G x r C z D h i j l m n o p q A F g v t y,A9 (J3 L) Q Y b ⟨gp [(2,.ptr 1 0 0),(1,.ptr 3 0 0),(0,pB a),(2,.ptr 7 0 0),(1,.ptr 9 0 0),(10,.s (.sl S P 2 M)),(0,pI N),(0,pI O),(25,pB T)] 57,[.arr true 9 1 [],.box [pB I,pB J,pB K,pB c,.fl 0],.arr true 9 1 [],.box [pB d,pB e,pB f,pB u,.fl 4],.arr true 9 1 w,.arr true 9 1 [],.box [pS B,.s (.sl H G 1 x)],(bU r C z D h i j l m n o p q A F),.arr true 9 1 [],.box [pB g,pB v,.s (.sl t t 1 y)]],s⟩ k =
 Ke a S P M N O I J K c d e f u w B H G x r C z D h i j l m n o p q A F g v t y (λa S P M N O T I J K c d e f X a3 a8 a7 Z a4 r a1 a5 a2 h i j l m n o p q a6 V g U a0=>k .normal ⟨gp [(2,.ptr 1 0 0),(1,.ptr 3 0 0),(0,pB a),(15,.s (.sl S P 2 M)),(0,pI N),(0,pI O)] 83,[.arr true 9 1 [],.box [pB T,pB I,pB J,pB K,.fl 0],.arr true 9 1 [],.box [pB c,pB d,pB e,pB f,.fl 4],.arr true 9 1 X,.arr true 9 1 [],.box [pS a3,.s (.sl a8 a7 1 Z)],(bU a4 r a1 a5 a2 h i j l m n o p q a6),.arr true 9 1 [],.box [pB V,pB g,.s (.sl U U 1 a0)]],s⟩) (λa S P M N O T I J K c d e f u w B H G x r C z D h i j l m n o p q A F g v t y=>k .normal ⟨gp [(2,.ptr 1 0 0),(1,.ptr 3 0 0),(0,pB a),(2,.ptr 7 0 0),(12,.s (.sl S P 2 M)),(0,pI N),(0,pI O),(65,pB T)] 17,[.arr true 9 1 [],.box [pB I,pB J,pB K,pB c,.fl 0],.arr true 9 1 [],.box [pB d,pB e,pB f,pB u,.fl 4],.arr true 9 1 w,.arr true 9 1 [],.box [pS B,.s (.sl H G 1 x)],(bU r C z D h i j l m n o p q A F),.arr true 9 1 [],.box [pB g,pB v,.s (.sl t t 1 y)]],s⟩)
theorem TF(a:Code)(c:Ik (R:=R) L Q Y s a)(b:Il (R:=R) L Q Y s a):Io (R:=R) L Q Y s (cd [1,1,1,1,0,1,0,0,1,1,0,0,1,1,1,1,1,1] (K4 [1,1,1,1,0,1,0,0,1,1,0,0,1,1,1,1,1,1,1,1] a F6)):=by intro k d V U P S T K M N O e f g h i m B I H n C D p F q r t u v w x y z A G j l J o;unfold Ke;simp only[<-b k];kernel_rfl
theorem TG:Io (R:=R) L Q Y s (cd [1,1,1,1,0,1,0,0,1,1,0,0,1,1,1,1,1,1] F6):=by intro k a S P M N O H I J K b c d e f i y F D j z A m B n o p q r t u v w x C g h G l;exact j1 (by kernel_rfl) (TF L Q Y s (cd [1,1,1,1,0,1,0,0,1,1,0,0,1,1,1,1,1,1,1,1] F6) (Um L Q Y s) (Un L Q Y s) k a S P M N O H I J K b c d e f i y F D j z A m B n o p q r t u v w x C g h G l)
noncomputable def J2{R:Type}(L n:Nat)(t z1 t2:Bool)(d:LL)(n4 c:Int)(b6 b7 b8 b9 m o p q:Bool)(r:LL)(k0:Int->Blk->Bool->Bool->Bool->Bool->Blk->Blk->Blk->Blk->Blk->Blk->(List Blk)->Option R)(k1:Int->Blk->Bool->Bool->Bool->Bool->Blk->Blk->Blk->Blk->Blk->Blk->Blk->Blk->(List Blk)->Option R)(k2:Bool->Bool->Bool->Bool->Bool->Bool->Bool->Bool->LL->Option R):Option R:=match n with
 | 0=>none
 | n+1=>
  cond (ltI c n4)
   (cond (inR c d.length)
   (cond (okE ⟨true,true,[.str,.sl 1]⟩ d (j0 c) 0)
    (vl (SV.gE (gC d (j0 c) 1)) λl=>
    cond (A3 (y5 (gX d (j0 c) 0)))
     (vl (D0 (gX d (j0 c) 0)) λa=>
     cond ((uE a)!=0)
      (k0 (uE a) (Blk.arr true 9 1 []) false false false false (Blk.arr true 9 1 []) (Blk.box [(PV.s (SV.bool m)),(PV.s (SV.bool o)),(PV.s (SV.bool p)),(PV.s (SV.bool q)),(PV.fl 4)]) (Blk.arr true 9 1 r) (Blk.arr true 9 1 []) (Blk.box [(PV.s (SV.str (gX d (j0 c) 0))),(PV.s (SV.sl (SV.gZ (gC d (j0 c) 1)) (SV.gT (gC d (j0 c) 1)) 1 l))]) (bQ a) [])
      (cond (z7 l isS)
      (cond (ae5 l.length 1000)
       (vl (K9 (w9 elS l)) λb=>
       cond ((b).2 !=0)
        (k1 (b).2 (Blk.arr true 9 1 []) false false false false (Blk.arr true 9 1 []) (Blk.box [(PV.s (SV.bool m)),(PV.s (SV.bool o)),(PV.s (SV.bool p)),(PV.s (SV.bool q)),(PV.fl 4)]) (Blk.arr true 9 1 r) (Blk.arr true 9 1 []) (Blk.box [(PV.s (SV.str (gX d (j0 c) 0))),(PV.s (SV.sl (SV.gZ (gC d (j0 c) 1)) (SV.gT (gC d (j0 c) 1)) 1 l))]) (bQ a) (Blk.arr true 9 1 []) (Blk.box [(PV.s (SV.bool (P3 (b).1 JQ))),(PV.s (SV.bool (P3 (b).1 CF))),(PV.s (SV.sl (x3 (b).1) (x3 (b).1) 1 (C1 (b).1)))]) [])
        (cond (not ((uS a)==[97,98,111,117,116]))
        (cond (G3 (uS a))
         (cond (smU (uS a) (uU a) (uN a) (uR a))
         (cond (ltN (uV a) 4294967296)
          (cond (okQ a)
          (cond (No (uP a))
           (Gd (AG (uS a) (uU a) (uK a) (uN a) (uV a) (uA a 0) (uA a 1) (uA a 2) (uA a 3) (uA a 4) (uA a 5) (uA a 6) (uA a 7) (uP a) (uR a)) z1 t2 d n4 c b6 b7 b8 b9 m o p q r (gX d (j0 c) 0) (SV.gZ (gC d (j0 c) 1)) (SV.gT (gC d (j0 c) 1)) l (uS a) (uU a) (uK a) (uN a) (uV a) (uA a 0) (uA a 1) (uA a 2) (uA a 3) (uA a 4) (uA a 5) (uA a 6) (uA a 7) (uP a) (uR a) (P3 (b).1 JQ) (P3 (b).1 CF) (x3 (b).1) (C1 (b).1) (λe g4 f8 c6 d9 e1 u v w x y z A B c7 t6 z5 y4 i5 t7 t8 l1 t9 l2 l4 l5 l6 l7 l8 l9 m0 m1 m2 u0 h0 h1 z6 i6=>vl (A1 (e1+1)) λe4=>
           J2 L n e g4 f8 c6 d9 e4 u v w x y z A B c7 k0 k1 k2) (λf g5 f9 c8 e2 e3 h2 C D F G H I J K d0 u1 z9 y6 i7 u2 u3 m3 u4 m4 m5 m6 m7 m8 m9 n1 n2 n3 n6 u5 h3 h4 z'1299 i9=>vl (A1 (e3+1)) λe5=>
           J2 L n f g5 f9 c8 e2 e5 C D F G H I J K d0 k0 k1 k2))
           none)
          none)
          none)
         none)
         (Gd false z1 t2 d n4 c b6 b7 b8 b9 m o p q r (gX d (j0 c) 0) (SV.gZ (gC d (j0 c) 1)) (SV.gT (gC d (j0 c) 1)) l (uS a) (uU a) (uK a) (uN a) (uV a) (uA a 0) (uA a 1) (uA a 2) (uA a 3) (uA a 4) (uA a 5) (uA a 6) (uA a 7) (uP a) (uR a) (P3 (b).1 JQ) (P3 (b).1 CF) (x3 (b).1) (C1 (b).1) (λg g6 g0 d1 e6 e7 M N O P S T U V d2 u6 z'1319 z0 j3 u7 u9 n7 v2 n9 o1 o2 o3 o4 p0 p1 p2 p3 q0 v3 h5 h6 z'1339 k3=>vl (A1 (e7+1)) λf0=>
         J2 L n g g6 g0 d1 e6 f0 M N O P S T U V d2 k0 k1 k2) (λh g7 g1 d3 e8 e9 h7 X Z a0 a1 a2 a3 a4 a5 d4 v5 z'1358 z2 k4 v9 w0 q1 w2 q2 q3 q4 q5 q6 q7 q8 q9 r0 r1 w3 h8 h9 z'1378 k5=>vl (A1 (e9+1)) λf1=>
         J2 L n h g7 g1 d3 e8 f1 X Z a0 a1 a2 a3 a4 a5 d4 k0 k1 k2)))
        (Ke t z1 t2 d n4 c b6 b7 b8 b9 m o p q r (gX d (j0 c) 0) (SV.gZ (gC d (j0 c) 1)) (SV.gT (gC d (j0 c) 1)) l (uS a) (uU a) (uK a) (uN a) (uV a) (uA a 0) (uA a 1) (uA a 2) (uA a 3) (uA a 4) (uA a 5) (uA a 6) (uA a 7) (uP a) (uR a) (P3 (b).1 JQ) (P3 (b).1 CF) (x3 (b).1) (C1 (b).1) (λi g8 g2 d5 f2 f3 a6 a7 a8 a9 b0 b1 b2 b3 d6 w4 z'1706 z3 k6 w5 w7 r2 x0 r3 r4 r5 r6 r7 r9 s0 s1 s2 s3 x1 i0 i1 z'1726 k7=>vl (A1 (f3+1)) λf6=>
         J2 L n i g8 g2 d5 f2 f6 a6 a7 a8 a9 b0 b1 b2 b3 d6 k0 k1 k2) (λj g9 g3 d7 f4 f5 i2 b4 b5 c0 c1 c2 c3 c4 c5 d8 x2 z'1745 z4 k8 y0 y1 s4 y2 s5 s6 s7 s8 s9 t0 t1 t3 t4 t5 y3 i3 i4 z'1765 l0=>vl (A1 (f5+1)) λf7=>
         J2 L n j g9 g3 d7 f4 f7 b4 b5 c0 c1 c2 c3 c4 c5 d8 k0 k1 k2))))
       none)
      none))
     none)
    none)
   none)
   (k2 b6 b7 b8 b9 m o p q r)
theorem TH(b:Code)(d:Im (R:=R) L Q Y s b)(m:Io (R:=R) L Q Y s b)(n:Nat)(c z1 t2:Bool)(o:LL)(n4 p:Int)(b6 b7 b8 b9 q r t u:Bool)(v:LL):E7 5 ((J3 L).keep 6) (bd (J3 L) Q Y (cd [1,1,1,1,0,1,0,0] (K4 [1,1,1,1,0,1,0,0,1,1,0,0,1,1,1,1,1,1] b F6))) n ⟨gp [(2,.ptr 1 0 0),(1,.ptr 3 0 0),(0,pB c),(15,.s (.sl z1 t2 2 o)),(0,pI n4),(0,pI p)] 83,[.arr true 9 1 [],.box [pB b6,pB b7,pB b8,pB b9,.fl 0],.arr true 9 1 [],.box [pB q,pB r,pB t,pB u,.fl 4],.arr true 9 1 v],s⟩ k =
 J2 L n c z1 t2 o n4 p b6 b7 b8 b9 q r t u v (λn0 B1 b2 b3 b4 b5 B6 B7 B8 B9 h2 h3 H12=>k .ret ⟨gp [(2,.ptr 1 0 0),(0,pI n0)] 103,(B1::.box [pB b2,pB b3,pB b4,pB b5,.fl 8]::B6::B7::B8::B9::h2::h3::.arr true 9 1 []::H12),s⟩) (λn0 B1 b2 b3 b4 b5 B6 B7 B8 B9 h2 h3 B12 B13 H14=>k .ret ⟨gp [(2,.ptr 1 0 0),(0,pI n0)] 103,(B1::.box [pB b2,pB b3,pB b4,pB b5,.fl 10]::B6::B7::B8::B9::h2::h3::B12::B13::.arr true 9 1 []::H14),s⟩) (λb0 b1 b2 b3 b4 b5 b6 b7 l8=>k (.exit 0) ⟨gp [(2,.ptr 1 0 0),(1,.ptr 3 0 0)] 102,[.arr true 9 1 [],.box [pB b0,pB b1,pB b2,pB b3,.fl 0],.arr true 9 1 [],.box [pB b4,pB b5,pB b6,pB b7,.fl 4],.arr true 9 1 l8],s⟩):=by
 induction n generalizing c z1 t2 o n4 p b6 b7 b8 b9 q r t u v with
 | zero=>rfl
 | succ n ih=>rw[J2];exact let K0:=(F9 1 (G6 (J3 L) Q Y (cd [1,1,1,1,0,1,0,0,1,1,1] F6) (lpK 5 ((J3 L).keep 6) (bd (J3 L) Q Y (cd [1,1,1,1,0,1,0,0] (K4 [1,1,1,1,0,1,0,0,1,1,0,0,1,1,1,1,1,1] b F6))) n k)));(j1 (by kernel_rfl) (A0 (A0 (A0 (A7 λh4=>(A0 (A7 λa=>(A0 rfl (A0 (A0 (A7 λe=>(A0 rfl (A0 (A0 (A0 (A0 (A0 (A0 ((d K0 (AG (uS a) (uU a) (uK a) (uN a) (uV a) (uA a 0) (uA a 1) (uA a 2) (uA a 3) (uA a 4) (uA a 5) (uA a 6) (uA a 7) (uP a) (uR a)) z1 t2 o n4 p b6 b7 b8 b9 q r t u v (gX o (j0 p) 0) (SV.gZ (gC o (j0 p) 1)) (SV.gT (gC o (j0 p) 1)) h4 (uS a) (uU a) (uK a) (uN a) (uV a) (uA a 0) (uA a 1) (uA a 2) (uA a 3) (uA a 4) (uA a 5) (uA a 6) (uA a 7) (uP a) (uR a) (P3 (e).1 JQ) (P3 (e).1 CF) (x3 (e).1) (C1 (e).1)).trans (congr (congr rfl (fx1 λf=>(fx1 λg6=>(fx1 λg0=>(fx1 λd5=>(fx1 λe8=>(fx1 λl4=>(fx1 λw=>(fx1 λx=>(fx1 λy=>(fx1 λz=>(fx1 λA=>(fx1 λB=>(fx1 λC=>(fx1 λD=>(fx1 λd6=>(fx1 λu5=>(fx1 λz'1240=>(fx1 λt'1241=>(fx1 λk0=>(fx1 λu6=>(fx1 λu7=>(fx1 λl5=>(fx1 λu9=>(fx1 λl6=>(fx1 λl7=>(fx1 λl9=>(fx1 λm0=>(fx1 λm1=>(fx1 λm2=>(fx1 λm3=>(fx1 λm4=>(fx1 λm5=>(fx1 λm6=>(fx1 λv2=>(fx1 λh5=>(fx1 λh6=>(fx1 λz'1260=>(fx1 λk1=>(j1 (by kernel_rfl) (A7 λf0=>(ih f g6 g0 d5 e8 f0 w x y z A B C D d6)))))))))))))))))))))))))))))))))))))))))) (fx1 λg=>(fx1 λg7=>(fx1 λg1=>(fx1 λd7=>(fx1 λe9=>(fx1 λm7=>(fx1 λh7=>(fx1 λF=>(fx1 λG=>(fx1 λH=>(fx1 λI=>(fx1 λJ=>(fx1 λK=>(fx1 λM=>(fx1 λN=>(fx1 λd8=>(fx1 λv3=>(fx1 λz'1279=>(fx1 λt'1280=>(fx1 λk2=>(fx1 λv5=>(fx1 λv9=>(fx1 λm8=>(fx1 λw0=>(fx1 λm9=>(fx1 λn1=>(fx1 λn2=>(fx1 λn3=>(fx1 λn6=>(fx1 λn7=>(fx1 λn9=>(fx1 λo1=>(fx1 λo2=>(fx1 λo3=>(fx1 λw2=>(fx1 λh8=>(fx1 λh9=>(fx1 λz'1299=>(fx1 λk3=>(j1 (by kernel_rfl) (A7 λf1=>(ih g g7 g1 d7 e9 f1 F G H I J K M N d8)))))))))))))))))))))))))))))))))))))))))))) rfl) rfl) rfl) rfl) ((d K0 false z1 t2 o n4 p b6 b7 b8 b9 q r t u v (gX o (j0 p) 0) (SV.gZ (gC o (j0 p) 1)) (SV.gT (gC o (j0 p) 1)) h4 (uS a) (uU a) (uK a) (uN a) (uV a) (uA a 0) (uA a 1) (uA a 2) (uA a 3) (uA a 4) (uA a 5) (uA a 6) (uA a 7) (uP a) (uR a) (P3 (e).1 JQ) (P3 (e).1 CF) (x3 (e).1) (C1 (e).1)).trans (congr (congr rfl (fx1 λh=>(fx1 λg8=>(fx1 λg2=>(fx1 λd9=>(fx1 λf2=>(fx1 λo4=>(fx1 λO=>(fx1 λP=>(fx1 λS=>(fx1 λT=>(fx1 λU=>(fx1 λV=>(fx1 λX=>(fx1 λZ=>(fx1 λe1=>(fx1 λw3=>(fx1 λz'1319=>(fx1 λt'1320=>(fx1 λk4=>(fx1 λw4=>(fx1 λw5=>(fx1 λp0=>(fx1 λw7=>(fx1 λp1=>(fx1 λp2=>(fx1 λp3=>(fx1 λq0=>(fx1 λq1=>(fx1 λq2=>(fx1 λq3=>(fx1 λq4=>(fx1 λq5=>(fx1 λq6=>(fx1 λx0=>(fx1 λi0=>(fx1 λi1=>(fx1 λz'1339=>(fx1 λk5=>(j1 (by kernel_rfl) (A7 λf4=>(ih h g8 g2 d9 f2 f4 O P S T U V X Z e1)))))))))))))))))))))))))))))))))))))))))) (fx1 λi=>(fx1 λg9=>(fx1 λg3=>(fx1 λe2=>(fx1 λf3=>(fx1 λq7=>(fx1 λi2=>(fx1 λa0=>(fx1 λa1=>(fx1 λa2=>(fx1 λa3=>(fx1 λa4=>(fx1 λa5=>(fx1 λa6=>(fx1 λa7=>(fx1 λe3=>(fx1 λx1=>(fx1 λz'1358=>(fx1 λt'1359=>(fx1 λk6=>(fx1 λx2=>(fx1 λy0=>(fx1 λq8=>(fx1 λy1=>(fx1 λq9=>(fx1 λr0=>(fx1 λr1=>(fx1 λr2=>(fx1 λr3=>(fx1 λr4=>(fx1 λr5=>(fx1 λr6=>(fx1 λr7=>(fx1 λr9=>(fx1 λy2=>(fx1 λi3=>(fx1 λi4=>(fx1 λz'1378=>(fx1 λk7=>(j1 (by kernel_rfl) (A7 λf5=>(ih i g9 g3 e2 f3 f5 a0 a1 a2 a3 a4 a5 a6 a7 e3))))))))))))))))))))))))))))))))))))))))))))) ((m K0 c z1 t2 o n4 p (not ((uS a)==[97,98,111,117,116])) b6 b7 b8 b9 q r t u v (gX o (j0 p) 0) (SV.gZ (gC o (j0 p) 1)) (SV.gT (gC o (j0 p) 1)) h4 (uS a) (uU a) (uK a) (uN a) (uV a) (uA a 0) (uA a 1) (uA a 2) (uA a 3) (uA a 4) (uA a 5) (uA a 6) (uA a 7) (uP a) (uR a) (P3 (e).1 JQ) (P3 (e).1 CF) (x3 (e).1) (C1 (e).1)).trans (congr (congr rfl (fx1 λj=>(fx1 λh0=>(fx1 λg4=>(fx1 λe4=>(fx1 λf6=>(fx1 λs0=>(fx1 λa8=>(fx1 λa9=>(fx1 λc0=>(fx1 λc1=>(fx1 λc2=>(fx1 λc3=>(fx1 λc4=>(fx1 λc5=>(fx1 λe5=>(fx1 λy3=>(fx1 λz'1706=>(fx1 λt'1707=>(fx1 λk8=>(fx1 λy4=>(fx1 λy6=>(fx1 λs1=>(fx1 λz0=>(fx1 λs2=>(fx1 λs3=>(fx1 λs4=>(fx1 λs5=>(fx1 λs6=>(fx1 λs7=>(fx1 λs8=>(fx1 λs9=>(fx1 λt0=>(fx1 λt1=>(fx1 λz2=>(fx1 λi5=>(fx1 λi6=>(fx1 λz'1726=>(fx1 λl0=>(j1 (by kernel_rfl) (A7 λf8=>(ih j h0 g4 e4 f6 f8 a8 a9 c0 c1 c2 c3 c4 c5 e5)))))))))))))))))))))))))))))))))))))))))) (fx1 λl=>(fx1 λh1=>(fx1 λg5=>(fx1 λe6=>(fx1 λf7=>(fx1 λt3=>(fx1 λi7=>(fx1 λc6=>(fx1 λc7=>(fx1 λc8=>(fx1 λd0=>(fx1 λd1=>(fx1 λd2=>(fx1 λd3=>(fx1 λd4=>(fx1 λe7=>(fx1 λz3=>(fx1 λz'1745=>(fx1 λt'1746=>(fx1 λl1=>(fx1 λz4=>(fx1 λz5=>(fx1 λt4=>(fx1 λz6=>(fx1 λt5=>(fx1 λt6=>(fx1 λt7=>(fx1 λt8=>(fx1 λt9=>(fx1 λu0=>(fx1 λu1=>(fx1 λu2=>(fx1 λu3=>(fx1 λu4=>(fx1 λz9=>(fx1 λi9=>(fx1 λj3=>(fx1 λz'1765=>(fx1 λl2=>(j1 (by kernel_rfl) (A7 λf9=>(ih l h1 g5 e6 f7 f9 c6 c7 c8 d0 d1 d2 d3 d4 e7))))))))))))))))))))))))))))))))))))))))))))))) rfl) rfl))) rfl)) rfl) rfl) rfl))
noncomputable def GQ{R:Type}(L:Nat)(h g:Bool)(a:LL)(V:Bool->Bool->Bool->Bool->Blk->Blk->(List Blk)->Option R)(X:Bool->Bool->Bool->Bool->Int->Blk->Blk->Blk->Blk->Blk->Blk->Blk->Blk->(List Blk)->Option R)(Z:Bool->Bool->Bool->Bool->Int->Blk->Blk->Blk->Blk->Blk->Blk->Blk->Blk->Blk->Blk->(List Blk)->Option R)(k3:Bool->Bool->Bool->Bool->Blk->Blk->Blk->Blk->LL->(List Blk)->Option R):Option R:=
 cond ((a.length:Int)==0)
 (V false false false false (Blk.arr true 9 1 []) (Blk.box [(PV.s (SV.bool false)),(PV.s (SV.bool false)),(PV.s (SV.bool false)),(PV.s (SV.bool false)),(PV.fl 2)]) [])
 (cond (ltI 16 (a.length:Int))
  (V false false false false (Blk.arr true 9 1 []) (Blk.box [(PV.s (SV.bool false)),(PV.s (SV.bool false)),(PV.s (SV.bool false)),(PV.s (SV.bool false)),(PV.fl 2)]) [])
  (J2 L L false h g a (a.length:Int) 0 false false false false true false false false [] (λN r i j l m t u v w x y J=>X i j l m N r (Blk.box [(PV.s (SV.bool i)),(PV.s (SV.bool j)),(PV.s (SV.bool l)),(PV.s (SV.bool m)),(PV.fl 8)]) t u v w x y J) (λO z n o p q A B C D F G H I K=>Z n o p q O z (Blk.box [(PV.s (SV.bool n)),(PV.s (SV.bool o)),(PV.s (SV.bool p)),(PV.s (SV.bool q)),(PV.fl 10)]) A B C D F G H I K) (λP S T U c d e f b=>cond ((z7 b isS)&&(A3 b.length))
  (cond (z7 (C1 (R6 (w9 elS b))) isS)
   (cond (A3 (y5 (C1 (R6 (w9 elS b)))))
   (vl (C1 (o0 (w9 elS (C1 (R6 (w9 elS b)))))) λM=>
    k3 c d e f (Blk.arr true 9 1 []) (Blk.box [(PV.s (SV.bool c)),(PV.s (SV.bool d)),(PV.s (SV.bool e)),(PV.s (SV.bool f)),(PV.fl 4)]) (Blk.arr true 9 1 []) (Blk.box [(PV.s (SV.bool c)),(PV.s (SV.bool d)),(PV.s (SV.bool e)),(PV.s (SV.bool f)),(PV.fl 4)]) M [])
   none)
   none)
  none)))
theorem Bj4(a:Code)(e:Im (R:=PV × List Blk × W) L Q Y s a)(f:Io (R:=PV × List Blk × W) L Q Y s a)(c b:Bool)(d:LL):A9 (J3 L) Q Y (cd [] (K4 [1,1,1,1,0,1,0,0,1,1,0,0,1,1,1,1,1,1] a F6)) ⟨[.s (.sl c b 2 d)]++tps 106,[],s⟩ (I1 (J3 L) ag8)=GQ L c b d (λl m n o u j A=>some (.tup [.agg [pB l,pB m,pB n,pB o,.fl 2],pI (3:Int)],(u::j::.arr true 9 1 []::A),s)) (λl m n o z j p q v w g h i x=>some (.tup [.agg [pB l,pB m,pB n,pB o,.fl 8],pI z],(j::p::q::v::w::g::h::i::.arr true 9 1 []::x),s)) (λl m n o z j p q v w g h i r t y=>some (.tup [.agg [pB l,pB m,pB n,pB o,.fl 10],pI z],(j::p::q::v::w::g::h::i::r::t::.arr true 9 1 []::y),s)) (λl m n o u j p q C B=>some (.tup [.agg [pB l,pB m,pB n,pB o,.fl 4],pI (0:Int)],(u::j::p::q::.arr true 9 1 C::B),s)):=by unfold GQ;exact(j1 (by kernel_rfl) (A0 rfl (A0 rfl ((TH L Q Y s (F9 0 (G6 (J3 L) Q Y (cd [1,1,1,1,1] F6) (I1 (J3 L) ag8))) a e f L false c b d (d.length:Int) 0 false false false false true false false false []).trans (by kernel_rfl)))))
theorem Bj5(d:Nat)(frames_z0 frames_t1 frames2):evC (J3 L) (d+1) W Y 11 [.s (.sl frames_z0 frames_t1 2 frames2)] [] s=GQ L frames_z0 frames_t1 frames2 (λf g h i o e v=>some (.tup [.agg [pB f,pB g,pB h,pB i,.fl 2],pI (3:Int)],(o::e::.arr true 9 1 []::v),s)) (λf g h i u e j l p q a b c r=>some (.tup [.agg [pB f,pB g,pB h,pB i,.fl 8],pI u],(e::j::l::p::q::a::b::c::.arr true 9 1 []::r),s)) (λf g h i u e j l p q a b c m n t=>some (.tup [.agg [pB f,pB g,pB h,pB i,.fl 10],pI u],(e::j::l::p::q::a::b::c::m::n::.arr true 9 1 []::t),s)) (λf g h i o e j l x w=>some (.tup [.agg [pB f,pB g,pB h,pB i,.fl 4],pI (0:Int)],(o::e::j::l::.arr true 9 1 x::w),s)):=
 (evE (fn:=ag8) (by kernel_rfl)).trans (j1 (by kernel_rfl) (Bj4 L (evC (J3 L) d) Y s (cd [1,1,1,1,0,1,0,0,1,1,0,0,1,1,1,1,1,1] F6) (TE L (evC (J3 L) d) Y s) (TG L (evC (J3 L) d) Y s) frames_z0 frames_t1 frames2))
noncomputable abbrev ZB(b a:Bool)(c:LL):Option (PV × List Blk × Unit):=GQ LF b a c (λh i j l q g x=>some (.tup [.agg [pB h,pB i,pB j,pB l,.fl 2],pI (3:Int)],(q::g::.arr true 9 1 []::x),())) (λh i j l w g m n r t d e f u=>some (.tup [.agg [pB h,pB i,pB j,pB l,.fl 8],pI w],(g::m::n::r::t::d::e::f::.arr true 9 1 []::u),())) (λh i j l w g m n r t d e f o p v=>some (.tup [.agg [pB h,pB i,pB j,pB l,.fl 10],pI w],(g::m::n::r::t::d::e::f::o::p::.arr true 9 1 []::v),())) (λh i j l q g m n z y=>some (.tup [.agg [pB h,pB i,pB j,pB l,.fl 4],pI (0:Int)],(q::g::m::n::.arr true 9 1 z::y),()))
end
theorem B94{p:W8 × Nat}(h:XT p.1):ltN (uV p) 4294967296=true/\okQ p=true/\No (uP p)=true/\∀c b,mkQ c p b=⟨c,p.1.user,p.1.host,b,p.1.rest⟩:=by obtain⟨⟨s,u,⟨k,n,v,l⟩,q,t⟩,e⟩:=p;obtain⟨a,d⟩:=h;obtain⟨g,i,j,m,o,r,w,x,rfl⟩:=eq8 a.v6.1;have f:=a.v4;simp only at f d;refine⟨D9.2 ⟨by show(0:Int)<=(v:Int);omega,by show(v:Int)<_;omega⟩,Ct2 a.v6.2,HQ.2 ⟨by show _<=q;omega,by show q<_;omega⟩,λc b=>B86 a.kd⟩
theorem Ad4(s:By):(D0 s).1.host.name.length<=253:=by
 by_cases h:(D0 s).2=0
 ·have b:=Bq3 h;cases c:G3 (D0 s).1.sch with
  | false=>
   obtain⟨_,_,_,a,_,_⟩:=b.ns c;rw[a]
   decide
  | true=>
   obtain⟨_,_,_,a,_,_⟩:=b.sp c;exact CB a
 ·rw[Ax5 h]
  decide
theorem B97{s:By}(h:s.length<=10000000)(a:By)(b:a.length<=10000000):smU a (uU (D0 s)) (uN (D0 s)) (uR (D0 s))=true:=by obtain⟨c,d,e⟩:=IT s;have f:=Ad4 s;simp only[smU,uU,uN,uR,p7,ag6];refine⟨⟨⟨by omega,by omega⟩,by omega⟩,by omega⟩
end
section
open Go
def VM(a:List Nat)(ret:PV)(H:List Blk):Bool:=decide a.Nodup&&(a.all (λb=>Nat.blt b H.length)&&(Dx H a&&ret.nms.all λb=>a.contains b))
theorem Au.pick{C:Cfg}{Γ:Ctx}{w w':World}{ret:PV}{Hc:List Blk}{V:Value}{ns:List Nat}(h:Au C I0 Γ [] w noΦ ret Hc () V w')(hok:VM ns ret Hc=true) :
  Au C I0 Γ [] w noΦ (ret.rn (G9 ns)) (O4 Hc ns) () V w':=by
 obtain⟨Γ1,Φ1,hs,hH1,hv,hvn,hi1,hd1⟩:=h;simp only[VM,p7,decide_eq_true_eq,ab0,ag7,List.contains_iff_mem] at hok;obtain⟨hnd,hlt,hcl,hr⟩:=hok;have hnm:∀i g,(Γ1.lent ns).nm i=some g->∃b,Γ1.nm b=some g:=λi g h=>by
  simp only[Ctx.lent] at h;cases hi:ns[i]? with
  | none=>rw[hi] at h;simp at h
  | some b=>rw[hi] at h;exact⟨b,h⟩
 have hlen:(O4 Hc ns).length=ns.length:=by simp[O4]
 refine⟨Γ1.lent ns,Φ1,⟨hs.os,hs.tape,hs.output,hs.size,hs.sub,hs.stnew,λc g h=>?_,hs.foot,hs.frame,hs.yv,Nat.zero_le _,λc hc=>by simp at hc⟩,
  UJ hH1 hnd hlt hcl,?_,λc hc=>?_,hi1,λc g h=>?_⟩
 ·obtain⟨b,hb⟩:=hnm c g h;rcases hs.own b g hb with⟨q,_⟩|q
  ·simp at q
  ·exact .inr q
 ·refine VP.rn (Γ:=Γ1) (Γ':=Γ1.lent ns) rfl hv (.inr λ_ h=>h) λc hc=>?_
  obtain⟨q1,q2⟩:=Aw (hr c hc);exact⟨Qk (hr c hc),by rw[Kq hlt q1,q2]⟩
 ·rw[PV.rn_nms] at hc;obtain⟨d,hd,rfl⟩:=List.mem_map.1 hc;rw[hlen];exact(Aw (hr d hd)).1
 ·obtain⟨b,hb⟩:=hnm c g h;exact hd1 b g hb
theorem KV{C₀:Cfg}{g:Nat}{pf:List PV->Tr}(z:XOK C₀)(v:Jz C₀)(B:C₀.P.follows .mixedOrders=true)
  (h:∀args ret e,K7 (pf args)=some (ret,e)->C7 args=[]/\∃d r c f,evC C₀ d Unit noY g args [] ()=some (r,c,())/\VM f r c=true/\r.rn (G9 f)=ret/\O4 c f=e):C0 C₀.P C₀.G g pf:=by
 intro args ret e n C x i D w p l u t A;obtain⟨k,d,r,c,f,j,m,rfl,rfl⟩:=h args ret e n;have q:=Jg (C₀:=C₀) (g:=g) (pf:=λa=>match evC C₀ d Unit noY g a [] () with|some (r,H,_)=>cond (C7 a).isEmpty (.ret r H) .fail|none=>.fail) z v B (λa r H b=>by
  split at b
  ·rename_i G H' _ F;cases o:(C7 a).isEmpty with
   | true=>
    rw[o] at b;simp only[cond_true,K7,Ev,j4,ac6] at b;grind
   | false=>rw[o] at b;cases b
  ·cases b)
 exact(q args r c (by dsimp only;rw[j];dsimp only;rw[k];rfl) C x i D w p l u t A).mono λV w' y=>y.pick m
end
section
open Go Go.Op
set_option maxRecDepth 100000
theorem De1{R:Type}(a N M:Bool)(J:LL)(K L:Int)(F G H I o p q r:Bool)(t:LL)(y:By)(C B:Bool)(v:LL)(m z:By)(u:Int)(n:By)(d e f g h i j k l x:Int)(A:By)(b c D:Bool)(w:LL)(O:Bool->Bool->Bool->LL->Int->Int->Bool->Bool->Bool->Bool->Bool->Bool->Bool->Bool->LL->By->Bool->Bool->LL->By->By->Int->By->Int->Int->Int->Int->Int->Int->Int->Int->Int->Int->By->Bool->Bool->Bool->LL->Option R)(P:Bool->Bool->Bool->LL->Int->Int->Bool->Bool->Bool->Bool->Bool->Bool->Bool->Bool->Bool->LL->By->Bool->Bool->LL->By->By->Int->By->Int->Int->Int->Int->Int->Int->Int->Int->Int->Int->By->Bool->Bool->Bool->LL->Option R)(h0:A3 n.length=true)(h1:ltN d 4294967296=true)(h2:ok8 e f g h i j k l=true)(h3:F8 (t.length+1)=true) :
  Gd a N M J K L F G H I o p q r t y C B v m z u n d e f g h i j k l x A b c D w O P =
  cond (b&&G3 m) (O a N M J K L F G H I (o&&a) (p||a) (q||b) (r||c) (t++[[SV.str (Ai (mkH u n d (n8 e f g h i j k l)))]]) y C B v m z u n d e f g h i j k l x A b c D w) (P a N M J K L false F G H I (o&&a) (p||a) (q||b) (r||c) t y C B v m z u n d e f g h i j k l x A b c D w):=by
 unfold Gd;cases b<;>cases o<;>cases p<;>cases q<;>cases r<;>cases c<;>simp only[cond_true,cond_false,V2,Gc,Gb,Ga,Fz,Fy,Fx,Fw,h0,h1,h2,h3,vl,x4,ad9,ah4,ac5,ae7]<;>cases G3 m<;>rfl
theorem De2{R:Type}(a N M:Bool)(J:LL)(K L:Int)(F G H I o p q r:Bool)(t:LL)(y:By)(C B:Bool)(v:LL)(m z:By)(u:Int)(n:By)(d e f g h i j k l x:Int)(A:By)(b c D:Bool)(w:LL)(O:Bool->Bool->Bool->LL->Int->Int->Bool->Bool->Bool->Bool->Bool->Bool->Bool->Bool->LL->By->Bool->Bool->LL->By->By->Int->By->Int->Int->Int->Int->Int->Int->Int->Int->Int->Int->By->Bool->Bool->Bool->LL->Option R)(P:Bool->Bool->Bool->LL->Int->Int->Bool->Bool->Bool->Bool->Bool->Bool->Bool->Bool->Bool->LL->By->Bool->Bool->LL->By->By->Int->By->Int->Int->Int->Int->Int->Int->Int->Int->Int->Int->By->Bool->Bool->Bool->LL->Option R)(h0:A3 n.length=true)(h1:ltN d 4294967296=true)(h2:ok8 e f g h i j k l=true)(h3:F8 (t.length+1)=true) :
  Ke a N M J K L F G H I o p q r t y C B v m z u n d e f g h i j k l x A b c D w O P =
  cond (b&&G3 m) (O a N M J K L F G H I (o&&a) (p||a) (q||b) (r||c) (t++[[SV.str (Ai (mkH u n d (n8 e f g h i j k l)))]]) y C B v m z u n d e f g h i j k l x A b c D w) (P a N M J K L false F G H I (o&&a) (p||a) (q||b) (r||c) t y C B v m z u n d e f g h i j k l x A b c D w):=by
 unfold Ke;cases b<;>cases o<;>cases p<;>cases q<;>cases r<;>cases c<;>simp only[cond_true,cond_false,V2,Gc,Gb,Ga,Fz,Fy,Fx,Fw,h0,h1,h2,h3,vl,x4,ad9,ah4,ac5,ae7]<;>cases G3 m<;>rfl
theorem B52{l:LL}(h:l.all UF=true){i:Nat}(c:i<l.length):∃u z t k E,(k=1\/z=true)/\l.getD i []=[.str u,.sl z t k (C1 E)]/\U4 (l.getD i [])=(u,E):=by
 have f:l.getD i []∈l:=by
  rw[o9,j7 c];exact ac8 c
 have a:=ab0.1 h _ f;generalize l.getD i []=g at a ⊢;unfold UF at a;split at a
 ·rename_i u z t k b;simp only[p7,ag4] at a;obtain⟨d,e⟩:=a;obtain⟨E,rfl⟩:∃E,b=C1 E:=⟨_,Je e⟩
  refine⟨u,z,t,k,E,d.imp Nat.eq_of_beq_eq_true (λq=>q.1),rfl,?_⟩;show(u,(C1 E).map elS)=(u,E)
  rw[Dr]
 ·cases a
theorem Bc7{l:LL}{i:Nat}(b:i<l.length):(l.map U4).drop i=U4 (l.getD i [])::(l.map U4).drop (i+1):=by
 have a:i<(l.map U4).length:=by rw[o5];exact b
 rw[aa2 a,List.getElem_map,o9,j7 b];rfl
theorem De4{l:LL}(h:l.all Ah8=true){i:Nat}(a:i<l.length):Ah8 (l.getD i [])=true:=by refine ab0.1 h _ ?_;rw[o9,j7 a];exact ac8 a
theorem Bo0(z t:Bool)(l:LL){R:Type}(w:l.all UF=true)(D:l.length<=1000000000)(d e:Unit->Option R):∀(r i n:Nat),i+r=l.length->r<n->
  Vp LF n z t l (i:Int) d e=cond (((l.map U4).drop i).all λf=>ltN f.1.length 3001&&(ae5 f.2.length 6&&Er 5000 f.2)) (e ()) (d ()):=by
 intro r
 induction r with
 | zero=>
  intro i n x y;obtain⟨n,rfl⟩:∃m,n=m+1:=⟨n-1,by omega⟩
  rw[aa0.2 (by rw[o5];omega),Vp,F1 (by omega)];rfl
 | succ r A=>
  intro i n x y;obtain⟨n,rfl⟩:∃m,n=m+1:=⟨n-1,by omega⟩
  have a:i<l.length:=by omega
  obtain⟨u,H,G,F,E,c,b,k⟩:=B52 w a;have o:A1 ((i:Int)+1)=((i+1:Nat):Int):=by rw[A5];rfl
  have B:okE Ia l i 0=true:=by unfold okE;rw[b];simp[a,okS,SV.has,Ia]
  have C:okE ⟨true,false,[.sl 1]⟩ l i 1=true:=by unfold okE;rw[b];rcases c with rfl|rfl<;>simp[a,okS,SV.has]
  have p:gX l i 0=u:=by unfold gX gC;rw[b];rfl
  have q:SV.gE (gC l i 1)=C1 E:=by unfold gC;rw[b];rfl
  rw[Bc7 a,k,Vp,D1 (by omega),L1 (by omega) (by omega),j2,B,C,p,q];have g:ltN u.length 3001 = !(ltI 3000 (u.length:Int)):=by
   rw[y7,D9,Ac];simp;omega
  have h:ae5 E.length 6 = !(ltI 6 (E.length:Int)):=by
   rw[y7,Ac];simp;omega
  simp only[cond_true,vl,C4,Lb,Dr,ae9];rw[g,h];cases ltI 3000 (u.length:Int) with
  | true=>rfl
  | false=>
   cases v:ltI 6 (E.length:Int) with
   | true=>rfl
   | false=>
    have j:A3 E.length=true:=E5 (by
     rw[Ac,decide_eq_false_iff_not] at v;omega)
    rw[j];cases Er 5000 E with
    | false=>rfl
    | true=>
     simp only[cond_false,cond_true,k9,j8,x4];rw[o];exact A (i+1) n (by omega) (by omega)
theorem Dd1{R:Type}{a:Bool->Option R}(z t:Bool)(l:LL)(d:l.all UF=true):Df0 LF z t l a=a (Bg8 (l.map U4)):=by
 have e:=E2;unfold Df0 Bg8;have c:ae5 (l.map U4).length 20 = !(ltI 20 (l.length:Int)):=by
  rw[o5,y7,Ac];simp;omega
 rw[c];cases b:ltI 20 (l.length:Int) with
 | true=>rfl
 | false=>
  have f:l.length<=20:=by
   rw[Ac,decide_eq_false_iff_not] at b;omega
  have:=Bo0 z t l d (by omega) (λ_=>a false) (λ_=>a true) l.length 0 LF (by omega) (by omega);rw[v8] at this;simp only[cond_false,j8,x4];refine j1 this ?_;cases z7 (l.map U4) _<;>rfl
theorem Bj7{R:Type}{a:By->List Blk->Option R}(t:By):C58 LF t a=a t []:=rfl
theorem TJ{R:Type}(z t:Bool)(l:LL)(hf:l.all UF=true)(q:l.all Ah8=true)(b2:l.length<=16):∀(r i n:Nat) (j h up g f:Bool) (q:List By),i+r=l.length->r<n->q.length<=i->
  (∃M K N F a,a.length<=16/\An8 ((l.map U4).drop i) j h up g f q=⟨0,M,K,N,F,o0 (R6 a)⟩/\∀b c d,J2 (R:=R) LF n f z t l (l.length:Int) (i:Int) false false false false j h up g (C1 q) b c d=d false false false false M K N F (C1 a))\/
  (∃e,e≠0/\An8 ((l.map U4).drop i) j h up g f q=As0 e/\((∃U V W X w x H,∀b c d,J2 (R:=R) LF n f z t l (l.length:Int) (i:Int) false false false false j h up g (C1 q) b c d=b e (Blk.arr true 9 1 []) false false false false U V W X w x H)\/
   (∃U V W X w x S T H,∀b c d,J2 (R:=R) LF n f z t l (l.length:Int) (i:Int) false false false false j h up g (C1 q) b c d=c e (Blk.arr true 9 1 []) false false false false U V W X w x S T H))):=by
 intro r
 induction r with
 | zero=>
  intro i n j h up g f a hi hn hh;obtain⟨n,rfl⟩:∃m,n=m+1:=⟨n-1,by omega⟩
  rw[aa0.2 (by rw[o5];omega)];exact .inl ⟨j,h,up,g,a,by omega,rfl,λb c d=>by rw[J2,F1 (by omega)];rfl⟩
 | succ r ih=>
  intro i n j h up g f a hi hn hh;obtain⟨n,rfl⟩:∃m,n=m+1:=⟨n-1,by omega⟩
  have p:i<l.length:=by omega
  obtain⟨u,z',t',k',E,a0,P,e3⟩:=B52 hf p;have k:=De4 q p;unfold Ah8 at k;rw[P] at k;simp only[p7] at k;have J:u.length<=10000000:=y9 k.1;have hu:A3 u.length=true:=E5 (by omega);have v:=B97 (s:=u) J (uS (D0 u)) (ah5 (IT u).1 J);have G:A3 (y5 (uN (D0 u)))=true:=by
   obtain⟨_,_,l,_⟩:=DI v;exact U2
  obtain⟨v1,v2,v3,_⟩:=B94 (Bq4 u);have O:ok8 (uA (D0 u) 0) (uA (D0 u) 1) (uA (D0 u) 2) (uA (D0 u) 3) (uA (D0 u) 4) (uA (D0 u) 5) (uA (D0 u) 6) (uA (D0 u) 7)=true:=v2;have I:F8 ((C1 a).length+1)=true:=by rw[C4];exact F3 (by omega)
  have hE:ae5 E.length 1000=true:=by
   have:=k.2;rw[show((([SV.str u,SV.sl z' t' k' (C1 E)]:List SV).getD 1 .nilp).gE)=C1 E from rfl,C4] at this;exact this
  have ew:A1 ((i:Int)+1)=((i+1:Nat):Int):=by rw[A5];rfl
  have o1:okE ⟨true,true,[.str,.sl 1]⟩ l i 0=true:=by unfold okE;rw[P];rcases a0 with rfl|rfl<;>simp[p,okS,SV.has]
  have g1:gX l i 0=u:=by unfold gX gC;rw[P];rfl
  have g2:SV.gE (gC l i 1)=C1 E:=by unfold gC;rw[P];rfl
  have eb:An8 ((u,E)::(l.map U4).drop (i+1)) j h up g f a=cond (uE (D0 u)!=0) (As0 (uE (D0 u))) (cond ((K9 E).2 !=0) (As0 (K9 E).2)
   (An8 ((l.map U4).drop (i+1)) (j&&trF f (D0 u)) (h||trF f (D0 u)) (up||upF E) (g||P3 (K9 E).1 CF) (trF f (D0 u))
    (cond (upF E&&G3 (uS (D0 u))) (a++[hsQ (D0 u)]) a))):=rfl
  rw[Bc7 p,e3,eb];cases o:(uE (D0 u)!=0) with
  | true=>
   refine .inr ⟨uE (D0 u),by simpa using o,by rw[cond_true],.inl ?_⟩;exact⟨_,_,_,_,_,_,_,λb c d=>by
    rw[J2,D1 (by omega),L1 (by omega) (by omega),j2,o1,g1,g2];simp only[cond_true,vl,hu,o];rfl⟩
  | false=>
   rw[cond_false];cases hM:((K9 E).2 !=0) with
   | true=>
    refine .inr ⟨(K9 E).2,by simpa using hM,by rw[cond_true],.inr ?_⟩;exact⟨_,_,_,_,_,_,_,_,_,λb c d=>by
     rw[J2,D1 (by omega),L1 (by omega) (by omega),j2,o1,g1,g2];simp only[cond_true,cond_false,vl,Lb,C4,Dr,hu,hE,o,hM];rfl⟩
   | false=>
    have ek:∀b c d,J2 (R:=R) LF (n+1) f z t l (l.length:Int) (i:Int) false false false false j h up g (C1 a) b c d =
      J2 (R:=R) LF n (trF f (D0 u)) z t l (l.length:Int) ((i+1:Nat):Int) false false false false (j&&trF f (D0 u)) (h||trF f (D0 u)) (up||upF E) (g||P3 (K9 E).1 CF) (C1 (cond (upF E&&G3 (uS (D0 u))) (a++[hsQ (D0 u)]) a)) b c d:=λb c d=>by
     rw[J2,D1 (by omega),L1 (by omega) (by omega),j2,o1,g1,g2];simp only[cond_true,cond_false,vl,Lb,C4,Dr,hu,hE,o,hM,De1 (h0:=G) (h1:=v1) (h2:=O) (h3:=I),De2 (h0:=G) (h1:=v1) (h2:=O) (h3:=I),v,v1,v2,v3,ew];unfold trF upF;have b1:(uS (D0 u)!=FZ) = !(uS (D0 u)==[97,98,111,117,116]):=rfl;rw[b1];cases hA:(uS (D0 u)==[97,98,111,117,116])<;>cases hS:G3 (uS (D0 u))<;>cases hU:P3 (K9 E).1 JQ<;>simp only[k9,j8,ae7,x4,ad9,Bool.and_false,Bool.or_true,Bool.or_false,cond_true,cond_false,Eh]<;>rfl
    have b0:(cond (upF E&&G3 (uS (D0 u))) (a++[hsQ (D0 u)]) a).length<=i+1:=by
     cases (upF E&&G3 (uS (D0 u))) with
     | true=>simp;omega
     | false=>simp;omega
    rw[cond_false];rcases ih (i+1) n _ _ _ _ _ _ (by omega) (by omega) b0 with⟨y,A,B,C,D,Q,L,q3⟩|⟨e,q0,Q,⟨y,A,B,C,D,Y,Z,L⟩|⟨y,A,B,C,D,Y,Z,a8,a9,L⟩⟩
    ·exact .inl ⟨y,A,B,C,D,Q,L,λb c d=>(ek b c d).trans (q3 b c d)⟩
    ·exact .inr ⟨e,q0,Q,.inl ⟨y,A,B,C,D,Y,Z,λb c d=>(ek b c d).trans (L b c d)⟩⟩
    ·exact .inr ⟨e,q0,Q,.inr ⟨y,A,B,C,D,Y,Z,a8,a9,λb c d=>(ek b c d).trans (L b c d)⟩⟩
theorem Bj6(z t:Bool)(l:LL)(D:l.all UF=true)(F:l.all Ah8=true)(G:A3 l.length=true) :
  ∃r H v,ZB z t l=some (r,H,())/\VM v r H=true/\r.rn (G9 v) = .tup [.agg [pB (cS (R3 (l.map U4))),pB (cP (R3 (l.map U4))),pB (cU (R3 (l.map U4))),pB (cB (R3 (l.map U4))),.fl 0],pI (cE (R3 (l.map U4)))]/\
   O4 H v=[.arr true 9 1 (C1 (cH (R3 (l.map U4))))]:=by
 have I:=E2;have M:=N5 G;unfold ZB GQ;have c:R3 (l.map U4)=cond ((l.map U4).isEmpty||ltI 16 (((l.map U4).length:Nat):Int)) (As0 3) (An8 (l.map U4) true false false false false []):=rfl;rw[o5] at c;by_cases u:l=[]
 ·subst u;exact⟨_,_,[2],rfl,rfl,rfl,rfl⟩
 have y:=ab6.2 u;have x:((l.length:Int)==0)=false:=by rw[beq_eq_false_iff_ne];omega
 have C:(l.map U4).isEmpty=false:=by
  cases l with
  | nil=>exact absurd rfl u
  | cons a r=>rfl
 rw[C,ac5] at c;cases q:ltI 16 (l.length:Int) with
 | true=>
  rw[q,cond_true] at c;rw[c,x];exact⟨_,_,[2],rfl,rfl,rfl,rfl⟩
 | false=>
  rw[q,cond_false] at c;have p:l.length<=16:=by
   rw[Ac,decide_eq_false_iff_not] at q;omega
  rw[c,x];rcases TJ (R:=PV × List Blk × Unit) z t l D F p l.length 0 LF true false false false false [] (by omega) (by omega) (by simp) with⟨k,m,n,o,j,i,f,J⟩|⟨e,N,i,⟨k,m,n,o,j,A,B,f⟩|⟨k,m,n,o,j,A,B,K,L,f⟩⟩
  ·have w:∀g h d,J2 (R:=PV × List Blk × Unit) LF LF false z t l (l.length:Int) 0 false false false false true false false false [] g h d=d false false false false k m n o (C1 j):=J;rw[v8] at f;simp only[cond_false,w,Lb,C4,Dr,Ai0,E5 (show j.length<=1000000000 by omega),Bool.and_self,cond_true,f];exact⟨_,_,[4],rfl,rfl,rfl,rfl⟩
  ·have b:∀g h d,J2 (R:=PV × List Blk × Unit) LF LF false z t l (l.length:Int) 0 false false false false true false false false [] g h d=_:=f;rw[v8] at i;simp only[cond_false,b,i];exact⟨_,_,[8],rfl,rfl,rfl,rfl⟩
  ·have b:∀g h d,J2 (R:=PV × List Blk × Unit) LF LF false z t l (l.length:Int) 0 false false false false true false false false [] g h d=_:=f;rw[v8] at i;simp only[cond_false,b,i];exact⟨_,_,[10],rfl,rfl,rfl,rfl⟩
end
section
open Go Go.Proofs
set_option maxRecDepth 100000
section
variable {σ R : Type} (L : Nat) (Q : F4) (Y : Yh σ) (s : σ) (k : Out -> St σ -> Option R)
noncomputable def YW(L:Nat):Cfg:=C8 L [3] (A4 []) [(6,ED),(7,Xm),(8,DQ),(9,QD)]
 (A4 [(3,[4]),(2,[4]),(1,[2,0,16]),(0,[2,0])]) [6,7,8,9] (A4 []) (some [4]) [] [] [] (nt:=[(24,4,9,1)])
noncomputable def lcv{R:Type}(L:Nat)(p q r t j i:Bool)(l:LL)(o:Int)(m:By)(n a b c d e f g h:Int)(u:Bool->(List Blk)->Option R):Option R:=
 cond (ltI 40 (l.length:Int))
 (u true [(bCx p q r t j i l),(bH o m n a b c d e f g h)])
 (cond (z7 l isS)
  (cond (A3 l.length)
  (cond (not (Er (400:Int) (w9 elS l)))
   (u true [(bCx p q r t j i l),(bH o m n a b c d e f g h)])
   (cond (ltI 400 (m.length:Int))
   (u true [(bCx p q r t j i l),(bH o m n a b c d e f g h)])
   (cond (z7 l isS)
    (cond (A3 l.length)
    (cond (A3 m.length)
     (cond (ltN n 4294967296)
     (cond (ok8 a b c d e f g h)
      (cond (z7 l isS)
      (cond (A3 l.length)
       (cond (A3 m.length)
       (cond (ltN n 4294967296)
        (cond (ok8 a b c d e f g h)
        (cond ((II (w9 elS l) (mkH o m n (n8 a b c d e f g h)))==(II (w9 elS l) (mkH o m n (n8 a b c d e f g h))))
         (u true [(bCx p q r t j i l),(bH o m n a b c d e f g h)])
         (u false [(bCx p q r t j i l),(bH o m n a b c d e f g h)]))
        none)
        none)
       none)
       none)
      none)
      none)
     none)
     none)
    none)
    none)))
  none)
  none)
theorem C75(d:Nat)(c0 c1 c2 c3 c_z4 c_t5 c6 h7 h8 h9 h10 h11 h12 h13 h14 h15 h16 h17):evC (YW L) (d+1) σ Y 3 [(gCx c0 c1 c2 c3 c_z4 c_t5 c6),(gH h7 h8 h9 h10 h11 h12 h13 h14 h15 h16 h17)] [] s=lcv L c0 c1 c2 c3 c_z4 c_t5 c6 h7 h8 h9 h10 h11 h12 h13 h14 h15 h16 h17 (λb a=>some (pB b,a,s)):=by refine(evE (fn:=Tryz.f3) (by kernel_rfl)).trans ?_;generalize evC (YW L) d=Q;unfold lcv;kernel_rfl
end
section
theorem OJ:C0 c9 GX 171 Ka:=λargs ret a h=>by
 have:K7 (Ka args)=none:=by unfold Ka DR;split<;>rfl
 rw[this] at h;cases h
theorem A86:C0 c9 GX 110 PN:=xf [] (Ap3 LF) PO rfl trivial rfl (by kernel_rfl) follows λargs=>by
 unfold PO;split
 ·rename_i s p;exact λa=>⟨rfl,rfl,rfl,_,_,(Cs1 LF noY () 0 s p).trans (Bo9 s p a),rfl⟩
 ·trivial
theorem XJ:C0 c9 GX 69 DY:=xf [] (Ao9 LF) PC rfl ⟨A86,trivial⟩ rfl (by kernel_rfl) follows λargs=>by
 unfold PC;split
 ·rename_i s p;exact λa=>⟨rfl,rfl,rfl,_,_,(Cq2 LF noY () 0 s p).trans (Bm7 s p a),rfl⟩
 ·trivial
theorem Ci6:C0 c9 GX 149 Al7:=xf [] (Ap4 LF) PQ rfl trivial rfl (by kernel_rfl) follows λargs=>by
 unfold PQ;split
 ·rename_i s p;exact λa=>⟨rfl,rfl,rfl,_,_,(Cs3 LF noY () 0 s p).trans (Bp0 s p a),rfl⟩
 ·trivial
theorem Db0:C0 c9 GX 116 Bz3:=xf [] (Ap0 LF) PD rfl ⟨Ci6,trivial⟩ rfl (by kernel_rfl) follows λargs=>by
 unfold PD;split
 ·rename_i s p;exact λa=>⟨rfl,rfl,rfl,_,_,(Cq4 LF noY () 0 s p).trans (Bm8 s p a),rfl⟩
 ·trivial
theorem C04:C0 c9 GX 168 Ba2:=xf [] (SC LF) EK rfl ⟨Ci6,trivial⟩ rfl (by kernel_rfl) follows λargs=>by
 unfold EK;split
 ·rename_i s p;exact λa=>⟨rfl,rfl,rfl,_,_,(B82 LF noY () 0 s p).trans (Aw2 s p a),rfl⟩
 ·trivial
theorem C15:C0 c9 GX 144 Bb1:=xf [] (SM LF) FK rfl ⟨C04,trivial⟩ rfl (by kernel_rfl) follows λargs=>by
 unfold FK;split
 ·rename_i s p;exact λa=>⟨rfl,rfl,rfl,_,_,(Ce9 LF noY () 0 s p).trans (A61 s p a),rfl⟩
 ·trivial
theorem C00:C0 c9 GX 105 A99:=xf [0,0] (RX LF) EF rfl ⟨A86,trivial⟩ rfl (by kernel_rfl) follows λargs=>by
 unfold EF;split
 ·rename_i s p;exact λa=>⟨rfl,rfl,rfl,_,_,(B75 LF noY () 0 s p).trans (Au9 s p a),rfl⟩
 ·trivial
theorem Ch9:C0 c9 GX 67 Al2:=xf [0,0] (Ao4 LF) OP rfl ⟨C00,trivial⟩ rfl (by kernel_rfl) follows λargs=>by
 unfold OP;split
 ·rename_i s p;exact λa=>⟨rfl,rfl,rfl,_,_,(Cm9 LF noY () 0 s p).trans (Bk4 s p a),rfl⟩
 ·trivial
theorem Ci0:C0 c9 GX 152 XV:=xf [1] (Dw LF) Xp rfl ⟨OJ,Cj3,A88,trivial⟩ rfl (by kernel_rfl) follows λargs=>by
 unfold Xp;split
 ·rename_i s p v n;exact λb=>λc=>λd=>λe=>(let⟨h,f,a,g⟩:=Aa7 s p v n b c d e;⟨rfl,rfl,rfl,h,f,(MH LF noY () 0 s p v n).trans a,g⟩)
 ·trivial
theorem JX:C0 c9 GX 125 Uc:=xf [1] (GI LF) Yd rfl ⟨Ci0,trivial⟩ rfl (by kernel_rfl) follows λargs=>by
 unfold Yd;split
 ·rename_i s p;exact λa=>λb=>⟨rfl,rfl,rfl,_,_,(Bv1 LF noY () 0 s p).trans (Ai6 s p a b),rfl⟩
 ·trivial
theorem A85:C0 c9 GX 66 EG:=xf [] (So LF) PM rfl trivial rfl (by kernel_rfl) follows λargs=>by
 unfold PM;split
 ·rename_i s;exact λa=>⟨rfl,rfl,rfl,_,_,(Cr9 LF noY () 0 s).trans (Bo7 s a),rfl⟩
 ·trivial
theorem Ci1:C0 c9 GX 95 Al4:=xf [] (Ao7 LF) PA rfl ⟨XJ,trivial⟩ rfl (by kernel_rfl) follows λargs=>by
 unfold PA;split
 ·rename_i s;exact λa=>⟨rfl,rfl,rfl,_,_,(Cp9 LF noY () 0 s).trans (Bm4 s a),rfl⟩
 ·trivial
theorem A81:C0 c9 GX 97 OQ:=xf [0,0] (V8 LF) OR rfl trivial rfl (by kernel_rfl) follows λargs=>by
 unfold OR;split
 ·rename_i s base;exact λa=>λb=>⟨rfl,rfl,rfl,_,_,(Cn8 LF noY () 0 s base).trans (Bk9 s base a b),rfl⟩
 ·trivial
theorem C42:C0 c9 GX 96 Bz7:=xf [0,0] (B30 LF) Al8 rfl ⟨Ci1,A81,trivial⟩ rfl (by kernel_rfl) follows λargs=>by
 unfold Al8;split
 ·rename_i s;exact λa=>⟨rfl,rfl,rfl,_,_,(C76 LF noY () 0 s).trans (B91 s a),rfl⟩
 ·trivial
theorem Bi1:C0 c9 GX 94 PW:=xf [1] (SE LF) EN rfl ⟨JX,trivial⟩ rfl (by kernel_rfl) follows λargs=>by
 unfold EN;split
 ·rename_i s;exact λa=>⟨rfl,rfl,rfl,_,_,(B98 LF noY () 0 s).trans (Ax6 s a),rfl⟩
 ·trivial
theorem OK:C0 c9 GX 58 Pu:=xf [] (Yu LF) Rz rfl ⟨Bi1,Ci1,C42,A81,trivial⟩ rfl (by kernel_rfl) follows λargs=>by
 unfold Rz;split
 ·rename_i s;exact λa=>⟨rfl,rfl,rfl,_,_,(Ax0 LF noY () 0 s).trans (UX s a),rfl⟩
 ·trivial
theorem Db5:C0 c9 GX 145 Bz9:=xf [0,0] (Sq LF) QA rfl ⟨Bi1,C42,trivial⟩ rfl (by kernel_rfl) follows λargs=>by
 unfold QA;split
 ·rename_i s;exact λa=>⟨rfl,rfl,rfl,_,_,(Cu4 LF noY () 0 s).trans (Br2 s a),rfl⟩
 ·trivial
theorem Dg4:C0 c9 GX 194 C24:=xf [0,0] (GL LF) Am7 rfl ⟨JX,A81,Ci4,trivial⟩ rfl (by kernel_rfl) follows λargs=>by
 unfold Am7;split
 ·rename_i s;exact λa=>⟨rfl,rfl,rfl,_,_,(C93 LF noY () 0 s).trans (Cg3 s a),rfl⟩
 ·trivial
theorem Dg3:C0 c9 GX 36 C23:=xf [] (GK LF) Am6 rfl ⟨Ci4,trivial⟩ rfl (by kernel_rfl) follows λargs=>by
 unfold Am6;split
 ·rename_i v;exact λa=>⟨rfl,rfl,rfl,_,_,(C92 LF noY () 0 v).trans (Cg1 v a),rfl⟩
 ·trivial
theorem By0:C0 c9 GX 50 KZ:=xf [] (Cu LF) Sa rfl trivial rfl (by kernel_rfl) follows λargs=>by
 unfold Sa;split
 ·rename_i s;exact λa=>⟨rfl,rfl,rfl,_,_,(A02 LF noY () 0 s).trans (VU s a),rfl⟩
 ·trivial
theorem Ak8:C0 c9 GX 30 FC:=xf [1] (Gw LF) Ya rfl trivial rfl (by kernel_rfl) follows λargs=>by
 unfold Ya;split
 ·rename_i s c;exact λb=>λd=>(let⟨g,e,a,f⟩:=Ag4 s c b d;⟨rfl,rfl,rfl,g,e,(Bt4 LF noY () 0 s c).trans a,f⟩)
 ·trivial
theorem Db7:C0 c9 GX 88 B00:=xf [] (Jn LF) QE rfl trivial rfl (by kernel_rfl) follows λargs=>by
 unfold QE;split
 ·rename_i b;exact λa=>⟨rfl,rfl,rfl,_,_,(Cv2 LF noY () 0 b).trans (Bs0 b a),rfl⟩
 ·trivial
theorem Dc0:C0 c9 GX 51 B03:=xf [0,0] (P0 LF) QJ rfl ⟨Db7,trivial⟩ rfl (by kernel_rfl) follows λargs=>by
 unfold QJ;split
 ·rename_i s;exact λa=>⟨rfl,rfl,rfl,_,_,(Cw0 LF noY () 0 s).trans (Bs5 s a),rfl⟩
 ·trivial
theorem Cj1:C0 c9 GX 49 XY:=xf [1] (GG LF) Xy rfl ⟨Ak8,trivial⟩ rfl (by kernel_rfl) follows λargs=>by
 unfold Xy;split
 ·rename_i s;exact λa=>⟨rfl,rfl,rfl,_,_,(Bs8 LF noY () 0 s).trans (Af5 s a),rfl⟩
 ·trivial
theorem A87:C0 c9 GX 28 EW:=xf [] (Ss LF) Nu rfl ⟨Cj1,By0,Dc0,trivial⟩ rfl (by kernel_rfl) follows λargs=>by
 unfold Nu;split
 ·rename_i s;exact λa=>⟨rfl,rfl,rfl,_,_,(Af4 LF noY () 0 s).trans (KN s a),rfl⟩
 ·trivial
theorem Dc1:C0 c9 GX 32 B04:=xf [] (Ap8 LF) QL rfl ⟨Bx8,trivial⟩ rfl (by kernel_rfl) follows λargs=>by
 unfold QL;split
 ·rename_i v;exact λa=>⟨rfl,rfl,rfl,_,_,(Cw5 LF noY () 0 v).trans (Bt6 v a),rfl⟩
 ·trivial
theorem Bx9:C0 c9 GX 152 Xq:=by
 refine C0.fix (pf:=Ry) _ (Z6 (C₀:=Dw LF) (K8.ok (l:=[(171,Ka),(172,Am3),(128,FD)]) rfl ⟨OJ,Cj3,A88,trivial⟩) (G5 rfl (by kernel_rfl)) follows ?_);intro args ret f h;unfold Ry at h;split at h
 ·rename_i s p v n;obtain⟨a,h⟩:=C9 h;obtain⟨b,h⟩:=C9 h;obtain⟨c,h⟩:=C9 h;obtain⟨d,h⟩:=C9 h;obtain⟨rfl,rfl⟩:=I9 h;have e:=(MH LF noY () 0 s p v n).trans (HN s p v n a b c d);exact⟨rfl,1,_,[],e,rfl,rfl⟩
 ·cases h
theorem By2:C0 c9 GX 125 LB:=by
 refine C0.fix (pf:=Sc) _ (Z6 (C₀:=Yx LF) (K8.ok (l:=[(152,Xq)]) rfl ⟨Bx9,trivial⟩) (G5 rfl (by kernel_rfl)) follows ?_);intro args ret c h;unfold Sc at h;split at h
 ·rename_i s p;obtain⟨a,h⟩:=C9 h;obtain⟨b,h⟩:=C9 h;obtain⟨rfl,rfl⟩:=I9 h;have e:=(A58 LF noY () 0 s p).trans (WQ s p a b);exact⟨rfl,1,_,[],e,rfl,rfl⟩
 ·cases h
end
section
theorem Da6:C0 c9 GX 193 By9:=xf [0,0] (Z9 LF) OW rfl trivial rfl (by kernel_rfl) follows λargs=>by
 unfold OW;split
 ·rename_i s;exact λa=>⟨rfl,rfl,rfl,_,_,(Cp1 LF noY () 0 s).trans (Bl9 s a),rfl⟩
 ·trivial
theorem Cz4:C0 c9 GX 184 A95:=xf [1,0] (Lr LF) DU rfl ⟨JX,Da6,Dg4,trivial⟩ rfl (by kernel_rfl) follows λargs=>by
 unfold DU;split
 ·rename_i s last;exact λb=>(let⟨e,c,a,d⟩:=At3 s last b;⟨rfl,rfl,rfl,e,c,(B58 LF noY () 0 s last).trans a,d⟩)
 ·trivial
theorem Dg7:C0 c9 GX 166 C27:=xf [0,0] (AO LF) An0 rfl ⟨Cj4,Cz4,trivial⟩ rfl (by kernel_rfl) follows λargs=>by
 unfold An0;split
 ·rename_i s;exact λb=>(let⟨e,c,a,d⟩:=Da1 s b;⟨rfl,rfl,rfl,e,c,(Da0 LF noY () 0 s).trans a,d⟩)
 ·trivial
theorem C18:C0 c9 GX 62 Bb3:=xf [0,0] (Z1 LF) FR rfl trivial rfl (by kernel_rfl) follows λargs=>by
 unfold FR;split
 ·rename_i a b c d e f g h;exact λi=>⟨rfl,rfl,rfl,_,_,(Cl1 LF noY () 0 a b c d e f g h).trans (A94 a b c d e f g h i),rfl⟩
 ·trivial
theorem Dg6:C0 c9 GX 63 C26:=xf [] (GM LF) Am9 rfl ⟨Da5,Bi3,trivial⟩ rfl (by kernel_rfl) follows λargs=>by
 unfold Am9;split
 ·rename_i b a l;exact λd=>λe=>(let⟨h,f,c,g⟩:=C98 b a l d e;⟨rfl,rfl,rfl,h,f,(C97 LF noY () 0 b a l).trans c,g⟩)
 ·trivial
theorem Dg5:C0 c9 GX 37 C25:=xf [] (B31 LF) Am8 rfl ⟨C18,Dg6,trivial⟩ rfl (by kernel_rfl) follows λargs=>by
 unfold Am8;split
 ·rename_i a b c d e f g h;exact λj=>(let⟨m,k,i,l⟩:=C96 a b c d e f g h j;⟨rfl,rfl,rfl,m,k,(C95 LF noY () 0 a b c d e f g h).trans i,l⟩)
 ·trivial
theorem C08:C0 c9 GX 57 Ba5:=xf [] (Lu LF) ES rfl trivial rfl (by kernel_rfl) follows λargs=>by
 unfold ES;split
 ·rename_i v;exact λa=>⟨rfl,rfl,rfl,_,_,(Cb5 LF noY () 0 v).trans (A15 v a),rfl⟩
 ·trivial
theorem Dc2:C0 c9 GX 33 B05:=xf [] (X3 LF) QM rfl ⟨C08,trivial⟩ rfl (by kernel_rfl) follows λargs=>by
 unfold QM;split
 ·rename_i a b c d e f g h;exact λi=>⟨rfl,rfl,rfl,_,_,(Cw7 LF noY () 0 a b c d e f g h).trans (Bt7 a b c d e f g h i),rfl⟩
 ·trivial
theorem Ak5:C0 c9 GX 155 Nt:=xf [] (GF LF) Xw rfl trivial rfl (by kernel_rfl) follows λargs=>by
 unfold Xw;split
 ·rename_i n;exact⟨rfl,rfl,rfl,_,_,(Br3 LF noY () 0 n).trans (Ae1 n ),rfl⟩
 ·trivial
theorem Ak4:C0 c9 GX 157 Ns:=xf [] (X1 LF) Xv rfl trivial rfl (by kernel_rfl) follows λargs=>by
 unfold Xv;split
 ·rename_i d c f;exact λa=>λb=>λe=>⟨rfl,rfl,rfl,_,_,(Bp9 LF noY () 0 d c f).trans (Ad3 d c f a b e),rfl⟩
 ·trivial
theorem Db4:C0 c9 GX 176 Al9:=xf [] (Ap5 LF) PY rfl trivial rfl (by kernel_rfl) follows λargs=>by
 unfold PY;split
 ·rename_i d;exact λa=>⟨rfl,rfl,rfl,_,_,(Ct9 LF noY () 0 d).trans (Bq9 d a),rfl⟩
 ·trivial
theorem Db6:C0 c9 GX 187 Am1:=xf [] (Jm LF) QC rfl trivial rfl (by kernel_rfl) follows λargs=>by
 unfold QC;split
 ·rename_i b;exact λa=>⟨rfl,rfl,rfl,_,_,(Cv0 LF noY () 0 b).trans (Br6 b a),rfl⟩
 ·trivial
end
section
theorem Cj0:C0 c9 GX 175 EO:=by
 refine C0.fix (pf:=QB) _ (Z6 (C₀:=Ap6 LF) (K8.ok (l:=[]) rfl trivial) (G5 rfl (by kernel_rfl)) follows ?_);intro args ret a h;unfold QB at h;split at h
 ·rename_i b;obtain⟨rfl,rfl⟩:=I9 h;have e:=(Cu6 LF noY () 0 b).trans (Br4 b );exact⟨rfl,1,_,[],e,rfl,rfl⟩
 ·cases h
theorem Bi6:Ud c9 GX 190 Pv:=by
 refine Ft (C₀:=SG LF) (K8.ok (l:=[]) rfl trivial) (G5 rfl (by kernel_rfl)) follows ?_;intro args H ret f h;unfold Pv at h;split at h
 ·rename_i k b;obtain⟨a,h⟩:=C9 h;obtain⟨c,h⟩:=C9 h;obtain⟨rfl,rfl⟩:=I9 h;refine⟨rfl,rfl,λg d s=>?_⟩;have e:=(Ca1 LF d s 0 k b).trans (Az1 k b a c);exact⟨1,_,e,rfl⟩
 ·cases h
theorem Dc8:Ud c9 GX 156 PU:=by
 refine Ft (C₀:=Yv LF) (Na (lx:=[(175,EO),(176,Al9)]) (ly:=[(190,Pv)]) (ls:=[]) rfl rfl rfl ⟨Cj0,Db4,trivial⟩ ⟨Bi6,trivial⟩ trivial) (G5 rfl (by kernel_rfl)) follows ?_;intro args H ret f h;unfold PU at h;split at h
 ·rename_i q b z l;obtain⟨a,h⟩:=C9 h;obtain⟨c,h⟩:=C9 h;obtain⟨d,h⟩:=C9 h;obtain⟨rfl,rfl⟩:=I9 h;obtain⟨g,i,e0⟩:=Bq1 q b z l a c d;exact⟨rfl,rfl,λj e s=>⟨1,_,(Ct5 LF e s 0 q b z l).trans (e0 _ _),rfl⟩⟩
 ·cases h
theorem Ci9:C0 c9 GX 130 Am0:=by
 refine C0.fix (pf:=PZ) _ (I4 [0,0] (C₀:=Q0 LF) (Na (lx:=[(155,Nt),(157,Ns)]) (ly:=[(156,PU)]) (ls:=[]) rfl rfl rfl ⟨Ak5,Ak4,trivial⟩ ⟨Dc8,trivial⟩ trivial) (G5 rfl (by kernel_rfl)) follows ?_);intro args ret i h;unfold PZ at h;split at h
 ·rename_i b a p;obtain⟨d,h⟩:=C9 h;obtain⟨rfl,rfl⟩:=I9 h;obtain⟨g,e,c,f⟩:=Cu1 b a p d;exact⟨rfl,rfl,rfl,1,g,e,(Cu0 LF noY () 0 b a p).trans c,f⟩
 ·cases h
end
section
theorem Dc7:Ud c9 GX 173 OS:=by
 refine Ft (C₀:=Ys LF) (Na (lx:=[(175,EO),(187,Am1)]) (ly:=[(190,Pv)]) (ls:=[]) rfl rfl rfl ⟨Cj0,Db6,trivial⟩ ⟨Bi6,trivial⟩ trivial) (G5 rfl (by kernel_rfl)) follows ?_;intro args H ret j h;unfold OS at h;split at h
 ·rename_i a n i b c z l;obtain⟨d,h⟩:=C9 h;obtain⟨e,h⟩:=C9 h;obtain⟨f,h⟩:=C9 h;obtain⟨rfl,rfl⟩:=I9 h;obtain⟨k,e0⟩:=Bl1 a n i b c z l d e f;exact⟨rfl,rfl,λm g s=>⟨1,_,(Cn9 LF g s 0 a n i b c z l).trans (e0 _ _),rfl⟩⟩
 ·cases h
theorem Ci3:C0 c9 GX 141 XX:=xf [] (Gu LF) Xs rfl trivial rfl (by kernel_rfl) follows λargs=>by
 unfold Xs;split
 ·rename_i s c;exact λa=>λb=>⟨rfl,rfl,rfl,_,_,(Bn4 LF noY () 0 s c).trans (Ab4 s c a b),rfl⟩
 ·trivial
theorem Bi0:C0 c9 GX 111 CP:=xf [] (RW LF) EE rfl ⟨Ci3,trivial⟩ rfl (by kernel_rfl) follows λargs=>by
 unfold EE;split
 ·rename_i s c;exact λa=>λb=>⟨rfl,rfl,rfl,_,_,(B74 LF noY () 0 s c).trans (Au6 s c a b),rfl⟩
 ·trivial
end
end
section
open Go Go.Proofs Go.Sort
set_option maxRecDepth 100000
theorem JJ{C:Cfg}{W:Type}{I:W->(Nat->Prop)->(Nat->Prop)->World->Prop}(J:HI I){f:Ctx}{u:Nat->Prop}{w w':World}{z v1:Bool}{E o r:Nat}{l l' m:LL}{s:W}(g cap:Nat)(H:List Value)(i:Array Value)
  (P:En C E=false) (j:HR f [.arr z E 1 l,.arr v1 o r m] w) (K:I s f.St u w) (M:∀b g,f.nm b=some g->¬u g)
  (d:f.nm 0=some g\/g=w.heap.size) (O:g<w'.heap.size) (e:∀k,k<w.heap.size->f.nm 0≠some k->w'.heap[k]? = w.heap[k]?) (p:w.heap.size<=w'.heap.size) (R:w'.os=w.os) (S:w'.tape=w.tape) (T:w'.output=w.output)
  (n:w'.heap[g]? = some (.cells i E (0,0))) (Y:Els f.St w' 1 l' H) (D:l'≠[]) (t:∀q,q<H.length->i[q]? = H[q]?) (Z:H.length<=i.size) (B:l'.length<=cap) (hm:cap<=maxLen) (L:i.size=cap) :
  Au C I f [.arr z E 1 l,.arr v1 o r m] w u (.fl 0) [.arr z E 1 l',.arr v1 o r m] s (.slice (some ⟨g,0,none⟩) l'.length cap) w':=by
 have x:0<[Blk.arr z E 1 l,.arr v1 o r m].length:=by simp
 have G:(f.re 0 (some g)).nm 0=some g:=by simp[Ctx.re]
 have F:¬Hh C (A2 [Blk.arr z E 1 l,.arr v1 o r m] 0):=by simp[A2,Blk.shp,Hh,P]
 have a:([Blk.arr z E 1 l,.arr v1 o r m].map (Blk.kill 0)).set 0 (.arr z E 1 l')=[.arr z E 1 l',.arr v1 o r m]:=rfl;have N:¬f.St g:=by
  rcases d with h|h
  ·exact(j.lt 0 g h).2.2
  ·intro hs;have:=j.stlt g hs;omega
 obtain⟨U,V,q3⟩:=IZ (C:=C) (y:=.arr z E 1 l') (ng:=some g) (w':=w') j x F (λk a=>by
   simp only[j4] at a;subst a;refine⟨O,N,λc t A=>?_⟩;rcases d with h|h
   ·exact t (j.inj c 0 _ A h)
   ·have:=(j.lt c _ A).2.1;omega)
  (λk a=>by
   simp only[j4] at a;subst a;rcases d with h|h
   ·exact .inl h
   ·exact .inr (by omega)) e p R S T
  (BR.els G n Y (by rintro⟨_,h⟩;exact D h) t Z) rfl
 rw[a] at U V;refine⟨_,u,U.lift u,V,?_,λc t=>?_,?_,λb X v=>?_⟩
 ·refine .fl 0 g z E 1 l'.length cap rfl (λ_ h=>D (p4.1 h)) G B hm ?_;simp only[aa8,n,L,p6]
 ·simp only[PV.nms,af1] at t;subst t;simp
 ·refine J.mono s f.St u w f.St w' K (λ_ h=>h) (λk a Q=>(J.foot _ _ _ _ K k Q).2 a) (λk a=>af2 (j.stlt k a) p) (λk a=>?_) p R S T;rcases a with a|a
  ·exact e k (j.stlt k a) (λh=>(j.lt 0 k h).2.2 a)
  ·exact e k (J.foot _ _ _ _ K k a).1 (λh=>M 0 k h a)
 ·simp only[Ctx.re] at v;split at v
  ·simp only[j4] at v;subst v;rcases d with h|h
   ·exact M 0 _ h
   ·intro Q;have:=(J.foot _ _ _ _ K _ Q).1;omega
  ·exact M b X v
theorem Cj{w:World}{g o e:Nat}{vs:List Value}{a:Array Value}(c:w.heap[g]? = some (.cells a e (0,0)))(f:o+vs.length<=a.size)(l:∀v∈vs,v.oneCell'=true) :
  (w.setCells g o vs).heap[g]? = some (.cells (H8 a.toList o vs).toArray e (0,0))/\(∀k,k≠g->(w.setCells g o vs).heap[k]? = w.heap[k]?)/\(w.setCells g o vs).heap.size=w.heap.size/\(w.setCells g o vs).os=w.os/\(w.setCells g o vs).tape=w.tape/\(w.setCells g o vs).output=w.output:=by
 obtain⟨w',i,m,n,p,q,t,u,_⟩:=L0 (P:=c9) (o:=o) c f l;have b:∀j,j<vs.length->∃v,w.cell? ⟨g,o+0+j,none⟩=some v:=λj d=>by
  refine⟨a[o+j]'(by omega),?_⟩;simp[ac4,c,aa1 (show o+j<a.size by omega)]
 have r:=run_storeCells_cells (P:=c9) g o vs 0 w (λj d=>by obtain⟨v,h⟩:=b j d;rw[h];rfl) (λj d=>by simp[ab1,c]) l;rw[r] at i;simp only[ab7,Result.ok.injEq,true_and] at i;rw[i];exact⟨m,n,p,q,t,u⟩
theorem HS{St:Nat->Prop}{w:World}{l:LL}{d:List Value}{i:Nat}{n:Int}(h:Els St w 1 l d)(q:i<=l.length):Els St w 1 (Me l i n) (d.take i++j9 .i64 n::d.drop i):=by
 have c:=h.1;rw[p6] at c;have m:Els St w 1 (l.take i) (d.take i):=by
  refine⟨by rw[o6,o6,c,p6],λj f=>?_⟩;rw[o6] at f;rw[List.getElem_take];obtain⟨a,b⟩:=h.2 j (by omega);refine⟨a,λk g=>?_⟩;obtain⟨U,e,v⟩:=b k g;exact⟨U,by rw[x7 (by omega)];exact e,v⟩
 have o:Els St w 1 [[SV.int .i64 n]] [j9 .i64 n]:=by
  refine⟨rfl,λj f=>?_⟩;have:j=0:=by simpa using f
  subst this;refine⟨rfl,λk g=>?_⟩;have:k=0:=by simpa using g
  subst this;exact⟨_,rfl,.int _ _⟩
 have p:Els St w 1 (l.drop i) (d.drop i):=by
  refine⟨by rw[j5,j5,c,p6],λj f=>?_⟩;rw[j5] at f;rw[List.getElem_drop];obtain⟨a,b⟩:=h.2 (i+j) (by omega);refine⟨a,λk g=>?_⟩;obtain⟨U,e,v⟩:=b k g;exact⟨U,by rw[List.getElem?_drop];rw[show i+(j*1+k)=(i+j)*1+k by omega];exact e,v⟩
 have:=(m.append o).append p;unfold Me;simpa using this
theorem HT(l:LL)(i:Nat)(n:Int)(h:i<=l.length):(Me l i n).length=l.length+1:=by unfold Me;rw[o8,x9,o6,j5];omega
theorem UD(l:LL)(i:Nat)(n:Int):Me l i n≠[]:=by unfold Me;simp
theorem Dc9:Ud c9 GX 174 QS:=by
 intro C hP hG σ I yh yv hI hy args H s ret Hc G Γ Φ w Vs f7 hH hg hi hd hc hn;unfold QS at G;split at G
 ·rename_i i z l d;obtain⟨h0,G⟩:=C9 G;obtain⟨h1,G⟩:=C9 G;obtain⟨rfl,rfl⟩:=I9 G;obtain⟨i0,i1⟩:=D9.1 h0;obtain⟨i,rfl⟩:=p9 i0;have hl:=y9 h1;have X:i<=l.length:=by
   have:(i:Int)<((l.length+1:Nat):Int):=i1;omega
  obtain⟨S,X0,V,rfl,hs,hx,hv⟩:=hc.arr3;obtain rfl:=hx.inv_int;have b6:En C 3=false:=by
   unfold En Cfg.sh;rw[hP];kernel_rfl
  obtain⟨g1,b9,n1,n2,n3,n4,n5⟩:=hH.arr' (b:=1) rfl (by simp);have f1:∃cap,V = .slice (some ⟨g1,0,none⟩) 1 cap:=by
   cases hv with
   | flv _ e sz h=>simp[A2,Blk.shp] at h
   | fl _ g v e sz n cap h e4 y R hm d9=>
    rw[n1] at y;simp only[j4] at y;subst y;simp only[A2,aa5,v7,x5,Blk.shp,j4,Shp.arr.injEq] at h;obtain⟨_,_,_,h4⟩:=h;subst h4;exact⟨cap,rfl⟩
  obtain⟨A,rfl⟩:=f1;obtain⟨V1,p1,p2⟩:=n5 0 (by simp) 0 (by simp);have p3:V1 = .int .i64 d:=by cases p2;rfl
  subst p3;have t:∀j v,[j9 .i64 d][j]? = some v->w.cell? ⟨g1,0+j,none⟩=some v:=by
   intro j v x;have:j=0:=by
    have:=(ac1.1 x).1;simpa using this
   subst this;simp only[v7,j4] at x;subst x;simpa[ac4,n2] using p1
  have M:∀v∈[j9 .i64 d],v.oneCell'=true:=by simp[Value.oneCell']
  rw[j2];refine Am (fn:=Tryz.f174) (by kernel_rfl) (by kernel_rfl) (by kernel_rfl) ?_;have B:∀(base:Option Addr) (c:Nat) (f:List Value),l.length<=c->c<l.length+1->f.length=l.length->(base=none->l.length=0)->(∀a,base=some a->∀j v,f[j]? = some v->w.cell? (a.add j)=some v)->Els Γ.St w 1 l f->
    Calls c9 174 #[.slice base l.length c,.int .i64 (l.length:Int),.slice (some ⟨g1,0,none⟩) 1 A] w λe w'=>∃V,e = .returned V/\Au C I Γ [.arr z 3 1 l,.arr false 3 1 [[SV.int .i64 d]]] w Φ (.fl 0) [.arr z 3 1 (Me l l.length d),.arr false 3 1 [[SV.int .i64 d]]] s V w':=by
   intro base c f a1 a2 a3 a4 a5 a6;refine(Any2.slices_Insert_int_end_grow Tryz.lays2_21 base l.length c g1 0 1 A f [.int .i64 d] w (by omega) a1 a2 (by omega) a3 rfl a4 a5 t M).mono ?_;rintro e w' ⟨rfl,rfl⟩;refine⟨_,rfl,?_⟩;obtain⟨T,b5⟩:=Iq (w:=w) (need:=l.length+1) (cap:=c) (e:=3) (by omega);have hE:=HS (n:=d) a6 (ag2 l.length);have c7:f.take l.length++j9 .i64 d::f.drop l.length=f++[j9 .i64 d]:=by
    rw[ad2 (by omega),o7 (by omega)]
   rw[c7] at hE;have r:=HT l l.length d (ag2 _);obtain⟨r1,r2⟩:=Zg (olds:=f) (Vs:=[j9 .i64 d]) (z:=(j9 .i64 0).cells) (k:=grownCap w (l.length+1) c 3) (n:=l.length) (m:=1) (size:=1) rfl (by omega) rfl T;have b7:(f.toArray++[j9 .i64 d].toArray)=(f++[j9 .i64 d]).toArray:=by simp
   rw[b7] at r1 r2;have key:∀(row:Array Value) (O:Nat),row.size=O->(∀q,q<(f++[j9 .i64 d]).length->row[q]? = (f++[j9 .i64 d])[q]?)->l.length+1<=O->O<=maxLen->
     Au C I Γ [.arr z 3 1 l,.arr false 3 1 [[SV.int .i64 d]]] w Φ (.fl 0) [.arr z 3 1 (Me l l.length d),.arr false 3 1 [[SV.int .i64 d]]] s (.slice (some ⟨w.heap.size,0,none⟩) (l.length+1) O) (w.drew.alloc (.cells row 3)):=by
    intro row O b1 b2 b3 b4;have D:(w.drew.alloc (.cells row 3)).heap=w.heap.push (.cells row 3):=rfl;have:=JJ (C:=C) (w':=w.drew.alloc (.cells row 3)) (l':=Me l l.length d) hI w.heap.size O (f++[j9 .i64 d]) row b6 hH hi hd (.inr rfl) (by rw[D];simp) (λk N _=>G4 D N) (by rw[D];simp) rfl rfl rfl (G0 D) (hE.mono (λg hg=>G4 D (hH.stlt g hg)) (λ_ h=>h)) (UD _ _ _) b2 (by rw[b1,o8,j6];omega) (by rw[r];exact b3) b4 b1;rw[r] at this;exact this
   exact key _ _ (r1.trans (p6 _)) r2 T b5
  have f5:∀(row:Array Value) (f:List Value),f.length=l.length->i<l.length->l.length+1<=row.size->(∀q,q<i->row[q]? = f[q]?)->
    ∀q,q<(f.take i++j9 .i64 d::f.drop i).length->(H8 (H8 row.toList i [j9 .i64 d]) (i+1) (f.drop i)).toArray[q]? = (f.take i++j9 .i64 d::f.drop i)[q]?:=by
   intro row f a1 a2 a3 a4 q hq;have e9:q<l.length+1:=by
    rw[o8,x9,o6,j5] at hq;omega
   have ht:(f.take i).length=i:=by rw[o6];omega
   have Y:row.toList.length=row.size:=x8;simp only[y8];rw[N1 _ _ _ (by rw[D6,j5,Y];omega),N1 _ _ _ (by rw[j6,Y];omega)];by_cases h1:q<i
   ·rw[J4,J4,aa3 (by omega),x7 h1];simpa using a4 q h1
   ·by_cases h2:q=i
    ·subst h2;rw[J4,if_pos (by rw[j6];omega),w6 (by omega),ht,ah6];rfl
    ·rw[if_pos (by rw[j5];omega),w6 (by omega),ht,show q-i=(q-(i+1))+1 by omega,aa5]
  have P:∀(g c:Nat) (f:List Value),i<l.length->l.length<=c->c<l.length+1->f.length=l.length->(∀j v,f[j]? = some v->w.cell? ⟨g,0+j,none⟩=some v)->(∀v∈f,v.oneCell'=true)->Els Γ.St w 1 l f->
    Calls c9 174 #[.slice (some ⟨g,0,none⟩) l.length c,.int .i64 (i:Int),.slice (some ⟨g1,0,none⟩) 1 A] w λe w'=>∃V,e = .returned V/\Au C I Γ [.arr z 3 1 l,.arr false 3 1 [[SV.int .i64 d]]] w Φ (.fl 0) [.arr z 3 1 (Me l i d),.arr false 3 1 [[SV.int .i64 d]]] s V w':=by
   intro g c f W a1 a2 a3 a4 a5 a6;refine(Any2.slices_Insert_int_grow Tryz.lays2_21 g 0 l.length c i g1 0 1 A f [.int .i64 d] w W (by omega) a1 a2 (by omega) a3 rfl a4 t a5 M).mono ?_;rintro e w' ⟨rfl,rfl⟩;refine⟨_,rfl,?_⟩;obtain⟨T,b5⟩:=Iq (w:=w) (need:=l.length+1) (cap:=c) (e:=3) (by omega);have hE:=HS (n:=d) a6 X;have r:=HT l i d X;have key:∀(row:Array Value) (O:Nat),row.size=O->(∀q,q<i->row[q]? = f[q]?)->l.length+1<=O->O<=maxLen->
     Au C I Γ [.arr z 3 1 l,.arr false 3 1 [[SV.int .i64 d]]] w Φ (.fl 0) [.arr z 3 1 (Me l i d),.arr false 3 1 [[SV.int .i64 d]]] s (.slice (some ⟨w.heap.size,0,none⟩) (l.length+1) O) (((w.alloc (.cells row 3)).drew.setCells w.heap.size i [j9 .i64 d]).drew.setCells w.heap.size (i+1) (f.drop i)):=by
    intro row O b1 b2 b3 b4;have D:(w.alloc (.cells row 3)).drew.heap=w.heap.push (.cells row 3):=rfl;obtain⟨c1,c2,c3,c4,c5,c6⟩:=Cj (w:=(w.alloc (.cells row 3)).drew) (o:=i) (vs:=[j9 .i64 d]) (G0 D) (by rw[j6];omega) M;generalize f2:(w.alloc (.cells row 3)).drew.setCells w.heap.size i [j9 .i64 d]=w1 at *;have Q:(H8 row.toList i [j9 .i64 d]).toArray.size=O:=by rw[p5,D6];simpa using b1
    obtain⟨d1,d2,d3,d4,d5,d6⟩:=Cj (w:=w1.drew) (o:=i+1) (vs:=f.drop i) c1 (by rw[Q,j5];omega) (λv hv=>a5 v (ab2 hv));have a8:∀k,k<w.heap.size->(w1.drew.setCells w.heap.size (i+1) (f.drop i)).heap[k]? = w.heap[k]?:=λk N=>by
     rw[d2 k (by omega)];exact(c2 k (by omega)).trans (G4 D N)
    have e3:(w1.drew.setCells w.heap.size (i+1) (f.drop i)).heap.size=w.heap.size+1:=by
     rw[d3];show w1.heap.size=_;rw[c3,D];simp
    have:=JJ (C:=C) (w':=w1.drew.setCells w.heap.size (i+1) (f.drop i)) (l':=Me l i d) hI w.heap.size O (f.take i++j9 .i64 d::f.drop i) _ b6 hH hi hd (.inr rfl) (by rw[e3];omega) (λk N _=>a8 k N) (by rw[e3];omega) (d4.trans c4) (d5.trans c5) (d6.trans c6) d1 (hE.mono (λg hg=>a8 g (hH.stlt g hg)) (λ_ h=>h)) (UD _ _ _) (f5 row f a3 W (by omega) b2) (by rw[p5,D6,o8,x9,o6,j5];simp only[p5,D6] at Q ⊢;omega) (by rw[r];exact b3) b4 (by rw[p5,D6];simpa using Q);rw[r] at this;exact this
   have f3:(j9 .i64 0).cells.size=1:=rfl;have ht:(f.take i).length=i:=by rw[o6];omega
   refine key _ _ ?_ (λq hq=>?_) T b5
   ·simp only[ac2,p5,size_zeroCells,f3,p6,ht];have:l.length+1<=grownCap w (l.length+1) c 3:=T;show i+(l.length+1-i)+(grownCap w (l.length+1) c 3-(l.length+1))=grownCap w (l.length+1) c 3;omega
   ·rw[ab8 (by simp only[ac2,p5,ht];omega),ab8 (by simp only[p5,ht];omega),y8,x7 hq]
  have e5:∀(row:Array Value) (f:List Value),f.length=l.length->i<l.length->l.length+1<=row.size->(∀q,q<i->row[q]? = f[q]?)->
    ∀q,q<(f.take i++j9 .i64 d::f.drop i).length->(H8 (H8 row.toList (i+1) (f.drop i)) i [j9 .i64 d]).toArray[q]? = (f.take i++j9 .i64 d::f.drop i)[q]?:=by
   intro row f a1 a2 a3 a4 q hq;have e9:q<l.length+1:=by
    rw[o8,x9,o6,j5] at hq;omega
   have ht:(f.take i).length=i:=by rw[o6];omega
   have Y:row.toList.length=row.size:=x8;simp only[y8];rw[N1 _ _ _ (by rw[D6,j6,Y];omega),N1 _ _ _ (by rw[j5,Y];omega)];by_cases h1:q<i
   ·rw[J4,J4,aa3 (by omega),x7 h1];simpa using a4 q h1
   ·by_cases h2:q=i
    ·subst h2;rw[if_pos (by rw[j6];omega),w6 (by omega),ht,ah6];rfl
    ·rw[if_neg (by rw[j6];omega),if_pos (by rw[j5];omega),w6 (by omega),ht,show q-i=(q-(i+1))+1 by omega,aa5]
  cases hs with
  | flv _ e2 f4 h'=>
   simp only[A2,v7,x5,Blk.shp,j4,Shp.arr.injEq] at h';obtain⟨q1,q2,q3,h4⟩:=h';obtain rfl:=p4.1 h4;obtain rfl:i=0:=by simpa using X
   exact B none 0 [] (by simp) (by simp) rfl (λ_=>rfl) (λa h=>by cases h) ⟨rfl,λj x=>by simp at x⟩
  | fl _ g z' e2 f4 n' cap h' e4 y R hm d9=>
   simp only[A2,v7,x5,Blk.shp,j4,Shp.arr.injEq] at h';obtain⟨rfl,rfl,rfl,rfl⟩:=h';have e8:¬(z=true/\l=[]):=by rintro⟨q1,q2⟩;exact e4 q1 (by rw[q2];rfl)
   obtain⟨g',p,d0,hh,b8,K,c8⟩:=hH.arr' (b:=0) rfl e8;obtain rfl:g=g':=by
    rw[y] at d0;exact ab5 d0
   have c0:p.size=cap:=by
    have:=d9;simp only[aa8,hh,j4,ac6,true_and,p6] at this;exact this
   rw[p6] at b8;have hO:Els Γ.St w 1 l (p.toList.take l.length):=by
    refine⟨by rw[o6,x8 (xs:=p)];omega,λj x=>⟨K j x,λk N=>?_⟩⟩;obtain⟨U,e1,u⟩:=c8 j x k N;refine⟨U,?_,u⟩;have f6:k<1:=by rw[<-K j x];exact N
    rw[aa4,Aj];simpa using e1
   have F:(p.toList.take l.length).length=l.length:=by rw[o6,x8 (xs:=p)];omega
   have J:∀j v,(p.toList.take l.length)[j]? = some v->w.cell? ⟨g,0+j,none⟩=some v:=by
    intro j v x;have a0:j<l.length:=by
     have:=(ac1.1 x).1;omega
    rw[aa4,if_pos a0] at x;simpa[ac4,hh] using x
   have a9:∀v∈p.toList.take l.length,v.oneCell'=true:=by
    intro v hv;obtain⟨j,x,rfl⟩:=List.getElem_of_mem hv;have a0:j<l.length:=by omega
    obtain⟨_,u⟩:=hO.2 j a0;obtain⟨U,e1,u2⟩:=u 0 (by rw[K j a0];exact Nat.one_pos);rw[p6,ab7,j7 x] at e1;cases e1;exact u2.oneCell
   have r:=HT l i d X;have hE:=HS (n:=d) hO X;have Z:∀j,j<cap->(w.cell? ⟨g,j,none⟩).isSome=true:=by
    intro j x;simp only[ac4,hh];rw[aa1 (by omega)];rfl
   have a7:∀j,w.frozen? ⟨g,j,none⟩=false:=λj=>by simp[ab1,hh]
   have d8:g1≠g:=λe=>by
    have:=hH.inj 1 0 g (by rw[<-e];exact n1) y;omega
   have d7:cap<=9223372036854775807:=by
    simp only[maxLen] at hm;omega
   by_cases L:l.length+1<=cap
   ·have key:∀(w':World) (row:List Value),w'.heap[g]? = some (.cells row.toArray 3 (0,0))->(∀k,k≠g->w'.heap[k]? = w.heap[k]?)->w'.heap.size=w.heap.size->w'.os=w.os->w'.tape=w.tape->w'.output=w.output->row.length=cap->
      (∀q,q<((p.toList.take l.length).take i++j9 .i64 d::(p.toList.take l.length).drop i).length->row.toArray[q]? = ((p.toList.take l.length).take i++j9 .i64 d::(p.toList.take l.length).drop i)[q]?)->
      Au C I Γ [.arr z 3 1 l,.arr false 3 1 [[SV.int .i64 d]]] w Φ (.fl 0) [.arr z 3 1 (Me l i d),.arr false 3 1 [[SV.int .i64 d]]] s (.slice (some ⟨g,0,none⟩) (l.length+1) cap) w':=by
     intro w' row k1 k2 k3 k4 k5 k6 k7 k8;have e6:¬ Γ.St g:=(hH.lt 0 g y).2.2;have:=JJ (C:=C) (w':=w') (l':=Me l i d) hI g cap ((p.toList.take l.length).take i++j9 .i64 d::(p.toList.take l.length).drop i) row.toArray b6 hH hi hd (.inl y) (by rw[k3];exact(hH.lt 0 g y).2.1) (λk N e7=>k2 k (λe=>e7 (e▸y))) (by omega) k4 k5 k6 k1
      (hE.mono (λk N=>k2 k (λe=>e6 (e▸N))) (λ_ h=>h)) (UD _ _ _) k8
      (by rw[p5,k7,o8,x9,o6,j5,F];omega) (by rw[r];exact L) hm (by rw[p5,k7])
     rw[r] at this;exact this
    by_cases b0:i=l.length
    ·subst b0;refine(Any2.slices_Insert_int_end_room Tryz.lays2_21 g 0 l.length cap g1 0 1 A [.int .i64 d] w (by omega) L d7 rfl (λj x=>Z _ (by omega)) (λj x=>a7 _) t M).mono ?_;rintro e w' ⟨rfl,rfl⟩;refine⟨_,rfl,?_⟩;obtain⟨c1,c2,c3,c4,c5,c6⟩:=Cj (w:=w) (o:=0+l.length) (vs:=[j9 .i64 d]) hh (by rw[j6];omega) M;refine key _ _ c1 c2 c3 c4 c5 c6 (by rw[D6];simpa using c0) (λq hq=>?_);rw[ad2 (by omega),o7 (by omega)] at hq ⊢;rw[o8,F,j6] at hq;simp only[y8];rw[N1 _ _ _ (by rw[j6,x8 (xs:=p)];omega)];by_cases f0:q<l.length
     ·rw[J4,aa3 (by omega),aa4,if_pos f0]
     ·obtain rfl:q=l.length:=by omega
      rw[if_pos (by rw[j6];omega),w6 (by omega),F];simp
    ·have W:i<l.length:=by omega
     refine(Any2.slices_Insert_int_shift Tryz.lays2_21 g 0 l.length cap i g1 0 1 A (p.toList.take l.length) [.int .i64 d] w W (by omega) L d7 d8 F rfl J (λj x=>Z _ (by omega)) (λj x=>a7 _) t a9 M 3 3 b9.size p.size (by simp[aa8,n2]) (by simp[aa8,hh]) (by omega) (by simp[ab1,n2]) (by simp[ab1,n2])).mono ?_;rintro e w' ⟨rfl,rfl⟩;refine⟨_,rfl,?_⟩;obtain⟨c1,c2,c3,c4,c5,c6⟩:=Cj (w:=w.drew) (o:=0+(i+1)) (vs:=(p.toList.take l.length).drop i) hh (by rw[j5,F];omega) (λv hv=>a9 v (ab2 hv));generalize f2:w.drew.setCells g (0+(i+1)) ((p.toList.take l.length).drop i)=w1 at *;have Q:(H8 p.toList (0+(i+1)) ((p.toList.take l.length).drop i)).toArray.size=cap:=by rw[p5,D6];simpa using c0
     obtain⟨d1,d2,d3,d4,d5,d6⟩:=Cj (w:=w1) (o:=0+i) (vs:=[j9 .i64 d]) c1 (by rw[Q,j6];omega) M;refine key _ _ d1 (λk N=>(d2 k N).trans (c2 k N)) (d3.trans c3) (d4.trans c4) (d5.trans c5) (d6.trans c6) (by rw[D6];simpa using Q) ?_;rw[aa7,aa7];exact e5 p _ F W (by omega) (λq hq=>by rw[aa4,Aj];simp)
   ·by_cases b0:i=l.length
    ·subst b0;exact B (some ⟨g,0,none⟩) cap (p.toList.take l.length) R (by omega) F (λh=>by cases h) (λa h j v x=>by
      obtain rfl:=ab5 h;rw[L8];exact J j v x) hO
    ·exact P g cap _ (by omega) R (by omega) F J a9 hO
 ·cases G
end
section
open Go Go.Proofs
set_option maxRecDepth 100000
section
theorem C19:Ud c9 GX 154 CO:=by
 refine Ft (C₀:=RP LF) (Na (lx:=[(157,Ns),(155,Nt)]) (ly:=[(173,OS),(174,QS)]) (ls:=[]) rfl rfl rfl ⟨Ak4,Ak5,trivial⟩ ⟨Dc7,Dc9,trivial⟩ trivial) (G5 rfl (by kernel_rfl)) follows ?_;intro args H ret o h;unfold CO at h;split at h
 ·rename_i a n i b c z l;obtain⟨d,h⟩:=C9 h;obtain⟨f,h⟩:=C9 h;obtain⟨g,h⟩:=C9 h;obtain⟨j,h⟩:=C9 h;obtain⟨k,h⟩:=C9 h;obtain⟨rfl,rfl⟩:=I9 h;refine⟨rfl,rfl,λp m s=>?_⟩;have e:=(B45 LF m s 0 a n i b c z l).trans (Ar6 a n i b c z l d f g j k);exact⟨1,_,e,rfl⟩
 ·cases h
theorem Db3:C0 c9 GX 129 Bz8:=by
 refine C0.fix (pf:=PX) _ (I4 [1,0] (C₀:=Aa LF) (Na (lx:=[(111,CP)]) (ly:=[(154,CO)]) (ls:=[]) rfl rfl rfl ⟨Bi0,trivial⟩ ⟨C19,trivial⟩ trivial) (G5 rfl (by kernel_rfl)) follows ?_);intro args ret f h;unfold PX at h;split at h
 ·rename_i s;obtain⟨b,h⟩:=C9 h;obtain⟨rfl,rfl⟩:=I9 h;obtain⟨e,c,a,d⟩:=Ct7 s b;exact⟨rfl,rfl,rfl,1,e,c,(Ct6 LF noY () 0 s).trans a,d⟩
 ·cases h
end
end
section
open Go Go.Proofs Go.Sort
set_option maxRecDepth 100000
theorem Ck4:C0 c9 GX 169 YE:=by
 refine C0.fix (pf:=Yi) _ (K2 (fn:=Tryz.f169) (by kernel_rfl) (by kernel_rfl) (by kernel_rfl) ?_);intro args ret l h;unfold Yi at h;split at h
 ·rename_i s;obtain⟨b,h⟩:=C9 h;obtain⟨rfl,rfl⟩:=I9 h;refine⟨rfl,rfl,λC n a o w m c g f=>?_⟩;obtain⟨U,rfl,j⟩:=f.arr1;obtain⟨k,rfl,rfl⟩:=j.inv_str;have i:=N5 b;refine(Any.utf8_ValidString Tryz.lays196 k w (by simp at i;omega) (Co9 c a)).mono ?_;rintro e w' ⟨rfl,d⟩;rw[<-A77];exact⟨_,rfl,d,VP.mk_bool _⟩
 ·cases h
theorem Ck0:C0 c9 GX 170 YC:=by
 refine C0.fix (pf:=Ye) _ (K2 (fn:=Tryz.f170) (by kernel_rfl) (by kernel_rfl) (by kernel_rfl) ?_);intro args ret j h;unfold Ye at h;split at h
 ·rename_i s;obtain⟨a,h⟩:=C9 h;obtain⟨rfl,rfl⟩:=I9 h;refine⟨rfl,rfl,λC m b n w k l d c=>?_⟩;obtain⟨U,rfl,g⟩:=c.arr1;obtain⟨i,rfl,rfl⟩:=g.inv_str;have f:=N5 a;refine(Any.utf8_RuneCountInString Tryz.lays195 i w (by simp at f;omega)).mono ?_;rintro e w' ⟨rfl,pos,rfl⟩;rw[Lib.runeCountL_eq];exact⟨_,rfl,An9 _ _ _,VP.mk_int _ _⟩
 ·cases h
theorem Cz2:C0 c9 GX 127 Tz:=λargs ret a h=>by
 have:K7 (Tz args)=none:=by unfold Tz XU;split<;>rfl
 rw[this] at h;cases h
theorem Bi8:XS c9 GX 126 Py:=by
 refine BT (C₀:=Ao LF) ((K8.ok (l:=[(127,Tz),(128,FD)]) rfl ⟨Cz2,A88,trivial⟩)) (G5 rfl (by kernel_rfl)) follows ?_;intro args H L h e a s d c;unfold Py at h;split at h
 ·rename_i p t n;simp only[j4,ac6] at h;obtain⟨b,rfl⟩:=h;obtain⟨g,f⟩:=A54 (R:=PV × List Blk × e) a p t n s d b c;exact⟨1,_,(Cd6 LF a 0 p t n s).trans (f _)⟩
 ·cases h
end
section
open Go Go.Proofs
set_option maxRecDepth 100000
section
theorem C01:C0 c9 GX 99 Ba0:=xf [] (Ls LF) EH rfl ⟨Db3,Ci9,trivial⟩ rfl (by kernel_rfl) follows λargs=>by
 unfold EH;split
 ·rename_i s;exact λa=>⟨rfl,rfl,rfl,_,_,(B78 LF noY () 0 s).trans (Av9 s a),rfl⟩
 ·trivial
theorem Ci7:C0 c9 GX 60 PS:=xf [] (Sp LF) PT rfl ⟨Ch9,C01,trivial⟩ rfl (by kernel_rfl) follows λargs=>by
 unfold PT;split
 ·rename_i s;exact λa=>⟨rfl,rfl,rfl,_,_,(Cs5 LF noY () 0 s).trans (Bp2 s a),rfl⟩
 ·trivial
theorem Db2:C0 c9 GX 146 Bz6:=xf [0,0] (Of LF) PL rfl ⟨Ck4,Ck0,A85,Ci9,Ci7,trivial⟩ rfl (by kernel_rfl) follows λargs=>by
 unfold PL;split
 ·rename_i s;exact λb=>(let⟨e,c,a,d⟩:=Cr4 s b;⟨rfl,rfl,rfl,e,c,(Cr3 LF noY () 0 s).trans a,d⟩)
 ·trivial
theorem Da9:C0 c9 GX 167 Bz2:=xf [] (Jl LF) OZ rfl trivial rfl (by kernel_rfl) follows λargs=>by
 unfold OZ;split
 ·rename_i b;exact λa=>⟨rfl,rfl,rfl,_,_,(Cp7 LF noY () 0 b).trans (Bm2 b a),rfl⟩
 ·trivial
theorem Da8:C0 c9 GX 143 Bz1:=xf [0,0] (Sn LF) OY rfl ⟨Da9,trivial⟩ rfl (by kernel_rfl) follows λargs=>by
 unfold OY;split
 ·rename_i s;exact λb=>(let⟨e,c,a,d⟩:=Cp5 s b;⟨rfl,rfl,rfl,e,c,(Cp4 LF noY () 0 s).trans a,d⟩)
 ·trivial
theorem Cz5:C0 c9 GX 142 A96:=xf [0,0] (RS LF) DV rfl ⟨Dg7,trivial⟩ rfl (by kernel_rfl) follows λargs=>by
 unfold DV;split
 ·rename_i s;exact λb=>λc=>(let⟨f,d,a,e⟩:=B61 s b c;⟨rfl,rfl,rfl,f,d,(B60 LF noY () 0 s).trans a,e⟩)
 ·trivial
theorem Ci2:C0 c9 GX 112 XW:=xf [0,0] (Gt LF) Xr rfl ⟨XJ,Cz5,Da8,C15,OK,Db5,By2,Db2,Bi3,trivial⟩ rfl (by kernel_rfl) follows λargs=>by
 unfold Xr;split
 ·rename_i s;exact λb=>(let⟨e,c,a,d⟩:=Bm6 s b;⟨rfl,rfl,rfl,e,c,(Bm5 LF noY () 0 s).trans a,d⟩)
 ·trivial
theorem C02:C0 c9 GX 98 PP:=by
 refine C0.fix (pf:=EI) _ (Z6 (C₀:=RY LF) (K8.ok (l:=[]) rfl trivial) (G5 rfl (by kernel_rfl)) follows ?_);intro args ret a h;unfold EI at h;split at h
 ·rename_i t p n;obtain⟨rfl,rfl⟩:=I9 h;have e:=(B80 LF noY () 0 t p n).trans (Aw0 t p n );exact⟨rfl,1,_,[],e,rfl,rfl⟩
 ·cases h
theorem Cj9:C0 c9 GX 59 FI:=by
 refine C0.fix (pf:=QU) _ (Z6 (C₀:=Ap9 LF) (K8.ok (l:=[(98,PP)]) rfl ⟨C02,trivial⟩) (G5 rfl (by kernel_rfl)) follows ?_);intro args ret a h;unfold QU at h;split at h
 ·rename_i t p;obtain⟨rfl,rfl⟩:=I9 h;have e:=(Cx4 LF noY () 0 t p).trans (Bv0 t p );exact⟨rfl,1,_,[],e,rfl,rfl⟩
 ·cases h
theorem C41:C0 c9 GX 34 Bz4:=by
 refine C0.fix (pf:=Al5) _ (I4 [] (C₀:=Oe LF) (Na (lx:=[(58,Pu),(59,FI),(60,PS)]) (ly:=[]) (ls:=[(126,Py)]) rfl rfl rfl ⟨OK,Cj9,Ci7,trivial⟩ trivial ⟨Bi8,trivial⟩) (G5 rfl (by kernel_rfl)) follows ?_);intro args ret f h;unfold Al5 at h;split at h
 ·rename_i s;obtain⟨b,h⟩:=C9 h;obtain⟨rfl,rfl⟩:=I9 h;obtain⟨e,c,a,d⟩:=C70 s b;exact⟨rfl,rfl,rfl,1,e,c,(C69 LF noY () 0 s).trans a,d⟩
 ·cases h
theorem A84:C0 c9 GX 15 PE:=xf [] (Ap1 LF) PG rfl ⟨C41,trivial⟩ rfl (by kernel_rfl) follows λargs=>by
 unfold PG;split
 ·rename_i i j v4 a b c d e f g h;exact λl=>λm=>λn=>(let⟨q,o,k,p⟩:=Bd5 i j v4 a b c d e f g h l m n;⟨rfl,rfl,rfl,q,o,(Cq5 LF noY () 0 i j v4 a b c d e f g h).trans k,p⟩)
 ·trivial
theorem A83:C0 c9 GX 17 DW:=xf [] (Ao8 LF) PB rfl ⟨A84,Dg3,Dg5,trivial⟩ rfl (by kernel_rfl) follows λargs=>by
 unfold PB;split
 ·rename_i i j v4 a b c d e f g h;exact λl=>λm=>λn=>(let⟨q,o,k,p⟩:=Bd3 i j v4 a b c d e f g h l m n;⟨rfl,rfl,rfl,q,o,(Cq1 LF noY () 0 i j v4 a b c d e f g h).trans k,p⟩)
 ·trivial
theorem Da7:C0 c9 GX 74 Bz0:=xf [] (Ao6 LF) OX rfl ⟨C41,Db0,trivial⟩ rfl (by kernel_rfl) follows λargs=>by
 unfold OX;split
 ·rename_i p s;exact λa=>λb=>⟨rfl,rfl,rfl,_,_,(Cp3 LF noY () 0 p s).trans (Bm0 p s a b),rfl⟩
 ·trivial
end
end
section
open Go Go.Proofs Go.Sort
set_option maxRecDepth 100000
theorem XK:C0 c9 GX 104 Ua:=by
 refine C0.fix (pf:=FE) _ (K2 (fn:=Tryz.f104) (by kernel_rfl) (by kernel_rfl) (by kernel_rfl) ?_);intro args ret j h;unfold FE at h;split at h
 ·rename_i s c;obtain⟨l,h⟩:=C9 h;obtain⟨m,h⟩:=C9 h;obtain⟨rfl,rfl⟩:=I9 h;refine⟨rfl,rfl,λC o a p w k n d b=>?_⟩;obtain⟨U,V,rfl,f,g⟩:=b.arr2;obtain⟨i,rfl,rfl⟩:=f.inv_str;obtain rfl:=g.inv_int;refine(Any.strings_IndexByte Tryz.lays137 i c w).mono ?_;rintro e w' ⟨rfl,rfl⟩;exact⟨_,rfl,af7 _ _,VP.mk_int _ _⟩
 ·cases h
theorem Cz9:C0 c9 GX 61 A98:=by
 refine C0.fix (pf:=EC) _ (K2 (fn:=Tryz.f61) (by kernel_rfl) (by kernel_rfl) (by kernel_rfl) ?_);intro args ret l h;unfold EC at h;split at h
 ·rename_i n;obtain⟨b,h⟩:=C9 h;obtain⟨rfl,rfl⟩:=I9 h;refine⟨rfl,rfl,λC o a p w m c i g=>?_⟩;obtain⟨U,rfl,j⟩:=g.arr1;obtain rfl:=j.inv_int;obtain⟨d,f⟩:=HQ.1 b;refine(Any.strconv_Itoa Tryz.laysM171 n (by omega) (by omega) w (B55 c a)).mono ?_;rintro e w' ⟨rfl,k,os,rfl⟩;refine⟨_,rfl,(Od w k).trans (show RowKit.Below w.heap.size _ _ from GB (w.drewN k) os),?_⟩;have:Lib.itoa n=Ng n:=by
   unfold Lib.itoa Ng;split
   ·rw[show n.natAbs=(-n).toNat by omega]
   ·rfl
  rw[this];exact VP.mk_str _
 ·cases h
theorem Cj5:C0 c9 GX 68 YA:=by
 refine C0.fix (pf:=Pw) _ (K2 (fn:=Tryz.f68) (by kernel_rfl) (by kernel_rfl) (by kernel_rfl) ?_);intro args ret A h;unfold Pw at h;split at h
 ·rename_i s p;obtain⟨i,h⟩:=C9 h;obtain⟨k,h⟩:=C9 h;obtain⟨l,h⟩:=C9 h;obtain⟨rfl,rfl⟩:=I9 h;refine⟨rfl,rfl,λC G m I w B F r q=>?_⟩;obtain⟨U,V,rfl,y,z⟩:=q.arr2;obtain⟨g,rfl,rfl⟩:=y.inv_str;obtain⟨d,rfl,a⟩:=z.inv_str;have H:=N5 i;have c:p=isl:=by simpa[Zn] using k
  have D:=y9 l;have f:=zero_of_info (P:=c9) (t:=Tryz.lays153_ren.t 116) (v:=.agg (Array.replicate 256 (.bool false))) (n:=256) (by kernel_rfl);subst c;have u:d.size=3:=by have:=ag1 d;rw[a] at this;exact this
  have x:=ag1 g;refine(Any.strings_IndexAny_long Tryz.lays153 f.1 f.2 g d w (by omega) (by omega) (by omega) (by omega) ?_).mono ?_
  ·rw[a];intro j b o;have:b∈isl:=List.mem_of_getElem? o
   revert b
   simp only[isl,ah3,af8,or_false];rintro b _ (rfl|rfl|rfl)<;>decide
  ·rintro e w' ⟨rfl,rfl⟩;rw[a];exact⟨_,rfl,((af7 _ _).alloc (ag2 _) _).alloc (by simp) _,VP.mk_int _ _⟩
 ·cases h
end
section
open Go Go.Proofs
set_option maxRecDepth 100000
theorem WN{R:Type}{a:Bool->Option R}(n:Int):WM LF n a=a (ltI 8 n):=rfl
theorem Aj4{R:Type}{a:Bool->Option R}(r:Int):JS LF r a=a (JU r):=by
 have b:ltN r 55296=(!ltI r 0&&ltI r 55296):=by
  rw[y7,D9,p7,af3,Vr,Qm];omega
 have c:(ltI 57343 r&&ltN r 1114112)=(ltI 57343 r&&!ltI 1114111 r):=by
  rw[y7,p7,p7,D9,af3,Vr,Qm];omega
 unfold JS Lg JU;rw[b,c];cases ltI r 0<;>cases ltI r 55296<;>cases ltI 57343 r<;>cases ltI 1114111 r<;>rfl
theorem C71(b:UInt8):ae8 isl b=irn (b.toNat:Int):=by
 by_cases a:b=47
 ·subst a;rfl
 ·by_cases d:b=63
  ·subst d;rfl
  ·by_cases f:b=35
   ·subst f;rfl
   ·have n:∀c:UInt8,b≠c->(c==b)=false:=λc h=>by rw[beq_eq_false_iff_ne];exact Ne.symm h
    have e:∀c:UInt8,b≠c->¬(b.toNat:Int)=(c.toNat:Int):=λc h q=>h (UInt8.toNat_inj.1 (by omega))
    have g:¬(b.toNat:Int)=47:=e 47 a;have i:¬(b.toNat:Int)=63:=e 63 d;have j:¬(b.toNat:Int)=35:=e 35 f;unfold irn;rw[if_neg g,if_neg i,if_neg j];simp[isl,ae8,n _ a,n _ d,n _ f]
theorem De9{l:By}{x:UInt8}(h:∀b∈l,b.toNat<128)(d:128<=x.toNat):ae8 l x=-1:=by
 have e:=Md x l;have c:l.contains x=false:=by
  rw[ac3];intro a;have:=h x (by simpa using a);omega
 rw[c,j8,Qm] at e;have:=Lib.indexByte_ge l x;omega
theorem B48{r:Int}(g:JU r=true)(h:128<=r):2<=(ab3 r).data.toList.length/\(ab3 r).data.toList.length<=4/\128<=((ab3 r).data.toList.getD ((ab3 r).data.toList.length-1) 0).toNat:=by
 have a:Utf8.valid r=true:=by
  rw[validRune_eq];unfold validRune;simp only[JU,ag4,p7,D9,Qm] at g;exact decide_eq_true (by omega)
 obtain⟨b,c,d⟩:=encode_facts r a h;have f:=ag1 (ab3 r);rw[<-f];refine⟨b,c,?_⟩;have e:=d (by omega);rw[o9,j7 (by omega),ac9];exact e
theorem Bu5(r:Int)(h:ltN r 1114112=true):∃v H,JK LF r (λk=>rv (.s (.int .i64 k)) []) (λk I=>rv (.s (.int .i64 k)) [.iter [47,63,35] I])=rv v H/\v.stab [] H = .s (.int .i64 (irn r)):=by
 obtain⟨A,M⟩:=D9.1 h;have B:=E2;unfold JK;rw[A6,j8,cond_true];unfold Kz;by_cases p:r<128
 ·obtain⟨n,rfl⟩:=p9 A;have e:wu8 (n:Int)=(n:Int):=R2;have f:u8n (n:Int)=aa6 n:=by unfold u8n;simp
  have g:(((aa6 n).toNat:Nat):Int)=(n:Int):=by simp;omega
  rw[A8,cond_true,e,J1,f];have o:=C71 (aa6 n);rw[g] at o;rw[<-o];exact⟨_,_,rfl,rfl⟩
 ·rw[A6,cond_false,B68 (by omega)];by_cases t:r=65533
  ·subst t;obtain⟨m,i⟩:∃m,LF=m+1+1+1+1:=⟨LF-4,by omega⟩
   have w:ae1 ⟨ad3 ([47,63,35]:List UInt8)⟩ 0=(47,1):=rfl;have x:ae1 ⟨ad3 ([47,63,35]:List UInt8)⟩ 1=(63,1):=rfl;have y:ae1 ⟨ad3 ([47,63,35]:List UInt8)⟩ 2=(35,1):=rfl;have go:∀(R:Type) (c:Int->Nat->Option R) (a:Nat->Option R),Z5 LF LF 0 c a=a 3:=λR c a=>by
    have L:Z5 LF (m+1) 3 c a=a 3:=by rw[Eg];rfl
    have K:Z5 LF (m+1+1) 2 c a=a 3:=by rw[Eg];unfold Dj;rw[y];exact L
    have J:Z5 LF (m+1+1+1) 1 c a=a 3:=by rw[Eg];unfold Dj;rw[x];exact K
    have d:Z5 LF (m+1+1+1+1) 0 c a=a 3:=by rw[Eg];unfold Dj;rw[w];exact J
    rw[<-i] at d;exact d
   rw[go];exact⟨_,_,rfl,rfl⟩
  ·rw[show(r==(65533:Int))=false by simpa using t,cond_false];cases F:JU r with
   | false=>exact⟨_,_,rfl,rfl⟩
   | true=>
    obtain⟨O,P,G⟩:=B48 F (by omega);simp only[vl,k9,cond_false];generalize (ab3 r).data.toList=l at *;obtain⟨m,i⟩:∃m,LF=m+1:=⟨LF-1,by omega⟩
    have z:A1 ((l.length:Int)-1)=((l.length-1:Nat):Int):=by rw[A5];omega
    have go:∀(R:Type) (c:Int->Option R) (a:Unit->Option R),a ()=c (-1)->Gq LF LF l ((l.length-1:Nat):Int) c a=c (-1):=λR c a C=>by
     have d:Gq LF (m+1) l ((l.length-1:Nat):Int) c a=c (-1):=by
      rw[BW];unfold Mt;by_cases N:l.length=4
      ·rw[A6];exact C
      ·rw[A8,J1,J1,G8,G8];simp only[vl,cond_true];have D:(([47,63,35]:List UInt8).getD (l.length-1) 0).toNat<128:=by
        have:l.length=2\/l.length=3:=by omega
        rcases this with q|q<;>rw[q]<;>decide
       have j:((((([47,63,35]:List UInt8).getD (l.length-1) 0).toNat:Nat):Int)!=(((l.getD (l.length-1) 0).toNat:Nat):Int))=true:=by
        rw[bne_iff_ne];omega
       have f:A1 (((l.length-1:Nat):Int)+1)=((l.length:Nat):Int):=by rw[A5];omega
       have g:cut ([47,63,35]:List UInt8) ((l.length:Nat):Int) 3=([47,63,35]:List UInt8).drop l.length:=by
        rw[show(3:Int)=((3:Nat):Int) from rfl,Fa];rfl
       have u:=(l.getD (l.length-1) 0).toNat_lt;rw[j,cond_true,f,Q3,cond_true,g,E5 (by simp;omega),cond_true,J1,cond_true,Mw,De9 (λb u=>?_) G]
       ·rfl
       ·have:=ab2 u;simp only[ah3,af8,or_false] at this;rcases this with rfl|rfl|rfl<;>decide
     rw[<-i] at d;exact d
    rw[z,go _ _ _ rfl];exact⟨_,_,rfl,rfl⟩
theorem By1:C0 c9 GX 107 Yc:=by
 refine C0.fix (pf:=Sb) _ (I4 [] (C₀:=Yw LF) (K8.ok (l:=[]) rfl trivial) (G5 rfl (by kernel_rfl)) follows ?_);intro args ret a h;unfold Sb at h;split at h
 ·rename_i n;obtain⟨rfl,rfl⟩:=I9 h;have e:=(A55 LF noY () 0 n).trans (WN n);exact⟨rfl,rfl,rfl,1,_,_,e,rfl⟩
 ·cases h
theorem Ck5:C0 c9 GX 138 FP:=by
 refine C0.fix (pf:=Yj) _ (I4 [] (C₀:=Bw LF) (K8.ok (l:=[]) rfl trivial) (G5 rfl (by kernel_rfl)) follows ?_);intro args ret a h;unfold Yj at h;split at h
 ·rename_i n;obtain⟨rfl,rfl⟩:=I9 h;have e:=(Bx0 LF noY () 0 n).trans (Aj4 n);exact⟨rfl,rfl,rfl,1,_,_,e,rfl⟩
 ·cases h
theorem Cj8:C0 c9 GX 108 Nv:=λargs ret a h=>by
 have:K7 (Nv args)=none:=by unfold Nv LA;split<;>rfl
 rw[this] at h;cases h
theorem Cj7:C0 c9 GX 106 FF:=by
 refine C0.fix (pf:=Yb) _ (I4 [] (C₀:=L9 LF) (K8.ok (l:=[(104,Ua),(138,FP)]) rfl ⟨XK,Ck5,trivial⟩) (G5 rfl (by kernel_rfl)) follows ?_);intro args ret f h;unfold Yb at h;split at h
 ·rename_i p r;obtain⟨a,h⟩:=C9 h;obtain⟨b,h⟩:=C9 h;obtain⟨rfl,rfl⟩:=I9 h;obtain rfl:p=isl:=by simpa[Zn] using a
  obtain⟨d,H,e,c⟩:=Bu5 r b;exact⟨rfl,rfl,rfl,1,d,H,(Bu4 LF noY () 0 r).trans e,c⟩
 ·cases h
theorem JN:∀(w:Nat) (l:By),w<=l.length->(∀i,i<w->Y5 (l.getD i 0)=false)->M4 l=w+M4 (l.drop w)
 | 0,l,_,_=>by simp
 | w+1,[],h,_=>by simp at h
 | w+1,b::l,h,hb=>by
  have a:=hb 0 (by omega);rw[List.getD_cons_zero] at a;have d:=JN w l (by simpa using h) (λi c=>by have:=hb (i+1) (by omega);rwa [List.getD_cons_succ] at this);rw[Hu,a,List.drop_succ_cons];simp only[ac0,if_false];omega
theorem Ah2(s:By)(O:s.length<=8):∀(f m n:Nat),s.length-m<=f->m<=s.length->f<n->∃H t,∀(R:Type) (j:Int->List Blk->Option R) (k:By->Nat->Option R),
  Ky LF n s m j k=if M4 (s.drop m)<(s.drop m).length then j ((m+M4 (s.drop m):Nat):Int) H else k s t:=by
 intro f
 induction f with
 | zero=>
  intro m n G K L;obtain⟨n,rfl⟩:∃q,n=q+1:=⟨n-1,by omega⟩
  refine⟨[],m,λR j k=>?_⟩;rw[Bn];unfold Y4;rw[decide_eq_false (by omega),cond_false,o7 (by omega),if_neg (by simp)]
 | succ f z=>
  intro m n G K L;obtain⟨n,rfl⟩:∃q,n=q+1:=⟨n-1,by omega⟩
  by_cases a:m<s.length
  ·have F:=Lib.decodeL_drop ⟨s.toArray⟩ m;have h:ae1 ⟨ad3 s⟩ m=ag0 (s.drop m):=by rw[<-F]
   have p:=I8 s m a;have N:(s.drop m).length=s.length-m:=j5;generalize M:s.getD m 0=b at p;by_cases o:b.toNat<128
   ·have y:ag0 (s.drop m)=(b.toNat,1):=by rw[p];exact Lib.decodeL_ascii b _ o
    have l:=C72 b;cases g:Y5 b with
    | true=>
     rw[g,k9] at l;have u:M4 (s.drop m)=0:=by rw[p,Hu,g];rfl
     refine⟨[Blk.iter s (m+1)],m,λR j k=>?_⟩;rw[Bn];unfold Y4;rw[decide_eq_true a,h,y,u,Aj];simp only[vl,cond_true];rw[show Zn ([47,63,35]:List UInt8)=true from rfl,cond_true,D9.2 ⟨by omega,by omega⟩,cond_true,l];rfl
    | false=>
     rw[g,j8] at l;have u:M4 (s.drop m)=M4 (s.drop (m+1))+1:=by rw[p,Hu,g];rfl
     have v:(s.drop (m+1)).length=s.length-(m+1):=j5;obtain⟨H,t,e⟩:=z (m+1) n (by omega) (by omega) (by omega);refine⟨H,t,λR j k=>?_⟩;rw[Bn];unfold Y4;rw[decide_eq_true a,h,y];simp only[vl,cond_true];rw[show Zn ([47,63,35]:List UInt8)=true from rfl,cond_true,D9.2 ⟨by omega,by omega⟩,cond_true,l,k9,cond_false,e,u];by_cases q:M4 (s.drop (m+1))<(s.drop (m+1)).length
     ·rw[if_pos q,Aj,show m+1+M4 (s.drop (m+1))=m+(M4 (s.drop (m+1))+1) by omega]
     ·rw[if_neg q,J4]
   ·obtain⟨A,B,C,D,x⟩:=C60 b (s.drop (m+1)) (by omega);rw[<-p] at A B C D x;have v:(s.drop (m+1)).length=s.length-(m+1):=j5;generalize ag0 (s.drop m)=d at *;obtain⟨c,w⟩:=d;simp only at A B C D x;have r:=JN w (s.drop m) (by omega) (λi I=>Cd3 (x i I));rw[List.drop_drop] at r;have J:(s.drop (m+w)).length=s.length-(m+w):=j5;have l:ltI (irn (c:Int)) 0=true:=by rw[B68 (by omega)];rfl
    obtain⟨H,t,e⟩:=z (m+w) n (by omega) (by omega) (by omega);refine⟨H,t,λR j k=>?_⟩;rw[Bn];unfold Y4;rw[decide_eq_true a,h];simp only[vl,cond_true];rw[show Zn ([47,63,35]:List UInt8)=true from rfl,cond_true,D9.2 ⟨by omega,by omega⟩,cond_true,l,k9,cond_false,e,r];by_cases q:M4 (s.drop (m+w))<(s.drop (m+w)).length
    ·rw[if_pos q,Aj,show m+w+M4 (s.drop (m+w))=m+(w+M4 (s.drop (m+w))) by omega]
    ·rw[if_neg q,J4]
  ·refine⟨[],m,λR j k=>?_⟩;rw[Bn];unfold Y4;rw[decide_eq_false a,cond_false,o7 (by omega),if_neg (by simp)]
theorem Bu2(s:By)(h:s.length<=8):∃r H,WG LF s (λc a=>rv (.s (.int .i64 c)) a)=rv r H/\r.stab [] H = .s (.int .i64 (Lib.indexAny s isl)):=by
 have b:=E2;obtain⟨H,d,e⟩:=Ah2 s h s.length 0 LF (by omega) (by omega) (by omega);unfold WG;rw[A6,cond_false,e,Jt,v8,aa7];by_cases q:M4 s<s.length
 ·rw[if_pos q,if_pos q];exact⟨_,_,rfl,rfl⟩
 ·rw[if_neg q,if_neg q];exact⟨_,_,rfl,rfl⟩
theorem Cj6:C0 c9 GX 68 YB:=by
 refine C0.fix (pf:=Px) _ (I4 [] (C₀:=Gx LF) (K8.ok (l:=[(106,FF),(107,Yc),(108,Nv)]) rfl ⟨Cj7,By1,Cj8,trivial⟩) (G5 rfl (by kernel_rfl)) follows ?_);intro args ret f h;unfold Px at h;split at h
 ·rename_i s p;obtain⟨a,h⟩:=C9 h;obtain⟨b,h⟩:=C9 h;obtain⟨rfl,rfl⟩:=I9 h;obtain rfl:p=isl:=by simpa[Zn] using a
  obtain⟨d,H,e,c⟩:=Bu2 s (y9 b);exact⟨rfl,rfl,rfl,1,d,H,(Bu1 LF noY () 0 s).trans e,c⟩
 ·cases h
theorem Le{c:Bool}{t:Tr}(h:c=true):K7 (.need c t)=K7 t:=by subst h;rfl
theorem C13:C0 c9 GX 68 QR:=λargs ret c h=>by
 have a:=Cj5 args ret c;have b:=Cj6 args ret c;unfold QR at h;unfold YA at a;unfold YB at b;generalize D4 [[0],[0]] args=l at h a b;unfold XZ at h;split at h
 ·rename_i s p;obtain⟨e,h⟩:=C9 h;obtain⟨d,h⟩:=C9 h;by_cases f:s.length<=8
  ·refine b ?_;unfold Px;rw[Le d,Le (ad8 f)];exact h
  ·refine a ?_;unfold Pw;rw[Le e,Le d,Le (ad8 (by omega))];exact h
 ·cases h
section
theorem C03:C0 c9 GX 147 Ba1:=xf [] (RZ LF) EJ rfl ⟨A86,trivial⟩ rfl (by kernel_rfl) follows λargs=>by
 unfold EJ;split
 ·rename_i s p;exact λa=>⟨rfl,rfl,rfl,_,_,(B81 LF noY () 0 s p).trans (Aw1 s p a),rfl⟩
 ·trivial
theorem Dc4:C0 c9 GX 114 B07:=xf [] (Aq0 LF) QW rfl ⟨C03,trivial⟩ rfl (by kernel_rfl) follows λargs=>by
 unfold QW;split
 ·rename_i s p;exact λa=>⟨rfl,rfl,rfl,_,_,(Cx9 LF noY () 0 s p).trans (Bv7 s p a),rfl⟩
 ·trivial
theorem Bi5:C0 c9 GX 41 QY:=xf [] (SN LF) FM rfl trivial rfl (by kernel_rfl) follows λargs=>by
 unfold FM;split
 ·rename_i s;exact⟨rfl,rfl,rfl,_,_,(Cf4 LF noY () 0 s).trans (A69 s ),rfl⟩
 ·trivial
theorem DN:C0 c9 GX 21 Pz:=xf [] (SO LF) FN rfl ⟨Bi5,trivial⟩ rfl (by kernel_rfl) follows λargs=>by
 unfold FN;split
 ·rename_i s;exact⟨rfl,rfl,rfl,_,_,(Cf7 LF noY () 0 s).trans (A74 s ),rfl⟩
 ·trivial
theorem Dc6:C0 c9 GX 65 B15:=xf [] (Ab LF) RA rfl ⟨XK,trivial⟩ rfl (by kernel_rfl) follows λargs=>by
 unfold RA;split
 ·rename_i s;exact λa=>⟨rfl,rfl,rfl,_,_,(Cy6 LF noY () 0 s).trans (Bw8 s a),rfl⟩
 ·trivial
theorem Dc5:C0 c9 GX 113 B09:=xf [0,0] (Su LF) QX rfl trivial rfl (by kernel_rfl) follows λargs=>by
 unfold QX;split
 ·rename_i s;exact λa=>⟨rfl,rfl,rfl,_,_,(Cy2 LF noY () 0 s).trans (Bw0 s a),rfl⟩
 ·trivial
theorem Ck2:C0 c9 GX 70 YD:=xf [0,0] (X4 LF) Yg rfl ⟨Bi0,XJ,XK,Ci2,Dc4,Dc5,Bi5,trivial⟩ rfl (by kernel_rfl) follows λargs=>by
 unfold Yg;split
 ·rename_i n o j k v4 b c d e f g h i l m a;exact λq=>λr=>λt=>λu=>λv=>(let⟨y,w,p,x⟩:=Bw5 n o j k v4 b c d e f g h i l m a q r t u v;⟨rfl,rfl,rfl,y,w,(Bw4 LF noY () 0 n o j k v4 b c d e f g h i l m a).trans p,x⟩)
 ·trivial
theorem Ck3:C0 c9 GX 39 Am5:=xf [0,0] (Sv LF) QZ rfl ⟨Cj4,Dc6,A85,DN,Ch9,C13,XJ,Ck2,trivial⟩ rfl (by kernel_rfl) follows λargs=>by
 unfold QZ;split
 ·rename_i s;exact λb=>(let⟨e,c,a,d⟩:=Cy4 s b;⟨rfl,rfl,rfl,e,c,(Cy3 LF noY () 0 s).trans a,d⟩)
 ·trivial
theorem Ck1:C0 c9 GX 19 FL:=xf [0,0] (GJ LF) Yf rfl ⟨Ck3,trivial⟩ rfl (by kernel_rfl) follows λargs=>by
 unfold Yf;split
 ·rename_i s;exact λb=>(let⟨e,c,a,d⟩:=Bw2 s b;⟨rfl,rfl,rfl,e,c,(Bw1 LF noY () 0 s).trans a,d⟩)
 ·trivial
theorem C16:C0 c9 GX 73 Bb2:=xf [] (SP LF) FO rfl ⟨DN,A83,Cz9,trivial⟩ rfl (by kernel_rfl) follows λargs=>by
 unfold FO;split
 ·rename_i m n i j v4 a b c d e f g h k l;exact λp=>λq=>λr=>λt=>(let⟨w,u,o,v⟩:=Cf9 m n i j v4 a b c d e f g h k l p q r t;⟨rfl,rfl,rfl,w,u,(Cf8 LF noY () 0 m n i j v4 a b c d e f g h k l).trans o,v⟩)
 ·trivial
theorem By3:C0 c9 GX 42 LC:=xf [] (Yy LF) Sd rfl ⟨C16,Ck3,trivial⟩ rfl (by kernel_rfl) follows λargs=>by
 unfold Sd;split
 ·rename_i m n i j v4 a b c d e f g h k l;exact λp=>λq=>λr=>λt=>(let⟨w,u,o,v⟩:=A76 m n i j v4 a b c d e f g h k l p q r t;⟨rfl,rfl,rfl,w,u,(A75 LF noY () 0 m n i j v4 a b c d e f g h k l).trans o,v⟩)
 ·trivial
end
section
variable {Q R : Type} (L : Nat) (W : F4) (Y : Yh Q) (s : Q) (k : Out -> St Q -> Option R)
noncomputable abbrev YP:Code:=E0 ai4
noncomputable def Gv(L:Nat):Cfg:=C8 L [6] (A4 [(2,[0,0,2,0])]) [] (A4 [(6,[4]),(3,[0,0,3]),(5,[4]),(4,[0,0,3,12]),(2,[0,0,3,3]),(1,[0,0,3]),(0,[0,0])]) [] (A4 [(0,[]),(1,[0,0,3])]) (some [4]) [] [] []
noncomputable def Db{R:Type}(L n:Nat)(n0:Int)(d c:Bool)(b:LL)(a:Int)(e:Unit->Option R)(f:Unit->Option R):Option R:=match n with|0=>none|n+1=>cond (ltI a (b.length:Int)) (cond (inR a b.length) (cond (okE Ia b (j0 a) 0) (cond (ltI n0 (↑(y5 (gX b (j0 a) 0)):Int)) (e ()) (Db L n n0 d c b (A1 (a+1)) e f)) none) none) (f ())
theorem UH(n n0 l_z1 l_t2 l3 i4):E7 0 ((Gv L).keep 2) (bd (Gv L) W Y (cd [1,0,1,0,0] YP)) n ⟨gp [(0,pI n0),(0,.s (.sl l_z1 l_t2 1 l3)),(3,pI i4)] 13,[],s⟩ k =
 Db L n n0 l_z1 l_t2 l3 i4 (λ_=>k .ret ⟨gp [(4,pB false)] 14,[],s⟩) (λ_=>k (.exit 0) ⟨gp [] 19,[],s⟩):=by
 induction n generalizing n0 l_z1 l_t2 l3 i4 with
 | zero=>rfl
 | succ n a=>rw[Db];simp only[<-a];kernel_rfl
noncomputable def UG{R:Type}(L:Nat)(n0:Int)(b a:Bool)(d:LL)(c:Bool->Option R):Option R:=Db L L n0 b a d 0 (λ_=>c false) (λ_=>c true)
theorem Bn9(d:Nat)(n0 l_z1 l_t2 l3):evC (Gv L) (d+1) Q Y 6 [pI n0,.s (.sl l_z1 l_t2 1 l3)] [] s=UG L n0 l_z1 l_t2 l3 (λa=>some (pB a,[],s)):=by refine(evE (fn:=ai4) (by kernel_rfl)).trans ?_;generalize evC (Gv L) d=W;unfold UG;exact(j1 (by kernel_rfl) ((UH L W Y s (F9 0 (G6 (Gv L) W Y (cd [1,1] YP) (I1 (Gv L) ai4))) L n0 l_z1 l_t2 l3 0).trans (by kernel_rfl)))
end
end
section
open Go Go.Proofs Go.Sort
set_option maxRecDepth 100000
theorem BC{R:Type}(n:Int)(z t:Bool)(l:List By)(c d:Unit->Option R)(j:l.length<=1000000000):∀(r:List By) (i m:Nat),l.drop i=r->r.length<m->Db LF m n z t (C1 l) (i:Int) c d=if Er n r then d () else c ()
 | [],i,m,h,b=>by
  obtain⟨m,rfl⟩:∃q,m=q+1:=⟨m-1,by simp at b;omega⟩
  rw[Db];have:l.length<=i:=aa0.1 h;rw[F1 (by rw[C4];omega)];rfl
 | x::r,i,m,h,b=>by
  obtain⟨m,rfl⟩:∃q,m=q+1:=⟨m-1,by simp at b;omega⟩
  rw[Db];have a:i<l.length:=Decidable.byContradiction λg=>by
   rw[aa0.2 (by omega)] at h;cases h
  have o:l.getD i []=x:=by
   have:=aa2 a;rw[h] at this;rw[o9,j7 a];exact(ah2 this).1.symm
  have k:l.drop (i+1)=r:=by
   have:=aa2 a;rw[h] at this;exact(ah2 this).2.symm
  rw[D1 (by rw[C4];omega),cond_true,L1 (by omega) (by rw[C4];omega),cond_true,j2,R1 a,cond_true,W4,o];have e:Er n (x::r)=(!(ltI n (x.length:Int))&&Er n r):=rfl;rw[e];by_cases f:n<(x.length:Int)
  ·rw[D1 f];rfl
  ·rw[A6,cond_false,A5,j8,x4];exact BC n z t l c d j r (i+1) m k (by simp at b;omega)
theorem Ab8{R:Type}{b:Bool->Option R}(n:Int)(z t:Bool)(l:LL)(c:l.all isS=true)(d:A3 l.length=true):UG LF n z t l b=b (Er n (l.map elS)):=by
 have e:=E2;have a:=N5 d;rw[Je c] at a ⊢;generalize l.map elS=q at a ⊢;rw[C4] at a;unfold UG;rw[show(0:Int)=((0:Nat):Int) from rfl,BC n z t q _ _ a q 0 LF rfl (by omega)];have:w9 elS (C1 q)=q:=by
  unfold C1;rw[af6];exact af0 (λ_=>rfl) q
 rw[this];cases Er n q<;>rfl
end
section
open Go Go.Proofs
set_option maxRecDepth 100000
section
theorem Ci5:C0 c9 GX 6 ED:=xf [] (Gv LF) Xt rfl trivial rfl (by kernel_rfl) follows λargs=>by
 unfold Xt;split
 ·rename_i n b a l;exact λc=>λd=>⟨rfl,rfl,rfl,_,_,(Bn9 LF noY () 0 n b a l).trans (Ab8 n b a l c d),rfl⟩
 ·trivial
end
theorem Ce0{a:LL}(h:∀b∈a,Ty.ofL [.str] b):a.all isS=true:=by rw[ab0];intro b c;have:=h b c;simp only[Ty.ofL,Ty.of] at this;obtain⟨_,_,rfl,⟨l,rfl,_⟩,rfl⟩:=this;rfl
theorem Cm1{P:Program}{t:Nat}{v:PV}(h:KX P t v)(e:Lf P 20 t=some [.bool,.bool,.bool,.bool,.slice [.str]])(m:AL P t=true) :
  ∃g f up c z l,v = .agg [.s (.bool g),.s (.bool f),.s (.bool up),.s (.bool c),.s (.sl z false 1 l)]/\l.all isS=true:=by
 obtain⟨n,l,i,j,b⟩:=h;rw[e] at i;obtain rfl:=ab5 i;simp only[Ty.ofL] at j;obtain⟨_,_,rfl,⟨g,rfl⟩,_,_,rfl,⟨f,rfl⟩,_,_,rfl,⟨up,rfl⟩,_,_,rfl,⟨c,rfl⟩,x,_,rfl,k,rfl⟩:=j;simp only[Ty.of,x9,ab4] at k;have⟨z,l,ex,hl⟩:∃z l,x = .sl z false 1 l/\l.all isS=true:=by
  rcases k with rfl|⟨d,rfl,_,a⟩
  ·exact⟨true,[],rfl,rfl⟩
  ·exact⟨false,d,rfl,Ce0 a⟩
 subst ex;rcases b with⟨_,rfl⟩|⟨b,_⟩
 ·exact⟨g,f,up,c,z,l,rfl,hl⟩
 ·rw[m] at b;cases b
theorem B76(p q r t v u:Bool)(l:LL)(m:Int)(i:By)(k a b c d e f g h:Int)(y:l.all isS=true)(w:ltN k 4294967296=true)(x:ok8 a b c d e f g h=true) :
  Tru (evC (YW LF) 1 Unit noY 3 [gCx p q r t v u l,gH m i k a b c d e f g h] [] ()):=by
 refine Eq.subst (motive:=Tru) (C75 (σ:=Unit) LF noY () 0 p q r t v u l m i k a b c d e f g h).symm ?_;unfold lcv;cases n:ltI 40 (l.length:Int) with
 | true=>exact⟨_,rfl⟩
 | false=>
  have z:A3 l.length=true:=E5 (by
   rw[Ac,decide_eq_false_iff_not] at n;omega)
  rw[y,z];simp only[cond_true,cond_false];cases Er (400:Int) (l.map elS) with
  | false=>exact⟨_,rfl⟩
  | true=>
   cases j:ltI 400 (i.length:Int) with
   | true=>exact⟨_,rfl⟩
   | false=>
    have o:A3 i.length=true:=E5 (by
     rw[Ac,decide_eq_false_iff_not] at j;omega)
    rw[o,w,x];simp only[k9,cond_true,cond_false];rw[show((II (l.map elS) (mkH m i k (n8 a b c d e f g h)))==(II (l.map elS) (mkH m i k (n8 a b c d e f g h))))=true from beq_self_eq_true _];exact⟨_,rfl⟩
theorem Cr6(args:List PV)(h:Lj c9 [24,29] args):∃d a,evC (YW LF) d Unit noY 3 args [] ()=some (.s (.bool true),a,()):=by obtain⟨v1,A,rfl,o,C,B,rfl,p,rfl⟩:=h;obtain⟨x,w,up,n,z,l,rfl,q⟩:=Cm1 o (by kernel_rfl) (by kernel_rfl);obtain⟨u,v,v4,b,c,f,g,i,j,k,m,rfl,y,r,t,_⟩:=B17 p (by kernel_rfl) (by kernel_rfl);obtain⟨H,e⟩:=B76 x w up n z false l u v v4 b c f g i j k m q r t;exact⟨1,H,e⟩
end
section
open Go Go.Proofs Go.Sort
set_option maxRecDepth 100000
theorem NK{w:World}{a e:Nat}{b:Array Value}{c:Nat × Nat}(h:w.heap[a]? = some (.cells b e c))(d:Array By) :
  (putRow encStr w a 0 d).heap[a]? = some (.cells (putCells encStr 0 d b) e c)/\(∀k,k≠a->(putRow encStr w a 0 d).heap[k]? = w.heap[k]?):=by
 unfold putRow mapBlock;constructor
 ·simp only[ad7,if_true,h,x5,onCells]
 ·intro k f;simp only[ad7];rw[if_neg (λe=>f e.symm)]
theorem Ae3{a:Array Value}{d:Array By}{i:Nat}(c:i<d.size)(e:d.size<=a.size):(putCells encStr 0 d a)[i]? = some (encStr d[i]!):=by
 have b:i<a.size:=by omega
 unfold putCells;rw[Array.getElem?_mapIdx,aa1 b];simp only[x5,Nat.zero_le,true_and,aa7,c,if_true,Nat.sub_zero]
theorem Zx(a:Array Value)(d:Array By):(putCells encStr 0 d a).size=a.size:=by simp[putCells]
theorem ML{St:Nat->Prop}{w:World}{g e:Nat}{b:Array Value}{E:List By}{f:Nat}(l:w.heap[g]? = some (.cells b e (0,0)))(d:∀i (h:i<(C1 E).length),((C1 E)[i]).length=f)
  (q:∀i (h:i<(C1 E).length) j (t:j<((C1 E)[i]).length),∃V,b[i*f+j]? = some V/\VS St w ((C1 E)[i][j]) V):Holds encStr w g 0 E.toArray:=by
 intro i m;have c:i<E.length:=by simpa using m
 have n:i<(C1 E).length:=by rw[C4];exact c
 have a:(C1 E)[i]=[SV.str E[i]]:=by simp[C1]
 have p:f=1:=by rw[<-d i n,a];rfl
 subst p;constructor
 ·obtain⟨V,k,o⟩:=q i n 0 (by rw[a];exact Nat.one_pos);rw[p6,ab7] at k;simp only[a,ad1] at o;obtain⟨s,rfl,r⟩:=o.inv_str;simp only[ac4,l,aa7];rw[k,getElem!_pos E.toArray i m];simp only[List.getElem_toArray,encStr,Option.isSome_none,ac0,if_false];rw[<-r]
 ·simp[ab1,l]
theorem Cl3:YF c9 23 Ub:=by
 intro St w x X o R h;generalize z:Ub x o=pr at h ⊢;obtain⟨b,L⟩:=pr;dsimp only at h ⊢;unfold Ub at z;split at z
 case h_2=>
  obtain⟨rfl,_⟩:=ah9 z;cases h
 obtain⟨B,M⟩:=ah9 z;rw[<-B] at h;simp only[p7] at h;obtain⟨S,T⟩:=h;have d:∀(p:Option Addr) cap,O9 c9 ((callFunc 23 #[.slice p 0 cap]).run c9 w) λV w'=>V=undef/\w'=w:=λp cap=>
  Am (fn:=Tryz.f23) (by kernel_rfl) (by kernel_rfl) (by kernel_rfl) ((Any.slices_Sort_string_none Tryz.lays190 p cap w).mono λe w' ⟨D,m⟩=>⟨_,D,rfl,m⟩)
 obtain⟨E,rfl⟩:∃E,o=C1 E:=⟨_,Je S⟩
 rw[Dr] at M;subst M;have c:=Ai0 E;refine⟨λy=>?_,?_⟩
 ·have A:E=[]:=by
   cases E with
   | nil=>rfl
   | cons a r=>cases y
  subst A;refine(d none 0).mono λV w' ⟨J,m⟩=>⟨J,?_,m▸M7.refl _⟩
  have:R6 []=[]:=p4.1 c;rw[this];rfl
 intro u k e sz cap v C G N a0 Z t f;by_cases y:E=[]
 ·subst y;have H:R6 []=[]:=p4.1 c;refine(d _ cap).mono λV w' ⟨J,m⟩=>?_
  rw[m,H];exact⟨J,rfl,w,k,v,rfl,λ_ _=>rfl,rfl,rfl,rfl,rfl,λi h=>absurd h (ag5 _),λi h=>absurd h (ag5 _),M7.refl _⟩
 have A:0<E.length:=ab6.2 y;have I:sz=1:=by
  rw[<-t 0 (by rw[C4];exact A)];simp[C1]
 have U:=ML v t f;subst I;have q:u<w.heap.size:=(ab9.1 v).1;have B:E.length<4611686018427387904:=by
  have:=N5 T;rw[C4] at this;omega
 have W:=Any.slices_Sort_string Tryz.lays190 u 0 cap E w U q B;rw[C4];refine Am (fn:=Tryz.f23) (by kernel_rfl) (by kernel_rfl) (by kernel_rfl) (W.mono λe' w' ⟨D,n,os,m⟩=>⟨_,D,rfl,by rw[C4,c],?_⟩);obtain⟨p1,p2⟩:=NK v (R6 E).toArray;have O:k.size=cap:=by rw[C,p6]
 have Q:E.length<=cap:=by rw[<-C4];exact G
 have l:∀i (h:i<(C1 (R6 E)).length),(C1 (R6 E))[i]=[SV.str ((R6 E)[i]'(by rw[C4] at h;exact h))]:=λi h=>by simp[C1]
 refine⟨putRow encStr w u 0 (R6 E).toArray,putCells encStr 0 (R6 E).toArray k,p1,Zx _ _,p2,by simp[putRow,mapBlock],rfl,rfl,rfl,λi h=>by rw[l];rfl,λi h j K=>?_,?_⟩
 ·have Y:j=0:=by
   have:j<1:=by rw[l] at K;exact K
   omega
  subst Y;have P:i<(R6 E).length:=by rw[C4] at h;exact h
  refine⟨_,by rw[p6,ab7];exact Ae3 (by simpa using P) (by simp;omega),?_⟩;have R:(C1 (R6 E))[i][0] = .str (R6 E)[i]:=by simp only[l];rfl
  rw[R,getElem!_pos (R6 E).toArray i (by simpa using P)];have:=VS.str (St:=St) (w:=putRow encStr w u 0 (R6 E).toArray) ⟨((R6 E)[i]).toArray⟩;simpa using this
 ·rw[m];refine⟨⟨λg F=>heap_grow_old _ _ F,by simp only[grow,ac2];exact Nat.le_add_right _ _⟩,rfl,rfl,rfl⟩
theorem Cc4{C:Cfg}{R:Type}{I:R->(Nat->Prop)->(Nat->Prop)->World->Prop}(D:HI I){f:Ctx}{p:Nat->Prop}{w w':World}{z:Bool}{E:Nat}{l l':LL}{s:R}(g cap:Nat)(B:List Value)(i:Array Value)
  (L:En C E=false) (n:HR f [.arr z E 1 l] w) (K:I s f.St p w) (H:∀b g,f.nm b=some g->¬p g)
  (d:f.nm 0=some g) (J:g<w'.heap.size) (e:∀k,k<w.heap.size->f.nm 0≠some k->w'.heap[k]? = w.heap[k]?) (m:w.heap.size<=w'.heap.size) (M:w'.os=w.os) (N:w'.tape=w.tape) (O:w'.output=w.output)
  (j:w'.heap[g]? = some (.cells i E (0,0))) (T:Els f.St w' 1 l' B) (v:l'≠[]) (o:∀q,q<B.length->i[q]? = B[q]?) (U:B.length<=i.size) (u:l'.length<=cap) (V:cap<=maxLen) (G:i.size=cap) :
  Au C I f [.arr z E 1 l] w p (.fl 0) [.arr z E 1 l'] s (.slice (some ⟨g,0,none⟩) l'.length cap) w':=by
 have t:0<[Blk.arr z E 1 l].length:=by simp
 have A:(f.re 0 (some g)).nm 0=some g:=by simp[Ctx.re]
 have x:¬Hh C (A2 [Blk.arr z E 1 l] 0):=by simp[A2,Blk.shp,Hh,L]
 have a:([Blk.arr z E 1 l].map (Blk.kill 0)).set 0 (.arr z E 1 l')=[.arr z E 1 l']:=rfl;obtain⟨P,Q,X⟩:=IZ (C:=C) (y:=.arr z E 1 l') (ng:=some g) (w':=w') n t x (λk a=>by
   simp only[j4] at a;subst a;exact⟨J,(n.lt 0 g d).2.2,λc o F=>o (n.inj c 0 _ F d)⟩)
  (λk a=>by
   simp only[j4] at a;subst a;exact .inl d) e m M N O
  (BR.els A j T (by rintro⟨_,h⟩;exact v h) o U) rfl
 rw[a] at P Q;refine⟨_,p,P.lift p,Q,?_,λc o=>?_,?_,λb S r=>?_⟩
 ·refine .fl 0 g z E 1 l'.length cap rfl (λ_ h=>v (p4.1 h)) A u V ?_;simp only[aa8,j,G,p6]
 ·simp only[PV.nms,af1] at o;subst o;simp
 ·refine D.mono s f.St p w f.St w' K (λ_ h=>h) (λk a W=>(D.foot _ _ _ _ K k W).2 a) (λk a=>af2 (n.stlt k a) m) (λk a=>?_) m M N O;rcases a with a|a
  ·exact e k (n.stlt k a) (λh=>(n.lt 0 k h).2.2 a)
  ·exact e k (D.foot _ _ _ _ K k a).1 (λh=>H 0 k h a)
 ·simp only[Ctx.re] at r;split at r
  ·simp only[j4] at r;subst r;exact H 0 _ d
  ·exact H b S r
theorem A91:Ud c9 GX 24 Ll:=by
 intro C hP hG σ I yh yv hI hy args H s ret Hc c W Φ w Vs a2 y hg f Y hc hn;unfold Ll at c;split at c
 ·rename_i z l;obtain⟨h0,c⟩:=C9 c;obtain⟨h1,c⟩:=C9 c;obtain⟨rfl,rfl⟩:=I9 c;obtain⟨S,rfl,Z⟩:=hc.arr1;obtain⟨E,rfl⟩:∃E,l=C1 E:=⟨_,Je h0⟩
  rw[Dr];have P:En C 9=false:=by
   unfold En Cfg.sh;rw[hP];kernel_rfl
  refine Am (fn:=Tryz.f24) (by kernel_rfl) (by kernel_rfl) (by kernel_rfl) ?_;have empty:∀a cap,E=[]->S = .slice a 0 cap->Calls c9 24 #[S] w λe w'=>∃V,e = .returned V/\Au C I W [.arr z 9 1 (C1 E)] w Φ (.fl 0) [.arr z 9 1 (C1 (o0 E))] s V w':=by
   rintro a cap rfl rfl;refine(Any.slices_Compact_string_empty Tryz.lays194 a cap w).mono ?_;rintro e w' ⟨rfl,rfl⟩;exact⟨_,rfl,W,Φ,Stp.refl y,y,Z,by simp[PV.nms],f,Y⟩
  cases Z with
  | flv _ e2 U r=>
   simp only[A2,v7,x5,Blk.shp,j4,Shp.arr.injEq] at r;obtain⟨q1,q2,q3,X⟩:=r;rw[C4] at X;exact empty none 0 (p4.1 X) rfl
  | fl _ g z' e2 U n' cap r a1 o h hm Q=>
   simp only[A2,v7,x5,Blk.shp,j4,Shp.arr.injEq] at r;obtain⟨rfl,rfl,rfl,rfl⟩:=r;by_cases d:E=[]
   ·subst d;exact empty _ cap rfl rfl
   have O:¬(z=true/\C1 E=[]):=by
    rintro⟨q1,q2⟩;exact d (p4.1 (by rw[<-C4,q2];rfl))
   obtain⟨g',j,u,A,R,p,t⟩:=y.arr' (b:=0) rfl O;obtain rfl:g=g':=by
    rw[o] at u;exact ab5 u
   have G:j.size=cap:=by
    have:=Q;simp only[aa8,A,j4,ac6,true_and,p6] at this;exact this
   have F:=ML A p t;rw[C4] at h ⊢;have hb:=N5 h1;rw[C4] at hb;refine(Any.slices_Compact_string Tryz.lays194 g 0 cap E w F (by omega) h).mono ?_;rintro e w' ⟨rfl,q,rfl⟩;have a0:=Cm4 E;have B:(o0 E++ae0 (E.length-(o0 E).length) []).toArray.size=E.length:=by simp;omega
   generalize hD:(o0 E++ae0 (E.length-(o0 E).length) ([]:By)).toArray=D at B ⊢;have v:∀i,i<(o0 E).length->D[i]! = (o0 E)[i]!:=λi f=>by
    rw[<-hD,getElem!_pos ((o0 E++ae0 (E.length-(o0 E).length) ([]:By)).toArray) i (by simp;omega),getElem!_pos (o0 E) i f];simp[List.getElem_append_left f]
   obtain⟨p1,p2⟩:=NK (w:=ad4 w q) (show(ad4 w q).heap[g]? = some (.cells j 9 (0,0)) from A) D;have J:g<w.heap.size:=(ab9.1 A).1;have T:(putRow encStr (ad4 w q) g 0 D).heap.size=w.heap.size:=by simp[putRow,mapBlock]
   have m:((o0 E).map encStr).length=(o0 E).length:=o5 _;have:=Cc4 (C:=C) (w':=putRow encStr (ad4 w q) g 0 D) (l':=C1 (o0 E)) (s:=s) hI g cap ((o0 E).map encStr) (putCells encStr 0 D j) P y f Y o (by rw[T];exact J) (λk L N=>p2 k (λe=>N (e▸o))) (by omega) rfl rfl rfl p1
    ⟨by rw[m,C4,p6],λi x=>by
     have K:i<(o0 E).length:=by rw[C4] at x;exact x
     have n:(C1 (o0 E))[i]=[SV.str (o0 E)[i]]:=by simp[C1]
     refine⟨by rw[n];rfl,λk L=>?_⟩;have M:k=0:=by
      have:k<1:=by rw[n] at L;exact L
      omega
     subst M;refine⟨encStr (o0 E)[i],by rw[p6,ab7,af5,j7 K];rfl,?_⟩;simp only[n,ad1];have:=VS.str (St:=W.St) (w:=putRow encStr (ad4 w q) g 0 D) ⟨((o0 E)[i]).toArray⟩;simpa using this⟩
    (λe=>C59 d (p4.1 (by rw[<-C4,e];rfl)))
    (λi f=>by
     rw[m] at f;rw[Ae3 (by omega) (by omega),v i f,af5,j7 f,getElem!_pos (o0 E) i f];rfl)
    (by rw[m,Zx];omega) (by rw[C4];omega) hm (by rw[Zx];exact G)
   rw[C4] at this;exact⟨_,rfl,this⟩
 ·cases c
end
section
open Go Go.Proofs
set_option maxRecDepth 100000
section
variable {Q R : Type} (L : Nat) (W : F4) (Y : Yh Q) (s : Q) (k : Out -> St Q -> Option R)
noncomputable def SD(L:Nat):Cfg:=C8 L [43] (A4 []) [(15,PE),(74,Bz0)] (A4 [(8,[2]),(5,[2]),(7,[2]),(6,[1,12]),(4,[1,5,0]),(3,[1,5]),(2,[2]),(1,[1,3]),(0,[1])]) [15,74] (A4 [(0,[1])]) (some [2]) [] [] []
noncomputable def Bf4{R:Type}(L:Nat)(c:Int)(b:By)(d e f g h i j l a:Int)(m:Bool->(List Blk)->Option R):Option R:=cond (A3 b.length) (cond (ltN d 4294967296) (cond (ok8 e f g h i j l a) (cond (not (N2 (mkH c b d (n8 e f g h i j l a)))) (m false [(bH c b d e f g h i j l a)]) (cond (c==2) (vl (Rl .u32 d (24:Int)) λn=>m (n==127) [(bH c b d e f g h i j l a)]) (cond (c==3) (m ((e==0)&&((f==0)&&((g==0)&&((h==0)&&((i==0)&&((j==0)&&((l==0)&&((a==1)&&true)))))))) [(bH c b d e f g h i j l a)]) (cond (A3 b.length) (m (Ur ([108,111,99,97,108,104,111,115,116]:List UInt8) b) [(bH c b d e f g h i j l a)]) none)))) none) none) none
theorem B95(d:Nat)(h0 h1 h2 h3 h4 h5 h6 h7 h8 h9 h10):evC (SD L) (d+1) Q Y 43 [(gH h0 h1 h2 h3 h4 h5 h6 h7 h8 h9 h10)] [] s=Bf4 L h0 h1 h2 h3 h4 h5 h6 h7 h8 h9 h10 (λb a=>some (pB b,a,s)):=by refine(evE (fn:=Tryz.f43) (by kernel_rfl)).trans ?_;generalize evC (SD L) d=W;unfold Bf4;kernel_rfl
noncomputable abbrev Ny:Code:=E0 ag9
noncomputable def W9(L:Nat):Cfg:=C8 L [22] (A4 []) [(42,LC),(21,Pz),(43,Ba3)] (A4 [(10,[2]),(7,[2]),(9,[2]),(8,[1,10]),(6,[1,5,0]),(5,[1,5,0]),(4,[1,5,0]),(3,[1,5]),(2,[2]),(1,[1,3]),(0,[1])]) [42,21,43] (A4 [(0,[1])]) (some [2]) [] [] []
noncomputable def Gi{R:Type}(h:By)(r:Bool)(o:By)(i:Int)(p:By)(j l m g n b c d e f:Int)(a:By)(q:Bool->(List Blk)->Option R)(t:Bool->By->By->Int->By->Int->Int->Int->Int->Int->Int->Int->Int->Int->Int->By->Option R):Option R:=cond r (q true [(bU h o i p j l m g n b c d e f a)]) (cond (h==[97,98,111,117,116]) (cond (a==[98,108,97,110,107]) (q true [(bU h o i p j l m g n b c d e f a)]) (q (a==[115,114,99,100,111,99]) [(bU h o i p j l m g n b c d e f a)])) (t (h==[97,98,111,117,116]) h o i p j l m g n b c d e f a))
abbrev BI(b:Code):Prop:=∀(k:Out->St Q->Option R) s0 b1 o i p j l m g n a c d e f h,A9 (W9 L) W Y b ⟨gp [(1,.ptr 0 0 0),(5,pS s0),(0,pB b1)] 21,[(bU s0 o i p j l m g n a c d e f h)],s⟩ k=Gi s0 b1 o i p j l m g n a c d e f h (λq r=>k .ret ⟨gp [(2,pB q)] 27,r,s⟩) (λq t o i p j l m g n a c d e f h=>k .normal ⟨gp [(1,.ptr 0 0 0),(10,pB q)] 17,[(bU t o i p j l m g n a c d e f h)],s⟩)
theorem VE:BI (R:=R) L W Y s (cd [1,1,0,1,0,1] Ny):=by intro k o h p i q j l m f n a b c d e g;unfold Gi;kernel_rfl
noncomputable def Gj{R:Type}(o q:By)(n:Int)(m:By)(h i j e l a b c d f:Int)(g:By)(p:Bool->(List Blk)->Option R):Option R:=cond (G3 o) (cond (A3 m.length) (cond (ltN h 4294967296) (cond (ok8 i j e l a b c d) (p (Ac1 n m h i j e l a b c d) [(bU o q n m h i j e l a b c d f g)]) none) none) none) (p false [(bU o q n m h i j e l a b c d f g)])
abbrev BJ(b:Code):Prop:=∀(k:Out->St Q->Option R) a s1 s2 n3 s4 n5 n6 n7 n8v n9 n10 n11 n12 n13 n14 s15,A9 (W9 L) W Y b ⟨gp [(1,.ptr 0 0 0),(10,pB a)] 17,[(bU s1 s2 n3 s4 n5 n6 n7 n8v n9 n10 n11 n12 n13 n14 s15)],s⟩ k=Gj s1 s2 n3 s4 n5 n6 n7 n8v n9 n10 n11 n12 n13 n14 s15 (λa c=>k .ret ⟨gp [(2,pB a)] 27,c,s⟩)
theorem VF:BJ (R:=R) L W Y s (cd [1,1,1] Ny):=by intro k h o p i q j l m f n a b c d e g;unfold Gj;kernel_rfl
noncomputable def IR{R:Type}(L:Nat)(f h:By)(u2:Int)(i:By)(j l m n u8 o a b c d:Int)(e:By)(g:Bool->(List Blk)->Option R):Option R:=cond (smU f h i e) (cond (ltN j 4294967296) (cond (ok8 l m n u8 o a b c) (cond (No d) (cond (not (Tu (mkU f h u2 i j (n8 l m n u8 o a b c) d e))) (g false [(bU f h u2 i j l m n u8 o a b c d e)]) (cond (f==[104,116,116,112,115]) (Gi f (f==[104,116,116,112,115]) h u2 i j l m n u8 o a b c d e g (λb7 b2 b3 a8 b4 a9 b0 b1 p q r t u v w Z=>Gj b2 b3 a8 b4 a9 b0 b1 p q r t u v w Z g)) (cond (f==[119,115,115]) (Gi f (f==[119,115,115]) h u2 i j l m n u8 o a b c d e g (λb5 a0 a1 x a2 y z A B C D F G H I a3=>Gj a0 a1 x a2 y z A B C D F G H I a3 g)) (Gi f (f==[102,105,108,101]) h u2 i j l m n u8 o a b c d e g (λb6 a4 a5 J a6 K M N O P S T U V X a7=>Gj a4 a5 J a6 K M N O P S T U V X a7 g))))) none) none) none) none
theorem Bp5(c:Code)(a:BI (R:=PV × List Blk × Q) L W Y s c)(d:Code)(b:BJ (R:=PV × List Blk × Q) L W Y s d)(j u1:By)(u2:Int)(u3:By)(u4 u5 u6 u7 u8 u9 e f g h:Int)(i:By):A9 (W9 L) W Y (cd [] (K4 [1,1,1] d (K4 [1,1,0,1,0,1] c Ny))) ⟨[(gU j u1 u2 u3 u4 u5 u6 u7 u8 u9 e f g h i)]++tps 29,[],s⟩ (I1 (W9 L) ag9)=IR L j u1 u2 u3 u4 u5 u6 u7 u8 u9 e f g h i (λr0 H1=>some (pB r0,H1,s)):=by unfold IR;exact let K0:=(I1 (W9 L) ag9);let K1:=(F9 0 (G6 (W9 L) W Y d K0));(j1 (by kernel_rfl) (A0 (A0 (A0 (A0 (A0 rfl (A0 ((a K1 j (j==[104,116,116,112,115]) u1 u2 u3 u4 u5 u6 u7 u8 u9 e f g h i).trans (congr (congr rfl (by kernel_rfl)) (fx1 λa6=>(fx1 λb1=>(fx1 λb2=>(fx1 λa7=>(fx1 λb3=>(fx1 λa8=>(fx1 λa9=>(fx1 λb0=>(fx1 λn=>(fx1 λo=>(fx1 λp=>(fx1 λq=>(fx1 λr=>(fx1 λt=>(fx1 λu=>(fx1 λV=>(j1 (by kernel_rfl) ((b K0 a6 b1 b2 a7 b3 a8 a9 b0 n o p q r t u V).trans (by kernel_rfl))))))))))))))))))))) (A0 ((a K1 j (j==[119,115,115]) u1 u2 u3 u4 u5 u6 u7 u8 u9 e f g h i).trans (congr (congr rfl (by kernel_rfl)) (fx1 λl=>(fx1 λX=>(fx1 λZ=>(fx1 λv=>(fx1 λa0=>(fx1 λw=>(fx1 λx=>(fx1 λy=>(fx1 λz=>(fx1 λA=>(fx1 λB=>(fx1 λC=>(fx1 λD=>(fx1 λF=>(fx1 λG=>(fx1 λa1=>(j1 (by kernel_rfl) ((b K0 l X Z v a0 w x y z A B C D F G a1).trans (by kernel_rfl))))))))))))))))))))) ((a K1 j (j==[102,105,108,101]) u1 u2 u3 u4 u5 u6 u7 u8 u9 e f g h i).trans (congr (congr rfl (by kernel_rfl)) (fx1 λm=>(fx1 λa2=>(fx1 λa3=>(fx1 λH=>(fx1 λa4=>(fx1 λI=>(fx1 λJ=>(fx1 λK=>(fx1 λM=>(fx1 λN=>(fx1 λO=>(fx1 λP=>(fx1 λS=>(fx1 λT=>(fx1 λU=>(fx1 λa5=>(j1 (by kernel_rfl) ((b K0 m a2 a3 H a4 I J K M N O P S T U a5).trans (by kernel_rfl)))))))))))))))))))))))) rfl) rfl) rfl) rfl))
theorem Bp6(d:Nat)(u0 u1 u2 u3 u4 u5 u6 u7 u8 u9 u10 u11 u12 u13 u14):evC (W9 L) (d+1) Q Y 22 [(gU u0 u1 u2 u3 u4 u5 u6 u7 u8 u9 u10 u11 u12 u13 u14)] [] s=IR L u0 u1 u2 u3 u4 u5 u6 u7 u8 u9 u10 u11 u12 u13 u14 (λb a=>some (pB b,a,s)):=
 (evE (fn:=ag9) (by kernel_rfl)).trans (j1 (by kernel_rfl) (Bp5 L (evC (W9 L) d) Y s (cd [1,1,0,1,0,1] Ny) (VE L (evC (W9 L) d) Y s) (cd [1,1,1] Ny) (VF L (evC (W9 L) d) Y s) u0 u1 u2 u3 u4 u5 u6 u7 u8 u9 u10 u11 u12 u13 u14))
end
abbrev Df2(f:Int->By->Int->Int->Int->Int->Int->Int->Int->Int->Int->(Bool->List Blk->Option (PV × List Blk × Unit))->Option (PV × List Blk × Unit))(k:Int)(j:By)(v4 a b c d e g h i:Int):Prop:=
 A3 j.length=true->ltN v4 4294967296=true->ok8 a b c d e g h i=true->∃r H,f k j v4 a b c d e g h i (λm l=>rv (.s (.bool m)) l)=rv r H/\r.stab [] H = .s (.bool (Ac1 k j v4 a b c d e g h i))
theorem B96(a:Int)(j:By)(v4 b c d e f g h i:Int):Df2 (Bf4 LF) a j v4 b c d e f g h i:=λk l m=>by
 unfold Bf4 Ac1;rw[k,l,m];cases N2 (mkH a j v4 (n8 b c d e f g h i))<;>cases a==2<;>cases a==3<;>exact⟨_,_,rfl,rfl⟩
theorem Bp7(a m:By)(n:Int)(b:By)(v4 d e f g h i j k l:Int)(c:By)(o:smU a m b c=true)(q:ltN v4 4294967296=true)(t:ok8 d e f g h i j k=true)(u:No l=true) :
  ∃r H,IR LF a m n b v4 d e f g h i j k l c (λv p=>rv (.s (.bool v)) p)=rv r H/\r.stab [] H = .s (.bool (AG a m n b v4 d e f g h i j k l c)):=by
 obtain⟨x,y,z,A⟩:=DI o;have w:A3 b.length=true:=U2;unfold IR Gi Gj AG;simp only[o,q,t,u,w,show(a==([104,116,116,112,115]:List UInt8))=(a==Nx) from rfl,show(a==([119,115,115]:List UInt8))=(a==YL) from rfl,show(a==([102,105,108,101]:List UInt8))=(a==B19) from rfl,show(a==([97,98,111,117,116]:List UInt8))=(a==FZ) from rfl];cases Tu (mkU a m n b v4 (n8 d e f g h i j k) l c)<;>cases a==Nx<;>cases a==YL<;>cases a==B19<;>cases a==FZ<;>cases G3 a<;>cases c==([98,108,97,110,107]:List UInt8)<;>exact⟨_,_,rfl,rfl⟩
section
theorem C05:C0 c9 GX 43 Ba3:=xf [] (SD LF) EL rfl ⟨A84,Da7,trivial⟩ rfl (by kernel_rfl) follows λargs=>by
 unfold EL;split
 ·rename_i i j v4 a b c d e f g h;exact λl=>λm=>λn=>(let⟨q,o,k,p⟩:=B96 i j v4 a b c d e f g h l m n;⟨rfl,rfl,rfl,q,o,(B95 LF noY () 0 i j v4 a b c d e f g h).trans k,p⟩)
 ·trivial
theorem Ci8:C0 c9 GX 22 EM:=xf [] (W9 LF) Xu rfl ⟨By3,DN,C05,trivial⟩ rfl (by kernel_rfl) follows λargs=>by
 unfold Xu;split
 ·rename_i m n i j v4 a b c d e f g h k l;exact λp=>λq=>λr=>λt=>(let⟨w,u,o,v⟩:=Bp7 m n i j v4 a b c d e f g h k l p q r t;⟨rfl,rfl,rfl,w,u,(Bp6 LF noY () 0 m n i j v4 a b c d e f g h k l).trans o,v⟩)
 ·trivial
end
section
variable {W R : Type} (L : Nat) (Q : F4) (Y : Yh W) (s : W) (k : Out -> St W -> Option R)
noncomputable abbrev Bc2:Code:=E0 ai0
noncomputable def Lx(L:Nat):Cfg:=C8 L [35] (A4 [(2,[0,0,2,2,0])]) [] (A4 [(7,[4]),(6,[0,0,5,0]),(5,[4]),(4,[0,0,3,1,0,7]),(3,[0,0,3,1,0]),(2,[0,0,5,0,0]),(1,[0,0,5,0]),(0,[0,0])]) [] (A4 [(0,[]),(1,[0,0,5,0])]) (some [4]) [] [] []
noncomputable def Hv{R:Type}(L n:Nat)(c b:Bool)(d:LL)(h:By)(g a:Int)(e:Int->Option R)(f:Unit->Option R):Option R:=match n with|0=>none|n+1=>cond (ltI a g) (cond (inR a d.length) (cond (okE Ia d (j0 a) 0) (cond (h==(gX d (j0 a) 0)) (e a) (Hv L n c b d h g (A1 (a+1)) e f)) none) none) (f ())
theorem Ai5(n s_z0 s_t1 s2 v3 n4 n5):E7 0 ((Lx L).keep 2) (bd (Lx L) Q Y (cd [1,0,1,0,0] Bc2)) n ⟨gp [(0,.s (.sl s_z0 s_t1 1 s2)),(0,pS v3),(5,pI n4),(0,pI n5)] 10,[],s⟩ k =
 Hv L n s_z0 s_t1 s2 v3 n4 n5 (λn0=>k .ret ⟨gp [(4,pI n0)] 14,[],s⟩) (λ_=>k (.exit 0) ⟨gp [] 19,[],s⟩):=by
 induction n generalizing s_z0 s_t1 s2 v3 n4 n5 with
 | zero=>rfl
 | succ n a=>rw[Hv];simp only[<-a];kernel_rfl
noncomputable def Bh0{R:Type}(L:Nat)(b a:Bool)(d:LL)(e:By)(c:Int->Option R):Option R:=Hv L L b a d e (d.length:Int) 0 c (λ_=>c (-1))
theorem Cd7(d:Nat)(s_z0 s_t1 s2 v3):evC (Lx L) (d+1) W Y 35 [.s (.sl s_z0 s_t1 1 s2),pS v3] [] s=Bh0 L s_z0 s_t1 s2 v3 (λa=>some (pI a,[],s)):=by refine(evE (fn:=ai0) (by kernel_rfl)).trans ?_;generalize evC (Lx L) d=Q;unfold Bh0;exact(j1 (by kernel_rfl) ((Ai5 L Q Y s (F9 0 (G6 (Lx L) Q Y (cd [1,1] Bc2) (I1 (Lx L) ai0))) L s_z0 s_t1 s2 v3 (s2.length:Int) 0).trans (by kernel_rfl)))
noncomputable def SL(L:Nat):Cfg:=C8 L [16] (A4 []) [(35,Bb0)] (A4 [(1,[4]),(0,[0,0])]) [35] (A4 []) (some [4]) [] [] []
noncomputable def Bg9{R:Type}(L:Nat)(d c:Bool)(b:LL)(f:By)(e:Bool->Option R):Option R:=cond (z7 b isS) (cond (A3 b.length) (vl (Bn2 (w9 elS b) f) λa=>e (not (ltI a 0))) none) none
theorem Cd5(d:Nat)(s_z0 s_t1 s2 v3):evC (SL L) (d+1) W Y 16 [.s (.sl s_z0 s_t1 1 s2),pS v3] [] s=Bg9 L s_z0 s_t1 s2 v3 (λa=>some (pB a,[],s)):=by refine(evE (fn:=Tryz.f16) (by kernel_rfl)).trans ?_;generalize evC (SL L) d=Q;unfold Bg9;kernel_rfl
noncomputable def Ao3(L:Nat):Cfg:=C8 L [8] (A4 []) [(15,PE),(17,DW),(16,CQ)] (A4 [(1,[4]),(0,[2,0])]) [15,17,16] (A4 []) (some [4]) [] [] [] (nt:=[(24,4,9,1)])
noncomputable def Cm5{R:Type}(L:Nat)(q r t u j i:Bool)(n:LL)(o:Int)(l:By)(m a b c d e f g h:Int)(v:Bool->(List Blk)->Option R):Option R:=cond (A3 l.length) (cond (ltN m 4294967296) (cond (ok8 a b c d e f g h) (cond (N2 (mkH o l m (n8 a b c d e f g h))) (cond (A3 l.length) (cond (ltN m 4294967296) (cond (ok8 a b c d e f g h) (vl (Ai (mkH o l m (n8 a b c d e f g h))) λp=>cond (z7 n isS) (cond (A3 n.length) (v (P3 (w9 elS n) p) [(bCx q r t u j i n),(bH o l m a b c d e f g h)]) none) none) none) none) none) (v false [(bCx q r t u j i n),(bH o l m a b c d e f g h)])) none) none) none
theorem Cm6(d:Nat)(c0 c1 c2 c3 c_z4 c_t5 c6 h7 h8 h9 h10 h11 h12 h13 h14 h15 h16 h17):evC (Ao3 L) (d+1) W Y 8 [(gCx c0 c1 c2 c3 c_z4 c_t5 c6),(gH h7 h8 h9 h10 h11 h12 h13 h14 h15 h16 h17)] [] s=Cm5 L c0 c1 c2 c3 c_z4 c_t5 c6 h7 h8 h9 h10 h11 h12 h13 h14 h15 h16 h17 (λb a=>some (pB b,a,s)):=by refine(evE (fn:=Tryz.f8) (by kernel_rfl)).trans ?_;generalize evC (Ao3 L) d=Q;unfold Cm5;kernel_rfl
noncomputable abbrev Bb8:Code:=E0 ai5
noncomputable def Lt(L:Nat):Cfg:=C8 L [9] (A4 [(4,[2,0,0,0])]) [(18,QH),(14,Ba6)] (A4 [(8,[4]),(5,[2,0,1]),(7,[4]),(6,[2,0,1,17]),(4,[2,0,1,7]),(3,[2,0,1]),(2,[4]),(1,[2,0,4]),(0,[2,0])]) [18,14] (A4 [(0,[]),(1,[2,0,1])]) (some [4]) [] [] [] (nt:=[(24,4,9,1)])
noncomputable def Ho{R:Type}(L n:Nat)(m:Int)(p q r t w v:Bool)(l:LL)(j:Int)(o:By)(a b c d e f g h i:Int)(x:(List Blk)->Option R)(y:Bool->Bool->Bool->Bool->Bool->Bool->LL->Int->By->Int->Int->Int->Int->Int->Int->Int->Int->Int->Option R):Option R:=match n with|0=>none|n+1=>cond (ltI m (l.length:Int)) (cond (inR m l.length) (cond (okE Ia l (j0 m) 0) (cond (A3 o.length) (cond (ltN a 4294967296) (cond (ok8 b c d e f g h i) (vl (Ai (mkH j o a (n8 b c d e f g h i))) λu=>cond ((gX l (j0 m) 0)==u) (x [(bCx p q r t w v l),(bH j o a b c d e f g h i)]) (Ho L n (A1 (m+1)) p q r t w v l j o a b c d e f g h i x y)) none) none) none) none) none) (y p q r t w v l j o a b c d e f g h i)
theorem Ae8(n i0 i j l b4 z5 t6 l7 n8v s9 a b c d e f g h n18):E7 2 ((Lt L).keep 4) (bd (Lt L) Q Y (cd [1,1,0,1,0,0] Bb8)) n ⟨gp [(2,.ptr 0 0 0),(0,.ptr 1 0 0),(1,pI i0)] 18,[(bCx i j l b4 z5 t6 l7),(bH n8v s9 a b c d e f g h n18)],s⟩ k =
 Ho L n i0 i j l b4 z5 t6 l7 n8v s9 a b c d e f g h n18 (λm=>k .ret ⟨gp [(4,pB true)] 19,m,s⟩) (λo i j l w v q r u t a b c d e f g h=>k (.exit 0) ⟨gp [] 24,[(bCx o i j l w v q),(bH r u t a b c d e f g h)],s⟩):=by
 induction n generalizing i0 i j l b4 z5 t6 l7 n8v s9 a b c d e f g h n18 with
 | zero=>rfl
 | succ n p=>rw[Ho];simp only[<-p];kernel_rfl
noncomputable def Bg0{R:Type}(L:Nat)(K M N O j i:Bool)(P:LL)(D:Int)(w:By)(x a b c d e f g h:Int)(F:Bool->(List Blk)->Option R):Option R:=cond (A3 w.length) (cond (ltN x 4294967296) (cond (ok8 a b c d e f g h) (cond (not (N2 (mkH D w x (n8 a b c d e f g h)))) (F false [(bCx K M N O j i P),(bH D w x a b c d e f g h)]) (Ho L L 0 K M N O j i P D w x a b c d e f g h (λy=>F true y) (λz A B C J I G H v l m n o p q r t u=>F false [(bCx z A B C J I G),(bH H v l m n o p q r t u)]))) none) none) none
theorem Ca5(d:Nat)(c0 c1 c2 c3 c_z4 c_t5 c6 h7 h8 h9 h10 h11 h12 h13 h14 h15 h16 h17):evC (Lt L) (d+1) W Y 9 [(gCx c0 c1 c2 c3 c_z4 c_t5 c6),(gH h7 h8 h9 h10 h11 h12 h13 h14 h15 h16 h17)] [] s=Bg0 L c0 c1 c2 c3 c_z4 c_t5 c6 h7 h8 h9 h10 h11 h12 h13 h14 h15 h16 h17 (λb a=>some (pB b,a,s)):=by refine(evE (fn:=ai5) (by kernel_rfl)).trans ?_;generalize evC (Lt L) d=Q;unfold Bg0;exact(j1 (by kernel_rfl) (A0 (A0 (A0 (A0 rfl ((Ae8 L Q Y s (F9 0 (G6 (Lt L) Q Y (cd [1,1,1] Bb8) (I1 (Lt L) ai5))) L 0 c0 c1 c2 c3 c_z4 c_t5 c6 h7 h8 h9 h10 h11 h12 h13 h14 h15 h16 h17).trans (by kernel_rfl))) rfl) rfl) rfl))
end
theorem A56{R:Type}(z t:Bool)(l:List By)(v:By)(a:Int->Option R)(b:Unit->Option R)(k:l.length<=1000000000):∀(r i m:Nat),i+r=l.length->r<m->
  Hv LF m z t (C1 l) v (l.length:Int) (i:Int) a b=match (l.drop i).findIdx? (· == v) with|some j=>a ((i+j:Nat):Int)|none=>b ():=by
 intro r
 induction r with
 | zero=>
  intro i m e f;obtain⟨m,rfl⟩:∃q,m=q+1:=⟨m-1,by omega⟩
  rw[Hv,A6,o7 (by omega)];rfl
 | succ r g=>
  intro i m e f;obtain⟨m,rfl⟩:∃q,m=q+1:=⟨m-1,by omega⟩
  have c:A1 ((i:Int)+1)=((i+1:Nat):Int):=by rw[A5];rfl
  have d:l.drop i=l.getD i []::l.drop (i+1):=by
   rw[o9,j7 (by omega),ac9,ad0]
  rw[Hv,A8,L1 (by omega) (by rw[C4];omega),j2,R1 (by omega),W4,c,d,List.findIdx?_cons];simp only[cond_true];by_cases h:l.getD i []=v
  ·rw[h,beq_self_eq_true];simp
  ·rw[show(v==l.getD i [])=false by simpa using λq=>h q.symm,show(l.getD i []==v)=false by simpa using h,cond_false,g (i+1) m (by omega) (by omega)];cases (l.drop (i+1)).findIdx? (· == v) with
   | none=>rfl
   | some j=>simp[Nat.add_assoc,Nat.add_comm 1 j]
theorem A57{R:Type}{b:Int->Option R}(z t:Bool)(l:LL)(v:By)(c:l.all isS=true)(d:A3 l.length=true):Bh0 LF z t l v b=b (Bn2 (l.map elS) v):=by
 have f:=E2;have a:=N5 d;rw[Je c] at a ⊢;generalize l.map elS=q at a ⊢;rw[C4] at a;have e:w9 elS (C1 q)=q:=by
  unfold C1;rw[af6];exact af0 (λ_=>rfl) q
 unfold Bh0 Bn2;rw[C4,e];refine(A56 z t q v _ _ a q.length 0 LF (by omega) (by omega)).trans ?_;rw[v8];cases q.findIdx? (· == v) with
 | none=>rfl
 | some j=>
  show b ((0+j:Nat):Int)=b (j:Int);rw[aa7]
theorem Cq6(l:List By)(v:By):(!ltI (Bn2 l v) 0)=P3 l v:=by
 unfold Bn2 P3;cases h:l.findIdx? (· == v) with
 | none=>
  rw[List.findIdx?_eq_none_iff] at h;show(!ltI (-1) 0)=_;rw[A8];exact(List.any_eq_false.2 λx c=>by rw[h x c];simp).symm
 | some j=>
  show(!ltI (j:Int) 0)=_;rw[A6];exact(List.any_eq_true.2 (by
   obtain⟨a,b,_⟩:=List.findIdx?_eq_some_iff_getElem.1 h;exact⟨_,ac8 a,b⟩)).symm
theorem A52{R:Type}{a:Bool->Option R}(z t:Bool)(l:LL)(v:By)(b:l.all isS=true)(c:A3 l.length=true):Bg9 LF z t l v a=a (P3 (l.map elS) v):=by unfold Bg9;rw[b,c,<-Cq6];rfl
theorem Cm7(x v up m z t:Bool)(l:LL)(j:Int)(i:By)(v4 a b c d e f g h:Int)(n:l.all isS=true)(o:A3 l.length=true)(p:A3 i.length=true)(q:ltN v4 4294967296=true)(u:ok8 a b c d e f g h=true) :
  ∃r H,Cm5 LF x v up m z t l j i v4 a b c d e f g h (λw k=>rv (.s (.bool w)) k)=rv r H/\r.stab [] H = .s (.bool (II (l.map elS) (mkH j i v4 (n8 a b c d e f g h)))):=by
 unfold Cm5 II;rw[n,o,p,q,u];cases N2 (mkH j i v4 (n8 a b c d e f g h))<;>exact⟨_,_,rfl,rfl⟩
theorem Az7(v u up n z t:Bool)(l:List By)(k:Int)(j:By)(v4 a b c d e f g h:Int)(G:l.length<=1000000000)(x:A3 j.length=true)(y:ltN v4 4294967296=true)(A:ok8 a b c d e f g h=true):∃H,∀(R:Type) (o:List Blk->Option R) (p:Bool->Bool->Bool->Bool->Bool->Bool->LL->Int->By->Int->Int->Int->Int->Int->Int->Int->Int->Int->Option R),∀(r i m:Nat),i+r=l.length->r<m->
  Ho LF m (i:Int) v u up n z t (C1 l) k j v4 a b c d e f g h o p=if P3 (l.drop i) (Ai (mkH k j v4 (n8 a b c d e f g h))) then o H else p v u up n z t (C1 l) k j v4 a b c d e f g h:=by
 refine⟨[bCx v u up n z t (C1 l),bH k j v4 a b c d e f g h],λR o p r=>?_⟩
 induction r with
 | zero=>
  intro i m C D;obtain⟨m,rfl⟩:∃q,m=q+1:=⟨m-1,by omega⟩
  rw[Ho,F1 (by rw[C4];omega),o7 (by omega)];rfl
 | succ r F=>
  intro i m C D;obtain⟨m,rfl⟩:∃q,m=q+1:=⟨m-1,by omega⟩
  have w:A1 ((i:Int)+1)=((i+1:Nat):Int):=by rw[A5];rfl
  have B:l.drop i=l.getD i []::l.drop (i+1):=by
   rw[o9,j7 (by omega),ac9,ad0]
  rw[Ho,D1 (by rw[C4];omega),L1 (by omega) (by rw[C4];omega),j2,R1 (by omega),W4,w,B,x,y,A];simp only[cond_true,vl];rw[show P3 (l.getD i []::l.drop (i+1)) (Ai (mkH k j v4 (n8 a b c d e f g h)))=((l.getD i []==Ai (mkH k j v4 (n8 a b c d e f g h)))||P3 (l.drop (i+1)) (Ai (mkH k j v4 (n8 a b c d e f g h)))) from rfl];cases l.getD i []==Ai (mkH k j v4 (n8 a b c d e f g h)) with
  | true=>rfl
  | false=>
   rw[cond_false,F (i+1) m (by omega) (by omega)];rfl
theorem Ca6(w v up n z t:Bool)(l:LL)(k:Int)(j:By)(v4 a b c d f g h i:Int)(y:l.all isS=true)(A:A3 l.length=true)(o:A3 j.length=true)(p:ltN v4 4294967296=true)(u:ok8 a b c d f g h i=true) :
  ∃r H,Bg0 LF w v up n z t l k j v4 a b c d f g h i (λD x=>rv (.s (.bool D)) x)=rv r H/\r.stab [] H = .s (.bool (II (l.map elS) (mkH k j v4 (n8 a b c d f g h i)))):=by
 have C:=E2;have m:=N5 A;rw[Je y] at m ⊢;generalize l.map elS=q at m ⊢;rw[C4] at m;have e:w9 elS (C1 q)=q:=by
  unfold C1;rw[af6];exact af0 (λ_=>rfl) q
 obtain⟨H,B⟩:=Az7 w v up n z t q k j v4 a b c d f g h i m o p u;unfold Bg0 II;rw[o,p,u,e];cases N2 (mkH k j v4 (n8 a b c d f g h i)) with
 | false=>exact⟨_,_,rfl,rfl⟩
 | true=>
  simp only[cond_true,k9,cond_false,x4];rw[show(0:Int)=((0:Nat):Int) from rfl,B _ _ _ q.length 0 LF (by omega) (by omega),v8];cases P3 q (Ai (mkH k j v4 (n8 a b c d f g h i)))<;>exact⟨_,_,rfl,rfl⟩
section
variable {W R : Type} (L : Nat) (Q : F4) (Y : Yh W) (s : W) (k : Out -> St W -> Option R)
noncomputable def GH(L:Nat):Cfg:=C8 L [89] (A4 []) [] (A4 [(1,[2]),(0,[0])]) [] (A4 []) (some [2]) [] [] []
noncomputable def VZ{R:Type}(L:Nat)(n0:Int)(a:Bool->Option R):Option R:=cond (not (ltI n0 0)) (cond (not (ltI 1114111 n0)) (cond (ltI n0 55296) (a true) (a (ltI 57343 n0))) (a false)) (a false)
theorem Bs9(d:Nat)(n0):evC (GH L) (d+1) W Y 89 [pI n0] [] s=VZ L n0 (λa=>some (pB a,[],s)):=by refine(evE (fn:=Tryz.f89) (by kernel_rfl)).trans ?_;generalize evC (GH L) d=Q;unfold VZ;kernel_rfl
noncomputable abbrev Oa:Code:=E0 ah1
noncomputable def X2(L:Nat):Cfg:=C8 L [92] (A4 [(6,[0,5,0])]) [] (A4 [(9,[6]),(8,[0,6]),(7,[0,6]),(6,[0,6,11]),(5,[0,6]),(4,[0]),(2,[0,0]),(3,[0,0]),(1,[0,0,6]),(0,[0,0,0])]) [] (A4 [(0,[0,6]),(1,[0,6])]) (some [6]) [] [] []
noncomputable def Gn{R:Type}(L n:Nat)(a b:Int)(e:Int->Int->Option R):Option R:=match n with|0=>none|n+1=>cond (ltI 455 a) (vl (A1 (x6 a (35:Int))) λc=>vl (A1 (b+36)) λd=>Gn L n c d e) (e a b)
theorem VR(n a b):E7 0 ((X2 L).keep 6) (bd (X2 L) Q Y (cd [1,1,1,1,0,0,0] Oa)) n ⟨gp [(0,pI a),(6,pI b)] 23,[],s⟩ k =
 Gn L n a b (λa b=>k (.exit 0) ⟨gp [(0,pI a),(6,pI b)] 23,[],s⟩):=by
 induction n generalizing a b with
 | zero=>rfl
 | succ n c=>rw[Gn];simp only[<-c];kernel_rfl
noncomputable def Gm{R:Type}(L:Nat)(b h:Int)(i:Int->Option R):Option R:=cond (h !=0) (vl (A1 (x6 b h)) λg=>Gn L L (A1 (b+g)) 0 (λa d=>vl (A1 ((36:Int)*a)) λe=>vl (A1 (a+38)) λc=>cond (c !=0) (vl (A1 (x6 e c)) λf=>i (A1 (d+f))) none)) none
abbrev BM(b:Code):Prop:=∀(k:Out->St W->Option R) delta0 n1,A9 (X2 L) Q Y b ⟨gp [(0,pI delta0),(0,pI n1)] 29,[],s⟩ k=Gm L delta0 n1 (λn0=>k .ret ⟨gp [(6,pI n0)] 24,[],s⟩)
theorem VQ:BM (R:=R) L Q Y s (cd [1,1] Oa):=by intro k a c;unfold Gm;exact(j1 (by kernel_rfl) (A0 (A7 λb=>((VR L Q Y s (F9 0 (G6 (X2 L) Q Y (cd [1,1,1,1,1] Oa) k)) L (A1 (a+b)) 0).trans (by kernel_rfl))) rfl))
noncomputable def IX{R:Type}(L:Nat)(a h:Int)(b:Bool)(g:Int->Option R):Option R:=cond b (vl (A1 (x6 a (700:Int))) λe=>Gm L e h (λc=>g c)) (vl (A1 (x6 a (2:Int))) λf=>Gm L f h (λd=>g d))
theorem Br7(d:Code)(a:BM (R:=PV × List Blk × W) L Q Y s d)(b e:Int)(c:Bool):A9 (X2 L) Q Y (cd [] (K4 [1,1] d Oa)) ⟨[pI b,pI e,pB c]++tps 28,[],s⟩ (I1 (X2 L) ah1)=IX L b e c (λi=>some (pI i,[],s)):=by unfold IX;exact let h:=(I1 (X2 L) ah1);(j1 (by kernel_rfl) (A0 (A7 λf=>((a h f e).trans (by kernel_rfl))) (A7 λg=>((a h g e).trans (by kernel_rfl)))))
theorem Br8(d:Nat)(delta0 n1 first2):evC (X2 L) (d+1) W Y 92 [pI delta0,pI n1,pB first2] [] s=IX L delta0 n1 first2 (λa=>some (pI a,[],s)):=
 (evE (fn:=ah1) (by kernel_rfl)).trans (j1 (by kernel_rfl) (Br7 L (evC (X2 L) d) Y s (cd [1,1] Oa) (VQ L (evC (X2 L) d) Y s) delta0 n1 first2))
noncomputable def Ap7(L:Nat):Cfg:=C8 L [90] (A4 []) [] (A4 [(1,[4]),(0,[0,0])]) [] (A4 []) (some [4]) [] [] []
noncomputable def Cw2{R:Type}(L:Nat)(c a:Int)(e:Int->Option R):Option R:=vl (A1 ((36:Int)*(A1 (c+1)))) λb=>vl (if ((if ((A1 (b-a))<(26:Int)) then (A1 (b-a)) else (26:Int)) > (1:Int)) then (if ((A1 (b-a))<(26:Int)) then (A1 (b-a)) else (26:Int)) else (1:Int)) λd=>e d
theorem Cw3(d:Nat)(kk0 bias1):evC (Ap7 L) (d+1) W Y 90 [pI kk0,pI bias1] [] s=Cw2 L kk0 bias1 (λa=>some (pI a,[],s)):=by refine(evE (fn:=Tryz.f90) (by kernel_rfl)).trans ?_;generalize evC (Ap7 L) d=Q;unfold Cw2;kernel_rfl
noncomputable def SH(L:Nat):Cfg:=C8 L [91] (A4 []) [] (A4 [(3,[2]),(2,[2]),(1,[0,3]),(0,[0])]) [] (A4 []) (some [2]) [] [] []
noncomputable def Bg1{R:Type}(L:Nat)(a:Int)(d:Int->Option R):Option R:=cond (ltI a 26) (vl (wu8 (A1 ((97:Int)+a))) λb=>d b) (vl (A1 ((A1 ((48:Int)+a))-26)) λc=>d (wu8 c))
theorem Ca7(d:Nat)(d0):evC (SH L) (d+1) W Y 91 [pI d0] [] s=Bg1 L d0 (λa=>some (p8 a,[],s)):=by refine(evE (fn:=Tryz.f91) (by kernel_rfl)).trans ?_;generalize evC (SH L) d=Q;unfold Bg1;kernel_rfl
noncomputable abbrev Sl:Code:=E0 af9
noncomputable def Jo(L:Nat):Cfg:=C8 L [151] (A4 []) [] (A4 [(7,[2]),(2,[2]),(4,[2]),(6,[2]),(5,[0,22]),(3,[0,12]),(1,[0,2]),(0,[0])]) [] (A4 [(0,[])]) (some [2]) [] [] []
noncomputable def Wr{R:Type}(a:Int)(g:Bool)(e:Int->Option R)(f:Int->Bool->Option R):Option R:=cond g (vl (A1 (wu8 (a-65))) λb=>e b) (cond (not (ltI a 48)) (cond (not (ltI 57 a)) (vl (A1 (wu8 (a-48))) λc=>vl (A1 (c+26)) λd=>e d) (f a (not (ltI 57 a)))) (f a false))
abbrev NX(b:Code):Prop:=∀(k:Out->St W->Option R) a c,A9 (Jo L) Q Y b ⟨gp [(0,p8 a),(12,pB c)] 20,[],s⟩ k=Wr a c (λn0=>k .ret ⟨gp [(2,pI n0)] 31,[],s⟩) (λa c=>k .normal ⟨gp [(0,p8 a),(22,pB c)] 10,[],s⟩)
theorem A44:NX (R:=R) L Q Y s (cd [1,0,0,1,1,1] Sl):=by intro k a b;unfold Wr;kernel_rfl
noncomputable def Ws{R:Type}(a:Int)(l:Bool)(f:Int->Option R)(j:Int->Bool->Option R):Option R:=cond l (vl (A1 (wu8 (a-97))) λg=>f g) (cond (not (ltI a 65)) (Wr a (not (ltI 90 a)) (λh=>f h) (λb c=>j b c)) (Wr a false (λi=>f i) (λd e=>j d e)))
abbrev AB(b:Code):Prop:=∀(k:Out->St W->Option R) a c,A9 (Jo L) Q Y b ⟨gp [(0,p8 a),(2,pB c)] 30,[],s⟩ k=Ws a c (λn0=>k .ret ⟨gp [(2,pI n0)] 31,[],s⟩) (λa c=>k .normal ⟨gp [(0,p8 a),(22,pB c)] 10,[],s⟩)
theorem A45(a:Code)(b:NX (R:=R) L Q Y s a):AB (R:=R) L Q Y s (cd [1,0,0,1] (K4 [1,0,0,1,1,1] a Sl)):=by intro k c d;unfold Ws;simp only[<-b k];kernel_rfl
theorem A46:AB (R:=R) L Q Y s (cd [1,0,0,1] Sl):=by intro k a b;exact j1 (by kernel_rfl) (A45 L Q Y s (cd [1,0,0,1,1,1] Sl) (A44 L Q Y s) k a b)
noncomputable def Cd0{R:Type}(L:Nat)(c:Int)(d:Int->Option R):Option R:=cond (not (ltI c 97)) (Ws c (not (ltI 122 c)) (λa=>d a) (λe f=>d (-1))) (Ws c false (λb=>d b) (λg h=>d (-1)))
theorem Cw9(b:Code)(a:AB (R:=PV × List Blk × W) L Q Y s b)(c:Int):A9 (Jo L) Q Y (cd [] (K4 [1,0,0,1] b Sl)) ⟨[p8 c]++tps 33,[],s⟩ (I1 (Jo L) af9)=Cd0 L c (λe=>some (pI e,[],s)):=by unfold Cd0;exact let d:=(F9 0 (G6 (Jo L) Q Y (cd [1,1] Sl) (I1 (Jo L) af9)));(j1 (by kernel_rfl) (A0 ((a d c (not (ltI 122 c))).trans (by kernel_rfl)) ((a d c false).trans (by kernel_rfl))))
theorem Cx0(d:Nat)(b0):evC (Jo L) (d+1) W Y 151 [p8 b0] [] s=Cd0 L b0 (λa=>some (pI a,[],s)):=
 (evE (fn:=af9) (by kernel_rfl)).trans (j1 (by kernel_rfl) (Cw9 L (evC (Jo L) d) Y s (cd [1,0,0,1] Sl) (A46 L (evC (Jo L) d) Y s) b0))
noncomputable abbrev Bu:Code:=E0 ah0
noncomputable def N0(L:Nat):Cfg:=C8 L [54] (A4 [(32,[0,1,0,0,1,0,0,0,0,2,0,0]),(25,[0,1,0,0,1,0,0,0,0,2]),(18,[0,1,0,0,1,0,0,0,0,0,0]),(15,[0,1,0,0,1,0,0,0,0]),(5,[0,1,0,0,0])]) [(89,EY),(90,Am2),(91,Ba4),(92,EP)] (A4 [(43,[2,0]),(42,[0,3,1,0,0,0,0]),(41,[0,3,1,0,0,0,0]),(26,[0,3,1,0,0,0,0,2]),(40,[0,3,1,0,0,0,0,2]),(39,[0,3,1,0,0,0,0,2]),(38,[0,3,1,0,0,1,2]),(37,[0,3,1,0,0,0,3]),(36,[0,3,1,0,0,0,0,2,0,0]),(35,[0,3,1,0,0,0,0,2,0,0]),(34,[0,3,1,0,0,0,0,2,0,0,0]),(33,[0,3,1,0,0,0,0,2,0,0,0]),(32,[0,3,1,0,0,0,0,2,0,0,94]),(31,[0,3,1,0,0,0,0,2,0,0]),(30,[0,3,1,0,0,0,0,2,0]),(29,[0,3,1,0,0,0,0,2,90]),(28,[0,3,1,0,0,0,0,2]),(27,[0,3,1,0,0,0,0,2,82]),(25,[0,3,1,0,0,0,0,2,74]),(24,[0,3,1,0,0,0,0,2]),(23,[0,3,1,0,0,0,0]),(22,[0,3,1,0,1,0,0]),(19,[0,3,1,0,0,0,0,0,0]),(21,[0,3,1,0,0,0,0,0,0]),(20,[0,3,1,0,0,0,0,0,0,56]),(18,[0,3,1,0,0,0,0,0,0,48]),(17,[0,3,1,0,0,0,0,0,0]),(16,[0,3,1,0,0,0,0,0]),(15,[0,3,1,0,0,0,0,46]),(14,[0,3,1,0,0,0,0]),(13,[0,3,1,0]),(12,[0,3,1,0,42]),(11,[0,3,1,0]),(6,[0,3,0]),(10,[0,3,0]),(9,[0,3,0,30]),(8,[2,0]),(7,[0,3,0,25]),(5,[0,3,0,17]),(4,[0,3,0]),(3,[0,3]),(2,[2,0]),(1,[0,18]),(0,[0])]) [89,90,91,92] (A4 [(2,[4]),(3,[0,3,1,0,0,0,0]),(6,[0,3,1,0,0,0,0]),(7,[0,3,1,0,0,0,0,2]),(8,[0,3,1,0,0,0,3,0]),(9,[0,3,1,0,0,0,0,2,0,0]),(4,[0,3,1,0,0,0,0,0]),(5,[0,3,1,0,0,0,0,0,0]),(0,[0,3]),(1,[0,3,0])]) (some [2,0]) [] [] []
noncomputable def U0{R:Type}(L n:Nat)(c b:Bool)(a:LL)(d:Int)(e:LL)(f:LL->Option R)(g:Bool->Bool->LL->LL->Option R):Option R:=match n with|0=>none|n+1=>cond (ltI d (a.length:Int)) (cond (inR d a.length) (cond (okE Lc a (j0 d) 0) (vl (gE a (j0 d) 0) λh=>cond (not (ptI h)) (f e) (cond (inR d a.length) (cond (okE Lc a (j0 d) 0) (vl (gE a (j0 d) 0) λi=>cond (ltI i 128) (cond (inR d a.length) (cond (okE Lc a (j0 d) 0) (vl (gE a (j0 d) 0) λj=>cond (F8 (e.length+1)) (U0 L n c b a (A1 (d+1)) (e++[[(SV.int .u8 (wu8 j))]]) f g) none) none) none) (U0 L n c b a (A1 (d+1)) e f g)) none) none)) none) none) (g c b a e)
theorem A09(n b a c i3 l4):E7 1 ((N0 L).keep 5) (bd (N0 L) Q Y (cd [1,1,1,0,1,0,0] Bu)) n ⟨gp [(0,.s (.sl b a 1 c)),(3,.fl 0),(0,pI i3)] 148,[.arr true 5 1 l4],s⟩ k =
 U0 L n b a c i3 l4 (λe=>k .ret ⟨gp [(2,pS ([]:List UInt8)),(0,pI (2:Int))] 150,[.arr true 5 1 e],s⟩) (λb a c f=>k (.exit 0) ⟨gp [(0,.s (.sl b a 1 c)),(3,.fl 0)] 149,[.arr true 5 1 f],s⟩):=by
 induction n generalizing b a c i3 l4 with
 | zero=>rfl
 | succ n d=>rw[U0];simp only[<-d];kernel_rfl
noncomputable def Iy{R:Type}(L n:Nat)(c b:Bool)(a:LL)(h e o f g d i:Int)(l10:LL)(p:Bool->Bool->LL->Int->Int->Int->Int->Int->Int->LL->Option R):Option R:=match n with|0=>none|n+1=>cond (ltI i (a.length:Int)) (cond (inR i a.length) (cond (okE Lc a (j0 i) 0) (vl (gE a (j0 i) 0) λl=>cond (not (ltI l o)) (cond (inR i a.length) (cond (okE Lc a (j0 i) 0) (vl (gE a (j0 i) 0) λj=>vl (if (j<d) then j else d) λm=>Iy L n c b a h e o f g m (A1 (i+1)) l10 p) none) none) (Iy L n c b a h e o f g d (A1 (i+1)) l10 p)) none) none) (p c b a h e o f g d l10)
theorem A10(n b a c h d i e g f i9 l10):E7 1 ((N0 L).keep 18) (bd (N0 L) Q Y (cd [1,1,1,1,1,1,1,0,0,0,1,0,1,0,1,0,0] Bu)) n ⟨gp [(0,.s (.sl b a 1 c)),(3,.fl 0),(1,pI h),(0,pI d),(0,pI i),(0,pI e),(0,pI g),(0,pI f),(0,pI i9)] 141,[.arr true 5 1 l10],s⟩ k =
 Iy L n b a c h d i e g f i9 l10 (λb a c h d i e g f l=>k (.exit 4) ⟨gp [(0,.s (.sl b a 1 c)),(3,.fl 0),(1,pI h),(0,pI d),(0,pI i),(0,pI e),(0,pI g),(0,pI f)] 142,[.arr true 5 1 l],s⟩):=by
 induction n generalizing b a c h d i e g f i9 l10 with
 | zero=>rfl
 | succ n j=>rw[Iy];simp only[<-j];kernel_rfl
noncomputable def Fl{R:Type}(L n:Nat)(c b:Bool)(f:LL)(i g w h a i8 u e:Int)(o:LL)(v:Bool->Bool->LL->Int->Int->Int->Int->Int->Int->LL->Option R):Option R:=match n with|0=>none|n+1=>cond (ltN e 10000000000) (cond (ltN a 1000000) (vl (L6 (ae2 (36:Int) e) a) λp=>cond (not (ltI u p)) (cond (ltN e 10000000000) (cond (ltN a 1000000) (vl (L6 (ae2 (36:Int) e) a) λd=>vl (A1 ((36:Int)-d)) λj=>cond (j !=0) (vl (w8 (A1 (u-d)) j) λl=>cond (ltN (A1 (d+l)) 36) (vl (↑(ag3 (Ah (j0 (A1 (d+l))))):Int) λq=>cond (F8 (o.length+1)) (vl (A1 ((36:Int)-d)) λm=>cond (m !=0) (vl (A1 (x6 (A1 (u-d)) m)) λr=>vl (A1 (e+1)) λt=>Fl L n c b f i g w h a i8 r t (o++[[(SV.int .u8 q)]]) v) none) none) none) none) none) none) (v c b f i g w h i8 u o)) none) none
theorem JA(n b a c f d g e bias7 i8 q9 kk10 l11):E7 1 ((N0 L).keep 32) (bd (N0 L) Q Y (cd [1,1,1,1,1,1,1,0,0,0,1,0,1,1,1,1,0,1,0,0,1,0,0,1,1,1,1,0,0,0] Bu)) n ⟨gp [(0,.s (.sl b a 1 c)),(3,.fl 0),(1,pI f),(0,pI d),(0,pI g),(0,pI e),(0,pI bias7),(2,pI i8),(0,pI q9),(0,pI kk10)] 138,[.arr true 5 1 l11],s⟩ k =
 Fl L n b a c f d g e bias7 i8 q9 kk10 l11 (λb a c f d g e h l j=>k (.exit 8) ⟨gp [(0,.s (.sl b a 1 c)),(3,.fl 0),(1,pI f),(0,pI d),(0,pI g),(0,pI e),(3,pI h),(0,pI l)] 139,[.arr true 5 1 j],s⟩):=by
 induction n generalizing b a c f d g e bias7 i8 q9 kk10 l11 with
 | zero=>rfl
 | succ n i=>rw[Fl];simp only[<-i];kernel_rfl
noncomputable def Aq{R:Type}(L n:Nat)(c b:Bool)(a:LL)(i d B e f i8:Int)(I:LL)(H:Bool->Bool->LL->Int->Int->Int->Int->Int->LL->Option R):Option R:=match n with|0=>none|n+1=>cond (ltI i8 (a.length:Int)) (cond (inR i8 a.length) (cond (okE Lc a (j0 i8) 0) (vl (gE a (j0 i8) 0) λJ=>cond (ltI J B) (vl (A1 (e+1)) λw=>cond (inR i8 a.length) (cond (okE Lc a (j0 i8) 0) (vl (gE a (j0 i8) 0) λK=>cond (K !=B) (Aq L n c b a i d B w f (A1 (i8+1)) I H) (Fl L L c b a i d B w f i8 w 0 I (λr p u g j N m F C z=>cond (ltN C 36) (vl (↑(ag3 (Ah (j0 C))):Int) λO=>cond (F8 (z.length+1)) (vl (A1 (g+1)) λx=>cond (ltN m 1152921504606846976) (cond (ltN x 1000000) (cond (ltI 0 x) (vl (↑(P9 (j0 m) (j0 x) (g==j)):Int) λP=>vl (A1 (g+1)) λS=>vl (A1 (F+1)) λT=>Aq L n r p u S j N 0 P T (z++[[(SV.int .u8 O)]]) H) none) none) none) none) none))) none) none) (cond (inR i8 a.length) (cond (okE Lc a (j0 i8) 0) (vl (gE a (j0 i8) 0) λM=>cond (M !=B) (Aq L n c b a i d B e f (A1 (i8+1)) I H) (Fl L L c b a i d B e f i8 e 0 I (λt q v h l U o G D A=>cond (ltN D 36) (vl (↑(ag3 (Ah (j0 D))):Int) λV=>cond (F8 (A.length+1)) (vl (A1 (h+1)) λy=>cond (ltN o 1152921504606846976) (cond (ltN y 1000000) (cond (ltI 0 y) (vl (↑(P9 (j0 o) (j0 y) (h==l)):Int) λX=>vl (A1 (h+1)) λZ=>vl (A1 (G+1)) λa0=>Aq L n t q v Z l U 0 X a0 (A++[[(SV.int .u8 V)]]) H) none) none) none) none) none))) none) none)) none) none) (H c b a i d B e f I)
theorem A11(n b a c g d t e f i8 l9):E7 1 ((N0 L).keep 25) (bd (N0 L) Q Y (cd [1,1,1,1,1,1,1,0,0,0,1,0,1,1,1,1,0,1,0,0] Bu)) n ⟨gp [(0,.s (.sl b a 1 c)),(3,.fl 0),(1,pI g),(0,pI d),(0,pI t),(0,pI e),(0,pI f),(2,pI i8)] 140,[.arr true 5 1 l9],s⟩ k =
 Aq L n b a c g d t e f i8 l9 (λb a c g d t e f l8=>k (.exit 6) ⟨gp [(0,.s (.sl b a 1 c)),(3,.fl 0),(1,pI g),(0,pI d),(0,pI t),(0,pI e),(0,pI f)] 143,[.arr true 5 1 l8],s⟩):=by
 induction n generalizing b a c g d t e f i8 l9 with
 | zero=>rfl
 | succ n M=>rw[Aq];exact let N:=(F9 8 (G6 (N0 L) Q Y (cd [1,1,1,1,1,1,1,0,0,0,1,0,1,1,1,1,0,1,0,0,1,0,0,1,1,1,1,1] Bu) (F9 7 (G6 (N0 L) Q Y (cd [1,1,1,1,1,1,1,0,0,0,1,0,1,1,1,1,0,1,0,0,1,1] Bu) (lpK 1 ((N0 L).keep 25) (bd (N0 L) Q Y (cd [1,1,1,1,1,1,1,0,0,0,1,0,1,1,1,1,0,1,0,0] Bu)) n k)))));(j1 (by kernel_rfl) (A0 (A0 (A0 (A7 λS=>(A0 (A7 λr=>(A0 (A0 (A7 λT=>(A0 (M b a c g d t r f (A1 (i8+1)) l9) ((JA L Q Y s N L b a c g d t r f i8 r 0 l9).trans (congr rfl (Co8 λj h m w p A u O Z y=>(j1 (by kernel_rfl) (A0 (A7 λB=>(A0 (A7 λV=>(A0 (A0 (A0 (A7 λC=>(A7 λD=>(A7 λF=>(M j h m D p A 0 C F (y++[[(SV.int .u8 B)]]))))) rfl) rfl) rfl)) rfl)) rfl))))))) rfl) rfl)) (A0 (A0 (A7 λU=>(A0 (M b a c g d t e f (A1 (i8+1)) l9) ((JA L Q Y s N L b a c g d t e f i8 e 0 l9).trans (congr rfl (Co8 λl i o x q G v P a0 z=>(j1 (by kernel_rfl) (A0 (A7 λH=>(A0 (A7 λX=>(A0 (A0 (A0 (A7 λI=>(A7 λJ=>(A7 λK=>(M l i o J q G 0 I K (z++[[(SV.int .u8 H)]]))))) rfl) rfl) rfl)) rfl)) rfl))))))) rfl) rfl))) rfl) rfl) rfl))
noncomputable def Fm{R:Type}(L n:Nat)(l j:Bool)(g:LL)(v w K x y:Int)(J:LL)(I:LL->Option R):Option R:=match n with|0=>none|n+1=>cond (ltI v (g.length:Int)) (Iy L L l j g v w K x y 1073741824 0 J (λd b h f m B p r a z=>vl (A1 (f+1)) λC=>vl (A1 ((A1 (a-B))*C)) λD=>Aq L L d b h f m a (A1 (p+D)) r 0 z (λe c i u o F q t A=>vl (A1 (q+1)) λG=>vl (A1 (F+1)) λH=>Fm L n e c i u o H G t A I))) (I J)
theorem JB(n points_z0 points_t1 points2 done3 basic4 n5 delta6 bias7 l8):E7 1 ((N0 L).keep 15) (bd (N0 L) Q Y (cd [1,1,1,1,1,1,1,0,0,0] Bu)) n ⟨gp [(0,.s (.sl points_z0 points_t1 1 points2)),(3,.fl 0),(1,pI done3),(0,pI basic4),(0,pI n5),(0,pI delta6),(0,pI bias7)] 143,[.arr true 5 1 l8],s⟩ k =
 Fm L n points_z0 points_t1 points2 done3 basic4 n5 delta6 bias7 l8 (λB=>k (.exit 2) ⟨gp [(4,.fl 0)] 149,[.arr true 5 1 B],s⟩):=by
 induction n generalizing points_z0 points_t1 points2 done3 basic4 n5 delta6 bias7 l8 with
 | zero=>rfl
 | succ n A=>rw[Fm];exact(j1 (by kernel_rfl) (A0 ((A10 L Q Y s (F9 4 (G6 (N0 L) Q Y (cd [1,1,1,1,1,1,1,0,0,0,1,0,1,1] Bu) (F9 3 (lpK 1 ((N0 L).keep 15) (bd (N0 L) Q Y (cd [1,1,1,1,1,1,1,0,0,0] Bu)) n k)))) L points_z0 points_t1 points2 done3 basic4 n5 delta6 bias7 1073741824 0 l8).trans (congr rfl (Co8 λc a e o g x i l j r=>(j1 (by kernel_rfl) (A7 λy=>(A7 λu=>((A11 L Q Y s (F9 6 (G6 (N0 L) Q Y (cd [1,1,1,1,1,1,1,0,0,0,1,0,1,1,1,1,1] Bu) (F9 3 (lpK 1 ((N0 L).keep 15) (bd (N0 L) Q Y (cd [1,1,1,1,1,1,1,0,0,0] Bu)) n k)))) L c a e o g j (A1 (i+u)) l 0 r).trans (congr rfl (fx9 λd b f p h z q m t=>(j1 (by kernel_rfl) (A7 λv=>(A7 λw=>(A d b f p h w v m t))))))))))))) rfl))
noncomputable def Ae9{R:Type}(L:Nat)(f e:Bool)(d:LL)(o:Unit->Option R)(m:By->Int->LL->Option R):Option R:=cond (ltI 256 (d.length:Int)) (o ()) (U0 L L f e d 0 [] (λn=>m ([]:List UInt8) 2 n) (λb a c g=>vl (g.length:Int) λl=>vl (g.length:Int) λj=>cond (ltI 0 j) (cond (F8 (g.length+1)) (Fm L L b a c l j 128 0 72 (g++[[(SV.int .u8 (45:Int))]]) (λh=>cond (z7 h Td) (m (w9 Rf h) 0 h) none)) none) (Fm L L b a c l j 128 0 72 g (λi=>cond (z7 i Td) (m (w9 Rf i) 0 i) none))))
theorem Cv4(d:Nat)(points_z0 points_t1 points2):evC (N0 L) (d+1) W Y 54 [.s (.sl points_z0 points_t1 1 points2)] [] s=Ae9 L points_z0 points_t1 points2 (λ_=>some (.tup [pS ([]:List UInt8),pI (3:Int)],[],s)) (λj l i=>some (.tup [pS j,pI l],[.arr true 5 1 i],s)):=by refine(evE (fn:=ah0) (by kernel_rfl)).trans ?_;generalize evC (N0 L) d=Q;unfold Ae9;exact let h:=(F9 2 (G6 (N0 L) Q Y (cd [1,1,1,1,1,1,1,1] Bu) (I1 (N0 L) ah0)));(j1 (by kernel_rfl) (A0 rfl ((A09 L Q Y s (F9 0 (G6 (N0 L) Q Y (cd [1,1,1,1] Bu) (I1 (N0 L) ah0))) L points_z0 points_t1 points2 0 []).trans (congr (congr rfl (by kernel_rfl)) (fx4 λb a c g=>(j1 (by kernel_rfl) (A7 λe=>(A7 λf=>(A0 (A0 ((JB L Q Y s h L b a c e f 128 0 72 (g++[[(SV.int .u8 (45:Int))]])).trans (by kernel_rfl)) rfl) ((JB L Q Y s h L b a c e f 128 0 72 g).trans (by kernel_rfl)))))))))))
noncomputable abbrev Z0:Code:=E0 ae6
noncomputable def K3(L:Nat):Cfg:=C8 L [124] (A4 [(27,[0,1,0,2,1,0,0,0,0,0,0,0]),(23,[0,1,0,2,1,0,0,0,0]),(13,[0,1,0,0,1,0]),(5,[0,1,0,0,0])]) [(151,B06),(90,Am2),(92,EP),(89,EY)] (A4 [(51,[2,0]),(50,[0,5,1,0,0,0,0]),(49,[2,0]),(48,[0,5,1,0,0,0,0,118]),(47,[0,5,1,0,0,0,0]),(46,[2,0]),(45,[0,5,1,0,0,0,0,103]),(44,[0,5,1,0,0,0,0]),(43,[0,5,1,0,0,0,0]),(42,[0,5,1,0,0,0,0]),(41,[0,5,1,0,0,0]),(26,[0,5,1,0,0,0,0,0,0,0]),(40,[2,0]),(39,[0,5,1,0,0,0,0,0,0,0,77]),(38,[0,5,1,0,0,0,0,0,0,0]),(37,[0,5,1,0,0,0,0,0,0,0,1,69]),(36,[0,5,1,0,0,0,0,0,0,0,0,0]),(35,[2,0]),(34,[0,5,1,0,0,0,0,0,0,0,0,64]),(33,[0,5,1,0,0,0,0,0,0,0,0]),(32,[2,0]),(31,[0,5,1,0,0,0,0,0,0,0,0,57]),(30,[0,5,1,0,0,0,0,0,0,0,0]),(29,[0,5,1,0,0,0,0,0,0,0,0]),(28,[2,0]),(27,[0,5,1,0,0,0,0,0,0,0,50]),(25,[0,5,1,0,0,0,0,0,0,0]),(24,[0,5,1,0,0,0,0,0,0]),(23,[0,5,1,0,0,0,0,46]),(22,[0,5,1,0,0,0,0]),(21,[0,5,1,0,0,0]),(20,[0,5,1]),(19,[0,5,1,44]),(18,[0,3,1,1]),(17,[2,0]),(16,[0,3,1,43]),(14,[0,3,1,0]),(15,[0,3,1,0]),(13,[0,3,1,0,30]),(12,[0,3,1,0]),(11,[0,3,1]),(6,[0,3,0]),(10,[0,3,0]),(9,[0,3,0,28]),(8,[2,0]),(7,[0,3,0,24]),(5,[0,3,0,18]),(4,[0,3,0]),(3,[0,3]),(2,[2,0]),(1,[0,19]),(0,[0])]) [151,90,92,89] (A4 [(4,[6]),(5,[0,5,1,0,0,0,0]),(6,[0,5,1,0,0,1,0]),(7,[0,5,1,0,0,0,0,0,0,0]),(2,[0,3,1]),(3,[0,3,1,0]),(0,[0,3]),(1,[0,3,0])]) (some [2,0]) [] [] [] (rw:=[(47,6)])
noncomputable def Ef{R:Type}(L n:Nat)(c:By)(a b:Int)(d:Unit->Option R)(e:By->Int->Option R):Option R:=match n with|0=>none|n+1=>cond (ltI b (c.length:Int)) (cond (inR b c.length) (cond (not (ltI (bAt c b) (128:Int))) (d ()) (cond (inR b c.length) (cond ((bAt c b)==45) (Ef L n c b (A1 (b+1)) d e) (Ef L n c a (A1 (b+1)) d e)) none)) none) (e c a)
theorem Af6(n b a i2):E7 0 ((K3 L).keep 5) (bd (K3 L) Q Y (cd [1,1,1,0,1,0,0] Z0)) n ⟨gp [(0,pS b),(3,pI a),(0,pI i2)] 129,[],s⟩ k =
 Ef L n b a i2 (λ_=>k .ret ⟨gp [(2,.fl 0),(0,pI (4:Int))] 131,[.arr true 3 1 []],s⟩) (λb a=>k (.exit 0) ⟨gp [(0,pS b),(3,pI a)] 130,[],s⟩):=by
 induction n generalizing b a i2 with
 | zero=>rfl
 | succ n c=>rw[Ef];simp only[<-c];kernel_rfl
noncomputable def Hr{R:Type}(L n:Nat)(c:By)(a b:Int)(d:LL)(e:By->Int->LL->Option R):Option R:=match n with|0=>none|n+1=>cond (ltI b a) (cond (inR b c.length) (cond (F8 (d.length+1)) (Hr L n c a (A1 (b+1)) (d++[[(SV.int .i64 (A1 (bAt c b)))]]) e) none) none) (e c a d)
theorem Af7(n b a i2 l3):E7 1 ((K3 L).keep 13) (bd (K3 L) Q Y (cd [1,1,1,1,1,0,1,0,0] Z0)) n ⟨gp [(0,pS b),(3,pI a),(1,.fl 0),(0,pI i2)] 127,[.arr true 3 1 l3],s⟩ k =
 Hr L n b a i2 l3 (λb a d=>k (.exit 2) ⟨gp [(0,pS b),(3,pI a),(1,.fl 0)] 128,[.arr true 3 1 d],s⟩):=by
 induction n generalizing b a i2 l3 with
 | zero=>rfl
 | succ n c=>rw[Hr];simp only[<-c];kernel_rfl
noncomputable def U8{R:Type}(L n:Nat)(l:By)(g:LL)(b q r a f o h:Int)(j:LL)(m:Int->LL->Option R)(p:By->LL->Int->Int->Int->Int->LL->Option R):Option R:=match n with|0=>none|n+1=>cond (not (ltI b (l.length:Int))) (m 4 j) (cond (inR b l.length) (cond (inR (bAt l b) 256) (vl (E3 (u8n (bAt l b))) λi=>cond (ltI i 0) (m 4 j) (vl (A1 (r+(A1 (i*o)))) λc=>cond (ltI 1099511627776 c) (m 19 j) (cond (ltN h 10000000000) (cond (ltN a 1000000) (vl (L6 (ae2 (36:Int) h) a) λd=>cond (ltI i d) (p l g (A1 (b+1)) q c f j) (vl (A1 ((36:Int)-d)) λe=>cond (ltI 1099511627776 (A1 (o*e))) (m 19 j) (U8 L n l g (A1 (b+1)) q c a f (A1 (o*e)) (A1 (h+1)) j m p))) none) none))) none) none)
theorem Af8(n f a b d c bias5 old6 w7 kk8 l9):E7 1 ((K3 L).keep 27) (bd (K3 L) Q Y (cd [1,1,1,1,1,1,1,1,1,1,1,0,0,0,1,0,1,0,1,0,0] Z0)) n ⟨gp [(0,pS f),(5,.s (.sl false false 1 a)),(1,pI b),(0,pI d),(0,pI c),(0,pI bias5),(0,pB false),(0,pI old6),(0,pI w7),(0,pI kk8)] 119,[.arr true 3 1 l9],s⟩ k =
 U8 L n f a b d c bias5 old6 w7 kk8 l9 (λn0 h=>k .ret ⟨gp [(2,.fl 1),(0,pI n0)] 131,[.arr true 3 1 h,.arr true 3 1 []],s⟩) (λf a b d c e i=>k (.exit 6) ⟨gp [(0,pS f),(5,.s (.sl false false 1 a)),(1,pI b),(0,pI d),(0,pI c),(1,pB false),(0,pI e)] 121,[.arr true 3 1 i],s⟩):=by
 induction n generalizing f a b d c bias5 old6 w7 kk8 l9 with
 | zero=>rfl
 | succ n g=>rw[U8];simp only[<-g];kernel_rfl
noncomputable def O7{R:Type}(L n:Nat)(C:By)(m:LL)(q D y p:Int)(B:LL)(x:Int->LL->Option R)(z:LL->LL->Option R)(A:LL->LL->Option R):Option R:=match n with|0=>none|n+1=>cond (ltI q (C.length:Int)) (U8 L L C m q D y p y 1 0 B (λt r=>x t r) (λw a o d b h i=>vl (A1 ((a.length:Int)+1)) λj=>cond (ltN (A1 (b-h)) 1152921504606846976) (cond (ltN j 1000000) (cond (ltI 0 j) (vl (↑(P9 (j0 (A1 (b-h))) (j0 j) false):Int) λu=>vl (A1 ((a.length:Int)+1)) λl=>cond (l !=0) (vl (A1 (x6 b l)) λe=>vl (A1 ((a.length:Int)+1)) λf=>cond (f !=0) (cond (not (ptI (A1 (d+e)))) (x 2 i) (cond (K5 0 (w8 b f) a.length) (vl (cut a 0 (w8 b f)) λc=>cond (K5 (w8 b f) (a.length:Int) a.length) (vl (cut a (w8 b f) (a.length:Int)) λg=>cond (F8 (0+c.length)) (cond (F8 (c.length+1)) (cond (F8 ((y5 (c++[[(SV.int .i64 (A1 (d+e)))]]))+g.length)) (cond (ltI 256 (↑(y5 ((c++[[(SV.int .i64 (A1 (d+e)))]])++g)):Int)) (z i ((c++[[(SV.int .i64 (A1 (d+e)))]])++g)) (vl (A1 ((w8 b f)+1)) λv=>O7 L n w ((c++[[(SV.int .i64 (A1 (d+e)))]])++g) o (A1 (d+e)) v u i x z A)) none) none) none) none) none)) none) none) none) none) none)) (A m B)
theorem Af9(n s0 out1 at2 n3 i4 bias5 l6):E7 1 ((K3 L).keep 23) (bd (K3 L) Q Y (cd [1,1,1,1,1,1,1,1,1,1,1,0,0,0] Z0)) n ⟨gp [(0,pS s0),(5,.s (.sl false false 1 out1)),(1,pI at2),(0,pI n3),(0,pI i4),(0,pI bias5),(0,pB false)] 122,[.arr true 3 1 l6],s⟩ k =
 O7 L n s0 out1 at2 n3 i4 bias5 l6 (λn0 g=>k .ret ⟨gp [(2,.fl 1),(0,pI n0)] 131,[.arr true 3 1 g,.arr true 3 1 []],s⟩) (λv g=>k .ret ⟨gp [(2,.fl 2),(0,pI (3:Int))] 131,[.arr true 3 1 v,.arr false 3 1 g,.arr true 3 1 []],s⟩) (λj g=>k (.exit 4) ⟨gp [(6,.s (.sl false false 1 j))] 128,[.arr true 3 1 g],s⟩):=by
 induction n generalizing s0 out1 at2 n3 i4 bias5 l6 with
 | zero=>rfl
 | succ n u=>rw[O7];exact(j1 (by kernel_rfl) (A0 ((Af8 L Q Y s (F9 6 (G6 (K3 L) Q Y (cd [1,1,1,1,1,1,1,1,1,1,1,0,0,0,1,0,1,1] Z0) (F9 5 (lpK 1 ((K3 L).keep 23) (bd (K3 L) Q Y (cd [1,1,1,1,1,1,1,1,1,1,1,0,0,0] Z0)) n k)))) L s0 out1 at2 n3 i4 bias5 i4 1 0 l6).trans (congr (congr rfl (by kernel_rfl)) (fx7 λl o c a p m d=>(j1 (by kernel_rfl) (A7 λq=>(A0 (A0 (A0 (A7 λh=>(A7 λr=>(A0 (A7 λb=>(A7 λt=>(A0 (A0 rfl (A0 (A7 λe=>(A0 (A7 λf=>(A0 (A0 (A0 (A0 rfl (A7 λi=>(u l ((e++[[(SV.int .i64 (A1 (a+b)))]])++f) c (A1 (a+b)) i h d))) rfl) rfl) rfl)) rfl)) rfl)) rfl))) rfl))) rfl) rfl) rfl)))))) rfl))
noncomputable def U9{R:Type}(L n:Nat)(h:By)(a m j f:Int)(g:LL)(i:Int->LL->Option R)(l:By->Int->Int->LL->Option R):Option R:=match n with|0=>none|n+1=>cond (not (ltI a (h.length:Int))) (i 4 g) (cond (inR a h.length) (cond (inR (bAt h a) 256) (vl (E3 (u8n (bAt h a))) λb=>cond (ltI b 0) (i 4 g) (vl (A1 (m+(A1 (b*j)))) λc=>cond (ltI 1099511627776 c) (i 19 g) (cond (ltN f 10000000000) (cond (ltN 72 1000000) (vl (L6 (ae2 (36:Int) f) (72:Int)) λd=>cond (ltI b d) (l h (A1 (a+1)) c g) (vl (A1 ((36:Int)-d)) λe=>cond (ltI 1099511627776 (A1 (j*e))) (i 19 g) (U9 L n h (A1 (a+1)) c (A1 (j*e)) (A1 (f+1)) g i l))) none) none))) none) none)
theorem Ag0(n c a b w3 kk4 l5):E7 1 ((K3 L).keep 27) (bd (K3 L) Q Y (cd [1,1,1,1,1,1,1,1,1,1,1,0,0,0,1,0,1,0,1,0,0] Z0)) n ⟨gp [(0,pS c),(5,.fl 0),(1,pI a),(0,pI (128:Int)),(0,pI b),(0,pI (72:Int)),(0,pB true),(0,pI (0:Int)),(0,pI w3),(0,pI kk4)] 119,[.arr true 3 1 l5],s⟩ k =
 U9 L n c a b w3 kk4 l5 (λn0 e=>k .ret ⟨gp [(2,.fl 1),(0,pI n0)] 131,[.arr true 3 1 e,.arr true 3 1 []],s⟩) (λc a b f=>k (.exit 6) ⟨gp [(0,pS c),(5,.fl 0),(1,pI a),(0,pI (128:Int)),(0,pI b),(1,pB true),(0,pI (0:Int))] 121,[.arr true 3 1 f],s⟩):=by
 induction n generalizing c a b w3 kk4 l5 with
 | zero=>rfl
 | succ n d=>rw[U9];simp only[<-d];kernel_rfl
noncomputable def L3{R:Type}(L n:Nat)(D:By)(m:Int)(C:LL)(A:Int->LL->Option R)(B:LL->LL->Option R)(F:LL->LL->Option R)(G:LL->Option R):Option R:=match n with|0=>none|n+1=>cond (ltI m (D.length:Int)) (U9 L L D m 0 1 0 C (λu o=>A u o) (λz l b a=>vl (A1 (b-0)) λi=>vl (A1 ((a.length:Int)+1)) λe=>cond (ltN i 1152921504606846976) (cond (ltN e 1000000) (cond (ltI 0 e) (vl (↑(P9 (j0 i) (j0 e) true):Int) λv=>vl (A1 ((a.length:Int)+1)) λj=>cond (j !=0) (vl (A1 (x6 b j)) λw=>vl (A1 ((128:Int)+w)) λf=>vl (A1 ((a.length:Int)+1)) λc=>cond (c !=0) (cond (not (ptI f)) (A 2 a) (cond (K5 0 (w8 b c) a.length) (cond (K5 (w8 b c) (a.length:Int) a.length) (cond (F8 (0+(y5 (ae4 ((j0 (w8 b c))-0) (ae3 0 a))))) (cond (F8 ((y5 (ae4 ((j0 (w8 b c))-0) (ae3 0 a)))+1)) (vl ((ae4 ((j0 (w8 b c))-0) (ae3 0 a))++[[(SV.int .i64 f)]]) λh=>cond (F8 (h.length+(y5 (ae4 ((j0 (a.length:Int))-(j0 (w8 b c))) (ae3 (j0 (w8 b c)) a))))) (vl (h++(ae4 ((j0 (a.length:Int))-(j0 (w8 b c))) (ae3 (j0 (w8 b c)) a))) λd=>cond (ltI 256 (d.length:Int)) (B a d) (vl (A1 ((w8 b c)+1)) λx=>O7 L n z d l f x v a (λy p=>A y p) (λq r=>B q r) (λg t=>F g t))) none) none) none) none) none)) none) none) none) none) none)) (G C)
theorem BP(n s0 at1 l2):E7 1 ((K3 L).keep 23) (bd (K3 L) Q Y (cd [1,1,1,1,1,1,1,1,1,1,1,0,0,0] Z0)) n ⟨gp [(0,pS s0),(5,.fl 0),(1,pI at1),(0,pI (128:Int)),(0,pI (0:Int)),(0,pI (72:Int)),(0,pB true)] 122,[.arr true 3 1 l2],s⟩ k =
 L3 L n s0 at1 l2 (λn0 d=>k .ret ⟨gp [(2,.fl 1),(0,pI n0)] 131,[.arr true 3 1 d,.arr true 3 1 []],s⟩) (λl d=>k .ret ⟨gp [(2,.fl 2),(0,pI (3:Int))] 131,[.arr true 3 1 l,.arr false 3 1 d,.arr true 3 1 []],s⟩) (λh d=>k (.exit 4) ⟨gp [(6,.s (.sl false false 1 h))] 128,[.arr true 3 1 d],s⟩) (λl=>k (.exit 4) ⟨gp [(6,.fl 0)] 128,[.arr true 3 1 l],s⟩):=by
 induction n generalizing s0 at1 l2 with
 | zero=>rfl
 | succ n A=>rw[L3];exact(j1 (by kernel_rfl) (A0 ((Ag0 L Q Y s (F9 6 (G6 (K3 L) Q Y (cd [1,1,1,1,1,1,1,1,1,1,1,0,0,0,1,0,1,1] Z0) (F9 5 (lpK 1 ((K3 L).keep 23) (bd (K3 L) Q Y (cd [1,1,1,1,1,1,1,1,1,1,1,0,0,0] Z0)) n k)))) L s0 at1 0 1 0 l2).trans (congr (congr rfl (by kernel_rfl)) (fx4 λi a m b=>(j1 (by kernel_rfl) (A7 λu=>(A7 λv=>(A0 (A0 (A0 (A7 λe=>(A7 λw=>(A0 (A7 λx=>(A7 λf=>(A7 λy=>(A0 (A0 rfl (A0 (A0 (A0 (A0 (A7 λo=>(A0 (A7 λc=>(A0 rfl (A7 λg=>((Af9 L Q Y s k n i c a f g e b).trans (congr (congr (congr rfl (fx2 λz p=>rfl)) (fx2 λq r=>rfl)) (fx2 λj t=>rfl)))))) rfl)) rfl) rfl) rfl) rfl)) rfl)))) rfl))) rfl) rfl) rfl))))))) rfl))
noncomputable def Bg5{R:Type}(L:Nat)(A:By)(u:Int->LL->Option R)(v:Int->LL->Option R)(y:LL->LL->Option R)(z:LL->LL->Option R):Option R:=cond (ltI 1024 (A.length:Int)) (u 3 []) (Ef L L A 0 0 (λ_=>u 4 []) (λx e=>Hr L L x e 0 [] (λt a b=>cond (ltI 256 (b.length:Int)) (v 3 b) (cond (ltI 0 a) (vl (A1 (a+1)) λw=>L3 L L t w b (λq f=>v q f) (λg h=>y g h) (λc i=>z c i) (λj=>u 0 j)) (L3 L L t a b (λr l=>v r l) (λm n=>y m n) (λd o=>z d o) (λp=>u 0 p))))))
theorem Cc6(d:Nat)(s0):evC (K3 L) (d+1) W Y 124 [pS s0] [] s=Bg5 L s0 (λf c=>some (.tup [.fl 0,pI f],[.arr true 3 1 c],s)) (λf c=>some (.tup [.fl 1,pI f],[.arr true 3 1 c,.arr true 3 1 []],s)) (λl c=>some (.tup [.fl 2,pI (3:Int)],[.arr true 3 1 l,.arr false 3 1 c,.arr true 3 1 []],s)) (λf c=>some (.tup [.s (.sl false false 1 f),pI (0:Int)],[.arr true 3 1 c],s)):=by refine(evE (fn:=ae6) (by kernel_rfl)).trans ?_;generalize evC (K3 L) d=Q;unfold Bg5;exact let j:=(F9 4 (G6 (K3 L) Q Y (cd [1,1,1,1,1,1,1,1,1,1,1,1] Z0) (I1 (K3 L) ae6)));(j1 (by kernel_rfl) (A0 rfl ((Af6 L Q Y s (F9 0 (G6 (K3 L) Q Y (cd [1,1,1,1] Z0) (I1 (K3 L) ae6))) L s0 0 0).trans (congr (congr rfl (by kernel_rfl)) (fx2 λi a=>(j1 (by kernel_rfl) ((Af7 L Q Y s (F9 2 (G6 (K3 L) Q Y (cd [1,1,1,1,1,1] Z0) (I1 (K3 L) ae6))) L i a 0 []).trans (congr rfl (fx3 λg b e=>(j1 (by kernel_rfl) (A0 rfl (A0 (A7 λh=>((BP L Q Y s j L g h e).trans (by kernel_rfl))) ((BP L Q Y s j L g b e).trans (by kernel_rfl))))))))))))))
noncomputable def WB{R:Type}(L n:Nat)(d:By)(a e:Int)(c:LL)(b:By->Int->Int->LL->Option R):Option R:=match n with|0=>none|n+1=>b d a e c
noncomputable def WA{R:Type}(L:Nat)(i:By)(g j:Int)(h:LL)(d:LL->Option R)(l:By->Int->LL->Option R):Option R:=vl (A1 ((i.length:Int)-g)) λe=>cond (ltI e 1) (d h) (WB L L i g j h (λf c b a=>cond (ltI b 0) (d a) (cond (not (ptI b)) (d a) (cond (F8 (a.length+1)) (l f (A1 (c+1)) (a++[[(SV.int .i64 b)]])) none))))
noncomputable def Wo{R:Type}(h:By)(e c:Int)(i:Bool)(d:LL)(f:By->Int->Int->Int->Int->LL->Option R)(g:LL->Option R):Option R:=cond i (vl (A1 (c-224)) λa=>f h e 3 a 2048 d) (cond (not (ltI c 240)) (cond (ltI c 245) (vl (A1 (c-240)) λb=>f h e 4 b 65536 d) (g d)) (g d))
noncomputable def Wp{R:Type}(v:By)(r c:Int)(x:Bool)(u:LL)(t:By->Int->Int->Int->Int->LL->Option R)(w:LL->Option R):Option R:=cond x (vl (A1 (c-192)) λj=>t v r 2 j 128 u) (cond (not (ltI c 224)) (Wo v r c (ltI c 240) u (λn d l p a f=>t n d l p a f) (λg=>w g)) (Wo v r c false u (λo e m q b h=>t o e m q b h) (λi=>w i)))
noncomputable def Mq{R:Type}(L n:Nat)(h:By)(f j m a c:Int)(g:LL)(i:LL->Option R)(l:By->Int->Int->Int->Int->LL->Option R):Option R:=match n with|0=>none|n+1=>cond (ltI c j) (cond (inR (A1 (f+c)) h.length) (vl (bAt h (A1 (f+c))) λb=>cond (ltI (A1 b) (128:Int)) (i g) (cond (ltI 191 (A1 b)) (i g) (vl (A1 ((A1 (m*64))+(A1 b))) λd=>vl (A1 (d-128)) λe=>Mq L n h f j e a (A1 (c+1)) g i l))) none) (l h f j m a g)
noncomputable def Ja{R:Type}(L:Nat)(o:By)(l n q d:Int)(m:LL)(j:LL->Option R)(p:By->Int->LL->Option R):Option R:=vl (A1 ((o.length:Int)-l)) λg=>cond (ltI g n) (j m) (Mq L L o l n q d 1 m (λf=>j f) (λi e h c b a=>cond (ltI c b) (j a) (cond (not (ptI c)) (j a) (cond (F8 (a.length+1)) (p i (A1 (e+h)) (a++[[(SV.int .i64 c)]])) none))))
noncomputable def Cg{R:Type}(L n:Nat)(d:By)(c:Int)(D:LL)(e:LL->Option R)(C:LL->Option R):Option R:=match n with|0=>none|n+1=>cond (ltI c (d.length:Int)) (cond (inR c d.length) (cond (ltI (A1 (bAt d c)) (128:Int)) (WA L d c (A1 (bAt d c)) D (λG=>e G) (λI F H=>Cg L n I F H e C)) (cond (not (ltI (A1 (bAt d c)) (194:Int))) (Wp d c (A1 (bAt d c)) (ltI (A1 (bAt d c)) (224:Int)) D (λw f u A a j=>Ja L w f u A a j (λm=>e m) (λx g o=>Cg L n x g o e C)) (λl=>e l)) (Wp d c (A1 (bAt d c)) false D (λy h v B b p=>Ja L y h v B b p (λr=>e r) (λz i t=>Cg L n z i t e C)) (λq=>e q)))) none) (C D)
noncomputable def Di0{R:Type}(L:Nat)(e:By)(c:LL->Option R)(d:LL->Option R):Option R:=Cg L L e 0 [] (λa=>c a) (λb=>d b)
noncomputable abbrev Bc1:Code:=E0 ai2
noncomputable def Lw(L:Nat):Cfg:=C8 L [93] (A4 [(6,[0,1,0,1,0])]) [(124,Ba8),(54,B01)] (A4 [(12,[2]),(11,[0,4,1,0]),(7,[0,2,1,0]),(10,[2]),(9,[0,2,1,0,34]),(8,[0,2,1,0]),(6,[0,2,1,0,12]),(5,[0,2,1,0]),(4,[0,2,1]),(3,[2]),(2,[0,2,11]),(1,[0,2,0]),(0,[0])]) [54] (A4 [(0,[0,2,1]),(1,[0,2,1,0])]) (some [2]) [] [] []
noncomputable def Y3{R:Type}(L n:Nat)(a:By)(d:Bool)(b:LL)(e:Bool)(c:Int)(f:Unit->Option R)(g:By->Bool->LL->Bool->Option R):Option R:=match n with|0=>none|n+1=>cond (ltI c (b.length:Int)) (cond e (cond (inR c b.length) (cond (okE Lc b (j0 c) 0) (cond (not (ltI (gE b (j0 c) 0) (65:Int))) (cond (inR c b.length) (cond (okE Lc b (j0 c) 0) (cond (not (ltI 90 (gE b (j0 c) 0))) (f ()) (Y3 L n a d b true (A1 (c+1)) f g)) none) none) (Y3 L n a d b true (A1 (c+1)) f g)) none) none) (cond (inR c b.length) (cond (okE Lc b (j0 c) 0) (cond (inR c b.length) (cond (okE Lc b (j0 c) 0) (cond (not (ltI (gE b (j0 c) 0) (65:Int))) (cond (inR c b.length) (cond (okE Lc b (j0 c) 0) (cond (not (ltI 90 (gE b (j0 c) 0))) (f ()) (Y3 L n a d b (not (ltI (gE b (j0 c) 0) (128:Int))) (A1 (c+1)) f g)) none) none) (Y3 L n a d b (not (ltI (gE b (j0 c) 0) (128:Int))) (A1 (c+1)) f g)) none) none) none) none)) (g a d b e)
theorem Ag2(n c b d a i4):E7 0 ((Lw L).keep 6) (bd (Lw L) Q Y (cd [1,1,1,1,0,1,0,0] Bc1)) n ⟨gp [(0,pS c),(2,.s (.sl b b 1 d)),(1,pB a),(0,pI i4)] 50,[],s⟩ k =
 Y3 L n c b d a i4 (λ_=>k .ret ⟨gp [(2,pB false)] 54,[],s⟩) (λc b d a=>k (.exit 0) ⟨gp [(0,pS c),(2,.s (.sl b b 1 d)),(1,pB a)] 51,[],s⟩):=by
 induction n generalizing c b d a i4 with
 | zero=>rfl
 | succ n e=>rw[Y3];simp only[<-e];kernel_rfl
noncomputable def Bg6{R:Type}(L:Nat)(a:By)(e:Bool->Option R):Option R:=cond (A3 a.length) (vl (↑((N4 a)).2:Int) λf=>cond (f !=0) (e false) (Y3 L L a (x3 ((N4 a)).1) (Zt ((N4 a)).1) false 0 (λ_=>e false) (λc h d b=>cond (z7 d Ou) (vl ((X7 (w9 elI d))).1 λi=>vl (↑((X7 (w9 elI d))).2:Int) λg=>cond (g==0) (cond (i==c) (e b) (e false)) (e false)) none))) none
theorem Cc8(d:Nat)(rest0):evC (Lw L) (d+1) W Y 93 [pS rest0] [] s=Bg6 L rest0 (λb=>some (pB b,[],s)):=by refine(evE (fn:=ai2) (by kernel_rfl)).trans ?_;generalize evC (Lw L) d=Q;unfold Bg6;exact(j1 (by kernel_rfl) (A0 (A7 λa=>(A0 rfl ((Ag2 L Q Y s (F9 0 (G6 (Lw L) Q Y (cd [1,1,1,1,1] Bc1) (I1 (Lw L) ai2))) L rest0 (x3 ((N4 rest0)).1) (Zt ((N4 rest0)).1) false 0).trans (by kernel_rfl)))) rfl))
noncomputable abbrev Bc0:Code:=E0 ai1
noncomputable def Lv(L:Nat):Cfg:=C8 L [55] (A4 [(4,[0,1,0])]) [(93,Ba9)] (A4 [(9,[2]),(5,[0,2]),(8,[2]),(7,[0,2,52]),(6,[0,2,0]),(4,[0,2,24]),(3,[0,2]),(2,[2]),(1,[0,23]),(0,[0])]) [93] (A4 [(0,[0]),(1,[0,2])]) (some [2]) [] [] []
noncomputable def N8{R:Type}(L n:Nat)(a:By)(b:Int)(c:Unit->Option R)(d:By->Option R):Option R:=match n with|0=>none|n+1=>cond (ltI b (a.length:Int)) (cond (inR b a.length) (cond (not (ltI (bAt a b) (97:Int))) (cond (not (ltI 122 (bAt a b))) (N8 L n a (A1 (b+1)) c d) (cond (not (ltI (bAt a b) (48:Int))) (cond (not (ltI 57 (bAt a b))) (N8 L n a (A1 (b+1)) c d) (cond ((bAt a b)==45) (N8 L n a (A1 (b+1)) c d) (cond (not ((bAt a b)==95)) (c ()) (N8 L n a (A1 (b+1)) c d)))) (cond ((bAt a b)==45) (N8 L n a (A1 (b+1)) c d) (cond (not ((bAt a b)==95)) (c ()) (N8 L n a (A1 (b+1)) c d))))) (cond (not (ltI (bAt a b) (48:Int))) (cond (not (ltI 57 (bAt a b))) (N8 L n a (A1 (b+1)) c d) (cond ((bAt a b)==45) (N8 L n a (A1 (b+1)) c d) (cond (not ((bAt a b)==95)) (c ()) (N8 L n a (A1 (b+1)) c d)))) (cond ((bAt a b)==45) (N8 L n a (A1 (b+1)) c d) (cond (not ((bAt a b)==95)) (c ()) (N8 L n a (A1 (b+1)) c d))))) none) (d a)
theorem Af2(n a i1):E7 0 ((Lv L).keep 4) (bd (Lv L) Q Y (cd [1,1,0,1,0,0] Bc0)) n ⟨gp [(0,pS a),(2,pI i1)] 66,[],s⟩ k =
 N8 L n a i1 (λ_=>k .ret ⟨gp [(2,pB false)] 67,[],s⟩) (λa=>k (.exit 0) ⟨gp [(0,pS a)] 69,[],s⟩):=by
 induction n generalizing a i1 with
 | zero=>rfl
 | succ n b=>rw[N8];simp only[<-b];kernel_rfl
noncomputable def Bg3{R:Type}(L:Nat)(c:By)(b:Bool->Option R):Option R:=cond (c==[]) (b false) (cond (ltI 63 (c.length:Int)) (b false) (cond (inR 0 c.length) (cond ((bAt c (0:Int))==45) (b false) (vl (A1 ((c.length:Int)-1)) λd=>cond (inR d c.length) (cond ((bAt c d)==45) (b false) (N8 L L c 0 (λ_=>b false) (λa=>cond (ltI (a.length:Int) (4:Int)) (b true) (cond (K5 0 (4:Int) a.length) (vl (cut a 0 (4:Int)) λf=>cond (not (f==[120,110,45,45])) (b true) (cond (K5 4 (a.length:Int) a.length) (vl (cut a 4 (a.length:Int)) λe=>cond (A3 e.length) (b (Dn e)) none) none)) none)))) none)) none))
theorem Cc2(d:Nat)(s0):evC (Lv L) (d+1) W Y 55 [pS s0] [] s=Bg3 L s0 (λb=>some (pB b,[],s)):=by refine(evE (fn:=ai1) (by kernel_rfl)).trans ?_;generalize evC (Lv L) d=Q;unfold Bg3;exact(j1 (by kernel_rfl) (A0 rfl (A0 rfl (A0 (A0 rfl (A7 λa=>(A0 (A0 rfl ((Af2 L Q Y s (F9 0 (G6 (Lv L) Q Y (cd [1,1,1] Bc0) (I1 (Lv L) ai1))) L s0 0).trans (by kernel_rfl))) rfl))) rfl))))
end
theorem Ag1{R:Type}{a:Bool->Option R}(n:Int):VZ LF n a=a (ptI n):=by
 unfold VZ;by_cases h:n<0
 ·rw[D1 h];have:ptI n=false:=by
   cases n with
   | ofNat m=>exact absurd h (by simp)
   | negSucc m=>rfl
  grind
 ·obtain⟨m,rfl⟩:=p9 (show 0<=n by omega);rw[A6,Mn];unfold U7;by_cases b:1114111<m
  ·rw[A8];have:ae5 m 1114111=false:=by rw[ac3,ne_eq,ag6];omega
   grind
  ·rw[A6];have:ae5 m 1114111=true:=by rw[ag6];omega
   rw[this];by_cases c:m<55296
   ·rw[A8];have:Nat.blt m 55296=true:=by rw[ag7];omega
    grind
   ·rw[A6];have e:Nat.blt m 55296=false:=by rw[ac3,ne_eq,ag7];omega
    rw[e];simp only[j8,cond_true,cond_false,ac5,x4]
    congr 1
theorem Ae5{R:Type}{k0:Int->Int->Option R}:∀(d n k:Nat),d<2305843009213693952->d<n->k+d<=4611686018427387904->
  ∃a b,a<=455/\b<=k+d/\Yl d k=b+36*a / (a+38)/\Gn LF n (d:Int) (k:Int) k0=k0 (a:Int) (b:Int):=by
 intro d
 induction d using Nat.strongRecOn with
 | _ d l=>
  intro n k p r q;obtain⟨n,rfl⟩:∃m,n=m+1:=⟨n-1,by omega⟩
  rw[Gn];by_cases h:455<d
  ·obtain⟨a,b,g,o,i,j⟩:=l (d / 35) (by omega) n (k+36) (by omega) (by omega) (by omega);refine⟨a,b,g,by omega,by rw[FT h];exact i,?_⟩;have e:x6 (d:Int) 35=((d / 35:Nat):Int):=M3 d 35;have c:A1 ((d / 35:Nat):Int)=((d / 35:Nat):Int):=A5;have f:A1 ((k:Int)+36)=((k+36:Nat):Int):=by rw[A5];rfl
   rw[A8];simp only[cond_true,vl,e,c,f];exact j
  ·refine⟨d,k,by omega,by omega,Se h,?_⟩;rw[A6];rfl
theorem Ae6{R:Type}{k0:Int->Option R}(d c:Int)(f:Bool)(z:ltN d 1152921504606846976=true)(A:ltN c 1000000=true)(B:ltI 0 c=true):IX LF d c f k0=k0 (P9 d.toNat c.toNat f:Nat):=by
 obtain⟨k,F⟩:=D9.1 z;obtain⟨j,D⟩:=D9.1 A;obtain⟨d,rfl⟩:=p9 k;obtain⟨c,rfl⟩:=p9 j;have J:=Qm.1 B;have C:=E2;have key:∀x:Nat,x<1152921504606846976->Gm LF (x:Int) (c:Int) k0=k0 ((Yl (x+x / c) 0:Nat):Int):=by
  intro x L;have G:x / c<=x:=ad6 _ _;unfold Gm;have g:x6 (x:Int) (c:Int)=((x / c:Nat):Int):=M3 x c;generalize x / c=q at *;have h:A1 (q:Int)=(q:Int):=A5;have o:A1 ((x:Int)+(q:Int))=((x+q:Nat):Int):=by rw[A5];rfl
  rw[show((c:Int)!=0)=true by simp;omega];simp only[cond_true,vl,g,h,o];obtain⟨a,n,H,I,w,y⟩:=Ae5 (R:=R) (k0:=λb l=>vl (A1 ((36)*b)) λm=>vl (A1 (b+(38))) λe=>cond (e !=(0)) (vl (A1 (x6 m e)) λi=>k0 (A1 (l+i))) none) (x+q) LF 0 (by omega) (by omega) (by omega);refine j1 y ?_;have K:36*a / (a+38)<=36*a:=ad6 _ _;have p:A1 (36*(a:Int))=((36*a:Nat):Int):=by rw[A5];rfl
  have r:A1 ((a:Int)+38)=((a+38:Nat):Int):=by rw[A5];rfl
  have t:x6 ((36*a:Nat):Int) ((a+38:Nat):Int)=((36*a / (a+38):Nat):Int):=M3 _ _;have u:A1 ((36*a / (a+38):Nat):Int)=((36*a / (a+38):Nat):Int):=A5;have v:A1 ((n:Int)+((36*a / (a+38):Nat):Int))=((n+36*a / (a+38):Nat):Int):=by rw[A5];rfl
  simp only[vl,p,r,t,u,v];rw[show(((a+38:Nat):Int)!=0)=true by simp;omega,w];rfl
 unfold IX P9;rw[j2,j2];cases f with
 | true=>
  have g:x6 (d:Int) 700=((d / 700:Nat):Int):=M3 d 700;have h:A1 ((d / 700:Nat):Int)=((d / 700:Nat):Int):=A5;simp only[cond_true,vl,g,h,if_true];exact key _ (by omega)
 | false=>
  have g:x6 (d:Int) 2=((d / 2:Nat):Int):=M3 d 2;have h:A1 ((d / 2:Nat):Int)=((d / 2:Nat):Int):=A5;simp only[cond_false,vl,g,h,ac0,if_false];exact key _ (by omega)
theorem Az8{R:Type}{b:Int->Option R}(d:Int)(c:ltN d 36=true):Bg1 LF d b=b ((Ah d.toNat).toNat:Nat):=by
 obtain⟨a,e⟩:=D9.1 c;obtain⟨d,rfl⟩:=p9 a;unfold Bg1;rw[j2,LY (by omega)];by_cases h:d<26
 ·rw[A8,if_pos h];simp only[cond_true,vl]
  congr 1
  rw[A5,R2];rfl
 ·rw[A6,if_neg h];simp only[cond_false,vl]
  congr 1
  rw[F5 (n:=48+(d:Int)) (by omega) (by omega),A5,R2];omega
theorem Bt9{R:Type}{g:Int->Option R}(b:Int)(h:inR b 256=true):Cd0 LF b g=g (E3 (u8n b)):=by
 simp only[inR,p7,decide_eq_true_eq] at h;have j:b=((u8n b).toNat:Int):=by
  unfold u8n;simp;omega
 generalize u8n b=c at *;subst j;have i:=c.toNat_lt;unfold Cd0 E3;simp only[Ws,Wr,vl];rcases CA c with⟨d,f,e⟩|⟨d,f,e⟩|⟨d,f,e⟩|⟨d,f,o,e⟩
 ·have a:A1 (wu8 ((c.toNat:Int)-97))=((c.toNat-97:Nat):Int):=by
   rw[R2,A5];omega
  simp (disch:=omega) only[D1,F1,k9,j8,cond_false,cond_true,a,e]
 ·have a:A1 (wu8 ((c.toNat:Int)-65))=((c.toNat-65:Nat):Int):=by
   rw[R2,A5];omega
  simp (disch:=omega) only[D1,F1,k9,j8,cond_false,cond_true,a,e]
 ·have a:A1 (A1 (wu8 ((c.toNat:Int)-48))+26)=((c.toNat-22:Nat):Int):=by
   rw[R2,F5 (n:=(c.toNat:Int)-48) (by omega) (by omega),A5];omega
  simp (disch:=omega) only[D1,F1,k9,j8,cond_false,cond_true,a,e]
 ·rw[e];by_cases k:c.toNat<48
  ·simp (disch:=omega) only[D1,F1,k9,j8,cond_false,cond_true]
  ·by_cases l:c.toNat<65
   ·simp (disch:=omega) only[D1,F1,k9,j8,cond_false,cond_true]
   ·by_cases m:c.toNat<97
    ·simp (disch:=omega) only[D1,F1,k9,j8,cond_false,cond_true]
    ·simp (disch:=omega) only[D1,F1,k9,j8,cond_false,cond_true]
theorem Bt5{R:Type}{a:Int->Option R}(k b:Int)(c:ltN k 10000000000=true)(d:ltN b 1000000=true):Cw2 LF k b a=a (L6 (ae2 36 k) b):=by obtain⟨j,l⟩:=D9.1 c;obtain⟨e,f⟩:=D9.1 d;unfold Cw2 L6;have g:A1 (k+1)=k+1:=A5;have h:A1 ((36:Int)*(k+1))=36*(k+1):=A5;have i:A1 (36*(k+1)-b)=36*(k+1)-b:=A5;grind
theorem Cb3(z t:Bool)(c:LL)(done a u delta i:Int)(b:Nat)(T:b<1000000):∀(r q k n:Nat) (l:LL),q<10 ^ r->q<1152921504606846976->k+r<=1000->r<n->l.length+r<=200000->
  ∃(d:Nat) (pre:By),d<36/\P2 q k b=pre++[Ah d]/\∀(R:Type) (g:Bool->Bool->LL->Int->Int->Int->Int->Int->Int->LL->Option R),Fl LF n z t c done a u delta (b:Int) i (q:Int) (k:Int) l g=g z t c done a u delta i (d:Int) (l++pre.map F0):=by
 have f:∀k:Nat,L6 (ae2 36 (k:Int)) (b:Int)=(thr k b:Int):=λk=>by
  rw[show ae2 36 (k:Int)=((36*k:Nat):Int) from rfl,Xc]
 have j:∀(q k n:Nat) (l:LL),q<thr k b->k<=1000->∃(d:Nat) (pre:By),d<36/\P2 q k b=pre++[Ah d]/\∀(R:Type) (g:Bool->Bool->LL->Int->Int->Int->Int->Int->Int->LL->Option R),Fl LF (n+1) z t c done a u delta (b:Int) i (q:Int) (k:Int) l g=g z t c done a u delta i (d:Int) (l++pre.map F0):=by
  intro q k n l p v;have x:=V5 k b;refine⟨q,[],by omega,by rw[Qh p];rfl,λR g=>?_⟩;rw[Fl];have o:ltI (q:Int) (thr k b:Int)=true:=A8;rw[M0,M0,f];grind
 intro r
 induction r with
 | zero=>
  intro q k n l h _ v P N;have x:=V5 k b;obtain⟨n,rfl⟩:∃m,n=m+1:=⟨n-1,by omega⟩
  exact j q k n l (by simp at h;omega) (by omega)
 | succ r Q=>
  intro q k n l h w v P N;have x:=V5 k b;obtain⟨n,rfl⟩:∃m,n=m+1:=⟨n-1,by omega⟩
  by_cases p:q<thr k b
  ·exact j q k n l p (by omega)
  ·have L:(q-thr k b) / (36-thr k b)<10 ^ r:=TQ (by omega) (by rw[Nat.pow_succ] at h;omega);have M:(q-thr k b) / (36-thr k b)<=q:=ah5 (ad6 _ _) (by omega);have O:(q-thr k b) % (36-thr k b)<36-thr k b:=Nat.mod_lt _ (by omega);obtain⟨d,pre,e0,K,e⟩:=Q ((q-thr k b) / (36-thr k b)) (k+1) n (l++[F0 (Ah (thr k b+(q-thr k b) % (36-thr k b)))]) L (by omega) (by omega) (by omega) (by rw[o8,j6];omega);refine⟨d,Ah (thr k b+(q-thr k b) % (36-thr k b))::pre,e0,by rw[Zc p,K];rfl,λR g=>?_⟩;rw[Fl];have y:A1 ((q:Int)-(thr k b:Int))=((q-thr k b:Nat):Int):=by rw[A5];omega
   have C:A1 ((36:Int)-(thr k b:Int))=((36-thr k b:Nat):Int):=by rw[A5];omega
   have D:w8 ((q-thr k b:Nat):Int) ((36-thr k b:Nat):Int)=(((q-thr k b) % (36-thr k b):Nat):Int):=Cl _ _;have F:x6 ((q-thr k b:Nat):Int) ((36-thr k b:Nat):Int)=(((q-thr k b) / (36-thr k b):Nat):Int):=M3 _ _;have I:((((36-thr k b:Nat):Int))!=0)=true:=by rw[bne_iff_ne];omega
   have J:A1 ((k:Int)+1)=((k+1:Nat):Int):=by rw[A5];rfl
   have o:ltI (q:Int) (thr k b:Int)=false:=A6;rw[M0,M0,f];simp only[vl,o,y,C,D,F,I,J,cond_true,cond_false,j8];generalize hA:(q-thr k b) / (36-thr k b)=A at *;generalize S:(q-thr k b) % (36-thr k b)=B at *;have G:A1 ((thr k b:Int)+(B:Int))=((thr k b+B:Nat):Int):=by rw[A5];rfl
   have H:A1 (A:Int)=(A:Int):=A5;rw[G,H,M0,F3 (by omega),j2];refine j1 (e R g) ?_;simp[af4,F0]
theorem Cv5(z t:Bool)(c:List Nat)(a m:Nat)(Z:m<=1114112)(Y:c.length<=256):∀(r i n:Nat) (s:OM),i+r=c.length->r<n->s.delta+r<=1000000000000->s.bias<=500->s.out.length+20*r<=90000->s.done+r<=1000->a<=256->
  (∀(R:Type) (d:Bool->Bool->LL->Int->Int->Int->Int->Int->LL->Option R),Aq LF n z t (C2 c) (s.done:Int) (a:Int) (m:Int) (s.delta:Int) (s.bias:Int) (i:Int) (s.out.map F0) d =
   d z t (C2 c) ((I7 m a (c.drop i) s).done:Int) (a:Int) (m:Int) ((I7 m a (c.drop i) s).delta:Int) ((I7 m a (c.drop i) s).bias:Int) ((I7 m a (c.drop i) s).out.map F0))/\
  (I7 m a (c.drop i) s).bias<=500/\(I7 m a (c.drop i) s).out.length<=s.out.length+20*(c.drop i).countP (· == m)/\(I7 m a (c.drop i) s).done=s.done+(c.drop i).countP (· == m)/\
  (I7 m a (c.drop i) s).delta<=(if 0<(c.drop i).countP (· == m) then r else s.delta+r):=by
 have S:=E2;intro r
 induction r with
 | zero=>
  intro i n s T U O B P Q C;obtain⟨n,rfl⟩:∃m,n=m+1:=⟨n-1,by omega⟩
  rw[o7 (by omega)];refine⟨λR d=>?_,B,by simp[I7],by simp[I7],by simp[I7]⟩;rw[Aq];rw[D7,A6];rfl
 | succ r H=>
  intro i n s T U O B P Q C;obtain⟨n,rfl⟩:∃m,n=m+1:=⟨n-1,by omega⟩
  rw[Uy c i (by omega)];have F:=Zf c i (by omega);have ok:=Qt (l:=c) (i:=i) (by omega);have e:inR (i:Int) (C2 c).length=true:=L1 (by omega) (by rw[D7];omega);have f:ltI (i:Int) ((C2 c).length:Int)=true:=D1 (by rw[D7];omega);generalize c.getD i 0=p at *;have A:A1 ((i:Int)+1)=((i+1:Nat):Int):=by rw[A5];rfl
  have M:A1 ((s.delta:Int)+1)=((s.delta+1:Nat):Int):=by rw[A5];rfl
  have I:A1 ((s.done:Int)+1)=((s.done+1:Nat):Int):=by rw[A5];rfl
  by_cases G:p<m
  ·have g:(p==m)=false:=by rw[beq_eq_false_iff_ne];omega
   have u:I7 m a (p::c.drop (i+1)) s=I7 m a (c.drop (i+1)) { s with delta:=s.delta+1 }:=by rw[I7,if_pos G]
   obtain⟨v,w,x,y,h⟩:=H (i+1) n { s with delta:=s.delta+1 } (by omega) (by omega) (by simp only;omega) B (by simp only;omega) (by simp only;omega) C;rw[u,ac7 (by rw[g];simp)];refine⟨λR d=>?_,w,x,y,?_⟩
   ·rw[Aq];rw[j2];simp only[e,f,ok,cond_true,vl,F,A,M];rw[A8,cond_true,show((p:Int)!=(m:Int))=true by rw[bne_iff_ne];omega,cond_true];exact v R d
   ·simp only at h;split at h<;>split<;>omega
  ·by_cases L:p=m
   ·subst L;have K:=MB (q:=s.delta) (k:=0) (b:=s.bias) (by omega);have D:=Nw s.delta (s.done+1) (s.done==a) (by omega);have u:I7 p a (p::c.drop (i+1)) s=I7 p a (c.drop (i+1)) { delta:=0,bias:=P9 s.delta (s.done+1) (s.done==a),done:=s.done+1,out:=s.out++P2 s.delta 0 s.bias }:=by rw[I7,if_neg G,if_pos rfl]
    obtain⟨v,w,x,y,h⟩:=H (i+1) n { delta:=0,bias:=P9 s.delta (s.done+1) (s.done==a),done:=s.done+1,out:=s.out++P2 s.delta 0 s.bias } (by omega) (by omega) (by simp only;omega) D (by simp only[o8];omega) (by simp only;omega) C;obtain⟨W,pre,X,J,N⟩:=Cb3 z t (C2 c) (s.done:Int) (a:Int) (p:Int) (s.delta:Int) (i:Int) s.bias (by omega) 19 s.delta 0 LF (s.out.map F0) (by omega) (by omega) (by omega) (by omega) (by rw[o5];omega);rw[u,List.countP_cons_of_pos (by simp)];refine⟨λR d=>?_,w,?_,?_,?_⟩
    ·rw[Aq];have j:((s.done:Int)==(a:Int))=(s.done==a):=by
      rw[y7,beq_iff_eq,beq_iff_eq];omega
     rw[j2];simp only[e,f,ok,cond_true,vl,F,A,I];rw[A6,cond_false,bne_self_eq_false,cond_false];refine j1 (N R _) ?_;have V:pre.length+1=(P2 s.delta 0 s.bias).length:=by rw[J];simp
     rw[M0,j2,F3 (by rw[o8,o5,o5];omega)];simp only[vl,cond_true,A,I];rw[M0,M0,A8,j];simp only[cond_true,j2];have o:s.out.map F0++pre.map F0++[[SV.int .u8 (((Ah W).toNat:Nat):Int)]]=(s.out++P2 s.delta 0 s.bias).map F0:=by
      rw[J,ad5,ad5,af4];rfl
     rw[o];exact v R d
    ·simp only[o8] at x;omega
    ·simp only at y;omega
    ·simp only at h;rw[Aj];split at h<;>omega
   ·have g:(p==m)=false:=by rw[beq_eq_false_iff_ne];omega
    have u:I7 m a (p::c.drop (i+1)) s=I7 m a (c.drop (i+1)) s:=by rw[I7,if_neg G,if_neg L]
    obtain⟨v,w,x,y,h⟩:=H (i+1) n s (by omega) (by omega) (by omega) B (by omega) (by omega) C;rw[u,ac7 (by rw[g];simp)];refine⟨λR d=>?_,w,x,y,?_⟩
    ·rw[Aq];rw[j2];simp only[e,f,ok,cond_true,vl,F,A];rw[A6,cond_false,show((p:Int)!=(m:Int))=true by rw[bne_iff_ne];omega,cond_true];exact v R d
    ·split at h<;>split<;>omega
theorem A12{R:Type}{k0:Bool->Bool->LL->Int->Int->Int->Int->Int->Int->LL->Option R}(z t:Bool)(a:List Nat)(q:a.length<=256)(n0:Nat)(b delta c done:Int)(l:LL):∀(r i n m:Nat),i+r=a.length->r<n->
  Iy LF n z t (C2 a) done b (n0:Int) delta c (m:Int) (i:Int) l k0=k0 z t (C2 a) done b (n0:Int) delta c ((I6 n0 (a.drop i) m:Nat):Int) l:=by
 intro r
 induction r with
 | zero=>
  intro i n m k o;obtain⟨n,rfl⟩:∃m,n=m+1:=⟨n-1,by omega⟩
  rw[Iy];rw[D7,A6,o7 (by omega)];rfl
 | succ r f=>
  intro i n m k o;obtain⟨n,rfl⟩:∃m,n=m+1:=⟨n-1,by omega⟩
  have j:=Zf a i (by omega);have ok:=Qt (l:=a) (i:=i) (by omega);have d:inR (i:Int) (C2 a).length=true:=L1 (by omega) (by rw[D7];omega);have e:ltI (i:Int) ((C2 a).length:Int)=true:=D1 (by rw[D7];omega);rw[Iy,Uy a i (by omega)];generalize a.getD i 0=p at *;have g:A1 ((i:Int)+1)=((i+1:Nat):Int):=by rw[A5];rfl
  rw[j2];simp only[d,e,ok,cond_true,vl,j,g,I6];by_cases h:n0<=p
  ·rw[if_pos h,A6,j8,cond_true];have:(if (p:Int)<(m:Int) then (p:Int) else (m:Int))=((min m p:Nat):Int):=by split<;>omega
   rw[this];exact f (i+1) n (min m p) (by omega) (by omega)
  ·rw[if_neg h,A8,k9,cond_false];exact f (i+1) n m (by omega) (by omega)
theorem Cb4(z t:Bool)(a:List Nat)(b:Nat)(B:a.length<=256)(T:b<=256)(i:∀p∈a,p<=1114111):∀(f n d:Nat) (s:OM),s.done=a.countP (λp=>decide (p<n))->a.length<=s.done+f->f<d->s.delta<=300->s.bias<=500->s.out.length+20*(a.length-s.done)<=80000->n<=1114112->
  ∀(R:Type) (k0:LL->Option R),Fm LF d z t (C2 a) (s.done:Int) (b:Int) (n:Int) (s.delta:Int) (s.bias:Int) (s.out.map F0) k0=k0 ((Q5 a b f n s).out.map F0):=by
 intro f;have S:=E2
 induction f with
 | zero=>
  intro n d s V X Y O y P Q R k0;obtain⟨d,rfl⟩:∃m,d=m+1:=⟨d-1,by omega⟩
  rw[Fm];rw[D7,A6];rfl
 | succ f Z=>
  intro n d s V X Y O y P Q R k0;obtain⟨d,rfl⟩:∃m,d=m+1:=⟨d-1,by omega⟩
  rw[Fm];rw[D7];have U:a.countP (λp=>decide (p<n))<=a.length:=aa9;by_cases o:s.done<a.length
  ·obtain⟨v,g,q⟩:=Aq5 (n:=n) (l:=a) (by omega);obtain⟨g1,g2,x⟩:=Ee n a 1114112;obtain⟨D,F,w⟩:=Ee n a 1073741824;have g4:=x v g q;have G:=w v g q;have g5:=i v g;have e:I6 n a 1114112∈a/\n<=I6 n a 1114112:=by grind
   have h:I6 n a 1073741824∈a/\n<=I6 n a 1073741824:=by grind
   have heq:I6 n a 1073741824=I6 n a 1114112:=by grind
   have W:Q5 a b (f+1) n s=Q5 a b f (I6 n a 1114112+1) { I7 (I6 n a 1114112) b a { s with delta:=s.delta+(I6 n a 1114112-n)*(s.done+1) } with delta:=(I7 (I6 n a 1114112) b a { s with delta:=s.delta+(I6 n a 1114112-n)*(s.done+1) }).delta+1 }:=by
    rw[Q5,if_pos o]
   rw[W,A8,cond_true];have c:=λ(K:Bool->Bool->LL->Int->Int->Int->Int->Int->Int->LL->Option R)=>A12 (k0:=K) z t a B n (b:Int) (s.delta:Int) (s.bias:Int) (s.done:Int) (s.out.map F0) a.length 0 LF 1073741824 (by omega) (by omega)
   rw[v8,heq] at c;refine j1 (c _) ?_;clear c heq D F w G h;generalize I6 n a 1114112=m at *;have C:(m-n)*(s.done+1)<=1114112*256:=Nat.mul_le_mul (by omega) (by omega);have H:A1 ((s.done:Int)+1)=((s.done+1:Nat):Int):=by rw[A5];rfl
   have I:A1 ((m:Int)-(n:Int))=((m-n:Nat):Int):=by rw[A5];omega
   have J:A1 (((m-n:Nat):Int)*((s.done+1:Nat):Int))=(((m-n)*(s.done+1):Nat):Int):=by
    rw[<-Int.natCast_mul];exact A5
   have L:A1 ((s.delta:Int)+(((m-n)*(s.done+1):Nat):Int))=((s.delta+(m-n)*(s.done+1):Nat):Int):=by
    rw[A5];rfl
   simp only[vl,H,I,J,L];have k:=Cv5 z t a b m (by omega) B a.length 0 LF { s with delta:=s.delta+(m-n)*(s.done+1) } (by omega) (by omega) (by simp only;omega) y (by simp only;omega) (by simp only;omega) T;rw[v8] at k;obtain⟨q1,q2,q3,q4,q5⟩:=k;refine j1 (q1 R _) ?_;have j:0<a.countP (· == m):=List.countP_pos_iff.2 ⟨m,e.1,by simp⟩;rw[if_pos j] at q5;have u:=Uq e.2 a x;generalize I7 m b a { s with delta:=s.delta+(m-n)*(s.done+1) } = r at *;simp only at q3 q4;have M:A1 ((r.delta:Int)+1)=((r.delta+1:Nat):Int):=by rw[A5];rfl
   have N:A1 ((m:Int)+1)=((m+1:Nat):Int):=by rw[A5];rfl
   have A:a.countP (λp=>decide (p<m+1))<=a.length:=aa9;simp only[M,N];exact Z (m+1) d { r with delta:=r.delta+1 } (by simp only;omega) (by simp only;omega) (by omega) (by simp only;omega) q2 (by simp only;omega) (by omega) R k0
  ·rw[A6];rw[Q5,if_neg o];rfl
theorem A07(z t:Bool)(P:List Int)(C:P.length<=256):∀(r i n:Nat) (out:By),i+r=P.length->r<n->out.length+r<=1000->
  ((P.drop i).all ptI=true->∀(R:Type) (a:LL->Option R) (b:Bool->Bool->LL->LL->Option R),U0 LF n z t (Av P) (i:Int) (out.map F0) a b=b z t (Av P) ((out++V7 (P.drop i)).map F0))/\
  ((P.drop i).all ptI=false->∃l,∀(R:Type) (a:LL->Option R) (b:Bool->Bool->LL->LL->Option R),U0 LF n z t (Av P) (i:Int) (out.map F0) a b=a l):=by
 intro r
 induction r with
 | zero=>
  intro i n out w y A;obtain⟨n,rfl⟩:∃m,n=m+1:=⟨n-1,by omega⟩
  rw[o7 (by omega)];refine⟨λ_ R a b=>?_,λh=>(by cases h)⟩;rw[U0];rw[U5,A6];simp[V7]
 | succ r v=>
  intro i n out w y A;obtain⟨n,rfl⟩:∃m,n=m+1:=⟨n-1,by omega⟩
  have o:=As5 P i (by omega);have ok:=UY (l:=P) (i:=i) (by omega);have f:inR (i:Int) (Av P).length=true:=L1 (by omega) (by rw[U5];omega);have g:ltI (i:Int) ((Av P).length:Int)=true:=D1 (by rw[U5];omega);rw[ZP P i (by omega)];generalize P.getD i 0=x at *;have u:A1 ((i:Int)+1)=((i+1:Nat):Int):=by rw[A5];rfl
  cases j:ptI x with
  | false=>
   refine⟨λh=>?_,λ_=>⟨out.map F0,λR a b=>?_⟩⟩
   ·rw[ae9,j] at h;cases h
   ·rw[U0];rw[j2];simp only[f,g,ok,cond_true,vl,o,j,j8]
  | true=>
   obtain⟨B,D⟩:=Tk j;rw[ae9,j,x4];by_cases c:x<128
   ·have d:V7 (x::P.drop (i+1))=aa6 x.toNat::V7 (P.drop (i+1)):=by
     unfold V7;rw[List.filter_cons_of_pos (by simpa using c)];rfl
    have k:out.map F0++[[SV.int .u8 (wu8 x)]]=(out++[aa6 x.toNat]).map F0:=by rw[Cf1 x B c];simp
    obtain⟨p,q⟩:=v (i+1) n (out++[aa6 x.toNat]) (by omega) (by omega) (by simp;omega);have step:∀(R:Type) (a:LL->Option R) (b:Bool->Bool->LL->LL->Option R),U0 LF (n+1) z t (Av P) (i:Int) (out.map F0) a b=U0 LF n z t (Av P) ((i+1:Nat):Int) ((out++[aa6 x.toNat]).map F0) a b:=by
     intro R a b;rw[U0];rw[j2];simp only[f,g,ok,cond_true,vl,o,j,k9,cond_false,u];rw[D1 c,o5,F3 (by omega),k];rfl
    refine⟨λh R a b=>?_,λh=>?_⟩
    ·rw[step,p h,d];simp
    ·obtain⟨l,e⟩:=q h;exact⟨l,λR a b=>by rw[step];exact e R a b⟩
   ·have d:V7 (x::P.drop (i+1))=V7 (P.drop (i+1)):=by
     unfold V7;rw[List.filter_cons_of_neg (by simpa using c)]
    obtain⟨p,q⟩:=v (i+1) n out (by omega) (by omega) (by omega);have step:∀(R:Type) (a:LL->Option R) (b:Bool->Bool->LL->LL->Option R),U0 LF (n+1) z t (Av P) (i:Int) (out.map F0) a b=U0 LF n z t (Av P) ((i+1:Nat):Int) (out.map F0) a b:=by
     intro R a b;rw[U0];rw[j2];simp only[f,g,ok,cond_true,vl,o,j,k9,cond_false,u];rw[A6];rfl
    refine⟨λh R a b=>?_,λh=>?_⟩
    ·rw[step,p h,d]
    ·obtain⟨l,e⟩:=q h;exact⟨l,λR a b=>by rw[step];exact e R a b⟩
theorem A08(z t:Bool)(P:List Int):(X7 P=([],3)/\∀(R:Type) (b:Unit->Option R) (f:By->Int->LL->Option R),Ae9 LF z t (Av P) b f=b ())\/
  (∃l,∀(R:Type) (b:Unit->Option R) (f:By->Int->LL->Option R),Ae9 LF z t (Av P) b f=f (X7 P).1 ((X7 P).2:Nat) l):=by
 have x:=E2;by_cases i:256<P.length
 ·refine .inl ⟨by unfold X7;rw[if_pos i],λR b f=>?_⟩;unfold Ae9;rw[U5,A8];rfl
 ·right
  obtain⟨v,w⟩:=A07 z t P (by omega) P.length 0 LF [] (by omega) (by omega) (by simp;omega);rw[v8] at v w;cases g:P.all ptI with
  | false=>
   obtain⟨l,e⟩:=w g;refine⟨l,λR b f=>?_⟩;unfold Ae9;rw[U5,A6,cond_false];refine j1 (e R _ _) ?_;unfold X7;rw[if_neg i,g];rfl
  | true=>
   obtain⟨a,rfl,A,m⟩:=Bf9 g;rw[o5] at i;have k:X7 (a.map λn:Nat=>(n:Int))=Fc a:=by
    unfold X7;rw[o5,if_neg i,g];simp[Function.comp_def]
   have j:=Sm a;have y:a.countP (λp=>decide (p<128))<=a.length:=aa9;have main:∀(o:By),o.length<=300->∀(R:Type) (b:LL->Option R),Fm LF LF z t (C2 a) ((J0 a).length:Int) ((J0 a).length:Int) 128 0 72 (o.map F0) b=b ((Q5 a (J0 a).length 256 128 { delta:=0,bias:=72,done:=(J0 a).length,out:=o }).out.map F0):=by
    intro o B R b;exact Cb4 z t a (J0 a).length (by omega) (by omega) m 256 128 LF { delta:=0,bias:=72,done:=(J0 a).length,out:=o } j (by simp only;omega) (by omega) (by simp) (by simp) (by simp only;omega) (by omega) R b
   have d:Fc a=((Q5 a (J0 a).length 256 128 { delta:=0,bias:=72,done:=(J0 a).length,out:=if (J0 a).isEmpty then [] else J0 a++[45] }).out,0):=by
    unfold Fc;grind
   refine⟨(Fc a).1.map F0,λR b f=>?_⟩;unfold Ae9;rw[U5,o5,A6,cond_false,k];have r:=v g R;refine j1 (r _ _) ?_;rw[List.nil_append,GA,Qq];simp only[vl,o5];by_cases c:J0 a=[]
   ·rw[c,ab4,A6,cond_false];have q:=main [] (by simp) R;rw[c,ab4] at q;rw[List.map_nil] at q;refine j1 (q _) ?_;rw[c] at d;rw[d];simp only[List.isEmpty_nil,if_true,ab4];rw[Br,Ca];rfl
   ·have u:0<(J0 a).length:=ab6.2 c;rw[A8,cond_true,F3 (by omega),cond_true];have h:(J0 a).map F0++[[SV.int .u8 (45:Int)]]=(J0 a++[45]).map F0:=by rw[ad5];rfl
    rw[h];refine j1 (main (J0 a++[45]) (by simp;omega) R _) ?_;rw[d,if_neg (by simpa using c)];rw[Br,Ca];rfl
theorem Cv6(z t:Bool)(p:LL)(b:p.all Ou=true):∃r H,Ae9 LF z t p (λ_=>rv (.tup [.s (.str []),.s (.int .i64 3)]) []) (λd e l=>rv (.tup [.s (.str d),.s (.int .i64 e)]) [.arr true 5 1 l])=rv r H/\
  r.stab [0,0] H = .tup [.s (.str (X7 (p.map elI)).1),.s (.int .i64 ((X7 (p.map elI)).2:Nat))]:=by
 obtain⟨P,rfl⟩:=Bd6 b;rw[ZQ];rcases A08 z t P with⟨c,a⟩|⟨l,a⟩
 ·exact⟨_,_,a _ _ _,by rw[c];rfl⟩
 ·exact⟨_,_,a _ _ _,rfl⟩
end
end Go.Proofs.YtddlcgjamdbinaaGreatDoor.E
