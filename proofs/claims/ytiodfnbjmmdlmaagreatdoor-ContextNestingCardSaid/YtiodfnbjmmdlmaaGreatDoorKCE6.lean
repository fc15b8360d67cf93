/-
  ContextNesting, as its tied card says. Conditions: what the card itself names (the package-level variables that are listed, tied to the program's text).
-/
import Derived.Test.YtiodfnbjmmdlmaaGreatDoorKCE5
import Derived.Laws.Runes
import Derived.Test.YtiodfnbjmmdlmaaGreatDoorCards
import Derived.Test.YtiodfnbjmmdlmaaGreatDoorTie
open Go.Proofs.Tryz renaming prog->c8,f3->ac0,f13->af8,func3->af9,f6->ag6,f30->ah0,f8->ah1
open Option.some renaming injEq->c9,inj->y5
open List renaming getElem?_eq_getElem->j0,length_drop->j2,length_singleton->j4,getD_eq_getElem?_getD->j5,length_take->j9,length_eq_zero_iff->o0,drop_of_length_le->o5,size_toArray->o7,all->o9,map->p9,all_eq_true->s8,getElem?_cons_zero->s9,length_cons->v7,getElem?_append_right->v8,length_map->w6,length_append->w8,drop_zero->w9,drop_eq_getElem_cons->x5,getElem?_take_of_lt->x7,isEmpty->x9,getElem?_toArray->y7,drop_eq_nil_iff->y9,length->z7,getElem?_append_left->aa1,getElem?_take->aa4,getElem?_cons_succ->aa5,getElem_mem->aa8,mem_of_mem_drop->ab1,all_append->ab3,length_nil->ab4,getElem?_eq_some_iff->ab8,getElem_cons_drop->ac5,getElem_cons_zero->ac6,take_of_length_le->ac7,toArray->ac8,replicate->ad2,length_pos_iff->ad4,map_id''->ad9,mem_cons->ae0,mem_singleton->ae2,getElem?_map->ae5,map_map->ae6,any_eq_true->ae8,not_mem_nil->ae9,map_append->af5,all_cons->ag0,mem_map->ag3
open Int renaming toNat->j1,toNat_natCast->o6,eq_ofNat_of_zero_le->ac3
open Go.Value renaming int->j6
open Go.Lib renaming compact->j7,indexByte->ad7,decodeL->af0,size_eq->af1
open Bool renaming and_eq_true->j8,not_true->p7,not_false->x4,true_and->aa2,eq_iff_iff->aa3,false_or->ac2,false_and->ad1,and_self->ad5,and_true->ad6,false_eq_true->ae1,not_eq_true'->ae4,or_eq_true->af4,or_true->ag1,true_or->ag2
open Eq renaming trans->k9
open Nat renaming mul_one->o8,le_of_ble_eq_true->w7,ble_eq_true_of_le->y8,zero_add->aa6,add_zero->ab5,lt_of_lt_of_le->ae3,le_refl->af2,not_lt_zero->af6,ble->af7,le_trans->ag4,sub_self->ag5
open Option renaming map_some->x6,getD_some->ac4
open Array renaming length_toList->x8,getElem?_eq_getElem->aa0,getElem?_append_left->ab6,getElem?_eq_some_iff->ab7,size_append->ab9,getElem?_modify->ad0
open Go.World renaming shape?->aa7,frozen?->ab0,cell?->ac1
open Prod.mk renaming injEq->aa9,inj->ag9
open Go.Utf8 renaming encode->ab2,decode->ad3
open Go.Sort renaming ahead->ac9
open List.cons renaming inj->ad8
open Go.RowKit.Below renaming refl->ae7
open UInt8 renaming ofNat->af3
namespace Go.Proofs.YtiodfnbjmmdlmaaGreatDoor.E
set_option linter.all false
section
open Go Go.Proofs
set_option maxRecDepth 100000
section
variable {W R : Type} (L : Nat) (Q : E3) (Y : Yh W) (s : W) (k : Out -> St W -> Option R)
noncomputable abbrev F0:Code:=E5 ag6
noncomputable def H3(L:Nat):Cfg:=D1 L [6] (A3 [(6,[2,0,0,0,15,0,0])]) [(10,BO),(11,AK),(12,Nj),(13,BD),(14,AP)]
 (A3 [(25,[2,0]),(24,[2,1]),(23,[2,1]),(22,[2,1,0,15,0,0]),(21,[2,1,0,15,0,0]),(20,[2,1,0,2,12,0,0,65]),(19,[2,1,0,2,1,10,0,0]),(18,[2,1,0,2,1,10,0,0]),(17,[2,1,0,2,1,10,0,0]),(16,[2,1,0,2,1,10,0,0]),(15,[2,1,0,2,1,10,0,0]),(14,[2,1,0,2,1,10,0,0,25]),(13,[2,0]),(12,[2,1,0,2,0,0,10,0,0,20]),(11,[2,1,0,2,0,0,10,0,0]),(10,[2,0]),(9,[2,1,0,1,0,0,11,0,0,10]),(8,[2,1,0,1,0,0,11,0,0]),(7,[2,1,0,1,13,0,0]),(6,[2,1,0,15,0,0,0]),(5,[2,1,0,15,0,0]),(4,[0,1,1,0]),(3,[0,1,1]),(2,[2,0]),(1,[0,1,15]),(0,[0,1])]) [12,13,14] (A3 [(0,[2,1]),(1,[2,1,0,15,0,0])]) (some [2,0]) [(16,Jl)] [] [16] (nt:=[(29,4,9,1),(25,1,9,1),(47,2,9,1),(1000029,4,9,1),(1000025,1,9,1),(1000047,2,9,1),(1000023,0,9,1)]) (Z:=[(15,Qt)])
noncomputable def Ec{R:Type}(a S P:Bool)(M:LL)(N O:Int)(H I J K o p q r:Bool)(m:LL)(y:By)(D C:Bool)(v:LL)(z A:By)(n:Int)(l:By)(b c d e f g h i j x:Int)(B:By)(t u F:Bool)(w:LL)(T:Bool->Bool->Bool->LL->Int->Int->Bool->Bool->Bool->Bool->Bool->Bool->Bool->LL->By->Bool->Bool->LL->By->By->Int->By->Int->Int->Int->Int->Int->Int->Int->Int->Int->Int->By->Bool->Bool->Bool->LL->Option R)(U:Bool->Bool->Bool->LL->Int->Int->Bool->Bool->Bool->Bool->Bool->Bool->Bool->Bool->LL->By->Bool->Bool->LL->By->By->Int->By->Int->Int->Int->Int->Int->Int->Int->Int->Int->Int->By->Bool->Bool->Bool->LL->Option R):Option R:=
 cond H
 (cond (A2 l.length)
  (cond (ltN b 4294967296)
  (cond (ok8 c d e f g h i j)
   (vl (Fm (mkH n l b (n8 c d e f g h i j))) λG=>
   cond (I4 (m.length+1))
    (T a S P M N O I J K o p q r (m++[[(SV.str G)]]) y D C v z A n l b c d e f g h i j x B t u F w)
    none)
   none)
  none)
  none)
 (U a S P M N O H I J K o p q r m y D C v z A n l b c d e f g h i j x B t u F w)
abbrev Lw(b:Code):Prop:=∀(k:Out->St W->Option R) a S P M N O H I J K c d e t v A G F w q B y C g h i j l m n o p z D f u r x,A7 (H3 L) Q Y b ⟨gp [(2,.ptr 1 0 0),(1,.ptr 3 0 0),(0,pB a),(2,.ptr 7 0 0),(12,.s (.sl S P 2 M)),(0,pI N),(0,pI O),(65,pB H)] 17,[.arr true 9 1 [],.box [pB I,pB J,pB K,pB c,.fl 0],.arr true 9 1 [],.box [pB a,pB d,pB e,pB t,.fl 4],.arr true 9 1 v,.arr true 9 1 [],.box [pS A,.s (.sl G F 1 w)],(bU q B y C g h i j l m n o p z D),.arr true 9 1 [],.box [pB f,pB u,.s (.sl r r 1 x)]],s⟩ k =
 Ec a S P M N O H I J K c d e t v A G F w q B y C g h i j l m n o p z D f u r x (λa S P M N O H I J K c d e V a2 a7 a6 X a3 q a0 a4 a1 g h i j l m n o p a5 U f T Z=>k .normal ⟨gp [(2,.ptr 1 0 0),(1,.ptr 3 0 0),(0,pB a),(15,.s (.sl S P 2 M)),(0,pI N),(0,pI O)] 83,[.arr true 9 1 [],.box [pB H,pB I,pB J,pB K,.fl 0],.arr true 9 1 [],.box [pB a,pB c,pB d,pB e,.fl 4],.arr true 9 1 V,.arr true 9 1 [],.box [pS a2,.s (.sl a7 a6 1 X)],(bU a3 q a0 a4 a1 g h i j l m n o p a5),.arr true 9 1 [],.box [pB U,pB f,.s (.sl T T 1 Z)]],s⟩) (λa S P M N O H I J K c d e t v A G F w q B y C g h i j l m n o p z D f u r x=>k .normal ⟨gp [(2,.ptr 1 0 0),(1,.ptr 3 0 0),(0,pB a),(2,.ptr 7 0 0),(12,.s (.sl S P 2 M)),(0,pI N),(0,pI O),(65,pB H)] 17,[.arr true 9 1 [],.box [pB I,pB J,pB K,pB c,.fl 0],.arr true 9 1 [],.box [pB a,pB d,pB e,pB t,.fl 4],.arr true 9 1 v,.arr true 9 1 [],.box [pS A,.s (.sl G F 1 w)],(bU q B y C g h i j l m n o p z D),.arr true 9 1 [],.box [pB f,pB u,.s (.sl r r 1 x)]],s⟩)
theorem Re:Lw (R:=R) L Q Y s (cd [1,1,1,1,0,1,0,0,1,1,0,0,1,1,1,1,1,1,1,1,1,1,1] F0):=by intro k a P O K M N G H I J b c d e h x D C i y z l A m n o p q r t u v w B f g F j;unfold Ec;kernel_rfl
noncomputable def Ed{R:Type}(a S P:Bool)(M:LL)(N O:Int)(F G H I d e f:Bool)(h:LL)(x:By)(C B:Bool)(i:LL)(c y:By)(l:Int)(z:By)(m n o p q r t u v w:Int)(A:By)(b g D:Bool)(j:LL)(J:Bool->Bool->Bool->LL->Int->Int->Bool->Bool->Bool->Bool->Bool->Bool->Bool->LL->By->Bool->Bool->LL->By->By->Int->By->Int->Int->Int->Int->Int->Int->Int->Int->Int->Int->By->Bool->Bool->Bool->LL->Option R)(K:Bool->Bool->Bool->LL->Int->Int->Bool->Bool->Bool->Bool->Bool->Bool->Bool->Bool->LL->By->Bool->Bool->LL->By->By->Int->By->Int->Int->Int->Int->Int->Int->Int->Int->Int->Int->By->Bool->Bool->Bool->LL->Option R):Option R:=
 cond b
 (Ec a S P M N O (E9 c) F G H I d e f h x C B i c y l z m n o p q r t u v w A b g D j J K)
 (Ec a S P M N O false F G H I d e f h x C B i c y l z m n o p q r t u v w A b g D j J K)
abbrev Gj(b:Code):Prop:=∀(k:Out->St W->Option R) a P O K M N G H I J c d e u z F D v A q x B y g h i j l m n o p C t f r w,A7 (H3 L) Q Y b ⟨gp [(2,.ptr 1 0 0),(1,.ptr 3 0 0),(0,pB a),(2,.ptr 7 0 0),(1,.ptr 9 0 0),(10,.s (.sl P O 2 K)),(0,pI M),(0,pI N)] 83,[.arr true 9 1 [],.box [pB G,pB H,pB I,pB J,.fl 0],.arr true 9 1 [],.box [pB a,pB c,pB d,pB e,.fl 4],.arr true 9 1 u,.arr true 9 1 [],.box [pS z,.s (.sl F D 1 v)],(bU A q x B y g h i j l m n o p C),.arr true 9 1 [],.box [pB t,pB f,.s (.sl r r 1 w)]],s⟩ k =
 Ed a P O K M N G H I J c d e u z F D v A q x B y g h i j l m n o p C t f r w (λa P O K M N G H I J c d e u z F D v A q x B y g h i j l m n o p C t f r w=>k .normal ⟨gp [(2,.ptr 1 0 0),(1,.ptr 3 0 0),(0,pB a),(15,.s (.sl P O 2 K)),(0,pI M),(0,pI N)] 83,[.arr true 9 1 [],.box [pB G,pB H,pB I,pB J,.fl 0],.arr true 9 1 [],.box [pB a,pB c,pB d,pB e,.fl 4],.arr true 9 1 u,.arr true 9 1 [],.box [pS z,.s (.sl F D 1 v)],(bU A q x B y g h i j l m n o p C),.arr true 9 1 [],.box [pB t,pB f,.s (.sl r r 1 w)]],s⟩) (λa P O K M N G H I J c d e T V a2 a7 a6 X q a3 a0 a4 g h i j l m n o p a1 a5 f U S Z=>k .normal ⟨gp [(2,.ptr 1 0 0),(1,.ptr 3 0 0),(0,pB a),(2,.ptr 7 0 0),(12,.s (.sl P O 2 K)),(0,pI M),(0,pI N),(65,pB G)] 17,[.arr true 9 1 [],.box [pB H,pB I,pB J,pB c,.fl 0],.arr true 9 1 [],.box [pB a,pB d,pB e,pB T,.fl 4],.arr true 9 1 V,.arr true 9 1 [],.box [pS a2,.s (.sl a7 a6 1 X)],(bU q a3 a0 a4 g h i j l m n o p a1 a5),.arr true 9 1 [],.box [pB f,pB U,.s (.sl S S 1 Z)]],s⟩)
theorem OA(a:Code)(b:Lw (R:=R) L Q Y s a):Gj (R:=R) L Q Y s (cd [1,1,1,1,0,1,0,0,1,1,0,0,1,1,1,1,1,1,1,1,1,1] (K3 [1,1,1,1,0,1,0,0,1,1,0,0,1,1,1,1,1,1,1,1,1,1,1] a F0)):=by intro k c S P M N O H I J K d e f i y F D j z A m B n o p q r t u v w x C g h G l;unfold Ed;simp only[<-b k];kernel_rfl
theorem Rf:Gj (R:=R) L Q Y s (cd [1,1,1,1,0,1,0,0,1,1,0,0,1,1,1,1,1,1,1,1,1,1] F0):=by intro k a O N J K M F G H I b c d g w C B h x y j z l m n o p q r t u v A e f D i;exact k9 (by kernel_rfl) (OA L Q Y s (cd [1,1,1,1,0,1,0,0,1,1,0,0,1,1,1,1,1,1,1,1,1,1,1] F0) (Re L Q Y s) k a O N J K M F G H I b c d g w C B h x y j z l m n o p q r t u v A e f D i)
noncomputable def Ee{R:Type}(a S P:Bool)(M:LL)(N O:Int)(F G H I c d D:Bool)(f:LL)(v:By)(B A:Bool)(g:LL)(w x:By)(i:Int)(y:By)(j l m n o p q r t u:Int)(z:By)(e b C:Bool)(h:LL)(J:Bool->Bool->Bool->LL->Int->Int->Bool->Bool->Bool->Bool->Bool->Bool->Bool->LL->By->Bool->Bool->LL->By->By->Int->By->Int->Int->Int->Int->Int->Int->Int->Int->Int->Int->By->Bool->Bool->Bool->LL->Option R)(K:Bool->Bool->Bool->LL->Int->Int->Bool->Bool->Bool->Bool->Bool->Bool->Bool->Bool->LL->By->Bool->Bool->LL->By->By->Int->By->Int->Int->Int->Int->Int->Int->Int->Int->Int->Int->By->Bool->Bool->Bool->LL->Option R):Option R:=
 cond D
 (Ed a S P M N O F G H I c d true f v B A g w x i y j l m n o p q r t u z e b C h J K)
 (Ed a S P M N O F G H I c d b f v B A g w x i y j l m n o p q r t u z e b C h J K)
abbrev Gk(b:Code):Prop:=∀(k:Out->St W->Option R) a P O K M N G H I J c d e u z F D v A q x B y g h i j l m n o p C t f r w,A7 (H3 L) Q Y b ⟨gp [(2,.ptr 1 0 0),(1,.ptr 3 0 0),(0,pB a),(2,.ptr 7 0 0),(1,.ptr 9 0 0),(10,.s (.sl P O 2 K)),(0,pI M),(0,pI N)] 83,[.arr true 9 1 [],.box [pB G,pB H,pB I,pB J,.fl 0],.arr true 9 1 [],.box [pB a,pB c,pB d,pB e,.fl 4],.arr true 9 1 u,.arr true 9 1 [],.box [pS z,.s (.sl F D 1 v)],(bU A q x B y g h i j l m n o p C),.arr true 9 1 [],.box [pB t,pB f,.s (.sl r r 1 w)]],s⟩ k =
 Ee a P O K M N G H I J c d e u z F D v A q x B y g h i j l m n o p C t f r w (λa P O K M N G H I J c d e u z F D v A q x B y g h i j l m n o p C t f r w=>k .normal ⟨gp [(2,.ptr 1 0 0),(1,.ptr 3 0 0),(0,pB a),(15,.s (.sl P O 2 K)),(0,pI M),(0,pI N)] 83,[.arr true 9 1 [],.box [pB G,pB H,pB I,pB J,.fl 0],.arr true 9 1 [],.box [pB a,pB c,pB d,pB e,.fl 4],.arr true 9 1 u,.arr true 9 1 [],.box [pS z,.s (.sl F D 1 v)],(bU A q x B y g h i j l m n o p C),.arr true 9 1 [],.box [pB t,pB f,.s (.sl r r 1 w)]],s⟩) (λa P O K M N G H I J c d e T V a2 a7 a6 X q a3 a0 a4 g h i j l m n o p a1 a5 f U S Z=>k .normal ⟨gp [(2,.ptr 1 0 0),(1,.ptr 3 0 0),(0,pB a),(2,.ptr 7 0 0),(12,.s (.sl P O 2 K)),(0,pI M),(0,pI N),(65,pB G)] 17,[.arr true 9 1 [],.box [pB H,pB I,pB J,pB c,.fl 0],.arr true 9 1 [],.box [pB a,pB d,pB e,pB T,.fl 4],.arr true 9 1 V,.arr true 9 1 [],.box [pS a2,.s (.sl a7 a6 1 X)],(bU q a3 a0 a4 g h i j l m n o p a1 a5),.arr true 9 1 [],.box [pB f,pB U,.s (.sl S S 1 Z)]],s⟩)
theorem OB(a:Code)(b:Gj (R:=R) L Q Y s a):Gk (R:=R) L Q Y s (cd [1,1,1,1,0,1,0,0,1,1,0,0,1,1,1,1,1,1,1,1,1] (K3 [1,1,1,1,0,1,0,0,1,1,0,0,1,1,1,1,1,1,1,1,1,1] a F0)):=by intro k c S P M N O H I J K d e f i y F D j z A m B n o p q r t u v w x C g h G l;unfold Ee;simp only[<-b k];kernel_rfl
theorem Rg:Gk (R:=R) L Q Y s (cd [1,1,1,1,0,1,0,0,1,1,0,0,1,1,1,1,1,1,1,1,1] F0):=by intro k a O N J K M F G H I b c d g w C B h x y j z l m n o p q r t u v A e f D i;exact k9 (by kernel_rfl) (OB L Q Y s (cd [1,1,1,1,0,1,0,0,1,1,0,0,1,1,1,1,1,1,1,1,1,1] F0) (Rf L Q Y s) k a O N J K M F G H I b c d g w C B h x y j z l m n o p q r t u v A e f D i)
noncomputable def Ef{R:Type}(a S P:Bool)(M:LL)(N O:Int)(F G H I c D d:Bool)(f:LL)(v:By)(B A:Bool)(g:LL)(w x:By)(i:Int)(y:By)(j l m n o p q r t u:Int)(z:By)(b e C:Bool)(h:LL)(J:Bool->Bool->Bool->LL->Int->Int->Bool->Bool->Bool->Bool->Bool->Bool->Bool->LL->By->Bool->Bool->LL->By->By->Int->By->Int->Int->Int->Int->Int->Int->Int->Int->Int->Int->By->Bool->Bool->Bool->LL->Option R)(K:Bool->Bool->Bool->LL->Int->Int->Bool->Bool->Bool->Bool->Bool->Bool->Bool->Bool->LL->By->Bool->Bool->LL->By->By->Int->By->Int->Int->Int->Int->Int->Int->Int->Int->Int->Int->By->Bool->Bool->Bool->LL->Option R):Option R:=
 cond D
 (Ee a S P M N O F G H I c true d f v B A g w x i y j l m n o p q r t u z b e C h J K)
 (Ee a S P M N O F G H I c b d f v B A g w x i y j l m n o p q r t u z b e C h J K)
abbrev Gl(b:Code):Prop:=∀(k:Out->St W->Option R) a P O K M N G H I J c d e u z F D v A q x B y g h i j l m n o p C t f r w,A7 (H3 L) Q Y b ⟨gp [(2,.ptr 1 0 0),(1,.ptr 3 0 0),(0,pB a),(2,.ptr 7 0 0),(1,.ptr 9 0 0),(10,.s (.sl P O 2 K)),(0,pI M),(0,pI N)] 83,[.arr true 9 1 [],.box [pB G,pB H,pB I,pB J,.fl 0],.arr true 9 1 [],.box [pB a,pB c,pB d,pB e,.fl 4],.arr true 9 1 u,.arr true 9 1 [],.box [pS z,.s (.sl F D 1 v)],(bU A q x B y g h i j l m n o p C),.arr true 9 1 [],.box [pB t,pB f,.s (.sl r r 1 w)]],s⟩ k =
 Ef a P O K M N G H I J c d e u z F D v A q x B y g h i j l m n o p C t f r w (λa P O K M N G H I J c d e u z F D v A q x B y g h i j l m n o p C t f r w=>k .normal ⟨gp [(2,.ptr 1 0 0),(1,.ptr 3 0 0),(0,pB a),(15,.s (.sl P O 2 K)),(0,pI M),(0,pI N)] 83,[.arr true 9 1 [],.box [pB G,pB H,pB I,pB J,.fl 0],.arr true 9 1 [],.box [pB a,pB c,pB d,pB e,.fl 4],.arr true 9 1 u,.arr true 9 1 [],.box [pS z,.s (.sl F D 1 v)],(bU A q x B y g h i j l m n o p C),.arr true 9 1 [],.box [pB t,pB f,.s (.sl r r 1 w)]],s⟩) (λa P O K M N G H I J c d e T V a2 a7 a6 X q a3 a0 a4 g h i j l m n o p a1 a5 f U S Z=>k .normal ⟨gp [(2,.ptr 1 0 0),(1,.ptr 3 0 0),(0,pB a),(2,.ptr 7 0 0),(12,.s (.sl P O 2 K)),(0,pI M),(0,pI N),(65,pB G)] 17,[.arr true 9 1 [],.box [pB H,pB I,pB J,pB c,.fl 0],.arr true 9 1 [],.box [pB a,pB d,pB e,pB T,.fl 4],.arr true 9 1 V,.arr true 9 1 [],.box [pS a2,.s (.sl a7 a6 1 X)],(bU q a3 a0 a4 g h i j l m n o p a1 a5),.arr true 9 1 [],.box [pB f,pB U,.s (.sl S S 1 Z)]],s⟩)
theorem OD(a:Code)(b:Gk (R:=R) L Q Y s a):Gl (R:=R) L Q Y s (cd [1,1,1,1,0,1,0,0,1,1,0,0,1,1,1,1,1,1,1,1] (K3 [1,1,1,1,0,1,0,0,1,1,0,0,1,1,1,1,1,1,1,1,1] a F0)):=by intro k c S P M N O H I J K d e f i y F D j z A m B n o p q r t u v w x C g h G l;unfold Ef;simp only[<-b k];kernel_rfl
theorem Rh:Gl (R:=R) L Q Y s (cd [1,1,1,1,0,1,0,0,1,1,0,0,1,1,1,1,1,1,1,1] F0):=by intro k a O N J K M F G H I b c d g w C B h x y j z l m n o p q r t u v A e f D i;exact k9 (by kernel_rfl) (OD L Q Y s (cd [1,1,1,1,0,1,0,0,1,1,0,0,1,1,1,1,1,1,1,1,1] F0) (Rg L Q Y s) k a O N J K M F G H I b c d g w C B h x y j z l m n o p q r t u v A e f D i)
noncomputable def Eg{R:Type}(a T S:Bool)(N:LL)(O P:Int)(I J K M p q r t u:Bool)(m:LL)(A:By)(G F:Bool)(x:LL)(B C:By)(n:Int)(l:By)(b c d e f g h i j z:Int)(D:By)(v w H:Bool)(y:LL)(U:Bool->Bool->Bool->LL->Int->Int->Bool->Bool->Bool->Bool->Bool->Bool->Bool->Bool->LL->By->Bool->Bool->LL->By->By->Int->By->Int->Int->Int->Int->Int->Int->Int->Int->Int->Int->By->Bool->Bool->Bool->LL->Option R)(V:Bool->Bool->Bool->LL->Int->Int->Bool->Bool->Bool->Bool->Bool->Bool->Bool->Bool->Bool->LL->By->Bool->Bool->LL->By->By->Int->By->Int->Int->Int->Int->Int->Int->Int->Int->Int->Int->By->Bool->Bool->Bool->LL->Option R):Option R:=
 cond I
 (cond (A2 l.length)
  (cond (ltN b 4294967296)
  (cond (ok8 c d e f g h i j)
   (vl (Fm (mkH n l b (n8 c d e f g h i j))) λo=>
   cond (I4 (m.length+1))
    (U a T S N O P J K M p q r t u (m++[[(SV.str o)]]) A G F x B C n l b c d e f g h i j z D v w H y)
    none)
   none)
  none)
  none)
 (V a T S N O P I J K M p q r t u m A G F x B C n l b c d e f g h i j z D v w H y)
abbrev Xl(b:Code):Prop:=∀(k:Out->St W->Option R) a T S N O P I J K M c d e f u w B H G x r C z D h i j l m n o p q A F g v t y,A7 (H3 L) Q Y b ⟨gp [(2,.ptr 1 0 0),(1,.ptr 3 0 0),(0,pB a),(2,.ptr 7 0 0),(12,.s (.sl T S 2 N)),(0,pI O),(0,pI P),(65,pB I)] 17,[.arr true 9 1 [],.box [pB J,pB K,pB M,pB c,.fl 0],.arr true 9 1 [],.box [pB d,pB e,pB f,pB u,.fl 4],.arr true 9 1 w,.arr true 9 1 [],.box [pS B,.s (.sl H G 1 x)],(bU r C z D h i j l m n o p q A F),.arr true 9 1 [],.box [pB g,pB v,.s (.sl t t 1 y)]],s⟩ k =
 Eg a T S N O P I J K M c d e f u w B H G x r C z D h i j l m n o p q A F g v t y (λa T S N O P I J K M c d e f X a3 a8 a7 Z a4 r a1 a5 a2 h i j l m n o p q a6 V g U a0=>k .normal ⟨gp [(2,.ptr 1 0 0),(1,.ptr 3 0 0),(0,pB a),(15,.s (.sl T S 2 N)),(0,pI O),(0,pI P)] 83,[.arr true 9 1 [],.box [pB I,pB J,pB K,pB M,.fl 0],.arr true 9 1 [],.box [pB c,pB d,pB e,pB f,.fl 4],.arr true 9 1 X,.arr true 9 1 [],.box [pS a3,.s (.sl a8 a7 1 Z)],(bU a4 r a1 a5 a2 h i j l m n o p q a6),.arr true 9 1 [],.box [pB V,pB g,.s (.sl U U 1 a0)]],s⟩) (λa T S N O P I J K M c d e f u w B H G x r C z D h i j l m n o p q A F g v t y=>k .normal ⟨gp [(2,.ptr 1 0 0),(1,.ptr 3 0 0),(0,pB a),(2,.ptr 7 0 0),(12,.s (.sl T S 2 N)),(0,pI O),(0,pI P),(65,pB I)] 17,[.arr true 9 1 [],.box [pB J,pB K,pB M,pB c,.fl 0],.arr true 9 1 [],.box [pB d,pB e,pB f,pB u,.fl 4],.arr true 9 1 w,.arr true 9 1 [],.box [pS B,.s (.sl H G 1 x)],(bU r C z D h i j l m n o p q A F),.arr true 9 1 [],.box [pB g,pB v,.s (.sl t t 1 y)]],s⟩)
theorem OE:Xl (R:=R) L Q Y s (cd [1,1,1,1,0,1,0,0,1,1,0,0,1,1,1,1,1,1,1,1,1,1,1] F0):=by intro k a S P M N O H I J K b c d e f i y F D j z A m B n o p q r t u v w x C g h G l;unfold Eg;kernel_rfl
noncomputable def Eh{R:Type}(a T S:Bool)(N:LL)(O P:Int)(G H I J d e f g:Bool)(i:LL)(y:By)(D C:Bool)(j:LL)(c z:By)(m:Int)(A:By)(n o p q r t u v w x:Int)(B:By)(b h F:Bool)(l:LL)(K:Bool->Bool->Bool->LL->Int->Int->Bool->Bool->Bool->Bool->Bool->Bool->Bool->Bool->LL->By->Bool->Bool->LL->By->By->Int->By->Int->Int->Int->Int->Int->Int->Int->Int->Int->Int->By->Bool->Bool->Bool->LL->Option R)(M:Bool->Bool->Bool->LL->Int->Int->Bool->Bool->Bool->Bool->Bool->Bool->Bool->Bool->Bool->LL->By->Bool->Bool->LL->By->By->Int->By->Int->Int->Int->Int->Int->Int->Int->Int->Int->Int->By->Bool->Bool->Bool->LL->Option R):Option R:=
 cond b
 (Eg a T S N O P (E9 c) G H I J d e f g i y D C j c z m A n o p q r t u v w x B b h F l K M)
 (Eg a T S N O P false G H I J d e f g i y D C j c z m A n o p q r t u v w x B b h F l K M)
abbrev Lx(b:Code):Prop:=∀(k:Out->St W->Option R) a S P M N O H I J K c d e f v A G F w B r y C z h i j l m n o p q D u g t x,A7 (H3 L) Q Y b ⟨gp [(2,.ptr 1 0 0),(1,.ptr 3 0 0),(0,pB a),(2,.ptr 7 0 0),(1,.ptr 9 0 0),(10,.s (.sl S P 2 M)),(0,pI N),(0,pI O)] 83,[.arr true 9 1 [],.box [pB H,pB I,pB J,pB K,.fl 0],.arr true 9 1 [],.box [pB c,pB d,pB e,pB f,.fl 4],.arr true 9 1 v,.arr true 9 1 [],.box [pS A,.s (.sl G F 1 w)],(bU B r y C z h i j l m n o p q D),.arr true 9 1 [],.box [pB u,pB g,.s (.sl t t 1 x)]],s⟩ k =
 Eh a S P M N O H I J K c d e f v A G F w B r y C z h i j l m n o p q D u g t x (λa S P M N O H I J K c d e f v A G F w B r y C z h i j l m n o p q D u g t x=>k .normal ⟨gp [(2,.ptr 1 0 0),(1,.ptr 3 0 0),(0,pB a),(15,.s (.sl S P 2 M)),(0,pI N),(0,pI O)] 83,[.arr true 9 1 [],.box [pB H,pB I,pB J,pB K,.fl 0],.arr true 9 1 [],.box [pB c,pB d,pB e,pB f,.fl 4],.arr true 9 1 v,.arr true 9 1 [],.box [pS A,.s (.sl G F 1 w)],(bU B r y C z h i j l m n o p q D),.arr true 9 1 [],.box [pB u,pB g,.s (.sl t t 1 x)]],s⟩) (λa S P M N O H I J K c d e f U X a3 a8 a7 Z r a4 a1 a5 h i j l m n o p q a2 a6 g V T a0=>k .normal ⟨gp [(2,.ptr 1 0 0),(1,.ptr 3 0 0),(0,pB a),(2,.ptr 7 0 0),(12,.s (.sl S P 2 M)),(0,pI N),(0,pI O),(65,pB H)] 17,[.arr true 9 1 [],.box [pB I,pB J,pB K,pB c,.fl 0],.arr true 9 1 [],.box [pB d,pB e,pB f,pB U,.fl 4],.arr true 9 1 X,.arr true 9 1 [],.box [pS a3,.s (.sl a8 a7 1 Z)],(bU r a4 a1 a5 h i j l m n o p q a2 a6),.arr true 9 1 [],.box [pB g,pB V,.s (.sl T T 1 a0)]],s⟩)
theorem OF(a:Code)(c:Lw (R:=R) L Q Y s a)(b:Xl (R:=R) L Q Y s a):Lx (R:=R) L Q Y s (cd [1,1,1,1,0,1,0,0,1,1,0,0,1,1,1,1,1,1,1,1,1,1] (K3 [1,1,1,1,0,1,0,0,1,1,0,0,1,1,1,1,1,1,1,1,1,1,1] a F0)):=by intro k d U T O P S J K M N e f g h l A H G m B C o D p q r t u v w x y z F i j I n;unfold Eh;simp only[<-b k];kernel_rfl
theorem OG:Lx (R:=R) L Q Y s (cd [1,1,1,1,0,1,0,0,1,1,0,0,1,1,1,1,1,1,1,1,1,1] F0):=by intro k a P O K M N G H I J b c d e h x D C i y z l A m n o p q r t u v w B f g F j;exact k9 (by kernel_rfl) (OF L Q Y s (cd [1,1,1,1,0,1,0,0,1,1,0,0,1,1,1,1,1,1,1,1,1,1,1] F0) (Re L Q Y s) (OE L Q Y s) k a P O K M N G H I J b c d e h x D C i y z l A m n o p q r t u v w B f g F j)
noncomputable def Ei{R:Type}(a T S:Bool)(N:LL)(O P:Int)(G H I J c d e F:Bool)(g:LL)(w:By)(C B:Bool)(h:LL)(x y:By)(j:Int)(z:By)(l m n o p q r t u v:Int)(A:By)(f b D:Bool)(i:LL)(K:Bool->Bool->Bool->LL->Int->Int->Bool->Bool->Bool->Bool->Bool->Bool->Bool->Bool->LL->By->Bool->Bool->LL->By->By->Int->By->Int->Int->Int->Int->Int->Int->Int->Int->Int->Int->By->Bool->Bool->Bool->LL->Option R)(M:Bool->Bool->Bool->LL->Int->Int->Bool->Bool->Bool->Bool->Bool->Bool->Bool->Bool->Bool->LL->By->Bool->Bool->LL->By->By->Int->By->Int->Int->Int->Int->Int->Int->Int->Int->Int->Int->By->Bool->Bool->Bool->LL->Option R):Option R:=
 cond F
 (Eh a T S N O P G H I J c d e true g w C B h x y j z l m n o p q r t u v A f b D i K M)
 (Eh a T S N O P G H I J c d e b g w C B h x y j z l m n o p q r t u v A f b D i K M)
abbrev Ly(b:Code):Prop:=∀(k:Out->St W->Option R) a S P M N O H I J K c d e f v A G F w B r y C z h i j l m n o p q D u g t x,A7 (H3 L) Q Y b ⟨gp [(2,.ptr 1 0 0),(1,.ptr 3 0 0),(0,pB a),(2,.ptr 7 0 0),(1,.ptr 9 0 0),(10,.s (.sl S P 2 M)),(0,pI N),(0,pI O)] 83,[.arr true 9 1 [],.box [pB H,pB I,pB J,pB K,.fl 0],.arr true 9 1 [],.box [pB c,pB d,pB e,pB f,.fl 4],.arr true 9 1 v,.arr true 9 1 [],.box [pS A,.s (.sl G F 1 w)],(bU B r y C z h i j l m n o p q D),.arr true 9 1 [],.box [pB u,pB g,.s (.sl t t 1 x)]],s⟩ k =
 Ei a S P M N O H I J K c d e f v A G F w B r y C z h i j l m n o p q D u g t x (λa S P M N O H I J K c d e f v A G F w B r y C z h i j l m n o p q D u g t x=>k .normal ⟨gp [(2,.ptr 1 0 0),(1,.ptr 3 0 0),(0,pB a),(15,.s (.sl S P 2 M)),(0,pI N),(0,pI O)] 83,[.arr true 9 1 [],.box [pB H,pB I,pB J,pB K,.fl 0],.arr true 9 1 [],.box [pB c,pB d,pB e,pB f,.fl 4],.arr true 9 1 v,.arr true 9 1 [],.box [pS A,.s (.sl G F 1 w)],(bU B r y C z h i j l m n o p q D),.arr true 9 1 [],.box [pB u,pB g,.s (.sl t t 1 x)]],s⟩) (λa S P M N O H I J K c d e f U X a3 a8 a7 Z r a4 a1 a5 h i j l m n o p q a2 a6 g V T a0=>k .normal ⟨gp [(2,.ptr 1 0 0),(1,.ptr 3 0 0),(0,pB a),(2,.ptr 7 0 0),(12,.s (.sl S P 2 M)),(0,pI N),(0,pI O),(65,pB H)] 17,[.arr true 9 1 [],.box [pB I,pB J,pB K,pB c,.fl 0],.arr true 9 1 [],.box [pB d,pB e,pB f,pB U,.fl 4],.arr true 9 1 X,.arr true 9 1 [],.box [pS a3,.s (.sl a8 a7 1 Z)],(bU r a4 a1 a5 h i j l m n o p q a2 a6),.arr true 9 1 [],.box [pB g,pB V,.s (.sl T T 1 a0)]],s⟩)
theorem OH(a:Code)(c:Gj (R:=R) L Q Y s a)(b:Lx (R:=R) L Q Y s a):Ly (R:=R) L Q Y s (cd [1,1,1,1,0,1,0,0,1,1,0,0,1,1,1,1,1,1,1,1,1] (K3 [1,1,1,1,0,1,0,0,1,1,0,0,1,1,1,1,1,1,1,1,1,1] a F0)):=by intro k d U T O P S J K M N e f g h l A H G m B C o D p q r t u v w x y z F i j I n;unfold Ei;simp only[<-b k];kernel_rfl
theorem OI:Ly (R:=R) L Q Y s (cd [1,1,1,1,0,1,0,0,1,1,0,0,1,1,1,1,1,1,1,1,1] F0):=by intro k a P O K M N G H I J b c d e h x D C i y z l A m n o p q r t u v w B f g F j;exact k9 (by kernel_rfl) (OH L Q Y s (cd [1,1,1,1,0,1,0,0,1,1,0,0,1,1,1,1,1,1,1,1,1,1] F0) (Rf L Q Y s) (OG L Q Y s) k a P O K M N G H I J b c d e h x D C i y z l A m n o p q r t u v w B f g F j)
noncomputable def T4{R:Type}(a T S:Bool)(N:LL)(O P:Int)(G H I J c d F e:Bool)(g:LL)(w:By)(C B:Bool)(h:LL)(x y:By)(j:Int)(z:By)(l m n o p q r t u v:Int)(A:By)(b f D:Bool)(i:LL)(K:Bool->Bool->Bool->LL->Int->Int->Bool->Bool->Bool->Bool->Bool->Bool->Bool->Bool->LL->By->Bool->Bool->LL->By->By->Int->By->Int->Int->Int->Int->Int->Int->Int->Int->Int->Int->By->Bool->Bool->Bool->LL->Option R)(M:Bool->Bool->Bool->LL->Int->Int->Bool->Bool->Bool->Bool->Bool->Bool->Bool->Bool->Bool->LL->By->Bool->Bool->LL->By->By->Int->By->Int->Int->Int->Int->Int->Int->Int->Int->Int->Int->By->Bool->Bool->Bool->LL->Option R):Option R:=
 cond F
 (Ei a T S N O P G H I J c d true e g w C B h x y j z l m n o p q r t u v A b f D i K M)
 (Ei a T S N O P G H I J c d b e g w C B h x y j z l m n o p q r t u v A b f D i K M)
abbrev Gm(b:Code):Prop:=∀(k:Out->St W->Option R) a S P M N O H I J K c d e f v A G F w B r y C z h i j l m n o p q D u g t x,A7 (H3 L) Q Y b ⟨gp [(2,.ptr 1 0 0),(1,.ptr 3 0 0),(0,pB a),(2,.ptr 7 0 0),(1,.ptr 9 0 0),(10,.s (.sl S P 2 M)),(0,pI N),(0,pI O)] 83,[.arr true 9 1 [],.box [pB H,pB I,pB J,pB K,.fl 0],.arr true 9 1 [],.box [pB c,pB d,pB e,pB f,.fl 4],.arr true 9 1 v,.arr true 9 1 [],.box [pS A,.s (.sl G F 1 w)],(bU B r y C z h i j l m n o p q D),.arr true 9 1 [],.box [pB u,pB g,.s (.sl t t 1 x)]],s⟩ k =
 T4 a S P M N O H I J K c d e f v A G F w B r y C z h i j l m n o p q D u g t x (λa S P M N O H I J K c d e f v A G F w B r y C z h i j l m n o p q D u g t x=>k .normal ⟨gp [(2,.ptr 1 0 0),(1,.ptr 3 0 0),(0,pB a),(15,.s (.sl S P 2 M)),(0,pI N),(0,pI O)] 83,[.arr true 9 1 [],.box [pB H,pB I,pB J,pB K,.fl 0],.arr true 9 1 [],.box [pB c,pB d,pB e,pB f,.fl 4],.arr true 9 1 v,.arr true 9 1 [],.box [pS A,.s (.sl G F 1 w)],(bU B r y C z h i j l m n o p q D),.arr true 9 1 [],.box [pB u,pB g,.s (.sl t t 1 x)]],s⟩) (λa S P M N O H I J K c d e f U X a3 a8 a7 Z r a4 a1 a5 h i j l m n o p q a2 a6 g V T a0=>k .normal ⟨gp [(2,.ptr 1 0 0),(1,.ptr 3 0 0),(0,pB a),(2,.ptr 7 0 0),(12,.s (.sl S P 2 M)),(0,pI N),(0,pI O),(65,pB H)] 17,[.arr true 9 1 [],.box [pB I,pB J,pB K,pB c,.fl 0],.arr true 9 1 [],.box [pB d,pB e,pB f,pB U,.fl 4],.arr true 9 1 X,.arr true 9 1 [],.box [pS a3,.s (.sl a8 a7 1 Z)],(bU r a4 a1 a5 h i j l m n o p q a2 a6),.arr true 9 1 [],.box [pB g,pB V,.s (.sl T T 1 a0)]],s⟩)
theorem OJ(a:Code)(c:Gk (R:=R) L Q Y s a)(b:Ly (R:=R) L Q Y s a):Gm (R:=R) L Q Y s (cd [1,1,1,1,0,1,0,0,1,1,0,0,1,1,1,1,1,1,1,1] (K3 [1,1,1,1,0,1,0,0,1,1,0,0,1,1,1,1,1,1,1,1,1] a F0)):=by intro k d U T O P S J K M N e f g h l A H G m B C o D p q r t u v w x y z F i j I n;unfold T4;simp only[<-b k];kernel_rfl
theorem Ri:Gm (R:=R) L Q Y s (cd [1,1,1,1,0,1,0,0,1,1,0,0,1,1,1,1,1,1,1,1] F0):=by intro k a P O K M N G H I J b c d e h x D C i y z l A m n o p q r t u v w B f g F j;exact k9 (by kernel_rfl) (OJ L Q Y s (cd [1,1,1,1,0,1,0,0,1,1,0,0,1,1,1,1,1,1,1,1,1] F0) (Rg L Q Y s) (OI L Q Y s) k a P O K M N G H I J b c d e h x D C i y z l A m n o p q r t u v w B f g F j)
noncomputable def Ej{R:Type}(a z1 t2:Bool)(l3:LL)(n4 n5:Int)(b6 b7 b8 b9 q8 q7 f g:Bool)(j:LL)(z:By)(G F:Bool)(l:LL)(A B:By)(n:Int)(C:By)(o p q r t u v w x y:Int)(D:By)(h i H:Bool)(m:LL)(k0:Bool->Bool->Bool->LL->Int->Int->Bool->Bool->Bool->Bool->Bool->Bool->Bool->Bool->LL->By->Bool->Bool->LL->By->By->Int->By->Int->Int->Int->Int->Int->Int->Int->Int->Int->Int->By->Bool->Bool->Bool->LL->Option R)(k1:Bool->Bool->Bool->LL->Int->Int->Bool->Bool->Bool->Bool->Bool->Bool->Bool->Bool->Bool->LL->By->Bool->Bool->LL->By->By->Int->By->Int->Int->Int->Int->Int->Int->Int->Int->Int->Int->By->Bool->Bool->Bool->LL->Option R):Option R:=
 cond q8
 (cond q7
  (Ef a z1 t2 l3 n4 n5 b6 b7 b8 b9 true f g j z G F l A B n C o p q r t u v w x y D h i H m (λb p2 n7 d1 e8 e9 I J K M N O P d2 l4 p3 n9 d3 l5 l6 f0 l7 f1 f2 f3 f4 f5 f6 f7 f8 f9 g0 l8 S T p4 d4=>k0 b p2 n7 d1 e8 e9 I J K M b N O P d2 l4 p3 n9 d3 l5 l6 f0 l7 f1 f2 f3 f4 f5 f6 f7 f8 f9 g0 l8 S T p4 d4) (λc p5 o1 d5 g1 g2 U V X Z a0 a1 a2 a3 d6 l9 p6 o2 d7 m0 m1 g3 m2 g4 g5 g6 g7 g8 g9 h0 h1 h2 h3 m3 a4 a5 q0 d8=>k1 c p5 o1 d5 g1 g2 U V X Z a0 c a1 a2 a3 d6 l9 p6 o2 d7 m0 m1 g3 m2 g4 g5 g6 g7 g8 g9 h0 h1 h2 h3 m3 a4 a5 q0 d8))
  (Ef a z1 t2 l3 n4 n5 b6 b7 b8 b9 a f g j z G F l A B n C o p q r t u v w x y D h i H m (λd q1 o3 d9 h4 h5 a6 a7 a8 a9 b0 b1 b2 e1 m4 q2 o4 e2 m5 m6 h6 m7 h7 h8 h9 i0 i1 i2 i3 i4 i5 i6 m8 b3 b4 q3 e3=>k0 d q1 o3 d9 h4 h5 a6 a7 a8 a9 d b0 b1 b2 e1 m4 q2 o4 e2 m5 m6 h6 m7 h7 h8 h9 i0 i1 i2 i3 i4 i5 i6 m8 b3 b4 q3 e3) (λe q4 p0 e4 i7 i9 b5 c0 c1 c2 c3 c4 c5 c6 e5 m9 q5 p1 e6 n1 n2 j3 n3 k2 k3 k4 k5 k6 k7 k8 l0 l1 l2 n6 c7 d0 q6 e7=>k1 e q4 p0 e4 i7 i9 b5 c0 c1 c2 c3 e c4 c5 c6 e5 m9 q5 p1 e6 n1 n2 j3 n3 k2 k3 k4 k5 k6 k7 k8 l0 l1 l2 n6 c7 d0 q6 e7)))
 (cond q7
  (T4 a z1 t2 l3 n4 n5 b6 b7 b8 b9 false true f g j z G F l A B n C o p q r t u v w x y D h i H m k0 k1)
  (T4 a z1 t2 l3 n4 n5 b6 b7 b8 b9 false a f g j z G F l A B n C o p q r t u v w x y D h i H m k0 k1))
abbrev Gn(b:Code):Prop:=∀(k:Out->St W->Option R) a S P M N O H I J K c d e f v A G F w B r y C z h i j l m n o p q D u g t x,A7 (H3 L) Q Y b ⟨gp [(2,.ptr 1 0 0),(1,.ptr 3 0 0),(0,pB a),(2,.ptr 7 0 0),(1,.ptr 9 0 0),(10,.s (.sl S P 2 M)),(0,pI N),(0,pI O)] 83,[.arr true 9 1 [],.box [pB H,pB I,pB J,pB K,.fl 0],.arr true 9 1 [],.box [pB c,pB d,pB e,pB f,.fl 4],.arr true 9 1 v,.arr true 9 1 [],.box [pS A,.s (.sl G F 1 w)],(bU B r y C z h i j l m n o p q D),.arr true 9 1 [],.box [pB u,pB g,.s (.sl t t 1 x)]],s⟩ k =
 Ej a S P M N O H I J K c d e f v A G F w B r y C z h i j l m n o p q D u g t x (λa S P M N O H I J K c d e f v A G F w B r y C z h i j l m n o p q D u g t x=>k .normal ⟨gp [(2,.ptr 1 0 0),(1,.ptr 3 0 0),(0,pB a),(15,.s (.sl S P 2 M)),(0,pI N),(0,pI O)] 83,[.arr true 9 1 [],.box [pB H,pB I,pB J,pB K,.fl 0],.arr true 9 1 [],.box [pB c,pB d,pB e,pB f,.fl 4],.arr true 9 1 v,.arr true 9 1 [],.box [pS A,.s (.sl G F 1 w)],(bU B r y C z h i j l m n o p q D),.arr true 9 1 [],.box [pB u,pB g,.s (.sl t t 1 x)]],s⟩) (λa S P M N O H I J K c d e f U X a3 a8 a7 Z r a4 a1 a5 h i j l m n o p q a2 a6 g V T a0=>k .normal ⟨gp [(2,.ptr 1 0 0),(1,.ptr 3 0 0),(0,pB a),(2,.ptr 7 0 0),(12,.s (.sl S P 2 M)),(0,pI N),(0,pI O),(65,pB H)] 17,[.arr true 9 1 [],.box [pB I,pB J,pB K,pB c,.fl 0],.arr true 9 1 [],.box [pB d,pB e,pB f,pB U,.fl 4],.arr true 9 1 X,.arr true 9 1 [],.box [pS a3,.s (.sl a8 a7 1 Z)],(bU r a4 a1 a5 h i j l m n o p q a2 a6),.arr true 9 1 [],.box [pB g,pB V,.s (.sl T T 1 a0)]],s⟩)
theorem OK(a:Code)(b:Gl (R:=R) L Q Y s a)(c:Gm (R:=R) L Q Y s a):Gn (R:=R) L Q Y s (cd [1,1,1,1,0,1,0,0,1,1,0,0,1,1,1,1,1,1] (K3 [1,1,1,1,0,1,0,0,1,1,0,0,1,1,1,1,1,1,1,1] a F0)):=by intro k d U T O P S J K M N e f g h l A H G m B C o D p q r t u v w x y z F i j I n;unfold Ej;simp only[<-b k,<-c k];kernel_rfl
theorem OL:Gn (R:=R) L Q Y s (cd [1,1,1,1,0,1,0,0,1,1,0,0,1,1,1,1,1,1] F0):=by intro k a P O K M N G H I J b c d e h x D C i y z l A m n o p q r t u v w B f g F j;exact k9 (by kernel_rfl) (OK L Q Y s (cd [1,1,1,1,0,1,0,0,1,1,0,0,1,1,1,1,1,1,1,1] F0) (Rh L Q Y s) (Ri L Q Y s) k a P O K M N G H I J b c d e h x D C i y z l A m n o p q r t u v w B f g F j)
noncomputable def Ie{R:Type}(a S P:Bool)(M:LL)(N O:Int)(G H I b T F c d:Bool)(g:LL)(w:By)(C B:Bool)(h:LL)(x y:By)(j:Int)(z:By)(l m n o p q r t u v:Int)(A:By)(e f D:Bool)(i:LL)(J:Bool->Bool->Bool->LL->Int->Int->Bool->Bool->Bool->Bool->Bool->Bool->Bool->Bool->LL->By->Bool->Bool->LL->By->By->Int->By->Int->Int->Int->Int->Int->Int->Int->Int->Int->Int->By->Bool->Bool->Bool->LL->Option R)(K:Bool->Bool->Bool->LL->Int->Int->Bool->Bool->Bool->Bool->Bool->Bool->Bool->Bool->Bool->LL->By->Bool->Bool->LL->By->By->Int->By->Int->Int->Int->Int->Int->Int->Int->Int->Int->Int->By->Bool->Bool->Bool->LL->Option R):Option R:=
 cond T
 (cond F
  (T4 a S P M N O G H I b a true c d g w C B h x y j z l m n o p q r t u v A e f D i J K)
  (T4 a S P M N O G H I b a a c d g w C B h x y j z l m n o p q r t u v A e f D i J K))
 (cond F
  (T4 a S P M N O G H I b false true c d g w C B h x y j z l m n o p q r t u v A e f D i J K)
  (T4 a S P M N O G H I b false a c d g w C B h x y j z l m n o p q r t u v A e f D i J K))
abbrev Gp(b:Code):Prop:=∀(k:Out->St W->Option R) a S P M N O T I J K c d e f u w B H G x r C z D h i j l m n o p q A F g v t y,A7 (H3 L) Q Y b ⟨gp [(2,.ptr 1 0 0),(1,.ptr 3 0 0),(0,pB a),(2,.ptr 7 0 0),(1,.ptr 9 0 0),(10,.s (.sl S P 2 M)),(0,pI N),(0,pI O),(25,pB T)] 57,[.arr true 9 1 [],.box [pB I,pB J,pB K,pB c,.fl 0],.arr true 9 1 [],.box [pB d,pB e,pB f,pB u,.fl 4],.arr true 9 1 w,.arr true 9 1 [],.box [pS B,.s (.sl H G 1 x)],(bU r C z D h i j l m n o p q A F),.arr true 9 1 [],.box [pB g,pB v,.s (.sl t t 1 y)]],s⟩ k =
 Ie a S P M N O I J K c d e f u w B H G x r C z D h i j l m n o p q A F g v t y (λa S P M N O T I J K c d e f X a3 a8 a7 Z a4 r a1 a5 a2 h i j l m n o p q a6 V g U a0=>k .normal ⟨gp [(2,.ptr 1 0 0),(1,.ptr 3 0 0),(0,pB a),(15,.s (.sl S P 2 M)),(0,pI N),(0,pI O)] 83,[.arr true 9 1 [],.box [pB T,pB I,pB J,pB K,.fl 0],.arr true 9 1 [],.box [pB c,pB d,pB e,pB f,.fl 4],.arr true 9 1 X,.arr true 9 1 [],.box [pS a3,.s (.sl a8 a7 1 Z)],(bU a4 r a1 a5 a2 h i j l m n o p q a6),.arr true 9 1 [],.box [pB V,pB g,.s (.sl U U 1 a0)]],s⟩) (λa S P M N O T I J K c d e f u w B H G x r C z D h i j l m n o p q A F g v t y=>k .normal ⟨gp [(2,.ptr 1 0 0),(1,.ptr 3 0 0),(0,pB a),(2,.ptr 7 0 0),(12,.s (.sl S P 2 M)),(0,pI N),(0,pI O),(65,pB T)] 17,[.arr true 9 1 [],.box [pB I,pB J,pB K,pB c,.fl 0],.arr true 9 1 [],.box [pB d,pB e,pB f,pB u,.fl 4],.arr true 9 1 w,.arr true 9 1 [],.box [pS B,.s (.sl H G 1 x)],(bU r C z D h i j l m n o p q A F),.arr true 9 1 [],.box [pB g,pB v,.s (.sl t t 1 y)]],s⟩)
theorem OM(a:Code)(c:Gl (R:=R) L Q Y s a)(b:Gm (R:=R) L Q Y s a):Gp (R:=R) L Q Y s (cd [1,1,1,1,0,1,0,0,1,1,0,0,1,1,1,1,1,1] (K3 [1,1,1,1,0,1,0,0,1,1,0,0,1,1,1,1,1,1,1,1] a F0)):=by intro k d V U P S T K M N O e f g h i m B I H n C D p F q r t u v w x y z A G j l J o;unfold Ie;simp only[<-b k];kernel_rfl
theorem ON:Gp (R:=R) L Q Y s (cd [1,1,1,1,0,1,0,0,1,1,0,0,1,1,1,1,1,1] F0):=by intro k a S P M N O H I J K b c d e f i y F D j z A m B n o p q r t u v w x C g h G l;exact k9 (by kernel_rfl) (OM L Q Y s (cd [1,1,1,1,0,1,0,0,1,1,0,0,1,1,1,1,1,1,1,1] F0) (Rh L Q Y s) (Ri L Q Y s) k a S P M N O H I J K b c d e f i y F D j z A m B n o p q r t u v w x C g h G l)
noncomputable def G7{R:Type}(L n:Nat)(t z1 t2:Bool)(d:LL)(n4 c:Int)(b6 b7 b8 b9 m o p q:Bool)(r:LL)(k0:Int->Blk->Bool->Bool->Bool->Bool->Blk->Blk->Blk->Blk->Blk->Blk->(List Blk)->Option R)(k1:Int->Blk->Bool->Bool->Bool->Bool->Blk->Blk->Blk->Blk->Blk->Blk->Blk->Blk->(List Blk)->Option R)(k2:Bool->Bool->Bool->Bool->Bool->Bool->Bool->Bool->LL->Option R):Option R:=match n with
 | 0=>none
 | n+1=>
  cond (ltI c n4)
   (cond (inR c d.length)
   (cond (okE ⟨true,true,[.str,.sl 1]⟩ d (j1 c) 0)
    (vl (SV.gE (gC d (j1 c) 1)) λl=>
    cond (A2 (z7 (gX d (j1 c) 0)))
     (vl (C5 (gX d (j1 c) 0)) λa=>
     cond ((uE a)!=0)
      (k0 (uE a) (Blk.arr true 9 1 []) false false false false (Blk.arr true 9 1 []) (Blk.box [(PV.s (SV.bool m)),(PV.s (SV.bool o)),(PV.s (SV.bool p)),(PV.s (SV.bool q)),(PV.fl 4)]) (Blk.arr true 9 1 r) (Blk.arr true 9 1 []) (Blk.box [(PV.s (SV.str (gX d (j1 c) 0))),(PV.s (SV.sl (SV.gZ (gC d (j1 c) 1)) (SV.gT (gC d (j1 c) 1)) 1 l))]) (bQ a) [])
      (cond (o9 l isS)
      (cond (af7 l.length 1000)
       (vl (G0 (p9 elS l)) λb=>
       cond ((b).2 !=0)
        (k1 (b).2 (Blk.arr true 9 1 []) false false false false (Blk.arr true 9 1 []) (Blk.box [(PV.s (SV.bool m)),(PV.s (SV.bool o)),(PV.s (SV.bool p)),(PV.s (SV.bool q)),(PV.fl 4)]) (Blk.arr true 9 1 r) (Blk.arr true 9 1 []) (Blk.box [(PV.s (SV.str (gX d (j1 c) 0))),(PV.s (SV.sl (SV.gZ (gC d (j1 c) 1)) (SV.gT (gC d (j1 c) 1)) 1 l))]) (bQ a) (Blk.arr true 9 1 []) (Blk.box [(PV.s (SV.bool (N5 (b).1 GF))),(PV.s (SV.bool (N5 (b).1 Ra))),(PV.s (SV.sl (x9 (b).1) (x9 (b).1) 1 (A6 (b).1)))]) [])
        (cond (not ((uS a)==[97,98,111,117,116]))
        (cond (E9 (uS a))
         (cond (smU (uS a) (uU a) (uN a) (uR a))
         (cond (ltN (uV a) 4294967296)
          (cond (okQ a)
          (cond (Lc (uP a))
           (Ej (Wz (uS a) (uU a) (uK a) (uN a) (uV a) (uA a 0) (uA a 1) (uA a 2) (uA a 3) (uA a 4) (uA a 5) (uA a 6) (uA a 7) (uP a) (uR a)) z1 t2 d n4 c b6 b7 b8 b9 m o p q r (gX d (j1 c) 0) (SV.gZ (gC d (j1 c) 1)) (SV.gT (gC d (j1 c) 1)) l (uS a) (uU a) (uK a) (uN a) (uV a) (uA a 0) (uA a 1) (uA a 2) (uA a 3) (uA a 4) (uA a 5) (uA a 6) (uA a 7) (uP a) (uR a) (N5 (b).1 GF) (N5 (b).1 Ra) (x9 (b).1) (A6 (b).1) (λe g5 f9 c6 e1 e2 u v w x y z A B c7 t6 z5 y4 i6 t7 t8 l2 t9 l4 l5 l6 l7 l8 l9 m0 m1 m2 m3 u0 h1 h2 z6 i7=>vl (A4 (e2+1)) λe5=>
           G7 L n e g5 f9 c6 e1 e5 u v w x y z A B c7 k0 k1 k2) (λf g6 g0 d0 e3 e4 h3 C D F G H I J K d1 u1 z9 y6 i9 u2 u3 m4 u4 m5 m6 m7 m8 m9 n1 n2 n3 n6 n7 u5 h4 h5 z'1299 j3=>vl (A4 (e4+1)) λe6=>
           G7 L n f g6 g0 d0 e3 e6 C D F G H I J K d1 k0 k1 k2))
           none)
          none)
          none)
         none)
         (Ej false z1 t2 d n4 c b6 b7 b8 b9 m o p q r (gX d (j1 c) 0) (SV.gZ (gC d (j1 c) 1)) (SV.gT (gC d (j1 c) 1)) l (uS a) (uU a) (uK a) (uN a) (uV a) (uA a 0) (uA a 1) (uA a 2) (uA a 3) (uA a 4) (uA a 5) (uA a 6) (uA a 7) (uP a) (uR a) (N5 (b).1 GF) (N5 (b).1 Ra) (x9 (b).1) (A6 (b).1) (λg g7 g1 d2 e7 e8 M N O P S T U V d3 u6 z'1319 z0 k3 u7 u9 n9 v2 o1 o2 o3 o4 p0 p1 p2 p3 p4 p5 v3 h6 h7 z'1339 k4=>vl (A4 (e8+1)) λf1=>
         G7 L n g g7 g1 d2 e7 f1 M N O P S T U V d3 k0 k1 k2) (λh g8 g2 d4 e9 f0 h8 X Z a0 a1 a2 a3 a4 a5 d5 v5 z'1358 z2 k5 v9 w0 p6 w2 q0 q1 q2 q3 q4 q5 q6 q7 q8 q9 w3 h9 i0 z'1378 k6=>vl (A4 (f0+1)) λf2=>
         G7 L n h g8 g2 d4 e9 f2 X Z a0 a1 a2 a3 a4 a5 d5 k0 k1 k2)))
        (Ie t z1 t2 d n4 c b6 b7 b8 b9 m o p q r (gX d (j1 c) 0) (SV.gZ (gC d (j1 c) 1)) (SV.gT (gC d (j1 c) 1)) l (uS a) (uU a) (uK a) (uN a) (uV a) (uA a 0) (uA a 1) (uA a 2) (uA a 3) (uA a 4) (uA a 5) (uA a 6) (uA a 7) (uP a) (uR a) (N5 (b).1 GF) (N5 (b).1 Ra) (x9 (b).1) (A6 (b).1) (λi g9 g3 d6 f3 f4 a6 a7 a8 a9 b0 b1 b2 b3 d7 w4 z'1706 z3 k7 w5 x0 r0 x1 r1 r2 r3 r4 r5 r6 r7 r9 s0 s1 x2 i1 i2 z'1726 k8=>vl (A4 (f4+1)) λf7=>
         G7 L n i g9 g3 d6 f3 f7 a6 a7 a8 a9 b0 b1 b2 b3 d7 k0 k1 k2) (λj h0 g4 d8 f5 f6 i3 b4 b5 c0 c1 c2 c3 c4 c5 d9 x3 z'1745 z4 l0 y0 y1 s2 y2 s3 s4 s5 s6 s7 t0 t1 t3 t4 t5 y3 i4 i5 z'1765 l1=>vl (A4 (f6+1)) λf8=>
         G7 L n j h0 g4 d8 f5 f8 b4 b5 c0 c1 c2 c3 c4 c5 d9 k0 k1 k2))))
       none)
      none))
     none)
    none)
   none)
   (k2 b6 b7 b8 b9 m o p q r)
theorem OO(b:Code)(d:Gn (R:=R) L Q Y s b)(m:Gp (R:=R) L Q Y s b)(n:Nat)(c z1 t2:Bool)(o:LL)(n4 p:Int)(b6 b7 b8 b9 q r t u:Bool)(v:LL):G1 5 ((H3 L).keep 6) (bd (H3 L) Q Y (cd [1,1,1,1,0,1,0,0] (K3 [1,1,1,1,0,1,0,0,1,1,0,0,1,1,1,1,1,1] b F0))) n ⟨gp [(2,.ptr 1 0 0),(1,.ptr 3 0 0),(0,pB c),(15,.s (.sl z1 t2 2 o)),(0,pI n4),(0,pI p)] 83,[.arr true 9 1 [],.box [pB b6,pB b7,pB b8,pB b9,.fl 0],.arr true 9 1 [],.box [pB q,pB r,pB t,pB u,.fl 4],.arr true 9 1 v],s⟩ k =
 G7 L n c z1 t2 o n4 p b6 b7 b8 b9 q r t u v (λn0 B1 b2 b3 b4 b5 B6 B7 B8 B9 h3 h4 H12=>k .ret ⟨gp [(2,.ptr 1 0 0),(0,pI n0)] 103,(B1::.box [pB b2,pB b3,pB b4,pB b5,.fl 8]::B6::B7::B8::B9::h3::h4::.arr true 9 1 []::H12),s⟩) (λn0 B1 b2 b3 b4 b5 B6 B7 B8 B9 h3 h4 B12 B13 H14=>k .ret ⟨gp [(2,.ptr 1 0 0),(0,pI n0)] 103,(B1::.box [pB b2,pB b3,pB b4,pB b5,.fl 10]::B6::B7::B8::B9::h3::h4::B12::B13::.arr true 9 1 []::H14),s⟩) (λb0 b1 b2 b3 b4 b5 b6 b7 l8=>k (.exit 0) ⟨gp [(2,.ptr 1 0 0),(1,.ptr 3 0 0)] 102,[.arr true 9 1 [],.box [pB b0,pB b1,pB b2,pB b3,.fl 0],.arr true 9 1 [],.box [pB b4,pB b5,pB b6,pB b7,.fl 4],.arr true 9 1 l8],s⟩):=by
 induction n generalizing c z1 t2 o n4 p b6 b7 b8 b9 q r t u v with
 | zero=>rfl
 | succ n ih=>rw[G7];exact let K0:=(I1 1 (J0 (H3 L) Q Y (cd [1,1,1,1,0,1,0,0,1,1,1] F0) (lpK 5 ((H3 L).keep 6) (bd (H3 L) Q Y (cd [1,1,1,1,0,1,0,0] (K3 [1,1,1,1,0,1,0,0,1,1,0,0,1,1,1,1,1,1] b F0))) n k)));(k9 (by kernel_rfl) (A0 (A0 (A0 (A5 λh5=>(A0 (A5 λa=>(A0 rfl (A0 (A0 (A5 λe=>(A0 rfl (A0 (A0 (A0 (A0 (A0 (A0 ((d K0 (Wz (uS a) (uU a) (uK a) (uN a) (uV a) (uA a 0) (uA a 1) (uA a 2) (uA a 3) (uA a 4) (uA a 5) (uA a 6) (uA a 7) (uP a) (uR a)) z1 t2 o n4 p b6 b7 b8 b9 q r t u v (gX o (j1 p) 0) (SV.gZ (gC o (j1 p) 1)) (SV.gT (gC o (j1 p) 1)) h5 (uS a) (uU a) (uK a) (uN a) (uV a) (uA a 0) (uA a 1) (uA a 2) (uA a 3) (uA a 4) (uA a 5) (uA a 6) (uA a 7) (uP a) (uR a) (N5 (e).1 GF) (N5 (e).1 Ra) (x9 (e).1) (A6 (e).1)).trans (congr (congr rfl (fx1 λf=>(fx1 λg7=>(fx1 λg1=>(fx1 λd6=>(fx1 λe9=>(fx1 λl5=>(fx1 λw=>(fx1 λx=>(fx1 λy=>(fx1 λz=>(fx1 λA=>(fx1 λB=>(fx1 λC=>(fx1 λD=>(fx1 λd7=>(fx1 λu5=>(fx1 λz'1240=>(fx1 λt'1241=>(fx1 λk1=>(fx1 λu6=>(fx1 λu7=>(fx1 λl6=>(fx1 λu9=>(fx1 λl7=>(fx1 λl9=>(fx1 λm0=>(fx1 λm1=>(fx1 λm2=>(fx1 λm3=>(fx1 λm4=>(fx1 λm5=>(fx1 λm6=>(fx1 λm7=>(fx1 λv2=>(fx1 λh6=>(fx1 λh7=>(fx1 λz'1260=>(fx1 λk2=>(k9 (by kernel_rfl) (A5 λf1=>(ih f g7 g1 d6 e9 f1 w x y z A B C D d7)))))))))))))))))))))))))))))))))))))))))) (fx1 λg=>(fx1 λg8=>(fx1 λg2=>(fx1 λd8=>(fx1 λf0=>(fx1 λm8=>(fx1 λh8=>(fx1 λF=>(fx1 λG=>(fx1 λH=>(fx1 λI=>(fx1 λJ=>(fx1 λK=>(fx1 λM=>(fx1 λN=>(fx1 λd9=>(fx1 λv3=>(fx1 λz'1279=>(fx1 λt'1280=>(fx1 λk3=>(fx1 λv5=>(fx1 λv9=>(fx1 λm9=>(fx1 λw0=>(fx1 λn1=>(fx1 λn2=>(fx1 λn3=>(fx1 λn6=>(fx1 λn7=>(fx1 λn9=>(fx1 λo1=>(fx1 λo2=>(fx1 λo3=>(fx1 λo4=>(fx1 λw2=>(fx1 λh9=>(fx1 λi0=>(fx1 λz'1299=>(fx1 λk4=>(k9 (by kernel_rfl) (A5 λf2=>(ih g g8 g2 d8 f0 f2 F G H I J K M N d9)))))))))))))))))))))))))))))))))))))))))))) rfl) rfl) rfl) rfl) ((d K0 false z1 t2 o n4 p b6 b7 b8 b9 q r t u v (gX o (j1 p) 0) (SV.gZ (gC o (j1 p) 1)) (SV.gT (gC o (j1 p) 1)) h5 (uS a) (uU a) (uK a) (uN a) (uV a) (uA a 0) (uA a 1) (uA a 2) (uA a 3) (uA a 4) (uA a 5) (uA a 6) (uA a 7) (uP a) (uR a) (N5 (e).1 GF) (N5 (e).1 Ra) (x9 (e).1) (A6 (e).1)).trans (congr (congr rfl (fx1 λh=>(fx1 λg9=>(fx1 λg3=>(fx1 λe1=>(fx1 λf3=>(fx1 λp0=>(fx1 λO=>(fx1 λP=>(fx1 λS=>(fx1 λT=>(fx1 λU=>(fx1 λV=>(fx1 λX=>(fx1 λZ=>(fx1 λe2=>(fx1 λw3=>(fx1 λz'1319=>(fx1 λt'1320=>(fx1 λk5=>(fx1 λw4=>(fx1 λw5=>(fx1 λp1=>(fx1 λx0=>(fx1 λp2=>(fx1 λp3=>(fx1 λp4=>(fx1 λp5=>(fx1 λp6=>(fx1 λq0=>(fx1 λq1=>(fx1 λq2=>(fx1 λq3=>(fx1 λq4=>(fx1 λx1=>(fx1 λi1=>(fx1 λi2=>(fx1 λz'1339=>(fx1 λk6=>(k9 (by kernel_rfl) (A5 λf5=>(ih h g9 g3 e1 f3 f5 O P S T U V X Z e2)))))))))))))))))))))))))))))))))))))))))) (fx1 λi=>(fx1 λh0=>(fx1 λg4=>(fx1 λe3=>(fx1 λf4=>(fx1 λq5=>(fx1 λi3=>(fx1 λa0=>(fx1 λa1=>(fx1 λa2=>(fx1 λa3=>(fx1 λa4=>(fx1 λa5=>(fx1 λa6=>(fx1 λa7=>(fx1 λe4=>(fx1 λx2=>(fx1 λz'1358=>(fx1 λt'1359=>(fx1 λk7=>(fx1 λx3=>(fx1 λy0=>(fx1 λq6=>(fx1 λy1=>(fx1 λq7=>(fx1 λq8=>(fx1 λq9=>(fx1 λr0=>(fx1 λr1=>(fx1 λr2=>(fx1 λr3=>(fx1 λr4=>(fx1 λr5=>(fx1 λr6=>(fx1 λy2=>(fx1 λi4=>(fx1 λi5=>(fx1 λz'1378=>(fx1 λk8=>(k9 (by kernel_rfl) (A5 λf6=>(ih i h0 g4 e3 f4 f6 a0 a1 a2 a3 a4 a5 a6 a7 e4))))))))))))))))))))))))))))))))))))))))))))) ((m K0 c z1 t2 o n4 p (not ((uS a)==[97,98,111,117,116])) b6 b7 b8 b9 q r t u v (gX o (j1 p) 0) (SV.gZ (gC o (j1 p) 1)) (SV.gT (gC o (j1 p) 1)) h5 (uS a) (uU a) (uK a) (uN a) (uV a) (uA a 0) (uA a 1) (uA a 2) (uA a 3) (uA a 4) (uA a 5) (uA a 6) (uA a 7) (uP a) (uR a) (N5 (e).1 GF) (N5 (e).1 Ra) (x9 (e).1) (A6 (e).1)).trans (congr (congr rfl (fx1 λj=>(fx1 λh1=>(fx1 λg5=>(fx1 λe5=>(fx1 λf7=>(fx1 λr7=>(fx1 λa8=>(fx1 λa9=>(fx1 λc0=>(fx1 λc1=>(fx1 λc2=>(fx1 λc3=>(fx1 λc4=>(fx1 λc5=>(fx1 λe6=>(fx1 λy3=>(fx1 λz'1706=>(fx1 λt'1707=>(fx1 λl0=>(fx1 λy4=>(fx1 λy6=>(fx1 λr9=>(fx1 λz0=>(fx1 λs0=>(fx1 λs1=>(fx1 λs2=>(fx1 λs3=>(fx1 λs4=>(fx1 λs5=>(fx1 λs6=>(fx1 λs7=>(fx1 λt0=>(fx1 λt1=>(fx1 λz2=>(fx1 λi6=>(fx1 λi7=>(fx1 λz'1726=>(fx1 λl1=>(k9 (by kernel_rfl) (A5 λf9=>(ih j h1 g5 e5 f7 f9 a8 a9 c0 c1 c2 c3 c4 c5 e6)))))))))))))))))))))))))))))))))))))))))) (fx1 λl=>(fx1 λh2=>(fx1 λg6=>(fx1 λe7=>(fx1 λf8=>(fx1 λt3=>(fx1 λi9=>(fx1 λc6=>(fx1 λc7=>(fx1 λd0=>(fx1 λd1=>(fx1 λd2=>(fx1 λd3=>(fx1 λd4=>(fx1 λd5=>(fx1 λe8=>(fx1 λz3=>(fx1 λz'1745=>(fx1 λt'1746=>(fx1 λl2=>(fx1 λz4=>(fx1 λz5=>(fx1 λt4=>(fx1 λz6=>(fx1 λt5=>(fx1 λt6=>(fx1 λt7=>(fx1 λt8=>(fx1 λt9=>(fx1 λu0=>(fx1 λu1=>(fx1 λu2=>(fx1 λu3=>(fx1 λu4=>(fx1 λz9=>(fx1 λj3=>(fx1 λk0=>(fx1 λz'1765=>(fx1 λl4=>(k9 (by kernel_rfl) (A5 λg0=>(ih l h2 g6 e7 f8 g0 c6 c7 d0 d1 d2 d3 d4 d5 e8))))))))))))))))))))))))))))))))))))))))))))))) rfl) rfl))) rfl)) rfl) rfl) rfl))
noncomputable def CS{R:Type}(L:Nat)(h g:Bool)(a:LL)(V:Bool->Bool->Bool->Bool->Blk->Blk->(List Blk)->Option R)(X:Bool->Bool->Bool->Bool->Int->Blk->Blk->Blk->Blk->Blk->Blk->Blk->Blk->(List Blk)->Option R)(Z:Bool->Bool->Bool->Bool->Int->Blk->Blk->Blk->Blk->Blk->Blk->Blk->Blk->Blk->Blk->(List Blk)->Option R)(k3:Bool->Bool->Bool->Bool->Blk->Blk->Blk->Blk->LL->(List Blk)->Option R):Option R:=
 cond ((a.length:Int)==0)
 (V false false false false (Blk.arr true 9 1 []) (Blk.box [(PV.s (SV.bool false)),(PV.s (SV.bool false)),(PV.s (SV.bool false)),(PV.s (SV.bool false)),(PV.fl 2)]) [])
 (cond (ltI 16 (a.length:Int))
  (V false false false false (Blk.arr true 9 1 []) (Blk.box [(PV.s (SV.bool false)),(PV.s (SV.bool false)),(PV.s (SV.bool false)),(PV.s (SV.bool false)),(PV.fl 2)]) [])
  (G7 L L false h g a (a.length:Int) 0 false false false false true false false false [] (λN r i j l m t u v w x y J=>X i j l m N r (Blk.box [(PV.s (SV.bool i)),(PV.s (SV.bool j)),(PV.s (SV.bool l)),(PV.s (SV.bool m)),(PV.fl 8)]) t u v w x y J) (λO z n o p q A B C D F G H I K=>Z n o p q O z (Blk.box [(PV.s (SV.bool n)),(PV.s (SV.bool o)),(PV.s (SV.bool p)),(PV.s (SV.bool q)),(PV.fl 10)]) A B C D F G H I K) (λP S T U c d e f b=>cond ((o9 b isS)&&(A2 b.length))
  (cond (o9 (A6 (Q0 (p9 elS b))) isS)
   (cond (A2 (z7 (A6 (Q0 (p9 elS b)))))
   (vl (A6 (j7 (p9 elS (A6 (Q0 (p9 elS b)))))) λM=>
    k3 c d e f (Blk.arr true 9 1 []) (Blk.box [(PV.s (SV.bool c)),(PV.s (SV.bool d)),(PV.s (SV.bool e)),(PV.s (SV.bool f)),(PV.fl 4)]) (Blk.arr true 9 1 []) (Blk.box [(PV.s (SV.bool c)),(PV.s (SV.bool d)),(PV.s (SV.bool e)),(PV.s (SV.bool f)),(PV.fl 4)]) M [])
   none)
   none)
  none)))
theorem A11(a:Code)(e:Gn (R:=PV × List Blk × W) L Q Y s a)(f:Gp (R:=PV × List Blk × W) L Q Y s a)(c b:Bool)(d:LL):A7 (H3 L) Q Y (cd [] (K3 [1,1,1,1,0,1,0,0,1,1,0,0,1,1,1,1,1,1] a F0)) ⟨[.s (.sl c b 2 d)]++tps 106,[],s⟩ (I6 (H3 L) ag6)=CS L c b d (λl m n o u j A=>some (.tup [.agg [pB l,pB m,pB n,pB o,.fl 2],pI (3:Int)],(u::j::.arr true 9 1 []::A),s)) (λl m n o z j p q v w g h i x=>some (.tup [.agg [pB l,pB m,pB n,pB o,.fl 8],pI z],(j::p::q::v::w::g::h::i::.arr true 9 1 []::x),s)) (λl m n o z j p q v w g h i r t y=>some (.tup [.agg [pB l,pB m,pB n,pB o,.fl 10],pI z],(j::p::q::v::w::g::h::i::r::t::.arr true 9 1 []::y),s)) (λl m n o u j p q C B=>some (.tup [.agg [pB l,pB m,pB n,pB o,.fl 4],pI (0:Int)],(u::j::p::q::.arr true 9 1 C::B),s)):=by unfold CS;exact(k9 (by kernel_rfl) (A0 rfl (A0 rfl ((OO L Q Y s (I1 0 (J0 (H3 L) Q Y (cd [1,1,1,1,1] F0) (I6 (H3 L) ag6))) a e f L false c b d (d.length:Int) 0 false false false false true false false false []).trans (by kernel_rfl)))))
theorem A12(d:Nat)(frames_z0 frames_t1 frames2):evC (H3 L) (d+1) W Y 6 [.s (.sl frames_z0 frames_t1 2 frames2)] [] s=CS L frames_z0 frames_t1 frames2 (λf g h i o e v=>some (.tup [.agg [pB f,pB g,pB h,pB i,.fl 2],pI (3:Int)],(o::e::.arr true 9 1 []::v),s)) (λf g h i u e j l p q a b c r=>some (.tup [.agg [pB f,pB g,pB h,pB i,.fl 8],pI u],(e::j::l::p::q::a::b::c::.arr true 9 1 []::r),s)) (λf g h i u e j l p q a b c m n t=>some (.tup [.agg [pB f,pB g,pB h,pB i,.fl 10],pI u],(e::j::l::p::q::a::b::c::m::n::.arr true 9 1 []::t),s)) (λf g h i o e j l x w=>some (.tup [.agg [pB f,pB g,pB h,pB i,.fl 4],pI (0:Int)],(o::e::j::l::.arr true 9 1 x::w),s)):=
 (evE (fn:=ag6) (by kernel_rfl)).trans (k9 (by kernel_rfl) (A11 L (evC (H3 L) d) Y s (cd [1,1,1,1,0,1,0,0,1,1,0,0,1,1,1,1,1,1] F0) (OL L (evC (H3 L) d) Y s) (ON L (evC (H3 L) d) Y s) frames_z0 frames_t1 frames2))
noncomputable abbrev UN(b a:Bool)(c:LL):Option (PV × List Blk × Unit):=CS LF b a c (λh i j l q g x=>some (.tup [.agg [pB h,pB i,pB j,pB l,.fl 2],pI (3:Int)],(q::g::.arr true 9 1 []::x),())) (λh i j l w g m n r t d e f u=>some (.tup [.agg [pB h,pB i,pB j,pB l,.fl 8],pI w],(g::m::n::r::t::d::e::f::.arr true 9 1 []::u),())) (λh i j l w g m n r t d e f o p v=>some (.tup [.agg [pB h,pB i,pB j,pB l,.fl 10],pI w],(g::m::n::r::t::d::e::f::o::p::.arr true 9 1 []::v),())) (λh i j l q g m n z y=>some (.tup [.agg [pB h,pB i,pB j,pB l,.fl 4],pI (0:Int)],(q::g::m::n::.arr true 9 1 z::y),()))
end
theorem Bp3{p:U3 × Nat}(h:SZ p.1):ltN (uV p) 4294967296=true/\okQ p=true/\Lc (uP p)=true/\∀c b,mkQ c p b=⟨c,p.1.user,p.1.host,b,p.1.rest⟩:=by obtain⟨⟨s,u,⟨k,n,v,l⟩,q,t⟩,e⟩:=p;obtain⟨a,d⟩:=h;obtain⟨g,i,j,m,o,r,w,x,rfl⟩:=eq8 a.v6.1;have f:=a.v4;simp only at f d;refine⟨E8.2 ⟨by show(0:Int)<=(v:Int);omega,by show(v:Int)<_;omega⟩,B81 a.v6.2,DQ.2 ⟨by show _<=q;omega,by show q<_;omega⟩,λc b=>Bo6 a.kd⟩
theorem XL(s:By):(C5 s).1.host.name.length<=253:=by
 by_cases h:(C5 s).2=0
 ·have b:=A90 h;cases c:E9 (C5 s).1.sch with
  | false=>
   obtain⟨_,_,_,a,_,_⟩:=b.ns c;rw[a]
   decide
  | true=>
   obtain⟨_,_,_,a,_,_⟩:=b.sp c;exact Yy a
 ·rw[Al5 h]
  decide
theorem Bp6{s:By}(h:s.length<=10000000)(a:By)(b:a.length<=10000000):smU a (uU (C5 s)) (uN (C5 s)) (uR (C5 s))=true:=by obtain⟨c,d,e⟩:=EX s;have f:=XL s;simp only[smU,uU,uN,uR,j8,Nat.ble_eq];refine⟨⟨⟨by omega,by omega⟩,by omega⟩,by omega⟩
end
section
open Go
def QY(a:List Nat)(ret:PV)(H:List Blk):Bool:=decide a.Nodup&&(a.all (λb=>Nat.blt b H.length)&&(Cg H a&&ret.nms.all λb=>a.contains b))
theorem Y0.pick{C:Cfg}{Γ:Ctx}{w w':World}{ret:PV}{Hc:List Blk}{V:Value}{ns:List Nat}(h:Y0 C I0 Γ [] w noΦ ret Hc () V w')(hok:QY ns ret Hc=true) :
  Y0 C I0 Γ [] w noΦ (ret.rn (F7 ns)) (L7 Hc ns) () V w':=by
 obtain⟨Γ1,Φ1,hs,hH1,hv,hvn,hi1,hd1⟩:=h;simp only[QY,j8,decide_eq_true_eq,s8,Nat.blt_eq,List.contains_iff_mem] at hok;obtain⟨hnd,hlt,hcl,hr⟩:=hok;have hnm:∀i g,(Γ1.lent ns).nm i=some g->∃b,Γ1.nm b=some g:=λi g h=>by
  simp only[Ctx.lent] at h;cases hi:ns[i]? with
  | none=>rw[hi] at h;simp at h
  | some b=>rw[hi] at h;exact⟨b,h⟩
 have hlen:(L7 Hc ns).length=ns.length:=by simp[L7]
 refine⟨Γ1.lent ns,Φ1,⟨hs.os,hs.tape,hs.output,hs.size,hs.sub,hs.stnew,λc g h=>?_,hs.foot,hs.frame,hs.yv,Nat.zero_le _,λc hc=>by simp at hc⟩,
  PQ hH1 hnd hlt hcl,?_,λc hc=>?_,hi1,λc g h=>?_⟩
 ·obtain⟨b,hb⟩:=hnm c g h;rcases hs.own b g hb with⟨q,_⟩|q
  ·simp at q
  ·exact .inr q
 ·refine VP.rn (Γ:=Γ1) (Γ':=Γ1.lent ns) rfl hv (.inr λ_ h=>h) λc hc=>?_
  obtain⟨q1,q2⟩:=Y2 (hr c hc);exact⟨Nr (hr c hc),by rw[Ir hlt q1,q2]⟩
 ·rw[PV.rn_nms] at hc;obtain⟨d,hd,rfl⟩:=ag3.1 hc;rw[hlen];exact(Y2 (hr d hd)).1
 ·obtain⟨b,hb⟩:=hnm c g h;exact hd1 b g hb
theorem HL{C₀:Cfg}{g:Nat}{pf:List PV->Tr}(z:XOK C₀)(v:Hx C₀)(B:C₀.P.follows .mixedOrders=true)
  (h:∀args ret e,J2 (pf args)=some (ret,e)->C6 args=[]/\∃d r c f,evC C₀ d Unit noY g args [] ()=some (r,c,())/\QY f r c=true/\r.rn (F7 f)=ret/\L7 c f=e):A9 C₀.P C₀.G g pf:=by
 intro args ret e n C x i D w p l u t A;obtain⟨k,d,r,c,f,j,m,rfl,rfl⟩:=h args ret e n;have q:=Hf (C₀:=C₀) (g:=g) (pf:=λa=>match evC C₀ d Unit noY g a [] () with|some (r,H,_)=>cond (C6 a).isEmpty (.ret r H) .fail|none=>.fail) z v B (λa r H b=>by
  split at b
  ·rename_i G H' _ F;cases o:(C6 a).isEmpty with
   | true=>
    rw[o] at b;simp only[cond_true,J2,Dd,c9,aa9] at b;grind
   | false=>rw[o] at b;cases b
  ·cases b)
 exact(q args r c (by dsimp only;rw[j];dsimp only;rw[k];rfl) C x i D w p l u t A).mono λV w' y=>y.pick m
end
section
open Go Go.Op
set_option maxRecDepth 100000
theorem Cq6{R:Type}(a N M:Bool)(J:LL)(K L:Int)(F G H I o p q r:Bool)(t:LL)(y:By)(C B:Bool)(v:LL)(m z:By)(u:Int)(n:By)(d e f g h i j k l x:Int)(A:By)(b c D:Bool)(w:LL)(O:Bool->Bool->Bool->LL->Int->Int->Bool->Bool->Bool->Bool->Bool->Bool->Bool->Bool->LL->By->Bool->Bool->LL->By->By->Int->By->Int->Int->Int->Int->Int->Int->Int->Int->Int->Int->By->Bool->Bool->Bool->LL->Option R)(P:Bool->Bool->Bool->LL->Int->Int->Bool->Bool->Bool->Bool->Bool->Bool->Bool->Bool->Bool->LL->By->Bool->Bool->LL->By->By->Int->By->Int->Int->Int->Int->Int->Int->Int->Int->Int->Int->By->Bool->Bool->Bool->LL->Option R)(h0:A2 n.length=true)(h1:ltN d 4294967296=true)(h2:ok8 e f g h i j k l=true)(h3:I4 (t.length+1)=true) :
  Ej a N M J K L F G H I o p q r t y C B v m z u n d e f g h i j k l x A b c D w O P =
  cond (b&&E9 m) (O a N M J K L F G H I (o&&a) (p||a) (q||b) (r||c) (t++[[SV.str (Fm (mkH u n d (n8 e f g h i j k l)))]]) y C B v m z u n d e f g h i j k l x A b c D w) (P a N M J K L false F G H I (o&&a) (p||a) (q||b) (r||c) t y C B v m z u n d e f g h i j k l x A b c D w):=by
 unfold Ej;cases b<;>cases o<;>cases p<;>cases q<;>cases r<;>cases c<;>simp only[cond_true,cond_false,T4,Ei,Eh,Eg,Ef,Ee,Ed,Ec,h0,h1,h2,h3,vl,aa2,ad1,ag2,ac2,ad6]<;>cases E9 m<;>rfl
theorem Cq7{R:Type}(a N M:Bool)(J:LL)(K L:Int)(F G H I o p q r:Bool)(t:LL)(y:By)(C B:Bool)(v:LL)(m z:By)(u:Int)(n:By)(d e f g h i j k l x:Int)(A:By)(b c D:Bool)(w:LL)(O:Bool->Bool->Bool->LL->Int->Int->Bool->Bool->Bool->Bool->Bool->Bool->Bool->Bool->LL->By->Bool->Bool->LL->By->By->Int->By->Int->Int->Int->Int->Int->Int->Int->Int->Int->Int->By->Bool->Bool->Bool->LL->Option R)(P:Bool->Bool->Bool->LL->Int->Int->Bool->Bool->Bool->Bool->Bool->Bool->Bool->Bool->Bool->LL->By->Bool->Bool->LL->By->By->Int->By->Int->Int->Int->Int->Int->Int->Int->Int->Int->Int->By->Bool->Bool->Bool->LL->Option R)(h0:A2 n.length=true)(h1:ltN d 4294967296=true)(h2:ok8 e f g h i j k l=true)(h3:I4 (t.length+1)=true) :
  Ie a N M J K L F G H I o p q r t y C B v m z u n d e f g h i j k l x A b c D w O P =
  cond (b&&E9 m) (O a N M J K L F G H I (o&&a) (p||a) (q||b) (r||c) (t++[[SV.str (Fm (mkH u n d (n8 e f g h i j k l)))]]) y C B v m z u n d e f g h i j k l x A b c D w) (P a N M J K L false F G H I (o&&a) (p||a) (q||b) (r||c) t y C B v m z u n d e f g h i j k l x A b c D w):=by
 unfold Ie;cases b<;>cases o<;>cases p<;>cases q<;>cases r<;>cases c<;>simp only[cond_true,cond_false,T4,Ei,Eh,Eg,Ef,Ee,Ed,Ec,h0,h1,h2,h3,vl,aa2,ad1,ag2,ac2,ad6]<;>cases E9 m<;>rfl
theorem Bl3{l:LL}(h:l.all Hq=true){i:Nat}(c:i<l.length):∃u z t k E,(k=1\/z=true)/\l.getD i []=[.str u,.sl z t k (A6 E)]/\M3 (l.getD i [])=(u,E):=by
 have f:l.getD i []∈l:=by
  rw[j5,j0 c];exact aa8 c
 have a:=s8.1 h _ f;generalize l.getD i []=g at a ⊢;unfold Hq at a;split at a
 ·rename_i u z t k b;simp only[j8,af4] at a;obtain⟨d,e⟩:=a;obtain⟨E,rfl⟩:∃E,b=A6 E:=⟨_,Dw e⟩
  refine⟨u,z,t,k,E,d.imp Nat.eq_of_beq_eq_true (λq=>q.1),rfl,?_⟩;show(u,(A6 E).map elS)=(u,E)
  rw[Cb]
 ·cases a
theorem Av2{l:LL}{i:Nat}(b:i<l.length):(l.map M3).drop i=M3 (l.getD i [])::(l.map M3).drop (i+1):=by
 have a:i<(l.map M3).length:=by rw[w6];exact b
 rw[x5 a,List.getElem_map,j5,j0 b];rfl
theorem Cr1{l:LL}(h:l.all Ww=true){i:Nat}(a:i<l.length):Ww (l.getD i [])=true:=by refine s8.1 h _ ?_;rw[j5,j0 a];exact aa8 a
theorem A59(z t:Bool)(l:LL){R:Type}(w:l.all Hq=true)(D:l.length<=1000000000)(d e:Unit->Option R):∀(r i n:Nat),i+r=l.length->r<n->
  Kf LF n z t l (i:Int) d e=cond (((l.map M3).drop i).all λf=>ltN f.1.length 3001&&(af7 f.2.length 6&&Hu 5000 f.2)) (e ()) (d ()):=by
 intro r
 induction r with
 | zero=>
  intro i n x y;obtain⟨n,rfl⟩:∃m,n=m+1:=⟨n-1,by omega⟩
  rw[y9.2 (by rw[w6];omega),Kf,I2 (by omega)];rfl
 | succ r A=>
  intro i n x y;obtain⟨n,rfl⟩:∃m,n=m+1:=⟨n-1,by omega⟩
  have a:i<l.length:=by omega
  obtain⟨u,H,G,F,E,c,b,k⟩:=Bl3 w a;have o:A4 ((i:Int)+1)=((i+1:Nat):Int):=by rw[C0];rfl
  have B:okE Jc l i 0=true:=by unfold okE;rw[b];simp[a,okS,SV.has,Jc]
  have C:okE ⟨true,false,[.sl 1]⟩ l i 1=true:=by unfold okE;rw[b];rcases c with rfl|rfl<;>simp[a,okS,SV.has]
  have p:gX l i 0=u:=by unfold gX gC;rw[b];rfl
  have q:SV.gE (gC l i 1)=A6 E:=by unfold gC;rw[b];rfl
  rw[Av2 a,k,Kf,F1 (by omega),O8 (by omega) (by omega),o6,B,C,p,q];have g:ltN u.length 3001 = !(ltI 3000 (u.length:Int)):=by
   rw[aa3,E8,V2];simp;omega
  have h:af7 E.length 6 = !(ltI 6 (E.length:Int)):=by
   rw[aa3,V2];simp;omega
  simp only[cond_true,vl,C2,Fy,Cb,ag0];rw[g,h];cases ltI 3000 (u.length:Int) with
  | true=>rfl
  | false=>
   cases v:ltI 6 (E.length:Int) with
   | true=>rfl
   | false=>
    have j:A2 E.length=true:=D9 (by
     rw[V2,decide_eq_false_iff_not] at v;omega)
    rw[j];cases Hu 5000 E with
    | false=>rfl
    | true=>
     simp only[cond_false,cond_true,p7,x4,aa2];rw[o];exact A (i+1) n (by omega) (by omega)
theorem A60{R:Type}{a:Bool->Option R}(z t:Bool)(l:LL)(d:l.all Hq=true):B58 LF z t l a=a (Du (l.map M3)):=by
 have e:=G3;unfold B58 Du;have c:af7 (l.map M3).length 20 = !(ltI 20 (l.length:Int)):=by
  rw[w6,aa3,V2];simp;omega
 rw[c];cases b:ltI 20 (l.length:Int) with
 | true=>rfl
 | false=>
  have f:l.length<=20:=by
   rw[V2,decide_eq_false_iff_not] at b;omega
  have:=A59 z t l d (by omega) (λ_=>a false) (λ_=>a true) l.length 0 LF (by omega) (by omega);rw[w9] at this;simp only[cond_false,x4,aa2];refine k9 this ?_;cases o9 (l.map M3) _<;>rfl
theorem Aw8(l:List By):p9 elS (A6 l)=l:=by unfold A6;rw[ae6];exact ad9 (λ_=>rfl) l
theorem WQ{R:Type}(z t p o:Bool)(a b:List By)(d e:Unit->Option R)(g:a.length=b.length)(u:a.length<=1000000000):∀(r i m:Nat),i+r=a.length->r<m->Bi LF m z t (A6 a) p o (A6 b) (i:Int) d e=if a.drop i=b.drop i then e () else d ():=by
 intro r
 induction r with
 | zero=>
  intro i m j k;obtain⟨m,rfl⟩:∃q,m=q+1:=⟨m-1,by omega⟩
  rw[Bi];rw[I2 (by rw[C2];omega),o5 (by omega),o5 (by omega),if_pos rfl];rfl
 | succ r n=>
  intro i m j k;obtain⟨m,rfl⟩:∃q,m=q+1:=⟨m-1,by omega⟩
  rw[Bi];have f:A4 ((i:Int)+1)=((i+1:Nat):Int):=by rw[C0];rfl
  have c:∀l:List By,i<l.length->l.drop i=l.getD i []::l.drop (i+1):=λl h=>by
   rw[j5,j0 h,ac4,ac5]
  rw[F1 (by rw[C2];omega),O8 (by omega) (by rw[C2];omega),O8 (by omega) (by rw[C2];omega),o6,R0 (by omega),R0 (by omega),W3,W3,f,c a (by omega),c b (by omega)];simp only[cond_true];by_cases h:a.getD i []=b.getD i []
  ·rw[h,beq_self_eq_true,p7,cond_false,n (i+1) m (by omega) (by omega)];simp only[List.cons.injEq,true_and]
  ·rw[show(a.getD i []==b.getD i [])=false by simpa using h,x4,cond_true,if_neg (λq=>h (ad8 q).1)]
theorem WR{R:Type}{f:Bool->Option R}(z t:Bool)(a:LL)(i g:Bool)(b:LL)(j:a.all isS=true)(k:b.all isS=true)(l:A2 a.length=true)(m:A2 b.length=true):PN LF z t a i g b f=f (a.map elS==b.map elS):=by
 have n:=G3;have c:=N7 l;have d:=N7 m;rw[Dw j] at c ⊢;rw[Dw k] at d ⊢;generalize a.map elS=p at c ⊢;generalize b.map elS=q at d ⊢;rw[C2] at c d;rw[Aw8,Aw8];unfold PN;rw[C2,C2];by_cases h:p.length=q.length
 ·rw[show((p.length:Int)!=(q.length:Int))=false by rw[h];simp,cond_false];refine k9 (WQ z t i g p q _ _ h c p.length 0 LF (by omega) (by omega)) ?_;rw[w9,w9];by_cases e:p=q
  ·rw[if_pos e,e,beq_self_eq_true]
  ·rw[if_neg e,show(p==q)=false by simpa using e]
 ·rw[show((p.length:Int)!=(q.length:Int))=true by rw[bne_iff_ne];omega,cond_true,show(p==q)=false by rw[beq_eq_false_iff_ne];rintro rfl;exact h rfl]
theorem A14{R:Type}{a:By->List Blk->Option R}(t:By):Ci2 LF t a=a t []:=rfl
theorem B56(a b c d j e:Bool)(l:LL)(f g h i n k:Bool)(m:LL)(o:l.all isS=true)(p:A2 l.length=true)(q:m.all isS=true)(t:A2 m.length=true) :
  ∃r H,Bn3 a b c d j e l f g h i n k m=rv r H/\r.stab [] H=pB ((a==f)&&(b==g)&&(c==h)&&(d==i)&&(l.map elS==m.map elS)):=by
 unfold Bn3 B54;rw[o,p,q,t];simp only[cond_true];cases (a==f)<;>cases (b==g)<;>cases (c==h)<;>cases (d==i)<;>exact⟨_,_,rfl,rfl⟩
theorem OP{R:Type}(z t:Bool)(l:LL)(hf:l.all Hq=true)(q:l.all Ww=true)(b2:l.length<=16):∀(r i n:Nat) (j h up g f:Bool) (q:List By),i+r=l.length->r<n->q.length<=i->
  (∃M K N F a,a.length<=16/\Hz ((l.map M3).drop i) j h up g f q=⟨0,M,K,N,F,j7 (Q0 a)⟩/\∀b c d,G7 (R:=R) LF n f z t l (l.length:Int) (i:Int) false false false false j h up g (A6 q) b c d=d false false false false M K N F (A6 a))\/
  (∃e,e≠0/\Hz ((l.map M3).drop i) j h up g f q=Ze e/\((∃U V W X w x H,∀b c d,G7 (R:=R) LF n f z t l (l.length:Int) (i:Int) false false false false j h up g (A6 q) b c d=b e (Blk.arr true 9 1 []) false false false false U V W X w x H)\/
   (∃U V W X w x S T H,∀b c d,G7 (R:=R) LF n f z t l (l.length:Int) (i:Int) false false false false j h up g (A6 q) b c d=c e (Blk.arr true 9 1 []) false false false false U V W X w x S T H))):=by
 intro r
 induction r with
 | zero=>
  intro i n j h up g f a hi hn hh;obtain⟨n,rfl⟩:∃m,n=m+1:=⟨n-1,by omega⟩
  rw[y9.2 (by rw[w6];omega)];exact .inl ⟨j,h,up,g,a,by omega,rfl,λb c d=>by rw[G7,I2 (by omega)];rfl⟩
 | succ r ih=>
  intro i n j h up g f a hi hn hh;obtain⟨n,rfl⟩:∃m,n=m+1:=⟨n-1,by omega⟩
  have p:i<l.length:=by omega
  obtain⟨u,z',t',k',E,a0,P,e3⟩:=Bl3 hf p;have k:=Cr1 q p;unfold Ww at k;rw[P] at k;simp only[j8] at k;have J:u.length<=10000000:=w7 k.1;have hu:A2 u.length=true:=D9 (by omega);have v:=Bp6 (s:=u) J (uS (C5 u)) (ag4 (EX u).1 J);have G:A2 (z7 (uN (C5 u)))=true:=by
   obtain⟨_,_,l,_⟩:=AC v;exact S9
  obtain⟨v1,v2,v3,_⟩:=Bp3 (A91 u);have O:ok8 (uA (C5 u) 0) (uA (C5 u) 1) (uA (C5 u) 2) (uA (C5 u) 3) (uA (C5 u) 4) (uA (C5 u) 5) (uA (C5 u) 6) (uA (C5 u) 7)=true:=v2;have I:I4 ((A6 a).length+1)=true:=by rw[C2];exact I7 (by omega)
  have hE:af7 E.length 1000=true:=by
   have:=k.2;rw[show((([SV.str u,SV.sl z' t' k' (A6 E)]:List SV).getD 1 .nilp).gE)=A6 E from rfl,C2] at this;exact this
  have ew:A4 ((i:Int)+1)=((i+1:Nat):Int):=by rw[C0];rfl
  have o1:okE ⟨true,true,[.str,.sl 1]⟩ l i 0=true:=by unfold okE;rw[P];rcases a0 with rfl|rfl<;>simp[p,okS,SV.has]
  have g1:gX l i 0=u:=by unfold gX gC;rw[P];rfl
  have g2:SV.gE (gC l i 1)=A6 E:=by unfold gC;rw[P];rfl
  have eb:Hz ((u,E)::(l.map M3).drop (i+1)) j h up g f a=cond (uE (C5 u)!=0) (Ze (uE (C5 u))) (cond ((G0 E).2 !=0) (Ze (G0 E).2)
   (Hz ((l.map M3).drop (i+1)) (j&&trF f (C5 u)) (h||trF f (C5 u)) (up||upF E) (g||N5 (G0 E).1 Ra) (trF f (C5 u))
    (cond (upF E&&E9 (uS (C5 u))) (a++[hsQ (C5 u)]) a))):=rfl
  rw[Av2 p,e3,eb];cases o:(uE (C5 u)!=0) with
  | true=>
   refine .inr ⟨uE (C5 u),by simpa using o,by rw[cond_true],.inl ?_⟩;exact⟨_,_,_,_,_,_,_,λb c d=>by
    rw[G7,F1 (by omega),O8 (by omega) (by omega),o6,o1,g1,g2];simp only[cond_true,vl,hu,o];rfl⟩
  | false=>
   rw[cond_false];cases hM:((G0 E).2 !=0) with
   | true=>
    refine .inr ⟨(G0 E).2,by simpa using hM,by rw[cond_true],.inr ?_⟩;exact⟨_,_,_,_,_,_,_,_,_,λb c d=>by
     rw[G7,F1 (by omega),O8 (by omega) (by omega),o6,o1,g1,g2];simp only[cond_true,cond_false,vl,Fy,C2,Cb,hu,hE,o,hM];rfl⟩
   | false=>
    have ek:∀b c d,G7 (R:=R) LF (n+1) f z t l (l.length:Int) (i:Int) false false false false j h up g (A6 a) b c d =
      G7 (R:=R) LF n (trF f (C5 u)) z t l (l.length:Int) ((i+1:Nat):Int) false false false false (j&&trF f (C5 u)) (h||trF f (C5 u)) (up||upF E) (g||N5 (G0 E).1 Ra) (A6 (cond (upF E&&E9 (uS (C5 u))) (a++[hsQ (C5 u)]) a)) b c d:=λb c d=>by
     rw[G7,F1 (by omega),O8 (by omega) (by omega),o6,o1,g1,g2];simp only[cond_true,cond_false,vl,Fy,C2,Cb,hu,hE,o,hM,Cq6 (h0:=G) (h1:=v1) (h2:=O) (h3:=I),Cq7 (h0:=G) (h1:=v1) (h2:=O) (h3:=I),v,v1,v2,v3,ew];unfold trF upF;have b1:(uS (C5 u)!=Uz) = !(uS (C5 u)==[97,98,111,117,116]):=rfl;rw[b1];cases hA:(uS (C5 u)==[97,98,111,117,116])<;>cases hS:E9 (uS (C5 u))<;>cases hU:N5 (G0 E).1 GF<;>simp only[p7,x4,ad6,aa2,ad1,Bool.and_false,ag1,Bool.or_false,cond_true,cond_false,Jb]<;>rfl
    have b0:(cond (upF E&&E9 (uS (C5 u))) (a++[hsQ (C5 u)]) a).length<=i+1:=by
     cases (upF E&&E9 (uS (C5 u))) with
     | true=>simp;omega
     | false=>simp;omega
    rw[cond_false];rcases ih (i+1) n _ _ _ _ _ _ (by omega) (by omega) b0 with⟨y,A,B,C,D,Q,L,q3⟩|⟨e,q0,Q,⟨y,A,B,C,D,Y,Z,L⟩|⟨y,A,B,C,D,Y,Z,a8,a9,L⟩⟩
    ·exact .inl ⟨y,A,B,C,D,Q,L,λb c d=>(ek b c d).trans (q3 b c d)⟩
    ·exact .inr ⟨e,q0,Q,.inl ⟨y,A,B,C,D,Y,Z,λb c d=>(ek b c d).trans (L b c d)⟩⟩
    ·exact .inr ⟨e,q0,Q,.inr ⟨y,A,B,C,D,Y,Z,a8,a9,λb c d=>(ek b c d).trans (L b c d)⟩⟩
theorem A13(z t:Bool)(l:LL)(D:l.all Hq=true)(F:l.all Ww=true)(G:A2 l.length=true) :
  ∃r H v,UN z t l=some (r,H,())/\QY v r H=true/\r.rn (F7 v) = .tup [.agg [pB (cS (D5 (l.map M3))),pB (cP (D5 (l.map M3))),pB (cU (D5 (l.map M3))),pB (cB (D5 (l.map M3))),.fl 0],pI (cE (D5 (l.map M3)))]/\
   L7 H v=[.arr true 9 1 (A6 (cH (D5 (l.map M3))))]:=by
 have I:=G3;have M:=N7 G;unfold UN CS;have c:D5 (l.map M3)=cond ((l.map M3).isEmpty||ltI 16 (((l.map M3).length:Nat):Int)) (Ze 3) (Hz (l.map M3) true false false false false []):=rfl;rw[w6] at c;by_cases u:l=[]
 ·subst u;exact⟨_,_,[2],rfl,rfl,rfl,rfl⟩
 have y:=ad4.2 u;have x:((l.length:Int)==0)=false:=by rw[beq_eq_false_iff_ne];omega
 have C:(l.map M3).isEmpty=false:=by
  cases l with
  | nil=>exact absurd rfl u
  | cons a r=>rfl
 rw[C,ac2] at c;cases q:ltI 16 (l.length:Int) with
 | true=>
  rw[q,cond_true] at c;rw[c,x];exact⟨_,_,[2],rfl,rfl,rfl,rfl⟩
 | false=>
  rw[q,cond_false] at c;have p:l.length<=16:=by
   rw[V2,decide_eq_false_iff_not] at q;omega
  rw[c,x];rcases OP (R:=PV × List Blk × Unit) z t l D F p l.length 0 LF true false false false false [] (by omega) (by omega) (by simp) with⟨k,m,n,o,j,i,f,J⟩|⟨e,N,i,⟨k,m,n,o,j,A,B,f⟩|⟨k,m,n,o,j,A,B,K,L,f⟩⟩
  ·have w:∀g h d,G7 (R:=PV × List Blk × Unit) LF LF false z t l (l.length:Int) 0 false false false false true false false false [] g h d=d false false false false k m n o (A6 j):=J;rw[w9] at f;simp only[cond_false,w,Fy,C2,Cb,FT,D9 (show j.length<=1000000000 by omega),ad5,cond_true,f];exact⟨_,_,[4],rfl,rfl,rfl,rfl⟩
  ·have b:∀g h d,G7 (R:=PV × List Blk × Unit) LF LF false z t l (l.length:Int) 0 false false false false true false false false [] g h d=_:=f;rw[w9] at i;simp only[cond_false,b,i];exact⟨_,_,[8],rfl,rfl,rfl,rfl⟩
  ·have b:∀g h d,G7 (R:=PV × List Blk × Unit) LF LF false z t l (l.length:Int) 0 false false false false true false false false [] g h d=_:=f;rw[w9] at i;simp only[cond_false,b,i];exact⟨_,_,[10],rfl,rfl,rfl,rfl⟩
end
section
open Go Go.Proofs
set_option maxRecDepth 100000
section
variable {σ R : Type} (L : Nat) (Y : E3) (Q : Yh σ) (s : σ) (k : Out -> St σ -> Option R)
noncomputable abbrev HY:Code:=E5 ac0
noncomputable def Fd(L:Nat):Cfg:=D1 L [3] (A3 [(17,[4,0,1,3,0,0]),(13,[4,0,1,3])]) [(4,ZX),(5,Uc),(6,Lg),(7,ZW)]
 (A3 [(22,[4]),(14,[5,1,3]),(21,[4]),(20,[5,1,3,90]),(18,[5,1,3,0,0]),(19,[5,1,3,0,0]),(17,[5,1,3,0,0,70]),(16,[5,1,3,0,0]),(15,[5,1,3,0]),(13,[5,1,3,65]),(12,[5,1,3]),(11,[4]),(10,[5,1,58]),(9,[4]),(8,[5,1,0,55]),(7,[5,1,0,0,0]),(6,[0,4,1,0]),(5,[4]),(4,[0,2,1,29]),(3,[0,2,1,0]),(2,[4]),(1,[0,2,23]),(0,[0,2])]) [4,5,7] (A3 [(0,[5,1]),(1,[5,1,3]),(2,[5,1,3,0]),(3,[5,1,3,0,0])]) (some [4]) [] [] [] (nt:=[(25,1,9,1),(29,4,9,1)]) (rs:=[(6,[4,10])]) (fr:=[(6,[2,3],[1,2])])
noncomputable def Ml{R:Type}(L n:Nat)(t:Int)(b:Bool)(c:Int)(A:By)(C B:Bool)(y u:LL)(v w d e:Bool)(p a:LL)(f g h i:Bool)(q r:LL)(j l m o:Bool)(x:Int->Bool->By->Bool->Bool->LL->LL->Bool->Bool->Bool->Bool->LL->LL->Bool->Bool->Bool->Bool->LL->LL->Bool->Bool->Bool->Bool->Option R):Option R:=match n with
 | 0=>none
 | n+1=>
  cond (ltI c (a.length:Int))
   (cond b
   (Ml L n t true (A4 (c+1)) A C B y u v w d e p a f g h i q r j l m o x)
   (cond (inR c a.length)
    (cond (okE Jc a (j1 c) 0)
    (vl (gX a (j1 c) 0) λz=>
     cond (inR t u.length)
     (cond (okE Jc u (j1 t) 0)
      (Ml L n t (z==(gX u (j1 t) 0)) (A4 (c+1)) A C B y u v w d e p a f g h i q r j l m o x)
      none)
     none)
    none)
    none))
   (x t b A C B y u v w d e p a f g h i q r j l m o)
theorem A65(n o a kk2 s3 z4 t5 p l7 l m b b11 i l13 c d e b17 j l19 f g h b23):G1 13 ((Fd L).keep 17) (bd (Fd L) Y Q (cd [1,1,1,1,1,1,1,1,0,1,0,0,1,0,0,1,0,1,0,0] HY)) n ⟨gp [(5,.ptr 3 0 0),(1,.ptr 7 0 0),(3,pI o),(0,pB a),(0,pI kk2)] 126,[.box [pS s3,.s (.sl z4 t5 1 p)],.arr true 9 1 l7,.arr true 9 1 [],.box [pB l,pB m,pB b,pB b11,.fl 1],.arr false 25 2 i,.arr true 9 1 l13,.arr true 9 1 [],.box [pB c,pB d,pB e,pB b17,.fl 5],.arr false 25 2 j,.arr false 25 2 [[.str ([97,98,111,117,116,58,98,108,97,110,107]:List UInt8),.sl true true 0 []]],.arr true 9 1 l19,.arr true 9 1 [],.box [pB f,pB g,pB h,pB b23,.fl 10]],s⟩ k =
 Ml L n o a kk2 s3 z4 t5 p l7 l m b b11 i l13 c d e b17 j l19 f g h b23 (λo a y A z x p v l m b t i q c d e u j r f g h=>k (.exit 2) ⟨gp [(5,.ptr 3 0 0),(1,.ptr 7 0 0),(3,pI o),(0,pB a)] 127,[.box [pS y,.s (.sl A z 1 x)],.arr true 9 1 p,.arr true 9 1 [],.box [pB v,pB l,pB m,pB b,.fl 1],.arr false 25 2 t,.arr true 9 1 i,.arr true 9 1 [],.box [pB q,pB c,pB d,pB e,.fl 5],.arr false 25 2 u,.arr false 25 2 [[.str ([97,98,111,117,116,58,98,108,97,110,107]:List UInt8),.sl true true 0 []]],.arr true 9 1 j,.arr true 9 1 [],.box [pB r,pB f,pB g,pB h,.fl 10]],s⟩):=by
 induction n generalizing o a kk2 s3 z4 t5 p l7 l m b b11 i l13 c d e b17 j l19 f g h b23 with
 | zero=>rfl
 | succ n w=>rw[Ml];simp only[<-w];kernel_rfl
noncomputable def Py{R:Type}(L n:Nat)(V:Int)(s1:By)(z2 t3:Bool)(Z O:LL)(P S T U:Bool)(I J:LL)(z A B C:Bool)(K M:LL)(D F G H:Bool)(W:(List Blk)->Option R)(X:By->Bool->Bool->LL->LL->Bool->Bool->Bool->Bool->LL->LL->Bool->Bool->Bool->Bool->LL->LL->Bool->Bool->Bool->Bool->Option R):Option R:=match n with
 | 0=>none
 | n+1=>
  cond (ltI V (O.length:Int))
   (Ml L L V false 0 s1 z2 t3 Z O P S T U I J z A B C K M D F G H (λN a w y x p q b c d e r t f g h i u v j l m o=>cond (not a)
   (W [(Blk.box [(PV.s (SV.str w)),(PV.s (SV.sl y x 1 p))]),(Blk.arr true 9 1 q),(Blk.arr true 9 1 []),(Blk.box [(PV.s (SV.bool b)),(PV.s (SV.bool c)),(PV.s (SV.bool d)),(PV.s (SV.bool e)),(PV.fl 1)]),(Blk.arr false 25 2 r),(Blk.arr true 9 1 t),(Blk.arr true 9 1 []),(Blk.box [(PV.s (SV.bool f)),(PV.s (SV.bool g)),(PV.s (SV.bool h)),(PV.s (SV.bool i)),(PV.fl 5)]),(Blk.arr false 25 2 u),(Blk.arr false 25 2 [[(SV.str ([97,98,111,117,116,58,98,108,97,110,107]:List UInt8)),(SV.sl true true 0 [])]]),(Blk.arr true 9 1 v),(Blk.arr true 9 1 []),(Blk.box [(PV.s (SV.bool j)),(PV.s (SV.bool l)),(PV.s (SV.bool m)),(PV.s (SV.bool o)),(PV.fl 10)])])
   (Py L n (A4 (N+1)) w y x p q b c d e r t f g h i u v j l m o W X)))
   (X s1 z2 t3 Z O P S T U I J z A B C K M D F G H)
theorem A66(n i0 s1 z2 t3 o l5 i j l b9 g l11 a b c b15 h l17 d e f b21):G1 13 ((Fd L).keep 13) (bd (Fd L) Y Q (cd [1,1,1,1,1,1,1,1,0,1,0,0] HY)) n ⟨gp [(5,.ptr 3 0 0),(1,.ptr 7 0 0),(3,pI i0)] 128,[.box [pS s1,.s (.sl z2 t3 1 o)],.arr true 9 1 l5,.arr true 9 1 [],.box [pB i,pB j,pB l,pB b9,.fl 1],.arr false 25 2 g,.arr true 9 1 l11,.arr true 9 1 [],.box [pB a,pB b,pB c,pB b15,.fl 5],.arr false 25 2 h,.arr false 25 2 [[.str ([97,98,111,117,116,58,98,108,97,110,107]:List UInt8),.sl true true 0 []]],.arr true 9 1 l17,.arr true 9 1 [],.box [pB d,pB e,pB f,pB b21,.fl 10]],s⟩ k =
 Py L n i0 s1 z2 t3 o l5 i j l b9 g l11 a b c b15 h l17 d e f b21 (λT=>k .ret ⟨gp [(4,pB false)] 135,T,s⟩) (λZ z1 t2 W o U i j l X g N a b c S h O d e f=>k (.exit 0) ⟨gp [(5,.ptr 3 0 0),(1,.ptr 7 0 0)] 132,[.box [pS Z,.s (.sl z1 t2 1 W)],.arr true 9 1 o,.arr true 9 1 [],.box [pB U,pB i,pB j,pB l,.fl 1],.arr false 25 2 X,.arr true 9 1 g,.arr true 9 1 [],.box [pB N,pB a,pB b,pB c,.fl 5],.arr false 25 2 S,.arr false 25 2 [[.str ([97,98,111,117,116,58,98,108,97,110,107]:List UInt8),.sl true true 0 []]],.arr true 9 1 h,.arr true 9 1 [],.box [pB O,pB d,pB e,pB f,.fl 10]],s⟩):=by
 induction n generalizing i0 s1 z2 t3 o l5 i j l b9 g l11 a b c b15 h l17 d e f b21 with
 | zero=>rfl
 | succ n V=>rw[Py];exact(k9 (by kernel_rfl) (A0 ((A65 L Y Q s (I1 2 (J0 (Fd L) Y Q (cd [1,1,1,1,1,1,1,1,0,1,0,0,1,0,0,1,1] HY) (I1 1 (J0 (Fd L) Y Q (cd [1,1,1,1,1,1,1,1,0,1,0,0,1,1] HY) (lpK 13 ((Fd L).keep 13) (bd (Fd L) Y Q (cd [1,1,1,1,1,1,1,1,0,1,0,0] HY)) n k))))) L i0 false 0 s1 z2 t3 o l5 i j l b9 g l11 a b c b15 h l17 d e f b21).trans (congr rfl (fx1 λP=>(fx1 λm=>(fx1 λJ=>(fx1 λM=>(fx1 λK=>(fx1 λC=>(fx1 λD=>(fx1 λp=>(fx1 λq=>(fx1 λr=>(fx1 λt=>(fx1 λF=>(fx1 λG=>(fx1 λu=>(fx1 λv=>(fx1 λw=>(fx1 λx=>(fx1 λH=>(fx1 λI=>(fx1 λy=>(fx1 λz=>(fx1 λA=>(fx1 λB=>(k9 (by kernel_rfl) (A0 rfl (V (A4 (P+1)) J M K C D p q r t F G u v w x H I y z A B)))))))))))))))))))))))))))) rfl))
noncomputable def lce{R:Type}(L:Nat)(J I:Bool)(a:LL)(A:By)(c b:Bool)(B:LL)(G:Bool->(List Blk)->Option R):Option R:=
 cond (o9 a Hq)
 (cond (not (Du (p9 M3 a)))
  (G true [(Blk.box [(PV.s (SV.str A)),(PV.s (SV.sl c b 1 B))])])
  (cond (o9 [[(SV.str A),(SV.sl c b 1 B)]] Hq)
  (cond (not (Du (p9 M3 [[(SV.str A),(SV.sl c b 1 B)]])))
   (G true [(Blk.box [(PV.s (SV.str A)),(PV.s (SV.sl c b 1 B))])])
   (cond (not (ltI (a.length:Int) (16:Int)))
   (G true [(Blk.box [(PV.s (SV.str A)),(PV.s (SV.sl c b 1 B))])])
   (cond (o9 a Hq)
    (cond (o9 a Ww)
    (cond (A2 a.length)
     (vl (D5 (p9 M3 a)) λC=>
     cond ((cE C)!=0)
      (G true [(Blk.box [(PV.s (SV.str A)),(PV.s (SV.sl c b 1 B))]),(Blk.arr true 9 1 (A6 (cH C))),(Blk.arr true 9 1 []),(Blk.box [(PV.s (SV.bool (cS C))),(PV.s (SV.bool (cP C))),(PV.s (SV.bool (cU C))),(PV.s (SV.bool (cB C))),(PV.fl 1)])])
      (cond (I4 (0+a.length))
      (cond (I4 (a.length+1))
       (cond (o9 (a++[[(SV.str A),(SV.sl c b 1 B)]]) Hq)
       (cond (o9 (a++[[(SV.str A),(SV.sl c b 1 B)]]) Ww)
        (cond (A2 (z7 (a++[[(SV.str A),(SV.sl c b 1 B)]])))
        (vl (D5 (p9 M3 (a++[[(SV.str A),(SV.sl c b 1 B)]]))) λD=>
         cond ((plE (A6 (cH D)))&&true)
         (cond (I4 (0+a.length))
          (cond (I4 (a.length+1))
          (vl (a++[[(SV.str ([97,98,111,117,116,58,98,108,97,110,107]:List UInt8)),(SV.sl true true 0 [])]]) λH=>
           cond (o9 H Hq)
           (cond (o9 H Ww)
            (cond (A2 H.length)
            (vl (D5 (p9 M3 H)) λF=>
             cond ((plE (A6 (cH F)))&&true)
             (cond ((cE F)!=0)
              (G false [(Blk.box [(PV.s (SV.str A)),(PV.s (SV.sl c b 1 B))]),(Blk.arr true 9 1 (A6 (cH C))),(Blk.arr true 9 1 []),(Blk.box [(PV.s (SV.bool (cS C))),(PV.s (SV.bool (cP C))),(PV.s (SV.bool (cU C))),(PV.s (SV.bool (cB C))),(PV.fl 1)]),(Blk.arr false 25 2 (a++[[(SV.str A),(SV.sl c b 1 B)]])),(Blk.arr true 9 1 (A6 (cH D))),(Blk.arr true 9 1 []),(Blk.box [(PV.s (SV.bool (cS D))),(PV.s (SV.bool (cP D))),(PV.s (SV.bool (cU D))),(PV.s (SV.bool (cB D))),(PV.fl 5)]),(Blk.arr false 25 2 H),(Blk.arr false 25 2 [[(SV.str ([97,98,111,117,116,58,98,108,97,110,107]:List UInt8)),(SV.sl true true 0 [])]]),(Blk.arr true 9 1 (A6 (cH F))),(Blk.arr true 9 1 []),(Blk.box [(PV.s (SV.bool (cS F))),(PV.s (SV.bool (cP F))),(PV.s (SV.bool (cU F))),(PV.s (SV.bool (cB F))),(PV.fl 10)])])
              (cond (o9 (A6 (cH F)) isS)
              (cond (A2 (z7 (A6 (cH F))))
               (cond (o9 (A6 (cH C)) isS)
               (cond (A2 (z7 (A6 (cH C))))
                (cond (not ((((((cS F)==(cS C))&&((cP F)==(cP C)))&&((cU F)==(cU C)))&&((cB F)==(cB C)))&&((p9 elS (A6 (cH F)))==(p9 elS (A6 (cH C))))))
                (G false [(Blk.box [(PV.s (SV.str A)),(PV.s (SV.sl c b 1 B))]),(Blk.arr true 9 1 (A6 (cH C))),(Blk.arr true 9 1 []),(Blk.box [(PV.s (SV.bool (cS C))),(PV.s (SV.bool (cP C))),(PV.s (SV.bool (cU C))),(PV.s (SV.bool (cB C))),(PV.fl 1)]),(Blk.arr false 25 2 (a++[[(SV.str A),(SV.sl c b 1 B)]])),(Blk.arr true 9 1 (A6 (cH D))),(Blk.arr true 9 1 []),(Blk.box [(PV.s (SV.bool (cS D))),(PV.s (SV.bool (cP D))),(PV.s (SV.bool (cU D))),(PV.s (SV.bool (cB D))),(PV.fl 5)]),(Blk.arr false 25 2 H),(Blk.arr false 25 2 [[(SV.str ([97,98,111,117,116,58,98,108,97,110,107]:List UInt8)),(SV.sl true true 0 [])]]),(Blk.arr true 9 1 (A6 (cH F))),(Blk.arr true 9 1 []),(Blk.box [(PV.s (SV.bool (cS F))),(PV.s (SV.bool (cP F))),(PV.s (SV.bool (cU F))),(PV.s (SV.bool (cB F))),(PV.fl 10)])])
                (cond ((cE D)!=0)
                 (cond (o9 (A6 (cH D)) isS)
                 (cond (A2 (z7 (A6 (cH D))))
                  (cond (o9 [] isS)
                  (cond ((((((cS D)==false)&&((cP D)==false))&&((cU D)==false))&&((cB D)==false))&&((p9 elS (A6 (cH D)))==(p9 elS [])))
                   (G true [(Blk.box [(PV.s (SV.str A)),(PV.s (SV.sl c b 1 B))]),(Blk.arr true 9 1 (A6 (cH C))),(Blk.arr true 9 1 []),(Blk.box [(PV.s (SV.bool (cS C))),(PV.s (SV.bool (cP C))),(PV.s (SV.bool (cU C))),(PV.s (SV.bool (cB C))),(PV.fl 1)]),(Blk.arr false 25 2 (a++[[(SV.str A),(SV.sl c b 1 B)]])),(Blk.arr true 9 1 (A6 (cH D))),(Blk.arr true 9 1 []),(Blk.box [(PV.s (SV.bool (cS D))),(PV.s (SV.bool (cP D))),(PV.s (SV.bool (cU D))),(PV.s (SV.bool (cB D))),(PV.fl 5)]),(Blk.arr false 25 2 H),(Blk.arr false 25 2 [[(SV.str ([97,98,111,117,116,58,98,108,97,110,107]:List UInt8)),(SV.sl true true 0 [])]]),(Blk.arr true 9 1 (A6 (cH F))),(Blk.arr true 9 1 []),(Blk.box [(PV.s (SV.bool (cS F))),(PV.s (SV.bool (cP F))),(PV.s (SV.bool (cU F))),(PV.s (SV.bool (cB F))),(PV.fl 10)])])
                   (G false [(Blk.box [(PV.s (SV.str A)),(PV.s (SV.sl c b 1 B))]),(Blk.arr true 9 1 (A6 (cH C))),(Blk.arr true 9 1 []),(Blk.box [(PV.s (SV.bool (cS C))),(PV.s (SV.bool (cP C))),(PV.s (SV.bool (cU C))),(PV.s (SV.bool (cB C))),(PV.fl 1)]),(Blk.arr false 25 2 (a++[[(SV.str A),(SV.sl c b 1 B)]])),(Blk.arr true 9 1 (A6 (cH D))),(Blk.arr true 9 1 []),(Blk.box [(PV.s (SV.bool (cS D))),(PV.s (SV.bool (cP D))),(PV.s (SV.bool (cU D))),(PV.s (SV.bool (cB D))),(PV.fl 5)]),(Blk.arr false 25 2 H),(Blk.arr false 25 2 [[(SV.str ([97,98,111,117,116,58,98,108,97,110,107]:List UInt8)),(SV.sl true true 0 [])]]),(Blk.arr true 9 1 (A6 (cH F))),(Blk.arr true 9 1 []),(Blk.box [(PV.s (SV.bool (cS F))),(PV.s (SV.bool (cP F))),(PV.s (SV.bool (cU F))),(PV.s (SV.bool (cB F))),(PV.fl 10)])]))
                  none)
                  none)
                 none)
                 (Py L L 0 A c b B (A6 (cH C)) (cS C) (cP C) (cU C) (cB C) (a++[[(SV.str A),(SV.sl c b 1 B)]]) (A6 (cH D)) (cS D) (cP D) (cU D) (cB D) H (A6 (cH F)) (cS F) (cP F) (cU F) (cB F) (λK=>G false K) (λx z y q r j h f d t u l i g e v w m n o p=>cond j
                 (cond (not h)
                  (cond (not f)
                  (cond (not d)
                   (G true [(Blk.box [(PV.s (SV.str x)),(PV.s (SV.sl z y 1 q))]),(Blk.arr true 9 1 r),(Blk.arr true 9 1 []),(Blk.box [(PV.s (SV.bool j)),(PV.s (SV.bool h)),(PV.s (SV.bool f)),(PV.s (SV.bool d)),(PV.fl 1)]),(Blk.arr false 25 2 t),(Blk.arr true 9 1 u),(Blk.arr true 9 1 []),(Blk.box [(PV.s (SV.bool l)),(PV.s (SV.bool i)),(PV.s (SV.bool g)),(PV.s (SV.bool e)),(PV.fl 5)]),(Blk.arr false 25 2 v),(Blk.arr false 25 2 [[(SV.str ([97,98,111,117,116,58,98,108,97,110,107]:List UInt8)),(SV.sl true true 0 [])]]),(Blk.arr true 9 1 w),(Blk.arr true 9 1 []),(Blk.box [(PV.s (SV.bool m)),(PV.s (SV.bool n)),(PV.s (SV.bool o)),(PV.s (SV.bool p)),(PV.fl 10)])])
                   (cond e
                   (G true [(Blk.box [(PV.s (SV.str x)),(PV.s (SV.sl z y 1 q))]),(Blk.arr true 9 1 r),(Blk.arr true 9 1 []),(Blk.box [(PV.s (SV.bool j)),(PV.s (SV.bool h)),(PV.s (SV.bool f)),(PV.s (SV.bool d)),(PV.fl 1)]),(Blk.arr false 25 2 t),(Blk.arr true 9 1 u),(Blk.arr true 9 1 []),(Blk.box [(PV.s (SV.bool l)),(PV.s (SV.bool i)),(PV.s (SV.bool g)),(PV.s (SV.bool e)),(PV.fl 5)]),(Blk.arr false 25 2 v),(Blk.arr false 25 2 [[(SV.str ([97,98,111,117,116,58,98,108,97,110,107]:List UInt8)),(SV.sl true true 0 [])]]),(Blk.arr true 9 1 w),(Blk.arr true 9 1 []),(Blk.box [(PV.s (SV.bool m)),(PV.s (SV.bool n)),(PV.s (SV.bool o)),(PV.s (SV.bool p)),(PV.fl 10)])])
                   (G false [(Blk.box [(PV.s (SV.str x)),(PV.s (SV.sl z y 1 q))]),(Blk.arr true 9 1 r),(Blk.arr true 9 1 []),(Blk.box [(PV.s (SV.bool j)),(PV.s (SV.bool h)),(PV.s (SV.bool f)),(PV.s (SV.bool d)),(PV.fl 1)]),(Blk.arr false 25 2 t),(Blk.arr true 9 1 u),(Blk.arr true 9 1 []),(Blk.box [(PV.s (SV.bool l)),(PV.s (SV.bool i)),(PV.s (SV.bool g)),(PV.s (SV.bool e)),(PV.fl 5)]),(Blk.arr false 25 2 v),(Blk.arr false 25 2 [[(SV.str ([97,98,111,117,116,58,98,108,97,110,107]:List UInt8)),(SV.sl true true 0 [])]]),(Blk.arr true 9 1 w),(Blk.arr true 9 1 []),(Blk.box [(PV.s (SV.bool m)),(PV.s (SV.bool n)),(PV.s (SV.bool o)),(PV.s (SV.bool p)),(PV.fl 10)])])))
                  (cond g
                   (cond (not d)
                   (G true [(Blk.box [(PV.s (SV.str x)),(PV.s (SV.sl z y 1 q))]),(Blk.arr true 9 1 r),(Blk.arr true 9 1 []),(Blk.box [(PV.s (SV.bool j)),(PV.s (SV.bool h)),(PV.s (SV.bool f)),(PV.s (SV.bool d)),(PV.fl 1)]),(Blk.arr false 25 2 t),(Blk.arr true 9 1 u),(Blk.arr true 9 1 []),(Blk.box [(PV.s (SV.bool l)),(PV.s (SV.bool i)),(PV.s (SV.bool g)),(PV.s (SV.bool e)),(PV.fl 5)]),(Blk.arr false 25 2 v),(Blk.arr false 25 2 [[(SV.str ([97,98,111,117,116,58,98,108,97,110,107]:List UInt8)),(SV.sl true true 0 [])]]),(Blk.arr true 9 1 w),(Blk.arr true 9 1 []),(Blk.box [(PV.s (SV.bool m)),(PV.s (SV.bool n)),(PV.s (SV.bool o)),(PV.s (SV.bool p)),(PV.fl 10)])])
                   (cond e
                    (G true [(Blk.box [(PV.s (SV.str x)),(PV.s (SV.sl z y 1 q))]),(Blk.arr true 9 1 r),(Blk.arr true 9 1 []),(Blk.box [(PV.s (SV.bool j)),(PV.s (SV.bool h)),(PV.s (SV.bool f)),(PV.s (SV.bool d)),(PV.fl 1)]),(Blk.arr false 25 2 t),(Blk.arr true 9 1 u),(Blk.arr true 9 1 []),(Blk.box [(PV.s (SV.bool l)),(PV.s (SV.bool i)),(PV.s (SV.bool g)),(PV.s (SV.bool e)),(PV.fl 5)]),(Blk.arr false 25 2 v),(Blk.arr false 25 2 [[(SV.str ([97,98,111,117,116,58,98,108,97,110,107]:List UInt8)),(SV.sl true true 0 [])]]),(Blk.arr true 9 1 w),(Blk.arr true 9 1 []),(Blk.box [(PV.s (SV.bool m)),(PV.s (SV.bool n)),(PV.s (SV.bool o)),(PV.s (SV.bool p)),(PV.fl 10)])])
                    (G false [(Blk.box [(PV.s (SV.str x)),(PV.s (SV.sl z y 1 q))]),(Blk.arr true 9 1 r),(Blk.arr true 9 1 []),(Blk.box [(PV.s (SV.bool j)),(PV.s (SV.bool h)),(PV.s (SV.bool f)),(PV.s (SV.bool d)),(PV.fl 1)]),(Blk.arr false 25 2 t),(Blk.arr true 9 1 u),(Blk.arr true 9 1 []),(Blk.box [(PV.s (SV.bool l)),(PV.s (SV.bool i)),(PV.s (SV.bool g)),(PV.s (SV.bool e)),(PV.fl 5)]),(Blk.arr false 25 2 v),(Blk.arr false 25 2 [[(SV.str ([97,98,111,117,116,58,98,108,97,110,107]:List UInt8)),(SV.sl true true 0 [])]]),(Blk.arr true 9 1 w),(Blk.arr true 9 1 []),(Blk.box [(PV.s (SV.bool m)),(PV.s (SV.bool n)),(PV.s (SV.bool o)),(PV.s (SV.bool p)),(PV.fl 10)])])))
                   (G false [(Blk.box [(PV.s (SV.str x)),(PV.s (SV.sl z y 1 q))]),(Blk.arr true 9 1 r),(Blk.arr true 9 1 []),(Blk.box [(PV.s (SV.bool j)),(PV.s (SV.bool h)),(PV.s (SV.bool f)),(PV.s (SV.bool d)),(PV.fl 1)]),(Blk.arr false 25 2 t),(Blk.arr true 9 1 u),(Blk.arr true 9 1 []),(Blk.box [(PV.s (SV.bool l)),(PV.s (SV.bool i)),(PV.s (SV.bool g)),(PV.s (SV.bool e)),(PV.fl 5)]),(Blk.arr false 25 2 v),(Blk.arr false 25 2 [[(SV.str ([97,98,111,117,116,58,98,108,97,110,107]:List UInt8)),(SV.sl true true 0 [])]]),(Blk.arr true 9 1 w),(Blk.arr true 9 1 []),(Blk.box [(PV.s (SV.bool m)),(PV.s (SV.bool n)),(PV.s (SV.bool o)),(PV.s (SV.bool p)),(PV.fl 10)])])))
                  (cond i
                  (cond (not f)
                   (cond (not d)
                   (G true [(Blk.box [(PV.s (SV.str x)),(PV.s (SV.sl z y 1 q))]),(Blk.arr true 9 1 r),(Blk.arr true 9 1 []),(Blk.box [(PV.s (SV.bool j)),(PV.s (SV.bool h)),(PV.s (SV.bool f)),(PV.s (SV.bool d)),(PV.fl 1)]),(Blk.arr false 25 2 t),(Blk.arr true 9 1 u),(Blk.arr true 9 1 []),(Blk.box [(PV.s (SV.bool l)),(PV.s (SV.bool i)),(PV.s (SV.bool g)),(PV.s (SV.bool e)),(PV.fl 5)]),(Blk.arr false 25 2 v),(Blk.arr false 25 2 [[(SV.str ([97,98,111,117,116,58,98,108,97,110,107]:List UInt8)),(SV.sl true true 0 [])]]),(Blk.arr true 9 1 w),(Blk.arr true 9 1 []),(Blk.box [(PV.s (SV.bool m)),(PV.s (SV.bool n)),(PV.s (SV.bool o)),(PV.s (SV.bool p)),(PV.fl 10)])])
                   (cond e
                    (G true [(Blk.box [(PV.s (SV.str x)),(PV.s (SV.sl z y 1 q))]),(Blk.arr true 9 1 r),(Blk.arr true 9 1 []),(Blk.box [(PV.s (SV.bool j)),(PV.s (SV.bool h)),(PV.s (SV.bool f)),(PV.s (SV.bool d)),(PV.fl 1)]),(Blk.arr false 25 2 t),(Blk.arr true 9 1 u),(Blk.arr true 9 1 []),(Blk.box [(PV.s (SV.bool l)),(PV.s (SV.bool i)),(PV.s (SV.bool g)),(PV.s (SV.bool e)),(PV.fl 5)]),(Blk.arr false 25 2 v),(Blk.arr false 25 2 [[(SV.str ([97,98,111,117,116,58,98,108,97,110,107]:List UInt8)),(SV.sl true true 0 [])]]),(Blk.arr true 9 1 w),(Blk.arr true 9 1 []),(Blk.box [(PV.s (SV.bool m)),(PV.s (SV.bool n)),(PV.s (SV.bool o)),(PV.s (SV.bool p)),(PV.fl 10)])])
                    (G false [(Blk.box [(PV.s (SV.str x)),(PV.s (SV.sl z y 1 q))]),(Blk.arr true 9 1 r),(Blk.arr true 9 1 []),(Blk.box [(PV.s (SV.bool j)),(PV.s (SV.bool h)),(PV.s (SV.bool f)),(PV.s (SV.bool d)),(PV.fl 1)]),(Blk.arr false 25 2 t),(Blk.arr true 9 1 u),(Blk.arr true 9 1 []),(Blk.box [(PV.s (SV.bool l)),(PV.s (SV.bool i)),(PV.s (SV.bool g)),(PV.s (SV.bool e)),(PV.fl 5)]),(Blk.arr false 25 2 v),(Blk.arr false 25 2 [[(SV.str ([97,98,111,117,116,58,98,108,97,110,107]:List UInt8)),(SV.sl true true 0 [])]]),(Blk.arr true 9 1 w),(Blk.arr true 9 1 []),(Blk.box [(PV.s (SV.bool m)),(PV.s (SV.bool n)),(PV.s (SV.bool o)),(PV.s (SV.bool p)),(PV.fl 10)])])))
                   (cond g
                   (cond (not d)
                    (G true [(Blk.box [(PV.s (SV.str x)),(PV.s (SV.sl z y 1 q))]),(Blk.arr true 9 1 r),(Blk.arr true 9 1 []),(Blk.box [(PV.s (SV.bool j)),(PV.s (SV.bool h)),(PV.s (SV.bool f)),(PV.s (SV.bool d)),(PV.fl 1)]),(Blk.arr false 25 2 t),(Blk.arr true 9 1 u),(Blk.arr true 9 1 []),(Blk.box [(PV.s (SV.bool l)),(PV.s (SV.bool i)),(PV.s (SV.bool g)),(PV.s (SV.bool e)),(PV.fl 5)]),(Blk.arr false 25 2 v),(Blk.arr false 25 2 [[(SV.str ([97,98,111,117,116,58,98,108,97,110,107]:List UInt8)),(SV.sl true true 0 [])]]),(Blk.arr true 9 1 w),(Blk.arr true 9 1 []),(Blk.box [(PV.s (SV.bool m)),(PV.s (SV.bool n)),(PV.s (SV.bool o)),(PV.s (SV.bool p)),(PV.fl 10)])])
                    (cond e
                    (G true [(Blk.box [(PV.s (SV.str x)),(PV.s (SV.sl z y 1 q))]),(Blk.arr true 9 1 r),(Blk.arr true 9 1 []),(Blk.box [(PV.s (SV.bool j)),(PV.s (SV.bool h)),(PV.s (SV.bool f)),(PV.s (SV.bool d)),(PV.fl 1)]),(Blk.arr false 25 2 t),(Blk.arr true 9 1 u),(Blk.arr true 9 1 []),(Blk.box [(PV.s (SV.bool l)),(PV.s (SV.bool i)),(PV.s (SV.bool g)),(PV.s (SV.bool e)),(PV.fl 5)]),(Blk.arr false 25 2 v),(Blk.arr false 25 2 [[(SV.str ([97,98,111,117,116,58,98,108,97,110,107]:List UInt8)),(SV.sl true true 0 [])]]),(Blk.arr true 9 1 w),(Blk.arr true 9 1 []),(Blk.box [(PV.s (SV.bool m)),(PV.s (SV.bool n)),(PV.s (SV.bool o)),(PV.s (SV.bool p)),(PV.fl 10)])])
                    (G false [(Blk.box [(PV.s (SV.str x)),(PV.s (SV.sl z y 1 q))]),(Blk.arr true 9 1 r),(Blk.arr true 9 1 []),(Blk.box [(PV.s (SV.bool j)),(PV.s (SV.bool h)),(PV.s (SV.bool f)),(PV.s (SV.bool d)),(PV.fl 1)]),(Blk.arr false 25 2 t),(Blk.arr true 9 1 u),(Blk.arr true 9 1 []),(Blk.box [(PV.s (SV.bool l)),(PV.s (SV.bool i)),(PV.s (SV.bool g)),(PV.s (SV.bool e)),(PV.fl 5)]),(Blk.arr false 25 2 v),(Blk.arr false 25 2 [[(SV.str ([97,98,111,117,116,58,98,108,97,110,107]:List UInt8)),(SV.sl true true 0 [])]]),(Blk.arr true 9 1 w),(Blk.arr true 9 1 []),(Blk.box [(PV.s (SV.bool m)),(PV.s (SV.bool n)),(PV.s (SV.bool o)),(PV.s (SV.bool p)),(PV.fl 10)])])))
                   (G false [(Blk.box [(PV.s (SV.str x)),(PV.s (SV.sl z y 1 q))]),(Blk.arr true 9 1 r),(Blk.arr true 9 1 []),(Blk.box [(PV.s (SV.bool j)),(PV.s (SV.bool h)),(PV.s (SV.bool f)),(PV.s (SV.bool d)),(PV.fl 1)]),(Blk.arr false 25 2 t),(Blk.arr true 9 1 u),(Blk.arr true 9 1 []),(Blk.box [(PV.s (SV.bool l)),(PV.s (SV.bool i)),(PV.s (SV.bool g)),(PV.s (SV.bool e)),(PV.fl 5)]),(Blk.arr false 25 2 v),(Blk.arr false 25 2 [[(SV.str ([97,98,111,117,116,58,98,108,97,110,107]:List UInt8)),(SV.sl true true 0 [])]]),(Blk.arr true 9 1 w),(Blk.arr true 9 1 []),(Blk.box [(PV.s (SV.bool m)),(PV.s (SV.bool n)),(PV.s (SV.bool o)),(PV.s (SV.bool p)),(PV.fl 10)])])))
                  (G false [(Blk.box [(PV.s (SV.str x)),(PV.s (SV.sl z y 1 q))]),(Blk.arr true 9 1 r),(Blk.arr true 9 1 []),(Blk.box [(PV.s (SV.bool j)),(PV.s (SV.bool h)),(PV.s (SV.bool f)),(PV.s (SV.bool d)),(PV.fl 1)]),(Blk.arr false 25 2 t),(Blk.arr true 9 1 u),(Blk.arr true 9 1 []),(Blk.box [(PV.s (SV.bool l)),(PV.s (SV.bool i)),(PV.s (SV.bool g)),(PV.s (SV.bool e)),(PV.fl 5)]),(Blk.arr false 25 2 v),(Blk.arr false 25 2 [[(SV.str ([97,98,111,117,116,58,98,108,97,110,107]:List UInt8)),(SV.sl true true 0 [])]]),(Blk.arr true 9 1 w),(Blk.arr true 9 1 []),(Blk.box [(PV.s (SV.bool m)),(PV.s (SV.bool n)),(PV.s (SV.bool o)),(PV.s (SV.bool p)),(PV.fl 10)])])))
                 (cond (not l)
                  (cond (not h)
                  (cond (not f)
                   (cond (not d)
                   (G true [(Blk.box [(PV.s (SV.str x)),(PV.s (SV.sl z y 1 q))]),(Blk.arr true 9 1 r),(Blk.arr true 9 1 []),(Blk.box [(PV.s (SV.bool j)),(PV.s (SV.bool h)),(PV.s (SV.bool f)),(PV.s (SV.bool d)),(PV.fl 1)]),(Blk.arr false 25 2 t),(Blk.arr true 9 1 u),(Blk.arr true 9 1 []),(Blk.box [(PV.s (SV.bool l)),(PV.s (SV.bool i)),(PV.s (SV.bool g)),(PV.s (SV.bool e)),(PV.fl 5)]),(Blk.arr false 25 2 v),(Blk.arr false 25 2 [[(SV.str ([97,98,111,117,116,58,98,108,97,110,107]:List UInt8)),(SV.sl true true 0 [])]]),(Blk.arr true 9 1 w),(Blk.arr true 9 1 []),(Blk.box [(PV.s (SV.bool m)),(PV.s (SV.bool n)),(PV.s (SV.bool o)),(PV.s (SV.bool p)),(PV.fl 10)])])
                   (cond e
                    (G true [(Blk.box [(PV.s (SV.str x)),(PV.s (SV.sl z y 1 q))]),(Blk.arr true 9 1 r),(Blk.arr true 9 1 []),(Blk.box [(PV.s (SV.bool j)),(PV.s (SV.bool h)),(PV.s (SV.bool f)),(PV.s (SV.bool d)),(PV.fl 1)]),(Blk.arr false 25 2 t),(Blk.arr true 9 1 u),(Blk.arr true 9 1 []),(Blk.box [(PV.s (SV.bool l)),(PV.s (SV.bool i)),(PV.s (SV.bool g)),(PV.s (SV.bool e)),(PV.fl 5)]),(Blk.arr false 25 2 v),(Blk.arr false 25 2 [[(SV.str ([97,98,111,117,116,58,98,108,97,110,107]:List UInt8)),(SV.sl true true 0 [])]]),(Blk.arr true 9 1 w),(Blk.arr true 9 1 []),(Blk.box [(PV.s (SV.bool m)),(PV.s (SV.bool n)),(PV.s (SV.bool o)),(PV.s (SV.bool p)),(PV.fl 10)])])
                    (G false [(Blk.box [(PV.s (SV.str x)),(PV.s (SV.sl z y 1 q))]),(Blk.arr true 9 1 r),(Blk.arr true 9 1 []),(Blk.box [(PV.s (SV.bool j)),(PV.s (SV.bool h)),(PV.s (SV.bool f)),(PV.s (SV.bool d)),(PV.fl 1)]),(Blk.arr false 25 2 t),(Blk.arr true 9 1 u),(Blk.arr true 9 1 []),(Blk.box [(PV.s (SV.bool l)),(PV.s (SV.bool i)),(PV.s (SV.bool g)),(PV.s (SV.bool e)),(PV.fl 5)]),(Blk.arr false 25 2 v),(Blk.arr false 25 2 [[(SV.str ([97,98,111,117,116,58,98,108,97,110,107]:List UInt8)),(SV.sl true true 0 [])]]),(Blk.arr true 9 1 w),(Blk.arr true 9 1 []),(Blk.box [(PV.s (SV.bool m)),(PV.s (SV.bool n)),(PV.s (SV.bool o)),(PV.s (SV.bool p)),(PV.fl 10)])])))
                   (cond g
                   (cond (not d)
                    (G true [(Blk.box [(PV.s (SV.str x)),(PV.s (SV.sl z y 1 q))]),(Blk.arr true 9 1 r),(Blk.arr true 9 1 []),(Blk.box [(PV.s (SV.bool j)),(PV.s (SV.bool h)),(PV.s (SV.bool f)),(PV.s (SV.bool d)),(PV.fl 1)]),(Blk.arr false 25 2 t),(Blk.arr true 9 1 u),(Blk.arr true 9 1 []),(Blk.box [(PV.s (SV.bool l)),(PV.s (SV.bool i)),(PV.s (SV.bool g)),(PV.s (SV.bool e)),(PV.fl 5)]),(Blk.arr false 25 2 v),(Blk.arr false 25 2 [[(SV.str ([97,98,111,117,116,58,98,108,97,110,107]:List UInt8)),(SV.sl true true 0 [])]]),(Blk.arr true 9 1 w),(Blk.arr true 9 1 []),(Blk.box [(PV.s (SV.bool m)),(PV.s (SV.bool n)),(PV.s (SV.bool o)),(PV.s (SV.bool p)),(PV.fl 10)])])
                    (cond e
                    (G true [(Blk.box [(PV.s (SV.str x)),(PV.s (SV.sl z y 1 q))]),(Blk.arr true 9 1 r),(Blk.arr true 9 1 []),(Blk.box [(PV.s (SV.bool j)),(PV.s (SV.bool h)),(PV.s (SV.bool f)),(PV.s (SV.bool d)),(PV.fl 1)]),(Blk.arr false 25 2 t),(Blk.arr true 9 1 u),(Blk.arr true 9 1 []),(Blk.box [(PV.s (SV.bool l)),(PV.s (SV.bool i)),(PV.s (SV.bool g)),(PV.s (SV.bool e)),(PV.fl 5)]),(Blk.arr false 25 2 v),(Blk.arr false 25 2 [[(SV.str ([97,98,111,117,116,58,98,108,97,110,107]:List UInt8)),(SV.sl true true 0 [])]]),(Blk.arr true 9 1 w),(Blk.arr true 9 1 []),(Blk.box [(PV.s (SV.bool m)),(PV.s (SV.bool n)),(PV.s (SV.bool o)),(PV.s (SV.bool p)),(PV.fl 10)])])
                    (G false [(Blk.box [(PV.s (SV.str x)),(PV.s (SV.sl z y 1 q))]),(Blk.arr true 9 1 r),(Blk.arr true 9 1 []),(Blk.box [(PV.s (SV.bool j)),(PV.s (SV.bool h)),(PV.s (SV.bool f)),(PV.s (SV.bool d)),(PV.fl 1)]),(Blk.arr false 25 2 t),(Blk.arr true 9 1 u),(Blk.arr true 9 1 []),(Blk.box [(PV.s (SV.bool l)),(PV.s (SV.bool i)),(PV.s (SV.bool g)),(PV.s (SV.bool e)),(PV.fl 5)]),(Blk.arr false 25 2 v),(Blk.arr false 25 2 [[(SV.str ([97,98,111,117,116,58,98,108,97,110,107]:List UInt8)),(SV.sl true true 0 [])]]),(Blk.arr true 9 1 w),(Blk.arr true 9 1 []),(Blk.box [(PV.s (SV.bool m)),(PV.s (SV.bool n)),(PV.s (SV.bool o)),(PV.s (SV.bool p)),(PV.fl 10)])])))
                   (G false [(Blk.box [(PV.s (SV.str x)),(PV.s (SV.sl z y 1 q))]),(Blk.arr true 9 1 r),(Blk.arr true 9 1 []),(Blk.box [(PV.s (SV.bool j)),(PV.s (SV.bool h)),(PV.s (SV.bool f)),(PV.s (SV.bool d)),(PV.fl 1)]),(Blk.arr false 25 2 t),(Blk.arr true 9 1 u),(Blk.arr true 9 1 []),(Blk.box [(PV.s (SV.bool l)),(PV.s (SV.bool i)),(PV.s (SV.bool g)),(PV.s (SV.bool e)),(PV.fl 5)]),(Blk.arr false 25 2 v),(Blk.arr false 25 2 [[(SV.str ([97,98,111,117,116,58,98,108,97,110,107]:List UInt8)),(SV.sl true true 0 [])]]),(Blk.arr true 9 1 w),(Blk.arr true 9 1 []),(Blk.box [(PV.s (SV.bool m)),(PV.s (SV.bool n)),(PV.s (SV.bool o)),(PV.s (SV.bool p)),(PV.fl 10)])])))
                  (cond i
                   (cond (not f)
                   (cond (not d)
                    (G true [(Blk.box [(PV.s (SV.str x)),(PV.s (SV.sl z y 1 q))]),(Blk.arr true 9 1 r),(Blk.arr true 9 1 []),(Blk.box [(PV.s (SV.bool j)),(PV.s (SV.bool h)),(PV.s (SV.bool f)),(PV.s (SV.bool d)),(PV.fl 1)]),(Blk.arr false 25 2 t),(Blk.arr true 9 1 u),(Blk.arr true 9 1 []),(Blk.box [(PV.s (SV.bool l)),(PV.s (SV.bool i)),(PV.s (SV.bool g)),(PV.s (SV.bool e)),(PV.fl 5)]),(Blk.arr false 25 2 v),(Blk.arr false 25 2 [[(SV.str ([97,98,111,117,116,58,98,108,97,110,107]:List UInt8)),(SV.sl true true 0 [])]]),(Blk.arr true 9 1 w),(Blk.arr true 9 1 []),(Blk.box [(PV.s (SV.bool m)),(PV.s (SV.bool n)),(PV.s (SV.bool o)),(PV.s (SV.bool p)),(PV.fl 10)])])
                    (cond e
                    (G true [(Blk.box [(PV.s (SV.str x)),(PV.s (SV.sl z y 1 q))]),(Blk.arr true 9 1 r),(Blk.arr true 9 1 []),(Blk.box [(PV.s (SV.bool j)),(PV.s (SV.bool h)),(PV.s (SV.bool f)),(PV.s (SV.bool d)),(PV.fl 1)]),(Blk.arr false 25 2 t),(Blk.arr true 9 1 u),(Blk.arr true 9 1 []),(Blk.box [(PV.s (SV.bool l)),(PV.s (SV.bool i)),(PV.s (SV.bool g)),(PV.s (SV.bool e)),(PV.fl 5)]),(Blk.arr false 25 2 v),(Blk.arr false 25 2 [[(SV.str ([97,98,111,117,116,58,98,108,97,110,107]:List UInt8)),(SV.sl true true 0 [])]]),(Blk.arr true 9 1 w),(Blk.arr true 9 1 []),(Blk.box [(PV.s (SV.bool m)),(PV.s (SV.bool n)),(PV.s (SV.bool o)),(PV.s (SV.bool p)),(PV.fl 10)])])
                    (G false [(Blk.box [(PV.s (SV.str x)),(PV.s (SV.sl z y 1 q))]),(Blk.arr true 9 1 r),(Blk.arr true 9 1 []),(Blk.box [(PV.s (SV.bool j)),(PV.s (SV.bool h)),(PV.s (SV.bool f)),(PV.s (SV.bool d)),(PV.fl 1)]),(Blk.arr false 25 2 t),(Blk.arr true 9 1 u),(Blk.arr true 9 1 []),(Blk.box [(PV.s (SV.bool l)),(PV.s (SV.bool i)),(PV.s (SV.bool g)),(PV.s (SV.bool e)),(PV.fl 5)]),(Blk.arr false 25 2 v),(Blk.arr false 25 2 [[(SV.str ([97,98,111,117,116,58,98,108,97,110,107]:List UInt8)),(SV.sl true true 0 [])]]),(Blk.arr true 9 1 w),(Blk.arr true 9 1 []),(Blk.box [(PV.s (SV.bool m)),(PV.s (SV.bool n)),(PV.s (SV.bool o)),(PV.s (SV.bool p)),(PV.fl 10)])])))
                   (cond g
                    (cond (not d)
                    (G true [(Blk.box [(PV.s (SV.str x)),(PV.s (SV.sl z y 1 q))]),(Blk.arr true 9 1 r),(Blk.arr true 9 1 []),(Blk.box [(PV.s (SV.bool j)),(PV.s (SV.bool h)),(PV.s (SV.bool f)),(PV.s (SV.bool d)),(PV.fl 1)]),(Blk.arr false 25 2 t),(Blk.arr true 9 1 u),(Blk.arr true 9 1 []),(Blk.box [(PV.s (SV.bool l)),(PV.s (SV.bool i)),(PV.s (SV.bool g)),(PV.s (SV.bool e)),(PV.fl 5)]),(Blk.arr false 25 2 v),(Blk.arr false 25 2 [[(SV.str ([97,98,111,117,116,58,98,108,97,110,107]:List UInt8)),(SV.sl true true 0 [])]]),(Blk.arr true 9 1 w),(Blk.arr true 9 1 []),(Blk.box [(PV.s (SV.bool m)),(PV.s (SV.bool n)),(PV.s (SV.bool o)),(PV.s (SV.bool p)),(PV.fl 10)])])
                    (cond e
                     (G true [(Blk.box [(PV.s (SV.str x)),(PV.s (SV.sl z y 1 q))]),(Blk.arr true 9 1 r),(Blk.arr true 9 1 []),(Blk.box [(PV.s (SV.bool j)),(PV.s (SV.bool h)),(PV.s (SV.bool f)),(PV.s (SV.bool d)),(PV.fl 1)]),(Blk.arr false 25 2 t),(Blk.arr true 9 1 u),(Blk.arr true 9 1 []),(Blk.box [(PV.s (SV.bool l)),(PV.s (SV.bool i)),(PV.s (SV.bool g)),(PV.s (SV.bool e)),(PV.fl 5)]),(Blk.arr false 25 2 v),(Blk.arr false 25 2 [[(SV.str ([97,98,111,117,116,58,98,108,97,110,107]:List UInt8)),(SV.sl true true 0 [])]]),(Blk.arr true 9 1 w),(Blk.arr true 9 1 []),(Blk.box [(PV.s (SV.bool m)),(PV.s (SV.bool n)),(PV.s (SV.bool o)),(PV.s (SV.bool p)),(PV.fl 10)])])
                     (G false [(Blk.box [(PV.s (SV.str x)),(PV.s (SV.sl z y 1 q))]),(Blk.arr true 9 1 r),(Blk.arr true 9 1 []),(Blk.box [(PV.s (SV.bool j)),(PV.s (SV.bool h)),(PV.s (SV.bool f)),(PV.s (SV.bool d)),(PV.fl 1)]),(Blk.arr false 25 2 t),(Blk.arr true 9 1 u),(Blk.arr true 9 1 []),(Blk.box [(PV.s (SV.bool l)),(PV.s (SV.bool i)),(PV.s (SV.bool g)),(PV.s (SV.bool e)),(PV.fl 5)]),(Blk.arr false 25 2 v),(Blk.arr false 25 2 [[(SV.str ([97,98,111,117,116,58,98,108,97,110,107]:List UInt8)),(SV.sl true true 0 [])]]),(Blk.arr true 9 1 w),(Blk.arr true 9 1 []),(Blk.box [(PV.s (SV.bool m)),(PV.s (SV.bool n)),(PV.s (SV.bool o)),(PV.s (SV.bool p)),(PV.fl 10)])])))
                    (G false [(Blk.box [(PV.s (SV.str x)),(PV.s (SV.sl z y 1 q))]),(Blk.arr true 9 1 r),(Blk.arr true 9 1 []),(Blk.box [(PV.s (SV.bool j)),(PV.s (SV.bool h)),(PV.s (SV.bool f)),(PV.s (SV.bool d)),(PV.fl 1)]),(Blk.arr false 25 2 t),(Blk.arr true 9 1 u),(Blk.arr true 9 1 []),(Blk.box [(PV.s (SV.bool l)),(PV.s (SV.bool i)),(PV.s (SV.bool g)),(PV.s (SV.bool e)),(PV.fl 5)]),(Blk.arr false 25 2 v),(Blk.arr false 25 2 [[(SV.str ([97,98,111,117,116,58,98,108,97,110,107]:List UInt8)),(SV.sl true true 0 [])]]),(Blk.arr true 9 1 w),(Blk.arr true 9 1 []),(Blk.box [(PV.s (SV.bool m)),(PV.s (SV.bool n)),(PV.s (SV.bool o)),(PV.s (SV.bool p)),(PV.fl 10)])])))
                   (G false [(Blk.box [(PV.s (SV.str x)),(PV.s (SV.sl z y 1 q))]),(Blk.arr true 9 1 r),(Blk.arr true 9 1 []),(Blk.box [(PV.s (SV.bool j)),(PV.s (SV.bool h)),(PV.s (SV.bool f)),(PV.s (SV.bool d)),(PV.fl 1)]),(Blk.arr false 25 2 t),(Blk.arr true 9 1 u),(Blk.arr true 9 1 []),(Blk.box [(PV.s (SV.bool l)),(PV.s (SV.bool i)),(PV.s (SV.bool g)),(PV.s (SV.bool e)),(PV.fl 5)]),(Blk.arr false 25 2 v),(Blk.arr false 25 2 [[(SV.str ([97,98,111,117,116,58,98,108,97,110,107]:List UInt8)),(SV.sl true true 0 [])]]),(Blk.arr true 9 1 w),(Blk.arr true 9 1 []),(Blk.box [(PV.s (SV.bool m)),(PV.s (SV.bool n)),(PV.s (SV.bool o)),(PV.s (SV.bool p)),(PV.fl 10)])])))
                  (G false [(Blk.box [(PV.s (SV.str x)),(PV.s (SV.sl z y 1 q))]),(Blk.arr true 9 1 r),(Blk.arr true 9 1 []),(Blk.box [(PV.s (SV.bool j)),(PV.s (SV.bool h)),(PV.s (SV.bool f)),(PV.s (SV.bool d)),(PV.fl 1)]),(Blk.arr false 25 2 t),(Blk.arr true 9 1 u),(Blk.arr true 9 1 []),(Blk.box [(PV.s (SV.bool l)),(PV.s (SV.bool i)),(PV.s (SV.bool g)),(PV.s (SV.bool e)),(PV.fl 5)]),(Blk.arr false 25 2 v),(Blk.arr false 25 2 [[(SV.str ([97,98,111,117,116,58,98,108,97,110,107]:List UInt8)),(SV.sl true true 0 [])]]),(Blk.arr true 9 1 w),(Blk.arr true 9 1 []),(Blk.box [(PV.s (SV.bool m)),(PV.s (SV.bool n)),(PV.s (SV.bool o)),(PV.s (SV.bool p)),(PV.fl 10)])]))))))
                none)
               none)
               none)
              none))
             none)
            none)
            none)
           none)
          none)
          none)
         none)
        none)
        none)
       none)
       none)
      none))
     none)
    none)
    none)))
  none))
 none
theorem Ck0(d:Nat)(frames_z0 frames_t1 frames2 more3 more_z4 more_t5 more6):evC (Fd L) (d+1) σ Q 3 [.s (.sl frames_z0 frames_t1 2 frames2),.agg [pS more3,.s (.sl more_z4 more_t5 1 more6)]] [] s=lce L frames_z0 frames_t1 frames2 more3 more_z4 more_t5 more6 (λg f=>some (pB g,f,s)):=by refine(evE (fn:=ac0) (by kernel_rfl)).trans ?_;generalize evC (Fd L) d=Y;unfold lce;exact(k9 (by kernel_rfl) (A0 (A0 rfl (A0 (A0 rfl (A0 rfl (A0 (A0 (A0 (A5 λa=>(A0 rfl (A0 (A0 (A0 (A0 (A0 (A5 λb=>(A0 (A0 (A0 (A5 λe=>(A0 (A0 (A0 (A5 λc=>(A0 (A0 rfl (A0 (A0 (A0 (A0 (A0 rfl (A0 (A0 (A0 (A0 (A0 rfl rfl) rfl) rfl) rfl) ((A66 L Y Q s (I1 0 (J0 (Fd L) Y Q (cd [1,1,1,1,1,1,1,1,1] HY) (I6 (Fd L) ac0))) L 0 more3 more_z4 more_t5 more6 (A6 (cH a)) (cS a) (cP a) (cU a) (cB a) (frames2++[[(SV.str more3),(SV.sl more_z4 more_t5 1 more6)]]) (A6 (cH b)) (cS b) (cP b) (cU b) (cB b) e (A6 (cH c)) (cS c) (cP c) (cU c) (cB c)).trans (by kernel_rfl)))) rfl) rfl) rfl) rfl)) rfl)) rfl) rfl) rfl)) rfl) rfl) rfl)) rfl) rfl) rfl) rfl) rfl))) rfl) rfl) rfl))) rfl)) rfl))
end
section
theorem KL:A9 c8 GX 135 Hy:=λargs ret a h=>by
 have:J2 (Hy args)=none:=by unfold Hy AL;split<;>rfl
 rw[this] at h;cases h
theorem As0:A9 c8 GX 66 LU:=xf [] (Ad3 LF) LV rfl trivial rfl (by kernel_rfl) follows λargs=>by
 unfold LV;split
 ·rename_i s p;exact λa=>⟨rfl,rfl,rfl,_,_,(B69 LF noY () 0 s p).trans (A75 s p a),rfl⟩
 ·trivial
theorem SP:A9 c8 GX 36 AQ:=xf [] (Ac8 LF) LE rfl ⟨As0,trivial⟩ rfl (by kernel_rfl) follows λargs=>by
 unfold LE;split
 ·rename_i s p;exact λa=>⟨rfl,rfl,rfl,_,_,(B43 LF noY () 0 s p).trans (A44 s p a),rfl⟩
 ·trivial
theorem Bw3:A9 c8 GX 105 ZY:=xf [] (Ad4 LF) LX rfl trivial rfl (by kernel_rfl) follows λargs=>by
 unfold LX;split
 ·rename_i s p;exact λa=>⟨rfl,rfl,rfl,_,_,(B71 LF noY () 0 s p).trans (A76 s p a),rfl⟩
 ·trivial
theorem Co1:A9 c8 GX 73 Bg0:=xf [] (Ac9 LF) LG rfl ⟨Bw3,trivial⟩ rfl (by kernel_rfl) follows λargs=>by
 unfold LG;split
 ·rename_i s p;exact λa=>⟨rfl,rfl,rfl,_,_,(B45 LF noY () 0 s p).trans (A45 s p a),rfl⟩
 ·trivial
theorem Cd7:A9 c8 GX 118 At6:=xf [] (NQ LF) BB rfl ⟨Bw3,trivial⟩ rfl (by kernel_rfl) follows λargs=>by
 unfold BB;split
 ·rename_i s p;exact λa=>⟨rfl,rfl,rfl,_,_,(Bo2 LF noY () 0 s p).trans (Aj8 s p a),rfl⟩
 ·trivial
theorem Ce1:A9 c8 GX 96 At9:=xf [] (NV LF) BN rfl ⟨Cd7,trivial⟩ rfl (by kernel_rfl) follows λargs=>by
 unfold BN;split
 ·rename_i s p;exact λa=>⟨rfl,rfl,rfl,_,_,(Bs9 LF noY () 0 s p).trans (Ap9 s p a),rfl⟩
 ·trivial
theorem Cd3:A9 c8 GX 61 At3:=xf [0,0] (NN LF) AW rfl ⟨As0,trivial⟩ rfl (by kernel_rfl) follows λargs=>by
 unfold AW;split
 ·rename_i s p;exact λa=>⟨rfl,rfl,rfl,_,_,(Bn6 LF noY () 0 s p).trans (Ai6 s p a),rfl⟩
 ·trivial
theorem Bv5:A9 c8 GX 34 ZS:=xf [0,0] (Ac3 LF) KQ rfl ⟨Cd3,trivial⟩ rfl (by kernel_rfl) follows λargs=>by
 unfold KQ;split
 ·rename_i s p;exact λa=>⟨rfl,rfl,rfl,_,_,(B04 LF noY () 0 s p).trans (A21 s p a),rfl⟩
 ·trivial
theorem Bv6:A9 c8 GX 119 TB:=xf [1] (Cf LF) Uf rfl ⟨KL,Bw8,As1,trivial⟩ rfl (by kernel_rfl) follows λargs=>by
 unfold Uf;split
 ·rename_i s p v n;exact λb=>λc=>λd=>λe=>(let⟨h,f,a,g⟩:=WB s p v n b c d e;⟨rfl,rfl,rfl,h,f,(IR LF noY () 0 s p v n).trans a,g⟩)
 ·trivial
theorem GM:A9 c8 GX 98 Qu:=xf [1] (CJ LF) Uq rfl ⟨Bv6,trivial⟩ rfl (by kernel_rfl) follows λargs=>by
 unfold Uq;split
 ·rename_i s p;exact λa=>λb=>⟨rfl,rfl,rfl,_,_,(Bc1 LF noY () 0 s p).trans (YO s p a b),rfl⟩
 ·trivial
theorem Ar9:A9 c8 GX 33 AX:=xf [] (Pk LF) LT rfl trivial rfl (by kernel_rfl) follows λargs=>by
 unfold LT;split
 ·rename_i s;exact λa=>⟨rfl,rfl,rfl,_,_,(B67 LF noY () 0 s).trans (A73 s a),rfl⟩
 ·trivial
theorem Bv7:A9 c8 GX 84 ZT:=xf [] (Ac6 LF) LC rfl ⟨SP,trivial⟩ rfl (by kernel_rfl) follows λargs=>by
 unfold LC;split
 ·rename_i s;exact λa=>⟨rfl,rfl,rfl,_,_,(B39 LF noY () 0 s).trans (A41 s a),rfl⟩
 ·trivial
theorem Ar6:A9 c8 GX 86 KR:=xf [0,0] (T6 LF) KT rfl trivial rfl (by kernel_rfl) follows λargs=>by
 unfold KT;split
 ·rename_i s base;exact λa=>λb=>⟨rfl,rfl,rfl,_,_,(B18 LF noY () 0 s base).trans (A26 s base a b),rfl⟩
 ·trivial
theorem Cg8:A9 c8 GX 85 Bg4:=xf [0,0] (Bi6 LF) ZZ rfl ⟨Bv7,Ar6,trivial⟩ rfl (by kernel_rfl) follows λargs=>by
 unfold ZZ;split
 ·rename_i s;exact λa=>⟨rfl,rfl,rfl,_,_,(Ck4 LF noY () 0 s).trans (Bp0 s a),rfl⟩
 ·trivial
theorem Az7:A9 c8 GX 83 MB:=xf [1] (NS LF) BE rfl ⟨GM,trivial⟩ rfl (by kernel_rfl) follows λargs=>by
 unfold BE;split
 ·rename_i s;exact λa=>⟨rfl,rfl,rfl,_,_,(Bp7 LF noY () 0 s).trans (Al6 s a),rfl⟩
 ·trivial
theorem KM:A9 c8 GX 57 Nd:=xf [] (Vi LF) Oy rfl ⟨Az7,Bv7,Cg8,Ar6,trivial⟩ rfl (by kernel_rfl) follows λargs=>by
 unfold Oy;split
 ·rename_i s;exact λa=>⟨rfl,rfl,rfl,_,_,(Ak9 LF noY () 0 s).trans (QK s a),rfl⟩
 ·trivial
theorem Co8:A9 c8 GX 97 Bg6:=xf [0,0] (Pm LF) MF rfl ⟨Az7,Cg8,trivial⟩ rfl (by kernel_rfl) follows λargs=>by
 unfold MF;split
 ·rename_i s;exact λa=>⟨rfl,rfl,rfl,_,_,(B93 LF noY () 0 s).trans (A99 s a),rfl⟩
 ·trivial
theorem Cs8:A9 c8 GX 149 Cf1:=xf [0,0] (CN LF) Aa7 rfl ⟨GM,Ar6,Bw0,trivial⟩ rfl (by kernel_rfl) follows λargs=>by
 unfold Aa7;split
 ·rename_i s;exact λa=>⟨rfl,rfl,rfl,_,_,(Cm3 LF noY () 0 s).trans (Bu1 s a),rfl⟩
 ·trivial
theorem Cs7:A9 c8 GX 25 Cf0:=xf [] (CM LF) Aa6 rfl ⟨Bw0,trivial⟩ rfl (by kernel_rfl) follows λargs=>by
 unfold Aa6;split
 ·rename_i v;exact λa=>⟨rfl,rfl,rfl,_,_,(Cm2 LF noY () 0 v).trans (Bt9 v a),rfl⟩
 ·trivial
theorem Be7:A9 c8 GX 119 Ug:=by
 refine A9.fix (pf:=Ox) _ (W6 (C₀:=Cf LF) (J6.ok (l:=[(135,Hy),(136,Aa3),(103,BG)]) rfl ⟨KL,Bw8,As1,trivial⟩) (F8 rfl (by kernel_rfl)) follows ?_);intro args ret f h;unfold Ox at h;split at h
 ·rename_i s p v n;obtain⟨a,h⟩:=C8 h;obtain⟨b,h⟩:=C8 h;obtain⟨c,h⟩:=C8 h;obtain⟨d,h⟩:=C8 h;obtain⟨rfl,rfl⟩:=G6 h;have e:=(IR LF noY () 0 s p v n).trans (DO s p v n a b c d);exact⟨rfl,1,_,[],e,rfl,rfl⟩
 ·cases h
theorem Be9:A9 c8 GX 98 HO:=by
 refine A9.fix (pf:=Pa) _ (W6 (C₀:=Vl LF) (J6.ok (l:=[(119,Ug)]) rfl ⟨Be7,trivial⟩) (F8 rfl (by kernel_rfl)) follows ?_);intro args ret c h;unfold Pa at h;split at h
 ·rename_i s p;obtain⟨a,h⟩:=C8 h;obtain⟨b,h⟩:=C8 h;obtain⟨rfl,rfl⟩:=G6 h;have e:=(Ap5 LF noY () 0 s p).trans (RR s p a b);exact⟨rfl,1,_,[],e,rfl,rfl⟩
 ·cases h
end
section
theorem Cn7:A9 c8 GX 148 Bf6:=xf [0,0] (W8 LF) KY rfl trivial rfl (by kernel_rfl) follows λargs=>by
 unfold KY;split
 ·rename_i s;exact λa=>⟨rfl,rfl,rfl,_,_,(B31 LF noY () 0 s).trans (A37 s a),rfl⟩
 ·trivial
theorem Cc7:A9 c8 GX 134 As9:=xf [1,0] (Js LF) AN rfl ⟨GM,Cn7,Cs8,trivial⟩ rfl (by kernel_rfl) follows λargs=>by
 unfold AN;split
 ·rename_i s last;exact λb=>(let⟨e,c,a,d⟩:=Ag9 s last b;⟨rfl,rfl,rfl,e,c,(Bm0 LF noY () 0 s last).trans a,d⟩)
 ·trivial
theorem Ct1:A9 c8 GX 116 Cf4:=xf [0,0] (Xh LF) Ab0 rfl ⟨Bw9,Cc7,trivial⟩ rfl (by kernel_rfl) follows λargs=>by
 unfold Ab0;split
 ·rename_i s;exact λb=>(let⟨e,c,a,d⟩:=Cn1 s b;⟨rfl,rfl,rfl,e,c,(Cn0 LF noY () 0 s).trans a,d⟩)
 ·trivial
theorem Ce4:A9 c8 GX 44 Au1:=xf [0,0] (V9 LF) BW rfl trivial rfl (by kernel_rfl) follows λargs=>by
 unfold BW;split
 ·rename_i a b c d e f g h;exact λi=>⟨rfl,rfl,rfl,_,_,(By6 LF noY () 0 a b c d e f g h).trans (As8 a b c d e f g h i),rfl⟩
 ·trivial
theorem Ct0:A9 c8 GX 45 Cf3:=xf [] (CO LF) Aa9 rfl ⟨Cn6,Az8,trivial⟩ rfl (by kernel_rfl) follows λargs=>by
 unfold Aa9;split
 ·rename_i b a l;exact λd=>λe=>(let⟨h,f,c,g⟩:=Cm8 b a l d e;⟨rfl,rfl,rfl,h,f,(Cm7 LF noY () 0 b a l).trans c,g⟩)
 ·trivial
theorem Cs9:A9 c8 GX 26 Cf2:=xf [] (Bi7 LF) Aa8 rfl ⟨Ce4,Ct0,trivial⟩ rfl (by kernel_rfl) follows λargs=>by
 unfold Aa8;split
 ·rename_i a b c d e f g h;exact λj=>(let⟨m,k,i,l⟩:=Cm6 a b c d e f g h j;⟨rfl,rfl,rfl,m,k,(Cm5 LF noY () 0 a b c d e f g h).trans i,l⟩)
 ·trivial
theorem ZM:A9 c8 GX 130 Li:=xf [] (CI LF) Un rfl trivial rfl (by kernel_rfl) follows λargs=>by
 unfold Un;split
 ·rename_i n;exact⟨rfl,rfl,rfl,_,_,(Ba0 LF noY () 0 n).trans (XS n ),rfl⟩
 ·trivial
theorem ZL:A9 c8 GX 132 Lh:=xf [] (U5 LF) Um rfl trivial rfl (by kernel_rfl) follows λargs=>by
 unfold Um;split
 ·rename_i d c f;exact λa=>λb=>λe=>⟨rfl,rfl,rfl,_,_,(A86 LF noY () 0 d c f).trans (XK d c f a b e),rfl⟩
 ·trivial
theorem Co7:A9 c8 GX 147 Aa0:=xf [] (Ad5 LF) MD rfl trivial rfl (by kernel_rfl) follows λargs=>by
 unfold MD;split
 ·rename_i d;exact λa=>⟨rfl,rfl,rfl,_,_,(B88 LF noY () 0 d).trans (A96 d a),rfl⟩
 ·trivial
theorem Co9:A9 c8 GX 153 Aa2:=xf [] (Hl LF) MH rfl trivial rfl (by kernel_rfl) follows λargs=>by
 unfold MH;split
 ·rename_i b;exact λa=>⟨rfl,rfl,rfl,_,_,(B99 LF noY () 0 b).trans (Ba4 b a),rfl⟩
 ·trivial
end
section
theorem Bw7:A9 c8 GX 146 BF:=by
 refine A9.fix (pf:=MG) _ (W6 (C₀:=Ad6 LF) (J6.ok (l:=[]) rfl trivial) (F8 rfl (by kernel_rfl)) follows ?_);intro args ret a h;unfold MG at h;split at h
 ·rename_i b;obtain⟨rfl,rfl⟩:=G6 h;have e:=(B95 LF noY () 0 b).trans (Ba1 b );exact⟨rfl,1,_,[],e,rfl,rfl⟩
 ·cases h
theorem A01:Qv c8 GX 156 Nf:=by
 refine Dz (C₀:=NT LF) (J6.ok (l:=[]) rfl trivial) (F8 rfl (by kernel_rfl)) follows ?_;intro args H ret f h;unfold Nf at h;split at h
 ·rename_i k b;obtain⟨a,h⟩:=C8 h;obtain⟨c,h⟩:=C8 h;obtain⟨rfl,rfl⟩:=G6 h;refine⟨rfl,rfl,λg d s=>?_⟩;have e:=(Bq1 LF d s 0 k b).trans (An0 k b a c);exact⟨1,_,e,rfl⟩
 ·cases h
theorem Cp4:Qv c8 GX 131 MA:=by
 refine Dz (C₀:=Vj LF) (Kq (lx:=[(146,BF),(147,Aa0)]) (ly:=[(156,Nf)]) (ls:=[]) rfl rfl rfl ⟨Bw7,Co7,trivial⟩ ⟨A01,trivial⟩ trivial) (F8 rfl (by kernel_rfl)) follows ?_;intro args H ret f h;unfold MA at h;split at h
 ·rename_i q b z l;obtain⟨a,h⟩:=C8 h;obtain⟨c,h⟩:=C8 h;obtain⟨d,h⟩:=C8 h;obtain⟨rfl,rfl⟩:=G6 h;obtain⟨g,i,e0⟩:=A88 q b z l a c d;exact⟨rfl,rfl,λj e s=>⟨1,_,(B84 LF e s 0 q b z l).trans (e0 _ _),rfl⟩⟩
 ·cases h
theorem Bw6:A9 c8 GX 113 Aa1:=by
 refine A9.fix (pf:=ME) _ (G9 [0,0] (C₀:=N3 LF) (Kq (lx:=[(130,Li),(132,Lh)]) (ly:=[(131,MA)]) (ls:=[]) rfl rfl rfl ⟨ZM,ZL,trivial⟩ ⟨Cp4,trivial⟩ trivial) (F8 rfl (by kernel_rfl)) follows ?_);intro args ret i h;unfold ME at h;split at h
 ·rename_i b a p;obtain⟨d,h⟩:=C8 h;obtain⟨rfl,rfl⟩:=G6 h;obtain⟨g,e,c,f⟩:=B90 b a p d;exact⟨rfl,rfl,rfl,1,g,e,(B89 LF noY () 0 b a p).trans c,f⟩
 ·cases h
end
section
theorem Cp3:Qv c8 GX 144 KV:=by
 refine Dz (C₀:=Vh LF) (Kq (lx:=[(146,BF),(153,Aa2)]) (ly:=[(156,Nf)]) (ls:=[]) rfl rfl rfl ⟨Bw7,Co9,trivial⟩ ⟨A01,trivial⟩ trivial) (F8 rfl (by kernel_rfl)) follows ?_;intro args H ret j h;unfold KV at h;split at h
 ·rename_i a n i b c z l;obtain⟨d,h⟩:=C8 h;obtain⟨e,h⟩:=C8 h;obtain⟨f,h⟩:=C8 h;obtain⟨rfl,rfl⟩:=G6 h;obtain⟨k,e0⟩:=A28 a n i b c z l d e f;exact⟨rfl,rfl,λm g s=>⟨1,_,(B19 LF g s 0 a n i b c z l).trans (e0 _ _),rfl⟩⟩
 ·cases h
theorem Bv9:A9 c8 GX 93 TD:=xf [] (Fa LF) Ui rfl trivial rfl (by kernel_rfl) follows λargs=>by
 unfold Ui;split
 ·rename_i s c;exact λa=>λb=>⟨rfl,rfl,rfl,_,_,(A50 LF noY () 0 s c).trans (WJ s c a b),rfl⟩
 ·trivial
theorem Az6:A9 c8 GX 67 Zo:=xf [] (NM LF) AV rfl ⟨Bv9,trivial⟩ rfl (by kernel_rfl) follows λargs=>by
 unfold AV;split
 ·rename_i s c;exact λa=>λb=>⟨rfl,rfl,rfl,_,_,(Bn4 LF noY () 0 s c).trans (Ai2 s c a b),rfl⟩
 ·trivial
end
end
section
open Go Go.Proofs Go.Sort
set_option maxRecDepth 100000
theorem FP{C:Cfg}{W:Type}{I:W->(Nat->Prop)->(Nat->Prop)->World->Prop}(J:HI I){f:Ctx}{u:Nat->Prop}{w w':World}{z v1:Bool}{E o r:Nat}{l l' m:LL}{s:W}(g cap:Nat)(H:List Value)(i:Array Value)
  (P:Cu C E=false) (j:HR f [.arr z E 1 l,.arr v1 o r m] w) (K:I s f.St u w) (M:∀b g,f.nm b=some g->¬u g)
  (d:f.nm 0=some g\/g=w.heap.size) (O:g<w'.heap.size) (e:∀k,k<w.heap.size->f.nm 0≠some k->w'.heap[k]? = w.heap[k]?) (p:w.heap.size<=w'.heap.size) (R:w'.os=w.os) (S:w'.tape=w.tape) (T:w'.output=w.output)
  (n:w'.heap[g]? = some (.cells i E (0,0))) (Y:Els f.St w' 1 l' H) (D:l'≠[]) (t:∀q,q<H.length->i[q]? = H[q]?) (Z:H.length<=i.size) (B:l'.length<=cap) (hm:cap<=maxLen) (L:i.size=cap) :
  Y0 C I f [.arr z E 1 l,.arr v1 o r m] w u (.fl 0) [.arr z E 1 l',.arr v1 o r m] s (.slice (some ⟨g,0,none⟩) l'.length cap) w':=by
 have x:0<[Blk.arr z E 1 l,.arr v1 o r m].length:=by simp
 have G:(f.re 0 (some g)).nm 0=some g:=by simp[Ctx.re]
 have F:¬Fl C (A1 [Blk.arr z E 1 l,.arr v1 o r m] 0):=by simp[A1,Blk.shp,Fl,P]
 have a:([Blk.arr z E 1 l,.arr v1 o r m].map (Blk.kill 0)).set 0 (.arr z E 1 l')=[.arr z E 1 l',.arr v1 o r m]:=rfl;have N:¬f.St g:=by
  rcases d with h|h
  ·exact(j.lt 0 g h).2.2
  ·intro hs;have:=j.stlt g hs;omega
 obtain⟨U,V,q3⟩:=FI (C:=C) (y:=.arr z E 1 l') (ng:=some g) (w':=w') j x F (λk a=>by
   simp only[c9] at a;subst a;refine⟨O,N,λc t A=>?_⟩;rcases d with h|h
   ·exact t (j.inj c 0 _ A h)
   ·have:=(j.lt c _ A).2.1;omega)
  (λk a=>by
   simp only[c9] at a;subst a;rcases d with h|h
   ·exact .inl h
   ·exact .inr (by omega)) e p R S T
  (BR.els G n Y (by rintro⟨_,h⟩;exact D h) t Z) rfl
 rw[a] at U V;refine⟨_,u,U.lift u,V,?_,λc t=>?_,?_,λb X v=>?_⟩
 ·refine .fl 0 g z E 1 l'.length cap rfl (λ_ h=>D (o0.1 h)) G B hm ?_;simp only[aa7,n,L,o8]
 ·simp only[PV.nms,ae2] at t;subst t;simp
 ·refine J.mono s f.St u w f.St w' K (λ_ h=>h) (λk a Q=>(J.foot _ _ _ _ K k Q).2 a) (λk a=>ae3 (j.stlt k a) p) (λk a=>?_) p R S T;rcases a with a|a
  ·exact e k (j.stlt k a) (λh=>(j.lt 0 k h).2.2 a)
  ·exact e k (J.foot _ _ _ _ K k a).1 (λh=>M 0 k h a)
 ·simp only[Ctx.re] at v;split at v
  ·simp only[c9] at v;subst v;rcases d with h|h
   ·exact M 0 _ h
   ·intro Q;have:=(J.foot _ _ _ _ K _ Q).1;omega
  ·exact M b X v
theorem Ao{w:World}{g o e:Nat}{vs:List Value}{a:Array Value}(c:w.heap[g]? = some (.cells a e (0,0)))(f:o+vs.length<=a.size)(l:∀v∈vs,v.oneCell'=true) :
  (w.setCells g o vs).heap[g]? = some (.cells (F9 a.toList o vs).toArray e (0,0))/\(∀k,k≠g->(w.setCells g o vs).heap[k]? = w.heap[k]?)/\(w.setCells g o vs).heap.size=w.heap.size/\(w.setCells g o vs).os=w.os/\(w.setCells g o vs).tape=w.tape/\(w.setCells g o vs).output=w.output:=by
 obtain⟨w',i,m,n,p,q,t,u,_⟩:=J3 (P:=c8) (o:=o) c f l;have b:∀j,j<vs.length->∃v,w.cell? ⟨g,o+0+j,none⟩=some v:=λj d=>by
  refine⟨a[o+j]'(by omega),?_⟩;simp[ac1,c,aa0 (show o+j<a.size by omega)]
 have r:=run_storeCells_cells (P:=c8) g o vs 0 w (λj d=>by obtain⟨v,h⟩:=b j d;rw[h];rfl) (λj d=>by simp[ab0,c]) l;rw[r] at i;simp only[ab5,Result.ok.injEq,true_and] at i;rw[i];exact⟨m,n,p,q,t,u⟩
theorem DR{St:Nat->Prop}{w:World}{l:LL}{d:List Value}{i:Nat}{n:Int}(h:Els St w 1 l d)(q:i<=l.length):Els St w 1 (Kd l i n) (d.take i++j6 .i64 n::d.drop i):=by
 have c:=h.1;rw[o8] at c;have m:Els St w 1 (l.take i) (d.take i):=by
  refine⟨by rw[j9,j9,c,o8],λj f=>?_⟩;rw[j9] at f;rw[List.getElem_take];obtain⟨a,b⟩:=h.2 j (by omega);refine⟨a,λk g=>?_⟩;obtain⟨U,e,v⟩:=b k g;exact⟨U,by rw[x7 (by omega)];exact e,v⟩
 have o:Els St w 1 [[SV.int .i64 n]] [j6 .i64 n]:=by
  refine⟨rfl,λj f=>?_⟩;have:j=0:=by simpa using f
  subst this;refine⟨rfl,λk g=>?_⟩;have:k=0:=by simpa using g
  subst this;exact⟨_,rfl,.int _ _⟩
 have p:Els St w 1 (l.drop i) (d.drop i):=by
  refine⟨by rw[j2,j2,c,o8],λj f=>?_⟩;rw[j2] at f;rw[List.getElem_drop];obtain⟨a,b⟩:=h.2 (i+j) (by omega);refine⟨a,λk g=>?_⟩;obtain⟨U,e,v⟩:=b k g;exact⟨U,by rw[List.getElem?_drop];rw[show i+(j*1+k)=(i+j)*1+k by omega];exact e,v⟩
 have:=(m.append o).append p;unfold Kd;simpa using this
theorem DT(l:LL)(i:Nat)(n:Int)(h:i<=l.length):(Kd l i n).length=l.length+1:=by unfold Kd;rw[w8,v7,j9,j2];omega
theorem PJ(l:LL)(i:Nat)(n:Int):Kd l i n≠[]:=by unfold Kd;simp
theorem Cp5:Qv c8 GX 145 MM:=by
 intro C hP hG σ I yh yv hI hy args H s ret Hc G Γ Φ w Vs f8 hH hg hi hd hc hn;unfold MM at G;split at G
 ·rename_i i z l d;obtain⟨h0,G⟩:=C8 G;obtain⟨h1,G⟩:=C8 G;obtain⟨rfl,rfl⟩:=G6 G;obtain⟨i0,i1⟩:=E8.1 h0;obtain⟨i,rfl⟩:=ac3 i0;have hl:=w7 h1;have X:i<=l.length:=by
   have:(i:Int)<((l.length+1:Nat):Int):=i1;omega
  obtain⟨S,X0,V,rfl,hs,hx,hv⟩:=hc.arr3;obtain rfl:=hx.inv_int;have b6:Cu C 3=false:=by
   unfold Cu Cfg.sh;rw[hP];kernel_rfl
  obtain⟨g1,b9,n1,n2,n3,n4,n5⟩:=hH.arr' (b:=1) rfl (by simp);have f2:∃cap,V = .slice (some ⟨g1,0,none⟩) 1 cap:=by
   cases hv with
   | flv _ e sz h=>simp[A1,Blk.shp] at h
   | fl _ g v e sz n cap h e5 y R hm e3=>
    rw[n1] at y;simp only[c9] at y;subst y;simp only[A1,aa5,s9,x6,Blk.shp,c9,Shp.arr.injEq] at h;obtain⟨_,_,_,h4⟩:=h;subst h4;exact⟨cap,rfl⟩
  obtain⟨A,rfl⟩:=f2;obtain⟨V1,p1,p2⟩:=n5 0 (by simp) 0 (by simp);have p3:V1 = .int .i64 d:=by cases p2;rfl
  subst p3;have t:∀j v,[j6 .i64 d][j]? = some v->w.cell? ⟨g1,0+j,none⟩=some v:=by
   intro j v x;have:j=0:=by
    have:=(ab8.1 x).1;simpa using this
   subst this;simp only[s9,c9] at x;subst x;simpa[ac1,n2] using p1
  have M:∀v∈[j6 .i64 d],v.oneCell'=true:=by simp[Value.oneCell']
  rw[o6];refine X4 (fn:=Tryz.f145) (by kernel_rfl) (by kernel_rfl) (by kernel_rfl) ?_;have B:∀(base:Option Addr) (c:Nat) (f:List Value),l.length<=c->c<l.length+1->f.length=l.length->(base=none->l.length=0)->(∀a,base=some a->∀j v,f[j]? = some v->w.cell? (a.add j)=some v)->Els Γ.St w 1 l f->
    Calls c8 145 #[.slice base l.length c,.int .i64 (l.length:Int),.slice (some ⟨g1,0,none⟩) 1 A] w λe w'=>∃V,e = .returned V/\Y0 C I Γ [.arr z 3 1 l,.arr false 3 1 [[SV.int .i64 d]]] w Φ (.fl 0) [.arr z 3 1 (Kd l l.length d),.arr false 3 1 [[SV.int .i64 d]]] s V w':=by
   intro base c f a1 a2 a3 a4 a5 a6;refine(Any2.slices_Insert_int_end_grow Tryz.lays2_21 base l.length c g1 0 1 A f [.int .i64 d] w (by omega) a1 a2 (by omega) a3 rfl a4 a5 t M).mono ?_;rintro e w' ⟨rfl,rfl⟩;refine⟨_,rfl,?_⟩;obtain⟨T,b5⟩:=Gs (w:=w) (need:=l.length+1) (cap:=c) (e:=3) (by omega);have hE:=DR (n:=d) a6 (af2 l.length);have c7:f.take l.length++j6 .i64 d::f.drop l.length=f++[j6 .i64 d]:=by
    rw[ac7 (by omega),o5 (by omega)]
   rw[c7] at hE;have r:=DT l l.length d (af2 _);obtain⟨r1,r2⟩:=Vz (olds:=f) (Vs:=[j6 .i64 d]) (z:=(j6 .i64 0).cells) (k:=grownCap w (l.length+1) c 3) (n:=l.length) (m:=1) (size:=1) rfl (by omega) rfl T;have b7:(f.toArray++[j6 .i64 d].toArray)=(f++[j6 .i64 d]).toArray:=by simp
   rw[b7] at r1 r2;have key:∀(row:Array Value) (O:Nat),row.size=O->(∀q,q<(f++[j6 .i64 d]).length->row[q]? = (f++[j6 .i64 d])[q]?)->l.length+1<=O->O<=maxLen->
     Y0 C I Γ [.arr z 3 1 l,.arr false 3 1 [[SV.int .i64 d]]] w Φ (.fl 0) [.arr z 3 1 (Kd l l.length d),.arr false 3 1 [[SV.int .i64 d]]] s (.slice (some ⟨w.heap.size,0,none⟩) (l.length+1) O) (w.drew.alloc (.cells row 3)):=by
    intro row O b1 b2 b3 b4;have D:(w.drew.alloc (.cells row 3)).heap=w.heap.push (.cells row 3):=rfl;have:=FP (C:=C) (w':=w.drew.alloc (.cells row 3)) (l':=Kd l l.length d) hI w.heap.size O (f++[j6 .i64 d]) row b6 hH hi hd (.inr rfl) (by rw[D];simp) (λk N _=>E7 D N) (by rw[D];simp) rfl rfl rfl (E6 D) (hE.mono (λg hg=>E7 D (hH.stlt g hg)) (λ_ h=>h)) (PJ _ _ _) b2 (by rw[b1,w8,j4];omega) (by rw[r];exact b3) b4 b1;rw[r] at this;exact this
   exact key _ _ (r1.trans (o8 _)) r2 T b5
  have f6:∀(row:Array Value) (f:List Value),f.length=l.length->i<l.length->l.length+1<=row.size->(∀q,q<i->row[q]? = f[q]?)->
    ∀q,q<(f.take i++j6 .i64 d::f.drop i).length->(F9 (F9 row.toList i [j6 .i64 d]) (i+1) (f.drop i)).toArray[q]? = (f.take i++j6 .i64 d::f.drop i)[q]?:=by
   intro row f a1 a2 a3 a4 q hq;have f0:q<l.length+1:=by
    rw[w8,v7,j9,j2] at hq;omega
   have ht:(f.take i).length=i:=by rw[j9];omega
   have Y:row.toList.length=row.size:=x8;simp only[y7];rw[K7 _ _ _ (by rw[D4,j2,Y];omega),K7 _ _ _ (by rw[j4,Y];omega)];by_cases h1:q<i
   ·rw[T1,T1,aa1 (by omega),x7 h1];simpa using a4 q h1
   ·by_cases h2:q=i
    ·subst h2;rw[T1,if_pos (by rw[j4];omega),v8 (by omega),ht,ag5];rfl
    ·rw[if_pos (by rw[j2];omega),v8 (by omega),ht,show q-i=(q-(i+1))+1 by omega,aa5]
  have P:∀(g c:Nat) (f:List Value),i<l.length->l.length<=c->c<l.length+1->f.length=l.length->(∀j v,f[j]? = some v->w.cell? ⟨g,0+j,none⟩=some v)->(∀v∈f,v.oneCell'=true)->Els Γ.St w 1 l f->
    Calls c8 145 #[.slice (some ⟨g,0,none⟩) l.length c,.int .i64 (i:Int),.slice (some ⟨g1,0,none⟩) 1 A] w λe w'=>∃V,e = .returned V/\Y0 C I Γ [.arr z 3 1 l,.arr false 3 1 [[SV.int .i64 d]]] w Φ (.fl 0) [.arr z 3 1 (Kd l i d),.arr false 3 1 [[SV.int .i64 d]]] s V w':=by
   intro g c f W a1 a2 a3 a4 a5 a6;refine(Any2.slices_Insert_int_grow Tryz.lays2_21 g 0 l.length c i g1 0 1 A f [.int .i64 d] w W (by omega) a1 a2 (by omega) a3 rfl a4 t a5 M).mono ?_;rintro e w' ⟨rfl,rfl⟩;refine⟨_,rfl,?_⟩;obtain⟨T,b5⟩:=Gs (w:=w) (need:=l.length+1) (cap:=c) (e:=3) (by omega);have hE:=DR (n:=d) a6 X;have r:=DT l i d X;have key:∀(row:Array Value) (O:Nat),row.size=O->(∀q,q<i->row[q]? = f[q]?)->l.length+1<=O->O<=maxLen->
     Y0 C I Γ [.arr z 3 1 l,.arr false 3 1 [[SV.int .i64 d]]] w Φ (.fl 0) [.arr z 3 1 (Kd l i d),.arr false 3 1 [[SV.int .i64 d]]] s (.slice (some ⟨w.heap.size,0,none⟩) (l.length+1) O) (((w.alloc (.cells row 3)).drew.setCells w.heap.size i [j6 .i64 d]).drew.setCells w.heap.size (i+1) (f.drop i)):=by
    intro row O b1 b2 b3 b4;have D:(w.alloc (.cells row 3)).drew.heap=w.heap.push (.cells row 3):=rfl;obtain⟨c1,c2,c3,c4,c5,c6⟩:=Ao (w:=(w.alloc (.cells row 3)).drew) (o:=i) (vs:=[j6 .i64 d]) (E6 D) (by rw[j4];omega) M;generalize f3:(w.alloc (.cells row 3)).drew.setCells w.heap.size i [j6 .i64 d]=w1 at *;have Q:(F9 row.toList i [j6 .i64 d]).toArray.size=O:=by rw[o7,D4];simpa using b1
    obtain⟨d1,d2,d3,d4,d5,d6⟩:=Ao (w:=w1.drew) (o:=i+1) (vs:=f.drop i) c1 (by rw[Q,j2];omega) (λv hv=>a5 v (ab1 hv));have a8:∀k,k<w.heap.size->(w1.drew.setCells w.heap.size (i+1) (f.drop i)).heap[k]? = w.heap[k]?:=λk N=>by
     rw[d2 k (by omega)];exact(c2 k (by omega)).trans (E7 D N)
    have e4:(w1.drew.setCells w.heap.size (i+1) (f.drop i)).heap.size=w.heap.size+1:=by
     rw[d3];show w1.heap.size=_;rw[c3,D];simp
    have:=FP (C:=C) (w':=w1.drew.setCells w.heap.size (i+1) (f.drop i)) (l':=Kd l i d) hI w.heap.size O (f.take i++j6 .i64 d::f.drop i) _ b6 hH hi hd (.inr rfl) (by rw[e4];omega) (λk N _=>a8 k N) (by rw[e4];omega) (d4.trans c4) (d5.trans c5) (d6.trans c6) d1 (hE.mono (λg hg=>a8 g (hH.stlt g hg)) (λ_ h=>h)) (PJ _ _ _) (f6 row f a3 W (by omega) b2) (by rw[o7,D4,w8,v7,j9,j2];simp only[o7,D4] at Q ⊢;omega) (by rw[r];exact b3) b4 (by rw[o7,D4];simpa using Q);rw[r] at this;exact this
   have f4:(j6 .i64 0).cells.size=1:=rfl;have ht:(f.take i).length=i:=by rw[j9];omega
   refine key _ _ ?_ (λq hq=>?_) T b5
   ·simp only[ab9,o7,size_zeroCells,f4,o8,ht];have:l.length+1<=grownCap w (l.length+1) c 3:=T;show i+(l.length+1-i)+(grownCap w (l.length+1) c 3-(l.length+1))=grownCap w (l.length+1) c 3;omega
   ·rw[ab6 (by simp only[ab9,o7,ht];omega),ab6 (by simp only[o7,ht];omega),y7,x7 hq]
  have e6:∀(row:Array Value) (f:List Value),f.length=l.length->i<l.length->l.length+1<=row.size->(∀q,q<i->row[q]? = f[q]?)->
    ∀q,q<(f.take i++j6 .i64 d::f.drop i).length->(F9 (F9 row.toList (i+1) (f.drop i)) i [j6 .i64 d]).toArray[q]? = (f.take i++j6 .i64 d::f.drop i)[q]?:=by
   intro row f a1 a2 a3 a4 q hq;have f0:q<l.length+1:=by
    rw[w8,v7,j9,j2] at hq;omega
   have ht:(f.take i).length=i:=by rw[j9];omega
   have Y:row.toList.length=row.size:=x8;simp only[y7];rw[K7 _ _ _ (by rw[D4,j4,Y];omega),K7 _ _ _ (by rw[j2,Y];omega)];by_cases h1:q<i
   ·rw[T1,T1,aa1 (by omega),x7 h1];simpa using a4 q h1
   ·by_cases h2:q=i
    ·subst h2;rw[if_pos (by rw[j4];omega),v8 (by omega),ht,ag5];rfl
    ·rw[if_neg (by rw[j4];omega),if_pos (by rw[j2];omega),v8 (by omega),ht,show q-i=(q-(i+1))+1 by omega,aa5]
  cases hs with
  | flv _ e2 f5 h'=>
   simp only[A1,s9,x6,Blk.shp,c9,Shp.arr.injEq] at h';obtain⟨q1,q2,q3,h4⟩:=h';obtain rfl:=o0.1 h4;obtain rfl:i=0:=by simpa using X
   exact B none 0 [] (by simp) (by simp) rfl (λ_=>rfl) (λa h=>by cases h) ⟨rfl,λj x=>by simp at x⟩
  | fl _ g z' e2 f5 n' cap h' e5 y R hm e3=>
   simp only[A1,s9,x6,Blk.shp,c9,Shp.arr.injEq] at h';obtain⟨rfl,rfl,rfl,rfl⟩:=h';have e9:¬(z=true/\l=[]):=by rintro⟨q1,q2⟩;exact e5 q1 (by rw[q2];rfl)
   obtain⟨g',p,d7,hh,b8,K,d0⟩:=hH.arr' (b:=0) rfl e9;obtain rfl:g=g':=by
    rw[y] at d7;exact y5 d7
   have c0:p.size=cap:=by
    have:=e3;simp only[aa7,hh,c9,aa9,true_and,o8] at this;exact this
   rw[o8] at b8;have hO:Els Γ.St w 1 l (p.toList.take l.length):=by
    refine⟨by rw[j9,x8 (xs:=p)];omega,λj x=>⟨K j x,λk N=>?_⟩⟩;obtain⟨U,e1,u⟩:=d0 j x k N;refine⟨U,?_,u⟩;have f7:k<1:=by rw[<-K j x];exact N
    rw[aa4,Fo];simpa using e1
   have F:(p.toList.take l.length).length=l.length:=by rw[j9,x8 (xs:=p)];omega
   have J:∀j v,(p.toList.take l.length)[j]? = some v->w.cell? ⟨g,0+j,none⟩=some v:=by
    intro j v x;have a0:j<l.length:=by
     have:=(ab8.1 x).1;omega
    rw[aa4,if_pos a0] at x;simpa[ac1,hh] using x
   have a9:∀v∈p.toList.take l.length,v.oneCell'=true:=by
    intro v hv;obtain⟨j,x,rfl⟩:=List.getElem_of_mem hv;have a0:j<l.length:=by omega
    obtain⟨_,u⟩:=hO.2 j a0;obtain⟨U,e1,u2⟩:=u 0 (by rw[K j a0];exact Nat.one_pos);rw[o8,ab5,j0 x] at e1;cases e1;exact u2.oneCell
   have r:=DT l i d X;have hE:=DR (n:=d) hO X;have Z:∀j,j<cap->(w.cell? ⟨g,j,none⟩).isSome=true:=by
    intro j x;simp only[ac1,hh];rw[aa0 (by omega)];rfl
   have a7:∀j,w.frozen? ⟨g,j,none⟩=false:=λj=>by simp[ab0,hh]
   have d9:g1≠g:=λe=>by
    have:=hH.inj 1 0 g (by rw[<-e];exact n1) y;omega
   have d8:cap<=9223372036854775807:=by
    simp only[maxLen] at hm;omega
   by_cases L:l.length+1<=cap
   ·have key:∀(w':World) (row:List Value),w'.heap[g]? = some (.cells row.toArray 3 (0,0))->(∀k,k≠g->w'.heap[k]? = w.heap[k]?)->w'.heap.size=w.heap.size->w'.os=w.os->w'.tape=w.tape->w'.output=w.output->row.length=cap->
      (∀q,q<((p.toList.take l.length).take i++j6 .i64 d::(p.toList.take l.length).drop i).length->row.toArray[q]? = ((p.toList.take l.length).take i++j6 .i64 d::(p.toList.take l.length).drop i)[q]?)->
      Y0 C I Γ [.arr z 3 1 l,.arr false 3 1 [[SV.int .i64 d]]] w Φ (.fl 0) [.arr z 3 1 (Kd l i d),.arr false 3 1 [[SV.int .i64 d]]] s (.slice (some ⟨g,0,none⟩) (l.length+1) cap) w':=by
     intro w' row k1 k2 k3 k4 k5 k6 k7 k8;have e7:¬ Γ.St g:=(hH.lt 0 g y).2.2;have:=FP (C:=C) (w':=w') (l':=Kd l i d) hI g cap ((p.toList.take l.length).take i++j6 .i64 d::(p.toList.take l.length).drop i) row.toArray b6 hH hi hd (.inl y) (by rw[k3];exact(hH.lt 0 g y).2.1) (λk N e8=>k2 k (λe=>e8 (e▸y))) (by omega) k4 k5 k6 k1
      (hE.mono (λk N=>k2 k (λe=>e7 (e▸N))) (λ_ h=>h)) (PJ _ _ _) k8
      (by rw[o7,k7,w8,v7,j9,j2,F];omega) (by rw[r];exact L) hm (by rw[o7,k7])
     rw[r] at this;exact this
    by_cases b0:i=l.length
    ·subst b0;refine(Any2.slices_Insert_int_end_room Tryz.lays2_21 g 0 l.length cap g1 0 1 A [.int .i64 d] w (by omega) L d8 rfl (λj x=>Z _ (by omega)) (λj x=>a7 _) t M).mono ?_;rintro e w' ⟨rfl,rfl⟩;refine⟨_,rfl,?_⟩;obtain⟨c1,c2,c3,c4,c5,c6⟩:=Ao (w:=w) (o:=0+l.length) (vs:=[j6 .i64 d]) hh (by rw[j4];omega) M;refine key _ _ c1 c2 c3 c4 c5 c6 (by rw[D4];simpa using c0) (λq hq=>?_);rw[ac7 (by omega),o5 (by omega)] at hq ⊢;rw[w8,F,j4] at hq;simp only[y7];rw[K7 _ _ _ (by rw[j4,x8 (xs:=p)];omega)];by_cases f1:q<l.length
     ·rw[T1,aa1 (by omega),aa4,if_pos f1]
     ·obtain rfl:q=l.length:=by omega
      rw[if_pos (by rw[j4];omega),v8 (by omega),F];simp
    ·have W:i<l.length:=by omega
     refine(Any2.slices_Insert_int_shift Tryz.lays2_21 g 0 l.length cap i g1 0 1 A (p.toList.take l.length) [.int .i64 d] w W (by omega) L d8 d9 F rfl J (λj x=>Z _ (by omega)) (λj x=>a7 _) t a9 M 3 3 b9.size p.size (by simp[aa7,n2]) (by simp[aa7,hh]) (by omega) (by simp[ab0,n2]) (by simp[ab0,n2])).mono ?_;rintro e w' ⟨rfl,rfl⟩;refine⟨_,rfl,?_⟩;obtain⟨c1,c2,c3,c4,c5,c6⟩:=Ao (w:=w.drew) (o:=0+(i+1)) (vs:=(p.toList.take l.length).drop i) hh (by rw[j2,F];omega) (λv hv=>a9 v (ab1 hv));generalize f3:w.drew.setCells g (0+(i+1)) ((p.toList.take l.length).drop i)=w1 at *;have Q:(F9 p.toList (0+(i+1)) ((p.toList.take l.length).drop i)).toArray.size=cap:=by rw[o7,D4];simpa using c0
     obtain⟨d1,d2,d3,d4,d5,d6⟩:=Ao (w:=w1) (o:=0+i) (vs:=[j6 .i64 d]) c1 (by rw[Q,j4];omega) M;refine key _ _ d1 (λk N=>(d2 k N).trans (c2 k N)) (d3.trans c3) (d4.trans c4) (d5.trans c5) (d6.trans c6) (by rw[D4];simpa using Q) ?_;rw[aa6,aa6];exact e6 p _ F W (by omega) (λq hq=>by rw[aa4,Fo];simp)
   ·by_cases b0:i=l.length
    ·subst b0;exact B (some ⟨g,0,none⟩) cap (p.toList.take l.length) R (by omega) F (λh=>by cases h) (λa h j v x=>by
      obtain rfl:=y5 h;rw[J9];exact J j v x) hO
    ·exact P g cap _ (by omega) R (by omega) F J a9 hO
 ·cases G
end
section
open Go Go.Proofs
set_option maxRecDepth 100000
section
theorem Ce5:Qv c8 GX 129 Zn:=by
 refine Dz (C₀:=NH LF) (Kq (lx:=[(132,Lh),(130,Li)]) (ly:=[(144,KV),(145,MM)]) (ls:=[]) rfl rfl rfl ⟨ZL,ZM,trivial⟩ ⟨Cp3,Cp5,trivial⟩ trivial) (F8 rfl (by kernel_rfl)) follows ?_;intro args H ret o h;unfold Zn at h;split at h
 ·rename_i a n i b c z l;obtain⟨d,h⟩:=C8 h;obtain⟨f,h⟩:=C8 h;obtain⟨g,h⟩:=C8 h;obtain⟨j,h⟩:=C8 h;obtain⟨k,h⟩:=C8 h;obtain⟨rfl,rfl⟩:=G6 h;refine⟨rfl,rfl,λp m s=>?_⟩;have e:=(Bk5 LF m s 0 a n i b c z l).trans (Af3 a n i b c z l d f g j k);exact⟨1,_,e,rfl⟩
 ·cases h
theorem Co6:A9 c8 GX 112 Bg5:=by
 refine A9.fix (pf:=MC) _ (G9 [1,0] (C₀:=W9 LF) (Kq (lx:=[(67,Zo)]) (ly:=[(129,Zn)]) (ls:=[]) rfl rfl rfl ⟨Az6,trivial⟩ ⟨Ce5,trivial⟩ trivial) (F8 rfl (by kernel_rfl)) follows ?_);intro args ret f h;unfold MC at h;split at h
 ·rename_i s;obtain⟨b,h⟩:=C8 h;obtain⟨rfl,rfl⟩:=G6 h;obtain⟨e,c,a,d⟩:=B86 s b;exact⟨rfl,rfl,rfl,1,e,c,(B85 LF noY () 0 s).trans a,d⟩
 ·cases h
end
end
section
open Go Go.Proofs Go.Sort
set_option maxRecDepth 100000
theorem Bx9:A9 c8 GX 120 TM:=by
 refine A9.fix (pf:=Uv) _ (H8 (fn:=Tryz.f120) (by kernel_rfl) (by kernel_rfl) (by kernel_rfl) ?_);intro args ret l h;unfold Uv at h;split at h
 ·rename_i s;obtain⟨b,h⟩:=C8 h;obtain⟨rfl,rfl⟩:=G6 h;refine⟨rfl,rfl,λC n a o w m c g f=>?_⟩;obtain⟨U,rfl,j⟩:=f.arr1;obtain⟨k,rfl,rfl⟩:=j.inv_str;have i:=N7 b;refine(Any.utf8_ValidString Tryz.lays196 k w (by simp at i;omega) (B29 c a)).mono ?_;rintro e w' ⟨rfl,d⟩;rw[<-Ar2];exact⟨_,rfl,d,VP.mk_bool _⟩
 ·cases h
theorem Bx5:A9 c8 GX 121 TK:=by
 refine A9.fix (pf:=Ur) _ (H8 (fn:=Tryz.f121) (by kernel_rfl) (by kernel_rfl) (by kernel_rfl) ?_);intro args ret j h;unfold Ur at h;split at h
 ·rename_i s;obtain⟨a,h⟩:=C8 h;obtain⟨rfl,rfl⟩:=G6 h;refine⟨rfl,rfl,λC m b n w k l d c=>?_⟩;obtain⟨U,rfl,g⟩:=c.arr1;obtain⟨i,rfl,rfl⟩:=g.inv_str;have f:=N7 a;refine(Any.utf8_RuneCountInString Tryz.lays195 i w (by simp at f;omega)).mono ?_;rintro e w' ⟨rfl,pos,rfl⟩;rw[Lib.runeCountL_eq];exact⟨_,rfl,Ab8 _ _ _,VP.mk_int _ _⟩
 ·cases h
theorem Cc5:A9 c8 GX 102 Qr:=λargs ret a h=>by
 have:J2 (Qr args)=none:=by unfold Qr TA;split<;>rfl
 rw[this] at h;cases h
theorem A03:SY c8 GX 101 Ni:=by
 refine Yp (C₀:=X6 LF) ((J6.ok (l:=[(102,Qr),(103,BG)]) rfl ⟨Cc5,As1,trivial⟩)) (F8 rfl (by kernel_rfl)) follows ?_;intro args H L h e a s d c;unfold Ni at h;split at h
 ·rename_i p t n;simp only[c9,aa9] at h;obtain⟨b,rfl⟩:=h;obtain⟨g,f⟩:=Ap1 (R:=PV × List Blk × e) a p t n s d b c;exact⟨1,_,(Br8 LF a 0 p t n s).trans (f _)⟩
 ·cases h
end
section
open Go Go.Proofs
set_option maxRecDepth 100000
section
theorem Cd4:A9 c8 GX 87 At4:=xf [] (Jt LF) AY rfl ⟨Co6,Bw6,trivial⟩ rfl (by kernel_rfl) follows λargs=>by
 unfold AY;split
 ·rename_i s;exact λa=>⟨rfl,rfl,rfl,_,_,(Bn8 LF noY () 0 s).trans (Aj5 s a),rfl⟩
 ·trivial
theorem Bw4:A9 c8 GX 58 LY:=xf [] (Pl LF) LZ rfl ⟨Bv5,Cd4,trivial⟩ rfl (by kernel_rfl) follows λargs=>by
 unfold LZ;split
 ·rename_i s;exact λa=>⟨rfl,rfl,rfl,_,_,(B73 LF noY () 0 s).trans (A78 s a),rfl⟩
 ·trivial
theorem Co5:A9 c8 GX 99 Bg3:=xf [0,0] (Lt LF) LS rfl ⟨Bx9,Bx5,Ar9,Bw6,Bw4,trivial⟩ rfl (by kernel_rfl) follows λargs=>by
 unfold LS;split
 ·rename_i s;exact λb=>(let⟨e,c,a,d⟩:=B62 s b;⟨rfl,rfl,rfl,e,c,(B61 LF noY () 0 s).trans a,d⟩)
 ·trivial
theorem Co0:A9 c8 GX 117 Bf9:=xf [] (Hk LF) LB rfl trivial rfl (by kernel_rfl) follows λargs=>by
 unfold LB;split
 ·rename_i b;exact λa=>⟨rfl,rfl,rfl,_,_,(B37 LF noY () 0 b).trans (A40 b a),rfl⟩
 ·trivial
theorem Cn9:A9 c8 GX 95 Bf8:=xf [0,0] (Pi LF) LA rfl ⟨Co0,trivial⟩ rfl (by kernel_rfl) follows λargs=>by
 unfold LA;split
 ·rename_i s;exact λb=>(let⟨e,c,a,d⟩:=B35 s b;⟨rfl,rfl,rfl,e,c,(B34 LF noY () 0 s).trans a,d⟩)
 ·trivial
theorem Cc8:A9 c8 GX 94 At0:=xf [0,0] (NI LF) AO rfl ⟨Ct1,trivial⟩ rfl (by kernel_rfl) follows λargs=>by
 unfold AO;split
 ·rename_i s;exact λb=>λc=>(let⟨f,d,a,e⟩:=Bm3 s b c;⟨rfl,rfl,rfl,f,d,(Bm2 LF noY () 0 s).trans a,e⟩)
 ·trivial
theorem Bv8:A9 c8 GX 68 TC:=xf [0,0] (Ez LF) Uh rfl ⟨SP,Cc8,Cn9,Ce1,KM,Co8,Be9,Co5,Az8,trivial⟩ rfl (by kernel_rfl) follows λargs=>by
 unfold Uh;split
 ·rename_i s;exact λb=>(let⟨e,c,a,d⟩:=A43 s b;⟨rfl,rfl,rfl,e,c,(A42 LF noY () 0 s).trans a,d⟩)
 ·trivial
theorem Cd5:A9 c8 GX 71 LW:=by
 refine A9.fix (pf:=AZ) _ (W6 (C₀:=NO LF) (J6.ok (l:=[]) rfl trivial) (F8 rfl (by kernel_rfl)) follows ?_);intro args ret a h;unfold AZ at h;split at h
 ·rename_i t p n;obtain⟨rfl,rfl⟩:=G6 h;have e:=(Bo0 LF noY () 0 t p n).trans (Aj6 t p n );exact⟨rfl,1,_,[],e,rfl,rfl⟩
 ·cases h
theorem Bx4:A9 c8 GX 39 BL:=by
 refine A9.fix (pf:=MO) _ (W6 (C₀:=Ad7 LF) (J6.ok (l:=[(71,LW)]) rfl ⟨Cd5,trivial⟩) (F8 rfl (by kernel_rfl)) follows ?_);intro args ret a h;unfold MO at h;split at h
 ·rename_i t p;obtain⟨rfl,rfl⟩:=G6 h;have e:=(Ca7 LF noY () 0 t p).trans (Bc0 t p );exact⟨rfl,1,_,[],e,rfl,rfl⟩
 ·cases h
theorem Cg7:A9 c8 GX 29 Bg1:=by
 refine A9.fix (pf:=ZU) _ (G9 [] (C₀:=Ls LF) (Kq (lx:=[(57,Nd),(39,BL),(58,LY)]) (ly:=[]) (ls:=[(101,Ni)]) rfl rfl rfl ⟨KM,Bx4,Bw4,trivial⟩ trivial ⟨A03,trivial⟩) (F8 rfl (by kernel_rfl)) follows ?_);intro args ret f h;unfold ZU at h;split at h
 ·rename_i s;obtain⟨b,h⟩:=C8 h;obtain⟨rfl,rfl⟩:=G6 h;obtain⟨e,c,a,d⟩:=Cj4 s b;exact⟨rfl,rfl,rfl,1,e,c,(Cj3 LF noY () 0 s).trans a,d⟩
 ·cases h
theorem Ar8:A9 c8 GX 18 LH:=xf [] (Ad0 LF) LI rfl ⟨Cg7,trivial⟩ rfl (by kernel_rfl) follows λargs=>by
 unfold LI;split
 ·rename_i i j v4 a b c d e f g h;exact λl=>λm=>λn=>(let⟨q,o,k,p⟩:=B47 i j v4 a b c d e f g h l m n;⟨rfl,rfl,rfl,q,o,(B46 LF noY () 0 i j v4 a b c d e f g h).trans k,p⟩)
 ·trivial
theorem Ar7:A9 c8 GX 14 AP:=xf [] (Ac7 LF) LD rfl ⟨Ar8,Cs7,Cs9,trivial⟩ rfl (by kernel_rfl) follows λargs=>by
 unfold LD;split
 ·rename_i i j v4 a b c d e f g h;exact λl=>λm=>λn=>(let⟨q,o,k,p⟩:=B42 i j v4 a b c d e f g h l m n;⟨rfl,rfl,rfl,q,o,(B41 LF noY () 0 i j v4 a b c d e f g h).trans k,p⟩)
 ·trivial
theorem Cn8:A9 c8 GX 42 Bf7:=xf [] (Ac5 LF) KZ rfl ⟨Cg7,Co1,trivial⟩ rfl (by kernel_rfl) follows λargs=>by
 unfold KZ;split
 ·rename_i p s;exact λa=>λb=>⟨rfl,rfl,rfl,_,_,(B33 LF noY () 0 p s).trans (A38 p s a b),rfl⟩
 ·trivial
end
end
section
open Go Go.Proofs Go.Sort
set_option maxRecDepth 100000
theorem SQ:A9 c8 GX 60 Qs:=by
 refine A9.fix (pf:=BH) _ (H8 (fn:=Tryz.f60) (by kernel_rfl) (by kernel_rfl) (by kernel_rfl) ?_);intro args ret j h;unfold BH at h;split at h
 ·rename_i s c;obtain⟨l,h⟩:=C8 h;obtain⟨m,h⟩:=C8 h;obtain⟨rfl,rfl⟩:=G6 h;refine⟨rfl,rfl,λC o a p w k n d b=>?_⟩;obtain⟨U,V,rfl,f,g⟩:=b.arr2;obtain⟨i,rfl,rfl⟩:=f.inv_str;obtain rfl:=g.inv_int;refine(Any.strings_IndexByte Tryz.lays137 i c w).mono ?_;rintro e w' ⟨rfl,rfl⟩;exact⟨_,rfl,ae7 _ _,VP.mk_int _ _⟩
 ·cases h
theorem Cd2:A9 c8 GX 43 At2:=by
 refine A9.fix (pf:=AU) _ (H8 (fn:=Tryz.f43) (by kernel_rfl) (by kernel_rfl) (by kernel_rfl) ?_);intro args ret l h;unfold AU at h;split at h
 ·rename_i n;obtain⟨b,h⟩:=C8 h;obtain⟨rfl,rfl⟩:=G6 h;refine⟨rfl,rfl,λC o a p w m c i g=>?_⟩;obtain⟨U,rfl,j⟩:=g.arr1;obtain rfl:=j.inv_int;obtain⟨d,f⟩:=DQ.1 b;refine(Any.strconv_Itoa Tryz.laysM171 n (by omega) (by omega) w (Bl7 c a)).mono ?_;rintro e w' ⟨rfl,k,os,rfl⟩;refine⟨_,rfl,(Lp w k).trans (show RowKit.Below w.heap.size _ _ from CE (w.drewN k) os),?_⟩;have:Lib.itoa n=Ku n:=by
   unfold Lib.itoa Ku;split
   ·rw[show n.natAbs=(-n).toNat by omega]
   ·rfl
  rw[this];exact VP.mk_str _
 ·cases h
theorem Bx0:A9 c8 GX 35 TH:=by
 refine A9.fix (pf:=Ng) _ (H8 (fn:=Tryz.f35) (by kernel_rfl) (by kernel_rfl) (by kernel_rfl) ?_);intro args ret A h;unfold Ng at h;split at h
 ·rename_i s p;obtain⟨i,h⟩:=C8 h;obtain⟨k,h⟩:=C8 h;obtain⟨l,h⟩:=C8 h;obtain⟨rfl,rfl⟩:=G6 h;refine⟨rfl,rfl,λC G m I w B F r q=>?_⟩;obtain⟨U,V,rfl,y,z⟩:=q.arr2;obtain⟨g,rfl,rfl⟩:=y.inv_str;obtain⟨d,rfl,a⟩:=z.inv_str;have H:=N7 i;have c:p=isl:=by simpa[Wf] using k
  have D:=w7 l;have f:=zero_of_info (P:=c8) (t:=Tryz.lays153_ren.t 116) (v:=.agg (Array.replicate 256 (.bool false))) (n:=256) (by kernel_rfl);subst c;have u:d.size=3:=by have:=af1 d;rw[a] at this;exact this
  have x:=af1 g;refine(Any.strings_IndexAny_long Tryz.lays153 f.1 f.2 g d w (by omega) (by omega) (by omega) (by omega) ?_).mono ?_
  ·rw[a];intro j b o;have:b∈isl:=List.mem_of_getElem? o
   revert b
   simp only[isl,ae0,ae9,or_false];rintro b _ (rfl|rfl|rfl)<;>decide
  ·rintro e w' ⟨rfl,rfl⟩;rw[a];exact⟨_,rfl,((ae7 _ _).alloc (af2 _) _).alloc (by simp) _,VP.mk_int _ _⟩
 ·cases h
end
section
open Go Go.Proofs
set_option maxRecDepth 100000
theorem RO{R:Type}{a:Bool->Option R}(n:Int):RN LF n a=a (ltI 8 n):=rfl
theorem YZ{R:Type}{a:Bool->Option R}(r:Int):GH LF r a=a (GJ r):=by
 have b:ltN r 55296=(!ltI r 0&&ltI r 55296):=by
  rw[aa3,E8,j8,ae4,Sl,Sk];omega
 have c:(ltI 57343 r&&ltN r 1114112)=(ltI 57343 r&&!ltI 1114111 r):=by
  rw[aa3,j8,j8,E8,ae4,Sl,Sk];omega
 unfold GH Jg GJ;rw[b,c];cases ltI r 0<;>cases ltI r 55296<;>cases ltI 57343 r<;>cases ltI 1114111 r<;>rfl
theorem Cj6(b:UInt8):ad7 isl b=irn (b.toNat:Int):=by
 by_cases a:b=47
 ·subst a;rfl
 ·by_cases d:b=63
  ·subst d;rfl
  ·by_cases f:b=35
   ·subst f;rfl
   ·have n:∀c:UInt8,b≠c->(c==b)=false:=λc h=>by rw[beq_eq_false_iff_ne];exact Ne.symm h
    have e:∀c:UInt8,b≠c->¬(b.toNat:Int)=(c.toNat:Int):=λc h q=>h (UInt8.toNat_inj.1 (by omega))
    have g:¬(b.toNat:Int)=47:=e 47 a;have i:¬(b.toNat:Int)=63:=e 63 d;have j:¬(b.toNat:Int)=35:=e 35 f;unfold irn;rw[if_neg g,if_neg i,if_neg j];simp[isl,ad7,n _ a,n _ d,n _ f]
theorem Cr6{l:By}{x:UInt8}(h:∀b∈l,b.toNat<128)(d:128<=x.toNat):ad7 l x=-1:=by
 have e:=Kc x l;have c:l.contains x=false:=by
  rw[Bool.eq_false_iff];intro a;have:=h x (by simpa using a);omega
 rw[c,x4,Sk] at e;have:=Lib.indexByte_ge l x;omega
theorem Bk9{r:Int}(g:GJ r=true)(h:128<=r):2<=(ab2 r).data.toList.length/\(ab2 r).data.toList.length<=4/\128<=((ab2 r).data.toList.getD ((ab2 r).data.toList.length-1) 0).toNat:=by
 have a:Utf8.valid r=true:=by
  rw[validRune_eq];unfold validRune;simp only[GJ,af4,j8,E8,Sk] at g;exact decide_eq_true (by omega)
 obtain⟨b,c,d⟩:=encode_facts r a h;have f:=af1 (ab2 r);rw[<-f];refine⟨b,c,?_⟩;have e:=d (by omega);rw[j5,j0 (by omega),ac4];exact e
theorem Bb5(r:Int)(h:ltN r 1114112=true):∃v H,FQ LF r (λk=>rv (.s (.int .i64 k)) []) (λk I=>rv (.s (.int .i64 k)) [.iter [47,63,35] I])=rv v H/\v.stab [] H = .s (.int .i64 (irn r)):=by
 obtain⟨A,M⟩:=E8.1 h;have B:=G3;unfold FQ;rw[A8,x4,cond_true];unfold Iz;by_cases p:r<128
 ·obtain⟨n,rfl⟩:=ac3 A;have e:wu8 (n:Int)=(n:Int):=Z9;have f:u8n (n:Int)=af3 n:=by unfold u8n;simp
  have g:(((af3 n).toNat:Nat):Int)=(n:Int):=by simp;omega
  rw[C7,cond_true,e,K8,f];have o:=Cj6 (af3 n);rw[g] at o;rw[<-o];exact⟨_,_,rfl,rfl⟩
 ·rw[A8,cond_false,Bm8 (by omega)];by_cases t:r=65533
  ·subst t;obtain⟨m,i⟩:∃m,LF=m+1+1+1+1:=⟨LF-4,by omega⟩
   have w:ad3 ⟨ac8 ([47,63,35]:List UInt8)⟩ 0=(47,1):=rfl;have x:ad3 ⟨ac8 ([47,63,35]:List UInt8)⟩ 1=(63,1):=rfl;have y:ad3 ⟨ac8 ([47,63,35]:List UInt8)⟩ 2=(35,1):=rfl;have go:∀(R:Type) (c:Int->Nat->Option R) (a:Nat->Option R),W5 LF LF 0 c a=a 3:=λR c a=>by
    have L:W5 LF (m+1) 3 c a=a 3:=by rw[Co];rfl
    have K:W5 LF (m+1+1) 2 c a=a 3:=by rw[Co];unfold Br;rw[y];exact L
    have J:W5 LF (m+1+1+1) 1 c a=a 3:=by rw[Co];unfold Br;rw[x];exact K
    have d:W5 LF (m+1+1+1+1) 0 c a=a 3:=by rw[Co];unfold Br;rw[w];exact J
    rw[<-i] at d;exact d
   rw[go];exact⟨_,_,rfl,rfl⟩
  ·rw[show(r==(65533:Int))=false by simpa using t,cond_false];cases F:GJ r with
   | false=>exact⟨_,_,rfl,rfl⟩
   | true=>
    obtain⟨O,P,G⟩:=Bk9 F (by omega);simp only[vl,p7,cond_false];generalize (ab2 r).data.toList=l at *;obtain⟨m,i⟩:∃m,LF=m+1:=⟨LF-1,by omega⟩
    have z:A4 ((l.length:Int)-1)=((l.length-1:Nat):Int):=by rw[C0];omega
    have go:∀(R:Type) (c:Int->Option R) (a:Unit->Option R),a ()=c (-1)->Eu LF LF l ((l.length-1:Nat):Int) c a=c (-1):=λR c a C=>by
     have d:Eu LF (m+1) l ((l.length-1:Nat):Int) c a=c (-1):=by
      rw[Yr];unfold Kn;by_cases N:l.length=4
      ·rw[A8];exact C
      ·rw[C7,K8,K8,L4,L4];simp only[vl,cond_true];have D:(([47,63,35]:List UInt8).getD (l.length-1) 0).toNat<128:=by
        have:l.length=2\/l.length=3:=by omega
        rcases this with q|q<;>rw[q]<;>decide
       have j:((((([47,63,35]:List UInt8).getD (l.length-1) 0).toNat:Nat):Int)!=(((l.getD (l.length-1) 0).toNat:Nat):Int))=true:=by
        rw[bne_iff_ne];omega
       have f:A4 (((l.length-1:Nat):Int)+1)=((l.length:Nat):Int):=by rw[C0];omega
       have g:cut ([47,63,35]:List UInt8) ((l.length:Nat):Int) 3=([47,63,35]:List UInt8).drop l.length:=by
        rw[show(3:Int)=((3:Nat):Int) from rfl,Gq];rfl
       have u:=(l.getD (l.length-1) 0).toNat_lt;rw[j,cond_true,f,T0,cond_true,g,D9 (by simp;omega),cond_true,K8,cond_true,SD,Cr6 (λb u=>?_) G]
       ·rfl
       ·have:=ab1 u;simp only[ae0,ae9,or_false] at this;rcases this with rfl|rfl|rfl<;>decide
     rw[<-i] at d;exact d
    rw[z,go _ _ _ rfl];exact⟨_,_,rfl,rfl⟩
theorem Be8:A9 c8 GX 63 Up:=by
 refine A9.fix (pf:=Oz) _ (G9 [] (C₀:=Vk LF) (J6.ok (l:=[]) rfl trivial) (F8 rfl (by kernel_rfl)) follows ?_);intro args ret a h;unfold Oz at h;split at h
 ·rename_i n;obtain⟨rfl,rfl⟩:=G6 h;have e:=(Ap2 LF noY () 0 n).trans (RO n);exact⟨rfl,rfl,rfl,1,_,_,e,rfl⟩
 ·cases h
theorem By0:A9 c8 GX 90 BT:=by
 refine A9.fix (pf:=Uw) _ (G9 [] (C₀:=Ae LF) (J6.ok (l:=[]) rfl trivial) (F8 rfl (by kernel_rfl)) follows ?_);intro args ret a h;unfold Uw at h;split at h
 ·rename_i n;obtain⟨rfl,rfl⟩:=G6 h;have e:=(Bd9 LF noY () 0 n).trans (YZ n);exact⟨rfl,rfl,rfl,1,_,_,e,rfl⟩
 ·cases h
theorem Bx3:A9 c8 GX 64 Lj:=λargs ret a h=>by
 have:J2 (Lj args)=none:=by unfold Lj HN;split<;>rfl
 rw[this] at h;cases h
theorem Bx2:A9 c8 GX 62 BI:=by
 refine A9.fix (pf:=Uo) _ (G9 [] (C₀:=K2 LF) (J6.ok (l:=[(60,Qs),(90,BT)]) rfl ⟨SQ,By0,trivial⟩) (F8 rfl (by kernel_rfl)) follows ?_);intro args ret f h;unfold Uo at h;split at h
 ·rename_i p r;obtain⟨a,h⟩:=C8 h;obtain⟨b,h⟩:=C8 h;obtain⟨rfl,rfl⟩:=G6 h;obtain rfl:p=isl:=by simpa[Wf] using a
  obtain⟨d,H,e,c⟩:=Bb5 r b;exact⟨rfl,rfl,rfl,1,d,H,(Bb4 LF noY () 0 r).trans e,c⟩
 ·cases h
theorem FW:∀(w:Nat) (l:By),w<=l.length->(∀i,i<w->V5 (l.getD i 0)=false)->K4 l=w+K4 (l.drop w)
 | 0,l,_,_=>by simp
 | w+1,[],h,_=>by simp at h
 | w+1,b::l,h,hb=>by
  have a:=hb 0 (by omega);rw[List.getD_cons_zero] at a;have d:=FW w l (by simpa using h) (λi c=>by have:=hb (i+1) (by omega);rwa [List.getD_cons_succ] at this);rw[Fw,a,List.drop_succ_cons];simp only[ae1,if_false];omega
theorem YE(s:By)(O:s.length<=8):∀(f m n:Nat),s.length-m<=f->m<=s.length->f<n->∃H t,∀(R:Type) (j:Int->List Blk->Option R) (k:By->Nat->Option R),
  Iy LF n s m j k=if K4 (s.drop m)<(s.drop m).length then j ((m+K4 (s.drop m):Nat):Int) H else k s t:=by
 intro f
 induction f with
 | zero=>
  intro m n G K L;obtain⟨n,rfl⟩:∃q,n=q+1:=⟨n-1,by omega⟩
  refine⟨[],m,λR j k=>?_⟩;rw[Z6];unfold V4;rw[decide_eq_false (by omega),cond_false,o5 (by omega),if_neg (by simp)]
 | succ f z=>
  intro m n G K L;obtain⟨n,rfl⟩:∃q,n=q+1:=⟨n-1,by omega⟩
  by_cases a:m<s.length
  ·have F:=Lib.decodeL_drop ⟨s.toArray⟩ m;have h:ad3 ⟨ac8 s⟩ m=af0 (s.drop m):=by rw[<-F]
   have p:=N0 s m a;have N:(s.drop m).length=s.length-m:=j2;generalize M:s.getD m 0=b at p;by_cases o:b.toNat<128
   ·have y:af0 (s.drop m)=(b.toNat,1):=by rw[p];exact Lib.decodeL_ascii b _ o
    have l:=Cj7 b;cases g:V5 b with
    | true=>
     rw[g,p7] at l;have u:K4 (s.drop m)=0:=by rw[p,Fw,g];rfl
     refine⟨[Blk.iter s (m+1)],m,λR j k=>?_⟩;rw[Z6];unfold V4;rw[decide_eq_true a,h,y,u,Fo];simp only[vl,cond_true];rw[show Wf ([47,63,35]:List UInt8)=true from rfl,cond_true,E8.2 ⟨by omega,by omega⟩,cond_true,l];rfl
    | false=>
     rw[g,x4] at l;have u:K4 (s.drop m)=K4 (s.drop (m+1))+1:=by rw[p,Fw,g];rfl
     have v:(s.drop (m+1)).length=s.length-(m+1):=j2;obtain⟨H,t,e⟩:=z (m+1) n (by omega) (by omega) (by omega);refine⟨H,t,λR j k=>?_⟩;rw[Z6];unfold V4;rw[decide_eq_true a,h,y];simp only[vl,cond_true];rw[show Wf ([47,63,35]:List UInt8)=true from rfl,cond_true,E8.2 ⟨by omega,by omega⟩,cond_true,l,p7,cond_false,e,u];by_cases q:K4 (s.drop (m+1))<(s.drop (m+1)).length
     ·rw[if_pos q,Fo,show m+1+K4 (s.drop (m+1))=m+(K4 (s.drop (m+1))+1) by omega]
     ·rw[if_neg q,T1]
   ·obtain⟨A,B,C,D,x⟩:=Ci4 b (s.drop (m+1)) (by omega);rw[<-p] at A B C D x;have v:(s.drop (m+1)).length=s.length-(m+1):=j2;generalize af0 (s.drop m)=d at *;obtain⟨c,w⟩:=d;simp only at A B C D x;have r:=FW w (s.drop m) (by omega) (λi I=>Br3 (x i I));rw[List.drop_drop] at r;have J:(s.drop (m+w)).length=s.length-(m+w):=j2;have l:ltI (irn (c:Int)) 0=true:=by rw[Bm8 (by omega)];rfl
    obtain⟨H,t,e⟩:=z (m+w) n (by omega) (by omega) (by omega);refine⟨H,t,λR j k=>?_⟩;rw[Z6];unfold V4;rw[decide_eq_true a,h];simp only[vl,cond_true];rw[show Wf ([47,63,35]:List UInt8)=true from rfl,cond_true,E8.2 ⟨by omega,by omega⟩,cond_true,l,p7,cond_false,e,r];by_cases q:K4 (s.drop (m+w))<(s.drop (m+w)).length
    ·rw[if_pos q,Fo,show m+w+K4 (s.drop (m+w))=m+(w+K4 (s.drop (m+w))) by omega]
    ·rw[if_neg q,T1]
  ·refine⟨[],m,λR j k=>?_⟩;rw[Z6];unfold V4;rw[decide_eq_false a,cond_false,o5 (by omega),if_neg (by simp)]
theorem Bb2(s:By)(h:s.length<=8):∃r H,RG LF s (λc a=>rv (.s (.int .i64 c)) a)=rv r H/\r.stab [] H = .s (.int .i64 (Lib.indexAny s isl)):=by
 have b:=G3;obtain⟨H,d,e⟩:=YE s h s.length 0 LF (by omega) (by omega) (by omega);unfold RG;rw[A8,cond_false,e,Ho,w9,aa6];by_cases q:K4 s<s.length
 ·rw[if_pos q,if_pos q];exact⟨_,_,rfl,rfl⟩
 ·rw[if_neg q,if_neg q];exact⟨_,_,rfl,rfl⟩
theorem Bx1:A9 c8 GX 35 TJ:=by
 refine A9.fix (pf:=Nh) _ (G9 [] (C₀:=Fe LF) (J6.ok (l:=[(62,BI),(63,Up),(64,Lj)]) rfl ⟨Bx2,Be8,Bx3,trivial⟩) (F8 rfl (by kernel_rfl)) follows ?_);intro args ret f h;unfold Nh at h;split at h
 ·rename_i s p;obtain⟨a,h⟩:=C8 h;obtain⟨b,h⟩:=C8 h;obtain⟨rfl,rfl⟩:=G6 h;obtain rfl:p=isl:=by simpa[Wf] using a
  obtain⟨d,H,e,c⟩:=Bb2 s (w7 b);exact⟨rfl,rfl,rfl,1,d,H,(Bb1 LF noY () 0 s).trans e,c⟩
 ·cases h
theorem Je{c:Bool}{t:Tr}(h:c=true):J2 (.need c t)=J2 t:=by subst h;rfl
theorem Cd9:A9 c8 GX 35 ML:=λargs ret c h=>by
 have a:=Bx0 args ret c;have b:=Bx1 args ret c;unfold ML at h;unfold TH at a;unfold TJ at b;generalize E0 [[0],[0]] args=l at h a b;unfold TG at h;split at h
 ·rename_i s p;obtain⟨e,h⟩:=C8 h;obtain⟨d,h⟩:=C8 h;by_cases f:s.length<=8
  ·refine b ?_;unfold Nh;rw[Je d,Je (y8 f)];exact h
  ·refine a ?_;unfold Ng;rw[Je e,Je d,Je (y8 (by omega))];exact h
 ·cases h
section
theorem Cd6:A9 c8 GX 100 At5:=xf [] (NP LF) BA rfl ⟨As0,trivial⟩ rfl (by kernel_rfl) follows λargs=>by
 unfold BA;split
 ·rename_i s p;exact λa=>⟨rfl,rfl,rfl,_,_,(Bo1 LF noY () 0 s p).trans (Aj7 s p a),rfl⟩
 ·trivial
theorem Cp0:A9 c8 GX 70 Bg7:=xf [] (Ad8 LF) MP rfl ⟨Cd6,trivial⟩ rfl (by kernel_rfl) follows λargs=>by
 unfold MP;split
 ·rename_i s p;exact λa=>⟨rfl,rfl,rfl,_,_,(Cb2 LF noY () 0 s p).trans (Bc6 s p a),rfl⟩
 ·trivial
theorem A00:A9 c8 GX 22 MT:=xf [] (NW LF) BP rfl trivial rfl (by kernel_rfl) follows λargs=>by
 unfold BP;split
 ·rename_i s;exact⟨rfl,rfl,rfl,_,_,(Bt2 LF noY () 0 s).trans (Aq4 s ),rfl⟩
 ·trivial
theorem AH:A9 c8 GX 12 Nj:=xf [] (NX LF) BQ rfl ⟨A00,trivial⟩ rfl (by kernel_rfl) follows λargs=>by
 unfold BQ;split
 ·rename_i s;exact⟨rfl,rfl,rfl,_,_,(Bt5 LF noY () 0 s).trans (Aq9 s ),rfl⟩
 ·trivial
theorem Cp2:A9 c8 GX 32 Bh0:=xf [] (X1 LF) MV rfl ⟨SQ,trivial⟩ rfl (by kernel_rfl) follows λargs=>by
 unfold MV;split
 ·rename_i s;exact λa=>⟨rfl,rfl,rfl,_,_,(Cb9 LF noY () 0 s).trans (Bd7 s a),rfl⟩
 ·trivial
theorem Cp1:A9 c8 GX 69 Bg9:=xf [0,0] (Pn LF) MQ rfl trivial rfl (by kernel_rfl) follows λargs=>by
 unfold MQ;split
 ·rename_i s;exact λa=>⟨rfl,rfl,rfl,_,_,(Cb5 LF noY () 0 s).trans (Bc9 s a),rfl⟩
 ·trivial
theorem Bx7:A9 c8 GX 37 TL:=xf [0,0] (U6 LF) Uu rfl ⟨Az6,SP,SQ,Bv8,Cp0,Cp1,A00,trivial⟩ rfl (by kernel_rfl) follows λargs=>by
 unfold Uu;split
 ·rename_i n o j k v4 b c d e f g h i l m a;exact λq=>λr=>λt=>λu=>λv=>(let⟨y,w,p,x⟩:=Bd4 n o j k v4 b c d e f g h i l m a q r t u v;⟨rfl,rfl,rfl,y,w,(Bd3 LF noY () 0 n o j k v4 b c d e f g h i l m a).trans p,x⟩)
 ·trivial
theorem Bx8:A9 c8 GX 20 Aa5:=xf [0,0] (Po LF) MU rfl ⟨Bw9,Cp2,Ar9,AH,Bv5,Cd9,SP,Bx7,trivial⟩ rfl (by kernel_rfl) follows λargs=>by
 unfold MU;split
 ·rename_i s;exact λb=>(let⟨e,c,a,d⟩:=Cb7 s b;⟨rfl,rfl,rfl,e,c,(Cb6 LF noY () 0 s).trans a,d⟩)
 ·trivial
theorem Bx6:A9 c8 GX 10 BO:=xf [0,0] (CL LF) Ut rfl ⟨Bx8,trivial⟩ rfl (by kernel_rfl) follows λargs=>by
 unfold Ut;split
 ·rename_i s;exact λb=>(let⟨e,c,a,d⟩:=Bd1 s b;⟨rfl,rfl,rfl,e,c,(Bd0 LF noY () 0 s).trans a,d⟩)
 ·trivial
theorem Ce2:A9 c8 GX 41 Au0:=xf [] (NY LF) BS rfl ⟨AH,Ar7,Cd2,trivial⟩ rfl (by kernel_rfl) follows λargs=>by
 unfold BS;split
 ·rename_i m n i j v4 a b c d e f g h k l;exact λp=>λq=>λr=>λt=>(let⟨w,u,o,v⟩:=Bt7 m n i j v4 a b c d e f g h k l p q r t;⟨rfl,rfl,rfl,w,u,(Bt6 LF noY () 0 m n i j v4 a b c d e f g h k l).trans o,v⟩)
 ·trivial
theorem Bf0:A9 c8 GX 23 HP:=xf [] (Vm LF) Pb rfl ⟨Ce2,Bx8,trivial⟩ rfl (by kernel_rfl) follows λargs=>by
 unfold Pb;split
 ·rename_i m n i j v4 a b c d e f g h k l;exact λp=>λq=>λr=>λt=>(let⟨w,u,o,v⟩:=Ar1 m n i j v4 a b c d e f g h k l p q r t;⟨rfl,rfl,rfl,w,u,(Ar0 LF noY () 0 m n i j v4 a b c d e f g h k l).trans o,v⟩)
 ·trivial
end
section
variable {W R : Type} (L : Nat) (Y : E3) (Q : Yh W) (s : W) (k : Out -> St W -> Option R)
noncomputable abbrev TZ:Code:=E5 ah1
noncomputable def Fb(L:Nat):Cfg:=D1 L [8] (A3 [(2,[0,0,2,0])]) [] (A3 [(6,[4]),(3,[0,0,3]),(5,[4]),(4,[0,0,3,12]),(2,[0,0,3,3]),(1,[0,0,3]),(0,[0,0])]) [] (A3 [(0,[]),(1,[0,0,3])]) (some [4]) [] [] []
noncomputable def Bh{R:Type}(L n:Nat)(n0:Int)(d c:Bool)(b:LL)(a:Int)(e:Unit->Option R)(f:Unit->Option R):Option R:=match n with|0=>none|n+1=>cond (ltI a (b.length:Int)) (cond (inR a b.length) (cond (okE Jc b (j1 a) 0) (cond (ltI n0 (↑(z7 (gX b (j1 a) 0)):Int)) (e ()) (Bh L n n0 d c b (A4 (a+1)) e f)) none) none) (f ())
theorem PM(n n0 l_z1 l_t2 l3 i4):G1 0 ((Fb L).keep 2) (bd (Fb L) Y Q (cd [1,0,1,0,0] TZ)) n ⟨gp [(0,pI n0),(0,.s (.sl l_z1 l_t2 1 l3)),(3,pI i4)] 13,[],s⟩ k =
 Bh L n n0 l_z1 l_t2 l3 i4 (λ_=>k .ret ⟨gp [(4,pB false)] 14,[],s⟩) (λ_=>k (.exit 0) ⟨gp [] 19,[],s⟩):=by
 induction n generalizing n0 l_z1 l_t2 l3 i4 with
 | zero=>rfl
 | succ n a=>rw[Bh];simp only[<-a];kernel_rfl
noncomputable def PL{R:Type}(L:Nat)(n0:Int)(b a:Bool)(d:LL)(c:Bool->Option R):Option R:=Bh L L n0 b a d 0 (λ_=>c false) (λ_=>c true)
theorem A58(d:Nat)(n0 l_z1 l_t2 l3):evC (Fb L) (d+1) W Q 8 [pI n0,.s (.sl l_z1 l_t2 1 l3)] [] s=PL L n0 l_z1 l_t2 l3 (λa=>some (pB a,[],s)):=by refine(evE (fn:=ah1) (by kernel_rfl)).trans ?_;generalize evC (Fb L) d=Y;unfold PL;exact(k9 (by kernel_rfl) ((PM L Y Q s (I1 0 (J0 (Fb L) Y Q (cd [1,1] TZ) (I6 (Fb L) ah1))) L n0 l_z1 l_t2 l3 0).trans (by kernel_rfl)))
end
end
section
open Go Go.Proofs Go.Sort
set_option maxRecDepth 100000
theorem Xx{R:Type}(n:Int)(z t:Bool)(l:List By)(c d:Unit->Option R)(j:l.length<=1000000000):∀(r:List By) (i m:Nat),l.drop i=r->r.length<m->Bh LF m n z t (A6 l) (i:Int) c d=if Hu n r then d () else c ()
 | [],i,m,h,b=>by
  obtain⟨m,rfl⟩:∃q,m=q+1:=⟨m-1,by simp at b;omega⟩
  rw[Bh];have:l.length<=i:=y9.1 h;rw[I2 (by rw[C2];omega)];rfl
 | x::r,i,m,h,b=>by
  obtain⟨m,rfl⟩:∃q,m=q+1:=⟨m-1,by simp at b;omega⟩
  rw[Bh];have a:i<l.length:=Decidable.byContradiction λg=>by
   rw[y9.2 (by omega)] at h;cases h
  have o:l.getD i []=x:=by
   have:=x5 a;rw[h] at this;rw[j5,j0 a];exact(ad8 this).1.symm
  have k:l.drop (i+1)=r:=by
   have:=x5 a;rw[h] at this;exact(ad8 this).2.symm
  rw[F1 (by rw[C2];omega),cond_true,O8 (by omega) (by rw[C2];omega),cond_true,o6,R0 a,cond_true,W3,o];have e:Hu n (x::r)=(!(ltI n (x.length:Int))&&Hu n r):=rfl;rw[e];by_cases f:n<(x.length:Int)
  ·rw[F1 f];rfl
  ·rw[A8,cond_false,C0,x4,aa2];exact Xx n z t l c d j r (i+1) m k (by simp at b;omega)
theorem WO{R:Type}{b:Bool->Option R}(n:Int)(z t:Bool)(l:LL)(c:l.all isS=true)(d:A2 l.length=true):PL LF n z t l b=b (Hu n (l.map elS)):=by
 have e:=G3;have a:=N7 d;rw[Dw c] at a ⊢;generalize l.map elS=q at a ⊢;rw[C2] at a;unfold PL;rw[show(0:Int)=((0:Nat):Int) from rfl,Xx n z t q _ _ a q 0 LF rfl (by omega)];have:p9 elS (A6 q)=q:=by
  unfold A6;rw[ae6];exact ad9 (λ_=>rfl) q
 rw[this];cases Hu n q<;>rfl
end
section
open Go Go.Proofs
set_option maxRecDepth 100000
section
theorem Bw1:A9 c8 GX 8 TE:=xf [] (Fb LF) Uj rfl trivial rfl (by kernel_rfl) follows λargs=>by
 unfold Uj;split
 ·rename_i n b a l;exact λc=>λd=>⟨rfl,rfl,rfl,_,_,(A58 LF noY () 0 n b a l).trans (WO n b a l c d),rfl⟩
 ·trivial
end
theorem YS{a:LL}(h:∀b∈a,Ty.ofL [.str] b):a.all isS=true:=by rw[s8];intro b c;have:=h b c;simp only[Ty.ofL,Ty.of] at this;obtain⟨_,_,rfl,⟨l,rfl,_⟩,rfl⟩:=this;rfl
theorem B28{b:LL}(h:∀a∈b,Ty.ofL [.str,.slice [.str]] a):b.all Hq=true:=by
 rw[s8];intro a f;have:=h a f;simp only[Ty.ofL,Ty.of] at this;obtain⟨_,_,rfl,⟨u,rfl,_⟩,x,_,rfl,e,rfl⟩:=this;simp only[v7,ab4] at e;rcases e with rfl|⟨d,rfl,_,c⟩
 ·rfl
 ·have g:d.all isS=true:=YS (λa h=>by simpa only[Ty.ofL,Ty.of] using c a h);show((Nat.beq 1 1||(false&&d.isEmpty))&&d.all isS)=true;rw[g];rfl
theorem Ab4{P:Program}{t:Nat}{v:PV}(h:AJ P t v)(e:Hd P 20 t=some [.slice [.str,.slice [.str]]])(d:Qw P t=false):∃z l,v = .s (.sl z false 2 l)/\l.all Hq=true:=by
 obtain⟨x,rfl,c⟩:=Bz6 h e d;simp only[Ty.of,v7,ab4] at c;rcases c with rfl|⟨b,rfl,f,a⟩
 ·exact⟨true,[],rfl,rfl⟩
 ·exact⟨false,b,rfl,B28 a⟩
theorem Ay4{l:LL}(g:l.all Hq=true)(h:Du (l.map M3)=true):l.all Ww=true/\A2 l.length=true:=by unfold Du at h;simp only[j8,w6] at h;obtain⟨i,j⟩:=h;refine⟨s8.2 λx b=>?_,D9 (by have:=w7 i;omega)⟩;have m:=s8.1 g x b;have a:=s8.1 j (M3 x) (ag3.2 ⟨x,b,rfl⟩);simp only[j8] at a;obtain⟨c,e,k⟩:=a;have d:=(E8.1 c).2;have f:=w7 e;unfold Ww;rw[j8];refine⟨y8 (show(M3 x).1.length<=10000000 by omega),y8 ?_⟩;have:((x.getD 1 .nilp).gE).length=(M3 x).2.length:=(w6 _).symm;omega
theorem UF:∀(l:List FrV) (d c up b e:Bool) (a:List By),(Hz l d c up b e a).h.length<=a.length+l.length
 | [],d,c,up,b,e,a=>by
  show(j7 (Q0 a)).length<=_;have:=Au6 (Q0 a);rw[FT] at this;omega
 | f::r,d,c,up,b,e,a=>by
  rw[Ea,v7];cases (uE (C5 f.1)!=0) with
  | true=>show 0<=_;omega
  | false=>
   cases ((G0 f.2).2 !=0) with
   | true=>show 0<=_;omega
   | false=>
    simp only[cond_false];refine ag4 (UF r _ _ _ _ _ _) ?_;cases (upF f.2&&E9 (uS (C5 f.1)))<;>simp<;>omega
theorem Ic(l:List FrV):(cH (D5 l)).length<=16:=by
 rw[Jr];cases b:(l.isEmpty||ltI 16 (l.length:Int)) with
 | true=>show 0<=16;omega
 | false=>
  simp only[Bool.or_eq_false_iff] at b;have a:=b.2;rw[V2,decide_eq_false_iff_not] at a;have:=UF l true false false false false [];simp only[ab4] at this;simp only[cond_false];show(Hz l true false false false false []).h.length<=16;omega
theorem Cq9{l:List By}{i:Nat}(h:i<l.length):l.drop i=l.getD i []::l.drop (i+1):=by rw[x5 h,j5,j0 h];rfl
section
variable {R : Type} (s : By) (z t : Bool) (X K D V : LL) (O M L J Y U Q Z I C W N : Bool)
theorem WT(H G:List By)(k:G.length<=16)(i:Nat)(f:i<H.length)(d:Int->Bool->By->Bool->Bool->LL->LL->Bool->Bool->Bool->Bool->LL->LL->Bool->Bool->Bool->Bool->LL->LL->Bool->Bool->Bool->Bool->Option R) :
  ∀(r j n:Nat) (a:Bool),j+r=G.length->r<n->Ml LF n (i:Int) a (j:Int) s z t X (A6 H) O M L J K (A6 G) Y U Q Z D V I C W N d =
   d (i:Int) (a||(G.drop j).any λx=>x==H.getD i []) s z t X (A6 H) O M L J K (A6 G) Y U Q Z D V I C W N:=by
 intro r
 induction r with
 | zero=>
  intro j n a g h;obtain⟨n,rfl⟩:∃m,n=m+1:=⟨n-1,by omega⟩
  rw[Ml,I2 (by rw[C2];omega),o5 (by omega)];cases a<;>rfl
 | succ r c=>
  intro j n a g h;obtain⟨n,rfl⟩:∃m,n=m+1:=⟨n-1,by omega⟩
  have b:j<G.length:=by omega
  have e:A4 ((j:Int)+1)=((j+1:Nat):Int):=by rw[C0];rfl
  rw[Ml,F1 (by rw[C2];omega),e,cond_true];cases a with
  | true=>
   rw[cond_true,c (j+1) n true (by omega) (by omega)];rfl
  | false=>
   rw[cond_false,O8 (by omega) (by rw[C2];omega),o6,R0 b,W3,O8 (by omega) (by rw[C2];omega),o6,R0 f,W3,Cq9 b,List.any_cons,ac2];simp only[cond_true,vl];exact c (j+1) n _ (by omega) (by omega)
theorem WU(H G:List By)(c:∀x∈H,x∈G)(p:H.length<=16)(f:G.length<=16)(o:List Blk->Option R)(d:By->Bool->Bool->LL->LL->Bool->Bool->Bool->Bool->LL->LL->Bool->Bool->Bool->Bool->LL->LL->Bool->Bool->Bool->Bool->Option R) :
  ∀(r i n:Nat),i+r=H.length->r<n->Py LF n (i:Int) s z t X (A6 H) O M L J K (A6 G) Y U Q Z D V I C W N o d =
   d s z t X (A6 H) O M L J K (A6 G) Y U Q Z D V I C W N:=by
 have g:=G3;intro r
 induction r with
 | zero=>
  intro i n h k;obtain⟨n,rfl⟩:∃m,n=m+1:=⟨n-1,by omega⟩
  rw[Py,I2 (by rw[C2];omega)];rfl
 | succ r l=>
  intro i n h k;obtain⟨n,rfl⟩:∃m,n=m+1:=⟨n-1,by omega⟩
  have a:i<H.length:=by omega
  have e:A4 ((i:Int)+1)=((i+1:Nat):Int):=by rw[C0];rfl
  have j:H.getD i []∈H:=by
   rw[j5,j0 a];exact aa8 a
  have b:((G.drop 0).any λx=>x==H.getD i [])=true:=by
   rw[w9,ae8];exact⟨_,c _ j,beq_self_eq_true _⟩
  rw[Py,F1 (by rw[C2];omega),cond_true,show(0:Int)=((0:Nat):Int) from rfl,WT s z t X K D V O M L J Y U Q Z I C W N H G f i a _ G.length 0 LF false (by omega) (by omega),b];simp only[ag1,p7,cond_false,e];exact l (i+1) n (by omega) (by omega)
end
theorem Bn5(z t:Bool)(l:LL)(u:By)(b a:Bool)(c:LL)(i:l.all Hq=true)(O:Hq [.str u,.sl b a 1 c]=true) :
  Tru (evC (Fd LF) 1 Unit noY 3 [.s (.sl z t 2 l),.agg [pS u,.s (.sl b a 1 c)]] [] ()):=by
 have M:=G3;refine Eq.subst (motive:=Tru) (Ck0 (σ:=Unit) LF noY () 0 z t l u b a c).symm ?_;unfold lce;have r:o9 [[SV.str u,SV.sl b a 1 c]] Hq=true:=by rw[ag0,O];rfl
 rw[i,cond_true];cases P:Du (l.map M3) with
 | false=>exact⟨_,rfl⟩
 | true=>
 rw[r,p7,cond_false,cond_true];cases v:Du (p9 M3 [[SV.str u,SV.sl b a 1 c]]) with
 | false=>exact⟨_,rfl⟩
 | true=>
 rw[p7,cond_false];cases p:ltI (l.length:Int) 16 with
 | false=>exact⟨_,rfl⟩
 | true=>
 rw[V2,decide_eq_true_eq] at p;obtain⟨o,K⟩:=Ay4 i P;obtain⟨Q,_⟩:=Ay4 r v;have X:I4 (0+l.length)=true:=I7 (by omega);have Y:I4 (l.length+1)=true:=I7 (by omega);have G:o9 (l++[[SV.str u,SV.sl b a 1 c]]) Hq=true:=by rw[ab3,i,r];rfl
 have H:o9 (l++[[SV.str u,SV.sl b a 1 c]]) Ww=true:=by rw[ab3,o,Q];rfl
 have I:A2 (l++[[SV.str u,SV.sl b a 1 c]]).length=true:=D9 (by simp;omega);have e:o9 (l++[[SV.str Ad,SV.sl true true 0 []]]) Hq=true:=by rw[ab3,i];rfl
 have A:o9 (l++[[SV.str Ad,SV.sl true true 0 []]]) Ww=true:=by rw[ab3,o];rfl
 have h:A2 (l++[[SV.str Ad,SV.sl true true 0 []]]).length=true:=D9 (by simp;omega);have J:p9 M3 (l++[[SV.str u,SV.sl b a 1 c]])=l.map M3++[M3 [SV.str u,SV.sl b a 1 c]]:=af5;have B:p9 M3 (l++[[SV.str Ad,SV.sl true true 0 []]])=l.map M3++[(Ad,[])]:=af5;unfold Ad at e A h B;simp only[p7,cond_false,cond_true,o,K,vl,X,Y,G,H,I,e,A,h,J,B,Bq0,ad5];have q:(l.map M3).length<16:=by rw[w6];omega
 generalize l.map M3=L at q;generalize M3 [SV.str u,SV.sl b a 1 c]=f;cases D:(cE (D5 L)!=0) with
 | true=>exact⟨_,rfl⟩
 | false=>
 have C:cE (D5 L)=0:=by simpa using D
 have N:D5 (L++[([97,98,111,117,116,58,98,108,97,110,107],[])])=D5 L:=Ak5 C q;have R:A2 (A6 (cH (D5 L))).length=true:=D9 (by rw[C2];have:=Ic L;omega);have S:A2 (A6 (cH (D5 (L++[f])))).length=true:=D9 (by rw[C2];have:=Ic (L++[f]);omega);simp only[N,D,cond_false,Fy,R,S,cond_true,beq_self_eq_true,ad5,p7];cases g:(cE (D5 (L++[f]))!=0) with
 | true=>
  have d:cE (D5 (L++[f]))≠0:=by simpa using g
  rw[A10 d];exact⟨_,rfl⟩
 | false=>
 have d:cE (D5 (L++[f]))=0:=by simpa using g
 obtain⟨W,j,k,m,n⟩:=A79 f C q d;rw[cond_false,show(0:Int)=((0:Nat):Int) from rfl,WU _ _ _ _ _ _ _ _ _ _ _ _ _ _ _ _ _ _ _ (cH (D5 L)) (cH (D5 (L++[f]))) W (Ic _) (Ic _) _ _ (cH (D5 L)).length 0 LF (by omega) (by have:=Ic L;omega)];generalize cS (D5 L)=x at j ⊢;generalize cP (D5 L)=w at k ⊢;generalize cU (D5 L)=y at m ⊢;generalize cB (D5 L)=e at n ⊢;generalize cS (D5 (L++[f]))=F at j ⊢;generalize cP (D5 (L++[f]))=V at k ⊢;generalize cU (D5 (L++[f]))=Z at m ⊢;generalize cB (D5 (L++[f]))=h at n ⊢;have os:x=true\/(x=false/\F=false):=by
  cases x with
  | true=>exact .inl rfl
  | false=>exact .inr ⟨rfl,by cases F with|false=>rfl|true=>exact(j rfl).symm⟩
 have op:w=false\/(w=true/\V=true):=by cases w with|false=>exact .inl rfl|true=>exact .inr ⟨rfl,k rfl⟩
 have U:y=false\/(y=true/\Z=true):=by cases y with|false=>exact .inl rfl|true=>exact .inr ⟨rfl,m rfl⟩
 have T:e=false\/(e=true/\h=true):=by cases e with|false=>exact .inl rfl|true=>exact .inr ⟨rfl,n rfl⟩
 clear j k m n;rcases os with rfl|⟨rfl,rfl⟩<;>rcases op with rfl|⟨rfl,rfl⟩<;>rcases U with rfl|⟨rfl,rfl⟩<;>rcases T with rfl|⟨rfl,rfl⟩<;>exact⟨_,rfl⟩
theorem A07{P:Program}{t:Nat}{v:PV}(h:AJ P t v)(e:Hd P 20 t=some [.str,.slice [.str]])(j:Qw P t=true) :
  ∃u z c,v = .agg [.s (.str u),.s (.sl z false 1 c)]/\c.all isS=true:=by
 obtain⟨k,l,f,g,b⟩:=h;rw[e] at f;obtain rfl:=y5 f;simp only[Ty.ofL] at g;obtain⟨_,_,rfl,⟨u,rfl,_⟩,x,_,rfl,i,rfl⟩:=g;simp only[Ty.of,v7,ab4] at i;have⟨z,l,ex,hl⟩:∃z l,x = .sl z false 1 l/\l.all isS=true:=by
  rcases i with rfl|⟨d,rfl,_,a⟩
  ·exact⟨true,[],rfl,rfl⟩
  ·exact⟨false,d,rfl,YS a⟩
 subst ex;rcases b with⟨_,rfl⟩|⟨b,_⟩
 ·exact⟨u,z,l,rfl,hl⟩
 ·rw[j] at b;cases b
theorem B64(args:List PV)(h:Jk c8 [22,25] args):∃d b,evC (Fd LF) d Unit noY 3 args [] ()=some (.s (.bool true),b,()):=by
 obtain⟨v1,k,rfl,f,n,m,rfl,g,rfl⟩:=h;obtain⟨z,l,rfl,j⟩:=Ab4 f (by kernel_rfl) (by kernel_rfl);obtain⟨u,a,c,rfl,i⟩:=A07 g (by kernel_rfl) (by kernel_rfl);obtain⟨H,e⟩:=Bn5 z false l u a false c j (by
  show((Nat.beq 1 1||(a&&c.isEmpty))&&c.all isS)=true;rw[i];rfl)
 exact⟨1,H,e⟩
end
section
open Go Go.Proofs Go.Sort
set_option maxRecDepth 100000
theorem JT{w:World}{a e:Nat}{b:Array Value}{fr:Nat × Nat}(h:w.heap[a]? = some (.cells b e fr))(d:Array By) :
  (putRow encStr w a 0 d).heap[a]? = some (.cells (putCells encStr 0 d b) e fr)/\(∀k,k≠a->(putRow encStr w a 0 d).heap[k]? = w.heap[k]?):=by
 unfold putRow mapBlock;constructor
 ·simp only[ad0,if_true,h,x6,onCells]
 ·intro k c;simp only[ad0];rw[if_neg (λe=>c e.symm)]
theorem XU{a:Array Value}{d:Array By}{i:Nat}(c:i<d.size)(e:d.size<=a.size):(putCells encStr 0 d a)[i]? = some (encStr d[i]!):=by
 have b:i<a.size:=by omega
 unfold putCells;rw[Array.getElem?_mapIdx,aa0 b];simp only[x6,Nat.zero_le,true_and,aa6,c,if_true,Nat.sub_zero]
theorem Wo(a:Array Value)(d:Array By):(putCells encStr 0 d a).size=a.size:=by simp[putCells]
theorem IV{St:Nat->Prop}{w:World}{g e:Nat}{b:Array Value}{E:List By}{f:Nat}(l:w.heap[g]? = some (.cells b e (0,0)))(d:∀i (h:i<(A6 E).length),((A6 E)[i]).length=f)
  (q:∀i (h:i<(A6 E).length) j (t:j<((A6 E)[i]).length),∃V,b[i*f+j]? = some V/\VS St w ((A6 E)[i][j]) V):Holds encStr w g 0 E.toArray:=by
 intro i m;have c:i<E.length:=by simpa using m
 have n:i<(A6 E).length:=by rw[C2];exact c
 have a:(A6 E)[i]=[SV.str E[i]]:=by simp[A6]
 have p:f=1:=by rw[<-d i n,a];rfl
 subst p;constructor
 ·obtain⟨V,k,o⟩:=q i n 0 (by rw[a];exact Nat.one_pos);rw[o8,ab5] at k;simp only[a,ac6] at o;obtain⟨s,rfl,r⟩:=o.inv_str;simp only[ac1,l,aa6];rw[k,getElem!_pos E.toArray i m];simp only[List.getElem_toArray,encStr,Option.isSome_none,ae1,if_false];rw[<-r]
 ·simp[ab0,l]
theorem By8:TN c8 15 Qt:=by
 intro St w x X o S h;generalize z:Qt x o=pr at h ⊢;obtain⟨b,L⟩:=pr;dsimp only at h ⊢;unfold Qt at z;split at z
 case h_2=>
  obtain⟨rfl,_⟩:=ag9 z;cases h
 obtain⟨B,M⟩:=ag9 z;rw[<-B] at h;simp only[j8] at h;obtain⟨T,U⟩:=h;have d:∀(p:Option Addr) cap,M4 c8 ((callFunc 15 #[.slice p 0 cap]).run c8 w) λV w'=>V=undef/\w'=w:=λp cap=>
  X4 (fn:=Tryz.f15) (by kernel_rfl) (by kernel_rfl) (by kernel_rfl) ((Any.slices_Sort_string_none Tryz.lays190 p cap w).mono λe w' ⟨D,m⟩=>⟨_,D,rfl,m⟩)
 obtain⟨E,rfl⟩:∃E,o=A6 E:=⟨_,Dw T⟩
 rw[Cb] at M;subst M;have c:=FT E;refine⟨λy=>?_,?_⟩
 ·have A:E=[]:=by
   cases E with
   | nil=>rfl
   | cons a r=>cases y
  subst A;refine(d none 0).mono λV w' ⟨J,m⟩=>⟨J,?_,m▸I5.refl _⟩
  have:Q0 []=[]:=o0.1 c;rw[this];rfl
 intro u k e sz cap v C G N a0 Z t f;by_cases y:E=[]
 ·subst y;have H:Q0 []=[]:=o0.1 c;refine(d _ cap).mono λV w' ⟨J,m⟩=>?_
  rw[m,H];exact⟨J,rfl,w,k,v,rfl,λ_ _=>rfl,rfl,rfl,rfl,rfl,λi h=>absurd h (af6 _),λi h=>absurd h (af6 _),I5.refl _⟩
 have A:0<E.length:=ad4.2 y;have I:sz=1:=by
  rw[<-t 0 (by rw[C2];exact A)];simp[A6]
 have W:=IV v t f;subst I;have q:u<w.heap.size:=(ab7.1 v).1;have B:E.length<4611686018427387904:=by
  have:=N7 U;rw[C2] at this;omega
 have P:=Any.slices_Sort_string Tryz.lays190 u 0 cap E w W q B;rw[<-FS] at P;rw[C2];refine X4 (fn:=Tryz.f15) (by kernel_rfl) (by kernel_rfl) (by kernel_rfl) (P.mono λe' w' ⟨D,n,os,m⟩=>⟨_,D,rfl,by rw[C2,c],?_⟩);obtain⟨p1,p2⟩:=JT v (Q0 E).toArray;have O:k.size=cap:=by rw[C,o8]
 have R:E.length<=cap:=by rw[<-C2];exact G
 have l:∀i (h:i<(A6 (Q0 E)).length),(A6 (Q0 E))[i]=[SV.str ((Q0 E)[i]'(by rw[C2] at h;exact h))]:=λi h=>by simp[A6]
 refine⟨putRow encStr w u 0 (Q0 E).toArray,putCells encStr 0 (Q0 E).toArray k,p1,Wo _ _,p2,by simp[putRow,mapBlock],rfl,rfl,rfl,λi h=>by rw[l];rfl,λi h j K=>?_,?_⟩
 ·have Y:j=0:=by
   have:j<1:=by rw[l] at K;exact K
   omega
  subst Y;have Q:i<(Q0 E).length:=by rw[C2] at h;exact h
  refine⟨_,by rw[o8,ab5];exact XU (by simpa using Q) (by simp;omega),?_⟩;have S:(A6 (Q0 E))[i][0] = .str (Q0 E)[i]:=by simp only[l];rfl
  rw[S,getElem!_pos (Q0 E).toArray i (by simpa using Q)];have:=VS.str (St:=St) (w:=putRow encStr w u 0 (Q0 E).toArray) ⟨((Q0 E)[i]).toArray⟩;simpa using this
 ·rw[m];refine⟨⟨λg F=>heap_grow_old _ _ F,by simp only[grow,ab9];exact Nat.le_add_right _ _⟩,rfl,rfl,rfl⟩
theorem Bq9{C:Cfg}{R:Type}{I:R->(Nat->Prop)->(Nat->Prop)->World->Prop}(D:HI I){f:Ctx}{p:Nat->Prop}{w w':World}{z:Bool}{E:Nat}{l l':LL}{s:R}(g cap:Nat)(B:List Value)(i:Array Value)
  (L:Cu C E=false) (n:HR f [.arr z E 1 l] w) (K:I s f.St p w) (H:∀b g,f.nm b=some g->¬p g)
  (d:f.nm 0=some g) (J:g<w'.heap.size) (e:∀k,k<w.heap.size->f.nm 0≠some k->w'.heap[k]? = w.heap[k]?) (m:w.heap.size<=w'.heap.size) (M:w'.os=w.os) (N:w'.tape=w.tape) (O:w'.output=w.output)
  (j:w'.heap[g]? = some (.cells i E (0,0))) (T:Els f.St w' 1 l' B) (v:l'≠[]) (o:∀q,q<B.length->i[q]? = B[q]?) (U:B.length<=i.size) (u:l'.length<=cap) (V:cap<=maxLen) (G:i.size=cap) :
  Y0 C I f [.arr z E 1 l] w p (.fl 0) [.arr z E 1 l'] s (.slice (some ⟨g,0,none⟩) l'.length cap) w':=by
 have t:0<[Blk.arr z E 1 l].length:=by simp
 have A:(f.re 0 (some g)).nm 0=some g:=by simp[Ctx.re]
 have x:¬Fl C (A1 [Blk.arr z E 1 l] 0):=by simp[A1,Blk.shp,Fl,L]
 have a:([Blk.arr z E 1 l].map (Blk.kill 0)).set 0 (.arr z E 1 l')=[.arr z E 1 l']:=rfl;obtain⟨P,Q,X⟩:=FI (C:=C) (y:=.arr z E 1 l') (ng:=some g) (w':=w') n t x (λk a=>by
   simp only[c9] at a;subst a;exact⟨J,(n.lt 0 g d).2.2,λc o F=>o (n.inj c 0 _ F d)⟩)
  (λk a=>by
   simp only[c9] at a;subst a;exact .inl d) e m M N O
  (BR.els A j T (by rintro⟨_,h⟩;exact v h) o U) rfl
 rw[a] at P Q;refine⟨_,p,P.lift p,Q,?_,λc o=>?_,?_,λb S r=>?_⟩
 ·refine .fl 0 g z E 1 l'.length cap rfl (λ_ h=>v (o0.1 h)) A u V ?_;simp only[aa7,j,G,o8]
 ·simp only[PV.nms,ae2] at o;subst o;simp
 ·refine D.mono s f.St p w f.St w' K (λ_ h=>h) (λk a W=>(D.foot _ _ _ _ K k W).2 a) (λk a=>ae3 (n.stlt k a) m) (λk a=>?_) m M N O;rcases a with a|a
  ·exact e k (n.stlt k a) (λh=>(n.lt 0 k h).2.2 a)
  ·exact e k (D.foot _ _ _ _ K k a).1 (λh=>H 0 k h a)
 ·simp only[Ctx.re] at r;split at r
  ·simp only[c9] at r;subst r;exact H 0 _ d
  ·exact H b S r
theorem As4:Qv c8 GX 16 Jl:=by
 intro C hP hG σ I yh yv hI hy args H s ret Hc c W Φ w Vs a2 y hg f Y hc hn;unfold Jl at c;split at c
 ·rename_i z l;obtain⟨h0,c⟩:=C8 c;obtain⟨h1,c⟩:=C8 c;obtain⟨rfl,rfl⟩:=G6 c;obtain⟨S,rfl,Z⟩:=hc.arr1;obtain⟨E,rfl⟩:∃E,l=A6 E:=⟨_,Dw h0⟩
  rw[Cb];have P:Cu C 9=false:=by
   unfold Cu Cfg.sh;rw[hP];kernel_rfl
  refine X4 (fn:=Tryz.f16) (by kernel_rfl) (by kernel_rfl) (by kernel_rfl) ?_;have empty:∀a cap,E=[]->S = .slice a 0 cap->Calls c8 16 #[S] w λe w'=>∃V,e = .returned V/\Y0 C I W [.arr z 9 1 (A6 E)] w Φ (.fl 0) [.arr z 9 1 (A6 (j7 E))] s V w':=by
   rintro a cap rfl rfl;refine(Any.slices_Compact_string_empty Tryz.lays194 a cap w).mono ?_;rintro e w' ⟨rfl,rfl⟩;exact⟨_,rfl,W,Φ,Stp.refl y,y,Z,by simp[PV.nms],f,Y⟩
  cases Z with
  | flv _ e2 U r=>
   simp only[A1,s9,x6,Blk.shp,c9,Shp.arr.injEq] at r;obtain⟨q1,q2,q3,X⟩:=r;rw[C2] at X;exact empty none 0 (o0.1 X) rfl
  | fl _ g z' e2 U n' cap r a1 o h hm Q=>
   simp only[A1,s9,x6,Blk.shp,c9,Shp.arr.injEq] at r;obtain⟨rfl,rfl,rfl,rfl⟩:=r;by_cases d:E=[]
   ·subst d;exact empty _ cap rfl rfl
   have O:¬(z=true/\A6 E=[]):=by
    rintro⟨q1,q2⟩;exact d (o0.1 (by rw[<-C2,q2];rfl))
   obtain⟨g',j,u,A,R,p,t⟩:=y.arr' (b:=0) rfl O;obtain rfl:g=g':=by
    rw[o] at u;exact y5 u
   have G:j.size=cap:=by
    have:=Q;simp only[aa7,A,c9,aa9,true_and,o8] at this;exact this
   have F:=IV A p t;rw[C2] at h ⊢;have hb:=N7 h1;rw[C2] at hb;refine(Any.slices_Compact_string Tryz.lays194 g 0 cap E w F (by omega) h).mono ?_;rintro e w' ⟨rfl,q,rfl⟩;have a0:=Au6 E;have B:(j7 E++ad2 (E.length-(j7 E).length) []).toArray.size=E.length:=by simp;omega
   generalize hD:(j7 E++ad2 (E.length-(j7 E).length) ([]:By)).toArray=D at B ⊢;have v:∀i,i<(j7 E).length->D[i]! = (j7 E)[i]!:=λi f=>by
    rw[<-hD,getElem!_pos ((j7 E++ad2 (E.length-(j7 E).length) ([]:By)).toArray) i (by simp;omega),getElem!_pos (j7 E) i f];simp[List.getElem_append_left f]
   obtain⟨p1,p2⟩:=JT (w:=ac9 w q) (show(ac9 w q).heap[g]? = some (.cells j 9 (0,0)) from A) D;have J:g<w.heap.size:=(ab7.1 A).1;have T:(putRow encStr (ac9 w q) g 0 D).heap.size=w.heap.size:=by simp[putRow,mapBlock]
   have m:((j7 E).map encStr).length=(j7 E).length:=w6 _;have:=Bq9 (C:=C) (w':=putRow encStr (ac9 w q) g 0 D) (l':=A6 (j7 E)) (s:=s) hI g cap ((j7 E).map encStr) (putCells encStr 0 D j) P y f Y o (by rw[T];exact J) (λk L N=>p2 k (λe=>N (e▸o))) (by omega) rfl rfl rfl p1
    ⟨by rw[m,C2,o8],λi x=>by
     have K:i<(j7 E).length:=by rw[C2] at x;exact x
     have n:(A6 (j7 E))[i]=[SV.str (j7 E)[i]]:=by simp[A6]
     refine⟨by rw[n];rfl,λk L=>?_⟩;have M:k=0:=by
      have:k<1:=by rw[n] at L;exact L
      omega
     subst M;refine⟨encStr (j7 E)[i],by rw[o8,ab5,ae5,j0 K];rfl,?_⟩;simp only[n,ac6];have:=VS.str (St:=W.St) (w:=putRow encStr (ac9 w q) g 0 D) ⟨((j7 E)[i]).toArray⟩;simpa using this⟩
    (λe=>Ci3 d (o0.1 (by rw[<-C2,e];rfl)))
    (λi f=>by
     rw[m] at f;rw[XU (by omega) (by omega),v i f,ae5,j0 f,getElem!_pos (j7 E) i f];rfl)
    (by rw[m,Wo];omega) (by rw[C2];omega) hm (by rw[Wo];exact G)
   rw[C2] at this;exact⟨_,rfl,this⟩
 ·cases c
end
section
open Go Go.Proofs
set_option maxRecDepth 100000
section
variable {W R : Type} (L : Nat) (Q : E3) (Y : Yh W) (s : W) (k : Out -> St W -> Option R)
noncomputable def NR(L:Nat):Cfg:=D1 L [24] (A3 []) [(18,LH),(42,Bf7)] (A3 [(8,[2]),(5,[2]),(7,[2]),(6,[1,12]),(4,[1,5,0]),(3,[1,5]),(2,[2]),(1,[1,3]),(0,[1])]) [18,42] (A3 [(0,[1])]) (some [2]) [] [] []
noncomputable def Ax5{R:Type}(L:Nat)(c:Int)(b:By)(d e f g h i j l a:Int)(m:Bool->(List Blk)->Option R):Option R:=cond (A2 b.length) (cond (ltN d 4294967296) (cond (ok8 e f g h i j l a) (cond (not (P2 (mkH c b d (n8 e f g h i j l a)))) (m false [(bH c b d e f g h i j l a)]) (cond (c==2) (vl (HG .u32 d (24:Int)) λn=>m (n==127) [(bH c b d e f g h i j l a)]) (cond (c==3) (m ((e==0)&&((f==0)&&((g==0)&&((h==0)&&((i==0)&&((j==0)&&((l==0)&&((a==1)&&true)))))))) [(bH c b d e f g h i j l a)]) (cond (A2 b.length) (m (Rl ([108,111,99,97,108,104,111,115,116]:List UInt8) b) [(bH c b d e f g h i j l a)]) none)))) none) none) none
theorem Bp4(d:Nat)(h0 h1 h2 h3 h4 h5 h6 h7 h8 h9 h10):evC (NR L) (d+1) W Y 24 [(gH h0 h1 h2 h3 h4 h5 h6 h7 h8 h9 h10)] [] s=Ax5 L h0 h1 h2 h3 h4 h5 h6 h7 h8 h9 h10 (λb a=>some (pB b,a,s)):=by refine(evE (fn:=Tryz.f24) (by kernel_rfl)).trans ?_;generalize evC (NR L) d=Q;unfold Ax5;kernel_rfl
noncomputable abbrev Lm:Code:=E5 af8
noncomputable def U4(L:Nat):Cfg:=D1 L [13] (A3 []) [(23,HP),(12,Nj),(24,At7)] (A3 [(10,[2]),(7,[2]),(9,[2]),(8,[1,10]),(6,[1,5,0]),(5,[1,5,0]),(4,[1,5,0]),(3,[1,5]),(2,[2]),(1,[1,3]),(0,[1])]) [23,12,24] (A3 [(0,[1])]) (some [2]) [] [] []
noncomputable def Eo{R:Type}(h:By)(r:Bool)(o:By)(i:Int)(p:By)(j l m g n b c d e f:Int)(a:By)(q:Bool->(List Blk)->Option R)(t:Bool->By->By->Int->By->Int->Int->Int->Int->Int->Int->Int->Int->Int->Int->By->Option R):Option R:=cond r (q true [(bU h o i p j l m g n b c d e f a)]) (cond (h==[97,98,111,117,116]) (cond (a==[98,108,97,110,107]) (q true [(bU h o i p j l m g n b c d e f a)]) (q (a==[115,114,99,100,111,99]) [(bU h o i p j l m g n b c d e f a)])) (t (h==[97,98,111,117,116]) h o i p j l m g n b c d e f a))
abbrev Yf(b:Code):Prop:=∀(k:Out->St W->Option R) s0 b1 o i p j l m g n a c d e f h,A7 (U4 L) Q Y b ⟨gp [(1,.ptr 0 0 0),(5,pS s0),(0,pB b1)] 21,[(bU s0 o i p j l m g n a c d e f h)],s⟩ k=Eo s0 b1 o i p j l m g n a c d e f h (λq r=>k .ret ⟨gp [(2,pB q)] 27,r,s⟩) (λq t o i p j l m g n a c d e f h=>k .normal ⟨gp [(1,.ptr 0 0 0),(10,pB q)] 17,[(bU t o i p j l m g n a c d e f h)],s⟩)
theorem QQ:Yf (R:=R) L Q Y s (cd [1,1,0,1,0,1] Lm):=by intro k o h p i q j l m f n a b c d e g;unfold Eo;kernel_rfl
noncomputable def Ep{R:Type}(o q:By)(n:Int)(m:By)(h i j e l a b c d f:Int)(g:By)(p:Bool->(List Blk)->Option R):Option R:=cond (E9 o) (cond (A2 m.length) (cond (ltN h 4294967296) (cond (ok8 i j e l a b c d) (p (WX n m h i j e l a b c d) [(bU o q n m h i j e l a b c d f g)]) none) none) none) (p false [(bU o q n m h i j e l a b c d f g)])
abbrev Yg(b:Code):Prop:=∀(k:Out->St W->Option R) a s1 s2 n3 s4 n5 n6 n7 n8v n9 n10 n11 n12 n13 n14 s15,A7 (U4 L) Q Y b ⟨gp [(1,.ptr 0 0 0),(10,pB a)] 17,[(bU s1 s2 n3 s4 n5 n6 n7 n8v n9 n10 n11 n12 n13 n14 s15)],s⟩ k=Ep s1 s2 n3 s4 n5 n6 n7 n8v n9 n10 n11 n12 n13 n14 s15 (λa c=>k .ret ⟨gp [(2,pB a)] 27,c,s⟩)
theorem QR:Yg (R:=R) L Q Y s (cd [1,1,1] Lm):=by intro k h o p i q j l m f n a b c d e g;unfold Ep;kernel_rfl
noncomputable def EV{R:Type}(L:Nat)(f h:By)(u2:Int)(i:By)(j l m n u8 o a b c d:Int)(e:By)(g:Bool->(List Blk)->Option R):Option R:=cond (smU f h i e) (cond (ltN j 4294967296) (cond (ok8 l m n u8 o a b c) (cond (Lc d) (cond (not (Ql (mkU f h u2 i j (n8 l m n u8 o a b c) d e))) (g false [(bU f h u2 i j l m n u8 o a b c d e)]) (cond (f==[104,116,116,112,115]) (Eo f (f==[104,116,116,112,115]) h u2 i j l m n u8 o a b c d e g (λb7 b2 b3 a8 b4 a9 b0 b1 p q r t u v w Z=>Ep b2 b3 a8 b4 a9 b0 b1 p q r t u v w Z g)) (cond (f==[119,115,115]) (Eo f (f==[119,115,115]) h u2 i j l m n u8 o a b c d e g (λb5 a0 a1 x a2 y z A B C D F G H I a3=>Ep a0 a1 x a2 y z A B C D F G H I a3 g)) (Eo f (f==[102,105,108,101]) h u2 i j l m n u8 o a b c d e g (λb6 a4 a5 J a6 K M N O P S T U V X a7=>Ep a4 a5 J a6 K M N O P S T U V X a7 g))))) none) none) none) none
theorem A82(c:Code)(a:Yf (R:=PV × List Blk × W) L Q Y s c)(d:Code)(b:Yg (R:=PV × List Blk × W) L Q Y s d)(j u1:By)(u2:Int)(u3:By)(u4 u5 u6 u7 u8 u9 e f g h:Int)(i:By):A7 (U4 L) Q Y (cd [] (K3 [1,1,1] d (K3 [1,1,0,1,0,1] c Lm))) ⟨[(gU j u1 u2 u3 u4 u5 u6 u7 u8 u9 e f g h i)]++tps 29,[],s⟩ (I6 (U4 L) af8)=EV L j u1 u2 u3 u4 u5 u6 u7 u8 u9 e f g h i (λr0 H1=>some (pB r0,H1,s)):=by unfold EV;exact let K0:=(I6 (U4 L) af8);let K1:=(I1 0 (J0 (U4 L) Q Y d K0));(k9 (by kernel_rfl) (A0 (A0 (A0 (A0 (A0 rfl (A0 ((a K1 j (j==[104,116,116,112,115]) u1 u2 u3 u4 u5 u6 u7 u8 u9 e f g h i).trans (congr (congr rfl (by kernel_rfl)) (fx1 λa6=>(fx1 λb1=>(fx1 λb2=>(fx1 λa7=>(fx1 λb3=>(fx1 λa8=>(fx1 λa9=>(fx1 λb0=>(fx1 λn=>(fx1 λo=>(fx1 λp=>(fx1 λq=>(fx1 λr=>(fx1 λt=>(fx1 λu=>(fx1 λV=>(k9 (by kernel_rfl) ((b K0 a6 b1 b2 a7 b3 a8 a9 b0 n o p q r t u V).trans (by kernel_rfl))))))))))))))))))))) (A0 ((a K1 j (j==[119,115,115]) u1 u2 u3 u4 u5 u6 u7 u8 u9 e f g h i).trans (congr (congr rfl (by kernel_rfl)) (fx1 λl=>(fx1 λX=>(fx1 λZ=>(fx1 λv=>(fx1 λa0=>(fx1 λw=>(fx1 λx=>(fx1 λy=>(fx1 λz=>(fx1 λA=>(fx1 λB=>(fx1 λC=>(fx1 λD=>(fx1 λF=>(fx1 λG=>(fx1 λa1=>(k9 (by kernel_rfl) ((b K0 l X Z v a0 w x y z A B C D F G a1).trans (by kernel_rfl))))))))))))))))))))) ((a K1 j (j==[102,105,108,101]) u1 u2 u3 u4 u5 u6 u7 u8 u9 e f g h i).trans (congr (congr rfl (by kernel_rfl)) (fx1 λm=>(fx1 λa2=>(fx1 λa3=>(fx1 λH=>(fx1 λa4=>(fx1 λI=>(fx1 λJ=>(fx1 λK=>(fx1 λM=>(fx1 λN=>(fx1 λO=>(fx1 λP=>(fx1 λS=>(fx1 λT=>(fx1 λU=>(fx1 λa5=>(k9 (by kernel_rfl) ((b K0 m a2 a3 H a4 I J K M N O P S T U a5).trans (by kernel_rfl)))))))))))))))))))))))) rfl) rfl) rfl) rfl))
theorem A83(d:Nat)(u0 u1 u2 u3 u4 u5 u6 u7 u8 u9 u10 u11 u12 u13 u14):evC (U4 L) (d+1) W Y 13 [(gU u0 u1 u2 u3 u4 u5 u6 u7 u8 u9 u10 u11 u12 u13 u14)] [] s=EV L u0 u1 u2 u3 u4 u5 u6 u7 u8 u9 u10 u11 u12 u13 u14 (λb a=>some (pB b,a,s)):=
 (evE (fn:=af8) (by kernel_rfl)).trans (k9 (by kernel_rfl) (A82 L (evC (U4 L) d) Y s (cd [1,1,0,1,0,1] Lm) (QQ L (evC (U4 L) d) Y s) (cd [1,1,1] Lm) (QR L (evC (U4 L) d) Y s) u0 u1 u2 u3 u4 u5 u6 u7 u8 u9 u10 u11 u12 u13 u14))
end
abbrev Cr8(f:Int->By->Int->Int->Int->Int->Int->Int->Int->Int->Int->(Bool->List Blk->Option (PV × List Blk × Unit))->Option (PV × List Blk × Unit))(k:Int)(j:By)(v4 a b c d e g h i:Int):Prop:=
 A2 j.length=true->ltN v4 4294967296=true->ok8 a b c d e g h i=true->∃r H,f k j v4 a b c d e g h i (λm l=>rv (.s (.bool m)) l)=rv r H/\r.stab [] H = .s (.bool (WX k j v4 a b c d e g h i))
theorem Bp5(a:Int)(j:By)(v4 b c d e f g h i:Int):Cr8 (Ax5 LF) a j v4 b c d e f g h i:=λk l m=>by
 unfold Ax5 WX;rw[k,l,m];cases P2 (mkH a j v4 (n8 b c d e f g h i))<;>cases a==2<;>cases a==3<;>exact⟨_,_,rfl,rfl⟩
theorem A84(a m:By)(n:Int)(b:By)(v4 d e f g h i j k l:Int)(c:By)(o:smU a m b c=true)(q:ltN v4 4294967296=true)(t:ok8 d e f g h i j k=true)(u:Lc l=true) :
  ∃r H,EV LF a m n b v4 d e f g h i j k l c (λv p=>rv (.s (.bool v)) p)=rv r H/\r.stab [] H = .s (.bool (Wz a m n b v4 d e f g h i j k l c)):=by
 obtain⟨x,y,z,A⟩:=AC o;have w:A2 b.length=true:=S9;unfold EV Eo Ep Wz;simp only[o,q,t,u,w,show(a==([104,116,116,112,115]:List UInt8))=(a==Ll) from rfl,show(a==([119,115,115]:List UInt8))=(a==TV) from rfl,show(a==([102,105,108,101]:List UInt8))=(a==Bh4) from rfl,show(a==([97,98,111,117,116]:List UInt8))=(a==Uz) from rfl];cases Ql (mkU a m n b v4 (n8 d e f g h i j k) l c)<;>cases a==Ll<;>cases a==TV<;>cases a==Bh4<;>cases a==Uz<;>cases E9 a<;>cases c==([98,108,97,110,107]:List UInt8)<;>exact⟨_,_,rfl,rfl⟩
section
theorem Cd8:A9 c8 GX 24 At7:=xf [] (NR LF) BC rfl ⟨Ar8,Cn8,trivial⟩ rfl (by kernel_rfl) follows λargs=>by
 unfold BC;split
 ·rename_i i j v4 a b c d e f g h;exact λl=>λm=>λn=>(let⟨q,o,k,p⟩:=Bp5 i j v4 a b c d e f g h l m n;⟨rfl,rfl,rfl,q,o,(Bp4 LF noY () 0 i j v4 a b c d e f g h).trans k,p⟩)
 ·trivial
theorem Bw5:A9 c8 GX 13 BD:=xf [] (U4 LF) Ul rfl ⟨Bf0,AH,Cd8,trivial⟩ rfl (by kernel_rfl) follows λargs=>by
 unfold Ul;split
 ·rename_i m n i j v4 a b c d e f g h k l;exact λp=>λq=>λr=>λt=>(let⟨w,u,o,v⟩:=A84 m n i j v4 a b c d e f g h k l p q r t;⟨rfl,rfl,rfl,w,u,(A83 LF noY () 0 m n i j v4 a b c d e f g h k l).trans o,v⟩)
 ·trivial
end
section
variable {W R : Type} (L : Nat) (Y : E3) (Q : Yh W) (s : W) (k : Out -> St W -> Option R)
noncomputable abbrev Au5:Code:=E5 ah0
noncomputable def Ju(L:Nat):Cfg:=D1 L [30] (A3 [(2,[0,0,2,2,0])]) [] (A3 [(7,[4]),(6,[0,0,5,0]),(5,[4]),(4,[0,0,3,1,0,7]),(3,[0,0,3,1,0]),(2,[0,0,5,0,0]),(1,[0,0,5,0]),(0,[0,0])]) [] (A3 [(0,[]),(1,[0,0,5,0])]) (some [4]) [] [] []
noncomputable def Fx{R:Type}(L n:Nat)(c b:Bool)(d:LL)(h:By)(g a:Int)(e:Int->Option R)(f:Unit->Option R):Option R:=match n with|0=>none|n+1=>cond (ltI a g) (cond (inR a d.length) (cond (okE Jc d (j1 a) 0) (cond (h==(gX d (j1 a) 0)) (e a) (Fx L n c b d h g (A4 (a+1)) e f)) none) none) (f ())
theorem YN(n s_z0 s_t1 s2 v3 n4 n5):G1 0 ((Ju L).keep 2) (bd (Ju L) Y Q (cd [1,0,1,0,0] Au5)) n ⟨gp [(0,.s (.sl s_z0 s_t1 1 s2)),(0,pS v3),(5,pI n4),(0,pI n5)] 10,[],s⟩ k =
 Fx L n s_z0 s_t1 s2 v3 n4 n5 (λn0=>k .ret ⟨gp [(4,pI n0)] 14,[],s⟩) (λ_=>k (.exit 0) ⟨gp [] 19,[],s⟩):=by
 induction n generalizing s_z0 s_t1 s2 v3 n4 n5 with
 | zero=>rfl
 | succ n a=>rw[Fx];simp only[<-a];kernel_rfl
noncomputable def Ay6{R:Type}(L:Nat)(b a:Bool)(d:LL)(e:By)(c:Int->Option R):Option R:=Fx L L b a d e (d.length:Int) 0 c (λ_=>c (-1))
theorem Br9(d:Nat)(s_z0 s_t1 s2 v3):evC (Ju L) (d+1) W Q 30 [.s (.sl s_z0 s_t1 1 s2),pS v3] [] s=Ay6 L s_z0 s_t1 s2 v3 (λa=>some (pI a,[],s)):=by refine(evE (fn:=ah0) (by kernel_rfl)).trans ?_;generalize evC (Ju L) d=Y;unfold Ay6;exact(k9 (by kernel_rfl) ((YN L Y Q s (I1 0 (J0 (Ju L) Y Q (cd [1,1] Au5) (I6 (Ju L) ah0))) L s_z0 s_t1 s2 v3 (s2.length:Int) 0).trans (by kernel_rfl)))
noncomputable def NU(L:Nat):Cfg:=D1 L [19] (A3 []) [(30,At8)] (A3 [(1,[4]),(0,[0,0])]) [30] (A3 []) (some [4]) [] [] []
noncomputable def Ay5{R:Type}(L:Nat)(d c:Bool)(b:LL)(f:By)(e:Bool->Option R):Option R:=cond (o9 b isS) (cond (A2 b.length) (vl (A49 (p9 elS b) f) λa=>e (not (ltI a 0))) none) none
theorem Br7(d:Nat)(s_z0 s_t1 s2 v3):evC (NU L) (d+1) W Q 19 [.s (.sl s_z0 s_t1 1 s2),pS v3] [] s=Ay5 L s_z0 s_t1 s2 v3 (λa=>some (pB a,[],s)):=by refine(evE (fn:=Tryz.f19) (by kernel_rfl)).trans ?_;generalize evC (NU L) d=Y;unfold Ay5;kernel_rfl
noncomputable def Ac2(L:Nat):Cfg:=D1 L [9] (A3 []) [(18,LH),(14,AP),(19,Zp)] (A3 [(1,[4]),(0,[2,0])]) [18,14,19] (A3 []) (some [4]) [] [] [] (nt:=[(29,4,9,1)])
noncomputable def B00{R:Type}(L:Nat)(q r t u j i:Bool)(n:LL)(o:Int)(l:By)(m a b c d e f g h:Int)(v:Bool->(List Blk)->Option R):Option R:=cond (A2 l.length) (cond (ltN m 4294967296) (cond (ok8 a b c d e f g h) (cond (P2 (mkH o l m (n8 a b c d e f g h))) (cond (A2 l.length) (cond (ltN m 4294967296) (cond (ok8 a b c d e f g h) (vl (Fm (mkH o l m (n8 a b c d e f g h))) λp=>cond (o9 n isS) (cond (A2 n.length) (v (N5 (p9 elS n) p) [(bCx q r t u j i n),(bH o l m a b c d e f g h)]) none) none) none) none) none) (v false [(bCx q r t u j i n),(bH o l m a b c d e f g h)])) none) none) none
theorem B01(d:Nat)(c0 c1 c2 c3 c_z4 c_t5 c6 h7 h8 h9 h10 h11 h12 h13 h14 h15 h16 h17):evC (Ac2 L) (d+1) W Q 9 [(gCx c0 c1 c2 c3 c_z4 c_t5 c6),(gH h7 h8 h9 h10 h11 h12 h13 h14 h15 h16 h17)] [] s=B00 L c0 c1 c2 c3 c_z4 c_t5 c6 h7 h8 h9 h10 h11 h12 h13 h14 h15 h16 h17 (λb a=>some (pB b,a,s)):=by refine(evE (fn:=Tryz.f9) (by kernel_rfl)).trans ?_;generalize evC (Ac2 L) d=Y;unfold B00;kernel_rfl
end
theorem Ap3{R:Type}(z t:Bool)(l:List By)(v:By)(a:Int->Option R)(b:Unit->Option R)(k:l.length<=1000000000):∀(r i m:Nat),i+r=l.length->r<m->
  Fx LF m z t (A6 l) v (l.length:Int) (i:Int) a b=match (l.drop i).findIdx? (· == v) with|some j=>a ((i+j:Nat):Int)|none=>b ():=by
 intro r
 induction r with
 | zero=>
  intro i m e f;obtain⟨m,rfl⟩:∃q,m=q+1:=⟨m-1,by omega⟩
  rw[Fx,A8,o5 (by omega)];rfl
 | succ r g=>
  intro i m e f;obtain⟨m,rfl⟩:∃q,m=q+1:=⟨m-1,by omega⟩
  have c:A4 ((i:Int)+1)=((i+1:Nat):Int):=by rw[C0];rfl
  have d:l.drop i=l.getD i []::l.drop (i+1):=by
   rw[j5,j0 (by omega),ac4,ac5]
  rw[Fx,C7,O8 (by omega) (by rw[C2];omega),o6,R0 (by omega),W3,c,d,List.findIdx?_cons];simp only[cond_true];by_cases h:l.getD i []=v
  ·rw[h,beq_self_eq_true];simp
  ·rw[show(v==l.getD i [])=false by simpa using λq=>h q.symm,show(l.getD i []==v)=false by simpa using h,cond_false,g (i+1) m (by omega) (by omega)];cases (l.drop (i+1)).findIdx? (· == v) with
   | none=>rfl
   | some j=>simp[Nat.add_assoc,Nat.add_comm 1 j]
theorem Ap4{R:Type}{b:Int->Option R}(z t:Bool)(l:LL)(v:By)(c:l.all isS=true)(d:A2 l.length=true):Ay6 LF z t l v b=b (A49 (l.map elS) v):=by
 have f:=G3;have a:=N7 d;rw[Dw c] at a ⊢;generalize l.map elS=q at a ⊢;rw[C2] at a;have e:p9 elS (A6 q)=q:=by
  unfold A6;rw[ae6];exact ad9 (λ_=>rfl) q
 unfold Ay6 A49;rw[C2,e];refine(Ap3 z t q v _ _ a q.length 0 LF (by omega) (by omega)).trans ?_;rw[w9];cases q.findIdx? (· == v) with
 | none=>rfl
 | some j=>
  show b ((0+j:Nat):Int)=b (j:Int);rw[aa6]
theorem B49(l:List By)(v:By):(!ltI (A49 l v) 0)=N5 l v:=by
 unfold A49 N5;cases h:l.findIdx? (· == v) with
 | none=>
  rw[List.findIdx?_eq_none_iff] at h;show(!ltI (-1) 0)=_;rw[C7];exact(List.any_eq_false.2 λx c=>by rw[h x c];simp).symm
 | some j=>
  show(!ltI (j:Int) 0)=_;rw[A8];exact(ae8.2 (by
   obtain⟨a,b,_⟩:=List.findIdx?_eq_some_iff_getElem.1 h;exact⟨_,aa8 a,b⟩)).symm
theorem Ao9{R:Type}{a:Bool->Option R}(z t:Bool)(l:LL)(v:By)(b:l.all isS=true)(c:A2 l.length=true):Ay5 LF z t l v a=a (N5 (l.map elS) v):=by unfold Ay5;rw[b,c,<-B49];rfl
theorem B02(x v up m z t:Bool)(l:LL)(j:Int)(i:By)(v4 a b c d e f g h:Int)(n:l.all isS=true)(o:A2 l.length=true)(p:A2 i.length=true)(q:ltN v4 4294967296=true)(u:ok8 a b c d e f g h=true) :
  ∃r H,B00 LF x v up m z t l j i v4 a b c d e f g h (λw k=>rv (.s (.bool w)) k)=rv r H/\r.stab [] H = .s (.bool (Ck2 (l.map elS) (mkH j i v4 (n8 a b c d e f g h)))):=by
 unfold B00 Ck2;rw[n,o,p,q,u];cases P2 (mkH j i v4 (n8 a b c d e f g h))<;>exact⟨_,_,rfl,rfl⟩
section
theorem Ce0:A9 c8 GX 30 At8:=xf [] (Ju LF) BM rfl trivial rfl (by kernel_rfl) follows λargs=>by
 unfold BM;split
 ·rename_i b a l s;exact λc=>λd=>⟨rfl,rfl,rfl,_,_,(Br9 LF noY () 0 b a l s).trans (Ap4 b a l s c d),rfl⟩
 ·trivial
theorem Az9:A9 c8 GX 19 Zp:=xf [] (NU LF) BK rfl ⟨Ce0,trivial⟩ rfl (by kernel_rfl) follows λargs=>by
 unfold BK;split
 ·rename_i b a l s;exact λc=>λd=>⟨rfl,rfl,rfl,_,_,(Br7 LF noY () 0 b a l s).trans (Ao9 b a l s c d),rfl⟩
 ·trivial
theorem Cn5:A9 c8 GX 9 ZR:=xf [] (Ac2 LF) KP rfl ⟨Ar8,Ar7,Az9,trivial⟩ rfl (by kernel_rfl) follows λargs=>by
 unfold KP;split
 ·rename_i p o up k b a l m n v4 c d e f g h i j;exact λr=>λt=>λu=>λv=>λw=>(let⟨z,x,q,y⟩:=B02 p o up k b a l m n v4 c d e f g h i j r t u v w;⟨rfl,rfl,rfl,z,x,(B01 LF noY () 0 p o up k b a l m n v4 c d e f g h i j).trans q,y⟩)
 ·trivial
end
section
theorem Co2:A9 c8 GX 104 Bg2:=xf [] (Ad1 LF) LK rfl trivial rfl (by kernel_rfl) follows λargs=>by
 unfold LK;split
 ·rename_i c;exact⟨rfl,rfl,rfl,_,_,(B53 LF noY () 0 c).trans (A54 c ),rfl⟩
 ·trivial
theorem Cd1:A9 c8 GX 72 At1:=xf [] (NL LF) AT rfl ⟨Co2,trivial⟩ rfl (by kernel_rfl) follows λargs=>by
 unfold AT;split
 ·rename_i c;exact⟨rfl,rfl,rfl,_,_,(Bn1 LF noY () 0 c).trans (Ah6 c ),rfl⟩
 ·trivial
theorem Bw2:A9 c8 GX 17 TF:=xf [] (Fc LF) Uk rfl trivial rfl (by kernel_rfl) follows λargs=>by
 unfold Uk;split
 ·rename_i d c a f e b;exact λg=>λh=>λi=>λj=>⟨rfl,rfl,rfl,_,_,(A61 LF noY () 0 d c a f e b).trans (WR d c a f e b g h i j),rfl⟩
 ·trivial
theorem Co4:A9 c8 GX 4 ZX:=xf [] (Pj LF) LQ rfl ⟨Bw1,trivial⟩ rfl (by kernel_rfl) follows λargs=>by
 unfold LQ;split
 ·rename_i b a l;exact λc=>⟨rfl,rfl,rfl,_,_,(B59 LF noY () 0 b a l).trans (A60 b a l c),rfl⟩
 ·trivial
theorem Ce3:A9 c8 GX 40 MW:=xf [1] (T9 LF) BU rfl ⟨Cd1,trivial⟩ rfl (by kernel_rfl) follows λargs=>by
 unfold BU;split
 ·rename_i s;exact λb=>(let⟨e,c,a,d⟩:=Bv1 s b;⟨rfl,rfl,rfl,e,c,(Bu9 LF noY () 0 s).trans a,d⟩)
 ·trivial
theorem Co3:A9 c8 GX 7 ZW:=xf [] (Ad2 LF) LP rfl ⟨Bw2,trivial⟩ rfl (by kernel_rfl) follows λargs=>by
 unfold LP;split
 ·rename_i k j up i c b l g f h a e d m;exact λo=>λp=>λq=>λr=>(let⟨v,t,n,u⟩:=B56 k j up i c b l g f h a e d m o p q r;⟨rfl,rfl,rfl,v,t,(B55 LF noY () 0 k j up i c b l g f h a e d m).trans n,u⟩)
 ·trivial
theorem Cn4:A9 c8 GX 21 ZQ:=by
 refine A9.fix (pf:=KO) _ (W6 (C₀:=Ac1 LF) (J6.ok (l:=[]) rfl trivial) (F8 rfl (by kernel_rfl)) follows ?_);intro args ret a h;unfold KO at h;split at h
 ·rename_i t;obtain⟨rfl,rfl⟩:=G6 h;have e:=(Bz8 LF noY () 0 t).trans (A14 t );exact⟨rfl,1,_,[],e,rfl,rfl⟩
 ·cases h
end
theorem Ce6:SY c8 GX 38 Zm:=by
 refine Yp (C₀:=R6 LF) (Kq (lx:=[(39,BL),(40,MW),(33,AX)]) (ly:=[]) (ls:=[(101,Ni)]) rfl rfl rfl ⟨Bx4,Ce3,Ar9,trivial⟩ trivial ⟨A03,trivial⟩) (F8 rfl (by kernel_rfl)) follows ?_;intro args H L h e a s d c;unfold Zm at h;split at h
 ·rename_i t;simp only[c9,aa9] at h;obtain⟨b,rfl⟩:=h;exact⟨1,_,(Bj1 LF a 0 t s).trans (Ae2 a t s d b c _)⟩
 ·cases h
theorem Bv4:A9 c8 GX 11 AK:=by
 refine A9.fix (pf:=Ue) _ (G9 [0,0] (C₀:=M0 LF) (Kq (lx:=[(21,ZQ),(19,Zp)]) (ly:=[]) (ls:=[(38,Zm)]) rfl rfl rfl ⟨Cn4,Az9,trivial⟩ trivial ⟨Ce6,trivial⟩) (F8 rfl (by kernel_rfl)) follows ?_);intro args ret j h;unfold Ue at h;split at h
 ·rename_i b a l;obtain⟨d,h⟩:=C8 h;obtain⟨e,h⟩:=C8 h;obtain⟨rfl,rfl⟩:=G6 h;obtain⟨i,f,c,g⟩:=A20 b a l d e;exact⟨rfl,rfl,rfl,1,i,f,(A19 LF noY () 0 b a l).trans c,g⟩
 ·cases h
theorem ZK:A9 c8 GX 6 Lg:=by
 refine A9.fix (pf:=Ud) _ (HL (C₀:=H3 LF) (Ct2 (lx:=[(10,BO),(11,AK),(12,Nj),(13,BD),(14,AP)]) (ly:=[(16,Jl)]) (ls:=[]) (lz:=[(15,Qt)]) rfl rfl rfl rfl ⟨Bx6,Bv4,AH,Bw5,Ar7,trivial⟩ ⟨As4,trivial⟩ trivial ⟨By8,trivial⟩) (F8 rfl (by kernel_rfl)) follows ?_);intro args ret o h;unfold Ud at h;split at h
 ·rename_i b a l;obtain⟨d,h⟩:=C8 h;obtain⟨e,h⟩:=C8 h;obtain⟨f,h⟩:=C8 h;obtain⟨rfl,rfl⟩:=G6 h;obtain⟨n,g,i,c,j,k,m⟩:=A13 b a l d e f;exact⟨rfl,1,n,g,i,(A12 LF noY () 0 b a l).trans c,j,k,m⟩
 ·cases h
section
variable {L R : Type} (Y : Nat) (Q : E3) (W : Yh L) (s : L) (k : Out -> St L -> Option R)
noncomputable def ID(Y:Nat):Cfg:=D1 Y [5] (A3 []) [(6,Lg),(9,ZR)]
 (A3 [(3,[0]),(2,[1,0,0,0]),(1,[1,0]),(0,[])]) [9] (A3 []) (some [0]) [] [] [] (nt:=[(29,4,9,1)]) (sb:=[23])
end
theorem TU:AA (evC (ID LF) 1 Unit noY 5 [] [] ())=true:=by kernel_rfl
theorem Be6:A9 c8 GX 5 Uc:=
 A9.fix (pf:=Ow) _ (by
  have h:=As3 (C₀:=ID LF) (J6.ok (l:=[(6,Lg),(9,ZR)]) rfl ⟨ZK,Cn5,trivial⟩) (F8 rfl (by kernel_rfl)) follows TU;have e:(λargs:List PV=>match args with|[]=>Tr.ret (.s (.bool true)) []|_=>.fail)=Ow:=by
   funext args
   cases args<;>rfl
  rw[<-e];exact h)
end
section
open Go Go.ChangeAt Go.ChangeShapes Go.Proofs Go.RowKit Go.WideShapes
set_option maxRecDepth 100000
section
theorem Ai5(os:Os)(a:os.Started)(H:Type)(enc:TypeId × Value->H) :
  ReturnsInHanded {} Tryz.checked os 3 .any (λw args=>(Rows.contextNestingSpec.pre enc c8 ac0 Rows.contextNestingRow.domain false w args/\laidMetH c8 Da w)/\sizedMet enc c8 ac0 (OpenSpec.ofChange Rows.contextNestingSpec) false w args) (Rows.contextNestingSpec.post enc c8 ac0 false true false false):=
 Ai3 a (C:=Fd LF) (tb:=4) rfl rfl (J6.ok (l:=[(4,ZX),(5,Uc),(6,Lg),(7,ZW)]) rfl ⟨Co4,Be6,ZK,Co3,trivial⟩) (F8 rfl (by kernel_rfl)) (by kernel_rfl) af9 (c:=E5 ac0) rfl (by kernel_rfl)
  (by
   intro t d;have:t=22\/t=25:=by simpa only[ae0,List.mem_nil_iff,or_false] using(show t∈[22,25] from d)
   rcases this with rfl|rfl
   all_goals exact⟨⟨by kernel_rfl,of_decide_eq_true (by kernel_rfl)⟩,by kernel_rfl⟩) rfl (by kernel_rfl) rfl
  (λds b=>by
   match ds,b with
   | [e,f],_=>rfl)
  #[(.slice none 0 0),(.agg #[(.string ⟨#[]⟩),(.slice none 0 0)])] 8 (by kernel_rfl) (by kernel_rfl) (by kernel_rfl)
  (λargs h=>B64 args h)
set_option maxHeartbeats 4000000 in theorem A64:Rows.ContextNestingSaid:=
 OpenClaim.holds_of_wide 3 ac0 rfl rfl rfl rfl rfl rfl rfl ⟨rfl,rfl,rfl,rfl,rfl⟩ rfl rfl rfl rfl rfl (by kernel_rfl) af9 (by unfold joinedFacts;simp only[j8];(repeat' apply And.intro)<;>as_aux_lemma=>kernel_rfl)
  (of_decide_eq_true (by as_aux_lemma=>kernel_rfl)) (by unfold Func.isWrapper;first|(rw[if_pos (by decide +kernel)];kernel_rfl)|(rw[if_neg (by decide +kernel)];exact⟨rfl,rfl⟩))
  (λos a H enc _=>Ai5 os a H enc)
theorem lce_card:Rows.ContextNestingCardSaid:=
 Claim7.holds_tied_plain_at .later [] [.data,.data,.data,.data,.pinned] true (true, "9f028ace915469b9d2835c8e0f0b4e4df023989366ed800fc0cbd4fa4610db18") false A64 (λ_ h=>by cases h) (by as_aux_lemma=>kernel_rfl) (λ_ h=>by cases h) contextNesting_row_tie rfl ⟨rfl,rfl⟩ (by as_aux_lemma=>kernel_rfl) rfl
  (λf fn c b=>by
   obtain rfl:f=3:=y5 ((show c8.funcNamed "hstsstore/hstsstorelaw28.ContextNesting" = some 3 by as_aux_lemma=>kernel_rfl).symm.trans c) |>.symm
   obtain rfl:fn=ac0:=(y5 (af9.symm.trans b)).symm;exact⟨by as_aux_lemma=>kernel_rfl,λj t e=>by
    have d:t∈[22,25]:=Array.mem_toList_iff.2 (Array.mem_of_getElem? e);have a:([22,25].all λu=>!c8.wantsStandIn u)=true:=by as_aux_lemma=>kernel_rfl
    exact(show c8.wantsStandIn t=false by simpa using s8.1 a t d)⟩)
  (by as_aux_lemma=>kernel_rfl)
end
end
#print axioms lce_card
end Go.Proofs.YtiodfnbjmmdlmaaGreatDoor.E
